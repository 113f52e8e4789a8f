/-
  No cell of these rows narrows 'for every input' (looked for: loops, veiled, ifaces, maps, wideKeys, modest, calm, conditions, laid).
  DERIVED. THE GIVEN ROWS OF THIS SEAT. 20 by the template 'for every input the law returns true; each argument reads behind the call as it read before'; 0 by the template 'total and deterministic' (their statements: YtgiefjbdkkdaiaaTotals.lean).
  GIVEN WITH THE SEED: the statements are not yours to turn. If you find one false, say at which input.
  Laid BY PROGRAM, IN A SANDBOX (cutbox-rows.mjs): the forced cells as the released guide's own fill.sh prints them over the translation e727bb9231a73f8a… (all of the seat's roots in one cut). By AI agents, Wed Nov 11 2026. No macro, syntax, notation, axiom, sorry.
-/
import Derived.Test.YtgiefjbdkkdaiaaChecked
import GoSem.Claim
import GoSem.ClaimJoined
import GoSem.ClaimMapViews
import Derived.JoinedTies
import Derived.KernelRfl
namespace Go.Proofs.Ytgiefjbdkkdaiaa
/- THE CELL 'sum', in the pinned program and in every row, IS THE sha256 OF THE DUMP (.gsa) THAT YtgiefjbdkkdaiaaProg.lean LOADS. Nothing in Lean hashes anything: it is a label: what it is worth is what the hold of that sum in a sandbox is worth. -/
noncomputable def Try.pinned : Pinned := { name := "ytgiefjbdkkdaiaa", sum := "e727bb9231a73f8a6697b65060542aa6f12ed47d03ad503f63f17448b37f55e1", checked := Try.checked }
namespace Rows
def none {H : Type} : Left H := { results := [], args := [] }

/-- 'theseuslaw01.NumBack': WHATEVER THE INPUT: true; the input reads as it did. -/
def numBackSpec : ChangeSpec := { name := "numBack", fn := fun _ => fun
  | [d1, d2, d3] => { results := [.lit (.bool true)], args := [d1, d2, d3] }
  | _ => none }
def numBackRow : OpenClaim := { program := "ytgiefjbdkkdaiaa", sum := "e727bb9231a73f8a6697b65060542aa6f12ed47d03ad503f63f17448b37f55e1", func := "theseus/theseuslaw01.NumBack", spec := "numBack", apart := false }
def NumBackSaid : Prop := numBackRow.holds Try.pinned (OpenSpec.ofChange numBackSpec)

/-- ITS FALSE NEIGHBOUR: 'it returns false'. Refute it at one input. -/
def numBackWrong : ChangeSpec := { name := "numBack", fn := fun _ => fun
  | [d1, d2, d3] => { results := [.lit (.bool false)], args := [d1, d2, d3] }
  | _ => none }
def NumBackWrongFalsely : Prop := numBackRow.holds Try.pinned (OpenSpec.ofChange numBackWrong)

/-- 'theseuslaw01.NumOrder': WHATEVER THE INPUT: true; the input reads as it did. -/
def numOrderSpec : ChangeSpec := { name := "numOrder", fn := fun _ => fun
  | [d1, d2, d3] => { results := [.lit (.bool true)], args := [d1, d2, d3] }
  | _ => none }
def numOrderRow : OpenClaim := { program := "ytgiefjbdkkdaiaa", sum := "e727bb9231a73f8a6697b65060542aa6f12ed47d03ad503f63f17448b37f55e1", func := "theseus/theseuslaw01.NumOrder", spec := "numOrder", apart := false }
def NumOrderSaid : Prop := numOrderRow.holds Try.pinned (OpenSpec.ofChange numOrderSpec)

/-- ITS FALSE NEIGHBOUR: 'it returns false'. Refute it at one input. -/
def numOrderWrong : ChangeSpec := { name := "numOrder", fn := fun _ => fun
  | [d1, d2, d3] => { results := [.lit (.bool false)], args := [d1, d2, d3] }
  | _ => none }
def NumOrderWrongFalsely : Prop := numOrderRow.holds Try.pinned (OpenSpec.ofChange numOrderWrong)

/-- 'theseuslaw01.NumSplit': WHATEVER THE INPUT: true; the input reads as it did. -/
def numSplitSpec : ChangeSpec := { name := "numSplit", fn := fun _ => fun
  | [d1, d2] => { results := [.lit (.bool true)], args := [d1, d2] }
  | _ => none }
def numSplitRow : OpenClaim := { program := "ytgiefjbdkkdaiaa", sum := "e727bb9231a73f8a6697b65060542aa6f12ed47d03ad503f63f17448b37f55e1", func := "theseus/theseuslaw01.NumSplit", spec := "numSplit", apart := false }
def NumSplitSaid : Prop := numSplitRow.holds Try.pinned (OpenSpec.ofChange numSplitSpec)

/-- ITS FALSE NEIGHBOUR: 'it returns false'. Refute it at one input. -/
def numSplitWrong : ChangeSpec := { name := "numSplit", fn := fun _ => fun
  | [d1, d2] => { results := [.lit (.bool false)], args := [d1, d2] }
  | _ => none }
def NumSplitWrongFalsely : Prop := numSplitRow.holds Try.pinned (OpenSpec.ofChange numSplitWrong)

/-- 'theseuslaw01.NumAll': WHATEVER THE INPUT: true; the input reads as it did. -/
def numAllSpec : ChangeSpec := { name := "numAll", fn := fun _ => fun
  | [d1, d2, d3] => { results := [.lit (.bool true)], args := [d1, d2, d3] }
  | _ => none }
def numAllRow : OpenClaim := { program := "ytgiefjbdkkdaiaa", sum := "e727bb9231a73f8a6697b65060542aa6f12ed47d03ad503f63f17448b37f55e1", func := "theseus/theseuslaw01.NumAll", spec := "numAll", apart := false }
def NumAllSaid : Prop := numAllRow.holds Try.pinned (OpenSpec.ofChange numAllSpec)

/-- ITS FALSE NEIGHBOUR: 'it returns false'. Refute it at one input. -/
def numAllWrong : ChangeSpec := { name := "numAll", fn := fun _ => fun
  | [d1, d2, d3] => { results := [.lit (.bool false)], args := [d1, d2, d3] }
  | _ => none }
def NumAllWrongFalsely : Prop := numAllRow.holds Try.pinned (OpenSpec.ofChange numAllWrong)

/-- 'theseuslaw01.NumTaken': WHATEVER THE INPUT: true; the input reads as it did. -/
def numTakenSpec : ChangeSpec := { name := "numTaken", fn := fun _ => fun
  | [d1, d2] => { results := [.lit (.bool true)], args := [d1, d2] }
  | _ => none }
def numTakenRow : OpenClaim := { program := "ytgiefjbdkkdaiaa", sum := "e727bb9231a73f8a6697b65060542aa6f12ed47d03ad503f63f17448b37f55e1", func := "theseus/theseuslaw01.NumTaken", spec := "numTaken", apart := false }
def NumTakenSaid : Prop := numTakenRow.holds Try.pinned (OpenSpec.ofChange numTakenSpec)

/-- ITS FALSE NEIGHBOUR: 'it returns false'. Refute it at one input. -/
def numTakenWrong : ChangeSpec := { name := "numTaken", fn := fun _ => fun
  | [d1, d2] => { results := [.lit (.bool false)], args := [d1, d2] }
  | _ => none }
def NumTakenWrongFalsely : Prop := numTakenRow.holds Try.pinned (OpenSpec.ofChange numTakenWrong)

/-- 'theseuslaw01.NumRows': WHATEVER THE INPUT: true; the input reads as it did. -/
def numRowsSpec : ChangeSpec := { name := "numRows", fn := fun _ => fun
  | [d1, d2, d3] => { results := [.lit (.bool true)], args := [d1, d2, d3] }
  | _ => none }
def numRowsRow : OpenClaim := { program := "ytgiefjbdkkdaiaa", sum := "e727bb9231a73f8a6697b65060542aa6f12ed47d03ad503f63f17448b37f55e1", func := "theseus/theseuslaw01.NumRows", spec := "numRows", apart := false }
def NumRowsSaid : Prop := numRowsRow.holds Try.pinned (OpenSpec.ofChange numRowsSpec)

/-- ITS FALSE NEIGHBOUR: 'it returns false'. Refute it at one input. -/
def numRowsWrong : ChangeSpec := { name := "numRows", fn := fun _ => fun
  | [d1, d2, d3] => { results := [.lit (.bool false)], args := [d1, d2, d3] }
  | _ => none }
def NumRowsWrongFalsely : Prop := numRowsRow.holds Try.pinned (OpenSpec.ofChange numRowsWrong)

/-- 'theseuslaw02.GroupAll': WHATEVER THE INPUT: true; the input reads as it did. -/
def groupAllSpec : ChangeSpec := { name := "groupAll", fn := fun _ => fun
  | [d1, d2] => { results := [.lit (.bool true)], args := [d1, d2] }
  | _ => none }
def groupAllRow : OpenClaim := { program := "ytgiefjbdkkdaiaa", sum := "e727bb9231a73f8a6697b65060542aa6f12ed47d03ad503f63f17448b37f55e1", func := "theseus/theseuslaw02.GroupAll", spec := "groupAll", apart := false }
def GroupAllSaid : Prop := groupAllRow.holds Try.pinned (OpenSpec.ofChange groupAllSpec)

/-- ITS FALSE NEIGHBOUR: 'it returns false'. Refute it at one input. -/
def groupAllWrong : ChangeSpec := { name := "groupAll", fn := fun _ => fun
  | [d1, d2] => { results := [.lit (.bool false)], args := [d1, d2] }
  | _ => none }
def GroupAllWrongFalsely : Prop := groupAllRow.holds Try.pinned (OpenSpec.ofChange groupAllWrong)

/-- 'theseuslaw02.GroupBack': WHATEVER THE INPUT: true; the input reads as it did. -/
def groupBackSpec : ChangeSpec := { name := "groupBack", fn := fun _ => fun
  | [d1, d2] => { results := [.lit (.bool true)], args := [d1, d2] }
  | _ => none }
def groupBackRow : OpenClaim := { program := "ytgiefjbdkkdaiaa", sum := "e727bb9231a73f8a6697b65060542aa6f12ed47d03ad503f63f17448b37f55e1", func := "theseus/theseuslaw02.GroupBack", spec := "groupBack", apart := false }
def GroupBackSaid : Prop := groupBackRow.holds Try.pinned (OpenSpec.ofChange groupBackSpec)

/-- ITS FALSE NEIGHBOUR: 'it returns false'. Refute it at one input. -/
def groupBackWrong : ChangeSpec := { name := "groupBack", fn := fun _ => fun
  | [d1, d2] => { results := [.lit (.bool false)], args := [d1, d2] }
  | _ => none }
def GroupBackWrongFalsely : Prop := groupBackRow.holds Try.pinned (OpenSpec.ofChange groupBackWrong)

/-- 'theseuslaw02.GroupTaken': WHATEVER THE INPUT: true; the input reads as it did. -/
def groupTakenSpec : ChangeSpec := { name := "groupTaken", fn := fun _ => fun
  | [d] => { results := [.lit (.bool true)], args := [d] }
  | _ => none }
def groupTakenRow : OpenClaim := { program := "ytgiefjbdkkdaiaa", sum := "e727bb9231a73f8a6697b65060542aa6f12ed47d03ad503f63f17448b37f55e1", func := "theseus/theseuslaw02.GroupTaken", spec := "groupTaken", apart := false }
def GroupTakenSaid : Prop := groupTakenRow.holds Try.pinned (OpenSpec.ofChange groupTakenSpec)

/-- ITS FALSE NEIGHBOUR: 'it returns false'. Refute it at one input. -/
def groupTakenWrong : ChangeSpec := { name := "groupTaken", fn := fun _ => fun
  | [d] => { results := [.lit (.bool false)], args := [d] }
  | _ => none }
def GroupTakenWrongFalsely : Prop := groupTakenRow.holds Try.pinned (OpenSpec.ofChange groupTakenWrong)

/-- 'theseuslaw02.GroupOrder': WHATEVER THE INPUT: true; the input reads as it did. -/
def groupOrderSpec : ChangeSpec := { name := "groupOrder", fn := fun _ => fun
  | [d1, d2, d3] => { results := [.lit (.bool true)], args := [d1, d2, d3] }
  | _ => none }
def groupOrderRow : OpenClaim := { program := "ytgiefjbdkkdaiaa", sum := "e727bb9231a73f8a6697b65060542aa6f12ed47d03ad503f63f17448b37f55e1", func := "theseus/theseuslaw02.GroupOrder", spec := "groupOrder", apart := false }
def GroupOrderSaid : Prop := groupOrderRow.holds Try.pinned (OpenSpec.ofChange groupOrderSpec)

/-- ITS FALSE NEIGHBOUR: 'it returns false'. Refute it at one input. -/
def groupOrderWrong : ChangeSpec := { name := "groupOrder", fn := fun _ => fun
  | [d1, d2, d3] => { results := [.lit (.bool false)], args := [d1, d2, d3] }
  | _ => none }
def GroupOrderWrongFalsely : Prop := groupOrderRow.holds Try.pinned (OpenSpec.ofChange groupOrderWrong)

/-- 'theseuslaw02.GroupRow': WHATEVER THE INPUT: true; the input reads as it did. -/
def groupRowSpec : ChangeSpec := { name := "groupRow", fn := fun _ => fun
  | [d] => { results := [.lit (.bool true)], args := [d] }
  | _ => none }
def groupRowRow : OpenClaim := { program := "ytgiefjbdkkdaiaa", sum := "e727bb9231a73f8a6697b65060542aa6f12ed47d03ad503f63f17448b37f55e1", func := "theseus/theseuslaw02.GroupRow", spec := "groupRow", apart := false }
def GroupRowSaid : Prop := groupRowRow.holds Try.pinned (OpenSpec.ofChange groupRowSpec)

/-- ITS FALSE NEIGHBOUR: 'it returns false'. Refute it at one input. -/
def groupRowWrong : ChangeSpec := { name := "groupRow", fn := fun _ => fun
  | [d] => { results := [.lit (.bool false)], args := [d] }
  | _ => none }
def GroupRowWrongFalsely : Prop := groupRowRow.holds Try.pinned (OpenSpec.ofChange groupRowWrong)

/-- 'theseuslaw02.GroupBits': WHATEVER THE INPUT: true; the input reads as it did. -/
def groupBitsSpec : ChangeSpec := { name := "groupBits", fn := fun _ => fun
  | [d] => { results := [.lit (.bool true)], args := [d] }
  | _ => none }
def groupBitsRow : OpenClaim := { program := "ytgiefjbdkkdaiaa", sum := "e727bb9231a73f8a6697b65060542aa6f12ed47d03ad503f63f17448b37f55e1", func := "theseus/theseuslaw02.GroupBits", spec := "groupBits", apart := false }
def GroupBitsSaid : Prop := groupBitsRow.holds Try.pinned (OpenSpec.ofChange groupBitsSpec)

/-- ITS FALSE NEIGHBOUR: 'it returns false'. Refute it at one input. -/
def groupBitsWrong : ChangeSpec := { name := "groupBits", fn := fun _ => fun
  | [d] => { results := [.lit (.bool false)], args := [d] }
  | _ => none }
def GroupBitsWrongFalsely : Prop := groupBitsRow.holds Try.pinned (OpenSpec.ofChange groupBitsWrong)

/-- 'theseuslaw02.GroupFree': WHATEVER THE INPUT: true; the input reads as it did. -/
def groupFreeSpec : ChangeSpec := { name := "groupFree", fn := fun _ => fun
  | [d1, d2] => { results := [.lit (.bool true)], args := [d1, d2] }
  | _ => none }
def groupFreeRow : OpenClaim := { program := "ytgiefjbdkkdaiaa", sum := "e727bb9231a73f8a6697b65060542aa6f12ed47d03ad503f63f17448b37f55e1", func := "theseus/theseuslaw02.GroupFree", spec := "groupFree", apart := false }
def GroupFreeSaid : Prop := groupFreeRow.holds Try.pinned (OpenSpec.ofChange groupFreeSpec)

/-- ITS FALSE NEIGHBOUR: 'it returns false'. Refute it at one input. -/
def groupFreeWrong : ChangeSpec := { name := "groupFree", fn := fun _ => fun
  | [d1, d2] => { results := [.lit (.bool false)], args := [d1, d2] }
  | _ => none }
def GroupFreeWrongFalsely : Prop := groupFreeRow.holds Try.pinned (OpenSpec.ofChange groupFreeWrong)

/-- 'theseuslaw04.FrameNest': WHATEVER THE INPUT: true; the input reads as it did. -/
def frameNestSpec : ChangeSpec := { name := "frameNest", fn := fun _ => fun
  | [d1, d2, d3] => { results := [.lit (.bool true)], args := [d1, d2, d3] }
  | _ => none }
def frameNestRow : OpenClaim := { program := "ytgiefjbdkkdaiaa", sum := "e727bb9231a73f8a6697b65060542aa6f12ed47d03ad503f63f17448b37f55e1", func := "theseus/theseuslaw04.FrameNest", spec := "frameNest", apart := false }
def FrameNestSaid : Prop := frameNestRow.holds Try.pinned (OpenSpec.ofChange frameNestSpec)

/-- ITS FALSE NEIGHBOUR: 'it returns false'. Refute it at one input. -/
def frameNestWrong : ChangeSpec := { name := "frameNest", fn := fun _ => fun
  | [d1, d2, d3] => { results := [.lit (.bool false)], args := [d1, d2, d3] }
  | _ => none }
def FrameNestWrongFalsely : Prop := frameNestRow.holds Try.pinned (OpenSpec.ofChange frameNestWrong)

/-- 'theseuslaw04.FrameUnlike': WHATEVER THE INPUT: true; the input reads as it did. -/
def frameUnlikeSpec : ChangeSpec := { name := "frameUnlike", fn := fun _ => fun
  | [d1, d2, d3] => { results := [.lit (.bool true)], args := [d1, d2, d3] }
  | _ => none }
def frameUnlikeRow : OpenClaim := { program := "ytgiefjbdkkdaiaa", sum := "e727bb9231a73f8a6697b65060542aa6f12ed47d03ad503f63f17448b37f55e1", func := "theseus/theseuslaw04.FrameUnlike", spec := "frameUnlike", apart := false }
def FrameUnlikeSaid : Prop := frameUnlikeRow.holds Try.pinned (OpenSpec.ofChange frameUnlikeSpec)

/-- ITS FALSE NEIGHBOUR: 'it returns false'. Refute it at one input. -/
def frameUnlikeWrong : ChangeSpec := { name := "frameUnlike", fn := fun _ => fun
  | [d1, d2, d3] => { results := [.lit (.bool false)], args := [d1, d2, d3] }
  | _ => none }
def FrameUnlikeWrongFalsely : Prop := frameUnlikeRow.holds Try.pinned (OpenSpec.ofChange frameUnlikeWrong)

/-- 'theseuslaw04.FrameAll': WHATEVER THE INPUT: true; the input reads as it did. -/
def frameAllSpec : ChangeSpec := { name := "frameAll", fn := fun _ => fun
  | [d1, d2, d3] => { results := [.lit (.bool true)], args := [d1, d2, d3] }
  | _ => none }
def frameAllRow : OpenClaim := { program := "ytgiefjbdkkdaiaa", sum := "e727bb9231a73f8a6697b65060542aa6f12ed47d03ad503f63f17448b37f55e1", func := "theseus/theseuslaw04.FrameAll", spec := "frameAll", apart := false }
def FrameAllSaid : Prop := frameAllRow.holds Try.pinned (OpenSpec.ofChange frameAllSpec)

/-- ITS FALSE NEIGHBOUR: 'it returns false'. Refute it at one input. -/
def frameAllWrong : ChangeSpec := { name := "frameAll", fn := fun _ => fun
  | [d1, d2, d3] => { results := [.lit (.bool false)], args := [d1, d2, d3] }
  | _ => none }
def FrameAllWrongFalsely : Prop := frameAllRow.holds Try.pinned (OpenSpec.ofChange frameAllWrong)

/-- 'theseuslaw04.FrameBack': WHATEVER THE INPUT: true; the input reads as it did. -/
def frameBackSpec : ChangeSpec := { name := "frameBack", fn := fun _ => fun
  | [d1, d2, d3] => { results := [.lit (.bool true)], args := [d1, d2, d3] }
  | _ => none }
def frameBackRow : OpenClaim := { program := "ytgiefjbdkkdaiaa", sum := "e727bb9231a73f8a6697b65060542aa6f12ed47d03ad503f63f17448b37f55e1", func := "theseus/theseuslaw04.FrameBack", spec := "frameBack", apart := false }
def FrameBackSaid : Prop := frameBackRow.holds Try.pinned (OpenSpec.ofChange frameBackSpec)

/-- ITS FALSE NEIGHBOUR: 'it returns false'. Refute it at one input. -/
def frameBackWrong : ChangeSpec := { name := "frameBack", fn := fun _ => fun
  | [d1, d2, d3] => { results := [.lit (.bool false)], args := [d1, d2, d3] }
  | _ => none }
def FrameBackWrongFalsely : Prop := frameBackRow.holds Try.pinned (OpenSpec.ofChange frameBackWrong)

/-- 'theseuslaw04.FrameSpoilt': WHATEVER THE INPUT: true; the input reads as it did. -/
def frameSpoiltSpec : ChangeSpec := { name := "frameSpoilt", fn := fun _ => fun
  | [d1, d2, d3] => { results := [.lit (.bool true)], args := [d1, d2, d3] }
  | _ => none }
def frameSpoiltRow : OpenClaim := { program := "ytgiefjbdkkdaiaa", sum := "e727bb9231a73f8a6697b65060542aa6f12ed47d03ad503f63f17448b37f55e1", func := "theseus/theseuslaw04.FrameSpoilt", spec := "frameSpoilt", apart := false }
def FrameSpoiltSaid : Prop := frameSpoiltRow.holds Try.pinned (OpenSpec.ofChange frameSpoiltSpec)

/-- ITS FALSE NEIGHBOUR: 'it returns false'. Refute it at one input. -/
def frameSpoiltWrong : ChangeSpec := { name := "frameSpoilt", fn := fun _ => fun
  | [d1, d2, d3] => { results := [.lit (.bool false)], args := [d1, d2, d3] }
  | _ => none }
def FrameSpoiltWrongFalsely : Prop := frameSpoiltRow.holds Try.pinned (OpenSpec.ofChange frameSpoiltWrong)

/-- 'theseuslaw04.FrameShort': WHATEVER THE INPUT: true; the input reads as it did. -/
def frameShortSpec : ChangeSpec := { name := "frameShort", fn := fun _ => fun
  | [d1, d2, d3] => { results := [.lit (.bool true)], args := [d1, d2, d3] }
  | _ => none }
def frameShortRow : OpenClaim := { program := "ytgiefjbdkkdaiaa", sum := "e727bb9231a73f8a6697b65060542aa6f12ed47d03ad503f63f17448b37f55e1", func := "theseus/theseuslaw04.FrameShort", spec := "frameShort", apart := false }
def FrameShortSaid : Prop := frameShortRow.holds Try.pinned (OpenSpec.ofChange frameShortSpec)

/-- ITS FALSE NEIGHBOUR: 'it returns false'. Refute it at one input. -/
def frameShortWrong : ChangeSpec := { name := "frameShort", fn := fun _ => fun
  | [d1, d2, d3] => { results := [.lit (.bool false)], args := [d1, d2, d3] }
  | _ => none }
def FrameShortWrongFalsely : Prop := frameShortRow.holds Try.pinned (OpenSpec.ofChange frameShortWrong)

/-- 'theseuslaw04.FrameTaken': WHATEVER THE INPUT: true; the input reads as it did. -/
def frameTakenSpec : ChangeSpec := { name := "frameTaken", fn := fun _ => fun
  | [d1, d2] => { results := [.lit (.bool true)], args := [d1, d2] }
  | _ => none }
def frameTakenRow : OpenClaim := { program := "ytgiefjbdkkdaiaa", sum := "e727bb9231a73f8a6697b65060542aa6f12ed47d03ad503f63f17448b37f55e1", func := "theseus/theseuslaw04.FrameTaken", spec := "frameTaken", apart := false }
def FrameTakenSaid : Prop := frameTakenRow.holds Try.pinned (OpenSpec.ofChange frameTakenSpec)

/-- ITS FALSE NEIGHBOUR: 'it returns false'. Refute it at one input. -/
def frameTakenWrong : ChangeSpec := { name := "frameTaken", fn := fun _ => fun
  | [d1, d2] => { results := [.lit (.bool false)], args := [d1, d2] }
  | _ => none }
def FrameTakenWrongFalsely : Prop := frameTakenRow.holds Try.pinned (OpenSpec.ofChange frameTakenWrong)

/- THE SECOND FORM. 'bulk': how many values and letters a reading holds, each counted each time it is reached (what is shared counts as often as it is met; a slice's spare places count too). A statement '..UptoSaid' is the law's where the arguments, and the package variables that the reading takes, are together of bulk at most 1048576: NARROWER than '..Said'. Prove '..Said' where nothing that the law and all that it calls make is longer than what came in: it says more and counts as full. Else prove '..UptoSaid'. A law counts once. -/
mutual
def uptoBulk {H : Type} : DataW H → Nat
  | .lit (.string bytes) => bytes.length + 1
  | .lit _ => 1
  | .nil => 1
  | .ptr d => uptoBulk d + 1
  | .slice elems spare => uptoBulkAll elems + uptoBulkAll spare + 1
  | .agg parts => uptoBulkAll parts + 1
  | .iface _ d => uptoBulk d + 1
  | .map entries => uptoBulkEntries entries + 1
  | .held _ => 1
def uptoBulkAll {H : Type} : List (DataW H) → Nat
  | [] => 0
  | d :: r => uptoBulk d + uptoBulkAll r
def uptoBulkEntries {H : Type} : List (Lit × DataW H) → Nat
  | [] => 0
  | x :: r => uptoBulkEntry x + uptoBulkEntries r
def uptoBulkEntry {H : Type} : Lit × DataW H → Nat
  | (.string bytes, d) => bytes.length + uptoBulk d + 1
  | (_, d) => uptoBulk d + 1
 end
def uptoSmall : (H : Type) → List (DataW H) → Bool := fun _ ds => decide (uptoBulkAll ds ≤ 1048576)
def OpenSpec.upto (s : _root_.Go.ChangeSpec) : _root_.Go.OpenSpec := { _root_.Go.OpenSpec.ofChange s with cond := some uptoSmall }

/-- 'theseuslaw01.NumBack', WHERE WHAT IT READS IS OF BULK AT MOST 1048576: true; the input reads as it did. -/
def numBackUptoRow : OpenClaim := { program := "ytgiefjbdkkdaiaa", sum := "e727bb9231a73f8a6697b65060542aa6f12ed47d03ad503f63f17448b37f55e1", func := "theseus/theseuslaw01.NumBack", spec := "numBack", apart := false, narrowed := true }
def NumBackUptoSaid : Prop := numBackUptoRow.holds Try.pinned (OpenSpec.upto numBackSpec)

/-- 'theseuslaw01.NumOrder', WHERE WHAT IT READS IS OF BULK AT MOST 1048576: true; the input reads as it did. -/
def numOrderUptoRow : OpenClaim := { program := "ytgiefjbdkkdaiaa", sum := "e727bb9231a73f8a6697b65060542aa6f12ed47d03ad503f63f17448b37f55e1", func := "theseus/theseuslaw01.NumOrder", spec := "numOrder", apart := false, narrowed := true }
def NumOrderUptoSaid : Prop := numOrderUptoRow.holds Try.pinned (OpenSpec.upto numOrderSpec)

/-- 'theseuslaw01.NumSplit', WHERE WHAT IT READS IS OF BULK AT MOST 1048576: true; the input reads as it did. -/
def numSplitUptoRow : OpenClaim := { program := "ytgiefjbdkkdaiaa", sum := "e727bb9231a73f8a6697b65060542aa6f12ed47d03ad503f63f17448b37f55e1", func := "theseus/theseuslaw01.NumSplit", spec := "numSplit", apart := false, narrowed := true }
def NumSplitUptoSaid : Prop := numSplitUptoRow.holds Try.pinned (OpenSpec.upto numSplitSpec)

/-- 'theseuslaw01.NumAll', WHERE WHAT IT READS IS OF BULK AT MOST 1048576: true; the input reads as it did. -/
def numAllUptoRow : OpenClaim := { program := "ytgiefjbdkkdaiaa", sum := "e727bb9231a73f8a6697b65060542aa6f12ed47d03ad503f63f17448b37f55e1", func := "theseus/theseuslaw01.NumAll", spec := "numAll", apart := false, narrowed := true }
def NumAllUptoSaid : Prop := numAllUptoRow.holds Try.pinned (OpenSpec.upto numAllSpec)

/-- 'theseuslaw01.NumTaken', WHERE WHAT IT READS IS OF BULK AT MOST 1048576: true; the input reads as it did. -/
def numTakenUptoRow : OpenClaim := { program := "ytgiefjbdkkdaiaa", sum := "e727bb9231a73f8a6697b65060542aa6f12ed47d03ad503f63f17448b37f55e1", func := "theseus/theseuslaw01.NumTaken", spec := "numTaken", apart := false, narrowed := true }
def NumTakenUptoSaid : Prop := numTakenUptoRow.holds Try.pinned (OpenSpec.upto numTakenSpec)

/-- 'theseuslaw01.NumRows', WHERE WHAT IT READS IS OF BULK AT MOST 1048576: true; the input reads as it did. -/
def numRowsUptoRow : OpenClaim := { program := "ytgiefjbdkkdaiaa", sum := "e727bb9231a73f8a6697b65060542aa6f12ed47d03ad503f63f17448b37f55e1", func := "theseus/theseuslaw01.NumRows", spec := "numRows", apart := false, narrowed := true }
def NumRowsUptoSaid : Prop := numRowsUptoRow.holds Try.pinned (OpenSpec.upto numRowsSpec)

/-- 'theseuslaw02.GroupAll', WHERE WHAT IT READS IS OF BULK AT MOST 1048576: true; the input reads as it did. -/
def groupAllUptoRow : OpenClaim := { program := "ytgiefjbdkkdaiaa", sum := "e727bb9231a73f8a6697b65060542aa6f12ed47d03ad503f63f17448b37f55e1", func := "theseus/theseuslaw02.GroupAll", spec := "groupAll", apart := false, narrowed := true }
def GroupAllUptoSaid : Prop := groupAllUptoRow.holds Try.pinned (OpenSpec.upto groupAllSpec)

/-- 'theseuslaw02.GroupBack', WHERE WHAT IT READS IS OF BULK AT MOST 1048576: true; the input reads as it did. -/
def groupBackUptoRow : OpenClaim := { program := "ytgiefjbdkkdaiaa", sum := "e727bb9231a73f8a6697b65060542aa6f12ed47d03ad503f63f17448b37f55e1", func := "theseus/theseuslaw02.GroupBack", spec := "groupBack", apart := false, narrowed := true }
def GroupBackUptoSaid : Prop := groupBackUptoRow.holds Try.pinned (OpenSpec.upto groupBackSpec)

/-- 'theseuslaw02.GroupTaken', WHERE WHAT IT READS IS OF BULK AT MOST 1048576: true; the input reads as it did. -/
def groupTakenUptoRow : OpenClaim := { program := "ytgiefjbdkkdaiaa", sum := "e727bb9231a73f8a6697b65060542aa6f12ed47d03ad503f63f17448b37f55e1", func := "theseus/theseuslaw02.GroupTaken", spec := "groupTaken", apart := false, narrowed := true }
def GroupTakenUptoSaid : Prop := groupTakenUptoRow.holds Try.pinned (OpenSpec.upto groupTakenSpec)

/-- 'theseuslaw02.GroupOrder', WHERE WHAT IT READS IS OF BULK AT MOST 1048576: true; the input reads as it did. -/
def groupOrderUptoRow : OpenClaim := { program := "ytgiefjbdkkdaiaa", sum := "e727bb9231a73f8a6697b65060542aa6f12ed47d03ad503f63f17448b37f55e1", func := "theseus/theseuslaw02.GroupOrder", spec := "groupOrder", apart := false, narrowed := true }
def GroupOrderUptoSaid : Prop := groupOrderUptoRow.holds Try.pinned (OpenSpec.upto groupOrderSpec)

/-- 'theseuslaw02.GroupRow', WHERE WHAT IT READS IS OF BULK AT MOST 1048576: true; the input reads as it did. -/
def groupRowUptoRow : OpenClaim := { program := "ytgiefjbdkkdaiaa", sum := "e727bb9231a73f8a6697b65060542aa6f12ed47d03ad503f63f17448b37f55e1", func := "theseus/theseuslaw02.GroupRow", spec := "groupRow", apart := false, narrowed := true }
def GroupRowUptoSaid : Prop := groupRowUptoRow.holds Try.pinned (OpenSpec.upto groupRowSpec)

/-- 'theseuslaw02.GroupBits', WHERE WHAT IT READS IS OF BULK AT MOST 1048576: true; the input reads as it did. -/
def groupBitsUptoRow : OpenClaim := { program := "ytgiefjbdkkdaiaa", sum := "e727bb9231a73f8a6697b65060542aa6f12ed47d03ad503f63f17448b37f55e1", func := "theseus/theseuslaw02.GroupBits", spec := "groupBits", apart := false, narrowed := true }
def GroupBitsUptoSaid : Prop := groupBitsUptoRow.holds Try.pinned (OpenSpec.upto groupBitsSpec)

/-- 'theseuslaw02.GroupFree', WHERE WHAT IT READS IS OF BULK AT MOST 1048576: true; the input reads as it did. -/
def groupFreeUptoRow : OpenClaim := { program := "ytgiefjbdkkdaiaa", sum := "e727bb9231a73f8a6697b65060542aa6f12ed47d03ad503f63f17448b37f55e1", func := "theseus/theseuslaw02.GroupFree", spec := "groupFree", apart := false, narrowed := true }
def GroupFreeUptoSaid : Prop := groupFreeUptoRow.holds Try.pinned (OpenSpec.upto groupFreeSpec)

/-- 'theseuslaw04.FrameNest', WHERE WHAT IT READS IS OF BULK AT MOST 1048576: true; the input reads as it did. -/
def frameNestUptoRow : OpenClaim := { program := "ytgiefjbdkkdaiaa", sum := "e727bb9231a73f8a6697b65060542aa6f12ed47d03ad503f63f17448b37f55e1", func := "theseus/theseuslaw04.FrameNest", spec := "frameNest", apart := false, narrowed := true }
def FrameNestUptoSaid : Prop := frameNestUptoRow.holds Try.pinned (OpenSpec.upto frameNestSpec)

/-- 'theseuslaw04.FrameUnlike', WHERE WHAT IT READS IS OF BULK AT MOST 1048576: true; the input reads as it did. -/
def frameUnlikeUptoRow : OpenClaim := { program := "ytgiefjbdkkdaiaa", sum := "e727bb9231a73f8a6697b65060542aa6f12ed47d03ad503f63f17448b37f55e1", func := "theseus/theseuslaw04.FrameUnlike", spec := "frameUnlike", apart := false, narrowed := true }
def FrameUnlikeUptoSaid : Prop := frameUnlikeUptoRow.holds Try.pinned (OpenSpec.upto frameUnlikeSpec)

/-- 'theseuslaw04.FrameAll', WHERE WHAT IT READS IS OF BULK AT MOST 1048576: true; the input reads as it did. -/
def frameAllUptoRow : OpenClaim := { program := "ytgiefjbdkkdaiaa", sum := "e727bb9231a73f8a6697b65060542aa6f12ed47d03ad503f63f17448b37f55e1", func := "theseus/theseuslaw04.FrameAll", spec := "frameAll", apart := false, narrowed := true }
def FrameAllUptoSaid : Prop := frameAllUptoRow.holds Try.pinned (OpenSpec.upto frameAllSpec)

/-- 'theseuslaw04.FrameBack', WHERE WHAT IT READS IS OF BULK AT MOST 1048576: true; the input reads as it did. -/
def frameBackUptoRow : OpenClaim := { program := "ytgiefjbdkkdaiaa", sum := "e727bb9231a73f8a6697b65060542aa6f12ed47d03ad503f63f17448b37f55e1", func := "theseus/theseuslaw04.FrameBack", spec := "frameBack", apart := false, narrowed := true }
def FrameBackUptoSaid : Prop := frameBackUptoRow.holds Try.pinned (OpenSpec.upto frameBackSpec)

/-- 'theseuslaw04.FrameSpoilt', WHERE WHAT IT READS IS OF BULK AT MOST 1048576: true; the input reads as it did. -/
def frameSpoiltUptoRow : OpenClaim := { program := "ytgiefjbdkkdaiaa", sum := "e727bb9231a73f8a6697b65060542aa6f12ed47d03ad503f63f17448b37f55e1", func := "theseus/theseuslaw04.FrameSpoilt", spec := "frameSpoilt", apart := false, narrowed := true }
def FrameSpoiltUptoSaid : Prop := frameSpoiltUptoRow.holds Try.pinned (OpenSpec.upto frameSpoiltSpec)

/-- 'theseuslaw04.FrameShort', WHERE WHAT IT READS IS OF BULK AT MOST 1048576: true; the input reads as it did. -/
def frameShortUptoRow : OpenClaim := { program := "ytgiefjbdkkdaiaa", sum := "e727bb9231a73f8a6697b65060542aa6f12ed47d03ad503f63f17448b37f55e1", func := "theseus/theseuslaw04.FrameShort", spec := "frameShort", apart := false, narrowed := true }
def FrameShortUptoSaid : Prop := frameShortUptoRow.holds Try.pinned (OpenSpec.upto frameShortSpec)

/-- 'theseuslaw04.FrameTaken', WHERE WHAT IT READS IS OF BULK AT MOST 1048576: true; the input reads as it did. -/
def frameTakenUptoRow : OpenClaim := { program := "ytgiefjbdkkdaiaa", sum := "e727bb9231a73f8a6697b65060542aa6f12ed47d03ad503f63f17448b37f55e1", func := "theseus/theseuslaw04.FrameTaken", spec := "frameTaken", apart := false, narrowed := true }
def FrameTakenUptoSaid : Prop := frameTakenUptoRow.holds Try.pinned (OpenSpec.upto frameTakenSpec)

end Rows
end Go.Proofs.Ytgiefjbdkkdaiaa
