/-
  No cell of these rows narrows 'for every input' (looked for: loops, veiled, ifaces, maps, wideKeys, modest, calm, conditions, laid).
  DERIVED. THE GIVEN ROWS OF THIS SEAT. 7 by the template 'for every input the law returns true; each argument reads behind the call as it read before'; 0 by the template 'total and deterministic' (their statements: YteellpcagdnikaaTotals.lean).
  GIVEN WITH THE SEED: the statements are not yours to turn. If you find one false, say at which input.
  Laid BY PROGRAM, IN A SANDBOX (cutbox-rows.mjs): the forced cells as the released guide's own fill.sh prints them over the translation 5bd7b90d828e1b40… (all of the seat's roots in one cut). By AI agents, Wed Nov 11 2026. No macro, syntax, notation, axiom, sorry.
-/
import Derived.Test.YteellpcagdnikaaChecked
import GoSem.Claim
import GoSem.ClaimJoined
import GoSem.ClaimMapViews
import Derived.JoinedTies
import Derived.KernelRfl
namespace Go.Proofs.Yteellpcagdnikaa
/- THE CELL 'sum', in the pinned program and in every row, IS THE sha256 OF THE DUMP (.gsa) THAT YteellpcagdnikaaProg.lean LOADS. Nothing in Lean hashes anything: it is a label: what it is worth is what the hold of that sum in a sandbox is worth. -/
noncomputable def Try.pinned : Pinned := { name := "yteellpcagdnikaa", sum := "5bd7b90d828e1b40e52294fb4742b39638c7595d0412d6097b45027447cafe2f", checked := Try.checked }
namespace Rows
def none {H : Type} : Left H := { results := [], args := [] }

/-- 'theseuslaw17.CertFirst': WHATEVER THE INPUT: true; the input reads as it did. -/
def certFirstSpec : ChangeSpec := { name := "certFirst", fn := fun _ => fun
  | [d1, d2, d3] => { results := [.lit (.bool true)], args := [d1, d2, d3] }
  | _ => none }
def certFirstRow : OpenClaim := { program := "yteellpcagdnikaa", sum := "5bd7b90d828e1b40e52294fb4742b39638c7595d0412d6097b45027447cafe2f", func := "theseus/theseuslaw17.CertFirst", spec := "certFirst", unfollowed := true, recurses := true, apart := false }
def CertFirstSaid : Prop := certFirstRow.holds Try.pinned (OpenSpec.ofChange certFirstSpec)

/-- ITS FALSE NEIGHBOUR: 'it returns false'. Refute it at one input. -/
def certFirstWrong : ChangeSpec := { name := "certFirst", fn := fun _ => fun
  | [d1, d2, d3] => { results := [.lit (.bool false)], args := [d1, d2, d3] }
  | _ => none }
def CertFirstWrongFalsely : Prop := certFirstRow.holds Try.pinned (OpenSpec.ofChange certFirstWrong)

/-- 'theseuslaw17.CertTraces': WHATEVER THE INPUT: true; the input reads as it did. -/
def certTracesSpec : ChangeSpec := { name := "certTraces", fn := fun _ => fun
  | [d1, d2, d3] => { results := [.lit (.bool true)], args := [d1, d2, d3] }
  | _ => none }
def certTracesRow : OpenClaim := { program := "yteellpcagdnikaa", sum := "5bd7b90d828e1b40e52294fb4742b39638c7595d0412d6097b45027447cafe2f", func := "theseus/theseuslaw17.CertTraces", spec := "certTraces", unfollowed := true, recurses := true, apart := false }
def CertTracesSaid : Prop := certTracesRow.holds Try.pinned (OpenSpec.ofChange certTracesSpec)

/-- ITS FALSE NEIGHBOUR: 'it returns false'. Refute it at one input. -/
def certTracesWrong : ChangeSpec := { name := "certTraces", fn := fun _ => fun
  | [d1, d2, d3] => { results := [.lit (.bool false)], args := [d1, d2, d3] }
  | _ => none }
def CertTracesWrongFalsely : Prop := certTracesRow.holds Try.pinned (OpenSpec.ofChange certTracesWrong)

/-- 'theseuslaw17.CertMany': WHATEVER THE INPUT: true; the input reads as it did. -/
def certManySpec : ChangeSpec := { name := "certMany", fn := fun _ => fun
  | [d] => { results := [.lit (.bool true)], args := [d] }
  | _ => none }
def certManyRow : OpenClaim := { program := "yteellpcagdnikaa", sum := "5bd7b90d828e1b40e52294fb4742b39638c7595d0412d6097b45027447cafe2f", func := "theseus/theseuslaw17.CertMany", spec := "certMany", unfollowed := true, recurses := true, apart := false }
def CertManySaid : Prop := certManyRow.holds Try.pinned (OpenSpec.ofChange certManySpec)

/-- ITS FALSE NEIGHBOUR: 'it returns false'. Refute it at one input. -/
def certManyWrong : ChangeSpec := { name := "certMany", fn := fun _ => fun
  | [d] => { results := [.lit (.bool false)], args := [d] }
  | _ => none }
def CertManyWrongFalsely : Prop := certManyRow.holds Try.pinned (OpenSpec.ofChange certManyWrong)

/-- 'theseuslaw17.CertMeets': WHATEVER THE INPUT: true; the input reads as it did. -/
def certMeetsSpec : ChangeSpec := { name := "certMeets", fn := fun _ => fun
  | [d1, d2] => { results := [.lit (.bool true)], args := [d1, d2] }
  | _ => none }
def certMeetsRow : OpenClaim := { program := "yteellpcagdnikaa", sum := "5bd7b90d828e1b40e52294fb4742b39638c7595d0412d6097b45027447cafe2f", func := "theseus/theseuslaw17.CertMeets", spec := "certMeets", unfollowed := true, recurses := true, apart := false }
def CertMeetsSaid : Prop := certMeetsRow.holds Try.pinned (OpenSpec.ofChange certMeetsSpec)

/-- ITS FALSE NEIGHBOUR: 'it returns false'. Refute it at one input. -/
def certMeetsWrong : ChangeSpec := { name := "certMeets", fn := fun _ => fun
  | [d1, d2] => { results := [.lit (.bool false)], args := [d1, d2] }
  | _ => none }
def CertMeetsWrongFalsely : Prop := certMeetsRow.holds Try.pinned (OpenSpec.ofChange certMeetsWrong)

/-- 'theseuslaw17.CertAll': WHATEVER THE INPUT: true; the input reads as it did. -/
def certAllSpec : ChangeSpec := { name := "certAll", fn := fun _ => fun
  | [d1, d2, d3] => { results := [.lit (.bool true)], args := [d1, d2, d3] }
  | _ => none }
def certAllRow : OpenClaim := { program := "yteellpcagdnikaa", sum := "5bd7b90d828e1b40e52294fb4742b39638c7595d0412d6097b45027447cafe2f", func := "theseus/theseuslaw17.CertAll", spec := "certAll", unfollowed := true, recurses := true, apart := false }
def CertAllSaid : Prop := certAllRow.holds Try.pinned (OpenSpec.ofChange certAllSpec)

/-- ITS FALSE NEIGHBOUR: 'it returns false'. Refute it at one input. -/
def certAllWrong : ChangeSpec := { name := "certAll", fn := fun _ => fun
  | [d1, d2, d3] => { results := [.lit (.bool false)], args := [d1, d2, d3] }
  | _ => none }
def CertAllWrongFalsely : Prop := certAllRow.holds Try.pinned (OpenSpec.ofChange certAllWrong)

/-- 'theseuslaw17.CertSpoilt': WHATEVER THE INPUT: true; the input reads as it did. -/
def certSpoiltSpec : ChangeSpec := { name := "certSpoilt", fn := fun _ => fun
  | [d1, d2, d3] => { results := [.lit (.bool true)], args := [d1, d2, d3] }
  | _ => none }
def certSpoiltRow : OpenClaim := { program := "yteellpcagdnikaa", sum := "5bd7b90d828e1b40e52294fb4742b39638c7595d0412d6097b45027447cafe2f", func := "theseus/theseuslaw17.CertSpoilt", spec := "certSpoilt", unfollowed := true, recurses := true, apart := false }
def CertSpoiltSaid : Prop := certSpoiltRow.holds Try.pinned (OpenSpec.ofChange certSpoiltSpec)

/-- ITS FALSE NEIGHBOUR: 'it returns false'. Refute it at one input. -/
def certSpoiltWrong : ChangeSpec := { name := "certSpoilt", fn := fun _ => fun
  | [d1, d2, d3] => { results := [.lit (.bool false)], args := [d1, d2, d3] }
  | _ => none }
def CertSpoiltWrongFalsely : Prop := certSpoiltRow.holds Try.pinned (OpenSpec.ofChange certSpoiltWrong)

/-- 'theseuslaw17.CertUnlike': WHATEVER THE INPUT: true; the input reads as it did. -/
def certUnlikeSpec : ChangeSpec := { name := "certUnlike", fn := fun _ => fun
  | [d1, d2, d3] => { results := [.lit (.bool true)], args := [d1, d2, d3] }
  | _ => none }
def certUnlikeRow : OpenClaim := { program := "yteellpcagdnikaa", sum := "5bd7b90d828e1b40e52294fb4742b39638c7595d0412d6097b45027447cafe2f", func := "theseus/theseuslaw17.CertUnlike", spec := "certUnlike", unfollowed := true, recurses := true, apart := false }
def CertUnlikeSaid : Prop := certUnlikeRow.holds Try.pinned (OpenSpec.ofChange certUnlikeSpec)

/-- ITS FALSE NEIGHBOUR: 'it returns false'. Refute it at one input. -/
def certUnlikeWrong : ChangeSpec := { name := "certUnlike", fn := fun _ => fun
  | [d1, d2, d3] => { results := [.lit (.bool false)], args := [d1, d2, d3] }
  | _ => none }
def CertUnlikeWrongFalsely : Prop := certUnlikeRow.holds Try.pinned (OpenSpec.ofChange certUnlikeWrong)

/- THE SECOND FORM. 'bulk': how many values and letters a reading holds, each counted each time it is reached (what is shared counts as often as it is met; a slice's spare places count too). A statement '..UptoSaid' is the law's where the arguments, and the package variables that the reading takes, are together of bulk at most 1048576: NARROWER than '..Said'. Prove '..Said' where nothing that the law and all that it calls make is longer than what came in: it says more and counts as full. Else prove '..UptoSaid'. A law counts once. -/
mutual
def uptoBulk {H : Type} : DataW H → Nat
  | .lit (.string bytes) => bytes.length + 1
  | .lit _ => 1
  | .nil => 1
  | .ptr d => uptoBulk d + 1
  | .slice elems spare => uptoBulkAll elems + uptoBulkAll spare + 1
  | .agg parts => uptoBulkAll parts + 1
  | .iface _ d => uptoBulk d + 1
  | .map entries => uptoBulkEntries entries + 1
  | .held _ => 1
def uptoBulkAll {H : Type} : List (DataW H) → Nat
  | [] => 0
  | d :: r => uptoBulk d + uptoBulkAll r
def uptoBulkEntries {H : Type} : List (Lit × DataW H) → Nat
  | [] => 0
  | x :: r => uptoBulkEntry x + uptoBulkEntries r
def uptoBulkEntry {H : Type} : Lit × DataW H → Nat
  | (.string bytes, d) => bytes.length + uptoBulk d + 1
  | (_, d) => uptoBulk d + 1
 end
def uptoSmall : (H : Type) → List (DataW H) → Bool := fun _ ds => decide (uptoBulkAll ds ≤ 1048576)
def OpenSpec.upto (s : _root_.Go.ChangeSpec) : _root_.Go.OpenSpec := { _root_.Go.OpenSpec.ofChange s with cond := some uptoSmall }

/-- 'theseuslaw17.CertFirst', WHERE WHAT IT READS IS OF BULK AT MOST 1048576: true; the input reads as it did. -/
def certFirstUptoRow : OpenClaim := { program := "yteellpcagdnikaa", sum := "5bd7b90d828e1b40e52294fb4742b39638c7595d0412d6097b45027447cafe2f", func := "theseus/theseuslaw17.CertFirst", spec := "certFirst", unfollowed := true, recurses := true, apart := false, narrowed := true }
def CertFirstUptoSaid : Prop := certFirstUptoRow.holds Try.pinned (OpenSpec.upto certFirstSpec)

/-- 'theseuslaw17.CertTraces', WHERE WHAT IT READS IS OF BULK AT MOST 1048576: true; the input reads as it did. -/
def certTracesUptoRow : OpenClaim := { program := "yteellpcagdnikaa", sum := "5bd7b90d828e1b40e52294fb4742b39638c7595d0412d6097b45027447cafe2f", func := "theseus/theseuslaw17.CertTraces", spec := "certTraces", unfollowed := true, recurses := true, apart := false, narrowed := true }
def CertTracesUptoSaid : Prop := certTracesUptoRow.holds Try.pinned (OpenSpec.upto certTracesSpec)

/-- 'theseuslaw17.CertMany', WHERE WHAT IT READS IS OF BULK AT MOST 1048576: true; the input reads as it did. -/
def certManyUptoRow : OpenClaim := { program := "yteellpcagdnikaa", sum := "5bd7b90d828e1b40e52294fb4742b39638c7595d0412d6097b45027447cafe2f", func := "theseus/theseuslaw17.CertMany", spec := "certMany", unfollowed := true, recurses := true, apart := false, narrowed := true }
def CertManyUptoSaid : Prop := certManyUptoRow.holds Try.pinned (OpenSpec.upto certManySpec)

/-- 'theseuslaw17.CertMeets', WHERE WHAT IT READS IS OF BULK AT MOST 1048576: true; the input reads as it did. -/
def certMeetsUptoRow : OpenClaim := { program := "yteellpcagdnikaa", sum := "5bd7b90d828e1b40e52294fb4742b39638c7595d0412d6097b45027447cafe2f", func := "theseus/theseuslaw17.CertMeets", spec := "certMeets", unfollowed := true, recurses := true, apart := false, narrowed := true }
def CertMeetsUptoSaid : Prop := certMeetsUptoRow.holds Try.pinned (OpenSpec.upto certMeetsSpec)

/-- 'theseuslaw17.CertAll', WHERE WHAT IT READS IS OF BULK AT MOST 1048576: true; the input reads as it did. -/
def certAllUptoRow : OpenClaim := { program := "yteellpcagdnikaa", sum := "5bd7b90d828e1b40e52294fb4742b39638c7595d0412d6097b45027447cafe2f", func := "theseus/theseuslaw17.CertAll", spec := "certAll", unfollowed := true, recurses := true, apart := false, narrowed := true }
def CertAllUptoSaid : Prop := certAllUptoRow.holds Try.pinned (OpenSpec.upto certAllSpec)

/-- 'theseuslaw17.CertSpoilt', WHERE WHAT IT READS IS OF BULK AT MOST 1048576: true; the input reads as it did. -/
def certSpoiltUptoRow : OpenClaim := { program := "yteellpcagdnikaa", sum := "5bd7b90d828e1b40e52294fb4742b39638c7595d0412d6097b45027447cafe2f", func := "theseus/theseuslaw17.CertSpoilt", spec := "certSpoilt", unfollowed := true, recurses := true, apart := false, narrowed := true }
def CertSpoiltUptoSaid : Prop := certSpoiltUptoRow.holds Try.pinned (OpenSpec.upto certSpoiltSpec)

/-- 'theseuslaw17.CertUnlike', WHERE WHAT IT READS IS OF BULK AT MOST 1048576: true; the input reads as it did. -/
def certUnlikeUptoRow : OpenClaim := { program := "yteellpcagdnikaa", sum := "5bd7b90d828e1b40e52294fb4742b39638c7595d0412d6097b45027447cafe2f", func := "theseus/theseuslaw17.CertUnlike", spec := "certUnlike", unfollowed := true, recurses := true, apart := false, narrowed := true }
def CertUnlikeUptoSaid : Prop := certUnlikeUptoRow.holds Try.pinned (OpenSpec.upto certUnlikeSpec)

end Rows
end Go.Proofs.Yteellpcagdnikaa
