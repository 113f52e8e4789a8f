/-
  No cell of these rows narrows 'for every input' (looked for: loops, veiled, ifaces, maps, wideKeys, modest, calm, conditions, laid).
  DERIVED. THE GIVEN ROWS OF THIS SEAT. 7 by the template 'for every input the law returns true; each argument reads behind the call as it read before'; 0 by the template 'total and deterministic' (their statements: YtgapcmodhcdebaaTotals.lean).
  GIVEN WITH THE SEED: the statements are not yours to turn. If you find one false, say at which input.
  Laid BY PROGRAM, IN A SANDBOX (cutbox-rows.mjs): the forced cells as the released guide's own fill.sh prints them over the translation 69dc466694ec99c1… (all of the seat's roots in one cut). By AI agents, Wed Nov 11 2026. No macro, syntax, notation, axiom, sorry.
-/
import Derived.Test.YtgapcmodhcdebaaChecked
import GoSem.Claim
import GoSem.ClaimJoined
import GoSem.ClaimMapViews
import Derived.JoinedTies
import Derived.KernelRfl
namespace Go.Proofs.Ytgapcmodhcdebaa
/- THE CELL 'sum', in the pinned program and in every row, IS THE sha256 OF THE DUMP (.gsa) THAT YtgapcmodhcdebaaProg.lean LOADS. Nothing in Lean hashes anything: it is a label: what it is worth is what the hold of that sum in a sandbox is worth. -/
noncomputable def Try.pinned : Pinned := { name := "ytgapcmodhcdebaa", sum := "69dc466694ec99c1add16cf0dd6e251b083d3fac346f78aa3157f9864120b914", checked := Try.checked }
namespace Rows
def none {H : Type} : Left H := { results := [], args := [] }

/-- 'theseuslaw10.NetfileAll': WHATEVER THE INPUT: true; the input reads as it did. -/
def netfileAllSpec : ChangeSpec := { name := "netfileAll", fn := fun _ => fun
  | [d1, d2] => { results := [.lit (.bool true)], args := [d1, d2] }
  | _ => none }
def netfileAllRow : OpenClaim := { program := "ytgapcmodhcdebaa", sum := "69dc466694ec99c1add16cf0dd6e251b083d3fac346f78aa3157f9864120b914", func := "theseus/theseuslaw10.NetfileAll", spec := "netfileAll", unfollowed := true, recurses := true, apart := false }
def NetfileAllSaid : Prop := netfileAllRow.holds Try.pinned (OpenSpec.ofChange netfileAllSpec)

/-- ITS FALSE NEIGHBOUR: 'it returns false'. Refute it at one input. -/
def netfileAllWrong : ChangeSpec := { name := "netfileAll", fn := fun _ => fun
  | [d1, d2] => { results := [.lit (.bool false)], args := [d1, d2] }
  | _ => none }
def NetfileAllWrongFalsely : Prop := netfileAllRow.holds Try.pinned (OpenSpec.ofChange netfileAllWrong)

/-- 'theseuslaw10.NetfileBack': WHATEVER THE INPUT: true; the input reads as it did. -/
def netfileBackSpec : ChangeSpec := { name := "netfileBack", fn := fun _ => fun
  | [d1, d2, d3] => { results := [.lit (.bool true)], args := [d1, d2, d3] }
  | _ => none }
def netfileBackRow : OpenClaim := { program := "ytgapcmodhcdebaa", sum := "69dc466694ec99c1add16cf0dd6e251b083d3fac346f78aa3157f9864120b914", func := "theseus/theseuslaw10.NetfileBack", spec := "netfileBack", unfollowed := true, recurses := true, apart := false }
def NetfileBackSaid : Prop := netfileBackRow.holds Try.pinned (OpenSpec.ofChange netfileBackSpec)

/-- ITS FALSE NEIGHBOUR: 'it returns false'. Refute it at one input. -/
def netfileBackWrong : ChangeSpec := { name := "netfileBack", fn := fun _ => fun
  | [d1, d2, d3] => { results := [.lit (.bool false)], args := [d1, d2, d3] }
  | _ => none }
def NetfileBackWrongFalsely : Prop := netfileBackRow.holds Try.pinned (OpenSpec.ofChange netfileBackWrong)

/-- 'theseuslaw10.NetfileTaken': WHATEVER THE INPUT: true; the input reads as it did. -/
def netfileTakenSpec : ChangeSpec := { name := "netfileTaken", fn := fun _ => fun
  | [d] => { results := [.lit (.bool true)], args := [d] }
  | _ => none }
def netfileTakenRow : OpenClaim := { program := "ytgapcmodhcdebaa", sum := "69dc466694ec99c1add16cf0dd6e251b083d3fac346f78aa3157f9864120b914", func := "theseus/theseuslaw10.NetfileTaken", spec := "netfileTaken", unfollowed := true, recurses := true, apart := false }
def NetfileTakenSaid : Prop := netfileTakenRow.holds Try.pinned (OpenSpec.ofChange netfileTakenSpec)

/-- ITS FALSE NEIGHBOUR: 'it returns false'. Refute it at one input. -/
def netfileTakenWrong : ChangeSpec := { name := "netfileTaken", fn := fun _ => fun
  | [d] => { results := [.lit (.bool false)], args := [d] }
  | _ => none }
def NetfileTakenWrongFalsely : Prop := netfileTakenRow.holds Try.pinned (OpenSpec.ofChange netfileTakenWrong)

/-- 'theseuslaw10.NetfileSize': WHATEVER THE INPUT: true; the input reads as it did. -/
def netfileSizeSpec : ChangeSpec := { name := "netfileSize", fn := fun _ => fun
  | [d] => { results := [.lit (.bool true)], args := [d] }
  | _ => none }
def netfileSizeRow : OpenClaim := { program := "ytgapcmodhcdebaa", sum := "69dc466694ec99c1add16cf0dd6e251b083d3fac346f78aa3157f9864120b914", func := "theseus/theseuslaw10.NetfileSize", spec := "netfileSize", unfollowed := true, recurses := true, apart := false }
def NetfileSizeSaid : Prop := netfileSizeRow.holds Try.pinned (OpenSpec.ofChange netfileSizeSpec)

/-- ITS FALSE NEIGHBOUR: 'it returns false'. Refute it at one input. -/
def netfileSizeWrong : ChangeSpec := { name := "netfileSize", fn := fun _ => fun
  | [d] => { results := [.lit (.bool false)], args := [d] }
  | _ => none }
def NetfileSizeWrongFalsely : Prop := netfileSizeRow.holds Try.pinned (OpenSpec.ofChange netfileSizeWrong)

/-- 'theseuslaw10.NetfileParts': WHATEVER THE INPUT: true; the input reads as it did. -/
def netfilePartsSpec : ChangeSpec := { name := "netfileParts", fn := fun _ => fun
  | [d] => { results := [.lit (.bool true)], args := [d] }
  | _ => none }
def netfilePartsRow : OpenClaim := { program := "ytgapcmodhcdebaa", sum := "69dc466694ec99c1add16cf0dd6e251b083d3fac346f78aa3157f9864120b914", func := "theseus/theseuslaw10.NetfileParts", spec := "netfileParts", unfollowed := true, recurses := true, apart := false }
def NetfilePartsSaid : Prop := netfilePartsRow.holds Try.pinned (OpenSpec.ofChange netfilePartsSpec)

/-- ITS FALSE NEIGHBOUR: 'it returns false'. Refute it at one input. -/
def netfilePartsWrong : ChangeSpec := { name := "netfileParts", fn := fun _ => fun
  | [d] => { results := [.lit (.bool false)], args := [d] }
  | _ => none }
def NetfilePartsWrongFalsely : Prop := netfilePartsRow.holds Try.pinned (OpenSpec.ofChange netfilePartsWrong)

/-- 'theseuslaw10.NetfileOdd': WHATEVER THE INPUT: true; the input reads as it did. -/
def netfileOddSpec : ChangeSpec := { name := "netfileOdd", fn := fun _ => fun
  | [d1, d2] => { results := [.lit (.bool true)], args := [d1, d2] }
  | _ => none }
def netfileOddRow : OpenClaim := { program := "ytgapcmodhcdebaa", sum := "69dc466694ec99c1add16cf0dd6e251b083d3fac346f78aa3157f9864120b914", func := "theseus/theseuslaw10.NetfileOdd", spec := "netfileOdd", unfollowed := true, recurses := true, apart := false }
def NetfileOddSaid : Prop := netfileOddRow.holds Try.pinned (OpenSpec.ofChange netfileOddSpec)

/-- ITS FALSE NEIGHBOUR: 'it returns false'. Refute it at one input. -/
def netfileOddWrong : ChangeSpec := { name := "netfileOdd", fn := fun _ => fun
  | [d1, d2] => { results := [.lit (.bool false)], args := [d1, d2] }
  | _ => none }
def NetfileOddWrongFalsely : Prop := netfileOddRow.holds Try.pinned (OpenSpec.ofChange netfileOddWrong)

/-- 'theseuslaw10.NetfileUnlike': WHATEVER THE INPUT: true; the input reads as it did. -/
def netfileUnlikeSpec : ChangeSpec := { name := "netfileUnlike", fn := fun _ => fun
  | [d1, d2] => { results := [.lit (.bool true)], args := [d1, d2] }
  | _ => none }
def netfileUnlikeRow : OpenClaim := { program := "ytgapcmodhcdebaa", sum := "69dc466694ec99c1add16cf0dd6e251b083d3fac346f78aa3157f9864120b914", func := "theseus/theseuslaw10.NetfileUnlike", spec := "netfileUnlike", unfollowed := true, recurses := true, apart := false }
def NetfileUnlikeSaid : Prop := netfileUnlikeRow.holds Try.pinned (OpenSpec.ofChange netfileUnlikeSpec)

/-- ITS FALSE NEIGHBOUR: 'it returns false'. Refute it at one input. -/
def netfileUnlikeWrong : ChangeSpec := { name := "netfileUnlike", fn := fun _ => fun
  | [d1, d2] => { results := [.lit (.bool false)], args := [d1, d2] }
  | _ => none }
def NetfileUnlikeWrongFalsely : Prop := netfileUnlikeRow.holds Try.pinned (OpenSpec.ofChange netfileUnlikeWrong)

/- THE SECOND FORM. 'bulk': how many values and letters a reading holds, each counted each time it is reached (what is shared counts as often as it is met; a slice's spare places count too). A statement '..UptoSaid' is the law's where the arguments, and the package variables that the reading takes, are together of bulk at most 1048576: NARROWER than '..Said'. Prove '..Said' where nothing that the law and all that it calls make is longer than what came in: it says more and counts as full. Else prove '..UptoSaid'. A law counts once. -/
mutual
def uptoBulk {H : Type} : DataW H → Nat
  | .lit (.string bytes) => bytes.length + 1
  | .lit _ => 1
  | .nil => 1
  | .ptr d => uptoBulk d + 1
  | .slice elems spare => uptoBulkAll elems + uptoBulkAll spare + 1
  | .agg parts => uptoBulkAll parts + 1
  | .iface _ d => uptoBulk d + 1
  | .map entries => uptoBulkEntries entries + 1
  | .held _ => 1
def uptoBulkAll {H : Type} : List (DataW H) → Nat
  | [] => 0
  | d :: r => uptoBulk d + uptoBulkAll r
def uptoBulkEntries {H : Type} : List (Lit × DataW H) → Nat
  | [] => 0
  | x :: r => uptoBulkEntry x + uptoBulkEntries r
def uptoBulkEntry {H : Type} : Lit × DataW H → Nat
  | (.string bytes, d) => bytes.length + uptoBulk d + 1
  | (_, d) => uptoBulk d + 1
 end
def uptoSmall : (H : Type) → List (DataW H) → Bool := fun _ ds => decide (uptoBulkAll ds ≤ 1048576)
def OpenSpec.upto (s : _root_.Go.ChangeSpec) : _root_.Go.OpenSpec := { _root_.Go.OpenSpec.ofChange s with cond := some uptoSmall }

/-- 'theseuslaw10.NetfileAll', WHERE WHAT IT READS IS OF BULK AT MOST 1048576: true; the input reads as it did. -/
def netfileAllUptoRow : OpenClaim := { program := "ytgapcmodhcdebaa", sum := "69dc466694ec99c1add16cf0dd6e251b083d3fac346f78aa3157f9864120b914", func := "theseus/theseuslaw10.NetfileAll", spec := "netfileAll", unfollowed := true, recurses := true, apart := false, narrowed := true }
def NetfileAllUptoSaid : Prop := netfileAllUptoRow.holds Try.pinned (OpenSpec.upto netfileAllSpec)

/-- 'theseuslaw10.NetfileBack', WHERE WHAT IT READS IS OF BULK AT MOST 1048576: true; the input reads as it did. -/
def netfileBackUptoRow : OpenClaim := { program := "ytgapcmodhcdebaa", sum := "69dc466694ec99c1add16cf0dd6e251b083d3fac346f78aa3157f9864120b914", func := "theseus/theseuslaw10.NetfileBack", spec := "netfileBack", unfollowed := true, recurses := true, apart := false, narrowed := true }
def NetfileBackUptoSaid : Prop := netfileBackUptoRow.holds Try.pinned (OpenSpec.upto netfileBackSpec)

/-- 'theseuslaw10.NetfileTaken', WHERE WHAT IT READS IS OF BULK AT MOST 1048576: true; the input reads as it did. -/
def netfileTakenUptoRow : OpenClaim := { program := "ytgapcmodhcdebaa", sum := "69dc466694ec99c1add16cf0dd6e251b083d3fac346f78aa3157f9864120b914", func := "theseus/theseuslaw10.NetfileTaken", spec := "netfileTaken", unfollowed := true, recurses := true, apart := false, narrowed := true }
def NetfileTakenUptoSaid : Prop := netfileTakenUptoRow.holds Try.pinned (OpenSpec.upto netfileTakenSpec)

/-- 'theseuslaw10.NetfileSize', WHERE WHAT IT READS IS OF BULK AT MOST 1048576: true; the input reads as it did. -/
def netfileSizeUptoRow : OpenClaim := { program := "ytgapcmodhcdebaa", sum := "69dc466694ec99c1add16cf0dd6e251b083d3fac346f78aa3157f9864120b914", func := "theseus/theseuslaw10.NetfileSize", spec := "netfileSize", unfollowed := true, recurses := true, apart := false, narrowed := true }
def NetfileSizeUptoSaid : Prop := netfileSizeUptoRow.holds Try.pinned (OpenSpec.upto netfileSizeSpec)

/-- 'theseuslaw10.NetfileParts', WHERE WHAT IT READS IS OF BULK AT MOST 1048576: true; the input reads as it did. -/
def netfilePartsUptoRow : OpenClaim := { program := "ytgapcmodhcdebaa", sum := "69dc466694ec99c1add16cf0dd6e251b083d3fac346f78aa3157f9864120b914", func := "theseus/theseuslaw10.NetfileParts", spec := "netfileParts", unfollowed := true, recurses := true, apart := false, narrowed := true }
def NetfilePartsUptoSaid : Prop := netfilePartsUptoRow.holds Try.pinned (OpenSpec.upto netfilePartsSpec)

/-- 'theseuslaw10.NetfileOdd', WHERE WHAT IT READS IS OF BULK AT MOST 1048576: true; the input reads as it did. -/
def netfileOddUptoRow : OpenClaim := { program := "ytgapcmodhcdebaa", sum := "69dc466694ec99c1add16cf0dd6e251b083d3fac346f78aa3157f9864120b914", func := "theseus/theseuslaw10.NetfileOdd", spec := "netfileOdd", unfollowed := true, recurses := true, apart := false, narrowed := true }
def NetfileOddUptoSaid : Prop := netfileOddUptoRow.holds Try.pinned (OpenSpec.upto netfileOddSpec)

/-- 'theseuslaw10.NetfileUnlike', WHERE WHAT IT READS IS OF BULK AT MOST 1048576: true; the input reads as it did. -/
def netfileUnlikeUptoRow : OpenClaim := { program := "ytgapcmodhcdebaa", sum := "69dc466694ec99c1add16cf0dd6e251b083d3fac346f78aa3157f9864120b914", func := "theseus/theseuslaw10.NetfileUnlike", spec := "netfileUnlike", unfollowed := true, recurses := true, apart := false, narrowed := true }
def NetfileUnlikeUptoSaid : Prop := netfileUnlikeUptoRow.holds Try.pinned (OpenSpec.upto netfileUnlikeSpec)

end Rows
end Go.Proofs.Ytgapcmodhcdebaa
