/-
  No cell of these rows narrows 'for every input' (looked for: loops, veiled, ifaces, maps, wideKeys, modest, calm, conditions, laid).
  DERIVED. THE GIVEN ROWS OF THIS SEAT. 5 by the template 'for every input the law returns true; each argument reads behind the call as it read before'; 0 by the template 'total and deterministic' (their statements: YtjambnlocjjjpaaTotals.lean).
  GIVEN WITH THE SEED: the statements are not yours to turn. If you find one false, say at which input.
  Laid BY PROGRAM, IN A SANDBOX (cutbox-rows.mjs): the forced cells as the released guide's own fill.sh prints them over the translation 78188298a46ec37f… (all of the seat's roots in one cut). By AI agents, Wed Nov 11 2026. No macro, syntax, notation, axiom, sorry.
-/
import Derived.Test.YtjambnlocjjjpaaChecked
import GoSem.Claim
import GoSem.ClaimJoined
import GoSem.ClaimMapViews
import Derived.JoinedTies
import Derived.KernelRfl
namespace Go.Proofs.Ytjambnlocjjjpaa
/- THE CELL 'sum', in the pinned program and in every row, IS THE sha256 OF THE DUMP (.gsa) THAT YtjambnlocjjjpaaProg.lean LOADS. Nothing in Lean hashes anything: it is a label: what it is worth is what the hold of that sum in a sandbox is worth. -/
noncomputable def Try.pinned : Pinned := { name := "ytjambnlocjjjpaa", sum := "78188298a46ec37fd9df01b827cbdb5ccc34663ac73ae0c6570825faf4edb653", checked := Try.checked }
namespace Rows
def none {H : Type} : Left H := { results := [], args := [] }

/-- 'theseuslaw18.CertfileParts': WHATEVER THE INPUT: true; the input reads as it did. -/
def certfilePartsSpec : ChangeSpec := { name := "certfileParts", fn := fun _ => fun
  | [d1, d2] => { results := [.lit (.bool true)], args := [d1, d2] }
  | _ => none }
def certfilePartsRow : OpenClaim := { program := "ytjambnlocjjjpaa", sum := "78188298a46ec37fd9df01b827cbdb5ccc34663ac73ae0c6570825faf4edb653", func := "theseus/theseuslaw18.CertfileParts", spec := "certfileParts", unfollowed := true, recurses := true, apart := false }
def CertfilePartsSaid : Prop := certfilePartsRow.holds Try.pinned (OpenSpec.ofChange certfilePartsSpec)

/-- ITS FALSE NEIGHBOUR: 'it returns false'. Refute it at one input. -/
def certfilePartsWrong : ChangeSpec := { name := "certfileParts", fn := fun _ => fun
  | [d1, d2] => { results := [.lit (.bool false)], args := [d1, d2] }
  | _ => none }
def CertfilePartsWrongFalsely : Prop := certfilePartsRow.holds Try.pinned (OpenSpec.ofChange certfilePartsWrong)

/-- 'theseuslaw18.CertfileUnlike': WHATEVER THE INPUT: true; the input reads as it did. -/
def certfileUnlikeSpec : ChangeSpec := { name := "certfileUnlike", fn := fun _ => fun
  | [d1, d2, d3] => { results := [.lit (.bool true)], args := [d1, d2, d3] }
  | _ => none }
def certfileUnlikeRow : OpenClaim := { program := "ytjambnlocjjjpaa", sum := "78188298a46ec37fd9df01b827cbdb5ccc34663ac73ae0c6570825faf4edb653", func := "theseus/theseuslaw18.CertfileUnlike", spec := "certfileUnlike", unfollowed := true, recurses := true, apart := false }
def CertfileUnlikeSaid : Prop := certfileUnlikeRow.holds Try.pinned (OpenSpec.ofChange certfileUnlikeSpec)

/-- ITS FALSE NEIGHBOUR: 'it returns false'. Refute it at one input. -/
def certfileUnlikeWrong : ChangeSpec := { name := "certfileUnlike", fn := fun _ => fun
  | [d1, d2, d3] => { results := [.lit (.bool false)], args := [d1, d2, d3] }
  | _ => none }
def CertfileUnlikeWrongFalsely : Prop := certfileUnlikeRow.holds Try.pinned (OpenSpec.ofChange certfileUnlikeWrong)

/-- 'theseuslaw18.CertfileOdd': WHATEVER THE INPUT: true; the input reads as it did. -/
def certfileOddSpec : ChangeSpec := { name := "certfileOdd", fn := fun _ => fun
  | [d1, d2] => { results := [.lit (.bool true)], args := [d1, d2] }
  | _ => none }
def certfileOddRow : OpenClaim := { program := "ytjambnlocjjjpaa", sum := "78188298a46ec37fd9df01b827cbdb5ccc34663ac73ae0c6570825faf4edb653", func := "theseus/theseuslaw18.CertfileOdd", spec := "certfileOdd", unfollowed := true, recurses := true, apart := false }
def CertfileOddSaid : Prop := certfileOddRow.holds Try.pinned (OpenSpec.ofChange certfileOddSpec)

/-- ITS FALSE NEIGHBOUR: 'it returns false'. Refute it at one input. -/
def certfileOddWrong : ChangeSpec := { name := "certfileOdd", fn := fun _ => fun
  | [d1, d2] => { results := [.lit (.bool false)], args := [d1, d2] }
  | _ => none }
def CertfileOddWrongFalsely : Prop := certfileOddRow.holds Try.pinned (OpenSpec.ofChange certfileOddWrong)

/-- 'theseuslaw18.CertfileTaken': WHATEVER THE INPUT: true; the input reads as it did. -/
def certfileTakenSpec : ChangeSpec := { name := "certfileTaken", fn := fun _ => fun
  | [d] => { results := [.lit (.bool true)], args := [d] }
  | _ => none }
def certfileTakenRow : OpenClaim := { program := "ytjambnlocjjjpaa", sum := "78188298a46ec37fd9df01b827cbdb5ccc34663ac73ae0c6570825faf4edb653", func := "theseus/theseuslaw18.CertfileTaken", spec := "certfileTaken", unfollowed := true, recurses := true, apart := false }
def CertfileTakenSaid : Prop := certfileTakenRow.holds Try.pinned (OpenSpec.ofChange certfileTakenSpec)

/-- ITS FALSE NEIGHBOUR: 'it returns false'. Refute it at one input. -/
def certfileTakenWrong : ChangeSpec := { name := "certfileTaken", fn := fun _ => fun
  | [d] => { results := [.lit (.bool false)], args := [d] }
  | _ => none }
def CertfileTakenWrongFalsely : Prop := certfileTakenRow.holds Try.pinned (OpenSpec.ofChange certfileTakenWrong)

/-- 'theseuslaw18.CertfileBack': WHATEVER THE INPUT: true; the input reads as it did. -/
def certfileBackSpec : ChangeSpec := { name := "certfileBack", fn := fun _ => fun
  | [d1, d2, d3] => { results := [.lit (.bool true)], args := [d1, d2, d3] }
  | _ => none }
def certfileBackRow : OpenClaim := { program := "ytjambnlocjjjpaa", sum := "78188298a46ec37fd9df01b827cbdb5ccc34663ac73ae0c6570825faf4edb653", func := "theseus/theseuslaw18.CertfileBack", spec := "certfileBack", unfollowed := true, recurses := true, apart := false }
def CertfileBackSaid : Prop := certfileBackRow.holds Try.pinned (OpenSpec.ofChange certfileBackSpec)

/-- ITS FALSE NEIGHBOUR: 'it returns false'. Refute it at one input. -/
def certfileBackWrong : ChangeSpec := { name := "certfileBack", fn := fun _ => fun
  | [d1, d2, d3] => { results := [.lit (.bool false)], args := [d1, d2, d3] }
  | _ => none }
def CertfileBackWrongFalsely : Prop := certfileBackRow.holds Try.pinned (OpenSpec.ofChange certfileBackWrong)

/- THE SECOND FORM. 'bulk': how many values and letters a reading holds, each counted each time it is reached (what is shared counts as often as it is met; a slice's spare places count too). A statement '..UptoSaid' is the law's where the arguments, and the package variables that the reading takes, are together of bulk at most 1048576: NARROWER than '..Said'. Prove '..Said' where nothing that the law and all that it calls make is longer than what came in: it says more and counts as full. Else prove '..UptoSaid'. A law counts once. -/
mutual
def uptoBulk {H : Type} : DataW H → Nat
  | .lit (.string bytes) => bytes.length + 1
  | .lit _ => 1
  | .nil => 1
  | .ptr d => uptoBulk d + 1
  | .slice elems spare => uptoBulkAll elems + uptoBulkAll spare + 1
  | .agg parts => uptoBulkAll parts + 1
  | .iface _ d => uptoBulk d + 1
  | .map entries => uptoBulkEntries entries + 1
  | .held _ => 1
def uptoBulkAll {H : Type} : List (DataW H) → Nat
  | [] => 0
  | d :: r => uptoBulk d + uptoBulkAll r
def uptoBulkEntries {H : Type} : List (Lit × DataW H) → Nat
  | [] => 0
  | x :: r => uptoBulkEntry x + uptoBulkEntries r
def uptoBulkEntry {H : Type} : Lit × DataW H → Nat
  | (.string bytes, d) => bytes.length + uptoBulk d + 1
  | (_, d) => uptoBulk d + 1
 end
def uptoSmall : (H : Type) → List (DataW H) → Bool := fun _ ds => decide (uptoBulkAll ds ≤ 1048576)
def OpenSpec.upto (s : _root_.Go.ChangeSpec) : _root_.Go.OpenSpec := { _root_.Go.OpenSpec.ofChange s with cond := some uptoSmall }

/-- 'theseuslaw18.CertfileParts', WHERE WHAT IT READS IS OF BULK AT MOST 1048576: true; the input reads as it did. -/
def certfilePartsUptoRow : OpenClaim := { program := "ytjambnlocjjjpaa", sum := "78188298a46ec37fd9df01b827cbdb5ccc34663ac73ae0c6570825faf4edb653", func := "theseus/theseuslaw18.CertfileParts", spec := "certfileParts", unfollowed := true, recurses := true, apart := false, narrowed := true }
def CertfilePartsUptoSaid : Prop := certfilePartsUptoRow.holds Try.pinned (OpenSpec.upto certfilePartsSpec)

/-- 'theseuslaw18.CertfileUnlike', WHERE WHAT IT READS IS OF BULK AT MOST 1048576: true; the input reads as it did. -/
def certfileUnlikeUptoRow : OpenClaim := { program := "ytjambnlocjjjpaa", sum := "78188298a46ec37fd9df01b827cbdb5ccc34663ac73ae0c6570825faf4edb653", func := "theseus/theseuslaw18.CertfileUnlike", spec := "certfileUnlike", unfollowed := true, recurses := true, apart := false, narrowed := true }
def CertfileUnlikeUptoSaid : Prop := certfileUnlikeUptoRow.holds Try.pinned (OpenSpec.upto certfileUnlikeSpec)

/-- 'theseuslaw18.CertfileOdd', WHERE WHAT IT READS IS OF BULK AT MOST 1048576: true; the input reads as it did. -/
def certfileOddUptoRow : OpenClaim := { program := "ytjambnlocjjjpaa", sum := "78188298a46ec37fd9df01b827cbdb5ccc34663ac73ae0c6570825faf4edb653", func := "theseus/theseuslaw18.CertfileOdd", spec := "certfileOdd", unfollowed := true, recurses := true, apart := false, narrowed := true }
def CertfileOddUptoSaid : Prop := certfileOddUptoRow.holds Try.pinned (OpenSpec.upto certfileOddSpec)

/-- 'theseuslaw18.CertfileTaken', WHERE WHAT IT READS IS OF BULK AT MOST 1048576: true; the input reads as it did. -/
def certfileTakenUptoRow : OpenClaim := { program := "ytjambnlocjjjpaa", sum := "78188298a46ec37fd9df01b827cbdb5ccc34663ac73ae0c6570825faf4edb653", func := "theseus/theseuslaw18.CertfileTaken", spec := "certfileTaken", unfollowed := true, recurses := true, apart := false, narrowed := true }
def CertfileTakenUptoSaid : Prop := certfileTakenUptoRow.holds Try.pinned (OpenSpec.upto certfileTakenSpec)

/-- 'theseuslaw18.CertfileBack', WHERE WHAT IT READS IS OF BULK AT MOST 1048576: true; the input reads as it did. -/
def certfileBackUptoRow : OpenClaim := { program := "ytjambnlocjjjpaa", sum := "78188298a46ec37fd9df01b827cbdb5ccc34663ac73ae0c6570825faf4edb653", func := "theseus/theseuslaw18.CertfileBack", spec := "certfileBack", unfollowed := true, recurses := true, apart := false, narrowed := true }
def CertfileBackUptoSaid : Prop := certfileBackUptoRow.holds Try.pinned (OpenSpec.upto certfileBackSpec)

end Rows
end Go.Proofs.Ytjambnlocjjjpaa
