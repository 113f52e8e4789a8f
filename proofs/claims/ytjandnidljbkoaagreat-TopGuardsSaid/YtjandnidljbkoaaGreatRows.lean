/-
  No cell of these rows narrows 'for every input' (looked for: loops, veiled, ifaces, maps, wideKeys, modest, calm, conditions, laid).
  DERIVED. THE GIVEN ROWS OF THIS SEAT. 4 by the template 'for every input the law returns true; each argument reads behind the call as it read before'; 0 by the template 'total and deterministic' (their statements: YtjandnidljbkoaaGreatTotals.lean).
  GIVEN WITH THE SEED: the statements are not yours to turn. If you find one false, say at which input.
  Laid BY PROGRAM, IN A SANDBOX (cutbox-rows.mjs): the forced cells as the released guide's own fill.sh prints them over the translation f04d956d06e093cb… (all of the seat's roots in one cut). By AI agents, Wed Nov 11 2026. No macro, syntax, notation, axiom, sorry.
-/
import Derived.Test.YtjandnidljbkoaaGreatChecked
import GoSem.Claim
import GoSem.ClaimJoined
import GoSem.ClaimMapViews
import Derived.JoinedTies
import Derived.KernelRfl
namespace Go.Proofs.YtjandnidljbkoaaGreat
/- THE CELL 'sum', in the pinned program and in every row, IS THE sha256 OF THE DUMP (.gsa) THAT YtjandnidljbkoaaGreatProg.lean LOADS. Nothing in Lean hashes anything: it is a label: what it is worth is what the hold of that sum in a sandbox is worth. -/
noncomputable def Tryz.pinned : Pinned := { name := "ytjandnidljbkoaagreat", sum := "f04d956d06e093cb2cabdc495752dab2c1dc55417b43666e70298f00edebbad2", checked := Tryz.checked }
namespace Rows
def none {H : Type} : Left H := { results := [], args := [] }

/-- 'theseustop.TopSound': WHATEVER THE INPUT: true; the input reads as it did. -/
def topSoundSpec : ChangeSpec := { name := "topSound", fn := fun _ => fun
  | [d1, d2, d3] => { results := [.lit (.bool true)], args := [d1, d2, d3] }
  | _ => none }
def topSoundRow : OpenClaim := { program := "ytjandnidljbkoaagreat", sum := "f04d956d06e093cb2cabdc495752dab2c1dc55417b43666e70298f00edebbad2", func := "theseus/theseustop.TopSound", spec := "topSound", unfollowed := true, recurses := true, apart := false }
def TopSoundSaid : Prop := topSoundRow.holds Tryz.pinned (OpenSpec.ofChange topSoundSpec)

/-- ITS FALSE NEIGHBOUR: 'it returns false'. Refute it at one input. -/
def topSoundWrong : ChangeSpec := { name := "topSound", fn := fun _ => fun
  | [d1, d2, d3] => { results := [.lit (.bool false)], args := [d1, d2, d3] }
  | _ => none }
def TopSoundWrongFalsely : Prop := topSoundRow.holds Tryz.pinned (OpenSpec.ofChange topSoundWrong)

/-- 'theseustop.TopFinds': WHATEVER THE INPUT: true; the input reads as it did. -/
def topFindsSpec : ChangeSpec := { name := "topFinds", fn := fun _ => fun
  | [d1, d2] => { results := [.lit (.bool true)], args := [d1, d2] }
  | _ => none }
def topFindsRow : OpenClaim := { program := "ytjandnidljbkoaagreat", sum := "f04d956d06e093cb2cabdc495752dab2c1dc55417b43666e70298f00edebbad2", func := "theseus/theseustop.TopFinds", spec := "topFinds", unfollowed := true, recurses := true, apart := false }
def TopFindsSaid : Prop := topFindsRow.holds Tryz.pinned (OpenSpec.ofChange topFindsSpec)

/-- ITS FALSE NEIGHBOUR: 'it returns false'. Refute it at one input. -/
def topFindsWrong : ChangeSpec := { name := "topFinds", fn := fun _ => fun
  | [d1, d2] => { results := [.lit (.bool false)], args := [d1, d2] }
  | _ => none }
def TopFindsWrongFalsely : Prop := topFindsRow.holds Tryz.pinned (OpenSpec.ofChange topFindsWrong)

/-- 'theseustop.TopMerges': WHATEVER THE INPUT: true; the input reads as it did. -/
def topMergesSpec : ChangeSpec := { name := "topMerges", fn := fun _ => fun
  | [d1, d2] => { results := [.lit (.bool true)], args := [d1, d2] }
  | _ => none }
def topMergesRow : OpenClaim := { program := "ytjandnidljbkoaagreat", sum := "f04d956d06e093cb2cabdc495752dab2c1dc55417b43666e70298f00edebbad2", func := "theseus/theseustop.TopMerges", spec := "topMerges", unfollowed := true, recurses := true, apart := false }
def TopMergesSaid : Prop := topMergesRow.holds Tryz.pinned (OpenSpec.ofChange topMergesSpec)

/-- ITS FALSE NEIGHBOUR: 'it returns false'. Refute it at one input. -/
def topMergesWrong : ChangeSpec := { name := "topMerges", fn := fun _ => fun
  | [d1, d2] => { results := [.lit (.bool false)], args := [d1, d2] }
  | _ => none }
def TopMergesWrongFalsely : Prop := topMergesRow.holds Tryz.pinned (OpenSpec.ofChange topMergesWrong)

/-- 'theseustop.TopGuards': WHATEVER THE INPUT: true; the input reads as it did. -/
def topGuardsSpec : ChangeSpec := { name := "topGuards", fn := fun _ => fun
  | [d1, d2, d3] => { results := [.lit (.bool true)], args := [d1, d2, d3] }
  | _ => none }
def topGuardsRow : OpenClaim := { program := "ytjandnidljbkoaagreat", sum := "f04d956d06e093cb2cabdc495752dab2c1dc55417b43666e70298f00edebbad2", func := "theseus/theseustop.TopGuards", spec := "topGuards", unfollowed := true, recurses := true, apart := false }
def TopGuardsSaid : Prop := topGuardsRow.holds Tryz.pinned (OpenSpec.ofChange topGuardsSpec)

/-- ITS FALSE NEIGHBOUR: 'it returns false'. Refute it at one input. -/
def topGuardsWrong : ChangeSpec := { name := "topGuards", fn := fun _ => fun
  | [d1, d2, d3] => { results := [.lit (.bool false)], args := [d1, d2, d3] }
  | _ => none }
def TopGuardsWrongFalsely : Prop := topGuardsRow.holds Tryz.pinned (OpenSpec.ofChange topGuardsWrong)

/- THE SECOND FORM. 'bulk': how many values and letters a reading holds, each counted each time it is reached (what is shared counts as often as it is met; a slice's spare places count too). A statement '..UptoSaid' is the law's where the arguments, and the package variables that the reading takes, are together of bulk at most 1048576: NARROWER than '..Said'. Prove '..Said' where nothing that the law and all that it calls make is longer than what came in: it says more and counts as full. Else prove '..UptoSaid'. A law counts once. -/
mutual
def uptoBulk {H : Type} : DataW H → Nat
  | .lit (.string bytes) => bytes.length + 1
  | .lit _ => 1
  | .nil => 1
  | .ptr d => uptoBulk d + 1
  | .slice elems spare => uptoBulkAll elems + uptoBulkAll spare + 1
  | .agg parts => uptoBulkAll parts + 1
  | .iface _ d => uptoBulk d + 1
  | .map entries => uptoBulkEntries entries + 1
  | .held _ => 1
def uptoBulkAll {H : Type} : List (DataW H) → Nat
  | [] => 0
  | d :: r => uptoBulk d + uptoBulkAll r
def uptoBulkEntries {H : Type} : List (Lit × DataW H) → Nat
  | [] => 0
  | x :: r => uptoBulkEntry x + uptoBulkEntries r
def uptoBulkEntry {H : Type} : Lit × DataW H → Nat
  | (.string bytes, d) => bytes.length + uptoBulk d + 1
  | (_, d) => uptoBulk d + 1
 end
def uptoSmall : (H : Type) → List (DataW H) → Bool := fun _ ds => decide (uptoBulkAll ds ≤ 1048576)
def OpenSpec.upto (s : _root_.Go.ChangeSpec) : _root_.Go.OpenSpec := { _root_.Go.OpenSpec.ofChange s with cond := some uptoSmall }

/-- 'theseustop.TopSound', WHERE WHAT IT READS IS OF BULK AT MOST 1048576: true; the input reads as it did. -/
def topSoundUptoRow : OpenClaim := { program := "ytjandnidljbkoaagreat", sum := "f04d956d06e093cb2cabdc495752dab2c1dc55417b43666e70298f00edebbad2", func := "theseus/theseustop.TopSound", spec := "topSound", unfollowed := true, recurses := true, apart := false, narrowed := true }
def TopSoundUptoSaid : Prop := topSoundUptoRow.holds Tryz.pinned (OpenSpec.upto topSoundSpec)

/-- 'theseustop.TopFinds', WHERE WHAT IT READS IS OF BULK AT MOST 1048576: true; the input reads as it did. -/
def topFindsUptoRow : OpenClaim := { program := "ytjandnidljbkoaagreat", sum := "f04d956d06e093cb2cabdc495752dab2c1dc55417b43666e70298f00edebbad2", func := "theseus/theseustop.TopFinds", spec := "topFinds", unfollowed := true, recurses := true, apart := false, narrowed := true }
def TopFindsUptoSaid : Prop := topFindsUptoRow.holds Tryz.pinned (OpenSpec.upto topFindsSpec)

/-- 'theseustop.TopMerges', WHERE WHAT IT READS IS OF BULK AT MOST 1048576: true; the input reads as it did. -/
def topMergesUptoRow : OpenClaim := { program := "ytjandnidljbkoaagreat", sum := "f04d956d06e093cb2cabdc495752dab2c1dc55417b43666e70298f00edebbad2", func := "theseus/theseustop.TopMerges", spec := "topMerges", unfollowed := true, recurses := true, apart := false, narrowed := true }
def TopMergesUptoSaid : Prop := topMergesUptoRow.holds Tryz.pinned (OpenSpec.upto topMergesSpec)

/-- 'theseustop.TopGuards', WHERE WHAT IT READS IS OF BULK AT MOST 1048576: true; the input reads as it did. -/
def topGuardsUptoRow : OpenClaim := { program := "ytjandnidljbkoaagreat", sum := "f04d956d06e093cb2cabdc495752dab2c1dc55417b43666e70298f00edebbad2", func := "theseus/theseustop.TopGuards", spec := "topGuards", unfollowed := true, recurses := true, apart := false, narrowed := true }
def TopGuardsUptoSaid : Prop := topGuardsUptoRow.holds Tryz.pinned (OpenSpec.upto topGuardsSpec)

end Rows
end Go.Proofs.YtjandnidljbkoaaGreat
