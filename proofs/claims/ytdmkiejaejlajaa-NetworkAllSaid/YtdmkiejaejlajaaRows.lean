/-
  No cell of these rows narrows 'for every input' (looked for: loops, veiled, ifaces, maps, wideKeys, modest, calm, conditions, laid).
  DERIVED. THE GIVEN ROWS OF THIS SEAT. 7 by the template 'for every input the law returns true; each argument reads behind the call as it read before'; 0 by the template 'total and deterministic' (their statements: YtdmkiejaejlajaaTotals.lean).
  GIVEN WITH THE SEED: the statements are not yours to turn. If you find one false, say at which input.
  Laid BY PROGRAM, IN A SANDBOX (cutbox-rows.mjs): the forced cells as the released guide's own fill.sh prints them over the translation db1ede45c5eb28ad… (all of the seat's roots in one cut). By AI agents, Wed Nov 11 2026. No macro, syntax, notation, axiom, sorry.
-/
import Derived.Test.YtdmkiejaejlajaaChecked
import GoSem.Claim
import GoSem.ClaimJoined
import GoSem.ClaimMapViews
import Derived.JoinedTies
import Derived.KernelRfl
namespace Go.Proofs.Ytdmkiejaejlajaa
/- THE CELL 'sum', in the pinned program and in every row, IS THE sha256 OF THE DUMP (.gsa) THAT YtdmkiejaejlajaaProg.lean LOADS. Nothing in Lean hashes anything: it is a label: what it is worth is what the hold of that sum in a sandbox is worth. -/
noncomputable def Try.pinned : Pinned := { name := "ytdmkiejaejlajaa", sum := "db1ede45c5eb28adc9d5b9e26c7da14eab58d06589d30352163dcfdd33ab4309", checked := Try.checked }
namespace Rows
def none {H : Type} : Left H := { results := [], args := [] }

/-- 'theseuslaw09.NetworkWalks': WHATEVER THE INPUT: true; the input reads as it did. -/
def networkWalksSpec : ChangeSpec := { name := "networkWalks", fn := fun _ => fun
  | [d1, d2, d3] => { results := [.lit (.bool true)], args := [d1, d2, d3] }
  | _ => none }
def networkWalksRow : OpenClaim := { program := "ytdmkiejaejlajaa", sum := "db1ede45c5eb28adc9d5b9e26c7da14eab58d06589d30352163dcfdd33ab4309", func := "theseus/theseuslaw09.NetworkWalks", spec := "networkWalks", unfollowed := true, recurses := true, apart := false }
def NetworkWalksSaid : Prop := networkWalksRow.holds Try.pinned (OpenSpec.ofChange networkWalksSpec)

/-- ITS FALSE NEIGHBOUR: 'it returns false'. Refute it at one input. -/
def networkWalksWrong : ChangeSpec := { name := "networkWalks", fn := fun _ => fun
  | [d1, d2, d3] => { results := [.lit (.bool false)], args := [d1, d2, d3] }
  | _ => none }
def NetworkWalksWrongFalsely : Prop := networkWalksRow.holds Try.pinned (OpenSpec.ofChange networkWalksWrong)

/-- 'theseuslaw09.NetworkLoops': WHATEVER THE INPUT: true; the input reads as it did. -/
def networkLoopsSpec : ChangeSpec := { name := "networkLoops", fn := fun _ => fun
  | [d1, d2] => { results := [.lit (.bool true)], args := [d1, d2] }
  | _ => none }
def networkLoopsRow : OpenClaim := { program := "ytdmkiejaejlajaa", sum := "db1ede45c5eb28adc9d5b9e26c7da14eab58d06589d30352163dcfdd33ab4309", func := "theseus/theseuslaw09.NetworkLoops", spec := "networkLoops", unfollowed := true, recurses := true, apart := false }
def NetworkLoopsSaid : Prop := networkLoopsRow.holds Try.pinned (OpenSpec.ofChange networkLoopsSpec)

/-- ITS FALSE NEIGHBOUR: 'it returns false'. Refute it at one input. -/
def networkLoopsWrong : ChangeSpec := { name := "networkLoops", fn := fun _ => fun
  | [d1, d2] => { results := [.lit (.bool false)], args := [d1, d2] }
  | _ => none }
def NetworkLoopsWrongFalsely : Prop := networkLoopsRow.holds Try.pinned (OpenSpec.ofChange networkLoopsWrong)

/-- 'theseuslaw09.NetworkLong': WHATEVER THE INPUT: true; the input reads as it did. -/
def networkLongSpec : ChangeSpec := { name := "networkLong", fn := fun _ => fun
  | [d1, d2] => { results := [.lit (.bool true)], args := [d1, d2] }
  | _ => none }
def networkLongRow : OpenClaim := { program := "ytdmkiejaejlajaa", sum := "db1ede45c5eb28adc9d5b9e26c7da14eab58d06589d30352163dcfdd33ab4309", func := "theseus/theseuslaw09.NetworkLong", spec := "networkLong", unfollowed := true, recurses := true, apart := false }
def NetworkLongSaid : Prop := networkLongRow.holds Try.pinned (OpenSpec.ofChange networkLongSpec)

/-- ITS FALSE NEIGHBOUR: 'it returns false'. Refute it at one input. -/
def networkLongWrong : ChangeSpec := { name := "networkLong", fn := fun _ => fun
  | [d1, d2] => { results := [.lit (.bool false)], args := [d1, d2] }
  | _ => none }
def NetworkLongWrongFalsely : Prop := networkLongRow.holds Try.pinned (OpenSpec.ofChange networkLongWrong)

/-- 'theseuslaw09.NetworkApart': WHATEVER THE INPUT: true; the input reads as it did. -/
def networkApartSpec : ChangeSpec := { name := "networkApart", fn := fun _ => fun
  | [d1, d2, d3] => { results := [.lit (.bool true)], args := [d1, d2, d3] }
  | _ => none }
def networkApartRow : OpenClaim := { program := "ytdmkiejaejlajaa", sum := "db1ede45c5eb28adc9d5b9e26c7da14eab58d06589d30352163dcfdd33ab4309", func := "theseus/theseuslaw09.NetworkApart", spec := "networkApart", unfollowed := true, recurses := true, apart := false }
def NetworkApartSaid : Prop := networkApartRow.holds Try.pinned (OpenSpec.ofChange networkApartSpec)

/-- ITS FALSE NEIGHBOUR: 'it returns false'. Refute it at one input. -/
def networkApartWrong : ChangeSpec := { name := "networkApart", fn := fun _ => fun
  | [d1, d2, d3] => { results := [.lit (.bool false)], args := [d1, d2, d3] }
  | _ => none }
def NetworkApartWrongFalsely : Prop := networkApartRow.holds Try.pinned (OpenSpec.ofChange networkApartWrong)

/-- 'theseuslaw09.NetworkMay': WHATEVER THE INPUT: true; the input reads as it did. -/
def networkMaySpec : ChangeSpec := { name := "networkMay", fn := fun _ => fun
  | [d1, d2] => { results := [.lit (.bool true)], args := [d1, d2] }
  | _ => none }
def networkMayRow : OpenClaim := { program := "ytdmkiejaejlajaa", sum := "db1ede45c5eb28adc9d5b9e26c7da14eab58d06589d30352163dcfdd33ab4309", func := "theseus/theseuslaw09.NetworkMay", spec := "networkMay", unfollowed := true, recurses := true, apart := false }
def NetworkMaySaid : Prop := networkMayRow.holds Try.pinned (OpenSpec.ofChange networkMaySpec)

/-- ITS FALSE NEIGHBOUR: 'it returns false'. Refute it at one input. -/
def networkMayWrong : ChangeSpec := { name := "networkMay", fn := fun _ => fun
  | [d1, d2] => { results := [.lit (.bool false)], args := [d1, d2] }
  | _ => none }
def NetworkMayWrongFalsely : Prop := networkMayRow.holds Try.pinned (OpenSpec.ofChange networkMayWrong)

/-- 'theseuslaw09.NetworkAll': WHATEVER THE INPUT: true; the input reads as it did. -/
def networkAllSpec : ChangeSpec := { name := "networkAll", fn := fun _ => fun
  | [d1, d2, d3] => { results := [.lit (.bool true)], args := [d1, d2, d3] }
  | _ => none }
def networkAllRow : OpenClaim := { program := "ytdmkiejaejlajaa", sum := "db1ede45c5eb28adc9d5b9e26c7da14eab58d06589d30352163dcfdd33ab4309", func := "theseus/theseuslaw09.NetworkAll", spec := "networkAll", unfollowed := true, recurses := true, apart := false }
def NetworkAllSaid : Prop := networkAllRow.holds Try.pinned (OpenSpec.ofChange networkAllSpec)

/-- ITS FALSE NEIGHBOUR: 'it returns false'. Refute it at one input. -/
def networkAllWrong : ChangeSpec := { name := "networkAll", fn := fun _ => fun
  | [d1, d2, d3] => { results := [.lit (.bool false)], args := [d1, d2, d3] }
  | _ => none }
def NetworkAllWrongFalsely : Prop := networkAllRow.holds Try.pinned (OpenSpec.ofChange networkAllWrong)

/-- 'theseuslaw09.NetworkPlain': WHATEVER THE INPUT: true; the input reads as it did. -/
def networkPlainSpec : ChangeSpec := { name := "networkPlain", fn := fun _ => fun
  | [d1, d2] => { results := [.lit (.bool true)], args := [d1, d2] }
  | _ => none }
def networkPlainRow : OpenClaim := { program := "ytdmkiejaejlajaa", sum := "db1ede45c5eb28adc9d5b9e26c7da14eab58d06589d30352163dcfdd33ab4309", func := "theseus/theseuslaw09.NetworkPlain", spec := "networkPlain", unfollowed := true, recurses := true, apart := false }
def NetworkPlainSaid : Prop := networkPlainRow.holds Try.pinned (OpenSpec.ofChange networkPlainSpec)

/-- ITS FALSE NEIGHBOUR: 'it returns false'. Refute it at one input. -/
def networkPlainWrong : ChangeSpec := { name := "networkPlain", fn := fun _ => fun
  | [d1, d2] => { results := [.lit (.bool false)], args := [d1, d2] }
  | _ => none }
def NetworkPlainWrongFalsely : Prop := networkPlainRow.holds Try.pinned (OpenSpec.ofChange networkPlainWrong)

/- THE SECOND FORM. 'bulk': how many values and letters a reading holds, each counted each time it is reached (what is shared counts as often as it is met; a slice's spare places count too). A statement '..UptoSaid' is the law's where the arguments, and the package variables that the reading takes, are together of bulk at most 1048576: NARROWER than '..Said'. Prove '..Said' where nothing that the law and all that it calls make is longer than what came in: it says more and counts as full. Else prove '..UptoSaid'. A law counts once. -/
mutual
def uptoBulk {H : Type} : DataW H → Nat
  | .lit (.string bytes) => bytes.length + 1
  | .lit _ => 1
  | .nil => 1
  | .ptr d => uptoBulk d + 1
  | .slice elems spare => uptoBulkAll elems + uptoBulkAll spare + 1
  | .agg parts => uptoBulkAll parts + 1
  | .iface _ d => uptoBulk d + 1
  | .map entries => uptoBulkEntries entries + 1
  | .held _ => 1
def uptoBulkAll {H : Type} : List (DataW H) → Nat
  | [] => 0
  | d :: r => uptoBulk d + uptoBulkAll r
def uptoBulkEntries {H : Type} : List (Lit × DataW H) → Nat
  | [] => 0
  | x :: r => uptoBulkEntry x + uptoBulkEntries r
def uptoBulkEntry {H : Type} : Lit × DataW H → Nat
  | (.string bytes, d) => bytes.length + uptoBulk d + 1
  | (_, d) => uptoBulk d + 1
 end
def uptoSmall : (H : Type) → List (DataW H) → Bool := fun _ ds => decide (uptoBulkAll ds ≤ 1048576)
def OpenSpec.upto (s : _root_.Go.ChangeSpec) : _root_.Go.OpenSpec := { _root_.Go.OpenSpec.ofChange s with cond := some uptoSmall }

/-- 'theseuslaw09.NetworkWalks', WHERE WHAT IT READS IS OF BULK AT MOST 1048576: true; the input reads as it did. -/
def networkWalksUptoRow : OpenClaim := { program := "ytdmkiejaejlajaa", sum := "db1ede45c5eb28adc9d5b9e26c7da14eab58d06589d30352163dcfdd33ab4309", func := "theseus/theseuslaw09.NetworkWalks", spec := "networkWalks", unfollowed := true, recurses := true, apart := false, narrowed := true }
def NetworkWalksUptoSaid : Prop := networkWalksUptoRow.holds Try.pinned (OpenSpec.upto networkWalksSpec)

/-- 'theseuslaw09.NetworkLoops', WHERE WHAT IT READS IS OF BULK AT MOST 1048576: true; the input reads as it did. -/
def networkLoopsUptoRow : OpenClaim := { program := "ytdmkiejaejlajaa", sum := "db1ede45c5eb28adc9d5b9e26c7da14eab58d06589d30352163dcfdd33ab4309", func := "theseus/theseuslaw09.NetworkLoops", spec := "networkLoops", unfollowed := true, recurses := true, apart := false, narrowed := true }
def NetworkLoopsUptoSaid : Prop := networkLoopsUptoRow.holds Try.pinned (OpenSpec.upto networkLoopsSpec)

/-- 'theseuslaw09.NetworkLong', WHERE WHAT IT READS IS OF BULK AT MOST 1048576: true; the input reads as it did. -/
def networkLongUptoRow : OpenClaim := { program := "ytdmkiejaejlajaa", sum := "db1ede45c5eb28adc9d5b9e26c7da14eab58d06589d30352163dcfdd33ab4309", func := "theseus/theseuslaw09.NetworkLong", spec := "networkLong", unfollowed := true, recurses := true, apart := false, narrowed := true }
def NetworkLongUptoSaid : Prop := networkLongUptoRow.holds Try.pinned (OpenSpec.upto networkLongSpec)

/-- 'theseuslaw09.NetworkApart', WHERE WHAT IT READS IS OF BULK AT MOST 1048576: true; the input reads as it did. -/
def networkApartUptoRow : OpenClaim := { program := "ytdmkiejaejlajaa", sum := "db1ede45c5eb28adc9d5b9e26c7da14eab58d06589d30352163dcfdd33ab4309", func := "theseus/theseuslaw09.NetworkApart", spec := "networkApart", unfollowed := true, recurses := true, apart := false, narrowed := true }
def NetworkApartUptoSaid : Prop := networkApartUptoRow.holds Try.pinned (OpenSpec.upto networkApartSpec)

/-- 'theseuslaw09.NetworkMay', WHERE WHAT IT READS IS OF BULK AT MOST 1048576: true; the input reads as it did. -/
def networkMayUptoRow : OpenClaim := { program := "ytdmkiejaejlajaa", sum := "db1ede45c5eb28adc9d5b9e26c7da14eab58d06589d30352163dcfdd33ab4309", func := "theseus/theseuslaw09.NetworkMay", spec := "networkMay", unfollowed := true, recurses := true, apart := false, narrowed := true }
def NetworkMayUptoSaid : Prop := networkMayUptoRow.holds Try.pinned (OpenSpec.upto networkMaySpec)

/-- 'theseuslaw09.NetworkAll', WHERE WHAT IT READS IS OF BULK AT MOST 1048576: true; the input reads as it did. -/
def networkAllUptoRow : OpenClaim := { program := "ytdmkiejaejlajaa", sum := "db1ede45c5eb28adc9d5b9e26c7da14eab58d06589d30352163dcfdd33ab4309", func := "theseus/theseuslaw09.NetworkAll", spec := "networkAll", unfollowed := true, recurses := true, apart := false, narrowed := true }
def NetworkAllUptoSaid : Prop := networkAllUptoRow.holds Try.pinned (OpenSpec.upto networkAllSpec)

/-- 'theseuslaw09.NetworkPlain', WHERE WHAT IT READS IS OF BULK AT MOST 1048576: true; the input reads as it did. -/
def networkPlainUptoRow : OpenClaim := { program := "ytdmkiejaejlajaa", sum := "db1ede45c5eb28adc9d5b9e26c7da14eab58d06589d30352163dcfdd33ab4309", func := "theseus/theseuslaw09.NetworkPlain", spec := "networkPlain", unfollowed := true, recurses := true, apart := false, narrowed := true }
def NetworkPlainUptoSaid : Prop := networkPlainUptoRow.holds Try.pinned (OpenSpec.upto networkPlainSpec)

end Rows
end Go.Proofs.Ytdmkiejaejlajaa
