/-
  No cell of these rows narrows 'for every input' (looked for: loops, veiled, ifaces, maps, wideKeys, modest, calm, conditions, laid).
  DERIVED. THE GIVEN ROWS OF THIS SEAT. 12 by the template 'for every input the law returns true; each argument reads behind the call as it read before'; 0 by the template 'total and deterministic' (their statements: YtijobfkmchbpcaaTotals.lean).
  GIVEN WITH THE SEED: the statements are not yours to turn. If you find one false, say at which input.
  Laid BY PROGRAM, IN A SANDBOX (cutbox-rows.mjs): the forced cells as the released guide's own fill.sh prints them over the translation 8cf079b694f54192… (all of the seat's roots in one cut). By AI agents, Wed Nov 11 2026. No macro, syntax, notation, axiom, sorry.
-/
import Derived.Test.YtijobfkmchbpcaaChecked
import GoSem.Claim
import GoSem.ClaimJoined
import GoSem.ClaimMapViews
import Derived.JoinedTies
import Derived.KernelRfl
namespace Go.Proofs.Ytijobfkmchbpcaa
/- THE CELL 'sum', in the pinned program and in every row, IS THE sha256 OF THE DUMP (.gsa) THAT YtijobfkmchbpcaaProg.lean LOADS. Nothing in Lean hashes anything: it is a label: what it is worth is what the hold of that sum in a sandbox is worth. -/
noncomputable def Try.pinned : Pinned := { name := "ytijobfkmchbpcaa", sum := "8cf079b694f541921c8472bed1fcfed8423e37114b3a4394f242e1521d3b4ece", checked := Try.checked }
namespace Rows
def none {H : Type} : Left H := { results := [], args := [] }

/-- 'theseuslaw08.TableAdds': WHATEVER THE INPUT: true; the input reads as it did. -/
def tableAddsSpec : ChangeSpec := { name := "tableAdds", fn := fun _ => fun
  | [d1, d2, d3] => { results := [.lit (.bool true)], args := [d1, d2, d3] }
  | _ => none }
def tableAddsRow : OpenClaim := { program := "ytijobfkmchbpcaa", sum := "8cf079b694f541921c8472bed1fcfed8423e37114b3a4394f242e1521d3b4ece", func := "theseus/theseuslaw08.TableAdds", spec := "tableAdds", apart := false }
def TableAddsSaid : Prop := tableAddsRow.holds Try.pinned (OpenSpec.ofChange tableAddsSpec)

/-- ITS FALSE NEIGHBOUR: 'it returns false'. Refute it at one input. -/
def tableAddsWrong : ChangeSpec := { name := "tableAdds", fn := fun _ => fun
  | [d1, d2, d3] => { results := [.lit (.bool false)], args := [d1, d2, d3] }
  | _ => none }
def TableAddsWrongFalsely : Prop := tableAddsRow.holds Try.pinned (OpenSpec.ofChange tableAddsWrong)

/-- 'theseuslaw08.TableHosts': WHATEVER THE INPUT: true; the input reads as it did. -/
def tableHostsSpec : ChangeSpec := { name := "tableHosts", fn := fun _ => fun
  | [d1, d2, d3] => { results := [.lit (.bool true)], args := [d1, d2, d3] }
  | _ => none }
def tableHostsRow : OpenClaim := { program := "ytijobfkmchbpcaa", sum := "8cf079b694f541921c8472bed1fcfed8423e37114b3a4394f242e1521d3b4ece", func := "theseus/theseuslaw08.TableHosts", spec := "tableHosts", apart := false }
def TableHostsSaid : Prop := tableHostsRow.holds Try.pinned (OpenSpec.ofChange tableHostsSpec)

/-- ITS FALSE NEIGHBOUR: 'it returns false'. Refute it at one input. -/
def tableHostsWrong : ChangeSpec := { name := "tableHosts", fn := fun _ => fun
  | [d1, d2, d3] => { results := [.lit (.bool false)], args := [d1, d2, d3] }
  | _ => none }
def TableHostsWrongFalsely : Prop := tableHostsRow.holds Try.pinned (OpenSpec.ofChange tableHostsWrong)

/-- 'theseuslaw07.RuleBack': WHATEVER THE INPUT: true; the input reads as it did. -/
def ruleBackSpec : ChangeSpec := { name := "ruleBack", fn := fun _ => fun
  | [d1, d2] => { results := [.lit (.bool true)], args := [d1, d2] }
  | _ => none }
def ruleBackRow : OpenClaim := { program := "ytijobfkmchbpcaa", sum := "8cf079b694f541921c8472bed1fcfed8423e37114b3a4394f242e1521d3b4ece", func := "theseus/theseuslaw07.RuleBack", spec := "ruleBack", unfollowed := true, recurses := true, apart := false }
def RuleBackSaid : Prop := ruleBackRow.holds Try.pinned (OpenSpec.ofChange ruleBackSpec)

/-- ITS FALSE NEIGHBOUR: 'it returns false'. Refute it at one input. -/
def ruleBackWrong : ChangeSpec := { name := "ruleBack", fn := fun _ => fun
  | [d1, d2] => { results := [.lit (.bool false)], args := [d1, d2] }
  | _ => none }
def RuleBackWrongFalsely : Prop := ruleBackRow.holds Try.pinned (OpenSpec.ofChange ruleBackWrong)

/-- 'theseuslaw07.RuleBytes': WHATEVER THE INPUT: true; the input reads as it did. -/
def ruleBytesSpec : ChangeSpec := { name := "ruleBytes", fn := fun _ => fun
  | [d1, d2, d3] => { results := [.lit (.bool true)], args := [d1, d2, d3] }
  | _ => none }
def ruleBytesRow : OpenClaim := { program := "ytijobfkmchbpcaa", sum := "8cf079b694f541921c8472bed1fcfed8423e37114b3a4394f242e1521d3b4ece", func := "theseus/theseuslaw07.RuleBytes", spec := "ruleBytes", unfollowed := true, recurses := true, apart := false }
def RuleBytesSaid : Prop := ruleBytesRow.holds Try.pinned (OpenSpec.ofChange ruleBytesSpec)

/-- ITS FALSE NEIGHBOUR: 'it returns false'. Refute it at one input. -/
def ruleBytesWrong : ChangeSpec := { name := "ruleBytes", fn := fun _ => fun
  | [d1, d2, d3] => { results := [.lit (.bool false)], args := [d1, d2, d3] }
  | _ => none }
def RuleBytesWrongFalsely : Prop := ruleBytesRow.holds Try.pinned (OpenSpec.ofChange ruleBytesWrong)

/-- 'theseuslaw07.RuleMay': WHATEVER THE INPUT: true; the input reads as it did. -/
def ruleMaySpec : ChangeSpec := { name := "ruleMay", fn := fun _ => fun
  | [d1, d2, d3] => { results := [.lit (.bool true)], args := [d1, d2, d3] }
  | _ => none }
def ruleMayRow : OpenClaim := { program := "ytijobfkmchbpcaa", sum := "8cf079b694f541921c8472bed1fcfed8423e37114b3a4394f242e1521d3b4ece", func := "theseus/theseuslaw07.RuleMay", spec := "ruleMay", unfollowed := true, recurses := true, apart := false }
def RuleMaySaid : Prop := ruleMayRow.holds Try.pinned (OpenSpec.ofChange ruleMaySpec)

/-- ITS FALSE NEIGHBOUR: 'it returns false'. Refute it at one input. -/
def ruleMayWrong : ChangeSpec := { name := "ruleMay", fn := fun _ => fun
  | [d1, d2, d3] => { results := [.lit (.bool false)], args := [d1, d2, d3] }
  | _ => none }
def RuleMayWrongFalsely : Prop := ruleMayRow.holds Try.pinned (OpenSpec.ofChange ruleMayWrong)

/-- 'theseuslaw08.TableAll': WHATEVER THE INPUT: true; the input reads as it did. -/
def tableAllSpec : ChangeSpec := { name := "tableAll", fn := fun _ => fun
  | [d1, d2, d3] => { results := [.lit (.bool true)], args := [d1, d2, d3] }
  | _ => none }
def tableAllRow : OpenClaim := { program := "ytijobfkmchbpcaa", sum := "8cf079b694f541921c8472bed1fcfed8423e37114b3a4394f242e1521d3b4ece", func := "theseus/theseuslaw08.TableAll", spec := "tableAll", apart := false }
def TableAllSaid : Prop := tableAllRow.holds Try.pinned (OpenSpec.ofChange tableAllSpec)

/-- ITS FALSE NEIGHBOUR: 'it returns false'. Refute it at one input. -/
def tableAllWrong : ChangeSpec := { name := "tableAll", fn := fun _ => fun
  | [d1, d2, d3] => { results := [.lit (.bool false)], args := [d1, d2, d3] }
  | _ => none }
def TableAllWrongFalsely : Prop := tableAllRow.holds Try.pinned (OpenSpec.ofChange tableAllWrong)

/-- 'theseuslaw08.TableFinds': WHATEVER THE INPUT: true; the input reads as it did. -/
def tableFindsSpec : ChangeSpec := { name := "tableFinds", fn := fun _ => fun
  | [d1, d2, d3] => { results := [.lit (.bool true)], args := [d1, d2, d3] }
  | _ => none }
def tableFindsRow : OpenClaim := { program := "ytijobfkmchbpcaa", sum := "8cf079b694f541921c8472bed1fcfed8423e37114b3a4394f242e1521d3b4ece", func := "theseus/theseuslaw08.TableFinds", spec := "tableFinds", apart := false }
def TableFindsSaid : Prop := tableFindsRow.holds Try.pinned (OpenSpec.ofChange tableFindsSpec)

/-- ITS FALSE NEIGHBOUR: 'it returns false'. Refute it at one input. -/
def tableFindsWrong : ChangeSpec := { name := "tableFinds", fn := fun _ => fun
  | [d1, d2, d3] => { results := [.lit (.bool false)], args := [d1, d2, d3] }
  | _ => none }
def TableFindsWrongFalsely : Prop := tableFindsRow.holds Try.pinned (OpenSpec.ofChange tableFindsWrong)

/-- 'theseuslaw08.TableSpoilt': WHATEVER THE INPUT: true; the input reads as it did. -/
def tableSpoiltSpec : ChangeSpec := { name := "tableSpoilt", fn := fun _ => fun
  | [d1, d2, d3] => { results := [.lit (.bool true)], args := [d1, d2, d3] }
  | _ => none }
def tableSpoiltRow : OpenClaim := { program := "ytijobfkmchbpcaa", sum := "8cf079b694f541921c8472bed1fcfed8423e37114b3a4394f242e1521d3b4ece", func := "theseus/theseuslaw08.TableSpoilt", spec := "tableSpoilt", apart := false }
def TableSpoiltSaid : Prop := tableSpoiltRow.holds Try.pinned (OpenSpec.ofChange tableSpoiltSpec)

/-- ITS FALSE NEIGHBOUR: 'it returns false'. Refute it at one input. -/
def tableSpoiltWrong : ChangeSpec := { name := "tableSpoilt", fn := fun _ => fun
  | [d1, d2, d3] => { results := [.lit (.bool false)], args := [d1, d2, d3] }
  | _ => none }
def TableSpoiltWrongFalsely : Prop := tableSpoiltRow.holds Try.pinned (OpenSpec.ofChange tableSpoiltWrong)

/-- 'theseuslaw08.TableAlone': WHATEVER THE INPUT: true; the input reads as it did. -/
def tableAloneSpec : ChangeSpec := { name := "tableAlone", fn := fun _ => fun
  | [d1, d2, d3] => { results := [.lit (.bool true)], args := [d1, d2, d3] }
  | _ => none }
def tableAloneRow : OpenClaim := { program := "ytijobfkmchbpcaa", sum := "8cf079b694f541921c8472bed1fcfed8423e37114b3a4394f242e1521d3b4ece", func := "theseus/theseuslaw08.TableAlone", spec := "tableAlone", apart := false }
def TableAloneSaid : Prop := tableAloneRow.holds Try.pinned (OpenSpec.ofChange tableAloneSpec)

/-- ITS FALSE NEIGHBOUR: 'it returns false'. Refute it at one input. -/
def tableAloneWrong : ChangeSpec := { name := "tableAlone", fn := fun _ => fun
  | [d1, d2, d3] => { results := [.lit (.bool false)], args := [d1, d2, d3] }
  | _ => none }
def TableAloneWrongFalsely : Prop := tableAloneRow.holds Try.pinned (OpenSpec.ofChange tableAloneWrong)

/-- 'theseuslaw08.TableLess': WHATEVER THE INPUT: true; the input reads as it did. -/
def tableLessSpec : ChangeSpec := { name := "tableLess", fn := fun _ => fun
  | [d1, d2, d3] => { results := [.lit (.bool true)], args := [d1, d2, d3] }
  | _ => none }
def tableLessRow : OpenClaim := { program := "ytijobfkmchbpcaa", sum := "8cf079b694f541921c8472bed1fcfed8423e37114b3a4394f242e1521d3b4ece", func := "theseus/theseuslaw08.TableLess", spec := "tableLess", apart := false }
def TableLessSaid : Prop := tableLessRow.holds Try.pinned (OpenSpec.ofChange tableLessSpec)

/-- ITS FALSE NEIGHBOUR: 'it returns false'. Refute it at one input. -/
def tableLessWrong : ChangeSpec := { name := "tableLess", fn := fun _ => fun
  | [d1, d2, d3] => { results := [.lit (.bool false)], args := [d1, d2, d3] }
  | _ => none }
def TableLessWrongFalsely : Prop := tableLessRow.holds Try.pinned (OpenSpec.ofChange tableLessWrong)

/-- 'theseuslaw07.RuleAll': WHATEVER THE INPUT: true; the input reads as it did. -/
def ruleAllSpec : ChangeSpec := { name := "ruleAll", fn := fun _ => fun
  | [d1, d2, d3] => { results := [.lit (.bool true)], args := [d1, d2, d3] }
  | _ => none }
def ruleAllRow : OpenClaim := { program := "ytijobfkmchbpcaa", sum := "8cf079b694f541921c8472bed1fcfed8423e37114b3a4394f242e1521d3b4ece", func := "theseus/theseuslaw07.RuleAll", spec := "ruleAll", unfollowed := true, recurses := true, apart := false }
def RuleAllSaid : Prop := ruleAllRow.holds Try.pinned (OpenSpec.ofChange ruleAllSpec)

/-- ITS FALSE NEIGHBOUR: 'it returns false'. Refute it at one input. -/
def ruleAllWrong : ChangeSpec := { name := "ruleAll", fn := fun _ => fun
  | [d1, d2, d3] => { results := [.lit (.bool false)], args := [d1, d2, d3] }
  | _ => none }
def RuleAllWrongFalsely : Prop := ruleAllRow.holds Try.pinned (OpenSpec.ofChange ruleAllWrong)

/-- 'theseuslaw07.RuleOrder': WHATEVER THE INPUT: true; the input reads as it did. -/
def ruleOrderSpec : ChangeSpec := { name := "ruleOrder", fn := fun _ => fun
  | [d1, d2, d3] => { results := [.lit (.bool true)], args := [d1, d2, d3] }
  | _ => none }
def ruleOrderRow : OpenClaim := { program := "ytijobfkmchbpcaa", sum := "8cf079b694f541921c8472bed1fcfed8423e37114b3a4394f242e1521d3b4ece", func := "theseus/theseuslaw07.RuleOrder", spec := "ruleOrder", unfollowed := true, recurses := true, apart := false }
def RuleOrderSaid : Prop := ruleOrderRow.holds Try.pinned (OpenSpec.ofChange ruleOrderSpec)

/-- ITS FALSE NEIGHBOUR: 'it returns false'. Refute it at one input. -/
def ruleOrderWrong : ChangeSpec := { name := "ruleOrder", fn := fun _ => fun
  | [d1, d2, d3] => { results := [.lit (.bool false)], args := [d1, d2, d3] }
  | _ => none }
def RuleOrderWrongFalsely : Prop := ruleOrderRow.holds Try.pinned (OpenSpec.ofChange ruleOrderWrong)

/- THE SECOND FORM. 'bulk': how many values and letters a reading holds, each counted each time it is reached (what is shared counts as often as it is met; a slice's spare places count too). A statement '..UptoSaid' is the law's where the arguments, and the package variables that the reading takes, are together of bulk at most 1048576: NARROWER than '..Said'. Prove '..Said' where nothing that the law and all that it calls make is longer than what came in: it says more and counts as full. Else prove '..UptoSaid'. A law counts once. -/
mutual
def uptoBulk {H : Type} : DataW H → Nat
  | .lit (.string bytes) => bytes.length + 1
  | .lit _ => 1
  | .nil => 1
  | .ptr d => uptoBulk d + 1
  | .slice elems spare => uptoBulkAll elems + uptoBulkAll spare + 1
  | .agg parts => uptoBulkAll parts + 1
  | .iface _ d => uptoBulk d + 1
  | .map entries => uptoBulkEntries entries + 1
  | .held _ => 1
def uptoBulkAll {H : Type} : List (DataW H) → Nat
  | [] => 0
  | d :: r => uptoBulk d + uptoBulkAll r
def uptoBulkEntries {H : Type} : List (Lit × DataW H) → Nat
  | [] => 0
  | x :: r => uptoBulkEntry x + uptoBulkEntries r
def uptoBulkEntry {H : Type} : Lit × DataW H → Nat
  | (.string bytes, d) => bytes.length + uptoBulk d + 1
  | (_, d) => uptoBulk d + 1
 end
def uptoSmall : (H : Type) → List (DataW H) → Bool := fun _ ds => decide (uptoBulkAll ds ≤ 1048576)
def OpenSpec.upto (s : _root_.Go.ChangeSpec) : _root_.Go.OpenSpec := { _root_.Go.OpenSpec.ofChange s with cond := some uptoSmall }

/-- 'theseuslaw08.TableAdds', WHERE WHAT IT READS IS OF BULK AT MOST 1048576: true; the input reads as it did. -/
def tableAddsUptoRow : OpenClaim := { program := "ytijobfkmchbpcaa", sum := "8cf079b694f541921c8472bed1fcfed8423e37114b3a4394f242e1521d3b4ece", func := "theseus/theseuslaw08.TableAdds", spec := "tableAdds", apart := false, narrowed := true }
def TableAddsUptoSaid : Prop := tableAddsUptoRow.holds Try.pinned (OpenSpec.upto tableAddsSpec)

/-- 'theseuslaw08.TableHosts', WHERE WHAT IT READS IS OF BULK AT MOST 1048576: true; the input reads as it did. -/
def tableHostsUptoRow : OpenClaim := { program := "ytijobfkmchbpcaa", sum := "8cf079b694f541921c8472bed1fcfed8423e37114b3a4394f242e1521d3b4ece", func := "theseus/theseuslaw08.TableHosts", spec := "tableHosts", apart := false, narrowed := true }
def TableHostsUptoSaid : Prop := tableHostsUptoRow.holds Try.pinned (OpenSpec.upto tableHostsSpec)

/-- 'theseuslaw07.RuleBack', WHERE WHAT IT READS IS OF BULK AT MOST 1048576: true; the input reads as it did. -/
def ruleBackUptoRow : OpenClaim := { program := "ytijobfkmchbpcaa", sum := "8cf079b694f541921c8472bed1fcfed8423e37114b3a4394f242e1521d3b4ece", func := "theseus/theseuslaw07.RuleBack", spec := "ruleBack", unfollowed := true, recurses := true, apart := false, narrowed := true }
def RuleBackUptoSaid : Prop := ruleBackUptoRow.holds Try.pinned (OpenSpec.upto ruleBackSpec)

/-- 'theseuslaw07.RuleBytes', WHERE WHAT IT READS IS OF BULK AT MOST 1048576: true; the input reads as it did. -/
def ruleBytesUptoRow : OpenClaim := { program := "ytijobfkmchbpcaa", sum := "8cf079b694f541921c8472bed1fcfed8423e37114b3a4394f242e1521d3b4ece", func := "theseus/theseuslaw07.RuleBytes", spec := "ruleBytes", unfollowed := true, recurses := true, apart := false, narrowed := true }
def RuleBytesUptoSaid : Prop := ruleBytesUptoRow.holds Try.pinned (OpenSpec.upto ruleBytesSpec)

/-- 'theseuslaw07.RuleMay', WHERE WHAT IT READS IS OF BULK AT MOST 1048576: true; the input reads as it did. -/
def ruleMayUptoRow : OpenClaim := { program := "ytijobfkmchbpcaa", sum := "8cf079b694f541921c8472bed1fcfed8423e37114b3a4394f242e1521d3b4ece", func := "theseus/theseuslaw07.RuleMay", spec := "ruleMay", unfollowed := true, recurses := true, apart := false, narrowed := true }
def RuleMayUptoSaid : Prop := ruleMayUptoRow.holds Try.pinned (OpenSpec.upto ruleMaySpec)

/-- 'theseuslaw08.TableAll', WHERE WHAT IT READS IS OF BULK AT MOST 1048576: true; the input reads as it did. -/
def tableAllUptoRow : OpenClaim := { program := "ytijobfkmchbpcaa", sum := "8cf079b694f541921c8472bed1fcfed8423e37114b3a4394f242e1521d3b4ece", func := "theseus/theseuslaw08.TableAll", spec := "tableAll", apart := false, narrowed := true }
def TableAllUptoSaid : Prop := tableAllUptoRow.holds Try.pinned (OpenSpec.upto tableAllSpec)

/-- 'theseuslaw08.TableFinds', WHERE WHAT IT READS IS OF BULK AT MOST 1048576: true; the input reads as it did. -/
def tableFindsUptoRow : OpenClaim := { program := "ytijobfkmchbpcaa", sum := "8cf079b694f541921c8472bed1fcfed8423e37114b3a4394f242e1521d3b4ece", func := "theseus/theseuslaw08.TableFinds", spec := "tableFinds", apart := false, narrowed := true }
def TableFindsUptoSaid : Prop := tableFindsUptoRow.holds Try.pinned (OpenSpec.upto tableFindsSpec)

/-- 'theseuslaw08.TableSpoilt', WHERE WHAT IT READS IS OF BULK AT MOST 1048576: true; the input reads as it did. -/
def tableSpoiltUptoRow : OpenClaim := { program := "ytijobfkmchbpcaa", sum := "8cf079b694f541921c8472bed1fcfed8423e37114b3a4394f242e1521d3b4ece", func := "theseus/theseuslaw08.TableSpoilt", spec := "tableSpoilt", apart := false, narrowed := true }
def TableSpoiltUptoSaid : Prop := tableSpoiltUptoRow.holds Try.pinned (OpenSpec.upto tableSpoiltSpec)

/-- 'theseuslaw08.TableAlone', WHERE WHAT IT READS IS OF BULK AT MOST 1048576: true; the input reads as it did. -/
def tableAloneUptoRow : OpenClaim := { program := "ytijobfkmchbpcaa", sum := "8cf079b694f541921c8472bed1fcfed8423e37114b3a4394f242e1521d3b4ece", func := "theseus/theseuslaw08.TableAlone", spec := "tableAlone", apart := false, narrowed := true }
def TableAloneUptoSaid : Prop := tableAloneUptoRow.holds Try.pinned (OpenSpec.upto tableAloneSpec)

/-- 'theseuslaw08.TableLess', WHERE WHAT IT READS IS OF BULK AT MOST 1048576: true; the input reads as it did. -/
def tableLessUptoRow : OpenClaim := { program := "ytijobfkmchbpcaa", sum := "8cf079b694f541921c8472bed1fcfed8423e37114b3a4394f242e1521d3b4ece", func := "theseus/theseuslaw08.TableLess", spec := "tableLess", apart := false, narrowed := true }
def TableLessUptoSaid : Prop := tableLessUptoRow.holds Try.pinned (OpenSpec.upto tableLessSpec)

/-- 'theseuslaw07.RuleAll', WHERE WHAT IT READS IS OF BULK AT MOST 1048576: true; the input reads as it did. -/
def ruleAllUptoRow : OpenClaim := { program := "ytijobfkmchbpcaa", sum := "8cf079b694f541921c8472bed1fcfed8423e37114b3a4394f242e1521d3b4ece", func := "theseus/theseuslaw07.RuleAll", spec := "ruleAll", unfollowed := true, recurses := true, apart := false, narrowed := true }
def RuleAllUptoSaid : Prop := ruleAllUptoRow.holds Try.pinned (OpenSpec.upto ruleAllSpec)

/-- 'theseuslaw07.RuleOrder', WHERE WHAT IT READS IS OF BULK AT MOST 1048576: true; the input reads as it did. -/
def ruleOrderUptoRow : OpenClaim := { program := "ytijobfkmchbpcaa", sum := "8cf079b694f541921c8472bed1fcfed8423e37114b3a4394f242e1521d3b4ece", func := "theseus/theseuslaw07.RuleOrder", spec := "ruleOrder", unfollowed := true, recurses := true, apart := false, narrowed := true }
def RuleOrderUptoSaid : Prop := ruleOrderUptoRow.holds Try.pinned (OpenSpec.upto ruleOrderSpec)

end Rows
end Go.Proofs.Ytijobfkmchbpcaa
