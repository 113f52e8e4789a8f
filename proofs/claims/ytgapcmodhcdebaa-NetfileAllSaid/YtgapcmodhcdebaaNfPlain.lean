/-
  Networks as bytes: plain lists.
-/
import Derived.Test.YtgapcmodhcdebaaNetPlain
import Derived.Test.YtgapcmodhcdebaaNfMd
import Derived.Test.YtgapcmodhcdebaaNfMc
namespace Go.Th
set_option linter.unusedVariables false
end Go.Th
namespace Go.Proofs.Ytgapcmodhcdebaa
open Go.Th
def lrows (l : List Ru) : List UInt8 := l.flatMap fun r => pre r 4
def lbody (l : List Ru) : List UInt8 := gput l.length ++ lrows l
def nrows (ns : List (List Ru)) : List UInt8 := ns.flatMap fun l => fsec 84 (lbody l)
/-- What stands between magic and sum. -/
def nbody (ns : List (List Ru)) : List UInt8 := gput ns.length ++ nrows ns
theorem lrows_length (l : List Ru) : (lrows l).length = 8 * l.length := by
  induction l with
  | nil => rfl
  | cons r l ih =>
    have e : lrows (r :: l) = pre r 4 ++ lrows l := by simp [lrows]
    rw [e, List.length_append, pre_length, ih, List.length_cons]
    omega
theorem lrows_take {l : List Ru} {k : Nat} {r : Ru} (h : l[k]? = some r) : lrows (l.take (k + 1)) = lrows (l.take k) ++ pre r 4 := by
  unfold lrows
  rw [List.take_add_one, h]
  simp
theorem nrows_take {ns : List (List Ru)} {k : Nat} {l : List Ru} (h : ns[k]? = some l) : nrows (ns.take (k + 1)) = nrows (ns.take k) ++ fsec 84 (lbody l) := by
  unfold nrows
  rw [List.take_add_one, h]
  simp
theorem lbody_length (l : List Ru) : (lbody l).length = gsize l.length + 8 * l.length := by simp [lbody, lrows_length, gput_length]
theorem nrows_le (ns : List (List Ru)) (h : ∀ l ∈ ns, l.length < 268435456) : (nrows ns).length ≤ 9 * ns.length + 8 * nsize ns := by
  induction ns with
  | nil => simp [nrows, nsize]
  | cons l ls ih =>
    have e : nrows (l :: ls) = fsec 84 (lbody l) ++ nrows ls := by simp [nrows]
    have h1 := ih (fun x hx => h x (by simp [hx]))
    have h2 := gsize_pos l.length
    have h3 := gsize_pos (lbody l).length
    rw [e, List.length_append, fsec_length, List.length_cons]
    have h4 := lbody_length l
    unfold nsize at h1 ⊢
    simp only [List.map_cons, List.sum_cons]
    omega
end Go.Proofs.Ytgapcmodhcdebaa
