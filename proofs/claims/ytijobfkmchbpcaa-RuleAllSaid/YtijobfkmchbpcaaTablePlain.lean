/-
  Tables: rows of rules. Plain lists, no program in sight.
-/
import Derived.Test.YtijobfkmchbpcaaRuleMem
namespace Go.Th
def Ru.zero : Ru := ⟨0, 0, 0, 0⟩
/-- Find. -/
def fstep (x : Int) (st : Ru × Bool) (r : Ru) : Ru × Bool := if r.holds x = false then st else if st.2 = true ∧ r.n ≤ st.1.n then st else (r, true)
def tfind (l : List Ru) (x : Int) : Ru × Bool := l.foldl (fstep x) (Ru.zero, false)
theorem tfind_snoc {l : List Ru} {k : Nat} {r : Ru} (x : Int) (h : l[k]? = some r) : tfind (l.take (k + 1)) x = fstep x (tfind (l.take k) x) r := by
  unfold tfind
  rw [List.take_add_one, h, List.foldl_append]
  rfl
def tnext (l : List Ru) (x : Int) : Int × Bool := if (tfind l x).2 = true ∧ (tfind l x).1.act = 1 then ((tfind l x).1.next, true) else (0, false)
/-! Fit: a row of rules, each put in its place. -/
def below (r : Ru) (s : Ru) : Bool := decide (s.cmp r < 0)
def place (out : List Ru) (r : Ru) : Nat := (out.takeWhile (below r)).length
def ins (out : List Ru) (r : Ru) : List Ru :=
  match out[place out r]? with
  | some s => if s.cmp r = 0 then out else out.take (place out r) ++ r :: out.drop (place out r)
  | none => out ++ [r]
def fitT (l : List Ru) (nodes : Int) : List Ru := (l.take 20).foldl (fun out r => ins out (r.fit nodes)) []
def fitTo (l : List Ru) (nodes : Int) (k : Nat) : List Ru := ((l.take 20).take k).foldl (fun out r => ins out (r.fit nodes)) []
theorem fitTo_snoc {l : List Ru} {k : Nat} {r : Ru} (nodes : Int) (h : l[k]? = some r) (hk : k < 20) : fitTo l nodes (k + 1) = ins (fitTo l nodes k) (r.fit nodes) := by
  unfold fitTo
  have h2 : (l.take 20)[k]? = some r := by rw [List.getElem?_take, if_pos hk, h]
  rw [List.take_add_one, h2, List.foldl_append]
  rfl
theorem fitTo_end {l : List Ru} {k : Nat} (nodes : Int) (h : min l.length 20 ≤ k) : fitTo l nodes k = fitT l nodes := by
  unfold fitTo fitT
  rw [List.take_of_length_le (by rw [List.length_take]; omega)]
theorem ins_length (out : List Ru) (r : Ru) : (ins out r).length ≤ out.length + 1 := by
  unfold ins
  split
  · split
    · omega
    · rw [List.length_append, List.length_cons, List.length_take, List.length_drop]; omega
  · simp
theorem fitTo_length (l : List Ru) (nodes : Int) (k : Nat) : (fitTo l nodes k).length ≤ k := by
  unfold fitTo
  have key : ∀ (m : List Ru) (out : List Ru), (m.foldl (fun out r => ins out (r.fit nodes)) out).length ≤ out.length + m.length := by
    intro m
    induction m with
    | nil => simp
    | cons r m ih =>
      intro out
      have h1 := ih (ins out (r.fit nodes))
      have h2 := ins_length out (r.fit nodes)
      simp only [List.foldl_cons, List.length_cons]
      omega
  have := key ((l.take 20).take k) []
  rw [List.length_take] at this
  simp at this ⊢
  omega
theorem takeWhile_at (p : Ru → Bool) : ∀ (out : List Ru) (j : Nat), (∀ i s, i < j → out[i]? = some s → p s = true) → j ≤ out.length → (∀ s, out[j]? = some s → p s = false) → (out.takeWhile p).length = j
  | [], j, _, hj, _ => by simp at hj; subst hj; rfl
  | s :: out, 0, _, _, h => by
    have := h s rfl
    rw [List.takeWhile_cons, this]
    rfl
  | s :: out, j + 1, h, hj, h2 => by
    have h0 := h 0 s (by omega) rfl
    rw [List.takeWhile_cons, h0]
    simp only [if_true, List.length_cons]
    rw [takeWhile_at p out j (fun i s' hi hs => h (i + 1) s' (by omega) (by simpa using hs)) (by simpa using hj) (fun s' hs => h2 s' (by simpa using hs))]
theorem place_at {out : List Ru} {s : Ru} {j : Nat} (h : ∀ i t, i < j → out[i]? = some t → below s t = true) (hj : j ≤ out.length) (h2 : ∀ t, out[j]? = some t → below s t = false) : place out s = j := takeWhile_at _ out j h hj h2
theorem ins_same {out : List Ru} {s t : Ru} {j : Nat} (hp : place out s = j) (ht : out[j]? = some t) (h : t.cmp s = 0) : ins out s = out := by
  unfold ins
  rw [hp, ht]
  simp only [h, if_true]
theorem ins_new {out : List Ru} {s t : Ru} {j : Nat} (hp : place out s = j) (ht : out[j]? = some t) (h : t.cmp s ≠ 0) : ins out s = out.take j ++ s :: out.drop j := by
  unfold ins
  rw [hp, ht]
  simp only [h, if_false]
theorem ins_last {out : List Ru} {s : Ru} {j : Nat} (hp : place out s = j) (hj : out.length = j) : ins out s = out.take j ++ s :: out.drop j := by
  unfold ins
  rw [hp, List.getElem?_eq_none (by omega), List.take_of_length_le (by omega), List.drop_eq_nil_of_le (by omega)]
end Go.Th
