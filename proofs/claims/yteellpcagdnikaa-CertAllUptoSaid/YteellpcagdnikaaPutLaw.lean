/-
  The plain law of the reference's put and Fit of a row of bounds: no program in sight.
-/
import Derived.Test.YteellpcagdnikaaBase
namespace Go.Th
/-- a put into the rising row l. -/
def pput (a : Int) : List Int → List Int
  | [] => [a]
  | x :: r => if x < a then x :: pput a r else if x = a then x :: r else a :: x :: r
/-- The row that is made of the first 30. -/
def pfit (l : List Int) : List Int := (l.take 30).foldl (fun o x => pput x o) [0]
theorem pput_mem {a : Int} : ∀ {l : List Int} {x : Int}, x ∈ pput a l → x = a ∨ x ∈ l
  | [], x, h => by simpa [pput] using h
  | y :: r, x, h => by
    unfold pput at h
    split at h
    · rcases List.mem_cons.1 h with rfl | h
      · exact .inr (List.mem_cons_self ..)
      · rcases pput_mem h with h | h
        · exact .inl h
        · exact .inr (List.mem_cons_of_mem _ h)
    · split at h
      · exact .inr h
      · exact List.mem_cons.1 h
theorem pput_has {a : Int} : ∀ {l : List Int}, a ∈ pput a l
  | [] => by simp [pput]
  | y :: r => by
    unfold pput
    split
    · exact List.mem_cons_of_mem _ pput_has
    · split
      · next h => rw [h]; exact List.mem_cons_self ..
      · exact List.mem_cons_self ..
theorem pput_keeps {a : Int} : ∀ {l : List Int} {x : Int}, x ∈ l → x ∈ pput a l
  | y :: r, x, h => by
    unfold pput
    split
    · rcases List.mem_cons.1 h with rfl | h
      · exact List.mem_cons_self ..
      · exact List.mem_cons_of_mem _ (pput_keeps h)
    · split
      · exact h
      · exact List.mem_cons_of_mem _ h
theorem pput_len {a : Int} : ∀ {l : List Int}, (pput a l).length ≤ l.length + 1
  | [] => by simp [pput]
  | y :: r => by
    have := @pput_len a r
    unfold pput
    split
    · simp; omega
    · split <;> simp
theorem pput_sorted {a : Int} : ∀ {l : List Int}, l.Pairwise (· < ·) → (pput a l).Pairwise (· < ·)
  | [], _ => by simp [pput]
  | y :: r, h => by
    obtain ⟨h1, h2⟩ := List.pairwise_cons.1 h
    unfold pput
    split
    · next hy =>
      refine List.pairwise_cons.2 ⟨fun x hx => ?_, pput_sorted h2⟩
      rcases pput_mem hx with rfl | hx
      · exact hy
      · exact h1 x hx
    · split
      · exact h
      · refine List.pairwise_cons.2 ⟨fun x hx => ?_, h⟩
        rcases List.mem_cons.1 hx with rfl | hx
        · omega
        · have := h1 x hx
          omega
/-- The head nought stays. -/
theorem pput_head {a : Int} (ha : 0 ≤ a) (r : List Int) : ∃ r', pput a (0 :: r) = 0 :: r' := by
  unfold pput
  split
  · exact ⟨_, rfl⟩
  · have : (0 : Int) = a := by omega
    rw [if_pos this]
    exact ⟨_, rfl⟩
/-- What the loop's place tells: all before it are less. -/
theorem pput_at {a : Int} : ∀ {l : List Int} {k : Nat}, (∀ x ∈ l.take k, x < a) → (∀ x, l[k]? = some x → a ≤ x) →
    pput a l = if l[k]? = some a then l else l.take k ++ (a :: l.drop k)
  | [], k, _, _ => by simp [pput]
  | y :: r, 0, _, h => by
    have := h y rfl
    unfold pput
    rw [if_neg (by omega)]
    simp
  | y :: r, k + 1, h1, h2 => by
    have hy : y < a := h1 y (by simp)
    have := @pput_at a r k (fun x hx => h1 x (by simp [hx])) (fun x hx => h2 x (by simpa using hx))
    unfold pput
    rw [if_pos hy, this]
    by_cases h : r[k]? = some a
    · simp [h]
    · simp [h]
/-- What Fit's row holds. -/
structure Row0 (l : List Int) : Prop where
  head : l[0]? = some 0
  up : l.Pairwise (· < ·)
  rng : ∀ x ∈ l, 0 ≤ x ∧ x ≤ 4294967295
theorem row0_one : Row0 [0] := ⟨rfl, by simp, by simp⟩
theorem Row0.put {l : List Int} (h : Row0 l) {a : Int} (ha : 0 ≤ a ∧ a ≤ 4294967295) : Row0 (pput a l) := by
  refine ⟨?_, pput_sorted h.up, fun x hx => ?_⟩
  · match l, h.head with
    | 0 :: r, _ =>
      obtain ⟨r', e⟩ := pput_head ha.1 r
      rw [e]; rfl
  · rcases pput_mem hx with rfl | hx
    · exact ha
    · exact h.rng x hx
theorem row0_fold {m : List Int} (hm : ∀ x ∈ m, 0 ≤ x ∧ x ≤ 4294967295) : ∀ {l : List Int}, Row0 l → Row0 (m.foldl (fun o x => pput x o) l) ∧ (m.foldl (fun o x => pput x o) l).length ≤ l.length + m.length := by
  induction m with
  | nil => intro l h; exact ⟨h, by simp⟩
  | cons x r ih =>
    intro l h
    obtain ⟨h1, h2⟩ := ih (fun y hy => hm y (List.mem_cons_of_mem _ hy)) (h.put (hm x (List.mem_cons_self ..)))
    refine ⟨h1, ?_⟩
    have := @pput_len x l
    simp only [List.foldl_cons, List.length_cons] at *
    omega
theorem pfit_row {m : List Int} (hm : ∀ x ∈ m, 0 ≤ x ∧ x ≤ 4294967295) : Row0 (pfit m) ∧ (pfit m).length ≤ 31 := by
  obtain ⟨h1, h2⟩ := row0_fold (m := m.take 30) (fun x hx => hm x (List.mem_of_mem_take hx)) row0_one
  refine ⟨h1, ?_⟩
  have : (m.take 30).length ≤ 30 := by rw [List.length_take]; omega
  simp only [pfit, List.length_cons, List.length_nil] at *
  omega
end Go.Th
