/-
  Tables: the rule that is found, counted. Plain lists, no program in sight.
-/
import Derived.Test.YtijobfkmchbpcaaTableLessLaw
namespace Go.Th
def cntOf (ok : Bool) (j k : Nat) : Nat := if ok = true ∧ j < k then 1 else 0
theorem Sorted.index {l : List Ru} (h : Sorted l) {i j : Nat} {r : Ru} (hi : l[i]? = some r) (hj : l[j]? = some r) : i = j := by
  obtain ⟨h1, e1⟩ := List.getElem?_eq_some_iff.1 hi
  obtain ⟨h2, e2⟩ := List.getElem?_eq_some_iff.1 hj
  have hp := List.pairwise_iff_getElem.1 h
  have hz : r.cmp r = 0 := (Ru.cmp_zero _ _).2 ⟨rfl, rfl⟩
  rcases Nat.lt_trichotomy i j with h3 | h3 | h3
  · have := hp i j h1 h2 h3
    rw [e1, e2] at this; omega
  · exact h3
  · have := hp j i h2 h1 h3
    rw [e1, e2] at this; omega
theorem finds {ws : List Ru} (hg : GoodT ws) {x : Int} {r : Ru} {ok : Bool} (hf : tfind ws x = (r, ok)) : ∃ jb : Nat, (ok = true → jb < ws.length) ∧
    ∀ k t, ws[k]? = some t → (holds t.a t.n x = false ∧ cntOf ok jb (k + 1) = cntOf ok jb k) ∨ (ok = true ∧ holds t.a t.n x = true ∧ t.n < r.n ∧ cntOf ok jb (k + 1) = cntOf ok jb k) ∨
      (ok = true ∧ holds t.a t.n x = true ∧ r = t ∧ cntOf ok jb k = 0 ∧ cntOf ok jb (k + 1) = 1) := by
  have h1 := tfind_best ws x
  rw [hf] at h1
  cases ok with
  | false =>
    refine ⟨0, (fun h => by cases h), fun k t ht => .inl ⟨(h1.1 rfl).2 t (List.mem_of_getElem? ht), rfl⟩⟩
  | true =>
    obtain ⟨a1, a2, a3⟩ := h1.2 rfl
    obtain ⟨jb, hjl, hje⟩ := List.mem_iff_getElem.1 a1
    have hj : ws[jb]? = some r := by rw [List.getElem?_eq_getElem hjl, hje]
    refine ⟨jb, fun _ => hjl, fun k t ht => ?_⟩
    have hm := List.mem_of_getElem? ht
    have same : t ≠ r → cntOf true jb (k + 1) = cntOf true jb k := fun hne => by
      have : jb ≠ k := fun e => hne (by subst e; rw [hj] at ht; injection ht with ht; exact ht.symm)
      unfold cntOf
      by_cases h : jb < k
      · rw [if_pos (show true = true ∧ jb < k + 1 from ⟨rfl, by omega⟩), if_pos ⟨rfl, h⟩]
      · rw [if_neg (show ¬ (true = true ∧ jb < k + 1) from fun e => by have := e.2; omega), if_neg (fun e => h e.2)]
    cases hh : holds t.a t.n x with
    | false => exact .inl ⟨rfl, same (fun e => by subst e; have : t.holds x = false := hh; rw [this] at a2; cases a2)⟩
    | true =>
      right
      have c1 := a3 t hm hh
      rcases Int.lt_or_eq_of_le c1 with h | h
      · exact .inl ⟨rfl, rfl, h, same (fun e => by subst e; simp only at h; omega)⟩
      · right
        have e := hg.uniq hm a1 hh a2 h
        subst e
        have : k = jb := hg.sorted.index ht hj
        subst this
        exact ⟨rfl, rfl, rfl, by unfold cntOf; rw [if_neg (fun e => by have := e.2; omega)], by unfold cntOf; rw [if_pos ⟨rfl, by omega⟩]⟩
end Go.Th
