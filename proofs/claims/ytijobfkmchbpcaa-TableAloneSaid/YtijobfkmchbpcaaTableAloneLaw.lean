/-
  Tables of one rule, of none, and with a rule that holds all. Plain lists, no program in sight.
-/
import Derived.Test.YtijobfkmchbpcaaTableLessLaw
namespace Go.Th
theorem find_nil (x : Int) : tfind [] x = (Ru.zero, false) := rfl
theorem find_one (r : Ru) (x : Int) : tfind [r] x = if r.holds x = true then (r, true) else (Ru.zero, false) := by
  unfold tfind fstep
  simp only [List.foldl_cons, List.foldl_nil]
  cases r.holds x <;> simp
def allRu : Ru := ⟨0, 0, 1, 8⟩
theorem sh_0 : sh 0 = 32 := by decide
theorem head_0 {a : Int} (h : 0 ≤ a ∧ a ≤ 4294967295) : head a 0 = 0 := by
  unfold head
  rw [sh_0]
  exact Nat.div_eq_of_lt (by omega)
theorem all_holds {x : Int} (h : 0 ≤ x ∧ x ≤ 4294967295) : allRu.holds x = true := by
  show decide (head 0 0 = head x 0) = true
  rw [head_0 h, head_0 (by omega)]
  rfl
theorem all_pre : allRu.Pre := ⟨⟨by decide, by decide, by decide, by decide⟩, by decide, by decide, by decide +kernel⟩
theorem all_may : allRu.may 9 = 0 := by decide +kernel
/-- The row without the rule of all addresses ahead. -/
def restOf : List Ru → List Ru
  | [] => []
  | t :: l => if t.a = 0 ∧ t.n = 0 then l else t :: l
theorem restOf_eq (u : Ru) (l : List Ru) : restOf (u :: l) = if u.a = 0 ∧ u.n = 0 then l else u :: l := rfl
theorem restOf_sub : ∀ l : List Ru, (restOf l).Sublist l
  | [] => List.Sublist.refl _
  | t :: l => by
    rw [restOf_eq]
    split
    · exact List.Sublist.cons _ (List.Sublist.refl _)
    · exact List.Sublist.refl _
theorem restOf_key {l : List Ru} (hg : GoodT l) : ∀ t ∈ restOf l, allRu.cmp t < 0 := by
  intro t ht
  have hm := (restOf_sub l).mem ht
  have hp := hg.pre t hm
  have h1 := hp.ok.a
  have h2 := hp.n0
  rw [Ru.cmp_lt]
  show 0 < t.a ∨ (0 = t.a ∧ 0 < t.n)
  rcases l with _ | ⟨u, l⟩
  · cases ht
  · have hs := List.pairwise_cons.1 hg.sorted
    have hu := hg.pre u (by simp)
    have h3 := hu.ok.a
    have h4 := hu.n0
    rw [restOf_eq] at ht
    split at ht
    · rename_i hc
      have := (Ru.cmp_lt _ _).1 (hs.1 t ht)
      omega
    · rename_i hc
      rcases List.mem_cons.1 ht with rfl | ht
      · omega
      · have := (Ru.cmp_lt _ _).1 (hs.1 t ht)
        omega
theorem restOf_mem {l : List Ru} {t : Ru} (ht : t ∈ l) (hk : ¬ (t.a = 0 ∧ t.n = 0)) : t ∈ restOf l := by
  rcases l with _ | ⟨u, l⟩
  · cases ht
  · rw [restOf_eq]
    split
    · rename_i hc
      rcases List.mem_cons.1 ht with rfl | ht
      · exact absurd hc hk
      · exact ht
    · exact ht
theorem restOf_cons {l : List Ru} {t : Ru} (h : l[0]? = some t) (hc : t.a = 0 ∧ t.n = 0) : restOf l = l.drop 1 := by
  rcases l with _ | ⟨u, l⟩
  · cases h
  · injection h with h
    subst h
    exact if_pos hc
theorem restOf_not {l : List Ru} {t : Ru} (h : l[0]? = some t) (hc : ¬ (t.a = 0 ∧ t.n = 0)) : restOf l = l := by
  rcases l with _ | ⟨u, l⟩
  · cases h
  · injection h with h
    subst h
    exact if_neg hc
def firstOf (l : List Ru) : List Ru := allRu :: restOf l
theorem firstOf_good {l : List Ru} (hg : GoodT l) : GoodT (firstOf l) :=
  ⟨fun t ht => by
    rcases List.mem_cons.1 ht with rfl | ht
    · exact all_pre
    · exact hg.pre t ((restOf_sub l).mem ht), List.pairwise_cons.2 ⟨restOf_key hg, List.Pairwise.sublist (restOf_sub l) hg.sorted⟩⟩
theorem firstOf_may {l : List Ru} (hg : GoodT l) (hm : ∀ t ∈ l, t.may 9 = 0) : tmay (firstOf l) 9 = 0 := tmay_ok (firstOf_good hg).sorted (fun t ht => by
  rcases List.mem_cons.1 ht with rfl | ht
  · exact all_may
  · exact hm t ((restOf_sub l).mem ht))
theorem firstOf_find {l : List Ru} (hg : GoodT l) {x : Int} (hx : 0 ≤ x ∧ x ≤ 4294967295) {u : Ru} {was : Bool} (hu : tfind l x = (u, was)) :
    ((was = false ∨ (was = true ∧ u.n = 0)) ∧ tfind (firstOf l) x = (allRu, true) ∧ tnext (firstOf l) x = (8, true)) ∨ (was = true ∧ u.n ≠ 0 ∧ tfind (firstOf l) x = (u, true)) := by
  have h1 := tfind_best l x
  rw [hu] at h1
  have hgf := firstOf_good hg
  have hall : allRu ∈ firstOf l := by simp [firstOf]
  by_cases hc : was = false ∨ (was = true ∧ u.n = 0)
  · left
    have hf : tfind (firstOf l) x = (allRu, true) := hgf.best ⟨(fun h => by cases h), fun _ => ⟨hall, all_holds hx, fun t ht hh => by
      show t.n ≤ 0
      rcases List.mem_cons.1 ht with rfl | ht
      · exact Int.le_refl _
      · have hm := (restOf_sub l).mem ht
        rcases hc with hc | ⟨hc, hn⟩
        · have := (h1.1 hc).2 t hm; rw [hh] at this; cases this
        · have := (h1.2 hc).2.2 t hm hh
          simp only at this
          omega⟩⟩
    exact ⟨hc, hf, by unfold tnext; rw [hf]; rfl⟩
  · right
    have hw : was = true := by cases was with | true => rfl | false => exact absurd (.inl rfl) hc
    have hn : u.n ≠ 0 := fun e => hc (.inr ⟨hw, e⟩)
    obtain ⟨a1, a2, a3⟩ := h1.2 hw
    have hn0 := (hg.pre u a1).n0
    refine ⟨hw, hn, hgf.best ⟨(fun h => by cases h), fun _ => ⟨List.mem_cons_of_mem _ (restOf_mem a1 (fun e => hn e.2)), a2, fun t ht hh => ?_⟩⟩⟩
    rcases List.mem_cons.1 ht with rfl | ht
    · exact hn0
    · exact a3 t ((restOf_sub l).mem ht) hh
end Go.Th
