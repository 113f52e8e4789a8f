/-
  What CertTraces says, on traces as lists of numbers.
-/
import Derived.Test.YteellpcagdnikaaPart
namespace Go.Th
theorem trgo_vals : ∀ (l s : List Int) (f : Int), trgo s f l = 0 ∨ trgo s f l = 17
  | [], s, f => .inl rfl
  | x :: l, s, f => by
    simp only [trgo]
    by_cases h : x ∈ s ∨ x < f
    · rw [if_pos h]; exact .inr rfl
    · rw [if_neg h]; exact trgo_vals l (s ++ [x]) f
theorem trgo_zero : ∀ (l s : List Int) (f : Int), trgo s f l = 0 ↔ ((∀ x ∈ l, x ∉ s ∧ f ≤ x) ∧ l.Nodup)
  | [], s, f => by simp [trgo]
  | x :: l, s, f => by
    simp only [trgo]
    by_cases h : x ∈ s ∨ x < f
    · rw [if_pos h]
      constructor
      · intro e; exact absurd e (by decide)
      · intro e
        have := e.1 x (by simp)
        rcases h with h | h
        · exact absurd h this.1
        · omega
    · rw [if_neg h, trgo_zero l (s ++ [x]) f]
      simp only [List.mem_append, not_or, List.nodup_cons, List.mem_cons]
      constructor
      · intro ⟨e1, e2⟩
        refine ⟨fun y hy => ?_, fun hx => (e1 x hx).1.2.1 rfl, e2⟩
        rcases hy with rfl | hy
        · exact ⟨fun hh => h (.inl hh), by have : ¬ y < f := fun hh => h (.inr hh); omega⟩
        · exact ⟨(e1 y hy).1.1, (e1 y hy).2⟩
      · intro ⟨e1, e2, e3⟩
        exact ⟨fun y hy => ⟨⟨(e1 y (.inr hy)).1, fun hh => e2 (by rw [← hh]; exact hy), by simp⟩, (e1 y (.inr hy)).2⟩, e3⟩
/-- F, F + 1, .. : M of them. -/
def tr0 (F M : Nat) : List Int := (List.range M).map fun i => ((F + i : Nat) : Int)
theorem tr0_succ (F M : Nat) : tr0 F (M + 1) = tr0 F M ++ [((F + M : Nat) : Int)] := by simp [tr0, List.range_succ]
theorem tr0_length (F M : Nat) : (tr0 F M).length = M := by simp [tr0]
theorem tr0_mem {F M : Nat} {x : Int} (h : x ∈ tr0 F M) : (F : Int) ≤ x ∧ x < (F + M : Nat) := by
  obtain ⟨i, hi, rfl⟩ := List.mem_map.1 h
  have := List.mem_range.1 hi
  omega
theorem tr0_nodup (F M : Nat) : (tr0 F M).Nodup := by
  unfold tr0
  rw [List.nodup_iff_pairwise_ne, List.pairwise_map]
  exact List.nodup_range.imp (fun h e => h (by omega))
theorem tr0_first {F M : Nat} (h : 0 < M) : trfirst (tr0 F M) = F := by
  obtain ⟨m, rfl⟩ : ∃ m, M = m + 1 := ⟨M - 1, by omega⟩
  simp [tr0, List.range_succ_eq_map, trfirst]
theorem any_outs_no {l : List Int} {N : Int} (h : ∀ x ∈ l, 0 ≤ x ∧ x < N) : l.any (outs N) = false := by
  rw [List.any_eq_false]
  intro x hx
  have := h x hx
  unfold outs
  rw [decide_eq_false (by omega), decide_eq_false (by omega)]
  simp
theorem any_outs_yes {l : List Int} {N x : Int} (hx : x ∈ l) (h : N ≤ x) : l.any (outs N) = true := by
  rw [List.any_eq_true]
  exact ⟨x, hx, by unfold outs; rw [decide_eq_true h]; simp⟩
/-- What a trace is at each stage. -/
def TSt (N M F : Nat) (v : Int) (np : Nat) (tr : List Int) : Prop :=
  (v = 0 ∧ np = 0 ∧ tr = tr0 F M) ∨ (v = 17 ∧ np = 0 ∧ 1 < M ∧ tr = (tr0 F M).set (M - 1) F) ∨ (v = 10 ∧ np = 0 ∧ tr.length = M ∧ ∃ x ∈ tr, (N : Int) ≤ x) ∨ (v = 12 ∧ np = 0 ∧ tr.length = N + 1) ∨ (v = 3 ∧ np = 1)
theorem TSt.ok {N M F : Nat} {v : Int} {np : Nat} {tr : List Int} (h : TSt N M F v np tr) (hM : 1 ≤ M) (hF : F + M ≤ N) (ps : List Pt) (hp : ps.length = np) (d : Int) : cmay 2 ps d tr N = v := by
  unfold cmay
  rw [if_neg (by decide), if_pos rfl]
  unfold cloops
  rcases h with ⟨rfl, rfl, rfl⟩ | ⟨rfl, rfl, h1, rfl⟩ | ⟨rfl, rfl, h1, x, hx, h2⟩ | ⟨rfl, rfl, h1⟩ | ⟨rfl, rfl⟩
  · rw [if_neg (by omega), tr0_length, if_neg (by omega), any_outs_no (fun x hx => by have := tr0_mem hx; omega), if_neg (by simp), tr0_first (by omega)]
    rw [trgo_zero]
    exact ⟨fun x hx => ⟨by simp, (tr0_mem hx).1⟩, tr0_nodup F M⟩
  · have hm : ∀ x ∈ (tr0 F M).set (M - 1) (F : Int), (F : Int) ≤ x ∧ x < (F + M : Nat) := fun x hx => by
      rcases List.mem_or_eq_of_mem_set hx with hx | rfl
      · exact tr0_mem hx
      · omega
    rw [if_neg (by omega), List.length_set, tr0_length, if_neg (by omega), any_outs_no (fun x hx => by have := hm x hx; omega), if_neg (by simp)]
    rcases trgo_vals ((tr0 F M).set (M - 1) F) [] (trfirst ((tr0 F M).set (M - 1) F)) with h | h
    · exfalso
      have hnd := ((trgo_zero _ _ _).1 h).2
      have e0 : ((tr0 F M).set (M - 1) (F : Int))[0]? = some (F : Int) := by
        rw [List.getElem?_set_ne (by omega)]
        simp [tr0, List.getElem?_range (show 0 < M by omega)]
      have e1 : ((tr0 F M).set (M - 1) (F : Int))[M - 1]? = some (F : Int) := by
        rw [List.getElem?_set_self (by rw [tr0_length]; omega)]
      have := (List.getElem?_inj (i := 0) (j := M - 1) (by rw [List.length_set, tr0_length]; omega) hnd).1 (e0.trans e1.symm)
      omega
    · exact h
  · rw [if_neg (by omega), h1, if_neg (by omega), any_outs_yes hx h2, if_pos rfl]
  · rw [if_neg (by omega), h1, if_pos (by omega)]
  · rw [if_pos (by omega)]
/-- May it be of fewer nodes? -/
theorem tr0_more {F M : Nat} (hM : 1 ≤ M) (ps : List Pt) (hp : ps.length = 0) (d : Int) : cmay 2 ps d (tr0 F M) ((F : Int) + M) = 0 := by
  have := TSt.ok (N := F + M) (M := M) (F := F) (v := 0) (np := 0) (tr := tr0 F M) (.inl ⟨rfl, rfl, rfl⟩) hM (Nat.le_refl _) ps hp d
  rw [← this]
  congr 1
theorem tr0_less {F M : Nat} (hM : 1 ≤ M) (ps : List Pt) (hp : ps.length = 0) (d : Int) : (cmay 2 ps d (tr0 F M) ((F : Int) + M - 1) != 0) = true := by
  have hl : ((F + (M - 1) : Nat) : Int) ∈ tr0 F M := List.mem_map.2 ⟨M - 1, List.mem_range.2 (by omega), rfl⟩
  unfold cmay
  rw [if_neg (by decide), if_pos rfl]
  unfold cloops
  rw [if_neg (by omega), tr0_length]
  by_cases h : (F : Int) + M - 1 < M
  · rw [if_pos (.inr h)]; rfl
  · rw [if_neg (by omega), any_outs_yes hl (by omega), if_pos rfl]; rfl
end Go.Th
