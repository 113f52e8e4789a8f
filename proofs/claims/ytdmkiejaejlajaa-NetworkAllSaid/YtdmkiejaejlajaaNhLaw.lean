/-
  Walks of a network that may be: the plain law; a network that may be, in a variable.
-/
import Derived.Test.YtdmkiejaejlajaaNhShown
namespace Go.Proofs.Ytdmkiejaejlajaa
open Go.RowKit Go.Th
set_option linter.unusedVariables false
/-! ### Where a table sends to -/
theorem tnext_in {l : List Ru} {a : Int} {nodes : Int} (hm : ∀ r ∈ l, r.may nodes = 0) (h : (tnext l a).2 = true) : 0 ≤ (tnext l a).1 ∧ (tnext l a).1 < nodes := by
  have hb := tfind_best l a
  obtain ⟨r, b, hp⟩ : ∃ r b, tfind l a = (r, b) := ⟨_, _, rfl⟩
  unfold tnext at *
  rw [hp] at h hb ⊢
  dsimp only at h ⊢
  split at h
  · rename_i h1
    rw [if_pos h1]
    obtain ⟨rfl, h2⟩ := h1
    have hr := hm r ((hb.2 rfl).1)
    unfold Ru.may at hr
    split at hr
    · omega
    · dsimp only at h2 ⊢
      split at hr <;> omega
  · cases h
theorem tnext_none {l : List Ru} {a : Int} (h : ∀ r ∈ l, r.act ≠ 1) : tnext l a = (0, false) := by
  have hb := tfind_best l a
  obtain ⟨r, b, hp⟩ : ∃ r b, tfind l a = (r, b) := ⟨_, _, rfl⟩
  unfold tnext
  rw [hp] at hb ⊢
  dsimp only
  rw [if_neg]
  rintro ⟨rfl, h2⟩
  exact h r ((hb.2 rfl).1) h2
theorem tnext_one {a b : Int} {n act next : Int} (h : Th.holds b n a = true) : tnext [⟨b, n, act, next⟩] a = if act = 1 then (next, true) else (0, false) := by
  have : tfind [⟨b, n, act, next⟩] a = (⟨b, n, act, next⟩, true) := by
    unfold tfind fstep
    simp [Ru.holds, h]
  unfold tnext
  rw [this]
  simp
/-! ### Walks -/
section
variable {ls : List (List Ru)} {a v : Int}
theorem nstep_hg (u : Int) : nstep ls a u = (hof ls a u, gof ls a u) := rfl
theorem wgo_on : ∀ {k : Nat}, (∀ j, j < k → gof ls a (itr (hof ls a) j v) = true) → wgo ls a v k = (itr (hof ls a) k v, true)
  | 0, _ => rfl
  | k + 1, h => by
    rw [wgo, wgo_on (fun j hj => h j (by omega)), if_pos rfl, nstep_hg, h k (by omega)]
    rfl
theorem wgo_no {k : Nat} : ∀ i, i < k → gof ls a (itr (hof ls a) i v) = false → wgo ls a v k = (0, false) := by
  intro i
  induction i using Nat.strongRecOn with
  | _ i ih =>
    intro hi h
    by_cases e : ∃ j, j < i ∧ gof ls a (itr (hof ls a) j v) = false
    · obtain ⟨j, h1, h2⟩ := e
      exact ih j h1 (by omega) h2
    · have hall : ∀ j, j < i → gof ls a (itr (hof ls a) j v) = true := fun j hj => by
        cases hg : gof ls a (itr (hof ls a) j v) with
        | true => rfl
        | false => exact absurd ⟨j, hj, hg⟩ e
      have h1 : wgo ls a v (i + 1) = (0, false) := by
        rw [wgo, wgo_on hall, if_pos rfl]
        exact nstep_no h
      have := wgo_off (by rw [h1]) (by omega) (k - (i + 1))
      rwa [show i + 1 + (k - (i + 1)) = k by omega] at this
theorem wgo_true {k : Nat} : (wgo ls a v k).2 = true ↔ ∀ j, j < k → gof ls a (itr (hof ls a) j v) = true := by
  constructor
  · intro h j hj
    cases hg : gof ls a (itr (hof ls a) j v) with
    | true => rfl
    | false => rw [wgo_no j hj hg] at h; cases h
  · intro h; rw [wgo_on h]
theorem wgo_val {k : Nat} (h : (wgo ls a v k).2 = true) : (wgo ls a v k).1 = itr (hof ls a) k v := by rw [wgo_on (wgo_true.1 h)]
theorem wgo_false {k : Nat} (h : (wgo ls a v k).2 = false) (hk : 1 ≤ k) : wgo ls a v k = (0, false) := by
  by_cases e : ∃ j, j < k ∧ gof ls a (itr (hof ls a) j v) = false
  · obtain ⟨j, h1, h2⟩ := e
    exact wgo_no j h1 h2
  · rw [wgo_true.2 (fun j hj => by
      cases hg : gof ls a (itr (hof ls a) j v) with
      | true => rfl
      | false => exact absurd ⟨j, hj, hg⟩ e)] at h
    cases h
theorem walkT_in {K : Nat} (h1 : 0 ≤ v ∧ v < (ls.length : Int)) (h2 : K ≤ 256) : walkT ls a v K = wgo ls a v K := by
  unfold walkT
  rw [if_neg (by omega), Int.toNat_natCast]
/-- Walks that come back. -/
theorem cyc_walk {k : Nat} (hk : 1 ≤ k) : wgo ls a v k = (v, true) ↔ Cyc (hof ls a) (gof ls a) v k := by
  constructor
  · intro h
    have h2 : (wgo ls a v k).2 = true := by rw [h]
    exact ⟨hk, wgo_true.1 h2, by rw [← wgo_val h2, h]⟩
  · intro c
    rw [wgo_on c.goes, c.back]
/-- No step leaves the nodes. -/
def Inn (ls : List (List Ru)) (a : Int) : Prop := ∀ u, gof ls a u = true → 0 ≤ hof ls a u ∧ hof ls a u < (ls.length : Int)
theorem inn_of_may (h : ∀ l ∈ ls, ∀ r ∈ l, r.may ls.length = 0) : Inn ls a := by
  intro u hg
  have hu := gof_in hg
  obtain ⟨k, rfl⟩ := Int.eq_ofNat_of_zero_le hu.1
  have hk : k < ls.length := by omega
  unfold gof hof nstep at *
  rw [if_pos hu] at hg ⊢
  rw [Int.toNat_natCast, List.getD_eq_getElem?_getD, List.getElem?_eq_getElem hk] at hg ⊢
  exact tnext_in (h _ (List.getElem_mem hk)) hg
theorem Inn.itr (h : Inn ls a) (hv : 0 ≤ v ∧ v < (ls.length : Int)) : ∀ k, (∀ j, j < k → gof ls a (itr (hof ls a) j v) = true) → 0 ≤ Th.itr (hof ls a) k v ∧ Th.itr (hof ls a) k v < (ls.length : Int)
  | 0, _ => hv
  | k + 1, hg => h _ (hg k (by omega))
theorem nodup_le : ∀ (n : Nat) (l : List Nat), l.Nodup → (∀ x ∈ l, x < n) → l.length ≤ n
  | 0, l, _, h => by
    cases l with
    | nil => simp
    | cons x l => exact absurd (h x (by simp)) (by omega)
  | n + 1, l, hn, h => by
    have ih := nodup_le n (l.erase n) (hn.erase n) (fun x hx => by
      have := hn.mem_erase_iff.1 hx
      have h2 := h x this.2
      omega)
    rw [List.length_erase] at ih
    split at ih <;> omega
/-- Two of so many of fewer are the same. -/
theorem two_same {n m : Nat} (f : Nat → Int) (hf : ∀ i, i < m → 0 ≤ f i ∧ f i < (n : Int)) (hm : n < m) : ∃ i j, i < j ∧ j < m ∧ f i = f j := by
  have hd : ¬ ((List.range m).map fun i => (f i).toNat).Nodup := by
    intro hn
    have := nodup_le n _ hn (fun x hx => by
      obtain ⟨i, hi, rfl⟩ := List.mem_map.1 hx
      have := hf i (List.mem_range.1 hi)
      omega)
    simp at this
    omega
  by_cases e : ∃ i j, i < j ∧ j < m ∧ f i = f j
  · exact e
  · exfalso
    apply hd
    rw [List.nodup_iff_pairwise_ne, List.pairwise_map]
    refine List.pairwise_lt_range.imp_of_mem ?_
    intro i j hi hj hij heq
    have h1 := hf i (List.mem_range.1 hi)
    have h2 := hf j (List.mem_range.1 hj)
    exact e ⟨i, j, hij, List.mem_range.1 hj, by omega⟩
/-- A walk of as many steps as there are nodes comes to a node that goes round. -/
theorem long_round (h : Inn ls a) (hv : 0 ≤ v ∧ v < (ls.length : Int)) (hg : ∀ j, j < ls.length → gof ls a (itr (hof ls a) j v) = true) : ∃ L, L ≤ ls.length ∧ Cyc (hof ls a) (gof ls a) (itr (hof ls a) ls.length v) L := by
  obtain ⟨i, j, h1, h2, h3⟩ := two_same (n := ls.length) (m := ls.length + 1) (fun i => Th.itr (hof ls a) i v) (fun i hi => h.itr hv i (fun j hj => hg j (by omega))) (by omega)
  have c : Cyc (hof ls a) (gof ls a) (itr (hof ls a) i v) (j - i) := ⟨by omega, fun t ht => by rw [← itr_add]; exact hg _ (by omega), by rw [← itr_add, show j - i + i = j by omega]; exact h3.symm⟩
  have := c.shift (ls.length - i)
  rw [← itr_add, show ls.length - i + i = ls.length by omega] at this
  exact ⟨j - i, by omega, this⟩
end
end Go.Proofs.Ytdmkiejaejlajaa
