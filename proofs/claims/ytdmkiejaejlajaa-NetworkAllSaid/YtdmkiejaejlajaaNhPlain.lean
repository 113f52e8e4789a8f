/-
  Networks: plain lists of tables.
-/
import Derived.Test.YtdmkiejaejlajaaNhMc
namespace Go.Th
set_option linter.unusedVariables false
def nsize (ns : List (List Ru)) : Nat := (ns.map List.length).sum
def nmayGo (nodes : Int) : List (List Ru) → Int
  | [] => 0
  | l :: ls => if tmay l nodes ≠ 0 then tmay l nodes else nmayGo nodes ls
/-- May. -/
def nmay (ns : List (List Ru)) : Int := if 256 < ns.length ∨ 4096 < nsize ns then 12 else nmayGo ns.length ns
/-- Fit: how many nodes, and each. -/
def nmany (ns : List (List Ru)) : Nat := max 1 (min ns.length 8)
def nfitTo (ns : List (List Ru)) (k : Nat) : List (List Ru) := (List.range k).map fun i => fitT (ns.getD i []) (nmany ns)
def nfit (ns : List (List Ru)) : List (List Ru) := nfitTo ns (nmany ns)
theorem nsize_take {ns : List (List Ru)} {k : Nat} {l : List Ru} (h : ns[k]? = some l) : nsize (ns.take (k + 1)) = nsize (ns.take k) + l.length := by
  unfold nsize
  rw [List.take_add_one, h]
  simp
theorem nsize_take_le (ns : List (List Ru)) (k : Nat) : nsize (ns.take k) ≤ nsize ns := by
  have h : nsize ns = nsize (ns.take k) + nsize (ns.drop k) := by
    unfold nsize
    conv => lhs; rw [← List.take_append_drop k ns]
    rw [List.map_append, List.sum_append]
  omega
theorem nmayGo_bad {nodes : Int} {ns : List (List Ru)} {k : Nat} {l : List Ru} (h : ns[k]? = some l) (he : tmay l nodes ≠ 0) : nmayGo nodes (ns.drop k) = tmay l nodes := by
  obtain ⟨hl, rfl⟩ := List.getElem?_eq_some_iff.1 h
  rw [List.drop_eq_getElem_cons hl, nmayGo, if_pos he]
theorem nmayGo_ok {nodes : Int} {ns : List (List Ru)} {k : Nat} {l : List Ru} (h : ns[k]? = some l) (he : tmay l nodes = 0) : nmayGo nodes (ns.drop k) = nmayGo nodes (ns.drop (k + 1)) := by
  obtain ⟨hl, rfl⟩ := List.getElem?_eq_some_iff.1 h
  rw [List.drop_eq_getElem_cons hl, nmayGo, if_neg (by simp [he])]
theorem nmayGo_zero {nodes : Int} : ∀ {ns : List (List Ru)}, nmayGo nodes ns = 0 ↔ ∀ l ∈ ns, tmay l nodes = 0
  | [] => by simp [nmayGo]
  | l :: ls => by
    rw [nmayGo]
    by_cases h : tmay l nodes ≠ 0
    · rw [if_pos h]
      constructor
      · intro h2; exact absurd h2 h
      · intro h2; exact absurd (h2 l (by simp)) h
    · rw [if_neg h, nmayGo_zero]
      simp at h
      simp [h]
theorem nmay_zero {ns : List (List Ru)} : nmay ns = 0 ↔ ns.length ≤ 256 ∧ nsize ns ≤ 4096 ∧ ∀ l ∈ ns, tmay l ns.length = 0 := by
  unfold nmay
  by_cases h : 256 < ns.length ∨ 4096 < nsize ns
  · rw [if_pos h]
    constructor
    · intro h2; cases h2
    · intro h2; omega
  · rw [if_neg h, nmayGo_zero]
    constructor
    · intro h2; exact ⟨by omega, by omega, h2⟩
    · intro h2; exact h2.2.2
theorem nfitTo_snoc (ns : List (List Ru)) (k : Nat) : nfitTo ns (k + 1) = nfitTo ns k ++ [fitT (ns.getD k []) (nmany ns)] := by
  unfold nfitTo
  rw [List.range_succ, List.map_append]
  rfl
theorem nmany_bd (ns : List (List Ru)) : 1 ≤ nmany ns ∧ nmany ns ≤ 8 := by unfold nmany; omega
theorem nfit_length (ns : List (List Ru)) : (nfit ns).length = nmany ns := by simp [nfit, nfitTo]
/-- What each node of a network that was made is. -/
theorem nfit_each {ns : List (List Ru)} {l : List Ru} (h : l ∈ nfit ns) : ∃ t, (t ∈ ns ∨ t = []) ∧ l = fitT t (nmany ns) := by
  obtain ⟨i, hi, rfl⟩ := List.mem_map.1 h
  refine ⟨_, ?_, rfl⟩
  rw [List.getD_eq_getElem?_getD]
  cases hx : ns[i]? with
  | none => exact .inr rfl
  | some t => exact .inl (List.mem_of_getElem? hx)
theorem nsize_le {ns : List (List Ru)} {b : Nat} (h : ∀ l ∈ ns, l.length ≤ b) : nsize ns ≤ ns.length * b := by
  induction ns with
  | nil => simp [nsize]
  | cons l ls ih =>
    have h1 := ih (fun x hx => h x (by simp [hx]))
    have h2 := h l (by simp)
    unfold nsize at *
    simp only [List.map_cons, List.sum_cons, List.length_cons, Nat.succ_mul]
    omega
theorem len_le_nsize {ns : List (List Ru)} {l : List Ru} (h : l ∈ ns) : l.length ≤ nsize ns := by
  induction ns with
  | nil => cases h
  | cons x ls ih =>
    unfold nsize at *
    simp only [List.map_cons, List.sum_cons]
    rcases List.mem_cons.1 h with rfl | h
    · omega
    · have := ih h; omega
end Go.Th
