/-
  The plain law of the reference's Fit of certificates, and of parts that meet. No program in sight.
-/
import Derived.Test.YteellpcagdnikaaPutLaw
import Derived.Test.YteellpcagdnikaaCertTracesLaw
set_option linter.unusedVariables false
namespace Go.Th
open Go.RowKit
theorem tmod_fit (x n : Int) (hn : 0 < n) : (x.tmod n + n).tmod n = x % n := by
  rcases Int.le_total 0 x with h | h
  · rw [Int.tmod_eq_emod_of_nonneg h, Int.tmod_eq_emod_of_nonneg (by have := Int.emod_nonneg x (show n ≠ 0 by omega); omega), Int.add_emod_right, Int.emod_emod]
  · obtain ⟨y, rfl⟩ : ∃ y, x = -y := ⟨-x, by omega⟩
    have hy : 0 ≤ y := by omega
    have h1 := Int.emod_lt_of_pos y hn
    rw [Int.neg_tmod, Int.tmod_eq_emod_of_nonneg hy, Int.tmod_eq_emod_of_nonneg (by omega)]
    have e : -(y % n) + n = -y + n * (y / n + 1) := by
      have := Int.mul_ediv_add_emod y n
      rw [Int.mul_add, Int.mul_one]
      omega
    rw [e, Int.add_mul_emod_self_left]
theorem tmod_lim (x n : Int) (hn : 0 < n) : -n < x.tmod n ∧ x.tmod n < n := by
  rcases Int.le_total 0 x with h | h
  · rw [Int.tmod_eq_emod_of_nonneg h]
    have := Int.emod_nonneg x (show n ≠ 0 by omega)
    have := Int.emod_lt_of_pos x hn
    omega
  · obtain ⟨y, rfl⟩ : ∃ y, x = -y := ⟨-x, by omega⟩
    rw [Int.neg_tmod, Int.tmod_eq_emod_of_nonneg (by omega)]
    have := Int.emod_nonneg y (show n ≠ 0 by omega)
    have := Int.emod_lt_of_pos y hn
    omega
/-! ### The trace. -/
def fstep (n : Int) (out : List Int) (x : Int) : List Int := if x % n ∈ out ∨ (out ≠ [] ∧ x % n ≤ trfirst out) then out else out ++ [x % n]
def ftr (n : Int) (l : List Int) : List Int := l.foldl (fstep n) []
/-- What Fit goes through. -/
def ftin (tr : List Int) : List Int := if tr = [] then [0] else tr
structure FTr (n : Int) (out : List Int) : Prop where
  rng : ∀ y ∈ out, 0 ≤ y ∧ y < n
  nodup : out.Nodup
  least : ∀ y ∈ out, trfirst out ≤ y
theorem FTr.nil (n : Int) : FTr n [] := ⟨by simp, by simp, by simp⟩
theorem trfirst_snoc {out : List Int} (h : out ≠ []) (x : Int) : trfirst (out ++ [x]) = trfirst out := by
  cases out with
  | nil => exact absurd rfl h
  | cons y r => rfl
theorem FTr.step {n : Int} (hn : 0 < n) {out : List Int} (h : FTr n out) (x : Int) : FTr n (fstep n out x) := by
  unfold fstep
  split
  · exact h
  · rename_i hc
    have hm : x % n ∉ out := fun h => hc (.inl h)
    have hr : 0 ≤ x % n ∧ x % n < n := ⟨Int.emod_nonneg x (by omega), Int.emod_lt_of_pos x hn⟩
    refine ⟨fun y hy => ?_, ?_, fun y hy => ?_⟩
    · rcases List.mem_append.1 hy with hy | hy
      · exact h.rng y hy
      · rw [List.mem_singleton.1 hy]; exact hr
    · rw [List.nodup_append]
      refine ⟨h.nodup, by simp, fun a ha b hb e => ?_⟩
      rw [List.mem_singleton.1 hb] at e
      exact hm (e ▸ ha)
    · by_cases he : out = []
      · subst he
        simp only [List.nil_append, List.mem_singleton] at hy
        subst hy
        exact Int.le_refl _
      · rw [trfirst_snoc he]
        rcases List.mem_append.1 hy with hy | hy
        · exact h.least y hy
        · rw [List.mem_singleton.1 hy]
          rcases Int.le_total (x % n) (trfirst out) with g | g
          · exact absurd (.inr ⟨he, g⟩) hc
          · exact g
theorem fold_tr {n : Int} (hn : 0 < n) : ∀ (l out : List Int), FTr n out → FTr n (l.foldl (fstep n) out)
  | [], out, h => h
  | x :: l, out, h => fold_tr hn l _ (h.step hn x)
theorem fstep_ne (n : Int) (out : List Int) (x : Int) : fstep n out x ≠ [] := by
  unfold fstep
  split
  · rename_i h
    intro e
    subst e
    simp at h
  · simp
theorem fold_ne (n : Int) : ∀ (l out : List Int), (out ≠ [] ∨ l ≠ []) → l.foldl (fstep n) out ≠ []
  | [], out, h => by simpa using h
  | x :: l, out, _ => fold_ne n l _ (.inl (fstep_ne n out x))
theorem range_len : ∀ (n : Nat) (l : List Int), l.Nodup → (∀ y ∈ l, 0 ≤ y ∧ y < (n : Int)) → l.length ≤ n
  | 0, l, _, h => by
    cases l with
    | nil => simp
    | cons y r => have := h y (by simp); omega
  | n + 1, l, hd, h => by
    have ih := range_len n (l.erase (n : Int)) (hd.erase _) (fun y hy => by
      rw [hd.mem_erase_iff] at hy
      have := h y hy.2
      have := hy.1
      omega)
    rw [List.length_erase] at ih
    split at ih <;> omega
theorem FTr.len {n : Nat} {out : List Int} (h : FTr n out) : out.length ≤ n := range_len n out h.nodup h.rng
theorem FTr.may {n : Nat} {out : List Int} (h : FTr n out) (hne : out ≠ []) (d : Int) : cmay 2 [] d out n = 0 := by
  unfold cmay
  rw [if_neg (by omega), if_pos rfl]
  unfold cloops
  have := h.len
  have hl : out.length ≠ 0 := fun e => hne (List.eq_nil_of_length_eq_zero e)
  rw [if_neg (by simp), if_neg (by omega), if_neg (by rw [any_outs_no h.rng]; simp)]
  rw [trgo_zero]
  exact ⟨fun x hx => ⟨by simp, h.least x hx⟩, h.nodup⟩
def ftrace (n : Int) (tr : List Int) : List Int := ftr n (ftin tr)
theorem ftrace_ok {n : Int} (hn : 0 < n) (tr : List Int) : FTr n (ftrace n tr) ∧ ftrace n tr ≠ [] :=
  ⟨fold_tr hn _ _ (FTr.nil n), fold_ne n _ _ (.inr (by unfold ftin; split <;> simp_all))⟩
/-- Which nodes are in a trace. -/
def marks (n : Nat) (out : List Int) : List Bool := (List.range n).map fun (j : Nat) => decide ((j : Int) ∈ out)
theorem marks_len (n : Nat) (out : List Int) : (marks n out).length = n := by simp [marks]
theorem marks_get {n : Nat} {out : List Int} {j : Nat} (h : j < n) : (marks n out)[j]? = some (decide ((j : Int) ∈ out)) := by simp [marks, h]
theorem marks_nil (n : Nat) : marks n [] = List.replicate n false := by
  unfold marks
  rw [List.eq_replicate_iff]
  refine ⟨by simp, fun b hb => ?_⟩
  obtain ⟨j, _, rfl⟩ := List.mem_map.1 hb
  simp
theorem marks_set {n : Nat} {out : List Int} {j : Nat} (h : j < n) : (marks n out).set j true = marks n (out ++ [(j : Int)]) := by
  refine List.ext_getElem? fun t => ?_
  rw [List.getElem?_set]
  by_cases ht : t < n
  · rw [marks_get ht, marks_get ht]
    by_cases e : j = t
    · subst e; simp [marks_len, h]
    · rw [if_neg e]
      have : ¬ (t : Int) = j := by omega
      simp [this]
  · rw [List.getElem?_eq_none (by rw [marks_len]; omega), List.getElem?_eq_none (by rw [marks_len]; omega)]
    split
    · rename_i e; simp [marks_len]; omega
    · rfl
/-! ### Parts that meet. -/
theorem meet_from (ps : List Pt) : ∀ (m k : Nat), k + m = ps.length → (meetF (nextOf ps k) (ps.drop k) = true ↔ (∀ j p, k ≤ j → ps[j]? = some p → p.fr = nextOf ps j ∧ p.fr ≤ p.to) ∧ nextOf ps ps.length = 4294967296)
  | 0, k, h => by
    have hk : k = ps.length := by omega
    subst hk
    rw [List.drop_length]
    simp only [meetF, decide_eq_true_eq]
    refine ⟨fun e => ⟨fun j p hj hp => ?_, e⟩, fun e => e.2⟩
    rw [List.getElem?_eq_none hj] at hp
    cases hp
  | m + 1, k, h => by
    have hk : k < ps.length := by omega
    have hp : ps[k]? = some ps[k] := List.getElem?_eq_getElem hk
    by_cases hc : ps[k].fr = nextOf ps k ∧ ps[k].fr ≤ ps[k].to
    · rw [meet_on hp hc.1 hc.2, meet_from ps m (k + 1) (by omega)]
      refine ⟨fun ⟨h1, h2⟩ => ⟨fun j p hj hpj => ?_, h2⟩, fun ⟨h1, h2⟩ => ⟨fun j p hj hpj => h1 j p (by omega) hpj, h2⟩⟩
      by_cases e : j = k
      · subst e; rw [hp] at hpj; injection hpj with hpj; subst hpj; exact hc
      · exact h1 j p (by omega) hpj
    · rw [meet_no hp (by omega)]
      refine ⟨fun h => (by cases h), fun ⟨h1, _⟩ => absurd (h1 k _ (Nat.le_refl _) hp) hc⟩
theorem meet_iff (ps : List Pt) : meetF 0 ps = true ↔ (∀ j p, ps[j]? = some p → p.fr = nextOf ps j ∧ p.fr ≤ p.to) ∧ nextOf ps ps.length = 4294967296 := by
  have := meet_from ps ps.length 0 (by omega)
  rw [List.drop_zero] at this
  rw [show (0 : Int) = nextOf ps 0 from rfl, this]
  exact ⟨fun ⟨h1, h2⟩ => ⟨fun j p => h1 j p (Nat.zero_le _), h2⟩, fun ⟨h1, h2⟩ => ⟨fun j p _ => h1 j p, h2⟩⟩
/-! ### The parts of Fit. -/
def pkey (p : Pt) : Int × Int × List Int := (p.fr, p.to, p.rk)
def endOf (l : List Int) (i : Nat) : Int := if i + 1 < l.length then l.getD (i + 1) 0 - 1 else 4294967295
def frk (rs : List Int) (n at_ : Nat) : Int := if rs = [] then 0 else (rs.getD (at_ % rs.length) 0) % n
def franks (rs : List Int) (n i : Nat) : List Int := (List.range n).map fun k => frk rs n (i * n + k)
def fpart (l rs : List Int) (n i : Nat) : Int × Int × List Int := (l.getD i 0, endOf l i, franks rs n i)
def fparts (l rs : List Int) (n : Nat) : List (Int × Int × List Int) := (List.range l.length).map (fpart l rs n)
/-- What Fit's parts are made of. -/
def fcuts (ps : List Pt) : List Int := pfit ((ps.take 12).map (·.fr))
def franksIn (ps : List Pt) : List Int := (ps.take 12).flatMap (·.rk)
theorem frk_bd (rs : List Int) (n at_ : Nat) (hn : 0 < n) : 0 ≤ frk rs n at_ ∧ frk rs n at_ < n := by
  unfold frk
  split
  · omega
  · exact ⟨Int.emod_nonneg _ (by omega), Int.emod_lt_of_pos _ (by omega)⟩
theorem franks_len (rs : List Int) (n i : Nat) : (franks rs n i).length = n := by simp [franks]
structure FPs (l rs : List Int) (n : Nat) (ps : List Pt) : Prop where
  key : ps.map pkey = fparts l rs n
  row : Row0 l
  pos : 0 < n
section
variable {l rs : List Int} {n : Nat} {ps : List Pt} (h : FPs l rs n ps)
include h
theorem FPs.len : ps.length = l.length := by
  have := congrArg List.length h.key
  simpa [fparts] using this
theorem FPs.get {k : Nat} {p : Pt} (hp : ps[k]? = some p) : k < l.length ∧ p.fr = l.getD k 0 ∧ p.to = endOf l k ∧ p.rk = franks rs n k := by
  have hk : k < l.length := by rw [← h.len]; exact (List.getElem?_eq_some_iff.1 hp).1
  have h1 : (ps.map pkey)[k]? = some (pkey p) := by rw [List.getElem?_map, hp]; rfl
  rw [h.key] at h1
  have h2 : (fparts l rs n)[k]? = some (fpart l rs n k) := by simp [fparts, hk]
  rw [h2] at h1
  injection h1 with h1
  unfold pkey fpart at h1
  injection h1 with a1 a2
  injection a2 with a2 a3
  exact ⟨hk, a1.symm, a2.symm, a3.symm⟩
theorem FPs.pos_len : 0 < l.length := by
  rcases Nat.eq_zero_or_pos l.length with e | e
  · have := h.row.head
    rw [List.eq_nil_of_length_eq_zero e] at this
    cases this
  · exact e
omit h in
theorem row_at {l : List Int} (hr : Row0 l) {i : Nat} (hi : i < l.length) : l[i]? = some (l.getD i 0) ∧ 0 ≤ l.getD i 0 ∧ l.getD i 0 ≤ 4294967295 := by
  have e : l[i]? = some (l.getD i 0) := by simp [List.getElem?_eq_getElem hi]
  exact ⟨e, hr.rng _ (List.mem_of_getElem? e)⟩
omit h in
theorem row_lt {l : List Int} (hr : Row0 l) {i j : Nat} (hij : i < j) (hj : j < l.length) : l.getD i 0 < l.getD j 0 := by
  have := List.pairwise_iff_getElem.1 hr.up i j (by omega) hj hij
  simpa [List.getElem?_eq_getElem hj, List.getElem?_eq_getElem (show i < l.length by omega)] using this
omit h in
theorem row_zero {l : List Int} (hr : Row0 l) : l.getD 0 0 = 0 := by
  have := hr.head
  simp [this]
omit h in
theorem endOf_bd {l : List Int} (hr : Row0 l) {i : Nat} (hi : i < l.length) : l.getD i 0 ≤ endOf l i ∧ endOf l i ≤ 4294967295 := by
  have h0 := row_at hr hi
  unfold endOf
  split
  · rename_i h1
    have : l.getD i 0 < l.getD (i + 1) 0 := row_lt hr (by omega) h1
    have := row_at hr h1
    omega
  · omega
theorem FPs.next {k : Nat} (hk : k < l.length) : nextOf ps k = l.getD k 0 := by
  cases k with
  | zero => exact (row_zero h.row).symm
  | succ k =>
    have hp : ps[k]? = some (ps[k]'(by rw [h.len]; omega)) := List.getElem?_eq_getElem _
    rw [nextOf_succ hp, (h.get hp).2.2.1]
    unfold endOf
    rw [if_pos hk]
    omega
theorem FPs.last : nextOf ps ps.length = 4294967296 := by
  have := h.pos_len
  obtain ⟨m, hm⟩ : ∃ m, ps.length = m + 1 := ⟨ps.length - 1, by rw [h.len]; omega⟩
  have hp : ps[m]? = some (ps[m]'(by omega)) := List.getElem?_eq_getElem _
  rw [hm, nextOf_succ hp, (h.get hp).2.2.1]
  unfold endOf
  rw [if_neg (by rw [← h.len]; omega)]
  rfl
theorem FPs.meet : meetF 0 ps = true := by
  rw [meet_iff]
  refine ⟨fun j p hp => ?_, h.last⟩
  obtain ⟨h1, h2, h3, _⟩ := h.get hp
  rw [h.next h1, h2, h3]
  exact ⟨rfl, (endOf_bd h.row h1).1⟩
theorem FPs.ok : ∀ p ∈ ps, p.Ok := by
  intro p hp
  obtain ⟨k, hk⟩ := List.getElem?_of_mem hp
  obtain ⟨h1, h2, h3, _⟩ := h.get hk
  have a := row_at h.row h1
  have b := endOf_bd h.row h1
  exact ⟨by rw [h2]; exact a.2, by rw [h3]; exact ⟨by omega, b.2⟩⟩
theorem FPs.rkLen : ∀ p ∈ ps, p.rk.length = n := by
  intro p hp
  obtain ⟨k, hk⟩ := List.getElem?_of_mem hp
  rw [(h.get hk).2.2.2, franks_len]
theorem FPs.rkIn : ∀ p ∈ ps, ∀ x ∈ p.rk, 0 ≤ x ∧ x < (n : Int) := by
  intro p hp x hx
  obtain ⟨k, hk⟩ := List.getElem?_of_mem hp
  rw [(h.get hk).2.2.2] at hx
  obtain ⟨j, _, rfl⟩ := List.mem_map.1 hx
  exact frk_bd _ _ _ h.pos
omit h in
theorem ranks_all {n : Nat} : ∀ (ps : List Pt), (∀ p ∈ ps, p.rk.length = n) → (∀ p ∈ ps, ∀ x ∈ p.rk, 0 ≤ x ∧ x < (n : Int)) → ranks n ps = 0
  | [], _, _ => rfl
  | p :: ps, h1, h2 => by
    simp only [ranks]
    rw [if_neg (by have := h1 p (by simp); omega), if_neg (by rw [any_outs_no (h2 p (by simp))]; simp)]
    exact ranks_all ps (fun q hq => h1 q (by simp [hq])) (fun q hq => h2 q (by simp [hq]))
theorem FPs.may (hl : l.length ≤ 31) : cmay 1 ps 0 [] n = 0 := by
  unfold cmay
  rw [if_pos rfl]
  unfold cfree
  have := h.len
  rw [if_neg (by simp), if_neg (by omega), if_neg (by rw [h.meet]; simp)]
  exact ranks_all ps h.rkLen h.rkIn
end
end Go.Th
