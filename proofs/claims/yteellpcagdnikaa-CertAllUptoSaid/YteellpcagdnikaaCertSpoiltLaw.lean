/-
  The plain law of theseuslaw17.CertSpoilt: what is told of a certificate with one thing spoilt. No program in sight.
-/
import Derived.Test.YteellpcagdnikaaCertMeetsLaw
set_option linter.unusedVariables false
namespace Go.Th
open Go.RowKit
theorem meetF_ends : ∀ (ps qs : List Pt) (x : Int), ps.map (fun p => (p.fr, p.to)) = qs.map (fun p => (p.fr, p.to)) → meetF x ps = meetF x qs
  | [], [], _, _ => rfl
  | p :: ps, q :: qs, x, h => by
    simp only [List.map_cons, List.cons.injEq, Prod.mk.injEq] at h
    obtain ⟨⟨h1, h2⟩, h3⟩ := h
    simp only [meetF]
    rw [h1, h2, meetF_ends ps qs _ h3]
  | [], q :: qs, _, h => by simp at h
  | p :: ps, [], _, h => by simp at h
theorem ends_set {ps : List Pt} {i : Nat} {p q : Pt} (hp : ps[i]? = some p) (h1 : q.fr = p.fr) (h2 : q.to = p.to) : (ps.set i q).map (fun p => (p.fr, p.to)) = ps.map (fun p => (p.fr, p.to)) := by
  refine List.ext_getElem? fun j => ?_
  rw [List.getElem?_map, List.getElem?_map, List.getElem?_set]
  by_cases e : i = j
  · subst e
    have hl := (List.getElem?_eq_some_iff.1 hp).1
    rw [if_pos rfl, if_pos hl, hp]
    simp [h1, h2]
  · rw [if_neg e]
/-- The first part that is wrong, alone. -/
theorem ranks_set {n : Nat} {V : Int} : ∀ (ps : List Pt) (i : Nat) (q : Pt), (∀ p ∈ ps, p.rk.length = n) → (∀ p ∈ ps, ∀ x ∈ p.rk, 0 ≤ x ∧ x < (n : Int)) → i < ps.length → (∀ qs, ranks n (q :: qs) = V) → ranks n (ps.set i q) = V
  | [], i, q, _, _, h, _ => by simp at h
  | p :: ps, 0, q, _, _, _, hq => hq ps
  | p :: ps, i + 1, q, h1, h2, h3, hq => by
    rw [List.set_cons_succ]
    simp only [ranks]
    rw [if_neg (by have := h1 p (by simp); omega), if_neg (by rw [any_outs_no (h2 p (by simp))]; simp)]
    exact ranks_set ps i q (fun x hx => h1 x (by simp [hx])) (fun x hx => h2 x (by simp [hx])) (by simpa using h3) hq
theorem spoil_act (v : Int) (h : 3 ≤ v) (ps : List Pt) (d : Int) (tr : List Int) (n : Int) : cmay v ps d tr n = 9 := by
  unfold cmay
  rw [if_neg (by omega), if_neg (by omega)]
theorem spoil_form (ps : List Pt) (d : Int) (tr : List Int) (n : Int) (h : d ≠ 0 ∨ tr.length ≠ 0) : cmay 1 ps d tr n = 3 := by
  unfold cmay
  rw [if_pos rfl]
  unfold cfree
  rw [if_pos h]
section
variable {l rs : List Int} {n : Nat} {ps : List Pt} (h : FPs l rs n ps) (hl : l.length ≤ 31)
include h hl
theorem spoil_rank {i : Nat} {p q : Pt} (hp : ps[i]? = some p) (h1 : q.fr = p.fr) (h2 : q.to = p.to) (V : Int) (hq : ∀ qs, ranks n (q :: qs) = V) : cmay 1 (ps.set i q) 0 [] n = V := by
  unfold cmay
  rw [if_pos rfl]
  unfold cfree
  have := h.len
  rw [if_neg (by simp), if_neg (by rw [List.length_set]; omega), if_neg (by rw [meetF_ends _ ps 0 (ends_set hp h1 h2), h.meet]; simp)]
  exact ranks_set ps i q h.rkLen h.rkIn (List.getElem?_eq_some_iff.1 hp).1 hq
theorem spoil_size {i : Nat} {p : Pt} (hp : ps[i]? = some p) (A : Option Addr) (m c : Nat) : cmay 1 (ps.set i ⟨p.fr, p.to, A, m, c, p.rk ++ [0]⟩) 0 [] n = 1 :=
  spoil_rank h hl (q := ⟨p.fr, p.to, A, m, c, p.rk ++ [0]⟩) hp rfl rfl 1 fun qs => by
    simp only [ranks]
    have := h.rkLen p (List.mem_of_getElem? hp)
    rw [if_pos (by simp; omega)]
theorem spoil_rank0 {i : Nat} {p : Pt} (hp : ps[i]? = some p) (A : Option Addr) (m c : Nat) : cmay 1 (ps.set i ⟨p.fr, p.to, A, m, c, p.rk.set 0 (n : Int)⟩) 0 [] n = 16 :=
  spoil_rank h hl (q := ⟨p.fr, p.to, A, m, c, p.rk.set 0 (n : Int)⟩) hp rfl rfl 16 fun qs => by
    simp only [ranks]
    have e := h.rkLen p (List.mem_of_getElem? hp)
    have hpos := h.pos
    rw [if_neg (by simp; omega), if_pos (any_outs_yes (List.mem_of_getElem? (List.getElem?_set_self (i := 0) (by omega))) (Int.le_refl _))]
omit h hl in
theorem spoil_meet {qs : List Pt} (hq : qs.length ≤ 8193) (hm : meetF 0 qs = false) : cmay 1 qs 0 [] n = 15 := by
  unfold cmay
  rw [if_pos rfl]
  unfold cfree
  rw [if_neg (by simp), if_neg (by omega), if_pos hm]
omit h hl in
theorem not_meet {qs : List Pt} (hn : ¬ ((∀ j p, qs[j]? = some p → p.fr = nextOf qs j ∧ p.fr ≤ p.to) ∧ nextOf qs qs.length = 4294967296)) : meetF 0 qs = false := by
  cases hm : meetF 0 qs with
  | false => rfl
  | true => exact absurd ((meet_iff qs).1 hm) hn
/-- One part less. -/
theorem spoil_less (L : Nat) (hL : l.length = L) : cmay 1 (ps.take (L - 1)) 0 [] n = 15 := by
  have hlen := h.len
  have hpos := h.pos_len
  refine spoil_meet (by rw [List.length_take]; omega) (not_meet ?_)
  rintro ⟨_, h2⟩
  have e : (ps.take (L - 1)).length = L - 1 := by rw [List.length_take]; omega
  rw [e] at h2
  cases hm : L - 1 with
  | zero => rw [hm] at h2; simp [nextOf] at h2
  | succ m =>
    rw [hm] at h2
    have hp : (ps.take (m + 1))[m]? = ps[m]? := by rw [List.getElem?_take, if_pos (by omega)]
    have hq : ps[m]? = some (ps[m]'(by omega)) := List.getElem?_eq_getElem _
    rw [hq] at hp
    rw [nextOf_succ hp] at h2
    obtain ⟨_, _, h3, _⟩ := h.get hq
    rw [h3] at h2
    unfold endOf at h2
    rw [if_pos (by omega)] at h2
    have := row_at h.row (show m + 1 < l.length by omega)
    omega
/-- One part more. -/
theorem spoil_more {p : Pt} (hp : ps[0]? = some p) : cmay 1 (ps ++ [p]) 0 [] n = 15 := by
  have hlen := h.len
  have hpos := h.pos_len
  refine spoil_meet (by simp; omega) (not_meet ?_)
  rintro ⟨h1, _⟩
  have hq : (ps ++ [p])[ps.length]? = some p := by simp
  have h3 := (h1 ps.length p hq).1
  have hlast := h.last
  obtain ⟨m, hm⟩ : ∃ m, ps.length = m + 1 := ⟨ps.length - 1, by omega⟩
  have hx : ps[m]? = some (ps[m]'(by omega)) := List.getElem?_eq_getElem _
  have hy : (ps ++ [p])[m]? = some (ps[m]'(by omega)) := by rw [List.getElem?_append_left (by omega)]; exact hx
  rw [hm, nextOf_succ hx] at hlast
  rw [hm, nextOf_succ hy] at h3
  have := (h.get hp).2.1
  rw [row_zero h.row] at this
  omega
/-- An end that is one less. -/
theorem spoil_end {i : Nat} {p : Pt} (hp : ps[i]? = some p) : cmay 1 (ps.set i ⟨p.fr, (p.to - 1) % 4294967296, p.A, p.n, p.c, p.rk⟩) 0 [] n = 15 := by
  have hlen := h.len
  have hi := (List.getElem?_eq_some_iff.1 hp).1
  obtain ⟨g1, g2, g3, _⟩ := h.get hp
  have hb := endOf_bd h.row g1
  have hr := row_at h.row g1
  refine spoil_meet (by rw [List.length_set]; omega) (not_meet ?_)
  rintro ⟨h1, h2⟩
  have hq : (ps.set i ⟨p.fr, (p.to - 1) % 4294967296, p.A, p.n, p.c, p.rk⟩)[i]? = some ⟨p.fr, (p.to - 1) % 4294967296, p.A, p.n, p.c, p.rk⟩ := List.getElem?_set_self hi
  have hne : (p.to - 1) % 4294967296 ≠ p.to := by omega
  have hn := nextOf_succ hq
  by_cases e : i + 1 < ps.length
  · have hx : ps[i + 1]? = some (ps[i + 1]'e) := List.getElem?_eq_getElem _
    have hy : (ps.set i ⟨p.fr, (p.to - 1) % 4294967296, p.A, p.n, p.c, p.rk⟩)[i + 1]? = some (ps[i + 1]'e) := by rw [List.getElem?_set_ne (by omega)]; exact hx
    have h3 := (h1 (i + 1) _ hy).1
    rw [hn] at h3
    have h4 := ((meet_iff ps).1 h.meet).1 (i + 1) _ hx
    rw [nextOf_succ hp] at h4
    have := h4.1
    simp only at h3
    omega
  · have e2 : (ps.set i ⟨p.fr, (p.to - 1) % 4294967296, p.A, p.n, p.c, p.rk⟩).length = i + 1 := by rw [List.length_set]; omega
    rw [e2, hn] at h2
    have h4 := h.last
    rw [show ps.length = i + 1 by omega, nextOf_succ hp] at h4
    simp only at h2
    omega
end
/-! ### Of a loop. -/
theorem lspoil_form (ps : List Pt) (d : Int) (tr : List Int) (n : Int) (h : ps.length ≠ 0) : cmay 2 ps d tr n = 3 := by
  unfold cmay
  rw [if_neg (by omega), if_pos rfl]
  unfold cloops
  rw [if_pos h]
theorem lspoil_nil (d n : Int) : cmay 2 [] d [] n = 12 := by
  unfold cmay
  rw [if_neg (by omega), if_pos rfl]
  unfold cloops
  rw [if_neg (by simp), if_pos (by simp)]
section
variable {n : Nat} {out : List Int} (h : FTr n out) (hne : out ≠ [])
include h hne
theorem lspoil_node (d : Int) : cmay 2 [] d (out.set 0 (n : Int)) n = 10 := by
  have := h.len
  have hl : out.length ≠ 0 := fun e => hne (List.eq_nil_of_length_eq_zero e)
  unfold cmay
  rw [if_neg (by omega), if_pos rfl]
  unfold cloops
  rw [if_neg (by simp), if_neg (by rw [List.length_set]; omega), if_pos (any_outs_yes (List.mem_of_getElem? (List.getElem?_set_self (i := 0) (by omega))) (Int.le_refl _))]
omit h hne in
theorem lspoil_trace {tr : List Int} (d : Int) (h0 : tr.length ≠ 0) (h1 : tr.length ≤ n) (h2 : ∀ x ∈ tr, 0 ≤ x ∧ x < (n : Int)) (h3 : ¬ ((∀ x ∈ tr, trfirst tr ≤ x) ∧ tr.Nodup)) : cmay 2 [] d tr n = 17 := by
  unfold cmay
  rw [if_neg (by omega), if_pos rfl]
  unfold cloops
  rw [if_neg (by simp), if_neg (by omega), if_neg (by rw [any_outs_no h2]; simp)]
  rcases trgo_vals tr [] (trfirst tr) with e | e
  · rw [trgo_zero] at e
    exact absurd ⟨fun x hx => (e.1 x hx).2, e.2⟩ h3
  · exact e
omit hne in
theorem lspoil_twice (d : Int) (hlt : out.length < n) (y : Int) (hy : out[0]? = some y) : cmay 2 [] d (out ++ [y]) n = 17 := by
  refine lspoil_trace d (by simp) (by simp; omega) (fun x hx => ?_) (fun hh => ?_)
  · rcases List.mem_append.1 hx with hx | hx
    · exact h.rng x hx
    · rw [List.mem_singleton.1 hx]; exact h.rng y (List.mem_of_getElem? hy)
  · have := hh.2
    rw [List.nodup_append] at this
    exact this.2.2 y (List.mem_of_getElem? hy) y (by simp) rfl
theorem lspoil_swap (d : Int) (y z : Int) (hy : out[0]? = some y) (hz : out[1]? = some z) : cmay 2 [] d ((out.set 0 z).set 1 y) n = 17 := by
  have hl := h.len
  cases out with
  | nil => exact absurd rfl hne
  | cons a r =>
    cases r with
    | nil => simp at hz
    | cons b r =>
      simp at hy hz
      subst hy hz
      have e : (((a :: b :: r).set 0 b).set 1 a) = b :: a :: r := rfl
      rw [e]
      refine lspoil_trace d (by simp) (by simpa using hl) (fun x hx => h.rng x (by simp only [List.mem_cons] at hx ⊢; rcases hx with hx | hx | hx <;> simp [hx])) (fun hh => ?_)
      have h1 := hh.1 a (by simp)
      have h2 := h.least b (by simp)
      have h3 := h.nodup
      simp only [trfirst] at h1 h2
      have : a = b := by omega
      subst this
      simp at h3
end
end Go.Th
