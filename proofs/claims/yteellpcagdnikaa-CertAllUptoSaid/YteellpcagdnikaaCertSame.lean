/-
  Whether two certificates are the same: the walks of cert.Same, of the reference's Same, and of what they call.
-/
import Derived.Test.YteellpcagdnikaaCertRefMay
namespace Go.Th
open Go.RowKit
/-- Two rows of parts are the same: their ends, and their ranks. -/
def psame : List Pt → List Pt → Bool
  | [], [] => true
  | p :: ps, q :: qs => (decide (p.fr = q.fr) && decide (p.to = q.to) && decide (p.rk = q.rk)) && psame ps qs
  | [], _ :: _ => false
  | _ :: _, [] => false
def csame (v : Int) (ps : List Pt) (d : Int) (tr : List Int) (v' : Int) (qs : List Pt) (d' : Int) (tr' : List Int) : Bool :=
  decide (v = v') && decide (d = d') && decide (tr = tr') && psame ps qs
theorem psame_len : ∀ (ps qs : List Pt), psame ps qs = true → ps.length = qs.length
  | [], [], _ => rfl
  | p :: ps, q :: qs, h => by
    simp only [psame, Bool.and_eq_true] at h
    simp [psame_len ps qs h.2]
  | [], _ :: _, h => by simp [psame] at h
  | _ :: _, [], h => by simp [psame] at h
theorem take_eq_snoc {α : Type} {xs ys : List α} {k : Nat} {x y : α} (hx : xs[k]? = some x) (hy : ys[k]? = some y) (h : xs.take k = ys.take k) (hxy : x = y) : xs.take (k + 1) = ys.take (k + 1) := by
  rw [List.take_add_one, List.take_add_one, hx, hy, h, hxy]
theorem ne_at {α : Type} {xs ys : List α} {k : Nat} {x y : α} (hx : xs[k]? = some x) (hy : ys[k]? = some y) (hxy : x ≠ y) : xs ≠ ys := fun e => by
  subst e
  rw [hx] at hy
  injection hy with hy
  exact hxy hy
theorem psame_on {ps qs : List Pt} {k : Nat} {p q : Pt} (hp : ps[k]? = some p) (hq : qs[k]? = some q) (h : p.fr = q.fr ∧ p.to = q.to ∧ p.rk = q.rk) : psame (ps.drop k) (qs.drop k) = psame (ps.drop (k + 1)) (qs.drop (k + 1)) := by
  rw [drop_cons hp, drop_cons hq]
  simp [psame, h.1, h.2.1, h.2.2]
theorem psame_no {ps qs : List Pt} {k : Nat} {p q : Pt} (hp : ps[k]? = some p) (hq : qs[k]? = some q) (h : ¬ (p.fr = q.fr ∧ p.to = q.to ∧ p.rk = q.rk)) : psame (ps.drop k) (qs.drop k) = false := by
  rw [drop_cons hp, drop_cons hq]
  simp only [psame]
  by_cases h1 : p.fr = q.fr
  · by_cases h2 : p.to = q.to
    · have h3 : ¬ p.rk = q.rk := fun h3 => h ⟨h1, h2, h3⟩
      simp [h3]
    · simp [h2]
  · simp [h1]
end Go.Th
namespace Go.Proofs.Yteellpcagdnikaa
open Go.RowKit Go.Th
set_option linter.unusedVariables false
def RowRel (xs ys : List Int) (n : Nat) (w : World) (i : Value) (wr : World) : Prop :=
  ∃ k : Nat, k ≤ n ∧ i = .int .i64 k ∧ Hid (xs.take k = ys.take k) ∧ Below w.heap.size w wr
set_option maxRecDepth 100000 in
theorem row_any (A : Option Addr) (n c : Nat) (A2 : Option Addr) (n2 c2 : Nat) (xs ys : List Int) (w : World) (hm : n ≤ 9223372036854775807) (hm2 : n2 ≤ 9223372036854775807) (B B2 : Nat) (hr : RdS iv w B A n c xs) (hr2 : RdS iv w B2 A2 n2 c2 ys) (b : Bool) (hb : Hid (decide (xs = ys) = b)) :
    Calls Try.prog 30 #[.slice A n c, .slice A2 n2 c2] w (RetB (.bool b) w) := by
  have Hlen := Lib.hid hr.len
  have Hlen2 := Lib.hid hr2.len
  by_cases hnn : n = n2
  rotate_left
  · have n1 : ((n : Int) != (n2 : Int)) = true := by simp; omega
    have Hb : Hid (b = false) := Lib.hid (by rw [← hb.out]; exact decide_eq_false fun e => by subst e; exact hnn (Hlen.out.symm.trans Hlen2.out))
    go_enter Try.func30, Try.ntmps30
    go_wp2
    go_ret
    exact ⟨by rw [Hb.out]; try rfl, Below.refl _ _⟩
  · subst hnn
    have n1 : ((n : Int) != (n : Int)) = false := by simp
    go_enter Try.func30, Try.ntmps30
    go_wp2
    go_loopw [5] (fun i wr => RowRel xs ys n w i wr) (fun i _ => n - (intOf i).toNat)
    case atStart => exact ⟨0, by omega, rfl, Lib.hid rfl, Below.refl _ _⟩
    case round =>
      obtain ⟨k, hk, rfl, hf, hbw⟩ := hrel
      have hrk := hr.step hbw
      have hrk2 := hr2.step hbw
      have hbs := hbw.size
      by_cases hlt : k < n
      · obtain ⟨x, hx⟩ : ∃ x, xs[k]? = some x := ⟨xs[k]'(by have := Hlen.out; omega), List.getElem?_eq_getElem _⟩
        obtain ⟨y, hy⟩ : ∃ y, ys[k]? = some y := ⟨ys[k]'(by have := Hlen2.out; omega), List.getElem?_eq_getElem _⟩
        have hways : ((x != y) = true ∧ b = false) ∨ ((x != y) = false ∧ xs.take (k + 1) = ys.take (k + 1)) := by
          by_cases h : x = y
          · exact .inr ⟨by simp [h], take_eq_snoc hx hy hf.out h⟩
          · exact .inl ⟨by simp [h], by rw [← hb.out]; exact decide_eq_false (ne_at hx hy h)⟩
        have Hx := Lib.hid hx
        have Hy := Lib.hid hy
        have x1 := hrk.reach
        have x2 := hrk2.reach
        clear hx hy hf
        rcases hways with ⟨e1, e2⟩ | ⟨e1, e2⟩
        all_goals
          have He := Lib.hid e2
          clear e2
          go_upto_region 6 with fail
          refine wp_region_reach (by kernel_rfl) (by kernel_rfl) ?_
          repeat (first | go_big_quiet_skip | ((with_reducible refine onq_index (.tmp 17) ?_); refine wq_at_i rfl _ (.tmp 17) _ rfl el_int rfl rfl (by omega) (by omega) (Th.Reach.refl _ _) x1 ?_; intro p1 z1 hz1 hc1; have hxx := get_eq Hx.out hz1.out (by omega); subst hxx; have f1 : ∀ q : Step _ _, q.w.cell? p1 = some (.int .i64 x) := fun q => hc1 q.w ⟨q, rfl⟩) | ((with_reducible refine onq_index (.tmp 21) ?_); refine wq_at_i rfl _ (.tmp 21) _ rfl el_int rfl rfl (by omega) (by omega) (Th.Reach.refl _ _) x2 ?_; intro p2 z2 hz2 hc2; have hxx := get_eq Hy.out hz2.out (by omega); subst hxx; have f2 : ∀ q : Step _ _, q.w.cell? p2 = some (.int .i64 y) := fun q => hc2 q.w ⟨q, rfl⟩) | go_big_quiet_step (fail) | quiet_step (fail))
          refine wpQuiet_nil ?_
          rintro _ ⟨q, rfl⟩
          have hqw5 := q.h
          obtain ⟨w5, hw5'⟩ : ∃ W, q.w = W := ⟨_, rfl⟩
          rw [hw5'] at hqw5 ⊢
          clear hw5' q
          go_wp2
        · go_ret
          exact ⟨by rw [He.out]; try rfl, hbw.trans (hqw5.mono hbs)⟩
        · go_roundw
          case rel => first | exact ⟨k + 1, by omega, by go_num, He, hbw.trans (hqw5.mono hbs)⟩ | exact ⟨_, _, ⟨k + 1, by omega, by go_num, He, hbw.trans (hqw5.mono hbs)⟩, rfl, rfl⟩ | exact ⟨_, _, _, ⟨k + 1, by omega, by go_num, He, hbw.trans (hqw5.mono hbs)⟩, rfl, rfl, rfl⟩
          case measure => simp [intOf] <;> omega
      · have hkn : k = n := by omega
        have Hb : Hid (b = true) := Lib.hid (by
          have h := hf.out
          rw [List.take_of_length_le (by have := Hlen.out; omega), List.take_of_length_le (by have := Hlen2.out; omega)] at h
          rw [← hb.out]; exact decide_eq_true h)
        clear hf
        go_wp2
        go_ret
        exact ⟨by rw [Hb.out]; try rfl, hbw⟩
set_option maxRecDepth 100000 in
theorem equal_any (A : Option Addr) (n c : Nat) (A2 : Option Addr) (n2 c2 : Nat) (xs ys : List Int) (w : World) (hm : n ≤ 9223372036854775807) (hm2 : n2 ≤ 9223372036854775807) (B B2 : Nat) (hr : RdS iv w B A n c xs) (hr2 : RdS iv w B2 A2 n2 c2 ys) (b : Bool) (hb : Hid (decide (xs = ys) = b)) :
    Calls Try.prog 27 #[.slice A n c, .slice A2 n2 c2] w (RetB (.bool b) w) := by
  have Hlen := Lib.hid hr.len
  have Hlen2 := Lib.hid hr2.len
  by_cases hnn : n = n2
  rotate_left
  · have n1 : ((n : Int) != (n2 : Int)) = true := by simp; omega
    have Hb : Hid (b = false) := Lib.hid (by rw [← hb.out]; exact decide_eq_false fun e => by subst e; exact hnn (Hlen.out.symm.trans Hlen2.out))
    go_enter Try.func27, Try.ntmps27
    go_wp2
    go_ret
    exact ⟨by rw [Hb.out]; try rfl, Below.refl _ _⟩
  · subst hnn
    have n1 : ((n : Int) != (n : Int)) = false := by simp
    go_enter Try.func27, Try.ntmps27
    go_wp2
    go_loopw [5, 13] (fun _ i wr => RowRel xs ys n w i wr) (fun _ i _ => n - (intOf i).toNat)
    case atStart => exact ⟨0, by omega, rfl, Lib.hid rfl, Below.refl _ _⟩
    case round =>
      obtain ⟨k, hk, rfl, hf, hbw⟩ := hrel
      have hrk := hr.step hbw
      have hrk2 := hr2.step hbw
      have hbs := hbw.size
      by_cases hlt : k < n
      · obtain ⟨x, hx⟩ : ∃ x, xs[k]? = some x := ⟨xs[k]'(by have := Hlen.out; omega), List.getElem?_eq_getElem _⟩
        obtain ⟨y, hy⟩ : ∃ y, ys[k]? = some y := ⟨ys[k]'(by have := Hlen2.out; omega), List.getElem?_eq_getElem _⟩
        have hways : ((x != y) = true ∧ b = false) ∨ ((x != y) = false ∧ xs.take (k + 1) = ys.take (k + 1)) := by
          by_cases h : x = y
          · exact .inr ⟨by simp [h], take_eq_snoc hx hy hf.out h⟩
          · exact .inl ⟨by simp [h], by rw [← hb.out]; exact decide_eq_false (ne_at hx hy h)⟩
        have Hx := Lib.hid hx
        have Hy := Lib.hid hy
        have x1 := hrk.reach
        have x2 := hrk2.reach
        clear hx hy hf
        rcases hways with ⟨e1, e2⟩ | ⟨e1, e2⟩
        all_goals
          have He := Lib.hid e2
          clear e2
          go_upto_region 6 with fail
          refine wp_region_reach (by kernel_rfl) (by kernel_rfl) ?_
          repeat (first | go_big_quiet_skip | ((with_reducible refine onq_index (.tmp 16) ?_); refine wq_at_i rfl _ (.tmp 16) _ rfl el_int rfl rfl (by omega) (by omega) (Th.Reach.refl _ _) x1 ?_; intro p1 z1 hz1 hc1; have hxx := get_eq Hx.out hz1.out (by omega); subst hxx; have f1 : ∀ q : Step _ _, q.w.cell? p1 = some (.int .i64 x) := fun q => hc1 q.w ⟨q, rfl⟩) | ((with_reducible refine onq_index (.tmp 20) ?_); refine wq_at_i rfl _ (.tmp 20) _ rfl el_int rfl rfl (by omega) (by omega) (Th.Reach.refl _ _) x2 ?_; intro p2 z2 hz2 hc2; have hxx := get_eq Hy.out hz2.out (by omega); subst hxx; have f2 : ∀ q : Step _ _, q.w.cell? p2 = some (.int .i64 y) := fun q => hc2 q.w ⟨q, rfl⟩) | go_big_quiet_step (fail) | quiet_step (fail))
          refine wpQuiet_nil ?_
          rintro _ ⟨q, rfl⟩
          have hqw5 := q.h
          obtain ⟨w5, hw5'⟩ : ∃ W, q.w = W := ⟨_, rfl⟩
          rw [hw5'] at hqw5 ⊢
          clear hw5' q
          go_wp2
        · go_ret
          exact ⟨by rw [He.out]; try rfl, hbw.trans (hqw5.mono hbs)⟩
        · go_roundw
          case rel => first | exact ⟨k + 1, by omega, by go_num, He, hbw.trans (hqw5.mono hbs)⟩ | exact ⟨_, _, ⟨k + 1, by omega, by go_num, He, hbw.trans (hqw5.mono hbs)⟩, rfl, rfl⟩ | exact ⟨_, _, _, ⟨k + 1, by omega, by go_num, He, hbw.trans (hqw5.mono hbs)⟩, rfl, rfl, rfl⟩
          case measure => simp [intOf] <;> omega
      · have hkn : k = n := by omega
        have Hb : Hid (b = true) := Lib.hid (by
          have h := hf.out
          rw [List.take_of_length_le (by have := Hlen.out; omega), List.take_of_length_le (by have := Hlen2.out; omega)] at h
          rw [← hb.out]; exact decide_eq_true h)
        clear hf
        go_wp2
        go_ret
        exact ⟨by rw [Hb.out]; try rfl, hbw⟩
end Go.Proofs.Yteellpcagdnikaa
