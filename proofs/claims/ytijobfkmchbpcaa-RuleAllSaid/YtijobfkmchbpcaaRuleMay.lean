/-
  The walk of rule.May, and of table.May.
-/
import Derived.Test.YtijobfkmchbpcaaTableMore
import Derived.Test.YtijobfkmchbpcaaTable
namespace Go.Proofs.Ytijobfkmchbpcaa
open Go.RowKit Go.Th
set_option linter.unusedVariables false
set_option maxHeartbeats 1000000 in
theorem may_any (r : Ru) (nodes : Int) (w : World) (h : r.Ok) : Calls Try.prog 27 #[r.v, .int .i64 nodes] w (RetB (.int .i64 (r.may nodes)) w) := by
  have Ha := Lib.hid h.a
  have Hn := Lib.hid h.n
  have hc : (pmay r.a r.n != 0) = true ∧ r.may nodes = pmay r.a r.n ∨
      (pmay r.a r.n != 0) = false ∧ (r.act == 1) = true ∧ r.next < 0 ∧ r.may nodes = 10 ∨
      (pmay r.a r.n != 0) = false ∧ (r.act == 1) = true ∧ 0 ≤ r.next ∧ nodes ≤ r.next ∧ r.may nodes = 10 ∨
      (pmay r.a r.n != 0) = false ∧ (r.act == 1) = true ∧ 0 ≤ r.next ∧ r.next < nodes ∧ r.may nodes = 0 ∨
      (pmay r.a r.n != 0) = false ∧ (r.act == 1) = false ∧ (r.act == 2) = true ∧ (r.next != 0) = true ∧ r.may nodes = 10 ∨
      (pmay r.a r.n != 0) = false ∧ (r.act == 1) = false ∧ (r.act == 2) = true ∧ (r.next != 0) = false ∧ r.may nodes = 0 ∨
      (pmay r.a r.n != 0) = false ∧ (r.act == 1) = false ∧ (r.act == 2) = false ∧ (r.act == 3) = true ∧ (r.next != 0) = true ∧ r.may nodes = 10 ∨
      (pmay r.a r.n != 0) = false ∧ (r.act == 1) = false ∧ (r.act == 2) = false ∧ (r.act == 3) = true ∧ (r.next != 0) = false ∧ r.may nodes = 0 ∨
      (pmay r.a r.n != 0) = false ∧ (r.act == 1) = false ∧ (r.act == 2) = false ∧ (r.act == 3) = false ∧ r.may nodes = 9 := by
    unfold Ru.may
    by_cases h0 : pmay r.a r.n = 0
    · by_cases h1 : r.act = 1
      · by_cases h2 : r.next < 0
        · simp [h0, h1, h2]
        · by_cases h3 : nodes ≤ r.next
          · simp [h0, h1, h2, h3]; omega
          · simp [h0, h1, h2, h3]; omega
      · by_cases h2 : r.act = 2
        · by_cases h3 : r.next = 0 <;> simp [h0, h2, h3]
        · by_cases h3 : r.act = 3
          · by_cases h4 : r.next = 0 <;> simp [h0, h3, h4]
          · simp [h0, h1, h2, h3]
    · simp [h0]
  obtain ⟨a, n, act, next⟩ := r
  show Calls Try.prog 27 #[.agg #[.int .u32 a, .int .i64 n, .int .i64 act, .int .i64 next], .int .i64 nodes] w _
  simp only at Ha Hn hc
  generalize Ru.may ⟨a, n, act, next⟩ nodes = v at *
  have hp := fun W => pmay_any a n W Ha.out Hn.out
  generalize pmay a n = e at *
  have Hp := Lib.hid hp
  clear h hp
  rcases hc with ⟨h1, rfl⟩ | ⟨h1, h2, h3, rfl⟩ | ⟨h1, h2, h3, h4, rfl⟩ | ⟨h1, h2, h3, h4, rfl⟩ | ⟨h1, h2, h3, h4, rfl⟩ | ⟨h1, h2, h3, h4, rfl⟩ | ⟨h1, h2, h3, h4, h5, rfl⟩ | ⟨h1, h2, h3, h4, h5, rfl⟩ | ⟨h1, h2, h3, h4, rfl⟩
  all_goals go_enter Try.func27, Try.ntmps27
  all_goals go_wp2_with (go_at_call 28; refine (Hp.out _).mono ?_; rintro e w' ⟨rfl, rfl⟩)
  all_goals go_ret
  all_goals exact ⟨rfl, below_alloc w (Nat.le_refl _) _⟩
theorem get_eq {α : Type} {xs : List α} {i j : Nat} {x y : α} (h1 : xs[i]? = some x) (h2 : xs[j]? = some y) (hij : i = j) : x = y := by subst hij; rw [h1] at h2; injection h2
theorem may_is (r : Ru) (nodes : Int) (w : World) (h : r.Ok) (e : Int) (he : r.may nodes = e) : Calls Try.prog 27 #[.agg #[.int .u32 r.a, .int .i64 r.n, .int .i64 r.act, .int .i64 r.next], .int .i64 nodes] w fun x w' => x = .returned (.int .i64 e) ∧ Below w.heap.size w w' := by
  have := may_any r nodes w h
  rw [he] at this
  exact this
theorem cmp_is (r s : Ru) (w : World) (hr : r.Ok) (hs : s.Ok) (v : Int) (hv : r.cmp s = v) : Calls Try.prog 34 #[.agg #[.int .u32 r.a, .int .i64 r.n, .int .i64 r.act, .int .i64 r.next], .agg #[.int .u32 s.a, .int .i64 s.n, .int .i64 s.act, .int .i64 s.next]] w fun x w' => x = .returned (.int .i64 v) ∧ Below w.heap.size w w' := by
  have := rcmp_any r s w hr hs
  rw [hv] at this
  exact this
/-- The loop's relation: k rules were looked at. -/
def MayRel (l : List Ru) (nodes : Int) (n : Nat) (w : World) (i : Value) (wr : World) : Prop :=
  ∃ k : Nat, k ≤ n ∧ i = .int .i64 k ∧ Hid (tmay l nodes = tmayGo nodes (aheadOf l k) (l.drop k)) ∧ Below w.heap.size w wr
set_option maxHeartbeats 2000000 in
theorem tmay_any (A : Option Addr) (n c : Nat) (l : List Ru) (nodes : Int) (w : World) (hm : n ≤ 9223372036854775807) (B : Nat) (hr : RdM Ru.cs w B A n c l) (hok : ∀ r ∈ l, r.Ok) :
    Calls Try.prog 32 #[.slice A n c, .int .i64 nodes] w (RetB (.int .i64 (tmay l nodes)) w) := by
  have Hok := Lib.hid hok
  clear hok
  go_enter Try.func32, Try.ntmps32
  go_wp2
  go_loopw [10] (fun i wr => MayRel l nodes n w i wr) (fun i _ => n - (intOf i).toNat)
  case atStart => exact ⟨0, by omega, rfl, rfl, Below.refl _ _⟩
  case round =>
    obtain ⟨k, hk, rfl, hf, hb⟩ := hrel
    have hrk := hr.step hb
    have hlen := hrk.len
    have hbs := hb.size
    by_cases hlt : k < n
    · obtain ⟨r, hr0⟩ : ∃ r, l[k]? = some r := ⟨l[k]'(by omega), List.getElem?_eq_getElem _⟩
      have hro := Hok.out r (List.mem_of_getElem? hr0)
      have Hro := Lib.hid hro
      have Hr := Lib.hid hr0
      obtain ⟨e, he⟩ : ∃ e, r.may nodes = e := ⟨_, rfl⟩
      have He := Lib.hid he
      clear hr0 hro he
      by_cases hz : e = 0
      · subst hz
        rcases Nat.eq_zero_or_pos k with h0 | h0
        · subst h0
          have h5 := Lib.hid (hf.out.trans (tmay_first Hr.out He.out))
          clear hf
          go_wp2_with (first
            | ((with_reducible refine on_index (.tmp 8) ?_); refine wm_at Ru.cs_length rfl _ _ _ rfl el_rule rfl rfl (by omega) (by omega) hrk ?_; intro b1 j1 r1 hr1 hb1 hc1; have hxx : r = r1 := (by have e := hr1.out; rw [Int.toNat_natCast, Hr.out] at e; injection e); subst hxx)
            | ((with_reducible refine on_load (.tmp 13) ?_); refine wr_load rfl _ _ rfl st_rule rfl hc1 ?_)
            | (go_at_call 27; refine (may_is r nodes _ Hro.out 0 He.out).mono ?_; rintro y w1 ⟨rfl, hb1⟩))
          refine wp_region_reach (by kernel_rfl) (by kernel_rfl) ?_
          repeat (first | go_big_quiet_skip | go_big_quiet_step (fail) | quiet_step (fail))
          refine wpQuiet_nil ?_
          rintro _ ⟨q, rfl⟩
          have hqw5 := q.h
          obtain ⟨w5, hw5'⟩ : ∃ W, q.w = W := ⟨_, rfl⟩
          rw [hw5'] at hqw5 ⊢
          clear hw5' q
          go_wp2
          go_roundw
          case rel => exact ⟨0 + 1, by omega, by go_num, h5.out, ((hb.alloc hbs _).trans (hb1.mono (by simp; omega))).trans (hqw5.mono (by have := hb1.size; simp at this; omega))⟩
          case measure => simp [intOf]; omega
        · obtain ⟨k, rfl⟩ : ∃ j, k = j + 1 := ⟨k - 1, by omega⟩
          obtain ⟨q, hq0⟩ : ∃ q, l[k]? = some q := ⟨l[k]'(by omega), List.getElem?_eq_getElem _⟩
          have Hqo := Lib.hid (Hok.out q (List.mem_of_getElem? hq0))
          have Hq := Lib.hid hq0
          obtain ⟨v, hv⟩ : ∃ v, r.cmp q = v := ⟨_, rfl⟩
          have hvw : ((v != 1) = true ∧ tmay l nodes = 11) ∨ ((v != 1) = false ∧ tmay l nodes = tmayGo nodes (aheadOf l (k + 1 + 1)) (l.drop (k + 1 + 1))) := by
            by_cases h1 : v = 1
            · exact .inr ⟨by simp [h1], hf.out.trans (tmay_on Hr.out hq0 He.out (by rw [hv]; exact h1))⟩
            · exact .inl ⟨by simp [h1], hf.out.trans (tmay_order Hr.out hq0 He.out (by rw [hv]; exact h1))⟩
          have Hv := Lib.hid hv
          clear hf hq0 hv
          rcases hvw with ⟨hv1, h5⟩ | ⟨hv1, h5⟩
          all_goals
            have H5 := Lib.hid h5
            clear h5
            go_wp2_with (first
              | ((with_reducible refine on_index (.tmp 8) ?_); refine wm_at Ru.cs_length rfl _ _ _ rfl el_rule rfl rfl (by omega) (by omega) hrk ?_; intro b1 j1 r1 hr1 hb1 hc1; have hxx : r = r1 := get_eq Hr.out hr1.out (by omega); subst hxx)
              | ((with_reducible refine on_load (.tmp 13) ?_); refine wr_load rfl _ _ rfl st_rule rfl hc1 ?_)
              | (go_at_call 27; refine (may_is r nodes _ Hro.out 0 He.out).mono ?_; rintro y w1 ⟨rfl, hb1⟩))
            have hx1 := ((hrk.alloc (.cells r.cs.toArray 25)).step hb1).reach
            have bx1 := ((Box.new wr r.cs.toArray 25).step hb1).reach
            have hb2 := (hb.alloc hbs (.cells r.cs.toArray 25)).trans (hb1.mono (by simp; omega))
            refine wp_region_reach (by kernel_rfl) (by kernel_rfl) ?_
            repeat (first | go_big_quiet_skip | (refine wqr_box rfl _ (.tmp 6) rfl st_rule rfl bx1 ?_) | (refine wqr_at rfl _ (.tmp 25) _ rfl el_rule rfl rfl (by omega) (by omega) (Th.Reach.refl _ _) hx1 ?_; intro b2 j2 t2 ht2 hc2; have hxx : q = t2 := get_eq Hq.out ht2.out (by omega); subst hxx) | (refine wqr_load rfl _ (.tmp 28) rfl st_rule rfl hc2 ?_) | go_big_quiet_step (exact Calls.reach (cmp_is r q _ Hro.out Hqo.out v Hv.out)) | quiet_step (exact Calls.reach (cmp_is r q _ Hro.out Hqo.out v Hv.out)))
            refine wpQuiet_nil ?_
            rintro _ ⟨q, rfl⟩
            have hqw5 := q.h
            obtain ⟨w5, hw5'⟩ : ∃ W, q.w = W := ⟨_, rfl⟩
            rw [hw5'] at hqw5 ⊢
            clear hw5' q
            have hb3 := hb2.trans (hqw5.mono hb2.size)
            go_wp2
          · go_ret
            exact ⟨(by rw [H5.out]; try rfl), hb3⟩
          · go_roundw
            case rel => exact ⟨k + 1 + 1, by omega, by go_num, H5.out, hb3⟩
            case measure => simp [intOf]; omega
      · have h5 := Lib.hid (hf.out.trans (tmay_bad Hr.out (by rw [He.out]; exact hz) _))
        have hz' : (e != 0) = true := by simp [hz]
        clear hf
        go_wp2_with (first
          | ((with_reducible refine on_index (.tmp 8) ?_); refine wm_at Ru.cs_length rfl _ _ _ rfl el_rule rfl rfl (by omega) (by omega) hrk ?_; intro b1 j1 r1 hr1 hb1 hc1; have hxx : r = r1 := (by have e := hr1.out; rw [Int.toNat_natCast, Hr.out] at e; injection e); subst hxx)
          | ((with_reducible refine on_load (.tmp 13) ?_); refine wr_load rfl _ _ rfl st_rule rfl hc1 ?_)
          | (go_at_call 27; refine (may_is r nodes _ Hro.out e He.out).mono ?_; rintro e' w1 ⟨rfl, hb1⟩))
        go_ret
        exact ⟨(by rw [h5.out, He.out]; try rfl), (hb.alloc hbs _).trans (hb1.mono (by simp; omega))⟩
    · have h5 : tmay l nodes = 0 := by rw [hf.out, List.drop_eq_nil_of_le (by omega)]; rfl
      have H5 := Lib.hid h5
      clear h5 hf
      go_wp2
      go_ret
      exact ⟨(by rw [H5.out]; try rfl), hb⟩
end Go.Proofs.Ytijobfkmchbpcaa
