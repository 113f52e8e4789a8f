/-
  theseuslaw08.TableLess: the walk.
-/
import Derived.Test.YtijobfkmchbpcaaTableRef
import Derived.Test.YtijobfkmchbpcaaTableLessLaw
import Derived.Test.YtijobfkmchbpcaaRuleMay
namespace Go.Proofs.Ytijobfkmchbpcaa
open Go.RowKit Go.Th
set_option linter.unusedVariables false
theorem sound9l : Sound 9 := by unfold Sound; omega
theorem tmay_is (A : Option Addr) (n c : Nat) (l : List Ru) (nodes : Int) (w : World) (hm : n ≤ 9223372036854775807) (B : Nat) (hr : RdM Ru.cs w B A n c l) (hok : ∀ r ∈ l, r.Ok) (e : Int) (he : tmay l nodes = e) :
    Calls Try.prog 32 #[.slice A n c, .int .i64 nodes] w fun x w' => x = .returned (.int .i64 e) ∧ Below w.heap.size w w' := by
  have := tmay_any A n c l nodes w hm B hr hok
  rw [he] at this
  exact this
set_option maxHeartbeats 4000000 in
set_option maxRecDepth 100000 in
theorem tableLess_walk (A : Option Addr) (n c : Nat) (l : List Ru) {w : World} (hr : RdM Ru.cs w w.heap.size A n c l) (hm : n ≤ 9223372036854775807) (hok : ∀ r ∈ l, r.Ok) (at_ : Int) (hat : 0 ≤ at_ ∧ at_ ≤ 255) (x : Int) (hx : 0 ≤ x ∧ x ≤ 4294967295) :
    Calls Try.prog 12 #[.slice A n c, .int .u8 at_, .int .u32 x] w fun e w' => e = .returned (.bool true) ∧ Below w.heap.size w w' := by
  obtain ⟨ws, hws⟩ : ∃ ws, fitT l 9 = ws := ⟨_, rfl⟩
  have hgw : GoodT ws := by rw [← hws]; exact fitT_good sound9l _ hok
  have hfw : Fitted 9 ws := by rw [← hws]; exact fitT_fitted sound9l _ hok
  have hokw : ∀ t ∈ ws, t.Ok := fun t ht => (hgw.pre t ht).ok
  have hmw := fitted_may (by omega) hfw hokw
  obtain ⟨m, hwl⟩ : ∃ m, ws.length = m := ⟨_, rfl⟩
  have hm20 : m ≤ 20 := by rw [← hwl, ← hws]; have := fitT_length l 9; omega
  have Hws := Lib.hid hws
  have Hgw := Lib.hid hgw
  have Hmw := Lib.hid hmw
  have Hokw := Lib.hid hokw
  have Hok := Lib.hid hok
  have Hx := Lib.hid hx
  have Hwl := Lib.hid hwl
  obtain ⟨ha1, ha2⟩ := hat
  clear hws hgw hfw hokw hmw hok hx hwl
  rcases Nat.eq_zero_or_pos m with h0 | h0
  · subst h0
    go_enter Try.func12, Try.ntmps12
    go_wp2_with (first
      | (go_at_call 15; refine (shown8 _).mono ?_; rintro e w1 ⟨rfl, hb1⟩)
      | (go_at_call 16; refine (fit_any _ _ _ _ 9 _ hm _ (hr.step hb1) Hok.out sound9l).mono ?_; rintro e w2 ⟨A8, m8, c8, rfl, hm8, how8, hb2⟩; rw [Hws.out] at how8; have e8 : m8 = 0 := how8.len.symm.trans Hwl.out; subst e8))
    go_ret
    exact ⟨rfl, next hb1 hb2⟩
  · obtain ⟨k, hk, hkm⟩ : ∃ k : Nat, at_ % (m : Int) = k ∧ k < m := by
      have e1 := Int.emod_nonneg at_ (b := (m : Int)) (by omega)
      have e2 := Int.emod_lt_of_pos at_ (b := (m : Int)) (by omega)
      exact ⟨(at_ % (m : Int)).toNat, by omega, by omega⟩
    obtain ⟨t, ht⟩ : ∃ t, ws[k]? = some t := ⟨ws[k]'(by rw [Hwl.out]; exact hkm), List.getElem?_eq_getElem _⟩
    obtain ⟨r, ok, hf⟩ : ∃ r ok, tfind ws x = (r, ok) := ⟨_, _, rfl⟩
    obtain ⟨s, is, hg⟩ : ∃ s is, tfind (less ws k) x = (s, is) := ⟨_, _, rfl⟩
    have hlaw := less_find Hgw.out ht x hf hg
    have hmay : tmay (less ws k) 9 = 0 := tmay_ok (less_good Hgw.out k).sorted (fun u hu => Hmw.out u ((less_sub ws k).mem hu))
    have hokl : ∀ u ∈ less ws k, u.Ok := fun u hu => Hokw.out u ((less_sub ws k).mem hu)
    have Ht := Lib.hid ht
    have Hf := Lib.hid hf
    have Hg := Lib.hid hg
    have Hmay := Lib.hid hmay
    have Hokl := Lib.hid hokl
    have hm1 : (m : Int) ≠ 0 := by omega
    have hm2 : ((m : Int) == 0) = false := by simp; omega
    clear ht hf hg hmay hokl
    go_enter Try.func12, Try.ntmps12
    go_wp2_with (first
      | (go_at_call 15; refine (shown8 _).mono ?_; rintro e w1 ⟨rfl, hb1⟩)
      | (go_at_call 16; refine (fit_any _ _ _ _ 9 _ hm _ (hr.step hb1) Hok.out sound9l).mono ?_; rintro e w2 ⟨A8, m8, c8, rfl, hm8, how8, hb2⟩; rw [Hws.out] at how8; have e8 : m8 = m := how8.len.symm.trans Hwl.out; subst e8))
    have hb12 := next hb1 hb2
    have q8 := (how8.rd.drew).reach
    have l8 := how8.rd.drew
    refine wp_region_tree (.float 1 3 (.float 5 4 (.one 0 (.one 4 (.one 9 (.float 10 1 .done)))))) (Th.Reach w2.heap.size) (Th.Reach.trans _) (Th.Reach.refl _) (by kernel_rfl) (by kernel_rfl) (fun KT hKT => ?_)
    refine wpTree_float (fun KF hKF => ?_)
    simp only [List.drop, List.take]
    repeat (first | (refine wqm_cut_h Ru.cs_length rfl _ (.tmp 28) el_rule rfl q8 (Th.Reach.refl _ _) _ rfl rfl k (by omega) ?_; intro A30 r30) | (refine wqm_cut_l Ru.cs_length rfl _ (.tmp 32) el_rule rfl q8 (Th.Reach.refl _ _) _ rfl rfl (k + 1) (by omega) ?_; intro A35 r35) | go_big_quiet_step (fail) | quiet_step (fail))
    refine wpQuiet_nil ?_
    refine hKF _ ?_
    clear hKF KF
    refine wpTree_float (fun KF hKF => ?_)
    simp only [List.drop, List.take]
    repeat (first | (refine wqm_cut_h Ru.cs_length rfl _ (.tmp 28) el_rule rfl q8 (Th.Reach.refl _ _) _ rfl rfl k (by omega) ?_; intro A30 r30) | (refine wqm_cut_l Ru.cs_length rfl _ (.tmp 32) el_rule rfl q8 (Th.Reach.refl _ _) _ rfl rfl (k + 1) (by omega) ?_; intro A35 r35) | go_big_quiet_step (fail) | quiet_step (fail))
    refine wpQuiet_nil ?_
    refine hKF _ ?_
    clear hKF KF
    refine wpTree_one (fun KO hKO => ?_)
    simp only [List.drop, List.take]
    go_wp2_with (first | ((with_reducible refine on_append (.tmp 27) (.tmp 30) ?_); refine wm_append Ru.cs_length rfl (.tmp 27) (.tmp 30) _ rfl el_rule Ru.one rfl (OwM.lit (base := w2.heap.size) (e := 25) (xs := []) Ru.cs_length w2.drew #[] 0 (Nat.le_refl _) (by simp [maxLen]) rfl rfl) rfl (r30 _ (Th.Reach.of (below_alloc w2.drew (Nat.le_refl _) _))) (by omega) (by omega) (by first | (simp; done) | (simp; omega) | omega) ?_; intro A31 c31 w31 how31 _ hb31; rw [Nat.zero_add, List.nil_append] at how31; have H31 : Below w2.heap.size w2.drew w31 := (below_alloc w2.drew (Nat.le_refl _) _).trans hb31) | ((with_reducible refine on_append (.tmp 31) (.tmp 35) ?_); refine wm_append Ru.cs_length rfl (.tmp 31) (.tmp 35) _ rfl el_rule Ru.one rfl how31 rfl (r35 _ (Th.Reach.of H31)) (by omega) (by omega) H31.size ?_; intro A36 c36 w36 how36 _ hb36))
    refine anch_end (Th.Reach.of (by first | exact Below.refl _ _ | exact below_alloc _ (by first | omega | (simp; done) | (simp; omega)) _ | exact below_alloc2 _ (by first | omega | (simp; done) | (simp; omega)) _ _ | exact below_alloc2d _ (by simp) _ _ | exact bdrew _ _ | assumption | (exact Below.mono (by assumption) (by first | (simp; done) | (simp; omega) | omega | assumption)))) (hKO _ _ ?_)
    clear hKO KO
    refine wpTree_one (fun KO hKO => ?_)
    simp only [List.drop, List.take]
    go_wp2_with (first | ((with_reducible refine on_append (.tmp 27) (.tmp 30) ?_); refine wm_append Ru.cs_length rfl (.tmp 27) (.tmp 30) _ rfl el_rule Ru.one rfl (OwM.lit (base := w2.heap.size) (e := 25) (xs := []) Ru.cs_length w2.drew #[] 0 (Nat.le_refl _) (by simp [maxLen]) rfl rfl) rfl (r30 _ (Th.Reach.of (below_alloc w2.drew (Nat.le_refl _) _))) (by omega) (by omega) (by first | (simp; done) | (simp; omega) | omega) ?_; intro A31 c31 w31 how31 _ hb31; rw [Nat.zero_add, List.nil_append] at how31; have H31 : Below w2.heap.size w2.drew w31 := (below_alloc w2.drew (Nat.le_refl _) _).trans hb31) | ((with_reducible refine on_append (.tmp 31) (.tmp 35) ?_); refine wm_append Ru.cs_length rfl (.tmp 31) (.tmp 35) _ rfl el_rule Ru.one rfl how31 rfl (r35 _ (Th.Reach.of H31)) (by omega) (by omega) H31.size ?_; intro A36 c36 w36 how36 _ hb36))
    refine anch_end (Th.Reach.of (by first | exact Below.refl _ _ | exact below_alloc _ (by first | omega | (simp; done) | (simp; omega)) _ | exact below_alloc2 _ (by first | omega | (simp; done) | (simp; omega)) _ _ | exact below_alloc2d _ (by simp) _ _ | exact bdrew _ _ | assumption | (exact Below.mono (by assumption) (by first | (simp; done) | (simp; omega) | omega | assumption)))) (hKO _ _ ?_)
    clear hKO KO
    refine wpTree_one (fun KO hKO => ?_)
    simp only [List.drop, List.take]
    go_wp2_with (first | ((with_reducible refine on_append (.tmp 27) (.tmp 30) ?_); refine wm_append Ru.cs_length rfl (.tmp 27) (.tmp 30) _ rfl el_rule Ru.one rfl (OwM.lit (base := w2.heap.size) (e := 25) (xs := []) Ru.cs_length w2.drew #[] 0 (Nat.le_refl _) (by simp [maxLen]) rfl rfl) rfl (r30 _ (Th.Reach.of (below_alloc w2.drew (Nat.le_refl _) _))) (by omega) (by omega) (by first | (simp; done) | (simp; omega) | omega) ?_; intro A31 c31 w31 how31 _ hb31; rw [Nat.zero_add, List.nil_append] at how31; have H31 : Below w2.heap.size w2.drew w31 := (below_alloc w2.drew (Nat.le_refl _) _).trans hb31) | ((with_reducible refine on_append (.tmp 31) (.tmp 35) ?_); refine wm_append Ru.cs_length rfl (.tmp 31) (.tmp 35) _ rfl el_rule Ru.one rfl how31 rfl (r35 _ (Th.Reach.of H31)) (by omega) (by omega) H31.size ?_; intro A36 c36 w36 how36 _ hb36))
    refine anch_end (Th.Reach.of (by first | exact Below.refl _ _ | exact below_alloc _ (by first | omega | (simp; done) | (simp; omega)) _ | exact below_alloc2 _ (by first | omega | (simp; done) | (simp; omega)) _ _ | exact below_alloc2d _ (by simp) _ _ | exact bdrew _ _ | assumption | (exact Below.mono (by assumption) (by first | (simp; done) | (simp; omega) | omega | assumption)))) (hKO _ _ ?_)
    clear hKO KO
    refine wpTree_float (fun KF hKF => ?_)
    simp only [List.drop, List.take]
    repeat (first | (refine wqm_cut_h Ru.cs_length rfl _ (.tmp 28) el_rule rfl q8 (Th.Reach.refl _ _) _ rfl rfl k (by omega) ?_; intro A30 r30) | (refine wqm_cut_l Ru.cs_length rfl _ (.tmp 32) el_rule rfl q8 (Th.Reach.refl _ _) _ rfl rfl (k + 1) (by omega) ?_; intro A35 r35) | go_big_quiet_step (fail) | quiet_step (fail))
    refine wpQuiet_nil ?_
    refine hKF _ ?_
    clear hKF KF
    refine wpTree_done ?_
    refine hKT _ _ ?_
    clear hKT KT
    have H36 : Below w2.heap.size w2 w36 := ((bdrew1 w2).trans H31).trans hb36
    have how8 := how8.below H36
    have how36 : OwM Ru.cs 4 w36 w2.heap.size 25 A36 (k + (m8 - (k + 1))) c36 (less ws k) := how36
    have hbw := hb12.trans (H36.mono hb12.size)
    clear hb1 hb2 hb12 q8 l8 r30 r35 how31 hb31 H31 hb36 H36
    go_wp2_with fail
    refine (find_is _ _ _ _ _ _ (by omega) _ how8.rd Hokw.out Hx.out _ _ Hf.out).mono ?_
    rintro e w5 ⟨rfl, hb5⟩
    have how8 := (how8.below hb5).alloc (.cells (Ru.cs r).toArray 25)
    have how36 := (how36.below hb5).alloc (.cells (Ru.cs r).toArray 25)
    have bx11 := Box.new w5 (Ru.cs r).toArray 25
    have hbw := hbw.trans (hb5.mono hbw.size)
    have hbw := hbw.alloc hbw.size (.cells (Ru.cs r).toArray 25)
    clear hb5
    go_wp2_with fail
    refine (find_is _ _ _ _ _ _ (by omega) _ how36.rd Hokl.out Hx.out _ _ Hg.out).mono ?_
    rintro e w6 ⟨rfl, hb6⟩
    have how8 := (how8.below hb6).alloc (.cells (Ru.cs s).toArray 25)
    have how36 := (how36.below hb6).alloc (.cells (Ru.cs s).toArray 25)
    have bx11 := (bx11.step hb6).alloc (.cells (Ru.cs s).toArray 25)
    have bx13 := Box.new w6 (Ru.cs s).toArray 25
    have hbw := hbw.trans (hb6.mono hbw.size)
    have hbw := hbw.alloc hbw.size (.cells (Ru.cs s).toArray 25)
    clear hb6
    go_wp2_with fail
    refine (tmay_is _ _ _ _ _ _ (by omega) _ how36.rd Hokl.out _ Hmay.out).mono ?_
    rintro e w7 ⟨rfl, hb7⟩
    have cow8 := how8.below hb7
    have cx11 := bx11.step hb7
    have cx13 := bx13.step hb7
    have cbw := hbw.trans (hb7.mono hbw.size)
    have x8 := cow8.rd.reach
    have y11 := cx11.reach
    have hways : (ok = true ∧ r = t ∧ is = false) ∨ (ok = true ∧ r = t ∧ is = true ∧ s.n < r.n) ∨ (ok = true ∧ (r.a == t.a) = false ∧ r = s ∧ ok = is) ∨ (ok = true ∧ (r.a == t.a) = true ∧ (r.n == t.n) = false ∧ r = s ∧ ok = is) ∨ (ok = false ∧ r = s ∧ ok = is) := by
      rcases hlaw with ⟨h1, h2, h3⟩ | ⟨h1, h2, h3, h4, h5, h6⟩ | ⟨h1, h2, h3⟩
      · cases is with
        | false => exact .inl ⟨h1, h2, rfl⟩
        | true => exact .inr (.inl ⟨h1, h2, rfl, h3 rfl⟩)
      · rcases Hgw.out.part h3 h4 h2 with h | ⟨h, h'⟩
        · exact .inr (.inr (.inl ⟨h1, h, h5.symm, h6.symm⟩))
        · exact .inr (.inr (.inr (.inl ⟨h1, h, h', h5.symm, h6.symm⟩)))
      · exact .inr (.inr (.inr (.inr ⟨h1, h2.symm, h3.symm⟩)))
    clear hb7 how36 hlaw
    rcases hways with ⟨rfl, rfl, rfl⟩ | ⟨rfl, rfl, rfl, h4⟩ | ⟨rfl, n1, rfl, rfl⟩ | ⟨rfl, n1, n2, rfl, rfl⟩ | ⟨rfl, rfl, rfl⟩
    all_goals go_wp2_with fail
    all_goals
      refine wp_region_reach (by kernel_rfl) (by kernel_rfl) ?_
      repeat (first | (refine wqr_box rfl _ (.tmp 11) rfl st_rule rfl y11 ?_) | (refine wqr_at rfl _ (.tmp 55) _ rfl el_rule rfl rfl (by omega) (by omega) (Th.Reach.refl _ _) x8 ?_; intro b2 j2 t2 ht2 hc2; have hxx := get_eq Ht.out ht2.out (by omega); subst hxx) | (refine wqr_load rfl _ (.tmp 57) rfl st_rule rfl hc2 ?_) | go_big_quiet_step (fail) | quiet_step (fail))
      refine wpQuiet_nil ?_
      rintro _ ⟨q, rfl⟩
      have hqw9 := q.h
      obtain ⟨w9, hw9'⟩ : ∃ W, q.w = W := ⟨_, rfl⟩
      rw [hw9'] at hqw9 ⊢
      clear hw9' q
      have dx11 := cx11.step hqw9
      have dx13 := cx13.step hqw9
      have dbw := cbw.trans (hqw9.mono cbw.size)
      obtain ⟨d0, d1, d2, d3⟩ := dx11.rule
      obtain ⟨e0, e1, e2, e3⟩ := dx13.rule
      clear x8 y11 cow8 dx11 dx13 cx11 cx13 hqw9 cbw
      go_wp2
      go_ret
      exact ⟨rfl, dbw⟩
end Go.Proofs.Ytijobfkmchbpcaa
