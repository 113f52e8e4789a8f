/-
  theseuslaw04.FrameAll: the walk.
-/
import Derived.Test.YtgiefjbdkkdaiaaFrameRef
namespace Go.Proofs.Ytgiefjbdkkdaiaa
open Go.RowKit Go.Th
set_option linter.unusedVariables false
theorem ropen_is (t : UInt8) (T : Int) (hT : (t.toNat : Int) = T) (A : Option Addr) (n c : Nat) (w : World) (hm : n ≤ 1000000) (bs : List UInt8) (hr : RdS bv w w.heap.size A n c bs) (x y : List UInt8) (er : Int) (h : fopen t bs = (x, y, er)) :
    Calls Try.prog 47 #[.int .u8 T, .slice A n c] w fun e w' => ∃ A1 n1 c1 A2 n2 c2, e = .returned (.tuple #[.slice A1 n1 c1, .slice A2 n2 c2, .int .i64 er]) ∧ OwS bv w' w.heap.size 5 A1 n1 c1 x ∧ OwS bv w' w.heap.size 5 A2 n2 c2 y ∧ Below w.heap.size w w' := by
  have := ropen_any t T hT A n c w hm bs hr
  rw [h] at this
  exact this
theorem ftake_isA (m : Nat) (hm : m < 4294967296) (M : Int) (hM : (m : Int) = M) (A : Option Addr) (n c : Nat) (w : World) (hn : n ≤ 1000000) (bs : List UInt8) (hr : RdS bv w w.heap.size A n c bs) (x : List UInt8) (er : Int) (h : ftake m bs = (x, er)) :
    Calls Try.prog 44 #[.int .u32 M, .slice A n c] w fun e w' => ∃ A' n' c', e = .returned (.tuple #[.slice A' n' c', .int .i64 er]) ∧ OwS bv w' w.heap.size 5 A' n' c' x ∧ Below w.heap.size w w' := by
  have := ftake_any m hm M hM A n c w hn bs hr
  rw [h] at this
  exact this
theorem rftake_isA (m : Nat) (hm : m < 4294967296) (M : Int) (hM : (m : Int) = M) (A : Option Addr) (n c : Nat) (w : World) (hn : n ≤ 1000000) (bs : List UInt8) (hr : RdS bv w w.heap.size A n c bs) (x : List UInt8) (er : Int) (h : ftake m bs = (x, er)) :
    Calls Try.prog 45 #[.int .u32 M, .slice A n c] w fun e w' => ∃ A' n' c', e = .returned (.tuple #[.slice A' n' c', .int .i64 er]) ∧ OwS bv w' w.heap.size 5 A' n' c' x ∧ Below w.heap.size w w' := by
  have := rftake_any m hm M hM A n c w hn bs hr
  rw [h] at this
  exact this
set_option maxRecDepth 100000 in
set_option maxHeartbeats 8000000 in
theorem frameAll_walk (A : Option Addr) (n c : Nat) (bs : List UInt8) {w : World} (hr : RdS bv w w.heap.size A n c bs) (hm : n ≤ 9223372036854775807) (A' : Option Addr) (n' c' : Nat) (bs' : List UInt8) (hr' : RdS bv w w.heap.size A' n' c' bs') (hm' : n' ≤ 9223372036854775807) (mg : Int) (hmg : 0 ≤ mg ∧ mg ≤ 4294967295) :
    Calls Try.prog 18 #[.slice A n c, .slice A' n' c', .int .u32 mg] w fun e w' => e = .returned (.bool true) ∧ Below w.heap.size w w' := by
  obtain ⟨m, rfl⟩ := Int.eq_ofNat_of_zero_le hmg.1
  have hm2 : m < 4294967296 := by omega
  obtain ⟨N, hN, hN1⟩ : ∃ N, min n 150 = N ∧ N ≤ 150 := ⟨_, rfl, by omega⟩
  obtain ⟨N', hN', hN1'⟩ : ∃ N, min n' 150 = N ∧ N ≤ 150 := ⟨_, rfl, by omega⟩
  obtain ⟨wa, hwa⟩ : ∃ x, bs.take 150 = x := ⟨_, rfl⟩
  obtain ⟨wb, hwb⟩ : ∃ x, bs'.take 150 = x := ⟨_, rfl⟩
  obtain ⟨t, ht⟩ : ∃ t : UInt8, UInt8.ofNat m = t := ⟨_, rfl⟩
  have hti : (t.toNat : Int) = (m : Int) % 256 := by rw [← ht, UInt8.toNat_ofNat']; omega
  obtain ⟨x, er, hx⟩ : ∃ x er, ftake m wb = (x, er) := ⟨_, _, rfl⟩
  have hl' := hr'.len
  obtain ⟨u, hways⟩ : ∃ u : UInt8, ((n' : Int) % 2 = 0 ∧ 0 < n' ∧ Hid (bs'[0]? = some u)) ∨ ((n' : Int) % 2 = 0 ∧ n' < 1 ∧ Hid ((u.toNat : Int) = (m : Int) % 256)) ∨ ((n' : Int) % 2 = 1 ∧ Hid ((u.toNat : Int) = (m : Int) % 256)) := by
    by_cases h2 : (n' : Int) % 2 = 0
    · by_cases h0 : 0 < n'
      · exact ⟨bs'[0]'(by omega), .inl ⟨h2, h0, List.getElem?_eq_getElem _⟩⟩
      · exact ⟨t, .inr (.inl ⟨h2, by omega, hti⟩)⟩
    · exact ⟨t, .inr (.inr ⟨by omega, hti⟩)⟩
  obtain ⟨y, z, er2, hy⟩ : ∃ y z er2, fopen u wb = (y, z, er2) := ⟨_, _, _, rfl⟩
  have HN := Lib.hid hN
  have HN' := Lib.hid hN'
  have Hwa := Lib.hid hwa
  have Hwb := Lib.hid hwb
  have Hti := Lib.hid hti
  have Hx := Lib.hid hx
  have Hy := Lib.hid hy
  have Hways := Lib.hid hways
  clear hN hN' hwa hwb hti ht hx hy hways hmg hl'
  go_enter Try.func18, Try.ntmps18
  go_wp2_with fail
  refine (shown4 _).mono ?_
  rintro e w1 ⟨rfl, hb1⟩
  have hr1 := hr.step hb1
  have hr1' := hr'.step hb1
  have z1 := hb1.size
  have r1 := fewR HN.out hr1
  have r1' := fewR HN'.out hr1'
  rw [Hwa.out] at r1
  rw [Hwb.out] at r1'
  clear hr hr'
  go_wp2_with fail
  refine (few4 _ _ _ N' HN'.out _ hm' _ _ hr1').mono ?_
  rintro e w0 ⟨rfl, rfl⟩
  go_wp2_with fail
  refine (ftake_isA m hm2 _ rfl _ _ _ w1 (by omega) _ (r1'.more z1) _ _ Hx.out).mono ?_
  rintro e w2 ⟨A8, n8, c8, rfl, ow8, hb2⟩
  have K2 : Below w1.heap.size w1 w2 := hb2
  have z2 := K2.size
  go_wp2_with fail
  refine (few4 _ _ _ N' HN'.out _ hm' _ _ (hr1'.step K2)).mono ?_
  rintro e w0 ⟨rfl, rfl⟩
  go_wp2_with fail
  refine (rftake_isA m hm2 _ rfl _ _ _ w2 (by omega) _ ((r1'.step K2).more (Nat.le_trans z1 z2)) _ _ Hx.out).mono ?_
  rintro e w3 ⟨A10, n10, c10, rfl, ow10, hb3⟩
  have K3 := K2.trans (hb3.mono z2)
  have z3 := K3.size
  have ow8 := ow8.below hb3
  go_wp2_with fail
  refine (few4 _ _ _ N HN.out _ hm _ _ (hr1.step K3)).mono ?_
  rintro e w0 ⟨rfl, rfl⟩
  go_wp2_with fail
  refine (sec_any t _ Hti.out _ _ _ w3 (by omega) _ _ (r1.step K3) (Nat.le_trans z1 z3)).mono ?_
  rintro e w4 ⟨A12, n12, c12, rfl, ow12, hb4⟩
  have K4 := K3.trans (hb4.mono z3)
  have z4 := K4.size
  have ow8 := ow8.below hb4
  have ow10 := ow10.below hb4
  go_wp2_with fail
  refine (few4 _ _ _ N HN.out _ hm _ _ (hr1.step K4)).mono ?_
  rintro e w0 ⟨rfl, rfl⟩
  go_wp2_with fail
  refine (rsec_any t _ Hti.out _ _ _ w4 (by omega) _ _ (r1.step K4) (Nat.le_trans z1 z4)).mono ?_
  rintro e w5 ⟨A14, n14, c14, rfl, ow14, hb5⟩
  have K5 := K4.trans (hb5.mono z4)
  have z5 := K5.size
  have ow8 := ow8.below hb5
  have ow10 := ow10.below hb5
  have ow12 := ow12.below hb5
  clear hb2 hb3 hb4 hb5 K2 K3 K4
  have hr5' := hr1'.step K5
  rcases Hways.out with ⟨h2, h0, hu⟩ | ⟨h2, h0, hu⟩ | ⟨h2, hu⟩
  all_goals
    go_wp2_with ((with_reducible refine on_index (.tmp 65) ?_); refine wl_at_b rfl _ _ _ rfl el_u8 rfl rfl (by omega) (by omega) hr5' ?_; intro p x' hx' hx5 hc; have hxb : x' = u := Option.some.inj ((show bs'[0]? = some x' from hx'.out).symm.trans hu.out); subst hxb)
    refine (few4 _ _ _ N' HN'.out _ hm' _ _ hr5').mono ?_
    rintro e w0 ⟨rfl, rfl⟩
    go_wp2_with fail
    refine (open_is _ _ (by first | rfl | exact hu.out) _ _ _ w5 (by omega) _ ((r1'.step K5).more (Nat.le_trans z1 z5)) _ _ _ Hy.out).mono ?_
    rintro e w6 ⟨A17, n17, c17, A18, n18, c18, rfl, ow17, ow18, hb6⟩
    have K6 := K5.trans (hb6.mono z5)
    have z6 := K6.size
    go_wp2_with fail
    refine (few4 _ _ _ N' HN'.out _ hm' _ _ (hr1'.step K6)).mono ?_
    rintro e w0 ⟨rfl, rfl⟩
    go_wp2_with fail
    refine (ropen_is _ _ (by first | rfl | exact hu.out) _ _ _ w6 (by omega) _ ((r1'.step K6).more (Nat.le_trans z1 z6)) _ _ _ Hy.out).mono ?_
    rintro e w7 ⟨A20, n20, c20, A21, n21, c21, rfl, ow20, ow21, hb7⟩
    have K7 := K6.trans (hb7.mono z6)
    have z7 := K7.size
    have b57 := hb6.trans (hb7.mono hb6.size)
    have ow8 := ow8.below b57
    have ow10 := ow10.below b57
    have ow12 := ow12.below b57
    have ow14 := ow14.below b57
    have ow17 := ow17.below hb7
    have ow18 := ow18.below hb7
    have hr7 := hr1.step K7
    have r7 := r1.step K7
    have zw := Nat.le_trans z1 z7
    clear K5 K6 hb6 hb7 b57 hr1 hr1' r1 r1' hr5'
    go_wp2_with fail
    refine wp_region_tree (.float 0 4 (.float 7 2 (.one 4 (.one 5 (.float 6 1 (.one 9 (.one 10 (.float 11 47 .done)))))))) Th.Grow Th.Grow.trans Th.Grow.refl (by kernel_rfl) (by kernel_rfl) (fun KT hKT => ?_)
    refine wpTree_float (fun KF hKF => ?_)
    simp only [List.drop, List.take]
    repeat (first | ((with_reducible refine onq_cv (.tmp 89) ?_); refine wq_strS rfl _ _ (.tmp 89) rfl el_u8 Try.underlying5 Try.underlying9 rfl p89 ?_) | ((with_reducible refine onq_cv (.tmp 94) ?_); refine wq_strS rfl _ _ (.tmp 94) rfl el_u8 Try.underlying5 Try.underlying9 rfl p94 ?_) | ((with_reducible refine onq_cv (.tmp 99) ?_); refine wq_strS rfl _ _ (.tmp 99) rfl el_u8 Try.underlying5 Try.underlying9 rfl p8 ?_) | ((with_reducible refine onq_cv (.tmp 101) ?_); refine wq_strS rfl _ _ (.tmp 101) rfl el_u8 Try.underlying5 Try.underlying9 rfl p10 ?_) | ((with_reducible refine onq_cv (.tmp 111) ?_); refine wq_strS rfl _ _ (.tmp 111) rfl el_u8 Try.underlying5 Try.underlying9 rfl p12 ?_) | ((with_reducible refine onq_cv (.tmp 113) ?_); refine wq_strS rfl _ _ (.tmp 113) rfl el_u8 Try.underlying5 Try.underlying9 rfl p14 ?_) | ((with_reducible refine onq_cv (.tmp 123) ?_); refine wq_strS rfl _ _ (.tmp 123) rfl el_u8 Try.underlying5 Try.underlying9 rfl p17 ?_) | ((with_reducible refine onq_cv (.tmp 125) ?_); refine wq_strS rfl _ _ (.tmp 125) rfl el_u8 Try.underlying5 Try.underlying9 rfl p20 ?_) | ((with_reducible refine onq_cv (.tmp 130) ?_); refine wq_strS rfl _ _ (.tmp 130) rfl el_u8 Try.underlying5 Try.underlying9 rfl p18 ?_) | ((with_reducible refine onq_cv (.tmp 132) ?_); refine wq_strS rfl _ _ (.tmp 132) rfl el_u8 Try.underlying5 Try.underlying9 rfl p21 ?_) | go_big_quiet_step (fail) | quiet_step (fail))
    refine wpQuiet_nil ?_
    refine hKF _ ?_
    clear hKF KF
    refine wpTree_float (fun KF hKF => ?_)
    simp only [List.drop, List.take]
    repeat (first | ((with_reducible refine onq_cv (.tmp 89) ?_); refine wq_strS rfl _ _ (.tmp 89) rfl el_u8 Try.underlying5 Try.underlying9 rfl p89 ?_) | ((with_reducible refine onq_cv (.tmp 94) ?_); refine wq_strS rfl _ _ (.tmp 94) rfl el_u8 Try.underlying5 Try.underlying9 rfl p94 ?_) | ((with_reducible refine onq_cv (.tmp 99) ?_); refine wq_strS rfl _ _ (.tmp 99) rfl el_u8 Try.underlying5 Try.underlying9 rfl p8 ?_) | ((with_reducible refine onq_cv (.tmp 101) ?_); refine wq_strS rfl _ _ (.tmp 101) rfl el_u8 Try.underlying5 Try.underlying9 rfl p10 ?_) | ((with_reducible refine onq_cv (.tmp 111) ?_); refine wq_strS rfl _ _ (.tmp 111) rfl el_u8 Try.underlying5 Try.underlying9 rfl p12 ?_) | ((with_reducible refine onq_cv (.tmp 113) ?_); refine wq_strS rfl _ _ (.tmp 113) rfl el_u8 Try.underlying5 Try.underlying9 rfl p14 ?_) | ((with_reducible refine onq_cv (.tmp 123) ?_); refine wq_strS rfl _ _ (.tmp 123) rfl el_u8 Try.underlying5 Try.underlying9 rfl p17 ?_) | ((with_reducible refine onq_cv (.tmp 125) ?_); refine wq_strS rfl _ _ (.tmp 125) rfl el_u8 Try.underlying5 Try.underlying9 rfl p20 ?_) | ((with_reducible refine onq_cv (.tmp 130) ?_); refine wq_strS rfl _ _ (.tmp 130) rfl el_u8 Try.underlying5 Try.underlying9 rfl p18 ?_) | ((with_reducible refine onq_cv (.tmp 132) ?_); refine wq_strS rfl _ _ (.tmp 132) rfl el_u8 Try.underlying5 Try.underlying9 rfl p21 ?_) | go_big_quiet_step (fail) | quiet_step (fail))
    refine wpQuiet_nil ?_
    refine hKF _ ?_
    clear hKF KF
    refine wpTree_one (fun KO hKO => ?_)
    simp only [List.drop, List.take]
    go_wp2_with (first | (go_at_call 41; first | (refine (few4 _ _ _ N HN.out w89 hm _ _ (hr7.step K89)).mono ?_; rintro e w0 ⟨rfl, rfl⟩) | (refine (few4 _ _ _ N HN.out w7.drew hm _ _ (hr7.step (bdrew1 w7))).mono ?_; rintro e w0 ⟨rfl, rfl⟩)) | (go_at_call 43; refine (fput_any m hm2 _ rfl _ _ _ w7.drew (by omega) _ ((r7.step (bdrew1 w7)).more zw)).mono ?_; rintro e w89 ⟨A89, n89, c89, rfl, how89, hb89⟩; have K89 : Below w7.heap.size w7 w89 := (bdrew1 w7).trans hb89; have z89 := K89.size; have p89 := how89.rd.reach) | (go_at_call 48; refine (rfput_any m hm2 _ rfl _ _ _ w89 (by omega) _ ((r7.step K89).more (Nat.le_trans zw z89))).mono ?_; rintro e w94 ⟨A94, n94, c94, rfl, how94, hb94⟩; have K94 : Below w7.heap.size w7 w94 := K89.trans (hb94.mono z89); have p94 := how94.rd.reach; have p8 := (ow8.below K94).rd.reach; have p10 := (ow10.below K94).rd.reach; have p12 := (ow12.below K94).rd.reach; have p14 := (ow14.below K94).rd.reach; have p17 := (ow17.below K94).rd.reach; have p18 := (ow18.below K94).rd.reach; have p20 := (ow20.below K94).rd.reach; have p21 := (ow21.below K94).rd.reach))
    refine anch_end (Th.Reach.of (by first | exact Below.refl _ _ | exact below_alloc _ (by first | omega | (simp; done) | (simp; omega)) _ | exact below_alloc2 _ (by first | omega | (simp; done) | (simp; omega)) _ _ | exact below_alloc2d _ (by simp) _ _ | exact bdrew _ _ | assumption | (exact Below.mono (by assumption) (by first | (simp; done) | (simp; omega) | omega | assumption)))) (hKO _ _ ?_)
    clear hKO KO
    refine wpTree_one (fun KO hKO => ?_)
    simp only [List.drop, List.take]
    go_wp2_with (first | (go_at_call 41; first | (refine (few4 _ _ _ N HN.out w89 hm _ _ (hr7.step K89)).mono ?_; rintro e w0 ⟨rfl, rfl⟩) | (refine (few4 _ _ _ N HN.out w7.drew hm _ _ (hr7.step (bdrew1 w7))).mono ?_; rintro e w0 ⟨rfl, rfl⟩)) | (go_at_call 43; refine (fput_any m hm2 _ rfl _ _ _ w7.drew (by omega) _ ((r7.step (bdrew1 w7)).more zw)).mono ?_; rintro e w89 ⟨A89, n89, c89, rfl, how89, hb89⟩; have K89 : Below w7.heap.size w7 w89 := (bdrew1 w7).trans hb89; have z89 := K89.size; have p89 := how89.rd.reach) | (go_at_call 48; refine (rfput_any m hm2 _ rfl _ _ _ w89 (by omega) _ ((r7.step K89).more (Nat.le_trans zw z89))).mono ?_; rintro e w94 ⟨A94, n94, c94, rfl, how94, hb94⟩; have K94 : Below w7.heap.size w7 w94 := K89.trans (hb94.mono z89); have p94 := how94.rd.reach; have p8 := (ow8.below K94).rd.reach; have p10 := (ow10.below K94).rd.reach; have p12 := (ow12.below K94).rd.reach; have p14 := (ow14.below K94).rd.reach; have p17 := (ow17.below K94).rd.reach; have p18 := (ow18.below K94).rd.reach; have p20 := (ow20.below K94).rd.reach; have p21 := (ow21.below K94).rd.reach))
    refine anch_end (Th.Reach.of (by first | exact Below.refl _ _ | exact below_alloc _ (by first | omega | (simp; done) | (simp; omega)) _ | exact below_alloc2 _ (by first | omega | (simp; done) | (simp; omega)) _ _ | exact below_alloc2d _ (by simp) _ _ | exact bdrew _ _ | assumption | (exact Below.mono (by assumption) (by first | (simp; done) | (simp; omega) | omega | assumption)))) (hKO _ _ ?_)
    clear hKO KO
    refine wpTree_float (fun KF hKF => ?_)
    simp only [List.drop, List.take]
    repeat (first | ((with_reducible refine onq_cv (.tmp 89) ?_); refine wq_strS rfl _ _ (.tmp 89) rfl el_u8 Try.underlying5 Try.underlying9 rfl p89 ?_) | ((with_reducible refine onq_cv (.tmp 94) ?_); refine wq_strS rfl _ _ (.tmp 94) rfl el_u8 Try.underlying5 Try.underlying9 rfl p94 ?_) | ((with_reducible refine onq_cv (.tmp 99) ?_); refine wq_strS rfl _ _ (.tmp 99) rfl el_u8 Try.underlying5 Try.underlying9 rfl p8 ?_) | ((with_reducible refine onq_cv (.tmp 101) ?_); refine wq_strS rfl _ _ (.tmp 101) rfl el_u8 Try.underlying5 Try.underlying9 rfl p10 ?_) | ((with_reducible refine onq_cv (.tmp 111) ?_); refine wq_strS rfl _ _ (.tmp 111) rfl el_u8 Try.underlying5 Try.underlying9 rfl p12 ?_) | ((with_reducible refine onq_cv (.tmp 113) ?_); refine wq_strS rfl _ _ (.tmp 113) rfl el_u8 Try.underlying5 Try.underlying9 rfl p14 ?_) | ((with_reducible refine onq_cv (.tmp 123) ?_); refine wq_strS rfl _ _ (.tmp 123) rfl el_u8 Try.underlying5 Try.underlying9 rfl p17 ?_) | ((with_reducible refine onq_cv (.tmp 125) ?_); refine wq_strS rfl _ _ (.tmp 125) rfl el_u8 Try.underlying5 Try.underlying9 rfl p20 ?_) | ((with_reducible refine onq_cv (.tmp 130) ?_); refine wq_strS rfl _ _ (.tmp 130) rfl el_u8 Try.underlying5 Try.underlying9 rfl p18 ?_) | ((with_reducible refine onq_cv (.tmp 132) ?_); refine wq_strS rfl _ _ (.tmp 132) rfl el_u8 Try.underlying5 Try.underlying9 rfl p21 ?_) | go_big_quiet_step (fail) | quiet_step (fail))
    refine wpQuiet_nil ?_
    refine hKF _ ?_
    clear hKF KF
    refine wpTree_one (fun KO hKO => ?_)
    simp only [List.drop, List.take]
    go_wp2_with (first | (go_at_call 41; first | (refine (few4 _ _ _ N HN.out w89 hm _ _ (hr7.step K89)).mono ?_; rintro e w0 ⟨rfl, rfl⟩) | (refine (few4 _ _ _ N HN.out w7.drew hm _ _ (hr7.step (bdrew1 w7))).mono ?_; rintro e w0 ⟨rfl, rfl⟩)) | (go_at_call 43; refine (fput_any m hm2 _ rfl _ _ _ w7.drew (by omega) _ ((r7.step (bdrew1 w7)).more zw)).mono ?_; rintro e w89 ⟨A89, n89, c89, rfl, how89, hb89⟩; have K89 : Below w7.heap.size w7 w89 := (bdrew1 w7).trans hb89; have z89 := K89.size; have p89 := how89.rd.reach) | (go_at_call 48; refine (rfput_any m hm2 _ rfl _ _ _ w89 (by omega) _ ((r7.step K89).more (Nat.le_trans zw z89))).mono ?_; rintro e w94 ⟨A94, n94, c94, rfl, how94, hb94⟩; have K94 : Below w7.heap.size w7 w94 := K89.trans (hb94.mono z89); have p94 := how94.rd.reach; have p8 := (ow8.below K94).rd.reach; have p10 := (ow10.below K94).rd.reach; have p12 := (ow12.below K94).rd.reach; have p14 := (ow14.below K94).rd.reach; have p17 := (ow17.below K94).rd.reach; have p18 := (ow18.below K94).rd.reach; have p20 := (ow20.below K94).rd.reach; have p21 := (ow21.below K94).rd.reach))
    refine anch_end (Th.Reach.of (by first | exact Below.refl _ _ | exact below_alloc _ (by first | omega | (simp; done) | (simp; omega)) _ | exact below_alloc2 _ (by first | omega | (simp; done) | (simp; omega)) _ _ | exact below_alloc2d _ (by simp) _ _ | exact bdrew _ _ | assumption | (exact Below.mono (by assumption) (by first | (simp; done) | (simp; omega) | omega | assumption)))) (hKO _ _ ?_)
    clear hKO KO
    refine wpTree_one (fun KO hKO => ?_)
    simp only [List.drop, List.take]
    go_wp2_with (first | (go_at_call 41; first | (refine (few4 _ _ _ N HN.out w89 hm _ _ (hr7.step K89)).mono ?_; rintro e w0 ⟨rfl, rfl⟩) | (refine (few4 _ _ _ N HN.out w7.drew hm _ _ (hr7.step (bdrew1 w7))).mono ?_; rintro e w0 ⟨rfl, rfl⟩)) | (go_at_call 43; refine (fput_any m hm2 _ rfl _ _ _ w7.drew (by omega) _ ((r7.step (bdrew1 w7)).more zw)).mono ?_; rintro e w89 ⟨A89, n89, c89, rfl, how89, hb89⟩; have K89 : Below w7.heap.size w7 w89 := (bdrew1 w7).trans hb89; have z89 := K89.size; have p89 := how89.rd.reach) | (go_at_call 48; refine (rfput_any m hm2 _ rfl _ _ _ w89 (by omega) _ ((r7.step K89).more (Nat.le_trans zw z89))).mono ?_; rintro e w94 ⟨A94, n94, c94, rfl, how94, hb94⟩; have K94 : Below w7.heap.size w7 w94 := K89.trans (hb94.mono z89); have p94 := how94.rd.reach; have p8 := (ow8.below K94).rd.reach; have p10 := (ow10.below K94).rd.reach; have p12 := (ow12.below K94).rd.reach; have p14 := (ow14.below K94).rd.reach; have p17 := (ow17.below K94).rd.reach; have p18 := (ow18.below K94).rd.reach; have p20 := (ow20.below K94).rd.reach; have p21 := (ow21.below K94).rd.reach))
    refine anch_end (Th.Reach.of (by first | exact Below.refl _ _ | exact below_alloc _ (by first | omega | (simp; done) | (simp; omega)) _ | exact below_alloc2 _ (by first | omega | (simp; done) | (simp; omega)) _ _ | exact below_alloc2d _ (by simp) _ _ | exact bdrew _ _ | assumption | (exact Below.mono (by assumption) (by first | (simp; done) | (simp; omega) | omega | assumption)))) (hKO _ _ ?_)
    clear hKO KO
    refine wpTree_float (fun KF hKF => ?_)
    simp only [List.drop, List.take]
    repeat (first | ((with_reducible refine onq_cv (.tmp 89) ?_); refine wq_strS rfl _ _ (.tmp 89) rfl el_u8 Try.underlying5 Try.underlying9 rfl p89 ?_) | ((with_reducible refine onq_cv (.tmp 94) ?_); refine wq_strS rfl _ _ (.tmp 94) rfl el_u8 Try.underlying5 Try.underlying9 rfl p94 ?_) | ((with_reducible refine onq_cv (.tmp 99) ?_); refine wq_strS rfl _ _ (.tmp 99) rfl el_u8 Try.underlying5 Try.underlying9 rfl p8 ?_) | ((with_reducible refine onq_cv (.tmp 101) ?_); refine wq_strS rfl _ _ (.tmp 101) rfl el_u8 Try.underlying5 Try.underlying9 rfl p10 ?_) | ((with_reducible refine onq_cv (.tmp 111) ?_); refine wq_strS rfl _ _ (.tmp 111) rfl el_u8 Try.underlying5 Try.underlying9 rfl p12 ?_) | ((with_reducible refine onq_cv (.tmp 113) ?_); refine wq_strS rfl _ _ (.tmp 113) rfl el_u8 Try.underlying5 Try.underlying9 rfl p14 ?_) | ((with_reducible refine onq_cv (.tmp 123) ?_); refine wq_strS rfl _ _ (.tmp 123) rfl el_u8 Try.underlying5 Try.underlying9 rfl p17 ?_) | ((with_reducible refine onq_cv (.tmp 125) ?_); refine wq_strS rfl _ _ (.tmp 125) rfl el_u8 Try.underlying5 Try.underlying9 rfl p20 ?_) | ((with_reducible refine onq_cv (.tmp 130) ?_); refine wq_strS rfl _ _ (.tmp 130) rfl el_u8 Try.underlying5 Try.underlying9 rfl p18 ?_) | ((with_reducible refine onq_cv (.tmp 132) ?_); refine wq_strS rfl _ _ (.tmp 132) rfl el_u8 Try.underlying5 Try.underlying9 rfl p21 ?_) | go_big_quiet_step (fail) | quiet_step (fail))
    refine wpQuiet_nil ?_
    refine hKF _ ?_
    clear hKF KF
    refine wpTree_done ?_
    refine hKT _ _ ?_
    clear hKT KT
    go_wp2
    go_ret
    exact ⟨rfl, (hb1.trans (K7.mono z1)).trans (K94.mono zw)⟩
end Go.Proofs.Ytgiefjbdkkdaiaa
