/-
  theseuslaw04.FrameNest: the walk.
-/
import Derived.Test.YtgiefjbdkkdaiaaFrame
import Derived.Test.YtgiefjbdkkdaiaaMany
namespace Go.Proofs.Ytgiefjbdkkdaiaa
open Go.RowKit Go.Th
set_option linter.unusedVariables false
set_option maxRecDepth 100000 in
set_option maxHeartbeats 4000000 in
theorem frameNest_core (A : Option Addr) (n c : Nat) (bs : List UInt8) (A' : Option Addr) (n' c' : Nat) (bs' : List UInt8) {w : World} (hr : RdS bv w w.heap.size A n c bs) (hr' : RdS bv w w.heap.size A' n' c' bs') (hm : n ≤ 9223372036854775807) (hm' : n' ≤ 9223372036854775807)
    (t0 t1 t2 : UInt8) (k0 k1 k2 : Int) (hk0 : (t0.toNat : Int) = k0) (hk1 : (t1.toNat : Int) = k1) (hk2 : (t2.toNat : Int) = k2) :
    Calls Try.prog 16 #[.slice A n c, .slice A' n' c', .agg #[.int .u8 k0, .int .u8 k1, .int .u8 k2]] w fun e w' => e = .returned (.bool true) ∧ Below w.heap.size w w' := by
  obtain ⟨N, hN, hN1⟩ : ∃ N, min n 150 = N ∧ N ≤ 150 := ⟨_, rfl, by omega⟩
  obtain ⟨N', hN', hN1'⟩ : ∃ N, min n' 150 = N ∧ N ≤ 150 := ⟨_, rfl, by omega⟩
  obtain ⟨wa, hwa⟩ : ∃ x, bs.take 150 = x := ⟨_, rfl⟩
  obtain ⟨wb, hwb⟩ : ∃ x, bs'.take 150 = x := ⟨_, rfl⟩
  have hla : wa.length = N := by rw [← hwa, List.length_take, hr.len, Nat.min_comm]; exact hN
  have hlb : wb.length = N' := by rw [← hwb, List.length_take, hr'.len, Nat.min_comm]; exact hN'
  obtain ⟨s, hs, hs1, hs2⟩ : ∃ s, gsize N = s ∧ 1 ≤ s ∧ s ≤ 4 := ⟨_, rfl, (gsize_pos N).1, (gsize_pos N).2⟩
  have hs' := gsize_pos N'
  have lx : (fsec t0 wa).length = 1 + s + N := by rw [fsec_length, hla, hs]
  have ly : (fsec t1 wb).length ≤ 5 + N' := by rw [fsec_length, hlb]; omega
  have o6 := fopen_own t2 (fsec t0 wa ++ fsec t1 wb) (by rw [List.length_append]; omega)
  have o7 := fopen_fsec t0 wa (fsec t1 wb) (by omega)
  have o8 := fopen_own t1 wb (by omega)
  have lz := fsec_length t2 (fsec t0 wa ++ fsec t1 wb)
  have hsz := gsize_pos (fsec t0 wa ++ fsec t1 wb).length
  have lz2 : (fsec t2 (fsec t0 wa ++ fsec t1 wb)).length ≤ 1000 := by rw [lz, List.length_append] at *; omega
  have Hwa := Lib.hid hwa
  have Hwb := Lib.hid hwb
  have O6 := Lib.hid o6
  have O7 := Lib.hid o7
  have O8 := Lib.hid o8
  have Lx := Lib.hid lx
  have Ly := Lib.hid ly
  have Lz := Lib.hid lz2
  have Lb := Lib.hid hlb
  have La := Lib.hid hla
  have Hs := Lib.hid hs
  clear hwa hwb o6 o7 o8 lx ly lz lz2 hsz hla hlb hs hs'
  have HN := Lib.hid hN
  have HN' := Lib.hid hN'
  have Hk0 := Lib.hid hk0
  have Hk1 := Lib.hid hk1
  have Hk2 := Lib.hid hk2
  clear hN hN' hk0 hk1 hk2
  go_enter Try.func16, Try.ntmps16
  go_wp2_with (first
    | (go_at_call 39; refine (shown4 _).mono ?_; rintro e w1 ⟨rfl, hb1⟩))
  have bx := (Box.new w #[.int .u8 k0, .int .u8 k1, .int .u8 k2] 54).step hb1
  have hr1 := (hr.step (below_alloc w (Nat.le_refl _) _)).step hb1
  have hr1' := (hr'.step (below_alloc w (Nat.le_refl _) _)).step hb1
  have hb := (below_alloc (B := w.heap.size) w (Nat.le_refl _) (.cells #[.int .u8 k0, .int .u8 k1, .int .u8 k2] 54)).trans (hb1.mono (by simp))
  have r1 := fewR HN.out hr1
  have r1' := fewR HN'.out hr1'
  rw [Hwa.out] at r1
  rw [Hwb.out] at r1'
  have g0 : ∀ q : Step w1.heap.size w1.drew, q.w.cell? ⟨w.heap.size, 0, none⟩ = some (.int .u8 k0) := fun q => (bx.drew.step q.h).cell 0
  refine wp_region_tree (.float 0 3 (.one 3 (.one 4 (.float 5 5 .done)))) (Th.Reach w1.heap.size) (Th.Reach.trans _) (Th.Reach.refl _) (by kernel_rfl) (by kernel_rfl) (fun KT hKT => ?_)
  refine wpTree_float (fun KF hKF => ?_)
  simp only [List.drop, List.take]
  repeat (first | go_big_quiet_step (fail) | quiet_step (fail))
  refine wpQuiet_nil ?_
  refine hKF _ ?_
  clear hKF KF
  refine wpTree_one (fun KO hKO => ?_)
  simp only [List.drop, List.take]
  go_wp2_with (first | (go_at_call 41; refine (few4 _ _ _ N HN.out w1.drew hm _ _ (hr1.step (bdrew1 w1))).mono ?_; rintro e w2 ⟨rfl, rfl⟩) | (go_at_call 40; refine (sec_any t0 k0 Hk0.out _ _ _ w1.drew (by omega) _ _ (r1.step (bdrew1 w1)) hb.size).mono ?_; rintro e w3 ⟨A3, n3, c3, rfl, how3, hb3⟩))
  refine anch_end (Th.Reach.of (by first | exact Below.refl _ _ | exact below_alloc _ (by first | omega | (simp; done) | (simp; omega)) _ | exact below_alloc2 _ (by first | omega | (simp; done) | (simp; omega)) _ _ | exact below_alloc2d _ (by simp) _ _ | exact bdrew _ _ | assumption | (exact Below.mono (by assumption) (by first | (simp; done) | (simp; omega) | omega | assumption)))) (hKO _ _ ?_)
  clear hKO KO
  refine wpTree_one (fun KO hKO => ?_)
  simp only [List.drop, List.take]
  go_wp2_with (first | (go_at_call 41; refine (few4 _ _ _ N HN.out w1.drew hm _ _ (hr1.step (bdrew1 w1))).mono ?_; rintro e w2 ⟨rfl, rfl⟩) | (go_at_call 40; refine (sec_any t0 k0 Hk0.out _ _ _ w1.drew (by omega) _ _ (r1.step (bdrew1 w1)) hb.size).mono ?_; rintro e w3 ⟨A3, n3, c3, rfl, how3, hb3⟩))
  refine anch_end (Th.Reach.of (by first | exact Below.refl _ _ | exact below_alloc _ (by first | omega | (simp; done) | (simp; omega)) _ | exact below_alloc2 _ (by first | omega | (simp; done) | (simp; omega)) _ _ | exact below_alloc2d _ (by simp) _ _ | exact bdrew _ _ | assumption | (exact Below.mono (by assumption) (by first | (simp; done) | (simp; omega) | omega | assumption)))) (hKO _ _ ?_)
  clear hKO KO
  refine wpTree_float (fun KF hKF => ?_)
  simp only [List.drop, List.take]
  repeat (first | go_big_quiet_step (fail) | quiet_step (fail))
  refine wpQuiet_nil ?_
  refine hKF _ ?_
  clear hKF KF
  refine wpTree_done ?_
  refine hKT _ _ ?_
  clear hKT KT
  have B3 : Below w1.heap.size w1 w3 := (bdrew1 w1).trans hb3
  have z3 := B3.size
  have e3 : n3 = 1 + s + N := how3.len.symm.trans Lx.out
  subst e3
  have bx3 := bx.step B3
  have hr3' := hr1'.step B3
  have r3' := r1'.step B3
  have g1 : ∀ q : Step w3.heap.size w3.drew, q.w.cell? ⟨w.heap.size, 1, none⟩ = some (.int .u8 k1) := fun q => (bx3.drew.step q.h).cell 1
  go_wp2
  refine wp_region_tree (.float 0 3 (.one 3 (.one 4 (.float 5 5 .done)))) (Th.Reach w3.heap.size) (Th.Reach.trans _) (Th.Reach.refl _) (by kernel_rfl) (by kernel_rfl) (fun KT hKT => ?_)
  refine wpTree_float (fun KF hKF => ?_)
  simp only [List.drop, List.take]
  repeat (first | go_big_quiet_step (fail) | quiet_step (fail))
  refine wpQuiet_nil ?_
  refine hKF _ ?_
  clear hKF KF
  refine wpTree_one (fun KO hKO => ?_)
  simp only [List.drop, List.take]
  go_wp2_with (first | (go_at_call 41; refine (few4 _ _ _ N' HN'.out w3.drew hm' _ _ (hr3'.step (bdrew1 w3))).mono ?_; rintro e w2 ⟨rfl, rfl⟩) | (go_at_call 40; refine (sec_any t1 k1 Hk1.out _ _ _ w3.drew (by omega) _ _ (r3'.step (bdrew1 w3)) (Nat.le_trans hb.size z3)).mono ?_; rintro e w4 ⟨A4, n4, c4, rfl, how4, hb4⟩))
  refine anch_end (Th.Reach.of (by first | exact Below.refl _ _ | exact below_alloc _ (by first | omega | (simp; done) | (simp; omega)) _ | exact below_alloc2 _ (by first | omega | (simp; done) | (simp; omega)) _ _ | exact below_alloc2d _ (by simp) _ _ | exact bdrew _ _ | assumption | (exact Below.mono (by assumption) (by first | (simp; done) | (simp; omega) | omega | assumption)))) (hKO _ _ ?_)
  clear hKO KO
  refine wpTree_one (fun KO hKO => ?_)
  simp only [List.drop, List.take]
  go_wp2_with (first | (go_at_call 41; refine (few4 _ _ _ N' HN'.out w3.drew hm' _ _ (hr3'.step (bdrew1 w3))).mono ?_; rintro e w2 ⟨rfl, rfl⟩) | (go_at_call 40; refine (sec_any t1 k1 Hk1.out _ _ _ w3.drew (by omega) _ _ (r3'.step (bdrew1 w3)) (Nat.le_trans hb.size z3)).mono ?_; rintro e w4 ⟨A4, n4, c4, rfl, how4, hb4⟩))
  refine anch_end (Th.Reach.of (by first | exact Below.refl _ _ | exact below_alloc _ (by first | omega | (simp; done) | (simp; omega)) _ | exact below_alloc2 _ (by first | omega | (simp; done) | (simp; omega)) _ _ | exact below_alloc2d _ (by simp) _ _ | exact bdrew _ _ | assumption | (exact Below.mono (by assumption) (by first | (simp; done) | (simp; omega) | omega | assumption)))) (hKO _ _ ?_)
  clear hKO KO
  refine wpTree_float (fun KF hKF => ?_)
  simp only [List.drop, List.take]
  repeat (first | go_big_quiet_step (fail) | quiet_step (fail))
  refine wpQuiet_nil ?_
  refine hKF _ ?_
  clear hKF KF
  refine wpTree_done ?_
  refine hKT _ _ ?_
  clear hKT KT
  have B4 : Below w3.heap.size w3 w4 := (bdrew1 w3).trans hb4
  have z4 := B4.size
  have e4 : n4 ≤ 5 + N' := by have := how4.len; have := Ly.out; omega
  have bx4 := bx3.step B4
  have q4 := bx4.cell 2
  have how3 := how3.below B4
  go_wp2_with (first
    | ((with_reducible refine on_append (.tmp 41) (.tmp 42) ?_); refine wl_appendS rfl (.tmp 41) (.tmp 42) _ rfl el_u8 (f := bv) (fun _ => rfl) rfl (OwS.lit (base := w4.heap.size) (e := 5) (xs := []) w4 #[] 0 (Nat.le_refl _) (by simp [maxLen]) rfl rfl) rfl (how3.rd.alloc _) (by omega) (by omega) (by simp) ?_; intro A5 c5 w5 how5 _ hb5; rw [Nat.zero_add, List.nil_append] at how5; have H5 : Below w4.heap.size w4 w5 := (below_alloc w4 (Nat.le_refl _) _).trans hb5)
    | ((with_reducible refine on_append (.tmp 43) (.tmp 44) ?_); refine wl_appendS rfl (.tmp 43) (.tmp 44) _ rfl el_u8 (f := bv) (fun _ => rfl) rfl how5 rfl (how4.below H5).rd (by omega) (by omega) H5.size ?_; intro A6 c6 w6 how6 _ hb6; have H6 := H5.trans hb6; have bx6 := bx4.step H6; have q6 := bx6.cell 2)
    | (go_at_call 40; refine (sec_any t2 k2 Hk2.out _ _ _ _ (by omega) _ _ how6.rd (Nat.le_refl _)).mono ?_; rintro e w7 ⟨A7, n7, c7, rfl, how7, hb7⟩; have e7 : n7 ≤ 1000 := (by have := how7.len; have := Lz.out; omega); have bx7 := bx6.step hb7; have q7 := bx7.cell 2))
  refine (open_is t2 k2 Hk2.out A7 n7 c7 w7 (by omega) _ how7.rd _ _ _ O6.out).mono ?_
  rintro e w8 ⟨A8, n8, c8, A9, n9, c9, rfl, how8, how9, hb8⟩
  have e9 : n9 = 0 := how9.len.symm
  subst e9
  have bx8 := bx7.step hb8
  have q8 := bx8.cell 0
  have e8 : n8 ≤ 1000 := (by have := how8.len; have := Lx.out; have := Ly.out; rw [List.length_append] at *; omega)
  go_wp2_with fail
  refine (open_is t0 k0 Hk0.out A8 n8 c8 w8 (by omega) _ how8.rd _ _ _ O7.out).mono ?_
  rintro e w10 ⟨A10, n10, c10, A11, n11, c11, rfl, how10, how11, hb10⟩
  have bx10 := bx8.step hb10
  have q10 := bx10.cell 1
  have e11 : n11 ≤ 1000 := (by have := how11.len; have := Ly.out; omega)
  go_wp2_with fail
  refine (open_is t1 k1 Hk1.out A11 n11 c11 w10 (by omega) _ how11.rd _ _ _ O8.out).mono ?_
  rintro e w12 ⟨A12, n12, c12, A13, n13, c13, rfl, how12, how13, hb12⟩
  have e13 : n13 = 0 := how13.len.symm
  subst e13
  go_wp2_with fail
  have K12 : Below w1.heap.size w1 w12 := ((((B3.trans (B4.mono z3)).trans (H6.mono (Nat.le_trans z3 z4))).trans (hb7.mono (Nat.le_trans (Nat.le_trans z3 z4) H6.size))).trans ((hb8.trans ((hb10.mono hb8.size).trans (hb12.mono (Nat.le_trans hb8.size hb10.size)))).mono (Nat.le_trans (Nat.le_trans (Nat.le_trans z3 z4) H6.size) hb7.size)))
  have p8 := ((how8.below hb10).below hb12).rd.reach
  have p6 := ((((how6.below hb7).below hb8).below hb10).below hb12).rd.reach
  have p10 := (how10.below hb12).rd.reach
  have p12 := how12.rd.reach
  have pa := (r1.step K12).reach
  have pb := (r1'.step K12).reach
  have Hfew : Hid (∀ q : Step w12.heap.size w12, Calls Try.prog 41 #[.slice A n c] q.w (fun e w' => e = .returned (.slice (fewA A n c) N c) ∧ q.w = w')) := Lib.hid (fun q => few4 _ _ _ N HN.out q.w hm _ _ ((hr1.step K12).step q.h))
  have Hfew' : Hid (∀ q : Step w12.heap.size w12, Calls Try.prog 41 #[.slice A' n' c'] q.w (fun e w' => e = .returned (.slice (fewA A' n' c') N' c') ∧ q.w = w')) := Lib.hid (fun q => few4 _ _ _ N' HN'.out q.w hm' _ _ ((hr1'.step K12).step q.h))
  have Hsz : Hid (∀ q : Step w12.heap.size w12, Calls Try.prog 38 #[.int .i64 N] q.w (fun e w' => e = .returned (.int .i64 s) ∧ q.w = w')) := Lib.hid (fun q => by have := gsize_in N q.w (by omega); rw [Hs.out] at this; exact this)
  have hbz := hb.trans (K12.mono hb.size)
  have zz := hbz.size
  clear how3 how4 how5 how6 how7 how8 how9 how10 how11 how12 how13 hb1 hb3 hb4 hb5 hb6 hb7 hb8 hb10 hb12 H5 H6 B3 B4 bx bx3 bx4 bx6 bx7 bx8 bx10 q4 q6 q7 q8 q10 g0 g1 K12 r1 r1' hr1 hr1' r3' hr3' hr hr'
  refine wp_region_reach (by kernel_rfl) (by kernel_rfl) ?_
  simp only [List.append]
  repeat (first | ((with_reducible refine onq_cv (.tmp 103) ?_); refine wq_strS rfl _ _ (.tmp 103) rfl el_u8 Try.underlying5 Try.underlying9 rfl p8 ?_) | ((with_reducible refine onq_cv (.tmp 105) ?_); refine wq_strS rfl _ _ (.tmp 105) rfl el_u8 Try.underlying5 Try.underlying9 rfl p6 ?_) | ((with_reducible refine onq_cv (.tmp 115) ?_); refine wq_strS rfl _ _ (.tmp 115) rfl el_u8 Try.underlying5 Try.underlying9 rfl p10 ?_) | ((with_reducible refine onq_cv (.tmp 118) ?_); refine wq_strS rfl _ _ (.tmp 118) rfl el_u8 Try.underlying5 Try.underlying9 rfl pa ?_) | ((with_reducible refine onq_cv (.tmp 123) ?_); refine wq_strS rfl _ _ (.tmp 123) rfl el_u8 Try.underlying5 Try.underlying9 rfl p12 ?_) | ((with_reducible refine onq_cv (.tmp 126) ?_); refine wq_strS rfl _ _ (.tmp 126) rfl el_u8 Try.underlying5 Try.underlying9 rfl pb ?_) | go_big_quiet_step (first | exact Calls.reach_same (Hfew.out _) | exact Calls.reach_same (Hfew'.out _) | exact Calls.reach_same (Hsz.out _)) | quiet_step (first | exact Calls.reach_same (Hfew.out _) | exact Calls.reach_same (Hfew'.out _) | exact Calls.reach_same (Hsz.out _)))
  refine wpQuiet_nil ?_
  rintro _ ⟨q, rfl⟩
  have hqw13 := q.h
  obtain ⟨w13, hw13'⟩ : ∃ W, q.w = W := ⟨_, rfl⟩
  rw [hw13'] at hqw13 ⊢
  clear hw13' q
  go_wp2
  go_ret
  exact ⟨rfl, hbz.trans (hqw13.mono zz)⟩
theorem frameNest_walk (A : Option Addr) (n c : Nat) (bs : List UInt8) {w : World} (hr : RdS bv w w.heap.size A n c bs) (hm : n ≤ 9223372036854775807) (A' : Option Addr) (n' c' : Nat) (bs' : List UInt8) (hr' : RdS bv w w.heap.size A' n' c' bs') (hm' : n' ≤ 9223372036854775807)
    (ks : List Int) (hl : ks.length = 3) (hk : ∀ z ∈ ks, 0 ≤ z ∧ z ≤ 255) :
    Calls Try.prog 16 #[.slice A n c, .slice A' n' c', .agg (ks.map (Value.int .u8)).toArray] w fun e w' => e = .returned (.bool true) ∧ Below w.heap.size w w' := by
  have hz : ∀ z, 0 ≤ z ∧ z ≤ 255 → ∃ t : UInt8, (t.toNat : Int) = z := fun z h => ⟨UInt8.ofNat z.toNat, by rw [UInt8.toNat_ofNat']; omega⟩
  match ks, hl, hk with
  | [k0, k1, k2], _, hk =>
    obtain ⟨t0, h0⟩ := hz k0 (hk k0 (by simp))
    obtain ⟨t1, h1⟩ := hz k1 (hk k1 (by simp))
    obtain ⟨t2, h2⟩ := hz k2 (hk k2 (by simp))
    exact frameNest_core A n c bs A' n' c' bs' hr hr' hm hm' t0 t1 t2 k0 k1 k2 h0 h1 h2
end Go.Proofs.Ytgiefjbdkkdaiaa
