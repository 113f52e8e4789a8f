/-
  theseuslaw04.FrameBack: the walk.
-/
import Derived.Test.YtgiefjbdkkdaiaaFramePut
import Derived.Test.YtgiefjbdkkdaiaaFrameLaw
namespace Go.Proofs.Ytgiefjbdkkdaiaa
open Go.RowKit Go.Th
set_option linter.unusedVariables false
theorem ftake_isB (m : Nat) (hm : m < 4294967296) (M : Int) (hM : (m : Int) = M) (A : Option Addr) (n c : Nat) (w : World) (hn : n ≤ 1000000) (bs : List UInt8) (hr : RdS bv w w.heap.size A n c bs) (x : List UInt8) (er : Int) (h : ftake m bs = (x, er)) :
    Calls Try.prog 44 #[.int .u32 M, .slice A n c] w fun e w' => ∃ A' n' c', e = .returned (.tuple #[.slice A' n' c', .int .i64 er]) ∧ OwS bv w' w.heap.size 5 A' n' c' x ∧ Below w.heap.size w w' := by
  have := ftake_any m hm M hM A n c w hn bs hr
  rw [h] at this
  exact this
set_option maxRecDepth 100000 in
set_option maxHeartbeats 4000000 in
theorem frameBack_core (A : Option Addr) (n c : Nat) (bs : List UInt8) (A' : Option Addr) (n' c' : Nat) (bs' : List UInt8) {w : World} (hr : RdS bv w w.heap.size A n c bs) (hr' : RdS bv w w.heap.size A' n' c' bs') (hm : n ≤ 9223372036854775807) (hm' : n' ≤ 9223372036854775807)
    (m0 m1 : Nat) (hm0 : m0 < 4294967296) (hm1 : m1 < 4294967296) :
    Calls Try.prog 19 #[.slice A n c, .slice A' n' c', .agg #[.int .u32 m0, .int .u32 m1]] w fun e w' => e = .returned (.bool true) ∧ Below w.heap.size w w' := by
  obtain ⟨N, hN, hN1⟩ : ∃ N, min n 150 = N ∧ N ≤ 150 := ⟨_, rfl, by omega⟩
  obtain ⟨N', hN', hN1'⟩ : ∃ N, min n' 150 = N ∧ N ≤ 150 := ⟨_, rfl, by omega⟩
  obtain ⟨wa, hwa⟩ : ∃ x, bs.take 150 = x := ⟨_, rfl⟩
  obtain ⟨wb, hwb⟩ : ∃ x, bs'.take 150 = x := ⟨_, rfl⟩
  have hla : wa.length = N := by rw [← hwa, List.length_take, hr.len, Nat.min_comm]; exact hN
  have lx : (fput m0 wa).length = N + 8 := by rw [fput_length, hla]
  obtain ⟨t, ht⟩ : ∃ t : UInt8, UInt8.ofNat m0 = t := ⟨_, rfl⟩
  have hti : (t.toNat : Int) = (m0 : Int) % 256 := by rw [← ht, UInt8.toNat_ofNat']; omega
  have ht1 : ((t + 1).toNat : Int) = ((m0 : Int) % 256 + 1) % 256 := by
    have e1 : (1 : UInt8).toNat = 1 := rfl
    rw [UInt8.toNat_add, e1]; omega
  have ht2 : ((t + 1).toNat : Int) = ((m0 : Int) + 1) % 256 := by rw [ht1]; omega
  have hsz := gsize_pos wa.length
  have ls : (fsec t wa).length ≤ 155 := by rw [fsec_length]; omega
  obtain ⟨y, g, hy, hways⟩ : ∃ y g, ftake m1 (fput m0 wa) = (y, g) ∧ (((m0 : Int) == (m1 : Int)) = true ∧ (m0 == m1) = true ∧ g = 0 ∨ ((m0 : Int) == (m1 : Int)) = false ∧ (m0 == m1) = false ∧ g = 5) := by
    by_cases h : m0 = m1
    · subst h
      exact ⟨wa, 0, ftake_fput m0 wa, .inl ⟨by simp, by simp, rfl⟩⟩
    · exact ⟨[], 5, ftake_other hm0 hm1 wa h, .inr ⟨by simp; omega, by simp [h], rfl⟩⟩
  have o1 := ftake_fput m0 wa
  have o2 := fopen_fsec t wa wb (by omega)
  have o3 : fopen (t + 1) (fsec t wa) = ([], [], 3) := fopen_tag (fun e => next_ne t e.symm) _
  have HN := Lib.hid hN
  have HN' := Lib.hid hN'
  have Hwa := Lib.hid hwa
  have Hwb := Lib.hid hwb
  have Lx := Lib.hid lx
  have La := Lib.hid hla
  have Ls := Lib.hid ls
  have Hti := Lib.hid hti
  have Ht1 := Lib.hid ht1
  have Ht2 := Lib.hid ht2
  have Hy := Lib.hid hy
  have Hways := Lib.hid hways
  have O1 := Lib.hid o1
  have O2 := Lib.hid o2
  have O3 := Lib.hid o3
  clear hN hN' hwa hwb hla lx ls hti ht1 ht2 ht hy hways hsz o1 o2 o3
  go_enter Try.func19, Try.ntmps19
  go_wp2_with fail
  refine (shown4 _).mono ?_
  rintro e w1 ⟨rfl, hb1⟩
  have bx := (Box.new w #[.int .u32 m0, .int .u32 m1] 59).step hb1
  have hr1 := (hr.step (below_alloc w (Nat.le_refl _) _)).step hb1
  have hr1' := (hr'.step (below_alloc w (Nat.le_refl _) _)).step hb1
  have hb := (below_alloc (B := w.heap.size) w (Nat.le_refl _) (.cells #[.int .u32 m0, .int .u32 m1] 59)).trans (hb1.mono (by simp))
  have zb := hb.size
  have r1 := fewR HN.out hr1
  have r1' := fewR HN'.out hr1'
  rw [Hwa.out] at r1
  rw [Hwb.out] at r1'
  have q1 := bx.cell 0
  clear hb1 hr hr'
  go_wp2_with fail
  refine (few4 _ _ _ N HN.out _ hm _ _ hr1).mono ?_
  rintro e w2 ⟨rfl, rfl⟩
  go_wp2_with fail
  refine (fput_any m0 hm0 _ rfl _ _ _ _ (by omega) _ (r1.more zb)).mono ?_
  rintro e w3 ⟨A3, n3, c3, rfl, how3, hb3⟩
  have e3 : n3 = N + 8 := how3.len.symm.trans Lx.out
  subst e3
  have bx3 := bx.step hb3
  have q3 := bx3.cell 0
  go_wp2_with fail
  refine (ftake_isB m0 hm0 _ rfl _ _ _ w3 (by omega) _ how3.rd _ _ O1.out).mono ?_
  rintro e w4 ⟨A4, n4, c4, rfl, how4, hb4⟩
  have bx4 := bx3.step hb4
  have q4 := bx4.cell 1
  have how3 := how3.below hb4
  go_wp2_with fail
  refine (ftake_isB m1 hm1 _ rfl _ _ _ w4 (by omega) _ how3.rd _ _ Hy.out).mono ?_
  rintro e w5 ⟨A5, n5, c5, rfl, how5, hb5⟩
  have bx5 := bx4.step hb5
  have q5 := bx5.cell 0
  have how4 := how4.below hb5
  have B5 : Below w1.heap.size w1 w5 := hb3.trans ((hb4.trans (hb5.mono hb4.size)).mono hb3.size)
  have z5 := B5.size
  clear how3 how5
  go_wp2_with fail
  refine (sec_any t _ Hti.out _ _ _ w5 (by omega) _ _ (r1.step B5) (Nat.le_trans zb z5)).mono ?_
  rintro e w6 ⟨A6, n6, c6, rfl, how6, hb6⟩
  have e6 : n6 ≤ 155 := by have := how6.len; have := Ls.out; omega
  have bx6 := bx5.step hb6
  have how4 := how4.below hb6
  have B6 : Below w1.heap.size w1 w6 := B5.trans (hb6.mono z5)
  have z6 := B6.size
  have g6 : ∀ q : Step w6.heap.size w6.drew, q.w.cell? ⟨w.heap.size, 0, none⟩ = some (.int .u32 m0) := fun q => (bx6.drew.step q.h).cell 0
  go_wp2_with fail
  refine wp_region_tree (.float 0 3 (.float 4 1 (.float 6 1 (.one 3 (.one 5 (.one 7 (.one 8 (.one 9 (.float 10 7 .done))))))))) (Th.Reach w6.heap.size) (Th.Reach.trans _) (Th.Reach.refl _) (by kernel_rfl) (by kernel_rfl) (fun KT hKT => ?_)
  refine wpTree_float (fun KF hKF => ?_)
  simp only [List.drop, List.take]
  repeat (first | go_big_quiet_step (fail) | quiet_step (fail))
  refine wpQuiet_nil ?_
  refine hKF _ ?_
  clear hKF KF
  refine wpTree_float (fun KF hKF => ?_)
  simp only [List.drop, List.take]
  repeat (first | go_big_quiet_step (fail) | quiet_step (fail))
  refine wpQuiet_nil ?_
  refine hKF _ ?_
  clear hKF KF
  refine wpTree_float (fun KF hKF => ?_)
  simp only [List.drop, List.take]
  repeat (first | go_big_quiet_step (fail) | quiet_step (fail))
  refine wpQuiet_nil ?_
  refine hKF _ ?_
  clear hKF KF
  refine wpTree_one (fun KO hKO => ?_)
  simp only [List.drop, List.take]
  go_wp2_with (first | ((with_reducible refine on_append (.tmp 59) (.tmp 60) ?_); refine wl_appendS rfl (.tmp 59) (.tmp 60) _ rfl el_u8 (f := bv) (fun _ => rfl) rfl (OwS.lit (base := w6.heap.size) (e := 5) (xs := []) w6.drew #[] 0 (Nat.le_refl _) (by simp [maxLen]) rfl rfl) rfl ((how6.below (bdrew1 w6)).rd.alloc _) (by omega) (by omega) (by simp) ?_; intro A7 c7 w7 how7 _ hb7; rw [Nat.zero_add, List.nil_append] at how7; have H7 : Below w6.heap.size w6 w7 := ((bdrew1 w6).trans (below_alloc w6.drew (Nat.le_refl _) _)).trans hb7) | (go_at_call 41; refine (few4 _ _ _ N' HN'.out w7 hm' _ _ ((hr1'.step B6).step H7)).mono ?_; rintro e w8 ⟨rfl, rfl⟩) | ((with_reducible refine on_append (.tmp 61) (.tmp 63) ?_); refine wl_appendS rfl (.tmp 61) (.tmp 63) _ rfl el_u8 (f := bv) (fun _ => rfl) rfl how7 rfl ((r1'.step B6).step H7) (by omega) (by omega) H7.size ?_; intro A9 c9 w9 how9 _ hb9; have H9 := H7.trans hb9; have hz9 := H9.size) | (go_at_call 42; refine (open_is t _ Hti.out _ _ _ w9 (by omega) _ how9.rd _ _ _ O2.out).mono ?_; rintro e w10 ⟨A10, n10, c10, A11, n11, c11, rfl, how10, how11, hb10⟩; have H10 := H9.trans (hb10.mono hz9)))
  refine anch_end (Th.Reach.of (by first | exact Below.refl _ _ | exact below_alloc _ (by first | omega | (simp; done) | (simp; omega)) _ | exact below_alloc2 _ (by first | omega | (simp; done) | (simp; omega)) _ _ | exact below_alloc2d _ (by simp) _ _ | exact bdrew _ _ | assumption | (exact Below.mono (by assumption) (by first | (simp; done) | (simp; omega) | omega | assumption)))) (hKO _ _ ?_)
  clear hKO KO
  refine wpTree_one (fun KO hKO => ?_)
  simp only [List.drop, List.take]
  go_wp2_with (first | ((with_reducible refine on_append (.tmp 59) (.tmp 60) ?_); refine wl_appendS rfl (.tmp 59) (.tmp 60) _ rfl el_u8 (f := bv) (fun _ => rfl) rfl (OwS.lit (base := w6.heap.size) (e := 5) (xs := []) w6.drew #[] 0 (Nat.le_refl _) (by simp [maxLen]) rfl rfl) rfl ((how6.below (bdrew1 w6)).rd.alloc _) (by omega) (by omega) (by simp) ?_; intro A7 c7 w7 how7 _ hb7; rw [Nat.zero_add, List.nil_append] at how7; have H7 : Below w6.heap.size w6 w7 := ((bdrew1 w6).trans (below_alloc w6.drew (Nat.le_refl _) _)).trans hb7) | (go_at_call 41; refine (few4 _ _ _ N' HN'.out w7 hm' _ _ ((hr1'.step B6).step H7)).mono ?_; rintro e w8 ⟨rfl, rfl⟩) | ((with_reducible refine on_append (.tmp 61) (.tmp 63) ?_); refine wl_appendS rfl (.tmp 61) (.tmp 63) _ rfl el_u8 (f := bv) (fun _ => rfl) rfl how7 rfl ((r1'.step B6).step H7) (by omega) (by omega) H7.size ?_; intro A9 c9 w9 how9 _ hb9; have H9 := H7.trans hb9; have hz9 := H9.size) | (go_at_call 42; refine (open_is t _ Hti.out _ _ _ w9 (by omega) _ how9.rd _ _ _ O2.out).mono ?_; rintro e w10 ⟨A10, n10, c10, A11, n11, c11, rfl, how10, how11, hb10⟩; have H10 := H9.trans (hb10.mono hz9)))
  refine anch_end (Th.Reach.of (by first | exact Below.refl _ _ | exact below_alloc _ (by first | omega | (simp; done) | (simp; omega)) _ | exact below_alloc2 _ (by first | omega | (simp; done) | (simp; omega)) _ _ | exact below_alloc2d _ (by simp) _ _ | exact bdrew _ _ | assumption | (exact Below.mono (by assumption) (by first | (simp; done) | (simp; omega) | omega | assumption)))) (hKO _ _ ?_)
  clear hKO KO
  refine wpTree_one (fun KO hKO => ?_)
  simp only [List.drop, List.take]
  go_wp2_with (first | ((with_reducible refine on_append (.tmp 59) (.tmp 60) ?_); refine wl_appendS rfl (.tmp 59) (.tmp 60) _ rfl el_u8 (f := bv) (fun _ => rfl) rfl (OwS.lit (base := w6.heap.size) (e := 5) (xs := []) w6.drew #[] 0 (Nat.le_refl _) (by simp [maxLen]) rfl rfl) rfl ((how6.below (bdrew1 w6)).rd.alloc _) (by omega) (by omega) (by simp) ?_; intro A7 c7 w7 how7 _ hb7; rw [Nat.zero_add, List.nil_append] at how7; have H7 : Below w6.heap.size w6 w7 := ((bdrew1 w6).trans (below_alloc w6.drew (Nat.le_refl _) _)).trans hb7) | (go_at_call 41; refine (few4 _ _ _ N' HN'.out w7 hm' _ _ ((hr1'.step B6).step H7)).mono ?_; rintro e w8 ⟨rfl, rfl⟩) | ((with_reducible refine on_append (.tmp 61) (.tmp 63) ?_); refine wl_appendS rfl (.tmp 61) (.tmp 63) _ rfl el_u8 (f := bv) (fun _ => rfl) rfl how7 rfl ((r1'.step B6).step H7) (by omega) (by omega) H7.size ?_; intro A9 c9 w9 how9 _ hb9; have H9 := H7.trans hb9; have hz9 := H9.size) | (go_at_call 42; refine (open_is t _ Hti.out _ _ _ w9 (by omega) _ how9.rd _ _ _ O2.out).mono ?_; rintro e w10 ⟨A10, n10, c10, A11, n11, c11, rfl, how10, how11, hb10⟩; have H10 := H9.trans (hb10.mono hz9)))
  refine anch_end (Th.Reach.of (by first | exact Below.refl _ _ | exact below_alloc _ (by first | omega | (simp; done) | (simp; omega)) _ | exact below_alloc2 _ (by first | omega | (simp; done) | (simp; omega)) _ _ | exact below_alloc2d _ (by simp) _ _ | exact bdrew _ _ | assumption | (exact Below.mono (by assumption) (by first | (simp; done) | (simp; omega) | omega | assumption)))) (hKO _ _ ?_)
  clear hKO KO
  refine wpTree_one (fun KO hKO => ?_)
  simp only [List.drop, List.take]
  go_wp2_with (first | ((with_reducible refine on_append (.tmp 59) (.tmp 60) ?_); refine wl_appendS rfl (.tmp 59) (.tmp 60) _ rfl el_u8 (f := bv) (fun _ => rfl) rfl (OwS.lit (base := w6.heap.size) (e := 5) (xs := []) w6.drew #[] 0 (Nat.le_refl _) (by simp [maxLen]) rfl rfl) rfl ((how6.below (bdrew1 w6)).rd.alloc _) (by omega) (by omega) (by simp) ?_; intro A7 c7 w7 how7 _ hb7; rw [Nat.zero_add, List.nil_append] at how7; have H7 : Below w6.heap.size w6 w7 := ((bdrew1 w6).trans (below_alloc w6.drew (Nat.le_refl _) _)).trans hb7) | (go_at_call 41; refine (few4 _ _ _ N' HN'.out w7 hm' _ _ ((hr1'.step B6).step H7)).mono ?_; rintro e w8 ⟨rfl, rfl⟩) | ((with_reducible refine on_append (.tmp 61) (.tmp 63) ?_); refine wl_appendS rfl (.tmp 61) (.tmp 63) _ rfl el_u8 (f := bv) (fun _ => rfl) rfl how7 rfl ((r1'.step B6).step H7) (by omega) (by omega) H7.size ?_; intro A9 c9 w9 how9 _ hb9; have H9 := H7.trans hb9; have hz9 := H9.size) | (go_at_call 42; refine (open_is t _ Hti.out _ _ _ w9 (by omega) _ how9.rd _ _ _ O2.out).mono ?_; rintro e w10 ⟨A10, n10, c10, A11, n11, c11, rfl, how10, how11, hb10⟩; have H10 := H9.trans (hb10.mono hz9)))
  refine anch_end (Th.Reach.of (by first | exact Below.refl _ _ | exact below_alloc _ (by first | omega | (simp; done) | (simp; omega)) _ | exact below_alloc2 _ (by first | omega | (simp; done) | (simp; omega)) _ _ | exact below_alloc2d _ (by simp) _ _ | exact bdrew _ _ | assumption | (exact Below.mono (by assumption) (by first | (simp; done) | (simp; omega) | omega | assumption)))) (hKO _ _ ?_)
  clear hKO KO
  refine wpTree_one (fun KO hKO => ?_)
  simp only [List.drop, List.take]
  go_wp2_with (first | ((with_reducible refine on_append (.tmp 59) (.tmp 60) ?_); refine wl_appendS rfl (.tmp 59) (.tmp 60) _ rfl el_u8 (f := bv) (fun _ => rfl) rfl (OwS.lit (base := w6.heap.size) (e := 5) (xs := []) w6.drew #[] 0 (Nat.le_refl _) (by simp [maxLen]) rfl rfl) rfl ((how6.below (bdrew1 w6)).rd.alloc _) (by omega) (by omega) (by simp) ?_; intro A7 c7 w7 how7 _ hb7; rw [Nat.zero_add, List.nil_append] at how7; have H7 : Below w6.heap.size w6 w7 := ((bdrew1 w6).trans (below_alloc w6.drew (Nat.le_refl _) _)).trans hb7) | (go_at_call 41; refine (few4 _ _ _ N' HN'.out w7 hm' _ _ ((hr1'.step B6).step H7)).mono ?_; rintro e w8 ⟨rfl, rfl⟩) | ((with_reducible refine on_append (.tmp 61) (.tmp 63) ?_); refine wl_appendS rfl (.tmp 61) (.tmp 63) _ rfl el_u8 (f := bv) (fun _ => rfl) rfl how7 rfl ((r1'.step B6).step H7) (by omega) (by omega) H7.size ?_; intro A9 c9 w9 how9 _ hb9; have H9 := H7.trans hb9; have hz9 := H9.size) | (go_at_call 42; refine (open_is t _ Hti.out _ _ _ w9 (by omega) _ how9.rd _ _ _ O2.out).mono ?_; rintro e w10 ⟨A10, n10, c10, A11, n11, c11, rfl, how10, how11, hb10⟩; have H10 := H9.trans (hb10.mono hz9)))
  refine anch_end (Th.Reach.of (by first | exact Below.refl _ _ | exact below_alloc _ (by first | omega | (simp; done) | (simp; omega)) _ | exact below_alloc2 _ (by first | omega | (simp; done) | (simp; omega)) _ _ | exact below_alloc2d _ (by simp) _ _ | exact bdrew _ _ | assumption | (exact Below.mono (by assumption) (by first | (simp; done) | (simp; omega) | omega | assumption)))) (hKO _ _ ?_)
  clear hKO KO
  refine wpTree_float (fun KF hKF => ?_)
  simp only [List.drop, List.take]
  repeat (first | go_big_quiet_step (fail) | quiet_step (fail))
  refine wpQuiet_nil ?_
  refine hKF _ ?_
  clear hKF KF
  refine wpTree_done ?_
  refine hKT _ _ ?_
  clear hKT KT
  have bx10 := bx6.step H10
  have q10 := bx10.cell 0
  have how4 := how4.below H10
  have how6 := how6.below H10
  have B10 : Below w1.heap.size w1 w10 := B6.trans (H10.mono z6)
  have z10 := B10.size
  clear how7 how9 hb7 hb9 hb10 H7 H9 g6 hb3 hb4 hb5 hb6 bx bx3 bx4 bx5 bx6 q1 q3 q4 q5
  go_wp2_with fail
  refine (open_is (t + 1) _ (by first | exact Ht1.out | exact Ht2.out | (have := Ht1.out; omega)) _ _ _ w10 (by omega) _ how6.rd _ _ _ O3.out).mono ?_
  rintro e w12 ⟨A12, n12, c12, A13, n13, c13, rfl, how12, how13, hb12⟩
  have ow4 := how4.below hb12
  have ow6 := how6.below hb12
  have ow10 := how10.below hb12
  have ow11 := how11.below hb12
  have bx12 := bx10.step hb12
  have B12 : Below w1.heap.size w1 w12 := B10.trans (hb12.mono z10)
  have z12 := B12.size
  have l6 := ow6.len
  clear how4 how6 how10 how11 how12 how13 hb12 bx10 q10 H10
  go_wp2_with fail
  go_loopw [22, 23, 24, 25] (fun i _ _ _ wr => ∃ k : Nat, k ≤ n6 ∧ i = .int .i64 k ∧ Below w12.heap.size w12 wr) (fun i _ _ _ _ => n6 - (intOf i).toNat)
  case atStart => exact ⟨0, by omega, rfl, Below.refl _ _⟩
  case round =>
    obtain ⟨k, hk, rfl, hbr⟩ := hrel
    have zr := hbr.size
    by_cases hlt : k < n6
    · have hcut := Lib.hid (fopen_cut t wa (by have := La.out; omega) k (by rw [l6]; exact hlt))
      have bxr := bx12.step hbr
      have r6 := (ow6.below hbr).rd
      go_wp2
      have gr : ∀ q : Step wr.heap.size wr.drew, q.w.cell? ⟨w.heap.size, 0, none⟩ = some (.int .u32 m0) := fun q => (bxr.drew.step q.h).cell 0
      have qr := RdC.of_reach (B' := wr.heap.size) (r6.step (bdrew1 wr)) (Nat.le_refl _)
      refine wp_region_tree (.float 0 6 (.one 6 (.float 7 7 .done))) (Th.Reach wr.heap.size) (Th.Reach.trans _) (Th.Reach.refl _) (by kernel_rfl) (by kernel_rfl) (fun KT hKT => ?_)
      refine wpTree_float (fun KF hKF => ?_)
      simp only [List.drop, List.take]
      repeat (first | ((with_reducible refine onq_sl (.tmp 89) ?_); refine wq_cut_h rfl _ (.tmp 89) el_u8 rfl qr (Th.Reach.refl _ _) _ rfl rfl k (by omega) ?_; intro A91 r91) | go_big_quiet_step (fail) | quiet_step (fail))
      refine wpQuiet_nil ?_
      refine hKF _ ?_
      clear hKF KF
      refine wpTree_one (fun KO hKO => ?_)
      simp only [List.drop, List.take]
      go_wp2_with (first | (go_at_call 42; refine (open_is t _ Hti.out _ _ _ wr.drew (by omega) _ (r91.rd wr.drew (Th.Reach.refl _ _)) _ _ _ hcut.out).mono ?_; rintro e w15 ⟨A15, n15, c15, A16, n16, c16, rfl, how15, how16, hb15⟩; have hb15 : Below wr.heap.size wr.drew w15 := hb15))
      refine anch_end (Th.Reach.of (by first | exact Below.refl _ _ | exact below_alloc _ (by first | omega | (simp; done) | (simp; omega)) _ | exact below_alloc2 _ (by first | omega | (simp; done) | (simp; omega)) _ _ | exact below_alloc2d _ (by simp) _ _ | exact bdrew _ _ | assumption | (exact Below.mono (by assumption) (by first | (simp; done) | (simp; omega) | omega | assumption)))) (hKO _ _ ?_)
      clear hKO KO
      refine wpTree_float (fun KF hKF => ?_)
      simp only [List.drop, List.take]
      repeat (first | ((with_reducible refine onq_sl (.tmp 89) ?_); refine wq_cut_h rfl _ (.tmp 89) el_u8 rfl qr (Th.Reach.refl _ _) _ rfl rfl k (by omega) ?_; intro A91 r91) | go_big_quiet_step (fail) | quiet_step (fail))
      refine wpQuiet_nil ?_
      refine hKF _ ?_
      clear hKF KF
      refine wpTree_done ?_
      refine hKT _ _ ?_
      clear hKT KT
      go_wp2
      go_roundw
      case rel => exact ⟨k + 1, by omega, by go_num, hbr.trans (((bdrew1 wr).trans hb15).mono zr)⟩
      case measure => simp [intOf]; omega
    · have p4 := (ow4.below hbr).rd.reach
      have p10 := (ow10.below hbr).rd.reach
      have p11 := (ow11.below hbr).rd.reach
      have Br : Below w1.heap.size w1 wr := B12.trans (hbr.mono z12)
      have pa := (r1.step Br).reach
      have pb := (r1'.step Br).reach
      have bxr := bx12.step hbr
      have g0 : ∀ q : Step wr.heap.size wr, q.w.cell? ⟨w.heap.size, 0, none⟩ = some (.int .u32 m0) := fun q => (bxr.step q.h).cell 0
      have g1 : ∀ q : Step wr.heap.size wr, q.w.cell? ⟨w.heap.size, 1, none⟩ = some (.int .u32 m1) := fun q => (bxr.step q.h).cell 1
      have Hfew' : Hid (∀ q : Step wr.heap.size wr, Calls Try.prog 41 #[.slice A' n' c'] q.w (fun e w' => e = .returned (.slice (fewA A' n' c') N' c') ∧ q.w = w')) := Lib.hid (fun q => few4 _ _ _ N' HN'.out q.w hm' _ _ ((hr1'.step Br).step q.h))
      have hbz := hb.trans (Br.mono zb)
      have zz := hbz.size
      clear ow4 ow6 ow10 ow11 bx12 bxr B5 B6 B10 B12 r1 r1' hr1 hr1'
      go_wp2
      rcases Hways.out with ⟨h1, h2, rfl⟩ | ⟨h1, h2, rfl⟩
      all_goals
        refine wp_region_reach (by kernel_rfl) (by kernel_rfl) ?_
        simp only [List.append]
        repeat (first | ((with_reducible refine onq_cv (.tmp 112) ?_); refine wq_strS rfl _ _ (.tmp 112) rfl el_u8 Try.underlying5 Try.underlying9 rfl p4 ?_) | ((with_reducible refine onq_cv (.tmp 114) ?_); refine wq_strS rfl _ _ (.tmp 114) rfl el_u8 Try.underlying5 Try.underlying9 rfl pa ?_) | ((with_reducible refine onq_cv (.tmp 148) ?_); refine wq_strS rfl _ _ (.tmp 148) rfl el_u8 Try.underlying5 Try.underlying9 rfl p10 ?_) | ((with_reducible refine onq_cv (.tmp 150) ?_); refine wq_strS rfl _ _ (.tmp 150) rfl el_u8 Try.underlying5 Try.underlying9 rfl pa ?_) | ((with_reducible refine onq_cv (.tmp 155) ?_); refine wq_strS rfl _ _ (.tmp 155) rfl el_u8 Try.underlying5 Try.underlying9 rfl p11 ?_) | ((with_reducible refine onq_cv (.tmp 158) ?_); refine wq_strS rfl _ _ (.tmp 158) rfl el_u8 Try.underlying5 Try.underlying9 rfl pb ?_) | go_big_quiet_step (exact Calls.reach_same (Hfew'.out _)) | quiet_step (exact Calls.reach_same (Hfew'.out _)))
        refine wpQuiet_nil ?_
        rintro _ ⟨q, rfl⟩
        have hqw20 := q.h
        obtain ⟨w20, hw20'⟩ : ∃ W, q.w = W := ⟨_, rfl⟩
        rw [hw20'] at hqw20 ⊢
        clear hw20' q
        go_wp2
        go_ret
        exact ⟨rfl, hbz.trans (hqw20.mono zz)⟩
theorem frameBack_walk (A : Option Addr) (n c : Nat) (bs : List UInt8) {w : World} (hr : RdS bv w w.heap.size A n c bs) (hm : n ≤ 9223372036854775807) (A' : Option Addr) (n' c' : Nat) (bs' : List UInt8) (hr' : RdS bv w w.heap.size A' n' c' bs') (hm' : n' ≤ 9223372036854775807)
    (ks : List Int) (hl : ks.length = 2) (hk : ∀ z ∈ ks, 0 ≤ z ∧ z ≤ 4294967295) :
    Calls Try.prog 19 #[.slice A n c, .slice A' n' c', .agg (ks.map (Value.int .u32)).toArray] w fun e w' => e = .returned (.bool true) ∧ Below w.heap.size w w' := by
  match ks, hl, hk with
  | [k0, k1], _, hk =>
    have h0 := hk k0 (by simp)
    have h1 := hk k1 (by simp)
    obtain ⟨m0, rfl⟩ := Int.eq_ofNat_of_zero_le h0.1
    obtain ⟨m1, rfl⟩ := Int.eq_ofNat_of_zero_le h1.1
    exact frameBack_core A n c bs A' n' c' bs' hr hr' hm hm' m0 m1 (by omega) (by omega)
end Go.Proofs.Ytgiefjbdkkdaiaa
