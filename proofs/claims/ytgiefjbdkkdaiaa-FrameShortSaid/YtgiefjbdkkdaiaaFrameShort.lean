/-
  theseuslaw04.FrameShort: the walk.
-/
import Derived.Test.YtgiefjbdkkdaiaaFramePut
import Derived.Test.YtgiefjbdkkdaiaaFrameLaw
namespace Go.Proofs.Ytgiefjbdkkdaiaa
open Go.RowKit Go.Th
set_option linter.unusedVariables false
theorem ftake_is (m : Nat) (hm : m < 4294967296) (M : Int) (hM : (m : Int) = M) (A : Option Addr) (n c : Nat) (w : World) (hn : n ≤ 1000000) (bs : List UInt8) (hr : RdS bv w w.heap.size A n c bs) (x : List UInt8) (er : Int) (h : ftake m bs = (x, er)) :
    Calls Try.prog 44 #[.int .u32 M, .slice A n c] w fun e w' => ∃ A' n' c', e = .returned (.tuple #[.slice A' n' c', .int .i64 er]) ∧ OwS bv w' w.heap.size 5 A' n' c' x ∧ Below w.heap.size w w' := by
  have := ftake_any m hm M hM A n c w hn bs hr
  rw [h] at this
  exact this
theorem open_lit (t : UInt8) (cs : Array Value) (n : Nat) (xs : List UInt8) (hn : xs.length = n) (hm : n ≤ 1000) (hs : cs.toList = xs.map bv) (er : Int) (h : fopen t xs = ([], [], er)) (w : World) :
    Calls Try.prog 42 #[.int .u8 (t.toNat : Int), .slice (some ⟨w.heap.size, 0, none⟩) n n] (w.alloc (.cells cs 5)) fun e w' => ∃ A1 n1 c1 A2 n2 c2, e = .returned (.tuple #[.slice A1 n1 c1, .slice A2 n2 c2, .int .i64 er]) ∧ Below w.heap.size w w' := by
  have how2 := OwS.lit (base := w.heap.size) (e := 5) (f := bv) (xs := xs) w cs n (Nat.le_refl _) (by simp [maxLen]; omega) hn hs
  have hz : w.heap.size ≤ (w.alloc (.cells cs 5)).heap.size := by simp
  refine (open_is t _ rfl _ n n _ (by omega) _ how2.rd _ _ _ h).mono ?_
  rintro e w' ⟨A1, n1, c1, A2, n2, c2, rfl, _, _, hb⟩
  exact ⟨A1, n1, c1, A2, n2, c2, rfl, (below_alloc w (Nat.le_refl _) _).trans (hb.mono hz)⟩
set_option maxRecDepth 100000 in
set_option maxHeartbeats 4000000 in
theorem frameShort_walk (A : Option Addr) (n c : Nat) (bs : List UInt8) {w : World} (hr : RdS bv w w.heap.size A n c bs) (hm : n ≤ 9223372036854775807) (mg : Int) (hmg : 0 ≤ mg ∧ mg ≤ 4294967295) (cc : Int) (hcc : 0 ≤ cc ∧ cc ≤ 255) :
    Calls Try.prog 21 #[.slice A n c, .int .u32 mg, .int .u8 cc] w fun e w' => e = .returned (.bool true) ∧ Below w.heap.size w w' := by
  obtain ⟨m, rfl⟩ := Int.eq_ofNat_of_zero_le hmg.1
  have hm2 : m < 4294967296 := by omega
  obtain ⟨t, ht⟩ : ∃ t : UInt8, (t.toNat : Int) = cc := ⟨UInt8.ofNat cc.toNat, by rw [UInt8.toNat_ofNat']; omega⟩
  subst ht
  have ht8 := t.toNat_lt
  obtain ⟨k, hk, hk2⟩ : ∃ k, (m + 1) % 4294967296 = k ∧ k < 4294967296 := ⟨_, rfl, by omega⟩
  have hkm : m ≠ k := by omega
  have hki : ((m : Int) + 1) % 4294967296 = (k : Int) := by omega
  obtain ⟨N, hN, hN1⟩ : ∃ N, min n 150 = N ∧ N ≤ 150 := ⟨_, rfl, by omega⟩
  obtain ⟨wa, hwa⟩ : ∃ x, bs.take 150 = x := ⟨_, rfl⟩
  have hla : wa.length = N := by rw [← hwa, List.length_take, hr.len, Nat.min_comm]; exact hN
  have lx : (fput m wa).length = N + 8 := by rw [fput_length, hla]
  have HN := Lib.hid hN
  have Hwa := Lib.hid hwa
  have Lx := Lib.hid lx
  have La := Lib.hid hla
  have Hk := Lib.hid hk
  clear hN hwa hla lx hmg hcc hk
  go_enter Try.func21, Try.ntmps21
  go_wp2_with fail
  refine (shown4 _).mono ?_
  rintro e w1 ⟨rfl, hb1⟩
  have hr1 := hr.step hb1
  have z1 := hb1.size
  have r1 := fewR HN.out hr1
  rw [Hwa.out] at r1
  go_wp2_with fail
  refine (few4 _ _ _ N HN.out _ hm _ _ hr1).mono ?_
  rintro e w2 ⟨rfl, rfl⟩
  go_wp2_with fail
  refine (fput_any m hm2 _ rfl _ _ _ _ (by omega) _ (r1.more z1)).mono ?_
  rintro e w3 ⟨A3, n3, c3, rfl, how3, hb3⟩
  have e3 : n3 = N + 8 := how3.len.symm.trans Lx.out
  subst e3
  have hr3 := hr1.step hb3
  have B3 := hb1.trans (hb3.mono z1)
  have z3 := B3.size
  go_wp2_with fail
  refine (few4 _ _ _ N HN.out _ hm _ _ hr3).mono ?_
  rintro e w4 ⟨rfl, rfl⟩
  go_wp2_with fail
  clear hr1 r1 hb1 hb3 hr
  go_loopw [9, 10, 11, 12, 13] (fun i _ _ _ _ wr => ∃ k : Nat, k ≤ 8 ∧ i = .int .i64 k ∧ OwS bv wr w1.heap.size 5 A3 (N + 8) c3 (fput m wa) ∧ Below w.heap.size w wr) (fun i _ _ _ _ _ => 8 - (intOf i).toNat)
  case atStart => exact ⟨0, by omega, rfl, how3, B3⟩
  case round =>
    obtain ⟨j, hj, rfl, how, hb⟩ := hrel
    clear how3 B3 hr3
    have zb := hb.size
    by_cases hlt : j < 8
    · have hs1 : ftake m ((fput m wa).take j) = ([], 2) := ftake_short (by rw [List.length_take]; omega)
      have hs2 : ftake k ((fput m wa).take j) = ([], 2) := ftake_short (by rw [List.length_take]; omega)
      have Hs1 := Lib.hid hs1
      have Hs2 := Lib.hid hs2
      clear hs1 hs2
      go_wp2_with ((with_reducible refine on_slice (.tmp 55) ?_); refine wl_cut_h rfl _ (.tmp 55) el_u8 rfl how.rd _ rfl rfl j (by omega) ?_; intro A57 r57)
      refine (ftake_is m hm2 _ rfl _ _ _ _ (by omega) _ r57 _ _ Hs1.out).mono ?_
      rintro e w5 ⟨A5, n5, c5, rfl, how5, hb5⟩
      have ho5 := how.below hb5
      have B5 := hb.trans (hb5.mono zb)
      have z5 := B5.size
      clear how5
      go_wp2_with ((with_reducible refine on_slice (.tmp 64) ?_); refine wl_cut_h rfl _ (.tmp 64) el_u8 rfl ho5.rd _ rfl rfl j (by omega) ?_; intro A66 r66)
      refine (ftake_is k hk2 _ (by first | exact hki.symm | omega) _ _ _ _ (by omega) _ r66 _ _ Hs2.out).mono ?_
      rintro e w6 ⟨A6, n6, c6, rfl, how6, hb6⟩
      have ho6 := ho5.below hb6
      have B6 := B5.trans (hb6.mono z5)
      clear how6
      go_wp2
      go_roundw
      case rel => exact ⟨j + 1, by omega, by go_num, ho6, B6⟩
      case measure => simp [intOf]; omega
    · obtain ⟨x, hx⟩ : ∃ x, (fput m wa)[N + 7]? = some x := ⟨(fput m wa)[N + 7]'(by rw [Lx.out]; omega), List.getElem?_eq_getElem _⟩
      obtain ⟨d, hd⟩ : ∃ d, 1 ||| t = d := ⟨_, rfl⟩
      obtain ⟨v, hv⟩ : ∃ v, x ^^^ d = v := ⟨_, rfl⟩
      have hx8 := x.toNat_lt
      have hd8 := d.toNat_lt
      have hor : bits .or .u8 1 (t.toNat : Int) = (d.toNat : Int) := by
        rw [← hd, UInt8.toNat_or]; exact u8_or_nat 1 t.toNat (by omega) (by omega)
      have hxo : bits .xor .u8 (x.toNat : Int) (d.toNat : Int) = (v.toNat : Int) := by
        rw [← hv, UInt8.toNat_xor]; exact u8_xor_nat x.toNat d.toNat (by omega) (by omega)
      have hvx : v ≠ x := by rw [← hv]; exact xor_ne (by rw [← hd]; exact or_one_ne t)
      have eN : N + 7 = wa.length + 7 := by rw [La.out]
      have o1 := ftake_spoilt m wa x v (by rw [← eN]; exact hx) hvx
      have o2 := ftake_spoilt_other hm2 hk2 hkm wa v
      rw [← eN] at o1 o2
      have O1 := Lib.hid o1
      have O2 := Lib.hid o2
      have Hx := Lib.hid hx
      obtain ⟨g3, rfl, hg3⟩ := how.at0 (by omega)
      clear hx hd hv hvx eN o1 o2
      go_wp2_with (first
        | ((with_reducible refine on_index (.tmp 80) ?_); refine wl_at_b rfl _ _ _ rfl el_u8 rfl rfl (by omega) (by omega) how.rd ?_; intro p x' hx' hx5 hc; have hxx : x' = x := (Option.some.inj ((show (fput m wa)[N + 7]? = some x' from (by have := hx'.out; rwa [show ((N : Int) + 8 - 1).toNat = N + 7 by omega] at this)).symm.trans Hx.out)); subst hxx)
        | ((with_reducible refine on_index (.tmp 76) ?_); refine wl_placeS rfl _ (.tmp 76) _ rfl el_u8 rfl rfl (N + 7) (by omega) ?_)
        | ((with_reducible refine on_stx (.tmp 89) ?_); refine wl_setS rfl _ (.tmp 89) _ rfl size_u8 (f := bv) (g := g3) (j := N + 7) rfl rfl v rfl how (by omega) ?_; intro w5 how5 hg5 hb5))
      have B5 := hb.trans (hb5.mono z1)
      have z5 := B5.size
      refine (ftake_is m hm2 _ rfl _ _ _ w5 (by omega) _ how5.rd _ _ O1.out).mono ?_
      rintro e w6 ⟨A6, n6, c6, rfl, how6, hb6⟩
      have ho6 := how5.below hb6
      have B6 := B5.trans (hb6.mono z5)
      have z6 := B6.size
      clear how6 how5 how
      go_wp2_with fail
      refine (ftake_is k hk2 _ (by first | exact hki.symm | omega) _ _ _ w6 (by omega) _ ho6.rd _ _ O2.out).mono ?_
      rintro e w7 ⟨A7, n7, c7, rfl, how7, hb7⟩
      have B7 := B6.trans (hb7.mono z6)
      have z7 := B7.size
      clear how7 ho6
      go_wp2_with fail
      refine (open_is t _ rfl none 0 0 w7 (by omega) [] (RdS.nil _ _) [] [] 2 rfl).mono ?_
      rintro e w8 ⟨A8, n8, c8, A9, n9, c9, rfl, how8, how9, hb8⟩
      have B8 := B7.trans (hb8.mono z7)
      have z8 := B8.size
      clear how8 how9
      have ht1 : ((t + 1).toNat : Int) = ((t.toNat : Int) + 1) % 256 := by
        have e1 : (1 : UInt8).toNat = 1 := rfl
        rw [UInt8.toNat_add, e1]; omega
      go_wp2_with fail
      refine (open_lit t _ 2 [t + 1, 128] rfl (by omega) (by simp only [List.map_cons, List.map_nil, bv, ht1]; rfl) 3 (fopen_tag (next_ne t) _) w8).mono ?_
      rintro e w9 ⟨A10, n10, c10, A11, n11, c11, rfl, hb9⟩
      have B9 := B8.trans (hb9.mono z8)
      have z9 := B9.size
      go_wp2_with fail
      refine (open_lit t _ 3 [t, 128, 0] rfl (by omega) rfl 3 (fopen_form t _) w9).mono ?_
      rintro e w10 ⟨A12, n12, c12, A13, n13, c13, rfl, hb10⟩
      have B10 := B9.trans (hb10.mono z9)
      have z10 := B10.size
      go_wp2_with fail
      refine (open_lit t _ 3 [t, 2, 0] rfl (by omega) rfl 2 (fopen_two t) w10).mono ?_
      rintro e w11 ⟨A14, n14, c14, A15, n15, c15, rfl, hb11⟩
      have B11 := B10.trans (hb11.mono z10)
      have z11 := B11.size
      go_wp2_with fail
      refine (open_lit t _ 1 [t] rfl (by omega) rfl 2 (fopen_one t) w11).mono ?_
      rintro e w12 ⟨A16, n16, c16, A17, n17, c17, rfl, hb12⟩
      go_wp2_with fail
      go_ret
      exact ⟨rfl, B11.trans (hb12.mono z11)⟩
end Go.Proofs.Ytgiefjbdkkdaiaa
