/-
  theseuslaw01.NumRows: the walk.
-/
import Derived.Test.YtgiefjbdkkdaiaaNumSpec
import Derived.Test.YtgiefjbdkkdaiaaRegion
namespace Go.Proofs.Ytgiefjbdkkdaiaa
open Go.RowKit Go.Th

/-- A number's lowest 8 s bits. -/
def low (s : Nat) (z : Int) : Int := bits .and .i64 z (wrap64 (wrap64 (2 ^ (8 * s)) - 1))
theorem low_fits (s : Nat) (h1 : 1 ≤ s) (h2 : s ≤ 4) (z : Int) : Fits s (low s z) := by
  have e : wrap64 (wrap64 (2 ^ (8 * s)) - 1) = ((2 ^ (8 * s) - 1 : Nat) : Int) := by
    have : s = 1 ∨ s = 2 ∨ s = 3 ∨ s = 4 := by omega
    rcases this with rfl | rfl | rfl | rfl <;> simp [wrap64]
  have hb : 2 ^ (8 * s) - 1 < 4294967296 ∧ 2 ^ (8 * s) - 1 < 256 ^ s := by
    have : s = 1 ∨ s = 2 ∨ s = 3 ∨ s = 4 := by omega
    rcases this with rfl | rfl | rfl | rfl <;> simp
  obtain ⟨hb1, hb2⟩ := hb
  unfold low
  rw [e]
  have h3 : bits .and .i64 z ((2 ^ (8 * s) - 1 : Nat) : Int) = (((BitVec.ofInt 64 z).toNat &&& (2 ^ (8 * s) - 1) : Nat) : Int) := by
    have hx : (BitVec.ofInt 64 z).toNat &&& (2 ^ (8 * s) - 1) ≤ 2 ^ (8 * s) - 1 := Nat.and_le_right
    show IntKind.i64.wrap ((BitVec.ofInt 64 z &&& BitVec.ofInt 64 ((2 ^ (8 * s) - 1 : Nat) : Int)).toNat : Int) = _
    rw [BitVec.toNat_and, ofInt_nat (2 ^ (8 * s) - 1) (by omega), IntKind.wrap_i64]
    omega
  have hx : (BitVec.ofInt 64 z).toNat &&& (2 ^ (8 * s) - 1) ≤ 2 ^ (8 * s) - 1 := Nat.and_le_right
  rw [h3]
  exact ⟨by omega, by rw [Int.toNat_natCast]; omega⟩
theorem rowB_drop (s : Nat) : ∀ (zs : List Int) (q : Nat), (rowB s zs).drop (q * s) = rowB s (zs.drop q)
  | zs, 0 => by simp
  | [], q + 1 => by simp [rowB]
  | z :: zs, q + 1 => by
    have e : rowB s (z :: zs) = be z.toNat s ++ rowB s zs := rfl
    rw [e, List.drop_append, be_length, List.drop_eq_nil_of_le (by rw [be_length, Nat.succ_mul]; omega), List.nil_append, Nat.succ_mul, Nat.add_sub_cancel, rowB_drop s zs q]
    rfl
theorem rowB_at (s : Nat) (zs : List Int) (q : Nat) (x : Int) (hx : zs[q]? = some x) (hf : Fits s x) : ((val (((rowB s zs).drop (q * s)).take s) : Nat) : Int) = x := by
  obtain ⟨hl, rfl⟩ := List.getElem?_eq_some_iff.1 hx
  rw [rowB_drop, List.drop_eq_getElem_cons hl]
  have e : rowB s (zs[q] :: zs.drop (q + 1)) = be zs[q].toNat s ++ rowB s (zs.drop (q + 1)) := rfl
  rw [e, List.take_append_of_le_length (by rw [be_length]; omega), List.take_of_length_le (by rw [be_length]; omega), val_be s _ hf.2]
  have := hf.1
  omega
theorem low_lt (s : Nat) (h1 : 1 ≤ s) (h2 : s ≤ 4) (z : Int) : 0 ≤ low s z ∧ low s z < 4294967296 := by
  have h := low_fits s h1 h2 z
  have : s = 1 ∨ s = 2 ∨ s = 3 ∨ s = 4 := by omega
  obtain ⟨h3, h4⟩ := h
  rcases this with rfl | rfl | rfl | rfl <;> simp at h4 <;> omega
theorem rows_step {s k : Nat} {zs : List Int} {x : Int} (h : zs[((k : Nat) : Int).toNat]? = some x) : (zs.take k).map (low s) ++ [low s x] = (zs.take (k + 1)).map (low s) := by
  rw [Int.toNat_natCast] at h
  rw [List.take_add_one, h, List.map_append]
  rfl
/-- The first loop: the numbers made such as fit. -/
def RowsRel (B s m : Nat) (w : World) (ys : List Int) (l i : Value) (wr : World) : Prop :=
  ∃ (k c : Nat) (A : Option Addr), k ≤ m ∧ l = .slice A k c ∧ i = .int .i64 k ∧ OwS iv wr B 3 A k c ((ys.take k).map (low s)) ∧ Below B w wr

set_option maxRecDepth 100000 in
set_option maxHeartbeats 1000000 in
theorem numRows_core (A : Option Addr) (n c : Nat) (zs : List Int) {w : World} (hr : RdS (Value.int .i64) w w.heap.size A n c zs) (hm : n ≤ 9223372036854775807) 
    (k0 k1 : Int) (hk0 : 0 ≤ k0 ∧ k0 ≤ 255) (hk1 : 0 ≤ k1 ∧ k1 ≤ 255) (odd : Int) (ho : 0 ≤ odd ∧ odd ≤ 4294967295) :
    Calls Try.prog 8 #[.slice A n c, .agg #[.int .u8 k0, .int .u8 k1], .int .u32 odd] w fun e w' => e = .returned (.bool true) ∧ Below w.heap.size w w' := by
  obtain ⟨hk00, hk01⟩ := hk0
  obtain ⟨hk10, hk11⟩ := hk1
  obtain ⟨ho0, ho1⟩ := ho
  obtain ⟨s, hs, h1, h2⟩ : ∃ s : Nat, 1 + k0 % 4 = (s : Int) ∧ 1 ≤ s ∧ s ≤ 4 := ⟨(1 + k0 % 4).toNat, by omega, by omega, by omega⟩
  go_enter Try.func8, Try.ntmps8
  go_wp2_with (first
    | (go_at_call 23; refine (shown1 _).mono ?_; rintro e w1 ⟨rfl, hb1⟩; have hq0 : w1.cell? ⟨w.heap.size, 0, none⟩ = some (.int .u8 k0) := (hb1.cell (by simp)).trans (World.cell?_alloc_at _ _ _ _ rfl); have hq1 : w1.cell? ⟨w.heap.size, 1, none⟩ = some (.int .u8 k1) := (hb1.cell (by simp)).trans (World.cell?_alloc_at _ _ _ _ rfl)))
  have hr1 : RdS (Value.int .i64) w1 w.heap.size A n c zs := (hr.step (below_alloc w (Nat.le_refl _) _)).step hb1
  go_loopw [9, 10] (fun l i wr => RowsRel w1.heap.size s (min n 20) w1 zs l i wr) (fun _ i _ => 20 - (intOf i).toNat)
  case atStart => exact ⟨0, 0, _, by omega, rfl, rfl, OwS.lit _ _ _ (Nat.le_refl _) (by simp [maxLen]) rfl rfl, below_alloc _ (Nat.le_refl _) _⟩
  case round =>
    obtain ⟨k, c1, A1, hk, rfl, rfl, how, hb⟩ := hrel
    have hrk := hr1.step hb
    by_cases hlt : k < min n 20
    · go_wp2_with (first
        | (go_at_call 27; refine (short1 _ _ _ _ hm _ _ hrk).mono ?_; rintro e w7 ⟨A7, c7, m, ys, rfl, hys, hm7, hr7, rfl⟩; have hmn : m = min n 20 := (by have := congrArg List.length hys.out; rw [hr7.len, List.length_take, hrk.len] at this; omega)))
      have q0 := RdC.of_reach (B' := w1.heap.size) (hrk.step (bdrew1 _)) (by have := hb1.size; simp at this; omega)
      refine wp_region_tree (.float 0 10 (.one 10 (.one 11 (.float 12 1 .done)))) (Th.Reach w1.heap.size) (Th.Reach.trans _) (Th.Reach.refl _) (by kernel_rfl) (by kernel_rfl) (fun KT hKT => ?_)
      refine wpTree_float (fun KF hKF => ?_)
      simp only [List.drop, List.take]
      repeat (first | (refine wt_at_i rfl _ _ _ rfl el_int rfl rfl (by omega) (by omega) q0 ?_; intro p x hx hc) | go_big_quiet_step (fail) | quiet_step (fail))
      refine wpQuiet_nil ?_
      refine hKF _ ?_
      clear hKF KF
      have hwr := hb.size
      refine wpTree_one (fun KO hKO => ?_)
      simp only [List.drop, List.take]
      go_wp2
      refine anch_end (Th.Reach.of ((below_alloc wr.drew hwr _))) (hKO _ _ ?_)
      clear hKO KO
      refine wpTree_one (fun KO hKO => ?_)
      simp only [List.drop, List.take]
      go_wp2_with (first
        | (refine wl_appendS rfl (.tmp 34) (.tmp 44) _ rfl el_int (f := iv) (fun _ => rfl) rfl (OwS.drewN (how.alloc _) 1) rfl (OwS.rd (OwS.lit (base := w1.heap.size) (e := 3) (xs := [low s x]) wr.drew #[iv (low s x)] 1 hwr (by simp [maxLen]) rfl rfl)) (by omega) (by omega) (by simp; omega) ?_; intro A4 c4 w4 how4 _ hb4))
      refine anch_end (Th.Reach.of (hb4)) (hKO _ _ ?_)
      clear hKO KO
      refine wpTree_float (fun KF hKF => ?_)
      simp only [List.drop, List.take]
      repeat (first | go_big_quiet_step (fail) | quiet_step (fail))
      refine wpQuiet_nil ?_
      refine hKF _ ?_
      clear hKF KF
      refine wpTree_done ?_
      refine hKT _ _ ?_
      clear hKT KT
      go_wp2
      go_roundw
      case rel => exact ⟨k + 1, c4, A4, by omega, rfl, by go_num, (by rw [rows_step hx.out] at how4; exact how4), ((hb.trans (bdrew1 _)).trans (below_alloc wr.drew hwr _)).trans hb4⟩
      case measure => simp [intOf]; omega
    · obtain ⟨ws, hws⟩ : ∃ ws, ws = (zs.take k).map (low s) := ⟨_, rfl⟩
      rw [← hws] at how
      have hwl : ws.length = k := how.len
      have hfit : Hid (∀ z ∈ ws, Fits s z) := by
        intro z hz'
        rw [hws] at hz'
        obtain ⟨y, _, rfl⟩ := List.mem_map.1 hz'
        exact low_fits s h1 h2 y
      clear hws
      obtain ⟨M, hMd⟩ : ∃ M, M = ws.length * s := ⟨_, rfl⟩
      have hM1 : (s : Int) * (k : Int) = M := by rw [hMd, hwl, Int.natCast_mul]; exact Int.mul_comm _ _
      have hM2 : M ≤ 80 := by rw [hMd, hwl]; have := Nat.mul_le_mul (show k ≤ 20 by omega) h2; omega
      obtain ⟨j, hj, hjk⟩ : ∃ j : Nat, k1 % ((k : Int) + 1) = j ∧ j ≤ k := by
        have e1 := Int.emod_nonneg k1 (b := (k : Int) + 1) (by omega)
        have e2 := Int.emod_lt_of_pos k1 (b := (k : Int) + 1) (by omega)
        exact ⟨(k1 % ((k : Int) + 1)).toNat, by omega, by omega⟩
      obtain ⟨Pw, hP, hP1, hP2⟩ : ∃ Pw : Int, wrap64 (2 ^ (8 * s)) = Pw ∧ 256 ≤ Pw ∧ Pw ≤ 4294967296 := by
        refine ⟨_, rfl, ?_⟩
        have : s = 1 ∨ s = 2 ∨ s = 3 ∨ s = 4 := by omega
        rcases this with rfl | rfl | rfl | rfl <;> simp [wrap64]
      have hqr : wr.cell? ⟨w.heap.size, 1, none⟩ = some (.int .u8 k1) := (hb.cell (by have := hb1.size; simp at this; show w.heap.size < _; omega)).trans hq1
      have HMd := Lib.hid hMd
      have Hwl := Lib.hid hwl
      clear hMd hwl
      go_wp2_with (first
        | (go_at_call 27; refine (short1 _ _ _ _ hm _ _ hrk).mono ?_; rintro e w7 ⟨A7, c7, m, ys, rfl, hys, hm7, hr7, rfl⟩; have hmn : m = min n 20 := (by have := congrArg List.length hys.out; rw [hr7.len, List.length_take, hrk.len] at this; omega))
        | (go_at_call 29; (with_reducible refine (row_any s _ _ _ _ h1 h2 (by omega) _ _ (Nat.le_refl _) how.rd).mono ?_); rintro e w6 hh; have hh' := hh.1 hfit.out; rw [← HMd.out] at hh'; obtain ⟨A6, c6, rfl, how6, hb6⟩ := hh'; have hq6 : w6.cell? ⟨w.heap.size, 1, none⟩ = some (.int .u8 k1) := (hb6.cell (World.block_lt_of_cell? _ _ hqr)).trans hqr))
      have hs6 := hb6.size
      have how6w := how.below hb6
      have q6 := RdC.of_reach (B' := w6.heap.size) (how6w.rd.step (bdrew1 _)) (Nat.le_refl _)
      refine wp_region_tree (.float 1 3 (.float 5 6 (.two 0 (.two 4 (.one 11 (.one 12 (.float 13 1 .done))) 11 (.one 4 (.one 12 (.float 13 1 .done)))) 11 (.one 0 (.one 4 (.one 12 (.float 13 1 .done))))))) (Th.Reach w6.heap.size) (Th.Reach.trans _) (Th.Reach.refl _) (by kernel_rfl) (by kernel_rfl) (fun KT hKT => ?_)
      refine wpTree_float (fun KF hKF => ?_)
      simp only [List.drop, List.take]
      repeat (first | (refine wq_cut_h rfl _ _ el_int rfl q6 (Th.Reach.refl _ _) _ rfl rfl j (by omega) ?_; intro A62 q62) | go_big_quiet_step (fail) | quiet_step (fail))
      refine wpQuiet_nil ?_
      refine hKF _ ?_
      clear hKF KF
      refine wpTree_float (fun KF hKF => ?_)
      simp only [List.drop, List.take]
      repeat (first | go_big_quiet_step (fail) | quiet_step (fail))
      refine wpQuiet_nil ?_
      refine hKF _ ?_
      clear hKF KF
      have r62 := q62.rd w6.drew (Th.Reach.refl _ _)
      have Z1 : Below w6.heap.size w6.drew (w6.drew.alloc (.cells #[] 3)) := below_alloc w6.drew (Nat.le_refl _) _
      have Z2 : Below w6.heap.size w6.drew (w6.drew.alloc (.cells #[iv (Pw + odd)] 3)) := below_alloc w6.drew (Nat.le_refl _) _
      refine wpTree_two ?_ ?_
      · refine wpTree_one (fun KO hKO => ?_)
        simp only [List.drop, List.take]
        go_wp2
        refine anch_end (Th.Reach.of (Z1)) (hKO _ _ ?_)
        clear hKO KO
        refine wpTree_two ?_ ?_
        · refine wpTree_one (fun KO hKO => ?_)
          simp only [List.drop, List.take]
          go_wp2_with (first
            | (refine wl_appendS rfl (.tmp 59) (.tmp 62) _ rfl el_int (f := iv) (fun _ => rfl) rfl (OwS.lit (base := w6.heap.size) (e := 3) (xs := []) w6.drew #[] 0 (Nat.le_refl _) (by simp [maxLen]) rfl rfl) rfl (r62.below Z1) (by omega) (by omega) (by simp) ?_; intro A63 c63 w63 o63 _ hb63; rw [Nat.zero_add, List.nil_append] at o63))
          refine anch_end (Th.Reach.of (hb63)) (hKO _ _ ?_)
          clear hKO KO
          have hs63 := hb63.size
          have hz63 : w6.heap.size ≤ w63.heap.size := by simp at hs63; omega
          have Z3 : Below w6.heap.size w63 (w63.alloc (.cells #[iv (Pw + odd)] 3)) := below_alloc w63 hz63 _
          have hz64 := Nat.le_trans hz63 Z3.size
          refine wpTree_one (fun KO hKO => ?_)
          simp only [List.drop, List.take]
          go_wp2
          refine anch_end (Th.Reach.of (Z3)) (hKO _ _ ?_)
          clear hKO KO
          refine wpTree_one (fun KO hKO => ?_)
          simp only [List.drop, List.take]
          go_wp2_with (first
            | (refine wl_appendS rfl (.tmp 63) (.tmp 70) _ rfl el_int (f := iv) (fun _ => rfl) rfl (o63.alloc _) rfl (OwS.rd (OwS.lit (base := w6.heap.size) (e := 3) (xs := [Pw + odd]) w63 #[iv (Pw + odd)] 1 hz63 (by simp [maxLen]) rfl rfl)) (by omega) (by omega) hz64 ?_; intro A5 c5 w5 how5 _ hb5))
          refine anch_end (Th.Reach.of (hb5)) (hKO _ _ ?_)
          clear hKO KO
          refine wpTree_float (fun KF hKF => ?_)
          simp only [List.drop, List.take]
          repeat (first | go_big_quiet_step (fail) | quiet_step (fail))
          refine wpQuiet_nil ?_
          refine hKF _ ?_
          clear hKF KF
          refine wpTree_done ?_
          refine hKT _ _ ?_
          clear hKT KT
          have H5 : Below w6.heap.size w6 w5 := ((((bdrew1 w6).trans Z1).trans hb63).trans Z3).trans hb5
          clear q6 q62 r62 Z1 Z2 hb63 hs63 Z3 o63 hb5 hz63 hz64
          have h5 := H5.size
          have v5 := how6w.below H5
          go_wp2_with (first
            | (refine wl_cut_l rfl _ _ el_int rfl v5.rd _ rfl rfl j (by omega) ?_; intro A75 r75)
            | (refine wl_appendS rfl (.tmp 72) (.tmp 75) _ rfl el_int (f := iv) (fun _ => rfl) rfl how5 rfl r75 (by omega) (by omega) h5 ?_; intro A76 c76 w76 how76 _ hb76; have h76 := Nat.le_trans h5 hb76.size)
            | (refine wl_appendS rfl (.tmp 76) (.tmp 77) _ rfl el_int (f := iv) (fun _ => rfl) rfl (how76.alloc _) rfl (OwS.rd (OwS.lit (base := w6.heap.size) (e := 3) (xs := [-1]) w76 #[iv (-1)] 1 h76 (by simp [maxLen]) rfl rfl)) (by omega) (by omega) (Nat.le_trans h76 (below_alloc (B := w6.heap.size) w76 h76 _).size) ?_; intro A78 c78 w78 how78 _ hb78)
            | (go_at_call 29; (with_reducible refine (row_any s _ _ _ _ h1 h2 (by omega) _ _ (Nat.le_refl _) how78.rd).mono ?_); rintro e w79 hh; obtain ⟨rfl, hb79⟩ := hh.2 (by intro hall; have := (hall (-1) (by simp)).1; omega)))
          have H79 : Below w6.heap.size w6 w79 := ((H5.trans hb76).trans ((below_alloc w76 h76 _).trans hb78)).trans (hb79.mono (by have := hb78.size; have := (below_alloc (B := w6.heap.size) w76 h76 (.cells #[.int .i64 (-1)] 3)).size; omega))
          have b79 := (how6.below H79).rd
          have v79 := (how6w.below H79).rd
          have hb01 := hb1.size
          clear hh hb79 hb78 how78 hb76 how76 r75 v5 how5
          go_loop [17] (fun i => ∃ q : Nat, q ≤ k ∧ i = .int .i64 q) (fun i => k - (intOf i).toNat)
          case atStart => exact ⟨0, by omega, rfl⟩
          case round =>
            obtain ⟨q, hq, rfl⟩ := hrel
            by_cases hlt2 : q < k
            · obtain ⟨x0, hx0⟩ : ∃ x0, ws[q]? = some x0 := ⟨ws[q]'(by rw [Hwl.out]; exact hlt2), List.getElem?_eq_getElem _⟩
              have hV := Lib.hid (rowB_at s ws q x0 hx0 (hfit.out x0 (List.mem_of_getElem? hx0)))
              obtain ⟨p, hpd⟩ : ∃ p, p = q * s := ⟨_, rfl⟩
              have hp1 : (s : Int) * (q : Int) = p := by rw [hpd, Int.natCast_mul]; exact Int.mul_comm _ _
              have hp2 : p + s ≤ M := by
                have := Nat.mul_le_mul_right s (show q + 1 ≤ k by omega)
                rw [Nat.succ_mul] at this
                rw [hpd, HMd.out, Hwl.out]
                exact this
              rw [← hpd] at hV
              have Hx0 := Lib.hid hx0
              clear hpd hx0
              go_wp2_with (first
                | (refine wl_cut_l rfl _ _ el_u8 rfl b79 _ rfl rfl p (by omega) ?_; intro A105 r105)
                | (refine wl_at_i rfl _ _ _ rfl el_int rfl rfl (by omega) (by omega) v79 ?_; intro p x hx hc; have hxx : x = x0 := (by have e := hx.out; rw [Int.toNat_natCast, Hx0.out] at e; injection e with e; exact e.symm); subst hxx)
                | (go_at_call 25; refine (take_yes _ _ _ s _ h1 h2 (by omega) (by omega) _ _ r105).mono ?_; rintro e w9 ⟨rfl, rfl⟩; rw [hV.out]))
              go_round
              case rel => exact ⟨q + 1, by omega, by go_num⟩
              case measure => simp [intOf]; omega
            · go_wp2
              go_ret
              exact ⟨rfl, ((((below_alloc w (Nat.le_refl _) _).trans (hb1.mono (by simp))).trans (hb.mono (by simp at hb01; omega))).trans (hb6.mono (by have := hb.size; simp at hb01; omega))).trans (H79.mono (by have := hb.size; simp at hb01; omega))⟩
        · have Z4 : Below w6.heap.size (w6.drew.alloc (.cells #[] 3)) ((w6.drew.alloc (.cells #[] 3)).alloc (.cells #[iv (Pw + odd)] 3)) := below_alloc _ (by simp) _
          refine wpTree_one (fun KO hKO => ?_)
          simp only [List.drop, List.take]
          go_wp2
          refine anch_end (Th.Reach.of (Z4)) (hKO _ _ ?_)
          clear hKO KO
          refine wpTree_one (fun KO hKO => ?_)
          simp only [List.drop, List.take]
          go_wp2_with (first
            | (refine wl_appendS rfl (.tmp 59) (.tmp 62) _ rfl el_int (f := iv) (fun _ => rfl) rfl ((OwS.lit (base := w6.heap.size) (e := 3) (xs := []) w6.drew #[] 0 (Nat.le_refl _) (by simp [maxLen]) rfl rfl).alloc (.cells #[iv (Pw + odd)] 3)) rfl ((r62.below Z1).below Z4) (by omega) (by omega) (by simp; omega) ?_; intro A63 c63 w63 o63 hg63 hb63; rw [Nat.zero_add, List.nil_append] at o63))
          refine anch_end (Th.Reach.of (hb63)) (hKO _ _ ?_)
          clear hKO KO
          have l70 := OwS.grown (OwS.lit' (base := w6.heap.size) (e := 3) (xs := [Pw + odd]) (f := iv) (w6.drew.alloc (.cells #[] 3)) #[iv (Pw + odd)] 1 (w6.heap.size + 1) (by simp) (by simp) (by simp [maxLen]) rfl rfl) hg63 (by intro g hg; simp [rowOf] at hg ⊢; omega)
          have hs63 := hb63.size
          have hz63 : w6.heap.size ≤ w63.heap.size := by simp at hs63; omega
          refine wpTree_one (fun KO hKO => ?_)
          simp only [List.drop, List.take]
          go_wp2_with (first
            | (refine wl_appendS rfl (.tmp 63) (.tmp 70) _ rfl el_int (f := iv) (fun _ => rfl) rfl o63 rfl l70.rd (by omega) (by omega) hz63 ?_; intro A5 c5 w5 how5 _ hb5))
          refine anch_end (Th.Reach.of (hb5)) (hKO _ _ ?_)
          clear hKO KO
          refine wpTree_float (fun KF hKF => ?_)
          simp only [List.drop, List.take]
          repeat (first | go_big_quiet_step (fail) | quiet_step (fail))
          refine wpQuiet_nil ?_
          refine hKF _ ?_
          clear hKF KF
          refine wpTree_done ?_
          refine hKT _ _ ?_
          clear hKT KT
          have H5 : Below w6.heap.size w6 w5 := ((((bdrew1 w6).trans Z1).trans Z4).trans hb63).trans hb5
          clear q6 q62 r62 Z1 Z2 hb63 hs63 Z4 o63 hb5 l70 hg63
          have h5 := H5.size
          have v5 := how6w.below H5
          go_wp2_with (first
            | (refine wl_cut_l rfl _ _ el_int rfl v5.rd _ rfl rfl j (by omega) ?_; intro A75 r75)
            | (refine wl_appendS rfl (.tmp 72) (.tmp 75) _ rfl el_int (f := iv) (fun _ => rfl) rfl how5 rfl r75 (by omega) (by omega) h5 ?_; intro A76 c76 w76 how76 _ hb76; have h76 := Nat.le_trans h5 hb76.size)
            | (refine wl_appendS rfl (.tmp 76) (.tmp 77) _ rfl el_int (f := iv) (fun _ => rfl) rfl (how76.alloc _) rfl (OwS.rd (OwS.lit (base := w6.heap.size) (e := 3) (xs := [-1]) w76 #[iv (-1)] 1 h76 (by simp [maxLen]) rfl rfl)) (by omega) (by omega) (Nat.le_trans h76 (below_alloc (B := w6.heap.size) w76 h76 _).size) ?_; intro A78 c78 w78 how78 _ hb78)
            | (go_at_call 29; (with_reducible refine (row_any s _ _ _ _ h1 h2 (by omega) _ _ (Nat.le_refl _) how78.rd).mono ?_); rintro e w79 hh; obtain ⟨rfl, hb79⟩ := hh.2 (by intro hall; have := (hall (-1) (by simp)).1; omega)))
          have H79 : Below w6.heap.size w6 w79 := ((H5.trans hb76).trans ((below_alloc w76 h76 _).trans hb78)).trans (hb79.mono (by have := hb78.size; have := (below_alloc (B := w6.heap.size) w76 h76 (.cells #[.int .i64 (-1)] 3)).size; omega))
          have b79 := (how6.below H79).rd
          have v79 := (how6w.below H79).rd
          have hb01 := hb1.size
          clear hh hb79 hb78 how78 hb76 how76 r75 v5 how5
          go_loop [17] (fun i => ∃ q : Nat, q ≤ k ∧ i = .int .i64 q) (fun i => k - (intOf i).toNat)
          case atStart => exact ⟨0, by omega, rfl⟩
          case round =>
            obtain ⟨q, hq, rfl⟩ := hrel
            by_cases hlt2 : q < k
            · obtain ⟨x0, hx0⟩ : ∃ x0, ws[q]? = some x0 := ⟨ws[q]'(by rw [Hwl.out]; exact hlt2), List.getElem?_eq_getElem _⟩
              have hV := Lib.hid (rowB_at s ws q x0 hx0 (hfit.out x0 (List.mem_of_getElem? hx0)))
              obtain ⟨p, hpd⟩ : ∃ p, p = q * s := ⟨_, rfl⟩
              have hp1 : (s : Int) * (q : Int) = p := by rw [hpd, Int.natCast_mul]; exact Int.mul_comm _ _
              have hp2 : p + s ≤ M := by
                have := Nat.mul_le_mul_right s (show q + 1 ≤ k by omega)
                rw [Nat.succ_mul] at this
                rw [hpd, HMd.out, Hwl.out]
                exact this
              rw [← hpd] at hV
              have Hx0 := Lib.hid hx0
              clear hpd hx0
              go_wp2_with (first
                | (refine wl_cut_l rfl _ _ el_u8 rfl b79 _ rfl rfl p (by omega) ?_; intro A105 r105)
                | (refine wl_at_i rfl _ _ _ rfl el_int rfl rfl (by omega) (by omega) v79 ?_; intro p x hx hc; have hxx : x = x0 := (by have e := hx.out; rw [Int.toNat_natCast, Hx0.out] at e; injection e with e; exact e.symm); subst hxx)
                | (go_at_call 25; refine (take_yes _ _ _ s _ h1 h2 (by omega) (by omega) _ _ r105).mono ?_; rintro e w9 ⟨rfl, rfl⟩; rw [hV.out]))
              go_round
              case rel => exact ⟨q + 1, by omega, by go_num⟩
              case measure => simp [intOf]; omega
            · go_wp2
              go_ret
              exact ⟨rfl, ((((below_alloc w (Nat.le_refl _) _).trans (hb1.mono (by simp))).trans (hb.mono (by simp at hb01; omega))).trans (hb6.mono (by have := hb.size; simp at hb01; omega))).trans (H79.mono (by have := hb.size; simp at hb01; omega))⟩
      · have Z4 : Below w6.heap.size (w6.drew.alloc (.cells #[iv (Pw + odd)] 3)) ((w6.drew.alloc (.cells #[iv (Pw + odd)] 3)).alloc (.cells #[] 3)) := below_alloc _ (by simp) _
        refine wpTree_one (fun KO hKO => ?_)
        simp only [List.drop, List.take]
        go_wp2
        refine anch_end (Th.Reach.of (Z2)) (hKO _ _ ?_)
        clear hKO KO
        refine wpTree_one (fun KO hKO => ?_)
        simp only [List.drop, List.take]
        go_wp2
        refine anch_end (Th.Reach.of (Z4)) (hKO _ _ ?_)
        clear hKO KO
        refine wpTree_one (fun KO hKO => ?_)
        simp only [List.drop, List.take]
        go_wp2_with (first
          | (refine wl_appendS rfl (.tmp 59) (.tmp 62) _ rfl el_int (f := iv) (fun _ => rfl) rfl (OwS.lit' (base := w6.heap.size) (e := 3) (xs := []) (w6.drew.alloc (.cells #[iv (Pw + odd)] 3)) #[] 0 (w6.heap.size + 1) (by simp) (by simp) (by simp [maxLen]) rfl rfl) rfl ((r62.below Z2).below Z4) (by omega) (by omega) (by simp; omega) ?_; intro A63 c63 w63 o63 hg63 hb63; rw [Nat.zero_add, List.nil_append] at o63))
        refine anch_end (Th.Reach.of (hb63)) (hKO _ _ ?_)
        clear hKO KO
        have l70 := OwS.grown ((OwS.lit (base := w6.heap.size) (e := 3) (xs := [Pw + odd]) (f := iv) w6.drew #[iv (Pw + odd)] 1 (Nat.le_refl _) (by simp [maxLen]) rfl rfl).alloc (.cells #[] 3)) hg63 (by intro g hg; simp [rowOf] at hg ⊢; omega)
        have hs63 := hb63.size
        have hz63 : w6.heap.size ≤ w63.heap.size := by simp at hs63; omega
        refine wpTree_one (fun KO hKO => ?_)
        simp only [List.drop, List.take]
        go_wp2_with (first
          | (refine wl_appendS rfl (.tmp 63) (.tmp 70) _ rfl el_int (f := iv) (fun _ => rfl) rfl o63 rfl l70.rd (by omega) (by omega) hz63 ?_; intro A5 c5 w5 how5 _ hb5))
        refine anch_end (Th.Reach.of (hb5)) (hKO _ _ ?_)
        clear hKO KO
        refine wpTree_float (fun KF hKF => ?_)
        simp only [List.drop, List.take]
        repeat (first | go_big_quiet_step (fail) | quiet_step (fail))
        refine wpQuiet_nil ?_
        refine hKF _ ?_
        clear hKF KF
        refine wpTree_done ?_
        refine hKT _ _ ?_
        clear hKT KT
        have H5 : Below w6.heap.size w6 w5 := ((((bdrew1 w6).trans Z2).trans Z4).trans hb63).trans hb5
        clear q6 q62 r62 Z1 Z2 hb63 hs63 Z4 o63 hb5 l70 hg63
        have h5 := H5.size
        have v5 := how6w.below H5
        go_wp2_with (first
          | (refine wl_cut_l rfl _ _ el_int rfl v5.rd _ rfl rfl j (by omega) ?_; intro A75 r75)
          | (refine wl_appendS rfl (.tmp 72) (.tmp 75) _ rfl el_int (f := iv) (fun _ => rfl) rfl how5 rfl r75 (by omega) (by omega) h5 ?_; intro A76 c76 w76 how76 _ hb76; have h76 := Nat.le_trans h5 hb76.size)
          | (refine wl_appendS rfl (.tmp 76) (.tmp 77) _ rfl el_int (f := iv) (fun _ => rfl) rfl (how76.alloc _) rfl (OwS.rd (OwS.lit (base := w6.heap.size) (e := 3) (xs := [-1]) w76 #[iv (-1)] 1 h76 (by simp [maxLen]) rfl rfl)) (by omega) (by omega) (Nat.le_trans h76 (below_alloc (B := w6.heap.size) w76 h76 _).size) ?_; intro A78 c78 w78 how78 _ hb78)
          | (go_at_call 29; (with_reducible refine (row_any s _ _ _ _ h1 h2 (by omega) _ _ (Nat.le_refl _) how78.rd).mono ?_); rintro e w79 hh; obtain ⟨rfl, hb79⟩ := hh.2 (by intro hall; have := (hall (-1) (by simp)).1; omega)))
        have H79 : Below w6.heap.size w6 w79 := ((H5.trans hb76).trans ((below_alloc w76 h76 _).trans hb78)).trans (hb79.mono (by have := hb78.size; have := (below_alloc (B := w6.heap.size) w76 h76 (.cells #[.int .i64 (-1)] 3)).size; omega))
        have b79 := (how6.below H79).rd
        have v79 := (how6w.below H79).rd
        have hb01 := hb1.size
        clear hh hb79 hb78 how78 hb76 how76 r75 v5 how5
        go_loop [17] (fun i => ∃ q : Nat, q ≤ k ∧ i = .int .i64 q) (fun i => k - (intOf i).toNat)
        case atStart => exact ⟨0, by omega, rfl⟩
        case round =>
          obtain ⟨q, hq, rfl⟩ := hrel
          by_cases hlt2 : q < k
          · obtain ⟨x0, hx0⟩ : ∃ x0, ws[q]? = some x0 := ⟨ws[q]'(by rw [Hwl.out]; exact hlt2), List.getElem?_eq_getElem _⟩
            have hV := Lib.hid (rowB_at s ws q x0 hx0 (hfit.out x0 (List.mem_of_getElem? hx0)))
            obtain ⟨p, hpd⟩ : ∃ p, p = q * s := ⟨_, rfl⟩
            have hp1 : (s : Int) * (q : Int) = p := by rw [hpd, Int.natCast_mul]; exact Int.mul_comm _ _
            have hp2 : p + s ≤ M := by
              have := Nat.mul_le_mul_right s (show q + 1 ≤ k by omega)
              rw [Nat.succ_mul] at this
              rw [hpd, HMd.out, Hwl.out]
              exact this
            rw [← hpd] at hV
            have Hx0 := Lib.hid hx0
            clear hpd hx0
            go_wp2_with (first
              | (refine wl_cut_l rfl _ _ el_u8 rfl b79 _ rfl rfl p (by omega) ?_; intro A105 r105)
              | (refine wl_at_i rfl _ _ _ rfl el_int rfl rfl (by omega) (by omega) v79 ?_; intro p x hx hc; have hxx : x = x0 := (by have e := hx.out; rw [Int.toNat_natCast, Hx0.out] at e; injection e with e; exact e.symm); subst hxx)
              | (go_at_call 25; refine (take_yes _ _ _ s _ h1 h2 (by omega) (by omega) _ _ r105).mono ?_; rintro e w9 ⟨rfl, rfl⟩; rw [hV.out]))
            go_round
            case rel => exact ⟨q + 1, by omega, by go_num⟩
            case measure => simp [intOf]; omega
          · go_wp2
            go_ret
            exact ⟨rfl, ((((below_alloc w (Nat.le_refl _) _).trans (hb1.mono (by simp))).trans (hb.mono (by simp at hb01; omega))).trans (hb6.mono (by have := hb.size; simp at hb01; omega))).trans (H79.mono (by have := hb.size; simp at hb01; omega))⟩
theorem numRows_walk (A : Option Addr) (n c : Nat) (zs : List Int) {w : World} (hr : RdS (Value.int .i64) w w.heap.size A n c zs) (hm : n ≤ 9223372036854775807) (_hw : ∀ z ∈ zs, -9223372036854775808 ≤ z ∧ z ≤ 9223372036854775807)
    (ks : List Int) (hl : ks.length = 2) (hk : ∀ z ∈ ks, 0 ≤ z ∧ z ≤ 255) (odd : Int) (ho : 0 ≤ odd ∧ odd ≤ 4294967295) :
    Calls Try.prog 8 #[.slice A n c, .agg (ks.map (Value.int .u8)).toArray, .int .u32 odd] w fun e w' => e = .returned (.bool true) ∧ Below w.heap.size w w' := by
  match ks, hl, hk with
  | [k0, k1], _, hk => exact numRows_core A n c zs hr hm k0 k1 (hk k0 (by simp)) (hk k1 (by simp)) odd ho
end Go.Proofs.Ytgiefjbdkkdaiaa
