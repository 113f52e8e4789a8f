/-
  theseuslaw07.RuleBack: the walk.
-/
import Derived.Test.YtijobfkmchbpcaaRuleBackLaw
import Derived.Test.YtijobfkmchbpcaaRuleOrder
import Derived.Deep.DeepCutAuto
namespace Go.Th
open Go.RowKit
theorem OwS.kept {α : Type} {f : α → Value} {w2 w3 : World} {base e n c : Nat} {A : Option Addr} {xs : List α} (h : OwS f w2 base e A n c xs) (o : Obj) (hg : (w2.alloc o).grownBy w3 (some w2.heap.size)) : OwS f w3 base e A n c xs :=
  (h.alloc o).grown hg (fun g hA e => by
    injection e with e
    rcases h.ow.form with ⟨e2, _⟩ | ⟨g', e2, _, hl⟩
    · rw [e2] at hA; cases hA
    · rw [e2] at hA; injection hA with hA; injection hA with hA; omega)
theorem RdS.kept {α : Type} {f : α → Value} {w2 w3 : World} {B n c : Nat} {A : Option Addr} {xs : List α} (h : RdS f w2 B A n c xs) (o : Obj) (hg : (w2.alloc o).grownBy w3 (some w2.heap.size)) (hB : B ≤ w2.heap.size) : RdS f w3 B A n c xs :=
  (h.alloc o).grown hg (fun g e => by injection e with e; omega)
end Go.Th
namespace Go.Proofs.Ytijobfkmchbpcaa
open Go.RowKit Go.Th
set_option linter.unusedVariables false
set_option maxRecDepth 100000 in
set_option maxHeartbeats 8000000 in
theorem ruleBack_walk (x : Ru) {w : World} (hx : x.Ok) (A : Option Addr) (n c : Nat) (bs : List UInt8) (hr : RdS bv w w.heap.size A n c bs) (hm : n ≤ 9223372036854775807) :
    Calls Try.prog 5 #[x.v, .slice A n c] w fun e w' => e = .returned (.bool true) ∧ Below w.heap.size w w' := by
  show Calls Try.prog 5 #[.agg #[.int .u32 x.a, .int .i64 x.n, .int .i64 x.act, .int .i64 x.next], .slice A n c] w _
  obtain ⟨M, hM, hM1⟩ : ∃ M, min n 30 = M ∧ M ≤ 30 := ⟨_, rfl, by omega⟩
  obtain ⟨bb, hbb⟩ : ∃ l, bs.take 30 = l := ⟨_, rfl⟩
  have hlb : bb.length = M := by rw [← hbb, List.length_take, hr.len, Nat.min_comm]; exact hM
  obtain ⟨r, hrr⟩ : ∃ r, x.fit 256 = r := ⟨_, rfl⟩
  have hfr : ∀ j, j < 4 → Fit1 r j := by rw [← hrr]; exact fit1_fit x hx
  have hor : r.Ok := by rw [← hrr]; exact Ru.fit_ok x _ hx (by omega)
  obtain ⟨p, hp⟩ : ∃ p, pre r 4 = p := ⟨_, rfl⟩
  have HM := Lib.hid hM
  have Hbb := Lib.hid hbb
  have Hlb := Lib.hid hlb
  have Hrr := Lib.hid hrr
  have Hfr := Lib.hid hfr
  have Hor := Lib.hid hor
  have Hp := Lib.hid hp
  clear hM hbb hlb hrr hfr hor hp
  go_enter Try.func5, Try.ntmps5
  go_wp2_with fail
  refine (shown7 _).mono ?_
  rintro e w1 ⟨rfl, hb1⟩
  have bxx := (Box.new w x.cs.toArray 25).step hb1
  have hr1 := (hr.step (below_alloc w (Nat.le_refl _) (.cells x.cs.toArray 25))).step hb1
  have B1 : Below w.heap.size w w1 := (below_alloc w (Nat.le_refl _) (.cells x.cs.toArray 25)).trans (hb1.mono (by simp))
  have z1 := B1.size
  clear hb1 hr
  go_wp2_with ((with_reducible refine on_load (.tmp 2) ?_); refine wr_box rfl _ (.tmp 2) rfl st_rule rfl bxx ?_)
  refine (rfit_is x 256 w1 hx (by omega) r Hrr.out).mono ?_
  rintro e w2 ⟨rfl, hb2⟩
  have B2 := B1.trans (hb2.mono z1)
  have z2 := B2.size
  go_upto_region 3 with ((with_reducible refine on_store_at (.tmp 6) ?_); refine wr_store (r := ⟨0, 0, 0, 0⟩) (s := r) rfl _ (.tmp 6) _ rfl st_rule rfl rfl (Box.new w2 _ _) ?_; intro w3 bx6 hg3)
  have hr3 := (hr1.step hb2).kept (.cells (Ru.cs ⟨0, 0, 0, 0⟩).toArray 25) hg3 z2
  have B3 := B2.trans ((below_alloc w2 z2 (.cells (Ru.cs ⟨0, 0, 0, 0⟩).toArray 25)).trans (below_of_grown hg3 (fun j e => by injection e with e; omega) (by simp; omega)))
  have z3 := B3.size
  clear bxx hb2 hr1 hg3
  go_wp2_with ((with_reducible refine on_load (.tmp 6) ?_); refine wr_box rfl _ (.tmp 6) rfl st_rule rfl bx6 ?_)
  refine (put_fits r Hor.out.a Hfr.out p Hp.out w3).mono ?_
  rintro e w4 ⟨A7, c7, rfl, ow7, hb4⟩
  have B4 := B3.trans (hb4.mono z3)
  have z4 := B4.size
  have bx6 := bx6.step hb4
  have hr4 := hr3.step hb4
  clear hb4 hr3
  go_wp2_with ((with_reducible refine on_append (.tmp 28) (.tmp 29) ?_); refine wl_appendS rfl (.tmp 28) (.tmp 29) _ rfl el_u8 (f := bv) (fun _ => rfl) rfl (OwS.lit (base := w4.heap.size) (e := 5) (xs := []) w4 #[] 0 (Nat.le_refl _) (by simp [maxLen]) rfl rfl) rfl (ow7.rd.alloc _) (by omega) (by omega) (by simp) ?_; intro A8 c8 w5 ow8 _ hb5; rw [Nat.zero_add, List.nil_append] at ow8; have H5 : Below w4.heap.size w4 w5 := (below_alloc w4 (Nat.le_refl _) _).trans hb5)
  refine (few7 _ _ _ M HM.out w5 hm _ _ (hr4.step H5)).mono ?_
  rintro e w0 ⟨rfl, rfl⟩
  have rb5 := fewRB HM.out (hr4.step H5)
  rw [Hbb.out] at rb5
  go_wp2_with ((with_reducible refine on_append (.tmp 30) (.tmp 32) ?_); refine wl_appendS rfl (.tmp 30) (.tmp 32) _ rfl el_u8 (f := bv) (fun _ => rfl) rfl ow8 rfl rb5 (by omega) (by omega) H5.size ?_; intro A9 c9 w6 ow9 _ hb6; have H6 := H5.trans hb6)
  have B6 := B4.trans (H6.mono z4)
  have z6 := B6.size
  have bx6 := bx6.step H6
  have hr6 := hr4.step H6
  have ow7 := ow7.below H6
  clear ow8 hb5 hb6 H5 H6 rb5 hr4
  refine (take_pre A9 _ c9 r Hfr.out bb (by have := Hlb.out; omega) w6 (by rw [Hp.out]; exact ow9.rd)).mono ?_
  rintro e w7 ⟨rfl, hb7⟩
  have B7 := B6.trans (hb7.mono z6)
  have z7 := B7.size
  go_upto_region 5 with ((with_reducible refine on_store_at (.tmp 9) ?_); refine wr_store (r := ⟨0, 0, 0, 0⟩) (s := r) rfl _ (.tmp 9) _ rfl st_rule rfl rfl (Box.new w7 _ _) ?_; intro w8 bx9 hg8)
  have bx68 := (bx6.step hb7).kept (.cells (Ru.cs ⟨0, 0, 0, 0⟩).toArray 25) hg8
  have hr8 := (hr6.step hb7).kept (.cells (Ru.cs ⟨0, 0, 0, 0⟩).toArray 25) hg8 z7
  have ow78 := (ow7.below hb7).kept (.cells (Ru.cs ⟨0, 0, 0, 0⟩).toArray 25) hg8
  have B8 := B7.trans ((below_alloc w7 z7 (.cells (Ru.cs ⟨0, 0, 0, 0⟩).toArray 25)).trans (below_of_grown hg8 (fun j e => by injection e with e; omega) (by simp; omega)))
  have z8 := B8.size
  clear ow9 hb7 hg8 bx6 hr6 ow7
  go_wp2_with fail
  go_loopw [11, 12, 13] (fun i _ _ wr => ∃ k : Nat, k ≤ 8 ∧ i = .int .i64 k ∧ Below w8.heap.size w8 wr) (fun i _ _ _ => 8 - (intOf i).toNat)
  case atStart => exact ⟨0, by omega, rfl, Below.refl _ _⟩
  case round =>
    obtain ⟨k, hk, rfl, hbr⟩ := hrel
    have zr := hbr.size
    by_cases hlt : k < 8
    · have o7 := ow78.below hbr
      go_wp2_with ((with_reducible refine on_slice (.tmp 44) ?_); refine wl_cut_h rfl _ (.tmp 44) el_u8 rfl o7.rd _ rfl rfl k (by omega) ?_; intro A46 r46)
      refine (ruleTake_short A46 k _ wr (by omega)).mono ?_
      rintro e w10 ⟨rfl, hb10⟩
      have hb10 : Below wr.heap.size wr w10 := hb10
      have H10 : Below w8.heap.size w8 w10 := hbr.trans (hb10.mono zr)
      have z10 := H10.size
      go_wp2_with ((with_reducible refine on_store_at (.tmp 12) ?_); refine wr_store (r := ⟨0, 0, 0, 0⟩) (s := ⟨0, 0, 0, 0⟩) rfl _ (.tmp 12) _ rfl st_rule rfl rfl (Box.new w10 _ _) ?_; intro w11 bx12 hg12)
      go_roundw
      case rel => exact ⟨k + 1, by omega, by go_num, H10.trans ((below_alloc w10 z10 (.cells (Ru.cs ⟨0, 0, 0, 0⟩).toArray 25)).trans (below_of_grown hg12 (fun j e => by injection e with e; omega) (by simp; omega)))⟩
      case measure => simp [intOf]; omega
    · have o7 := ow78.below hbr
      have b6 := bx68.step hbr
      have b9 := bx9.step hbr
      have hrr := hr8.step hbr
      have Br := B8.trans (hbr.mono z8)
      have zb := Br.size
      have rbr := fewRB HM.out hrr
      rw [Hbb.out] at rbr
      have hk8 : decide ((k : Int) < 8) = false := decide_eq_false (by omega)
      clear ow78 bx68 bx9 hr8
      go_wp2_with fail
      refine (few7 _ _ _ M HM.out wr hm _ _ hrr).mono ?_
      rintro e w0 ⟨rfl, rfl⟩
      go_wp2_with fail
      by_cases h8 : 8 ≤ M
      · refine (ruleTake _ _ _ wr bb (rbr.more zb) h8 (by omega)).mono ?_
        rintro e w12 ⟨rfl, hb12⟩
        have B12 := Br.trans (hb12.mono zb)
        have z12 := B12.size
        obtain ⟨tt, ht⟩ : ∃ t, rtk bb = t := ⟨_, rfl⟩
        have hft := fit1_rtk bb
        have hpt := pre_rtk (bs := bb) (by rw [Hlb.out]; exact h8)
        rw [ht] at hft hpt ⊢
        have Hft := Lib.hid hft
        have Hpt := Lib.hid hpt
        have hta : 0 ≤ tt.a ∧ tt.a ≤ 4294967295 := by
          have h := hft 0 (by omega)
          have h : 0 ≤ tt.a ∧ tt.a < 4294967296 := h
          omega
        have Hta := Lib.hid hta
        clear ht hft hpt hta
        go_upto_region 12 with ((with_reducible refine on_store_at (.tmp 14) ?_); refine wr_store (r := ⟨0, 0, 0, 0⟩) (s := tt) rfl _ (.tmp 14) _ rfl st_rule rfl rfl (Box.new w12 _ _) ?_; intro w13 bx14 hg13)
        have o73 := (o7.below hb12).kept (.cells (Ru.cs ⟨0, 0, 0, 0⟩).toArray 25) hg13
        have b63 := (b6.step hb12).kept (.cells (Ru.cs ⟨0, 0, 0, 0⟩).toArray 25) hg13
        have b93 := (b9.step hb12).kept (.cells (Ru.cs ⟨0, 0, 0, 0⟩).toArray 25) hg13
        have hr13 := (hrr.step hb12).kept (.cells (Ru.cs ⟨0, 0, 0, 0⟩).toArray 25) hg13 z12
        have B13 := B12.trans ((below_alloc w12 z12 (.cells (Ru.cs ⟨0, 0, 0, 0⟩).toArray 25)).trans (below_of_grown hg13 (fun j e => by injection e with e; omega) (by simp; omega)))
        have z13 := B13.size
        clear hg13 o7 b6 b9 hb12
        go_wp2_with ((with_reducible refine on_load (.tmp 14) ?_); refine wr_box rfl _ (.tmp 14) rfl st_rule rfl bx14 ?_)
        refine (put_fits tt Hta.out Hft.out (bb.take 8) Hpt.out w13).mono ?_
        rintro e w14 ⟨A16, c16, rfl, ow16, hb14⟩
        have B14 := B13.trans (hb14.mono z13)
        have z14 := B14.size
        have b64 := b63.step hb14
        have b94 := b93.step hb14
        have o74 := o73.below hb14
        have hr14 := hr13.step hb14
        have rb14 := fewRB HM.out hr14
        rw [Hbb.out] at rb14
        clear b63 b93 o73 hr13 hb14 bx14
        have p16 := ow16.rd.reach
        have q14 := rb14.reach
        have Hfew : Hid (∀ q : Step w14.heap.size w14, Calls Try.prog 24 #[.slice A n c] q.w (fun e w' => e = .returned (.slice (fewB A n c) M c) ∧ q.w = w')) := Lib.hid (fun q => few7 _ _ _ M HM.out q.w hm _ _ (hr14.step q.h))
        go_wp2_with fail
        have hM9 : M < 9 ∨ 8 < M := by omega
        rcases hM9 with hM9 | hM9
        all_goals
          refine wp_region_reach (by kernel_rfl) (by kernel_rfl) ?_
          repeat (first | ((with_reducible refine onq_cv (.tmp 70) ?_); refine wq_strS rfl _ _ (.tmp 70) rfl el_u8 Try.underlying5 Try.underlying9 rfl p16 ?_) | ((with_reducible refine onq_sl (.tmp 73) ?_); refine wq_cut_h rfl _ (.tmp 73) el_u8 rfl q14 (Th.Reach.refl _ _) _ rfl rfl 8 (by first | omega | (refine ⟨?_, h8⟩; split <;> omega)) ?_; intro A78 r78) | ((with_reducible refine onq_cv (.tmp 78) ?_); refine wq_strS rfl _ _ (.tmp 78) rfl el_u8 Try.underlying5 Try.underlying9 rfl r78 ?_) | go_big_quiet_step (exact Calls.reach_same (Hfew.out _)) | quiet_step (exact Calls.reach_same (Hfew.out _)))
          refine wpQuiet_nil ?_
          rintro _ ⟨q, rfl⟩
          have hqw15 := q.h
          obtain ⟨w15, hw15'⟩ : ∃ W, q.w = W := ⟨_, rfl⟩
          rw [hw15'] at hqw15 ⊢
          clear hw15' q
          have b65 := b64.step hqw15
          have b95 := b94.step hqw15
          have hr15 := hr14.step hqw15
          have B15 := B14.trans (hqw15.mono z14)
          clear b64 b94 o74 hr14 rb14 p16 q14 ow16
          go_wp2_with (first
            | ((with_reducible refine on_load (.tmp 9) ?_); refine wr_box rfl _ (.tmp 9) rfl st_rule rfl b95 ?_)
            | ((with_reducible refine on_load (.tmp 6) ?_); refine wr_box rfl _ (.tmp 6) rfl st_rule rfl b65 ?_))
          refine (few7 _ _ _ M HM.out w15 hm _ _ hr15).mono ?_
          rintro e w0 ⟨rfl, rfl⟩
          go_wp2_with fail
          go_ret
          exact ⟨rfl, B15⟩
      · refine (ruleTake_short _ _ _ wr (by omega)).mono ?_
        rintro e w12 ⟨rfl, hb12⟩
        have hb12 : Below wr.heap.size wr w12 := hb12
        have B12 := Br.trans (hb12.mono zb)
        have z12 := B12.size
        have hM8 : decide (8 ≤ (M : Int)) = false := decide_eq_false (by omega)
        have hM8n : decide (8 ≤ M) = false := decide_eq_false (by omega)
        have hft : ∀ j, j < 4 → Fit1 ⟨0, 0, 0, 0⟩ j := fit1_all (by decide) (by decide) (by decide) (by decide)
        go_upto_region 12 with ((with_reducible refine on_store_at (.tmp 14) ?_); refine wr_store (r := ⟨0, 0, 0, 0⟩) (s := ⟨0, 0, 0, 0⟩) rfl _ (.tmp 14) _ rfl st_rule rfl rfl (Box.new w12 _ _) ?_; intro w13 bx14 hg13)
        have b63 := (b6.step hb12).kept (.cells (Ru.cs ⟨0, 0, 0, 0⟩).toArray 25) hg13
        have b93 := (b9.step hb12).kept (.cells (Ru.cs ⟨0, 0, 0, 0⟩).toArray 25) hg13
        have hr13 := (hrr.step hb12).kept (.cells (Ru.cs ⟨0, 0, 0, 0⟩).toArray 25) hg13 z12
        have B13 := B12.trans ((below_alloc w12 z12 (.cells (Ru.cs ⟨0, 0, 0, 0⟩).toArray 25)).trans (below_of_grown hg13 (fun j e => by injection e with e; omega) (by simp; omega)))
        have z13 := B13.size
        clear hg13 o7 b6 b9 hb12
        go_wp2_with ((with_reducible refine on_load (.tmp 14) ?_); refine wr_box rfl _ (.tmp 14) rfl st_rule rfl bx14 ?_)
        refine (put_fits ⟨0, 0, 0, 0⟩ (by decide) hft _ rfl w13).mono ?_
        rintro e w14 ⟨A16, c16, rfl, ow16, hb14⟩
        have B14 := B13.trans (hb14.mono z13)
        have z14 := B14.size
        have b64 := b63.step hb14
        have b94 := b93.step hb14
        have hr14 := hr13.step hb14
        clear b63 b93 hr13 hb14 bx14 hft ow16
        go_wp2_with fail
        refine wp_region_reach (by kernel_rfl) (by kernel_rfl) ?_
        repeat (first | go_big_quiet_step (fail) | quiet_step (fail))
        refine wpQuiet_nil ?_
        rintro _ ⟨q, rfl⟩
        have hqw15 := q.h
        obtain ⟨w15, hw15'⟩ : ∃ W, q.w = W := ⟨_, rfl⟩
        rw [hw15'] at hqw15 ⊢
        clear hw15' q
        have b65 := b64.step hqw15
        have b95 := b94.step hqw15
        have hr15 := hr14.step hqw15
        have B15 := B14.trans (hqw15.mono z14)
        clear b64 b94 hr14
        go_wp2_with (first
          | ((with_reducible refine on_load (.tmp 9) ?_); refine wr_box rfl _ (.tmp 9) rfl st_rule rfl b95 ?_)
          | ((with_reducible refine on_load (.tmp 6) ?_); refine wr_box rfl _ (.tmp 6) rfl st_rule rfl b65 ?_))
        refine (few7 _ _ _ M HM.out w15 hm _ _ hr15).mono ?_
        rintro e w0 ⟨rfl, rfl⟩
        go_wp2_with fail
        go_ret
        exact ⟨rfl, B15⟩
end Go.Proofs.Ytijobfkmchbpcaa
