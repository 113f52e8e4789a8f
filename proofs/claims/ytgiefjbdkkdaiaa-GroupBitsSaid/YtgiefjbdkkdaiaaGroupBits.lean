/-
  theseuslaw02.GroupBits: the walk.
-/
import Derived.Test.YtgiefjbdkkdaiaaGroupBack
import Derived.Test.YtgiefjbdkkdaiaaGroupPart
namespace Go.Proofs.Ytgiefjbdkkdaiaa
open Go.RowKit Go.Th
set_option maxRecDepth 100000 in
set_option maxHeartbeats 2000000 in
theorem groupBits_walk (n : Int) (hn : 0 ≤ n ∧ n ≤ 4294967295) {w : World} :
    Calls Try.prog 14 #[.int .u32 n] w fun e w' => e = .returned (.bool true) ∧ Below w.heap.size w w' := by
  obtain ⟨x, hx, hx2⟩ : ∃ x : Nat, bits .and .i64 n 268435455 = x ∧ x < 268435456 := ⟨_, mask28 n hn, by omega⟩
  obtain ⟨r, hr⟩ : ∃ r, gsize x = r + 1 := ⟨gsize x - 1, by have := (gsize_pos x).1; omega⟩
  have hr3 : r ≤ 3 := by have := (gsize_pos x).2; omega
  have HL := Lib.hid (gput_last x r hr)
  have Hr := Lib.hid hr
  have hbx : ((((UInt8.ofNat (x % 128)).toNat : Nat) : Int) != (x : Int) % 128) = false := by
    rw [UInt8.toNat_ofNat']
    simp; omega
  have hxs : ((x < 128 ∧ r = 0) ∨ (128 ≤ x ∧ gsize (x / 128) = r)) := by
    by_cases h : x < 128
    · left; rw [gsize_small h] at hr; omega
    · right; have := gsize_step (by omega) hx2 (n := x); omega
  obtain ⟨b, hb⟩ : ∃ b, UInt8.ofNat (x % 128) = b := ⟨_, rfl⟩
  rw [hb] at hbx HL
  clear hb hr
  rcases hxs with ⟨hxs, rfl⟩ | ⟨hxs, hg⟩
  · go_enter Try.func14, Try.ntmps14
    go_wp2_with (first
      | (go_at_call 32; refine (shown2 _).mono ?_; rintro e w1 ⟨rfl, hb1⟩)
      | (go_at_call 33; (with_reducible refine (gput_nat x hx2 _).mono ?_); rintro e w2 ⟨A2, c2, rfl, how2, hb2⟩; rw [Hr.out] at how2 ⊢; have r2 := how2.rd)
      | ((with_reducible refine on_index (.tmp 31) ?_); refine wl_at_b rfl _ _ _ rfl el_u8 rfl rfl (by omega) (by omega) r2 ?_; intro p x0 hx0 hxl hc; have hxx : b = x0 := (u8_at hx0.out HL.out).symm; subst hxx))
    go_ret
    exact ⟨rfl, next hb1 hb2⟩
  · have Hg := Lib.hid hg
    have hx3 : x / 128 < 268435456 := by omega
    clear hg
    go_enter Try.func14, Try.ntmps14
    go_wp2_with (first
      | (go_at_call 32; refine (shown2 _).mono ?_; rintro e w1 ⟨rfl, hb1⟩)
      | (go_at_call 33; (with_reducible refine (gput_nat x hx2 _).mono ?_); rintro e w2 ⟨A2, c2, rfl, how2, hb2⟩; rw [Hr.out] at how2 ⊢; have r2 := how2.rd)
      | (go_at_call 33; refine (gput_nat (x / 128) hx3 _).mono ?_; rintro e w3 ⟨A3, c3, rfl, how3, hb3⟩; rw [Hg.out] at how3 ⊢)
      | ((with_reducible refine on_index (.tmp 31) ?_); refine wl_at_b rfl _ _ _ rfl el_u8 rfl rfl (by omega) (by omega) r2 ?_; intro p x0 hx0 hxl hc; have hxx : b = x0 := (u8_at hx0.out HL.out).symm; subst hxx))
    have s2 := r2.step hb3
    have s3 := how3.rd
    have hbw := next (next hb1 hb2) hb3
    clear hc
    go_loopw [9] (fun i wr => ∃ k : Nat, k ≤ r ∧ i = .int .i64 k ∧ RdS bv wr w2.heap.size A2 (r + 1) c2 (gput x) ∧ RdS bv wr w3.heap.size A3 r c3 (gput (x / 128)) ∧ Below w.heap.size w wr) (fun i _ => 4 - (intOf i).toNat)
    case atStart => exact ⟨0, by omega, rfl, s2, s3, hbw⟩
    case round =>
      obtain ⟨k, hk, rfl, s2, s3, hbw⟩ := hrel
      have l2 := s2.len
      have l3 := s3.len
      by_cases hlt : k < r
      · obtain ⟨a0, ha0⟩ : ∃ a0, (gput x)[k]? = some a0 := ⟨(gput x)[k]'(by omega), List.getElem?_eq_getElem _⟩
        obtain ⟨b0, hb0⟩ : ∃ b0, (gput (x / 128))[k]? = some b0 := ⟨(gput (x / 128))[k]'(by omega), List.getElem?_eq_getElem _⟩
        have hab := gput_bit hxs hx2 k (by rw [Hg.out]; exact hlt) a0 b0 ha0 hb0
        subst hab
        have Ha := Lib.hid ha0
        have Hb := Lib.hid hb0
        have hor := or_u8 b0
        have n1 : (((b0 ||| 128).toNat : Int) != ((b0 ||| 128).toNat : Int)) = false := by simp
        obtain ⟨z, hz⟩ : ∃ z, b0 ||| 128 = z := ⟨_, rfl⟩
        rw [hz] at Ha hor n1
        clear ha0 hb0 hz
        have q2 := RdC.of_drew s2
        have q3 := RdC.of_drew s3
        go_wp2
        refine wp_region_quiet_lit (by kernel_rfl) (by kernel_rfl) ?_
        repeat (first
          | (refine wq_at_b rfl _ (.tmp 69) _ rfl el_u8 rfl rfl (by omega) (by omega) ⟨0, rfl⟩ q2 ?_; intro p1 x1 hx1 hxl1 hc1'; have hc1 := hc1' wr ⟨0, rfl⟩; clear hc1'; have hxx : z = x1 := (u8_at hx1.out Ha.out).symm; subst hxx)
          | (refine wq_at_b rfl _ (.tmp 73) _ rfl el_u8 rfl rfl (by omega) (by omega) ⟨0, rfl⟩ q3 ?_; intro p2 x2 hx2 hxl2 hc2'; have hc2 := hc2' wr ⟨0, rfl⟩; clear hc2'; have hxx : b0 = x2 := (u8_at hx2.out Hb.out).symm; subst hxx)
          | go_big_quiet_step (fail) | quiet_step (fail))
        refine wpQuiet_nil ?_
        rintro w5 ⟨nq, rfl⟩
        go_wp2
        go_roundw
        case rel => exact ⟨k + 1, by omega, by go_num, s2.drewN _, s3.drewN _, hbw.trans (bdrew _ _)⟩
        case measure => simp [intOf]; omega
      · go_wp2
        go_ret
        exact ⟨rfl, hbw⟩
end Go.Proofs.Ytgiefjbdkkdaiaa
