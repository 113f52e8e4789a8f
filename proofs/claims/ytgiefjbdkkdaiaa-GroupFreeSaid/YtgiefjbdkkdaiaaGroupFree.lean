/-
  theseuslaw02.GroupFree: the walk.
-/
import Derived.Test.YtgiefjbdkkdaiaaGroupBack
import Derived.Test.YtgiefjbdkkdaiaaGroupPart
namespace Go.Proofs.Ytgiefjbdkkdaiaa
open Go.RowKit Go.Th
/-- What the loop holds: whether the bytes looked at part. -/
def FreeRel (ps qs : List UInt8) (m : Nat) (p i : Value) : Prop := ∃ k : Nat, ∃ b : Bool, k ≤ m ∧ p = .bool b ∧ i = .int .i64 k ∧ Hid (b = true ↔ ps.take k ≠ qs.take k)
theorem take_ext {ps qs : List UInt8} {k : Nat} {a b : UInt8} (h : ps.take k = qs.take k) (ha : ps[k]? = some a) (hb : qs[k]? = some b) : ps.take (k + 1) = qs.take (k + 1) ↔ a = b := by
  rw [List.take_add_one, List.take_add_one, ha, hb, h]
  simp
theorem take_sub {ps qs : List UInt8} {k : Nat} (h : ps.take k ≠ qs.take k) : ps.take (k + 1) ≠ qs.take (k + 1) := fun e => h (by
  have := congrArg (List.take k) e
  rwa [List.take_take, List.take_take, Nat.min_eq_left (by omega)] at this)
set_option maxRecDepth 100000 in
set_option maxHeartbeats 2000000 in
theorem groupFree_walk (n : Int) (hn : 0 ≤ n ∧ n ≤ 4294967295) (l : Int) (hl : 0 ≤ l ∧ l ≤ 4294967295) {w : World} :
    Calls Try.prog 15 #[.int .u32 n, .int .u32 l] w fun e w' => e = .returned (.bool true) ∧ Below w.heap.size w w' := by
  obtain ⟨x, hx, hx2⟩ : ∃ x : Nat, bits .and .i64 n 268435455 = x ∧ x < 268435456 := ⟨_, mask28 n hn, by omega⟩
  obtain ⟨y, hy, hy2⟩ : ∃ y : Nat, bits .and .i64 l 268435455 = y ∧ y < 268435456 := ⟨_, mask28 l hl, by omega⟩
  obtain ⟨s, hs0⟩ : ∃ s, gsize x = s := ⟨_, rfl⟩
  obtain ⟨t, ht0⟩ : ∃ t, gsize y = t := ⟨_, rfl⟩
  have hs1 : s ≤ 4 := by have := gsize_pos x; omega
  have ht1 : t ≤ 4 := by have := gsize_pos y; omega
  have Hs := Lib.hid hs0
  have Ht := Lib.hid ht0
  clear hs0 ht0
  go_enter Try.func15, Try.ntmps15
  go_wp2_with (first
    | (go_at_call 32; refine (shown2 _).mono ?_; rintro e w1 ⟨rfl, hb1⟩)
    | (go_at_call 33; (with_reducible refine (gput_nat x hx2 _).mono ?_); rintro e w2 ⟨A2, c2, rfl, how2, hb2⟩; rw [Hs.out] at how2 ⊢)
    | (go_at_call 33; (with_reducible refine (gput_nat y hy2 _).mono ?_); rintro e w3 ⟨A3, c3, rfl, how3, hb3⟩; rw [Ht.out] at how3 ⊢))
  have r2 := how2.rd.step hb3
  have r3 := how3.rd
  have l2 := r2.len
  have l3 := r3.len
  go_loopw [12, 13] (fun p i wr => FreeRel (gput x) (gput y) (min s t) p i ∧ RdS bv wr w2.heap.size A2 s c2 (gput x) ∧ RdS bv wr w3.heap.size A3 t c3 (gput y) ∧ Below w.heap.size w wr) (fun _ i _ => 4 - (intOf i).toNat)
  case atStart => exact ⟨⟨0, false, by omega, rfl, rfl, by show _ ↔ _; simp⟩, r2, r3, next (next hb1 hb2) hb3⟩
  case round =>
    obtain ⟨⟨k, b, hk, rfl, rfl, hb⟩, r2, r3, hbw⟩ := hrel
    by_cases hlt : k < min s t
    · obtain ⟨a0, ha0⟩ : ∃ a0, (gput x)[k]? = some a0 := ⟨(gput x)[k]'(by omega), List.getElem?_eq_getElem _⟩
      obtain ⟨b0, hb0⟩ : ∃ b0, (gput y)[k]? = some b0 := ⟨(gput y)[k]'(by omega), List.getElem?_eq_getElem _⟩
      have Ha := Lib.hid ha0
      have Hb := Lib.hid hb0
      clear ha0 hb0
      have q2 := RdC.of_drew r2
      have q3 := RdC.of_drew r3
      have ks : k < s := by omega
      have kt : k < t := by omega
      cases b with
      | true =>
        have h5 : (gput x).take (k + 1) ≠ (gput y).take (k + 1) := take_sub (hb.out.1 rfl)
        have H5 := Lib.hid h5
        clear h5 hb
        go_wp2
        refine wp_region_quiet_lit (by kernel_rfl) (by kernel_rfl) ?_
        repeat (first | go_big_quiet_step (fail) | quiet_step (fail))
        refine wpQuiet_nil ?_
        rintro w5 ⟨nq, rfl⟩
        go_wp2
        go_roundw
        case rel => exact ⟨⟨k + 1, true, by omega, by go_num, by go_num, ⟨fun _ => H5.out, fun _ => rfl⟩⟩, r2.drewN _, r3.drewN _, hbw.trans (bdrew _ _)⟩
        case measure => simp [intOf]; omega
      | false =>
        have hpre : (gput x).take k = (gput y).take k := Classical.not_not.1 fun e => by have := hb.out.2 e; cases this
        have hext := Lib.hid (take_ext hpre Ha.out Hb.out)
        have al := a0.toNat_lt
        have bl := b0.toNat_lt
        clear hb hpre
        by_cases hab : a0 = b0
        · subst hab
          have n1 : ((a0.toNat : Int) != (a0.toNat : Int)) = false := by simp
          go_wp2
          refine wp_region_quiet_lit (by kernel_rfl) (by kernel_rfl) ?_
          repeat (first
            | (refine wq_at_b rfl _ (.tmp 45) _ rfl el_u8 rfl rfl (by omega) (by omega) ⟨0, rfl⟩ q2 ?_; intro p1 x1 hx1 hxl1 hc1'; have hc1 := hc1' wr ⟨0, rfl⟩; clear hc1'; have hxx : a0 = x1 := (u8_at hx1.out Ha.out).symm; subst hxx)
            | (refine wq_at_b rfl _ (.tmp 49) _ rfl el_u8 rfl rfl (by omega) (by omega) ⟨0, rfl⟩ q3 ?_; intro p2 x2 hx2 hxl2 hc2'; have hc2 := hc2' wr ⟨0, rfl⟩; clear hc2'; have hxx : a0 = x2 := (u8_at hx2.out Hb.out).symm; subst hxx)
            | go_big_quiet_step (fail) | quiet_step (fail))
          refine wpQuiet_nil ?_
          rintro w5 ⟨nq, rfl⟩
          go_wp2
          go_roundw
          case rel => exact ⟨⟨k + 1, false, by omega, by go_num, by go_num, ⟨(fun h => by cases h), fun h => absurd (hext.out.2 (by trivial)) h⟩⟩, r2.drewN _, r3.drewN _, hbw.trans (bdrew _ _)⟩
          case measure => simp [intOf]; omega
        · have nab : (a0.toNat : Int) ≠ (b0.toNat : Int) := fun e => hab (u8_ext (by omega))
          have n1 : ((a0.toNat : Int) != (b0.toNat : Int)) = true := by rw [bne_iff_ne]; exact nab
          go_wp2
          refine wp_region_quiet_lit (by kernel_rfl) (by kernel_rfl) ?_
          repeat (first
            | (refine wq_at_b rfl _ (.tmp 45) _ rfl el_u8 rfl rfl (by omega) (by omega) ⟨0, rfl⟩ q2 ?_; intro p1 x1 hx1 hxl1 hc1'; have hc1 := hc1' wr ⟨0, rfl⟩; clear hc1'; have hxx : a0 = x1 := (u8_at hx1.out Ha.out).symm; subst hxx)
            | (refine wq_at_b rfl _ (.tmp 49) _ rfl el_u8 rfl rfl (by omega) (by omega) ⟨0, rfl⟩ q3 ?_; intro p2 x2 hx2 hxl2 hc2'; have hc2 := hc2' wr ⟨0, rfl⟩; clear hc2'; have hxx : b0 = x2 := (u8_at hx2.out Hb.out).symm; subst hxx)
            | go_big_quiet_step (fail) | quiet_step (fail))
          refine wpQuiet_nil ?_
          rintro w5 ⟨nq, rfl⟩
          go_wp2
          go_roundw
          case rel => exact ⟨⟨k + 1, true, by omega, by go_num, by go_num, ⟨fun _ e => hab (hext.out.1 e), fun _ => rfl⟩⟩, r2.drewN _, r3.drewN _, hbw.trans (bdrew _ _)⟩
          case measure => simp [intOf]; omega
    · have hk2 : k = min s t := by omega
      have hxy : b = true ↔ x ≠ y := by
        rw [hb.out]
        refine ⟨fun h e => h (by rw [e]), fun h e => h (gput_free x y hx2 hy2 k (by rw [Hs.out, Ht.out]; exact hk2) e)⟩
      have hend : b = ((x : Int) != (y : Int)) := by
        cases b with
        | true => symm; rw [bne_iff_ne]; intro e; exact hxy.1 rfl (by omega)
        | false =>
          symm
          cases h : ((x : Int) != (y : Int)) with
          | false => rfl
          | true => rw [bne_iff_ne] at h; have := hxy.2 (fun e => h (by rw [e])); cases this
      have hk3 : (k : Int) ≥ s ∨ ((k : Int) < s ∧ (k : Int) ≥ t) := by omega
      subst hend
      clear hb hxy
      rcases hk3 with hk3 | ⟨hk3, hk4⟩
      all_goals go_wp2
      all_goals go_ret
      all_goals exact ⟨rfl, hbw⟩
end Go.Proofs.Ytgiefjbdkkdaiaa
