/-
  The walks of layer 7's reference: Put, Take.
-/
import Derived.Test.YtijobfkmchbpcaaNumRefB
import Derived.Test.YtijobfkmchbpcaaRuleTake
namespace Go.Proofs.Ytijobfkmchbpcaa
open Go.RowKit Go.Th
set_option linter.unusedVariables false
def RPutRel (r : Ru) (w : World) (g5 g6 : Nat) (all i : Value) (wr : World) : Prop :=
  ∃ (k m c ga : Nat), k ≤ 4 ∧ all = .slice (some ⟨ga, 0, none⟩) m c ∧ i = .int .i64 k ∧ Hid (ga ≠ g5 ∧ ga ≠ g6) ∧ OwS bv wr w.heap.size 5 (some ⟨ga, 0, none⟩) m c (pre r k) ∧ m ≤ 8 ∧ Hid (∀ j, j < k → Fit1 r j) ∧ Box wr g5 75 #[.int .i64 r.a, .int .i64 r.n, .int .i64 r.act, .int .i64 r.next] ∧ Box wr g6 75 #[.int .i64 4, .int .i64 1, .int .i64 1, .int .i64 2] ∧ Below w.heap.size w wr
theorem ends_at (r : Ru) (k : Nat) (h : ∀ j, j < k → Fit1 r j) (hf : Fit1 r k) : ∀ j, j < k + 1 → Fit1 r j := fun j hj => by
  rcases Nat.lt_or_ge j k with h1 | h1
  · exact h j h1
  · have : j = k := by omega
    subst this
    exact hf
set_option maxRecDepth 100000 in
set_option maxHeartbeats 4000000 in
theorem rrulePut (r : Ru) (hr : r.Ok) (w : World) : Calls Try.prog 35 #[.agg #[.int .u32 r.a, .int .i64 r.n, .int .i64 r.act, .int .i64 r.next]] w fun e w' =>
    ((∀ j, j < 4 → Fit1 r j) → RetBytes (pre r 4) 0 w e w') ∧ ((∃ j, j < 4 ∧ ¬ Fit1 r j) → RetBytes [] 1 w e w') := by
  have ha0 := hr.a.1
  have ha1 := hr.a.2
  have Hr := Lib.hid hr
  clear hr
  go_enter Try.func35, Try.ntmps35
  go_wp2
  go_loopw [4, 7, 8, 9] (fun all i _ _ wr => RPutRel r w (w.heap.size + 1 + 1) (w.heap.size + 1 + 1 + 1) all i wr) (fun _ i _ _ _ => 4 - (intOf i).toNat)
  case atStart =>
    have o1 : OwS bv ((w.alloc (.cells #[.int .u32 r.a, .int .i64 r.n, .int .i64 r.act, .int .i64 r.next] 25)).alloc (.cells #[] 5)) w.heap.size 5 (some ⟨w.heap.size + 1, 0, none⟩) 0 0 (pre r 0) := OwS.lit' _ _ 0 (w.heap.size + 1) (by simp) (by simp) (by simp [maxLen]) rfl rfl
    have b5 := (Box.new ((w.alloc (.cells #[.int .u32 r.a, .int .i64 r.n, .int .i64 r.act, .int .i64 r.next] 25)).alloc (.cells #[] 5)) #[.int .i64 r.a, .int .i64 r.n, .int .i64 r.act, .int .i64 r.next] 75).alloc (.cells #[.int .i64 4, .int .i64 1, .int .i64 1, .int .i64 2] 75)
    have b6 := Box.new (((w.alloc (.cells #[.int .u32 r.a, .int .i64 r.n, .int .i64 r.act, .int .i64 r.next] 25)).alloc (.cells #[] 5)).alloc (.cells #[.int .i64 r.a, .int .i64 r.n, .int .i64 r.act, .int .i64 r.next] 75)) #[.int .i64 4, .int .i64 1, .int .i64 1, .int .i64 2] 75
    rw [heap_size_alloc, heap_size_alloc] at b5
    rw [heap_size_alloc, heap_size_alloc, heap_size_alloc] at b6
    exact ⟨0, 0, 0, _, by omega, rfl, rfl, Lib.hid (by omega), (o1.alloc _).alloc _, by omega, Lib.hid (fun j hj => by omega), b5, b6, (by repeat (first | exact Below.refl _ _ | refine Below.drew ?_ | refine Below.alloc ?_ (by first | (simp; done) | (simp; omega)) _ | refine Below.setCell ?_ (by first | (simp; done) | (simp; omega)) _ | assumption))⟩
  case round =>
    obtain ⟨k, m, c, ga, hk, rfl, rfl, hga, how, hm8, hfit, b5, b6, hb⟩ := hrel
    have z := hb.size
    by_cases hlt : k < 4
    · rcases (show k = 0 ∨ k = 1 ∨ k = 2 ∨ k = 3 by omega) with rfl | rfl | rfl | rfl
      · have y5 : ∀ q : Step wr.heap.size wr.drew, q.w.cell? ⟨w.heap.size + 1 + 1, 0, none⟩ = some (.int .i64 r.a) := fun q => (b5.drew.step q.h).cell 0
        have y6 : ∀ q : Step wr.heap.size wr.drew, q.w.cell? ⟨w.heap.size + 1 + 1 + 1, 0, none⟩ = some (.int .i64 4) := fun q => (b6.drew.step q.h).cell 0
        have hbd := Lib.hid (show -9223372036854775808 ≤ r.a ∧ r.a ≤ 9223372036854775807 by omega)
        by_cases hf : 0 ≤ r.a ∧ r.a < 4294967296
        · have Hf : Hid (Fit1 r 0) := Lib.hid (show 0 ≤ r.a ∧ r.a < 256 ^ 4 from ⟨hf.1, by have := hf.2; omega⟩)
          have Hf2 : Hid (Fits 4 r.a) := Lib.hid ⟨hf.1, by have := hf.2; have := hf.1; omega⟩
          clear hf
          go_upto_region 7 with fail
          refine wp_region_tree (.float 0 6 (.one 6 (.float 7 5 .done))) (Th.Reach wr.heap.size) (Th.Reach.trans _) (Th.Reach.refl _) (by kernel_rfl) (by kernel_rfl) (fun KT hKT => ?_)
          refine wpTree_float (fun KF hKF => ?_)
          simp only [List.drop, List.take]
          repeat (first | go_big_quiet_skip | go_big_quiet_step (fail) | quiet_step (fail))
          refine wpQuiet_nil ?_
          refine hKF _ ?_
          clear hKF KF
          refine wpTree_one (fun KO hKO => ?_)
          simp only [List.drop, List.take]
          go_wp2_with (first | (go_at_call 46; refine (rput_fit r.a 4 _ (by omega) (by omega) (by have := hbd.out; omega) Hf2.out).mono ?_; rintro e w7 ⟨A7, c7, rfl, how7, hb7⟩))
          refine anch_end (Th.Reach.of (by first | exact Below.refl _ _ | exact below_alloc _ (by first | omega | (simp; done) | (simp; omega)) _ | exact below_alloc2 _ (by first | omega | (simp; done) | (simp; omega)) _ _ | exact below_alloc2d _ (by simp) _ _ | exact bdrew _ _ | assumption | (exact Below.mono (by assumption) (by first | (simp; done) | (simp; omega) | omega | assumption)))) (hKO _ _ ?_)
          clear hKO KO
          refine wpTree_float (fun KF hKF => ?_)
          simp only [List.drop, List.take]
          repeat (first | go_big_quiet_skip | go_big_quiet_step (fail) | quiet_step (fail))
          refine wpQuiet_nil ?_
          refine hKF _ ?_
          clear hKF KF
          refine wpTree_done ?_
          refine hKT _ _ ?_
          clear hKT KT
          have B7 : Below wr.heap.size wr w7 := (bdrew1 wr).trans hb7
          have z7 := B7.size
          go_wp2_with ((with_reducible refine on_append (.tmp 39) (.tmp 40) ?_); refine wl_appendA rfl (.tmp 39) (.tmp 40) _ rfl el_u8 (f := bv) (fun _ => rfl) rfl (how.below B7) rfl how7.rd (by omega) (by omega) (by omega) ?_; intro A8 c8 w8 how8 hg8 hb8 hA8)
          have l5 := (b5.step B7).lt
          have l6 := (b6.step B7).lt
          obtain ⟨ga', rfl, hga'⟩ : ∃ ga', A8 = some ⟨ga', 0, none⟩ ∧ (ga' ≠ w.heap.size + 1 + 1 ∧ ga' ≠ w.heap.size + 1 + 1 + 1) := by
            rcases hA8 with e | e
            · exact ⟨_, e, hga.out⟩
            · exact ⟨_, e, by omega, by omega⟩
          have Hga' := Lib.hid hga'
          clear hga' hA8
          go_roundw
          case rel => exact ⟨1, m + 4, c8, ga', by omega, rfl, by first | rfl | go_num, Hga', how8, (by have := pre_le r 1 (by omega); have := how8.len; have e : pre r 0 ++ be (r.a).toNat 4 = pre r 1 := rfl; rw [e] at this; omega), Lib.hid (ends_at r 0 hfit.out Hf.out), (b5.step B7).grown hg8 (fun e => by simp only [rowOf, Option.some.injEq] at e; exact hga.out.1 e), (b6.step B7).grown hg8 (fun e => by simp only [rowOf, Option.some.injEq] at e; exact hga.out.2 e), (hb.trans (B7.mono z)).trans hb8⟩
          case measure => simp [intOf]
        · have Hf : Hid (¬ Fit1 r 0) := Lib.hid (fun h => hf ⟨h.1, by have : r.a < 256 ^ 4 := h.2; omega⟩)
          have Hf2 : Hid (¬ Fits 4 r.a) := Lib.hid (fun h => hf ⟨h.1, by have := h.2; have := h.1; omega⟩)
          clear hf
          go_upto_region 7 with fail
          refine wp_region_tree (.float 0 6 (.one 6 (.float 7 5 .done))) (Th.Reach wr.heap.size) (Th.Reach.trans _) (Th.Reach.refl _) (by kernel_rfl) (by kernel_rfl) (fun KT hKT => ?_)
          refine wpTree_float (fun KF hKF => ?_)
          simp only [List.drop, List.take]
          repeat (first | go_big_quiet_skip | go_big_quiet_step (fail) | quiet_step (fail))
          refine wpQuiet_nil ?_
          refine hKF _ ?_
          clear hKF KF
          refine wpTree_one (fun KO hKO => ?_)
          simp only [List.drop, List.take]
          go_wp2_with (first | (go_at_call 46; refine (rput_misfit r.a 4 _ (by omega) (by omega) hbd.out Hf2.out).mono ?_; rintro e w7 ⟨rfl, hb7⟩))
          refine anch_end (Th.Reach.of (by first | exact Below.refl _ _ | exact below_alloc _ (by first | omega | (simp; done) | (simp; omega)) _ | exact below_alloc2 _ (by first | omega | (simp; done) | (simp; omega)) _ _ | exact below_alloc2d _ (by simp) _ _ | exact bdrew _ _ | assumption | (exact Below.mono (by assumption) (by first | (simp; done) | (simp; omega) | omega | assumption)))) (hKO _ _ ?_)
          clear hKO KO
          refine wpTree_float (fun KF hKF => ?_)
          simp only [List.drop, List.take]
          repeat (first | go_big_quiet_skip | go_big_quiet_step (fail) | quiet_step (fail))
          refine wpQuiet_nil ?_
          refine hKF _ ?_
          clear hKF KF
          refine wpTree_done ?_
          refine hKT _ _ ?_
          clear hKT KT
          have B7 : Below wr.heap.size wr w7 := (bdrew1 wr).trans hb7
          go_wp2
          go_ret2
          exact ⟨fun h => absurd (h 0 (by omega)) Hf.out, fun _ => ⟨none, 0, 0, rfl, OwS.nil_ _ _ _, hb.trans (B7.mono z)⟩⟩
      · have y5 : ∀ q : Step wr.heap.size wr.drew, q.w.cell? ⟨w.heap.size + 1 + 1, 1, none⟩ = some (.int .i64 r.n) := fun q => (b5.drew.step q.h).cell 1
        have y6 : ∀ q : Step wr.heap.size wr.drew, q.w.cell? ⟨w.heap.size + 1 + 1 + 1, 1, none⟩ = some (.int .i64 1) := fun q => (b6.drew.step q.h).cell 1
        have hbd := Lib.hid (Hr.out.n)
        by_cases hf : 0 ≤ r.n ∧ r.n < 256
        · have Hf : Hid (Fit1 r 1) := Lib.hid (show 0 ≤ r.n ∧ r.n < 256 ^ 1 from ⟨hf.1, by have := hf.2; omega⟩)
          have Hf2 : Hid (Fits 1 r.n) := Lib.hid ⟨hf.1, by have := hf.2; have := hf.1; omega⟩
          clear hf
          go_upto_region 7 with fail
          refine wp_region_tree (.float 0 6 (.one 6 (.float 7 5 .done))) (Th.Reach wr.heap.size) (Th.Reach.trans _) (Th.Reach.refl _) (by kernel_rfl) (by kernel_rfl) (fun KT hKT => ?_)
          refine wpTree_float (fun KF hKF => ?_)
          simp only [List.drop, List.take]
          repeat (first | go_big_quiet_skip | go_big_quiet_step (fail) | quiet_step (fail))
          refine wpQuiet_nil ?_
          refine hKF _ ?_
          clear hKF KF
          refine wpTree_one (fun KO hKO => ?_)
          simp only [List.drop, List.take]
          go_wp2_with (first | (go_at_call 46; refine (rput_fit r.n 1 _ (by omega) (by omega) (by have := hbd.out; omega) Hf2.out).mono ?_; rintro e w7 ⟨A7, c7, rfl, how7, hb7⟩))
          refine anch_end (Th.Reach.of (by first | exact Below.refl _ _ | exact below_alloc _ (by first | omega | (simp; done) | (simp; omega)) _ | exact below_alloc2 _ (by first | omega | (simp; done) | (simp; omega)) _ _ | exact below_alloc2d _ (by simp) _ _ | exact bdrew _ _ | assumption | (exact Below.mono (by assumption) (by first | (simp; done) | (simp; omega) | omega | assumption)))) (hKO _ _ ?_)
          clear hKO KO
          refine wpTree_float (fun KF hKF => ?_)
          simp only [List.drop, List.take]
          repeat (first | go_big_quiet_skip | go_big_quiet_step (fail) | quiet_step (fail))
          refine wpQuiet_nil ?_
          refine hKF _ ?_
          clear hKF KF
          refine wpTree_done ?_
          refine hKT _ _ ?_
          clear hKT KT
          have B7 : Below wr.heap.size wr w7 := (bdrew1 wr).trans hb7
          have z7 := B7.size
          go_wp2_with ((with_reducible refine on_append (.tmp 39) (.tmp 40) ?_); refine wl_appendA rfl (.tmp 39) (.tmp 40) _ rfl el_u8 (f := bv) (fun _ => rfl) rfl (how.below B7) rfl how7.rd (by omega) (by omega) (by omega) ?_; intro A8 c8 w8 how8 hg8 hb8 hA8)
          have l5 := (b5.step B7).lt
          have l6 := (b6.step B7).lt
          obtain ⟨ga', rfl, hga'⟩ : ∃ ga', A8 = some ⟨ga', 0, none⟩ ∧ (ga' ≠ w.heap.size + 1 + 1 ∧ ga' ≠ w.heap.size + 1 + 1 + 1) := by
            rcases hA8 with e | e
            · exact ⟨_, e, hga.out⟩
            · exact ⟨_, e, by omega, by omega⟩
          have Hga' := Lib.hid hga'
          clear hga' hA8
          go_roundw
          case rel => exact ⟨2, m + 1, c8, ga', by omega, rfl, by first | rfl | go_num, Hga', how8, (by have := pre_le r 2 (by omega); have := how8.len; have e : pre r 1 ++ be (r.n).toNat 1 = pre r 2 := rfl; rw [e] at this; omega), Lib.hid (ends_at r 1 hfit.out Hf.out), (b5.step B7).grown hg8 (fun e => by simp only [rowOf, Option.some.injEq] at e; exact hga.out.1 e), (b6.step B7).grown hg8 (fun e => by simp only [rowOf, Option.some.injEq] at e; exact hga.out.2 e), (hb.trans (B7.mono z)).trans hb8⟩
          case measure => simp [intOf]
        · have Hf : Hid (¬ Fit1 r 1) := Lib.hid (fun h => hf ⟨h.1, by have : r.n < 256 ^ 1 := h.2; omega⟩)
          have Hf2 : Hid (¬ Fits 1 r.n) := Lib.hid (fun h => hf ⟨h.1, by have := h.2; have := h.1; omega⟩)
          clear hf
          go_upto_region 7 with fail
          refine wp_region_tree (.float 0 6 (.one 6 (.float 7 5 .done))) (Th.Reach wr.heap.size) (Th.Reach.trans _) (Th.Reach.refl _) (by kernel_rfl) (by kernel_rfl) (fun KT hKT => ?_)
          refine wpTree_float (fun KF hKF => ?_)
          simp only [List.drop, List.take]
          repeat (first | go_big_quiet_skip | go_big_quiet_step (fail) | quiet_step (fail))
          refine wpQuiet_nil ?_
          refine hKF _ ?_
          clear hKF KF
          refine wpTree_one (fun KO hKO => ?_)
          simp only [List.drop, List.take]
          go_wp2_with (first | (go_at_call 46; refine (rput_misfit r.n 1 _ (by omega) (by omega) hbd.out Hf2.out).mono ?_; rintro e w7 ⟨rfl, hb7⟩))
          refine anch_end (Th.Reach.of (by first | exact Below.refl _ _ | exact below_alloc _ (by first | omega | (simp; done) | (simp; omega)) _ | exact below_alloc2 _ (by first | omega | (simp; done) | (simp; omega)) _ _ | exact below_alloc2d _ (by simp) _ _ | exact bdrew _ _ | assumption | (exact Below.mono (by assumption) (by first | (simp; done) | (simp; omega) | omega | assumption)))) (hKO _ _ ?_)
          clear hKO KO
          refine wpTree_float (fun KF hKF => ?_)
          simp only [List.drop, List.take]
          repeat (first | go_big_quiet_skip | go_big_quiet_step (fail) | quiet_step (fail))
          refine wpQuiet_nil ?_
          refine hKF _ ?_
          clear hKF KF
          refine wpTree_done ?_
          refine hKT _ _ ?_
          clear hKT KT
          have B7 : Below wr.heap.size wr w7 := (bdrew1 wr).trans hb7
          go_wp2
          go_ret2
          exact ⟨fun h => absurd (h 1 (by omega)) Hf.out, fun _ => ⟨none, 0, 0, rfl, OwS.nil_ _ _ _, hb.trans (B7.mono z)⟩⟩
      · have y5 : ∀ q : Step wr.heap.size wr.drew, q.w.cell? ⟨w.heap.size + 1 + 1, 2, none⟩ = some (.int .i64 r.act) := fun q => (b5.drew.step q.h).cell 2
        have y6 : ∀ q : Step wr.heap.size wr.drew, q.w.cell? ⟨w.heap.size + 1 + 1 + 1, 2, none⟩ = some (.int .i64 1) := fun q => (b6.drew.step q.h).cell 2
        have hbd := Lib.hid (Hr.out.act)
        by_cases hf : 0 ≤ r.act ∧ r.act < 256
        · have Hf : Hid (Fit1 r 2) := Lib.hid (show 0 ≤ r.act ∧ r.act < 256 ^ 1 from ⟨hf.1, by have := hf.2; omega⟩)
          have Hf2 : Hid (Fits 1 r.act) := Lib.hid ⟨hf.1, by have := hf.2; have := hf.1; omega⟩
          clear hf
          go_upto_region 7 with fail
          refine wp_region_tree (.float 0 6 (.one 6 (.float 7 5 .done))) (Th.Reach wr.heap.size) (Th.Reach.trans _) (Th.Reach.refl _) (by kernel_rfl) (by kernel_rfl) (fun KT hKT => ?_)
          refine wpTree_float (fun KF hKF => ?_)
          simp only [List.drop, List.take]
          repeat (first | go_big_quiet_skip | go_big_quiet_step (fail) | quiet_step (fail))
          refine wpQuiet_nil ?_
          refine hKF _ ?_
          clear hKF KF
          refine wpTree_one (fun KO hKO => ?_)
          simp only [List.drop, List.take]
          go_wp2_with (first | (go_at_call 46; refine (rput_fit r.act 1 _ (by omega) (by omega) (by have := hbd.out; omega) Hf2.out).mono ?_; rintro e w7 ⟨A7, c7, rfl, how7, hb7⟩))
          refine anch_end (Th.Reach.of (by first | exact Below.refl _ _ | exact below_alloc _ (by first | omega | (simp; done) | (simp; omega)) _ | exact below_alloc2 _ (by first | omega | (simp; done) | (simp; omega)) _ _ | exact below_alloc2d _ (by simp) _ _ | exact bdrew _ _ | assumption | (exact Below.mono (by assumption) (by first | (simp; done) | (simp; omega) | omega | assumption)))) (hKO _ _ ?_)
          clear hKO KO
          refine wpTree_float (fun KF hKF => ?_)
          simp only [List.drop, List.take]
          repeat (first | go_big_quiet_skip | go_big_quiet_step (fail) | quiet_step (fail))
          refine wpQuiet_nil ?_
          refine hKF _ ?_
          clear hKF KF
          refine wpTree_done ?_
          refine hKT _ _ ?_
          clear hKT KT
          have B7 : Below wr.heap.size wr w7 := (bdrew1 wr).trans hb7
          have z7 := B7.size
          go_wp2_with ((with_reducible refine on_append (.tmp 39) (.tmp 40) ?_); refine wl_appendA rfl (.tmp 39) (.tmp 40) _ rfl el_u8 (f := bv) (fun _ => rfl) rfl (how.below B7) rfl how7.rd (by omega) (by omega) (by omega) ?_; intro A8 c8 w8 how8 hg8 hb8 hA8)
          have l5 := (b5.step B7).lt
          have l6 := (b6.step B7).lt
          obtain ⟨ga', rfl, hga'⟩ : ∃ ga', A8 = some ⟨ga', 0, none⟩ ∧ (ga' ≠ w.heap.size + 1 + 1 ∧ ga' ≠ w.heap.size + 1 + 1 + 1) := by
            rcases hA8 with e | e
            · exact ⟨_, e, hga.out⟩
            · exact ⟨_, e, by omega, by omega⟩
          have Hga' := Lib.hid hga'
          clear hga' hA8
          go_roundw
          case rel => exact ⟨3, m + 1, c8, ga', by omega, rfl, by first | rfl | go_num, Hga', how8, (by have := pre_le r 3 (by omega); have := how8.len; have e : pre r 2 ++ be (r.act).toNat 1 = pre r 3 := rfl; rw [e] at this; omega), Lib.hid (ends_at r 2 hfit.out Hf.out), (b5.step B7).grown hg8 (fun e => by simp only [rowOf, Option.some.injEq] at e; exact hga.out.1 e), (b6.step B7).grown hg8 (fun e => by simp only [rowOf, Option.some.injEq] at e; exact hga.out.2 e), (hb.trans (B7.mono z)).trans hb8⟩
          case measure => simp [intOf]
        · have Hf : Hid (¬ Fit1 r 2) := Lib.hid (fun h => hf ⟨h.1, by have : r.act < 256 ^ 1 := h.2; omega⟩)
          have Hf2 : Hid (¬ Fits 1 r.act) := Lib.hid (fun h => hf ⟨h.1, by have := h.2; have := h.1; omega⟩)
          clear hf
          go_upto_region 7 with fail
          refine wp_region_tree (.float 0 6 (.one 6 (.float 7 5 .done))) (Th.Reach wr.heap.size) (Th.Reach.trans _) (Th.Reach.refl _) (by kernel_rfl) (by kernel_rfl) (fun KT hKT => ?_)
          refine wpTree_float (fun KF hKF => ?_)
          simp only [List.drop, List.take]
          repeat (first | go_big_quiet_skip | go_big_quiet_step (fail) | quiet_step (fail))
          refine wpQuiet_nil ?_
          refine hKF _ ?_
          clear hKF KF
          refine wpTree_one (fun KO hKO => ?_)
          simp only [List.drop, List.take]
          go_wp2_with (first | (go_at_call 46; refine (rput_misfit r.act 1 _ (by omega) (by omega) hbd.out Hf2.out).mono ?_; rintro e w7 ⟨rfl, hb7⟩))
          refine anch_end (Th.Reach.of (by first | exact Below.refl _ _ | exact below_alloc _ (by first | omega | (simp; done) | (simp; omega)) _ | exact below_alloc2 _ (by first | omega | (simp; done) | (simp; omega)) _ _ | exact below_alloc2d _ (by simp) _ _ | exact bdrew _ _ | assumption | (exact Below.mono (by assumption) (by first | (simp; done) | (simp; omega) | omega | assumption)))) (hKO _ _ ?_)
          clear hKO KO
          refine wpTree_float (fun KF hKF => ?_)
          simp only [List.drop, List.take]
          repeat (first | go_big_quiet_skip | go_big_quiet_step (fail) | quiet_step (fail))
          refine wpQuiet_nil ?_
          refine hKF _ ?_
          clear hKF KF
          refine wpTree_done ?_
          refine hKT _ _ ?_
          clear hKT KT
          have B7 : Below wr.heap.size wr w7 := (bdrew1 wr).trans hb7
          go_wp2
          go_ret2
          exact ⟨fun h => absurd (h 2 (by omega)) Hf.out, fun _ => ⟨none, 0, 0, rfl, OwS.nil_ _ _ _, hb.trans (B7.mono z)⟩⟩
      · have y5 : ∀ q : Step wr.heap.size wr.drew, q.w.cell? ⟨w.heap.size + 1 + 1, 3, none⟩ = some (.int .i64 r.next) := fun q => (b5.drew.step q.h).cell 3
        have y6 : ∀ q : Step wr.heap.size wr.drew, q.w.cell? ⟨w.heap.size + 1 + 1 + 1, 3, none⟩ = some (.int .i64 2) := fun q => (b6.drew.step q.h).cell 3
        have hbd := Lib.hid (Hr.out.next)
        by_cases hf : 0 ≤ r.next ∧ r.next < 65536
        · have Hf : Hid (Fit1 r 3) := Lib.hid (show 0 ≤ r.next ∧ r.next < 256 ^ 2 from ⟨hf.1, by have := hf.2; omega⟩)
          have Hf2 : Hid (Fits 2 r.next) := Lib.hid ⟨hf.1, by have := hf.2; have := hf.1; omega⟩
          clear hf
          go_upto_region 7 with fail
          refine wp_region_tree (.float 0 6 (.one 6 (.float 7 5 .done))) (Th.Reach wr.heap.size) (Th.Reach.trans _) (Th.Reach.refl _) (by kernel_rfl) (by kernel_rfl) (fun KT hKT => ?_)
          refine wpTree_float (fun KF hKF => ?_)
          simp only [List.drop, List.take]
          repeat (first | go_big_quiet_skip | go_big_quiet_step (fail) | quiet_step (fail))
          refine wpQuiet_nil ?_
          refine hKF _ ?_
          clear hKF KF
          refine wpTree_one (fun KO hKO => ?_)
          simp only [List.drop, List.take]
          go_wp2_with (first | (go_at_call 46; refine (rput_fit r.next 2 _ (by omega) (by omega) (by have := hbd.out; omega) Hf2.out).mono ?_; rintro e w7 ⟨A7, c7, rfl, how7, hb7⟩))
          refine anch_end (Th.Reach.of (by first | exact Below.refl _ _ | exact below_alloc _ (by first | omega | (simp; done) | (simp; omega)) _ | exact below_alloc2 _ (by first | omega | (simp; done) | (simp; omega)) _ _ | exact below_alloc2d _ (by simp) _ _ | exact bdrew _ _ | assumption | (exact Below.mono (by assumption) (by first | (simp; done) | (simp; omega) | omega | assumption)))) (hKO _ _ ?_)
          clear hKO KO
          refine wpTree_float (fun KF hKF => ?_)
          simp only [List.drop, List.take]
          repeat (first | go_big_quiet_skip | go_big_quiet_step (fail) | quiet_step (fail))
          refine wpQuiet_nil ?_
          refine hKF _ ?_
          clear hKF KF
          refine wpTree_done ?_
          refine hKT _ _ ?_
          clear hKT KT
          have B7 : Below wr.heap.size wr w7 := (bdrew1 wr).trans hb7
          have z7 := B7.size
          go_wp2_with ((with_reducible refine on_append (.tmp 39) (.tmp 40) ?_); refine wl_appendA rfl (.tmp 39) (.tmp 40) _ rfl el_u8 (f := bv) (fun _ => rfl) rfl (how.below B7) rfl how7.rd (by omega) (by omega) (by omega) ?_; intro A8 c8 w8 how8 hg8 hb8 hA8)
          have l5 := (b5.step B7).lt
          have l6 := (b6.step B7).lt
          obtain ⟨ga', rfl, hga'⟩ : ∃ ga', A8 = some ⟨ga', 0, none⟩ ∧ (ga' ≠ w.heap.size + 1 + 1 ∧ ga' ≠ w.heap.size + 1 + 1 + 1) := by
            rcases hA8 with e | e
            · exact ⟨_, e, hga.out⟩
            · exact ⟨_, e, by omega, by omega⟩
          have Hga' := Lib.hid hga'
          clear hga' hA8
          go_roundw
          case rel => exact ⟨4, m + 2, c8, ga', by omega, rfl, by first | rfl | go_num, Hga', how8, (by have := pre_le r 4 (by omega); have := how8.len; have e : pre r 3 ++ be (r.next).toNat 2 = pre r 4 := rfl; rw [e] at this; omega), Lib.hid (ends_at r 3 hfit.out Hf.out), (b5.step B7).grown hg8 (fun e => by simp only [rowOf, Option.some.injEq] at e; exact hga.out.1 e), (b6.step B7).grown hg8 (fun e => by simp only [rowOf, Option.some.injEq] at e; exact hga.out.2 e), (hb.trans (B7.mono z)).trans hb8⟩
          case measure => simp [intOf]
        · have Hf : Hid (¬ Fit1 r 3) := Lib.hid (fun h => hf ⟨h.1, by have : r.next < 256 ^ 2 := h.2; omega⟩)
          have Hf2 : Hid (¬ Fits 2 r.next) := Lib.hid (fun h => hf ⟨h.1, by have := h.2; have := h.1; omega⟩)
          clear hf
          go_upto_region 7 with fail
          refine wp_region_tree (.float 0 6 (.one 6 (.float 7 5 .done))) (Th.Reach wr.heap.size) (Th.Reach.trans _) (Th.Reach.refl _) (by kernel_rfl) (by kernel_rfl) (fun KT hKT => ?_)
          refine wpTree_float (fun KF hKF => ?_)
          simp only [List.drop, List.take]
          repeat (first | go_big_quiet_skip | go_big_quiet_step (fail) | quiet_step (fail))
          refine wpQuiet_nil ?_
          refine hKF _ ?_
          clear hKF KF
          refine wpTree_one (fun KO hKO => ?_)
          simp only [List.drop, List.take]
          go_wp2_with (first | (go_at_call 46; refine (rput_misfit r.next 2 _ (by omega) (by omega) hbd.out Hf2.out).mono ?_; rintro e w7 ⟨rfl, hb7⟩))
          refine anch_end (Th.Reach.of (by first | exact Below.refl _ _ | exact below_alloc _ (by first | omega | (simp; done) | (simp; omega)) _ | exact below_alloc2 _ (by first | omega | (simp; done) | (simp; omega)) _ _ | exact below_alloc2d _ (by simp) _ _ | exact bdrew _ _ | assumption | (exact Below.mono (by assumption) (by first | (simp; done) | (simp; omega) | omega | assumption)))) (hKO _ _ ?_)
          clear hKO KO
          refine wpTree_float (fun KF hKF => ?_)
          simp only [List.drop, List.take]
          repeat (first | go_big_quiet_skip | go_big_quiet_step (fail) | quiet_step (fail))
          refine wpQuiet_nil ?_
          refine hKF _ ?_
          clear hKF KF
          refine wpTree_done ?_
          refine hKT _ _ ?_
          clear hKT KT
          have B7 : Below wr.heap.size wr w7 := (bdrew1 wr).trans hb7
          go_wp2
          go_ret2
          exact ⟨fun h => absurd (h 3 (by omega)) Hf.out, fun _ => ⟨none, 0, 0, rfl, OwS.nil_ _ _ _, hb.trans (B7.mono z)⟩⟩
    · have hk4 : k = 4 := by omega
      subst hk4
      go_wp2
      go_ret2
      exact ⟨fun _ => ⟨_, m, c, rfl, how, hb⟩, fun ⟨j, hj, h⟩ => absurd (hfit.out j hj) h⟩
theorem val_one (bs : List UInt8) (j : Nat) (x : UInt8) (h : bs[j]? = some x) : val ((bs.drop j).take 1) = x.toNat := by
  have e : (bs.drop j).take 1 = [x] := by
    have h2 : (bs.drop j)[0]? = some x := by rw [List.getElem?_drop]; simpa using h
    match hd : bs.drop j, h2 with
    | y :: ys, h2 => simp at h2; simp [h2]
  rw [e]
  simp [val, valFrom]
set_option maxHeartbeats 4000000 in
theorem rruleTake_short (A : Option Addr) (n c : Nat) (w : World) (h : n < 8) : Calls Try.prog 36 #[.slice A n c] w (RetRu ⟨0, 0, 0, 0⟩ 2 w) := by
  have hi : decide ((n : Int) < 8) = true := decide_eq_true (by omega)
  go_enter Try.func36, Try.ntmps36
  go_wp2_with ((with_reducible refine on_store_at (.tmp 2) ?_); refine wb_store rfl _ (.tmp 2) _ rfl st_rule rfl rfl (Box.new w _ _) rfl rfl (by simp [Value.oneCell']) ?_; intro w1 hbx1 hg1)
  have B1 : Below w.heap.size w w1 := (below_alloc w (Nat.le_refl _) _).trans (below_of_grown hg1 (fun j e => by injection e with e; omega) (by simp))
  have hld := run_loadVar_row (P := Try.prog) w1 w.heap.size 25 25 _ (0, 0) _ hbx1.at_ Try.underlying25 rfl st_rule.size
  refine bodyPost_ret (v := .tuple #[.agg #[.int .u32 0, .int .i64 0, .int .i64 0, .int .i64 0], .int .i64 2]) ?_ rfl ⟨rfl, B1⟩
  rw [results_cell_tmp rfl]
  simp [asAddr, hld]
set_option maxHeartbeats 4000000 in
theorem rruleTake (A : Option Addr) (N c : Nat) (w : World) (bs : List UInt8) (hr : RdS bv w w.heap.size A N c bs) (h8 : 8 ≤ N) (hm : N ≤ 1000000) : Calls Try.prog 36 #[.slice A N c] w (RetRu (rtk bs) 0 w) := by
  have hi : decide ((N : Int) < 8) = false := decide_eq_false (by omega)
  have hlen := hr.len
  obtain ⟨V4, hV4⟩ : ∃ V, val (bs.take 4) = V := ⟨_, rfl⟩
  obtain ⟨V6, hV6⟩ : ∃ V, val ((bs.drop 6).take 2) = V := ⟨_, rfl⟩
  have h4 : V4 < 4294967296 := by
    have h5 := val_lt (bs.take 4)
    rw [hV4, List.length_take, Nat.min_eq_left (by omega)] at h5
    exact h5
  obtain ⟨x4, hx4⟩ : ∃ x, bs[4]? = some x := ⟨bs[4]'(by omega), List.getElem?_eq_getElem _⟩
  obtain ⟨x5, hx5⟩ : ∃ x, bs[5]? = some x := ⟨bs[5]'(by omega), List.getElem?_eq_getElem _⟩
  have hrt : rtk bs = ⟨V4, x4.toNat, x5.toNat, V6⟩ := by
    unfold rtk
    rw [hV4, hV6, val_one bs 4 x4 hx4, val_one bs 5 x5 hx5]
  rw [hrt]
  have HV4 := Lib.hid hV4
  have HV6 := Lib.hid hV6
  have Hx4 := Lib.hid hx4
  have Hx5 := Lib.hid hx5
  clear hV4 hV6 hx4 hx5 hrt hlen
  go_enter Try.func36, Try.ntmps36
  go_wp2_with fail
  have bx := Box.new w (Ru.cs ⟨0, 0, 0, 0⟩).toArray 25
  have B1 := below_alloc w (Nat.le_refl _) (.cells (Ru.cs ⟨0, 0, 0, 0⟩).toArray 25)
  have hr1 := hr.step B1
  refine (rtake_yes A _ c 4 _ (by omega) (by omega) (by omega) (by omega) _ _ hr1).mono ?_
  rintro e w1 ⟨rfl, rfl⟩
  rw [HV4.out]
  go_wp2_with ((with_reducible refine on_slice (.tmp 18) ?_); refine wl_cut_l rfl _ (.tmp 18) el_u8 rfl hr1 _ rfl rfl 6 (by omega) ?_; intro A9 r9)
  refine (rtake_yes A9 _ _ 2 _ (by omega) (by omega) (by omega) (by omega) _ _ r9).mono ?_
  rintro e w1 ⟨rfl, rfl⟩
  rw [HV6.out]
  have q2 := RdC.of_reach (hr1.step (bdrew1 _)) (Nat.le_refl _)
  go_upto_region 5 with fail
  have bxd := bx.drew
  refine wp_region_tree (.float 0 12 (.one 12 (.float 13 1 .done))) (Th.Reach w.heap.size) (Th.Reach.trans _) (Th.Reach.refl _) (by kernel_rfl) (by kernel_rfl) (fun KT hKT => ?_)
  refine wpTree_float (fun KF hKF => ?_)
  simp only [List.drop, List.take]
  repeat (first | go_big_quiet_skip | ((with_reducible refine onq_index (.tmp 25) ?_); refine wq_at_b rfl _ (.tmp 25) _ rfl el_u8 rfl rfl (by omega) (by omega) (Th.Reach.refl _ _) q2 ?_; intro p1 x1 hz1 hxl1 hc1; have hxx := get_eq Hx4.out hz1.out (by omega); subst hxx; have f1 : ∀ q : Step _ _, q.w.cell? p1 = some (.int .u8 (x4.toNat : Int)) := fun q => hc1 q.w ⟨q, rfl⟩) | ((with_reducible refine onq_index (.tmp 29) ?_); refine wq_at_b rfl _ (.tmp 29) _ rfl el_u8 rfl rfl (by omega) (by omega) (Th.Reach.refl _ _) q2 ?_; intro p2 x2 hz2 hxl2 hc2; have hxx := get_eq Hx5.out hz2.out (by omega); subst hxx; have f2 : ∀ q : Step _ _, q.w.cell? p2 = some (.int .u8 (x5.toNat : Int)) := fun q => hc2 q.w ⟨q, rfl⟩) | go_big_quiet_step (fail) | quiet_step (fail))
  refine wpQuiet_nil ?_
  refine hKF _ ?_
  clear hKF KF
  refine wpTree_one (fun KO hKO => ?_)
  simp only [List.drop, List.take]
  go_wp2_with (first | ((with_reducible refine on_store_at (.tmp 2) ?_); refine wr_store (r := ⟨0, 0, 0, 0⟩) (s := ⟨V4, x4.toNat, x5.toNat, V6⟩) rfl _ (.tmp 2) _ rfl st_rule rfl rfl bxd ?_; intro w5 hbx5 hg5; have hb5 := below_of_grown (B := w.heap.size) hg5 (fun j e => by injection e with e; omega) (by simp)))
  refine anch_end (Th.Reach.of (by first | exact Below.refl _ _ | exact below_alloc _ (by first | omega | (simp; done) | (simp; omega)) _ | exact below_alloc2 _ (by first | omega | (simp; done) | (simp; omega)) _ _ | exact below_alloc2d _ (by simp) _ _ | exact bdrew _ _ | assumption | (exact Below.mono (by assumption) (by first | (simp; done) | (simp; omega) | omega | assumption)))) (hKO _ _ ?_)
  clear hKO KO
  refine wpTree_float (fun KF hKF => ?_)
  simp only [List.drop, List.take]
  repeat (first | go_big_quiet_skip | ((with_reducible refine onq_index (.tmp 25) ?_); refine wq_at_b rfl _ (.tmp 25) _ rfl el_u8 rfl rfl (by omega) (by omega) (Th.Reach.refl _ _) q2 ?_; intro p1 x1 hz1 hxl1 hc1; have hxx := get_eq Hx4.out hz1.out (by omega); subst hxx; have f1 : ∀ q : Step _ _, q.w.cell? p1 = some (.int .u8 (x4.toNat : Int)) := fun q => hc1 q.w ⟨q, rfl⟩) | ((with_reducible refine onq_index (.tmp 29) ?_); refine wq_at_b rfl _ (.tmp 29) _ rfl el_u8 rfl rfl (by omega) (by omega) (Th.Reach.refl _ _) q2 ?_; intro p2 x2 hz2 hxl2 hc2; have hxx := get_eq Hx5.out hz2.out (by omega); subst hxx; have f2 : ∀ q : Step _ _, q.w.cell? p2 = some (.int .u8 (x5.toNat : Int)) := fun q => hc2 q.w ⟨q, rfl⟩) | go_big_quiet_step (fail) | quiet_step (fail))
  refine wpQuiet_nil ?_
  refine hKF _ ?_
  clear hKF KF
  refine wpTree_done ?_
  refine hKT _ _ ?_
  clear hKT KT
  have B5 : Below w.heap.size w w5 := B1.trans ((bdrew _ _).trans hb5)
  have hld := run_loadVar_row (P := Try.prog) w5 w.heap.size 25 25 _ (0, 0) _ hbx5.at_ Try.underlying25 rfl st_rule.size
  go_wp2
  refine bodyPost_ret (v := .tuple #[.agg #[.int .u32 V4, .int .i64 x4.toNat, .int .i64 x5.toNat, .int .i64 V6], .int .i64 0]) ?_ rfl ⟨rfl, B5⟩
  rw [results_cell_tmp rfl]
  simp [asAddr, hld, Ru.cs]
end Go.Proofs.Ytijobfkmchbpcaa
