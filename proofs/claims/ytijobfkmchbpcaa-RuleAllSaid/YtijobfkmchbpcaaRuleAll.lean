/-
  theseuslaw07.RuleAll: the walk.
-/
import Derived.Test.YtijobfkmchbpcaaRuleRef
import Derived.Test.YtijobfkmchbpcaaRef06
import Derived.Test.YtijobfkmchbpcaaRuleShown
import Derived.Test.YtijobfkmchbpcaaRuleBackLaw
import Derived.Deep.DeepCutAuto
namespace Go.Th
open Go.RowKit
theorem Box.two0 {w : World} {g : Nat} {t : TypeId} {x y : Ru} (h : Box w g t (x.cs ++ y.cs).toArray) : ∀ i v, x.cs[i]? = some v → w.cell? ⟨g, 0 + i, none⟩ = some v := fun i v hi => by
  have hl : i < x.cs.length := (List.getElem?_eq_some_iff.1 hi).1
  rw [Nat.zero_add, h.cell i, List.getElem?_toArray, List.getElem?_append_left hl, hi]
theorem Box.two1 {w : World} {g : Nat} {t : TypeId} {x y : Ru} (h : Box w g t (x.cs ++ y.cs).toArray) : ∀ i v, y.cs[i]? = some v → w.cell? ⟨g, 4 + i, none⟩ = some v := fun i v hi => by
  rw [h.cell (4 + i), List.getElem?_toArray, List.getElem?_append_right (by rw [Ru.cs_length]; omega), Ru.cs_length, Nat.add_sub_cancel_left, hi]
end Go.Th
namespace Go.Proofs.Ytijobfkmchbpcaa
open Go.RowKit Go.Th
set_option linter.unusedVariables false
theorem put_both (r : Ru) (hr : r.Ok) : ∃ P ep, (∀ W, Calls Try.prog 22 #[.agg #[.int .u32 r.a, .int .i64 r.n, .int .i64 r.act, .int .i64 r.next]] W (RetBytes P ep W)) ∧ (∀ W, Calls Try.prog 35 #[.agg #[.int .u32 r.a, .int .i64 r.n, .int .i64 r.act, .int .i64 r.next]] W (RetBytes P ep W)) := by
  by_cases h : ∀ j, j < 4 → Fit1 r j
  · exact ⟨_, _, fun W => (rulePut r hr.a W).mono fun e w' hh => hh.1 h, fun W => (rrulePut r hr W).mono fun e w' hh => hh.1 h⟩
  · have h2 : ∃ j, j < 4 ∧ ¬ Fit1 r j := by
      apply Classical.byContradiction
      intro hn
      exact h fun j hj => Classical.byContradiction fun hf => hn ⟨j, hj, hf⟩
    exact ⟨_, _, fun W => (rulePut r hr.a W).mono fun e w' hh => hh.2 h2, fun W => (rrulePut r hr W).mono fun e w' hh => hh.2 h2⟩
theorem take_both (M : Nat) (bs : List UInt8) (hM : M ≤ 30) : ∃ R er, (∀ A c W, RdS bv W W.heap.size A M c bs → Calls Try.prog 23 #[.slice A M c] W (RetRu R er W)) ∧ (∀ A c W, RdS bv W W.heap.size A M c bs → Calls Try.prog 36 #[.slice A M c] W (RetRu R er W)) := by
  by_cases h : M < 8
  · exact ⟨_, _, fun A c W _ => ruleTake_short A M c W h, fun A c W _ => rruleTake_short A M c W h⟩
  · exact ⟨_, _, fun A c W hr => ruleTake A M c W bs hr (by omega) (by omega), fun A c W hr => rruleTake A M c W bs hr (by omega) (by omega)⟩
set_option maxRecDepth 100000 in
set_option maxHeartbeats 8000000 in
theorem ruleAll_walk (x y : Ru) (hx : x.Ok) (hy : y.Ok) {w : World} (nodes : Int) (hnb : -9223372036854775808 ≤ nodes ∧ nodes ≤ 9223372036854775807) (A : Option Addr) (n c : Nat) (bs : List UInt8) (hr : RdS bv w w.heap.size A n c bs) (hm : n ≤ 9223372036854775807) :
    Calls Try.prog 13 #[.agg (x.cs ++ y.cs).toArray, .int .i64 nodes, .slice A n c] w fun e w' => e = .returned (.bool true) ∧ Below w.heap.size w w' := by
  obtain ⟨M, hM, hM1⟩ : ∃ M, min n 30 = M ∧ M ≤ 30 := ⟨_, rfl, by omega⟩
  obtain ⟨bb, hbb⟩ : ∃ l, bs.take 30 = l := ⟨_, rfl⟩
  obtain ⟨P, ep, hp1, hp2⟩ := put_both x hx
  obtain ⟨R, er, ht1, ht2⟩ := take_both M bb hM1
  obtain ⟨cc, hcc⟩ : ∃ v, x.cmp y = v := ⟨_, rfl⟩
  obtain ⟨me, hme⟩ : ∃ v, x.may nodes = v := ⟨_, rfl⟩
  have HM := Lib.hid hM
  have Hbb := Lib.hid hbb
  have Hp1 := Lib.hid hp1
  have Hp2 := Lib.hid hp2
  have Ht1 := Lib.hid ht1
  have Ht2 := Lib.hid ht2
  have K1 := Lib.hid (fun W => may_is x nodes W hx me hme)
  have K2 := Lib.hid (fun W => rmay_is x nodes W hx me hme)
  have K3 := Lib.hid (fun W => cmp_is x y W hx hy cc hcc)
  have K4 : Hid (∀ W, Calls Try.prog 38 #[.agg #[.int .u32 x.a, .int .i64 x.n, .int .i64 x.act, .int .i64 x.next], .agg #[.int .u32 y.a, .int .i64 y.n, .int .i64 y.act, .int .i64 y.next]] W (fun e w' => e = .returned (.int .i64 cc) ∧ Below W.heap.size W w')) := Lib.hid (fun W => by rw [← hcc]; exact rrcmp_any x y W)
  clear hM hbb hp1 hp2 ht1 ht2 hcc hme hx hy
  go_enter Try.func13, Try.ntmps13
  go_wp2_with fail
  refine (shown7 _).mono ?_
  rintro e w1 ⟨rfl, hb1⟩
  have bx := (Box.new w (x.cs ++ y.cs).toArray 58).step hb1
  have hr1 := (hr.step (below_alloc w (Nat.le_refl _) (.cells (x.cs ++ y.cs).toArray 58))).step hb1
  have B1 : Below w.heap.size w w1 := (below_alloc w (Nat.le_refl _) (.cells (x.cs ++ y.cs).toArray 58)).trans (hb1.mono (by simp))
  have z1 := B1.size
  have C1 := Lib.hid bx.two0
  clear hb1 hr
  go_wp2_with ((with_reducible refine on_load (.tmp 18) ?_); refine wr_load (r := x) (j := 0) rfl _ (.tmp 18) rfl st_rule rfl C1 ?_)
  refine (Hp1.out w1).mono ?_
  rintro e w2 ⟨A8, n8, c8, rfl, ow8, hb2⟩
  have bx := bx.step hb2
  have hr2 := hr1.step hb2
  have B2 := B1.trans (hb2.mono z1)
  have z2 := B2.size
  have C2 := Lib.hid bx.two0
  clear hb2 hr1 C1
  go_wp2_with ((with_reducible refine on_load (.tmp 24) ?_); refine wr_load (r := x) (j := 0) rfl _ (.tmp 24) rfl st_rule rfl C2 ?_)
  refine (Hp2.out w2).mono ?_
  rintro e w3 ⟨A10, n10, c10, rfl, ow10, hb3⟩
  have bx := bx.step hb3
  have hr3 := hr2.step hb3
  have ow8 := ow8.below hb3
  have B3 := B2.trans (hb3.mono z2)
  have z3 := B3.size
  clear hb3 hr2 C2
  go_wp2_with fail
  refine (few7 A n c M HM.out w3 hm _ _ hr3).mono ?_
  rintro e w0 ⟨rfl, rfl⟩
  have rf := fewRB HM.out hr3
  rw [Hbb.out] at rf
  go_wp2_with fail
  refine (Ht1.out _ c w3 (rf.more z3)).mono ?_
  rintro e w4 ⟨rfl, hb4⟩
  have bx := bx.step hb4
  have hr4 := hr3.step hb4
  have ow8 := ow8.below hb4
  have ow10 := ow10.below hb4
  have B4 := B3.trans (hb4.mono z3)
  have z4 := B4.size
  clear hb4 hr3 rf
  go_upto_region 5 with ((with_reducible refine on_store_at (.tmp 12) ?_); refine wr_store (r := ⟨0, 0, 0, 0⟩) (s := R) rfl _ (.tmp 12) _ rfl st_rule rfl rfl (Box.new w4 _ _) ?_; intro w5 bx12 hg5)
  have k5 : Below w4.heap.size w4 w5 := (below_alloc w4 (Nat.le_refl _) (.cells (Ru.cs ⟨0, 0, 0, 0⟩).toArray 25)).trans (below_of_grown hg5 (fun j e => by injection e with e; omega) (by simp))
  have bx := bx.step k5
  have hr5 := hr4.step k5
  have ow8 := ow8.below k5
  have ow10 := ow10.below k5
  have B5 := B4.trans (k5.mono z4)
  have z5 := B5.size
  clear k5 hr4 hg5
  go_wp2_with fail
  refine (few7 A n c M HM.out w5 hm _ _ hr5).mono ?_
  rintro e w0 ⟨rfl, rfl⟩
  have rf := fewRB HM.out hr5
  rw [Hbb.out] at rf
  go_wp2_with fail
  refine (Ht2.out _ c w5 (rf.more z5)).mono ?_
  rintro e w6 ⟨rfl, hb6⟩
  have bx := bx.step hb6
  have bx12 := bx12.step hb6
  have ow8 := ow8.below hb6
  have ow10 := ow10.below hb6
  have B6 := B5.trans (hb6.mono z5)
  have z6 := B6.size
  clear hb6 hr5 rf
  go_upto_region 6 with ((with_reducible refine on_store_at (.tmp 14) ?_); refine wr_store (r := ⟨0, 0, 0, 0⟩) (s := R) rfl _ (.tmp 14) _ rfl st_rule rfl rfl (Box.new w6 _ _) ?_; intro w7 bx14 hg7)
  have k7 : Below w6.heap.size w6 w7 := (below_alloc w6 (Nat.le_refl _) (.cells (Ru.cs ⟨0, 0, 0, 0⟩).toArray 25)).trans (below_of_grown hg7 (fun j e => by injection e with e; omega) (by simp))
  have bx := bx.step k7
  have bx12 := bx12.step k7
  have ow8 := ow8.below k7
  have ow10 := ow10.below k7
  have B7 := B6.trans (k7.mono z6)
  have z7 := B7.size
  clear k7 hg7
  have D0 : Hid (∀ W, Th.Reach w7.heap.size w7 W → ∀ i v, x.cs[i]? = some v → W.cell? ⟨w.heap.size, 0 + i, none⟩ = some v) := Lib.hid fun W hW => (bx.reach W hW).two0
  have D1 : Hid (∀ W, Th.Reach w7.heap.size w7 W → ∀ i v, y.cs[i]? = some v → W.cell? ⟨w.heap.size, 4 + i, none⟩ = some v) := Lib.hid fun W hW => (bx.reach W hW).two1
  have q8 := ow8.rd.reach
  have q10 := ow10.rd.reach
  have y12 := bx12.reach
  have y14 := bx14.reach
  refine wp_region_reach (by kernel_rfl) (by kernel_rfl) ?_
  repeat (first | go_big_quiet_skip | ((with_reducible refine onq_load (.tmp 43) ?_); refine wqr_load (r := x) (j := 0) rfl _ (.tmp 43) rfl st_rule rfl D0 ?_) | ((with_reducible refine onq_load (.tmp 47) ?_); refine wqr_load (r := x) (j := 0) rfl _ (.tmp 47) rfl st_rule rfl D0 ?_) | ((with_reducible refine onq_load (.tmp 54) ?_); refine wqr_load (r := x) (j := 0) rfl _ (.tmp 54) rfl st_rule rfl D0 ?_) | ((with_reducible refine onq_load (.tmp 56) ?_); refine wqr_load (r := y) (j := 4) rfl _ (.tmp 56) rfl st_rule rfl D1 ?_) | ((with_reducible refine onq_load (.tmp 59) ?_); refine wqr_load (r := x) (j := 0) rfl _ (.tmp 59) rfl st_rule rfl D0 ?_) | ((with_reducible refine onq_load (.tmp 61) ?_); refine wqr_load (r := y) (j := 4) rfl _ (.tmp 61) rfl st_rule rfl D1 ?_) | ((with_reducible refine onq_cv (.tmp 67) ?_); refine wq_strS rfl _ _ (.tmp 67) rfl el_u8 Try.underlying5 Try.underlying9 rfl q8 ?_) | ((with_reducible refine onq_cv (.tmp 69) ?_); refine wq_strS rfl _ _ (.tmp 69) rfl el_u8 Try.underlying5 Try.underlying9 rfl q10 ?_) | ((with_reducible refine onq_load (.tmp 12) ?_); refine wqr_box rfl _ (.tmp 12) rfl st_rule rfl y12 ?_) | ((with_reducible refine onq_load (.tmp 14) ?_); refine wqr_box rfl _ (.tmp 14) rfl st_rule rfl y14 ?_) | go_big_quiet_step (first | (with_reducible exact Calls.reach (K1.out _)) | (with_reducible exact Calls.reach (K2.out _)) | (with_reducible exact Calls.reach (K3.out _)) | (with_reducible exact Calls.reach (K4.out _))) | quiet_step (first | (with_reducible exact Calls.reach (K1.out _)) | (with_reducible exact Calls.reach (K2.out _)) | (with_reducible exact Calls.reach (K3.out _)) | (with_reducible exact Calls.reach (K4.out _))))
  refine wpQuiet_nil ?_
  rintro _ ⟨q, rfl⟩
  have hqw20 := q.h
  obtain ⟨w20, hw20'⟩ : ∃ W, q.w = W := ⟨_, rfl⟩
  rw [hw20'] at hqw20 ⊢
  clear hw20' q
  go_wp2
  go_ret
  exact ⟨rfl, B7.trans (hqw20.mono z7)⟩
end Go.Proofs.Ytijobfkmchbpcaa
