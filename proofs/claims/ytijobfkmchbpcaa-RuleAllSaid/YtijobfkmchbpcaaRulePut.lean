/-
  The walks of rule.fields, its readers, and rule.Put.
-/
import Derived.Test.YtijobfkmchbpcaaRuleMay
import Derived.Test.YtijobfkmchbpcaaNum
import Derived.Test.YtijobfkmchbpcaaAppend
import Derived.Test.YtijobfkmchbpcaaStore
namespace Go.Proofs.Ytijobfkmchbpcaa
open Go.RowKit Go.Th
set_option linter.unusedVariables false
/-- A row of the table: how many bytes; the reader; the setter. -/
def fcs : Nat → List Value
  | 0 => [.int .i64 4, .func (.func 52) #[] #[], .func (.func 53) #[] #[]]
  | 1 => [.int .i64 1, .func (.func 54) #[] #[], .func (.func 55) #[] #[]]
  | 2 => [.int .i64 1, .func (.func 56) #[] #[], .func (.func 57) #[] #[]]
  | _ => [.int .i64 2, .func (.func 58) #[] #[], .func (.func 59) #[] #[]]
theorem fcs_length : ∀ i, (fcs i).length = 3
  | 0 | 1 | 2 | _ + 3 => rfl
theorem fcs_one : ∀ i, ∀ u ∈ fcs i, u.oneCell' = true
  | 0 | 1 | 2 | _ + 3 => by
    intro u hu
    simp only [fcs, List.mem_cons, List.not_mem_nil, or_false] at hu
    rcases hu with rfl | rfl | rfl <;> rfl
theorem info_field : (Try.prog.info? 69).map (fun i => (i.zero, i.size, i.bytes)) = some (some (.agg #[.int .i64 0, .nilFunc, .nilFunc]), 3, 24) := by kernel_rfl
theorem size_field (w : World) : (sizeOf 69).run Try.prog w = .ok 3 w := by kernel_rfl
theorem el_field : ElM Try.prog 64 69 (.agg #[.int .i64 0, .nilFunc, .nilFunc]) 24 3 := ⟨Try.underlying64, info_parts info_field, rfl, size_field, by omega⟩
theorem st_field : St Try.prog 69 3 := ⟨⟨_, Try.underlying69⟩, by kernel_rfl⟩
theorem fields_any (w : World) : Calls Try.prog 42 #[] w fun e w' => ∃ A, e = .returned (.slice A 4 4) ∧ OwM fcs 3 w' w.heap.size 69 A 4 4 [0, 1, 2, 3] ∧ Below w.heap.size w w' := by
  go_enter Try.func42, Try.ntmps42
  go_wp2
  go_ret
  exact ⟨_, rfl, OwM.lit fcs_length w _ 4 (Nat.le_refl _) (by simp [maxLen]) rfl rfl, below_alloc w (Nat.le_refl _) _⟩
/-- The readers. -/
theorem get0 (r : Ru) (h : 0 ≤ r.a ∧ r.a ≤ 4294967295) (w : World) : Calls Try.prog 52 #[.agg #[.int .u32 r.a, .int .i64 r.n, .int .i64 r.act, .int .i64 r.next]] w fun e w' => e = .returned (.int .i64 r.a) ∧ Below w.heap.size w w' := by
  obtain ⟨h0, h1⟩ := h
  go_enter Try.func52, Try.ntmps52
  go_wp2
  go_ret
  exact ⟨rfl, below_alloc w (Nat.le_refl _) _⟩
theorem get1 (r : Ru) (w : World) : Calls Try.prog 54 #[.agg #[.int .u32 r.a, .int .i64 r.n, .int .i64 r.act, .int .i64 r.next]] w fun e w' => e = .returned (.int .i64 r.n) ∧ Below w.heap.size w w' := by
  go_enter Try.func54, Try.ntmps54
  go_wp2
  go_ret
  exact ⟨rfl, below_alloc w (Nat.le_refl _) _⟩
theorem get2 (r : Ru) (w : World) : Calls Try.prog 56 #[.agg #[.int .u32 r.a, .int .i64 r.n, .int .i64 r.act, .int .i64 r.next]] w fun e w' => e = .returned (.int .i64 r.act) ∧ Below w.heap.size w w' := by
  go_enter Try.func56, Try.ntmps56
  go_wp2
  go_ret
  exact ⟨rfl, below_alloc w (Nat.le_refl _) _⟩
theorem get3 (r : Ru) (w : World) : Calls Try.prog 58 #[.agg #[.int .u32 r.a, .int .i64 r.n, .int .i64 r.act, .int .i64 r.next]] w fun e w' => e = .returned (.int .i64 r.next) ∧ Below w.heap.size w w' := by
  go_enter Try.func58, Try.ntmps58
  go_wp2
  go_ret
  exact ⟨rfl, below_alloc w (Nat.le_refl _) _⟩
/-- A part of a rule: its number, and how many bytes it has. -/
def gv (r : Ru) : Nat → Int
  | 0 => r.a
  | 1 => r.n
  | 2 => r.act
  | _ => r.next
def gs : Nat → Nat
  | 0 => 4
  | 1 => 1
  | 2 => 1
  | _ => 2
def Fit1 (r : Ru) (i : Nat) : Prop := 0 ≤ gv r i ∧ gv r i < 256 ^ gs i
def pre (r : Ru) : Nat → List UInt8
  | 0 => []
  | k + 1 => pre r k ++ be (gv r k).toNat (gs k)
theorem pre_length (r : Ru) : (pre r 4).length = 8 := by simp [pre, be_length, gs]
theorem pre_le (r : Ru) : ∀ k, k ≤ 4 → (pre r k).length ≤ 8
  | 0, _ => by simp [pre]
  | 1, _ => by simp [pre, be_length, gs]
  | 2, _ => by simp [pre, be_length, gs]
  | 3, _ => by simp [pre, be_length, gs]
  | 4, _ => by simp [pre, be_length, gs]
  | k + 5, h => by omega
/-- A row of bytes of the call's own, and an error's number. -/
def RetBytes (bs : List UInt8) (er : Int) (w : World) (e : Ending) (w' : World) : Prop :=
  ∃ A n c, e = .returned (.tuple #[.slice A n c, .int .i64 er]) ∧ OwS bv w' w.heap.size 5 A n c bs ∧ Below w.heap.size w w'
def PutRel (r : Ru) (base b0 g gt : Nat) (w : World) (all i : Value) (wr : World) : Prop :=
  ∃ (k ga n c : Nat), k ≤ 4 ∧ all = .slice (some ⟨ga, 0, none⟩) n c ∧ i = .int .i64 k ∧ OwS bv wr base 5 (some ⟨ga, 0, none⟩) n c (pre r k) ∧ Hid (ga ≠ gt) ∧ n ≤ 8 ∧ Hid (∀ j, j < k → Fit1 r j) ∧ OwM fcs 3 wr base 69 (some ⟨gt, 0, none⟩) 4 4 [0, 1, 2, 3] ∧ Box wr g 25 r.cs.toArray ∧ Below b0 w wr
set_option maxHeartbeats 4000000 in
theorem rulePut (r : Ru) (h : 0 ≤ r.a ∧ r.a ≤ 4294967295) (w : World) : Calls Try.prog 22 #[.agg #[.int .u32 r.a, .int .i64 r.n, .int .i64 r.act, .int .i64 r.next]] w fun e w' =>
    ((∀ j, j < 4 → Fit1 r j) → RetBytes (pre r 4) 0 w e w') ∧ ((∃ j, j < 4 ∧ ¬ Fit1 r j) → RetBytes [] 1 w e w') := by
  go_enter Try.func22, Try.ntmps22
  go_wp2_with ((with_reducible refine on_make ?_); refine wl_make0S rfl _ _ _ rfl el_u8 (f := bv) (base := w.heap.size + 1) 8 rfl rfl (by omega) (by omega) (by omega) (by simp) ?_; intro g1 w1 hg1 how1 hb1)
  have hg1lt : g1 < w1.heap.size := by
    rcases how1.ow.form with ⟨e, _⟩ | ⟨g', e, _, hl⟩
    · cases e
    · injection e with e; injection e with e; subst e; exact hl
  have bx := (Box.new w r.cs.toArray 25).step hb1
  have B1 : Below w.heap.size w w1 := (below_alloc w (Nat.le_refl _) _).trans (hb1.mono (by simp))
  have z1 := B1.size
  refine (fields_any w1).mono ?_
  rintro e w2 ⟨At, rfl, how2, hb2⟩
  have bx2 := bx.step hb2
  have how1 := how1.below hb2
  have B2 := B1.trans (hb2.mono z1)
  have hg1' : w.heap.size + 1 ≤ w1.heap.size := by have := hb1.size; simpa using this
  obtain ⟨gt, rfl, hgt1, hgt2⟩ := how2.at0 (by omega)
  have hgt : g1 ≠ gt := by omega
  have Hgt := Lib.hid hgt
  have how2 := how2.base_le hg1'
  clear hb1 hb2 bx hgt B1
  go_wp2_with fail
  go_loopw [4, 6, 7, 8, 12] (fun all _ _ _ i wr => PutRel r (w.heap.size + 1) w.heap.size w.heap.size gt w all i wr) (fun _ _ _ _ i _ => 4 - (intOf i).toNat)
  case atStart => exact ⟨0, g1, 0, 8, by omega, rfl, rfl, how1, Hgt, by omega, (fun j hj => by omega), how2, bx2, B2⟩
  case round =>
    obtain ⟨k, ga, n, c, hk, rfl, rfl, how, hga, hn8, hfit, howt, hbx, hbr⟩ := hrel
    clear how1 how2 bx2 B2
    have zr := hbr.size
    have hbase := how.ow.form
    have hzb : w.heap.size + 1 ≤ wr.heap.size := by
      have := hbx.lt; omega
    by_cases hlt : k < 4
    · go_wp2_with (first
        | ((with_reducible refine on_index (.tmp 10) ?_); refine wm_at fcs_length rfl _ _ _ rfl el_field rfl rfl (by omega) (by omega) howt.rd ?_; intro b1 j1 x1 hx1 hbb1 hc1; have hxk : x1 = k := (by have e := hx1.out; rw [Int.toNat_natCast] at e; have : k = 0 ∨ k = 1 ∨ k = 2 ∨ k = 3 := (by omega); rcases this with h | h | h | h <;> (rw [h] at e; injection e with e; rw [h]; exact e.symm)); subst hxk)
        | ((with_reducible refine on_load (.tmp 14) ?_); refine wm_load rfl _ (.tmp 14) rfl st_field rfl (fcs_length _) hc1.out ?_)
        | ((with_reducible refine on_store_at (.tmp 6) ?_); refine wb_store rfl _ (.tmp 6) _ rfl st_field rfl rfl (Box.new _ _ _) rfl (by simp [fcs_length]) (by rw [Array.all_eq_true_iff_forall_mem]; intro u hu; exact fcs_one _ u (by simpa using hu)) ?_; intro w5 hbx5 hg5))
      have hb5 : Below w.heap.size w w5 := (hbr.alloc zr _).trans (below_of_grown hg5 (fun j e => by injection e with e; omega) (by have := zr; simp; omega))
      have z5 := hb5.size
      have how := (how.alloc (.cells #[.int .i64 0, .nilFunc, .nilFunc] 69)).grown hg5 (by
        intro g hg
        rcases how.ow.form with ⟨e, _⟩ | ⟨g', e, _, hl⟩
        · cases e
        · injection e with e; injection e with e; injection hg with hg; injection hg with hg; subst e; subst hg
          intro e2; injection e2 with e2; omega)
      have howt := (howt.alloc (.cells #[.int .i64 0, .nilFunc, .nilFunc] 69)).grown hg5 (by
        intro g hg
        rcases howt.ow.form with ⟨e, _⟩ | ⟨g', e, _, hl⟩
        · cases e
        · injection e with e; injection e with e; injection hg with hg; injection hg with hg; subst e; subst hg
          intro e2; injection e2 with e2; omega)
      have hbx := (hbx.alloc (.cells #[.int .i64 0, .nilFunc, .nilFunc] 69)).grown hg5 (fun e => by injection e with e; have := hbx.lt; omega)
      have y1 : ∀ w', Th.Reach w5.heap.size w5.drew w' → Box w' w.heap.size 25 r.cs.toArray := fun _ hw => hbx.drew.step hw.below
      have e0 : ∀ q : Step w5.heap.size w5.drew, q.w.cell? ⟨wr.heap.size, 0, none⟩ = (fcs x1)[0]? := fun q => by simpa using (hbx5.drew.step q.h).cell 0
      have e1 : ∀ q : Step w5.heap.size w5.drew, q.w.cell? ⟨wr.heap.size, 1, none⟩ = (fcs x1)[1]? := fun q => by simpa using (hbx5.drew.step q.h).cell 1
      clear hbr zr hg5 hbx5 hc1 hx1 hbase hzb
      have hzb5 : w.heap.size + 1 ≤ w5.heap.size := by have := hbx.lt; omega
      have hk4 : x1 = 0 ∨ x1 = 1 ∨ x1 = 2 ∨ x1 = 3 := by omega
      rcases hk4 with rfl | rfl | rfl | rfl
      · have f0 : ∀ q : Step w5.heap.size w5.drew, q.w.cell? ⟨wr.heap.size, 0, none⟩ = some (.int .i64 4) := e0
        have f1 : ∀ q : Step w5.heap.size w5.drew, q.w.cell? ⟨wr.heap.size, 1, none⟩ = some (.func (.func 52) #[] #[]) := e1
        clear e0 e1
        by_cases hf : 0 ≤ r.a ∧ r.a < 256 ^ 4
        · have Hf := Lib.hid hf
          clear hf
          refine wp_region_tree (.float 0 3 (.float 4 2 (.one 3 (.one 6 (.float 7 5 .done))))) (Th.Reach w5.heap.size) (Th.Reach.trans _) (Th.Reach.refl _) (by kernel_rfl) (by kernel_rfl) (fun KT hKT => ?_)
          refine wpTree_float (fun KF hKF => ?_)
          simp only [List.drop, List.take]
          repeat (first | go_big_quiet_skip | ((with_reducible refine onq_load (.tmp 1) ?_); refine wqr_box rfl _ (.tmp 1) rfl st_rule rfl y1 ?_) | go_big_quiet_step (fail) | quiet_step (fail))
          refine wpQuiet_nil ?_
          refine hKF _ ?_
          clear hKF KF
          refine wpTree_float (fun KF hKF => ?_)
          simp only [List.drop, List.take]
          repeat (first | go_big_quiet_skip | ((with_reducible refine onq_load (.tmp 1) ?_); refine wqr_box rfl _ (.tmp 1) rfl st_rule rfl y1 ?_) | go_big_quiet_step (fail) | quiet_step (fail))
          refine wpQuiet_nil ?_
          refine hKF _ ?_
          clear hKF KF
          refine wpTree_one (fun KO hKO => ?_)
          simp only [List.drop, List.take]
          go_wp2_with (first | (go_at_call 52; refine (get0 r h w5.drew).mono ?_; rintro e w6 ⟨rfl, hb6⟩; have hb6 : Below w5.heap.size w5.drew w6 := hb6; have z6 : w5.heap.size ≤ w6.heap.size := hb6.size) | (go_at_call 25; refine (put_yes r.a 4 w6 (by omega) (by omega) Hf.out.1 (by have := Hf.out; omega)).mono ?_; rintro e w7 ⟨A7, c7, rfl, how7, hb7⟩; have z7 := hb7.size))
          refine anch_end (Th.Reach.of (by first | exact Below.refl _ _ | exact below_alloc _ (by first | omega | (simp; done) | (simp; omega)) _ | exact below_alloc2 _ (by first | omega | (simp; done) | (simp; omega)) _ _ | exact below_alloc2d _ (by simp) _ _ | exact bdrew _ _ | assumption | (exact Below.mono (by assumption) (by first | (simp; done) | (simp; omega) | omega | assumption)))) (hKO _ _ ?_)
          clear hKO KO
          refine wpTree_one (fun KO hKO => ?_)
          simp only [List.drop, List.take]
          go_wp2_with (first | (go_at_call 52; refine (get0 r h w5.drew).mono ?_; rintro e w6 ⟨rfl, hb6⟩; have hb6 : Below w5.heap.size w5.drew w6 := hb6; have z6 : w5.heap.size ≤ w6.heap.size := hb6.size) | (go_at_call 25; refine (put_yes r.a 4 w6 (by omega) (by omega) Hf.out.1 (by have := Hf.out; omega)).mono ?_; rintro e w7 ⟨A7, c7, rfl, how7, hb7⟩; have z7 := hb7.size))
          refine anch_end (Th.Reach.of (by first | exact Below.refl _ _ | exact below_alloc _ (by first | omega | (simp; done) | (simp; omega)) _ | exact below_alloc2 _ (by first | omega | (simp; done) | (simp; omega)) _ _ | exact below_alloc2d _ (by simp) _ _ | exact bdrew _ _ | assumption | (exact Below.mono (by assumption) (by first | (simp; done) | (simp; omega) | omega | assumption)))) (hKO _ _ ?_)
          clear hKO KO
          refine wpTree_float (fun KF hKF => ?_)
          simp only [List.drop, List.take]
          repeat (first | go_big_quiet_skip | ((with_reducible refine onq_load (.tmp 1) ?_); refine wqr_box rfl _ (.tmp 1) rfl st_rule rfl y1 ?_) | go_big_quiet_step (fail) | quiet_step (fail))
          refine wpQuiet_nil ?_
          refine hKF _ ?_
          clear hKF KF
          refine wpTree_done ?_
          refine hKT _ _ ?_
          clear hKT KT
          have b57 : Below w5.heap.size w5 w7 := (bdrew1 w5).trans (hb6.trans (hb7.mono z6))
          have howg := how.below b57
          have howtg := howt.below b57
          have hbxg := hbx.step b57
          have B7 := hb5.trans (b57.mono z5)
          clear how howt hbx y1 f0 f1
          go_wp2_with ((with_reducible refine on_append (.tmp 29) (.tmp 30) ?_); refine wl_appendA rfl (.tmp 29) (.tmp 30) _ rfl el_u8 (f := bv) (fun _ => rfl) rfl howg rfl how7.rd (by omega) (by omega) (by omega) ?_; intro A8 c8 w8 how8 hg8 hb8 hA8)
          have hgt7 : gt < w7.heap.size := by
            rcases howtg.ow.form with ⟨e, _⟩ | ⟨g', e, _, hl⟩
            · cases e
            · injection e with e; injection e with e; omega
          have hgab : w.heap.size + 1 ≤ ga := by
            rcases howg.ow.form with ⟨e, _⟩ | ⟨g', e, hb, _⟩
            · cases e
            · injection e with e; injection e with e; omega
          have hne1 : ∀ g, (some (⟨gt, 0, none⟩ : Addr)) = some ⟨g, 0, none⟩ → rowOf (some ⟨ga, 0, none⟩) ≠ some g := fun g hg e => by
            simp only [rowOf, Option.some.injEq, Addr.mk.injEq, and_true] at hg e
            exact hga.out (by omega)
          have hne2 : rowOf (some ⟨ga, 0, none⟩) ≠ some w.heap.size := fun e => by
            simp only [rowOf, Option.some.injEq] at e
            omega
          have hga8 : ∃ ga', A8 = some ⟨ga', 0, none⟩ ∧ ga' ≠ gt := by
            rcases hA8 with e | e
            · exact ⟨_, e, hga.out⟩
            · exact ⟨_, e, by omega⟩
          obtain ⟨ga', rfl, hga'⟩ := hga8
          have Hga' := Lib.hid hga'
          clear hga' hA8
          have hl8 := pre_le r 1 (by omega)
          have e8 : pre r 0 ++ be r.a.toNat 4 = pre r 1 := rfl
          rw [e8] at how8
          have ln8 := how8.len
          go_roundw
          case rel => exact ⟨1, ga', _, c8, by omega, rfl, by first | rfl | go_num, how8, Hga', by omega, (fun j hj => by
            rcases Nat.lt_or_ge j 0 with h | h
            · exact hfit.out j h
            · have : j = 0 := by omega
              subst this
              exact Hf.out), howtg.grown hg8 hne1, hbxg.grown hg8 hne2, B7.trans (hb8.mono (by omega))⟩
          case measure => simp [intOf]
        · have hnf : r.a < 0 ∨ 256 ^ 4 ≤ r.a := by omega
          have Hf := Lib.hid hf
          have Hnf := Lib.hid hnf
          clear hf hnf
          refine wp_region_tree (.float 0 3 (.float 4 2 (.one 3 (.one 6 (.float 7 5 .done))))) (Th.Reach w5.heap.size) (Th.Reach.trans _) (Th.Reach.refl _) (by kernel_rfl) (by kernel_rfl) (fun KT hKT => ?_)
          refine wpTree_float (fun KF hKF => ?_)
          simp only [List.drop, List.take]
          repeat (first | go_big_quiet_skip | ((with_reducible refine onq_load (.tmp 1) ?_); refine wqr_box rfl _ (.tmp 1) rfl st_rule rfl y1 ?_) | go_big_quiet_step (fail) | quiet_step (fail))
          refine wpQuiet_nil ?_
          refine hKF _ ?_
          clear hKF KF
          refine wpTree_float (fun KF hKF => ?_)
          simp only [List.drop, List.take]
          repeat (first | go_big_quiet_skip | ((with_reducible refine onq_load (.tmp 1) ?_); refine wqr_box rfl _ (.tmp 1) rfl st_rule rfl y1 ?_) | go_big_quiet_step (fail) | quiet_step (fail))
          refine wpQuiet_nil ?_
          refine hKF _ ?_
          clear hKF KF
          refine wpTree_one (fun KO hKO => ?_)
          simp only [List.drop, List.take]
          go_wp2_with (first | (go_at_call 52; refine (get0 r h w5.drew).mono ?_; rintro e w6 ⟨rfl, hb6⟩; have hb6 : Below w5.heap.size w5.drew w6 := hb6; have z6 : w5.heap.size ≤ w6.heap.size := hb6.size) | (go_at_call 25; refine (put_out r.a 4 w6 (by omega) (by omega) Hnf.out).mono ?_; rintro e w7 ⟨rfl, rfl⟩))
          refine anch_end (Th.Reach.of (by first | exact Below.refl _ _ | exact below_alloc _ (by first | omega | (simp; done) | (simp; omega)) _ | exact below_alloc2 _ (by first | omega | (simp; done) | (simp; omega)) _ _ | exact below_alloc2d _ (by simp) _ _ | exact bdrew _ _ | assumption | (exact Below.mono (by assumption) (by first | (simp; done) | (simp; omega) | omega | assumption)))) (hKO _ _ ?_)
          clear hKO KO
          refine wpTree_one (fun KO hKO => ?_)
          simp only [List.drop, List.take]
          go_wp2_with (first | (go_at_call 52; refine (get0 r h w5.drew).mono ?_; rintro e w6 ⟨rfl, hb6⟩; have hb6 : Below w5.heap.size w5.drew w6 := hb6; have z6 : w5.heap.size ≤ w6.heap.size := hb6.size) | (go_at_call 25; refine (put_out r.a 4 w6 (by omega) (by omega) Hnf.out).mono ?_; rintro e w7 ⟨rfl, rfl⟩))
          refine anch_end (Th.Reach.of (by first | exact Below.refl _ _ | exact below_alloc _ (by first | omega | (simp; done) | (simp; omega)) _ | exact below_alloc2 _ (by first | omega | (simp; done) | (simp; omega)) _ _ | exact below_alloc2d _ (by simp) _ _ | exact bdrew _ _ | assumption | (exact Below.mono (by assumption) (by first | (simp; done) | (simp; omega) | omega | assumption)))) (hKO _ _ ?_)
          clear hKO KO
          refine wpTree_float (fun KF hKF => ?_)
          simp only [List.drop, List.take]
          repeat (first | go_big_quiet_skip | ((with_reducible refine onq_load (.tmp 1) ?_); refine wqr_box rfl _ (.tmp 1) rfl st_rule rfl y1 ?_) | go_big_quiet_step (fail) | quiet_step (fail))
          refine wpQuiet_nil ?_
          refine hKF _ ?_
          clear hKF KF
          refine wpTree_done ?_
          refine hKT _ _ ?_
          clear hKT KT
          have b57 : Below w5.heap.size w5 w6 := (bdrew1 w5).trans hb6
          have B7 := hb5.trans (b57.mono z5)
          go_wp2
          go_ret2
          exact ⟨fun hall => absurd (hall 0 (by omega)) Hf.out, fun _ => ⟨none, 0, 0, rfl, OwS.nil_ _ _ _, B7⟩⟩
      · have f0 : ∀ q : Step w5.heap.size w5.drew, q.w.cell? ⟨wr.heap.size, 0, none⟩ = some (.int .i64 1) := e0
        have f1 : ∀ q : Step w5.heap.size w5.drew, q.w.cell? ⟨wr.heap.size, 1, none⟩ = some (.func (.func 54) #[] #[]) := e1
        clear e0 e1
        by_cases hf : 0 ≤ r.n ∧ r.n < 256 ^ 1
        · have Hf := Lib.hid hf
          clear hf
          refine wp_region_tree (.float 0 3 (.float 4 2 (.one 3 (.one 6 (.float 7 5 .done))))) (Th.Reach w5.heap.size) (Th.Reach.trans _) (Th.Reach.refl _) (by kernel_rfl) (by kernel_rfl) (fun KT hKT => ?_)
          refine wpTree_float (fun KF hKF => ?_)
          simp only [List.drop, List.take]
          repeat (first | go_big_quiet_skip | ((with_reducible refine onq_load (.tmp 1) ?_); refine wqr_box rfl _ (.tmp 1) rfl st_rule rfl y1 ?_) | go_big_quiet_step (fail) | quiet_step (fail))
          refine wpQuiet_nil ?_
          refine hKF _ ?_
          clear hKF KF
          refine wpTree_float (fun KF hKF => ?_)
          simp only [List.drop, List.take]
          repeat (first | go_big_quiet_skip | ((with_reducible refine onq_load (.tmp 1) ?_); refine wqr_box rfl _ (.tmp 1) rfl st_rule rfl y1 ?_) | go_big_quiet_step (fail) | quiet_step (fail))
          refine wpQuiet_nil ?_
          refine hKF _ ?_
          clear hKF KF
          refine wpTree_one (fun KO hKO => ?_)
          simp only [List.drop, List.take]
          go_wp2_with (first | (go_at_call 54; refine (get1 r w5.drew).mono ?_; rintro e w6 ⟨rfl, hb6⟩; have hb6 : Below w5.heap.size w5.drew w6 := hb6; have z6 : w5.heap.size ≤ w6.heap.size := hb6.size) | (go_at_call 25; refine (put_yes r.n 1 w6 (by omega) (by omega) Hf.out.1 (by have := Hf.out; omega)).mono ?_; rintro e w7 ⟨A7, c7, rfl, how7, hb7⟩; have z7 := hb7.size))
          refine anch_end (Th.Reach.of (by first | exact Below.refl _ _ | exact below_alloc _ (by first | omega | (simp; done) | (simp; omega)) _ | exact below_alloc2 _ (by first | omega | (simp; done) | (simp; omega)) _ _ | exact below_alloc2d _ (by simp) _ _ | exact bdrew _ _ | assumption | (exact Below.mono (by assumption) (by first | (simp; done) | (simp; omega) | omega | assumption)))) (hKO _ _ ?_)
          clear hKO KO
          refine wpTree_one (fun KO hKO => ?_)
          simp only [List.drop, List.take]
          go_wp2_with (first | (go_at_call 54; refine (get1 r w5.drew).mono ?_; rintro e w6 ⟨rfl, hb6⟩; have hb6 : Below w5.heap.size w5.drew w6 := hb6; have z6 : w5.heap.size ≤ w6.heap.size := hb6.size) | (go_at_call 25; refine (put_yes r.n 1 w6 (by omega) (by omega) Hf.out.1 (by have := Hf.out; omega)).mono ?_; rintro e w7 ⟨A7, c7, rfl, how7, hb7⟩; have z7 := hb7.size))
          refine anch_end (Th.Reach.of (by first | exact Below.refl _ _ | exact below_alloc _ (by first | omega | (simp; done) | (simp; omega)) _ | exact below_alloc2 _ (by first | omega | (simp; done) | (simp; omega)) _ _ | exact below_alloc2d _ (by simp) _ _ | exact bdrew _ _ | assumption | (exact Below.mono (by assumption) (by first | (simp; done) | (simp; omega) | omega | assumption)))) (hKO _ _ ?_)
          clear hKO KO
          refine wpTree_float (fun KF hKF => ?_)
          simp only [List.drop, List.take]
          repeat (first | go_big_quiet_skip | ((with_reducible refine onq_load (.tmp 1) ?_); refine wqr_box rfl _ (.tmp 1) rfl st_rule rfl y1 ?_) | go_big_quiet_step (fail) | quiet_step (fail))
          refine wpQuiet_nil ?_
          refine hKF _ ?_
          clear hKF KF
          refine wpTree_done ?_
          refine hKT _ _ ?_
          clear hKT KT
          have b57 : Below w5.heap.size w5 w7 := (bdrew1 w5).trans (hb6.trans (hb7.mono z6))
          have howg := how.below b57
          have howtg := howt.below b57
          have hbxg := hbx.step b57
          have B7 := hb5.trans (b57.mono z5)
          clear how howt hbx y1 f0 f1
          go_wp2_with ((with_reducible refine on_append (.tmp 29) (.tmp 30) ?_); refine wl_appendA rfl (.tmp 29) (.tmp 30) _ rfl el_u8 (f := bv) (fun _ => rfl) rfl howg rfl how7.rd (by omega) (by omega) (by omega) ?_; intro A8 c8 w8 how8 hg8 hb8 hA8)
          have hgt7 : gt < w7.heap.size := by
            rcases howtg.ow.form with ⟨e, _⟩ | ⟨g', e, _, hl⟩
            · cases e
            · injection e with e; injection e with e; omega
          have hgab : w.heap.size + 1 ≤ ga := by
            rcases howg.ow.form with ⟨e, _⟩ | ⟨g', e, hb, _⟩
            · cases e
            · injection e with e; injection e with e; omega
          have hne1 : ∀ g, (some (⟨gt, 0, none⟩ : Addr)) = some ⟨g, 0, none⟩ → rowOf (some ⟨ga, 0, none⟩) ≠ some g := fun g hg e => by
            simp only [rowOf, Option.some.injEq, Addr.mk.injEq, and_true] at hg e
            exact hga.out (by omega)
          have hne2 : rowOf (some ⟨ga, 0, none⟩) ≠ some w.heap.size := fun e => by
            simp only [rowOf, Option.some.injEq] at e
            omega
          have hga8 : ∃ ga', A8 = some ⟨ga', 0, none⟩ ∧ ga' ≠ gt := by
            rcases hA8 with e | e
            · exact ⟨_, e, hga.out⟩
            · exact ⟨_, e, by omega⟩
          obtain ⟨ga', rfl, hga'⟩ := hga8
          have Hga' := Lib.hid hga'
          clear hga' hA8
          have hl8 := pre_le r 2 (by omega)
          have e8 : pre r 1 ++ be r.n.toNat 1 = pre r 2 := rfl
          rw [e8] at how8
          have ln8 := how8.len
          go_roundw
          case rel => exact ⟨2, ga', _, c8, by omega, rfl, by first | rfl | go_num, how8, Hga', by omega, (fun j hj => by
            rcases Nat.lt_or_ge j 1 with h | h
            · exact hfit.out j h
            · have : j = 1 := by omega
              subst this
              exact Hf.out), howtg.grown hg8 hne1, hbxg.grown hg8 hne2, B7.trans (hb8.mono (by omega))⟩
          case measure => simp [intOf]
        · have hnf : r.n < 0 ∨ 256 ^ 1 ≤ r.n := by omega
          have Hf := Lib.hid hf
          have Hnf := Lib.hid hnf
          clear hf hnf
          refine wp_region_tree (.float 0 3 (.float 4 2 (.one 3 (.one 6 (.float 7 5 .done))))) (Th.Reach w5.heap.size) (Th.Reach.trans _) (Th.Reach.refl _) (by kernel_rfl) (by kernel_rfl) (fun KT hKT => ?_)
          refine wpTree_float (fun KF hKF => ?_)
          simp only [List.drop, List.take]
          repeat (first | go_big_quiet_skip | ((with_reducible refine onq_load (.tmp 1) ?_); refine wqr_box rfl _ (.tmp 1) rfl st_rule rfl y1 ?_) | go_big_quiet_step (fail) | quiet_step (fail))
          refine wpQuiet_nil ?_
          refine hKF _ ?_
          clear hKF KF
          refine wpTree_float (fun KF hKF => ?_)
          simp only [List.drop, List.take]
          repeat (first | go_big_quiet_skip | ((with_reducible refine onq_load (.tmp 1) ?_); refine wqr_box rfl _ (.tmp 1) rfl st_rule rfl y1 ?_) | go_big_quiet_step (fail) | quiet_step (fail))
          refine wpQuiet_nil ?_
          refine hKF _ ?_
          clear hKF KF
          refine wpTree_one (fun KO hKO => ?_)
          simp only [List.drop, List.take]
          go_wp2_with (first | (go_at_call 54; refine (get1 r w5.drew).mono ?_; rintro e w6 ⟨rfl, hb6⟩; have hb6 : Below w5.heap.size w5.drew w6 := hb6; have z6 : w5.heap.size ≤ w6.heap.size := hb6.size) | (go_at_call 25; refine (put_out r.n 1 w6 (by omega) (by omega) Hnf.out).mono ?_; rintro e w7 ⟨rfl, rfl⟩))
          refine anch_end (Th.Reach.of (by first | exact Below.refl _ _ | exact below_alloc _ (by first | omega | (simp; done) | (simp; omega)) _ | exact below_alloc2 _ (by first | omega | (simp; done) | (simp; omega)) _ _ | exact below_alloc2d _ (by simp) _ _ | exact bdrew _ _ | assumption | (exact Below.mono (by assumption) (by first | (simp; done) | (simp; omega) | omega | assumption)))) (hKO _ _ ?_)
          clear hKO KO
          refine wpTree_one (fun KO hKO => ?_)
          simp only [List.drop, List.take]
          go_wp2_with (first | (go_at_call 54; refine (get1 r w5.drew).mono ?_; rintro e w6 ⟨rfl, hb6⟩; have hb6 : Below w5.heap.size w5.drew w6 := hb6; have z6 : w5.heap.size ≤ w6.heap.size := hb6.size) | (go_at_call 25; refine (put_out r.n 1 w6 (by omega) (by omega) Hnf.out).mono ?_; rintro e w7 ⟨rfl, rfl⟩))
          refine anch_end (Th.Reach.of (by first | exact Below.refl _ _ | exact below_alloc _ (by first | omega | (simp; done) | (simp; omega)) _ | exact below_alloc2 _ (by first | omega | (simp; done) | (simp; omega)) _ _ | exact below_alloc2d _ (by simp) _ _ | exact bdrew _ _ | assumption | (exact Below.mono (by assumption) (by first | (simp; done) | (simp; omega) | omega | assumption)))) (hKO _ _ ?_)
          clear hKO KO
          refine wpTree_float (fun KF hKF => ?_)
          simp only [List.drop, List.take]
          repeat (first | go_big_quiet_skip | ((with_reducible refine onq_load (.tmp 1) ?_); refine wqr_box rfl _ (.tmp 1) rfl st_rule rfl y1 ?_) | go_big_quiet_step (fail) | quiet_step (fail))
          refine wpQuiet_nil ?_
          refine hKF _ ?_
          clear hKF KF
          refine wpTree_done ?_
          refine hKT _ _ ?_
          clear hKT KT
          have b57 : Below w5.heap.size w5 w6 := (bdrew1 w5).trans hb6
          have B7 := hb5.trans (b57.mono z5)
          go_wp2
          go_ret2
          exact ⟨fun hall => absurd (hall 1 (by omega)) Hf.out, fun _ => ⟨none, 0, 0, rfl, OwS.nil_ _ _ _, B7⟩⟩
      · have f0 : ∀ q : Step w5.heap.size w5.drew, q.w.cell? ⟨wr.heap.size, 0, none⟩ = some (.int .i64 1) := e0
        have f1 : ∀ q : Step w5.heap.size w5.drew, q.w.cell? ⟨wr.heap.size, 1, none⟩ = some (.func (.func 56) #[] #[]) := e1
        clear e0 e1
        by_cases hf : 0 ≤ r.act ∧ r.act < 256 ^ 1
        · have Hf := Lib.hid hf
          clear hf
          refine wp_region_tree (.float 0 3 (.float 4 2 (.one 3 (.one 6 (.float 7 5 .done))))) (Th.Reach w5.heap.size) (Th.Reach.trans _) (Th.Reach.refl _) (by kernel_rfl) (by kernel_rfl) (fun KT hKT => ?_)
          refine wpTree_float (fun KF hKF => ?_)
          simp only [List.drop, List.take]
          repeat (first | go_big_quiet_skip | ((with_reducible refine onq_load (.tmp 1) ?_); refine wqr_box rfl _ (.tmp 1) rfl st_rule rfl y1 ?_) | go_big_quiet_step (fail) | quiet_step (fail))
          refine wpQuiet_nil ?_
          refine hKF _ ?_
          clear hKF KF
          refine wpTree_float (fun KF hKF => ?_)
          simp only [List.drop, List.take]
          repeat (first | go_big_quiet_skip | ((with_reducible refine onq_load (.tmp 1) ?_); refine wqr_box rfl _ (.tmp 1) rfl st_rule rfl y1 ?_) | go_big_quiet_step (fail) | quiet_step (fail))
          refine wpQuiet_nil ?_
          refine hKF _ ?_
          clear hKF KF
          refine wpTree_one (fun KO hKO => ?_)
          simp only [List.drop, List.take]
          go_wp2_with (first | (go_at_call 56; refine (get2 r w5.drew).mono ?_; rintro e w6 ⟨rfl, hb6⟩; have hb6 : Below w5.heap.size w5.drew w6 := hb6; have z6 : w5.heap.size ≤ w6.heap.size := hb6.size) | (go_at_call 25; refine (put_yes r.act 1 w6 (by omega) (by omega) Hf.out.1 (by have := Hf.out; omega)).mono ?_; rintro e w7 ⟨A7, c7, rfl, how7, hb7⟩; have z7 := hb7.size))
          refine anch_end (Th.Reach.of (by first | exact Below.refl _ _ | exact below_alloc _ (by first | omega | (simp; done) | (simp; omega)) _ | exact below_alloc2 _ (by first | omega | (simp; done) | (simp; omega)) _ _ | exact below_alloc2d _ (by simp) _ _ | exact bdrew _ _ | assumption | (exact Below.mono (by assumption) (by first | (simp; done) | (simp; omega) | omega | assumption)))) (hKO _ _ ?_)
          clear hKO KO
          refine wpTree_one (fun KO hKO => ?_)
          simp only [List.drop, List.take]
          go_wp2_with (first | (go_at_call 56; refine (get2 r w5.drew).mono ?_; rintro e w6 ⟨rfl, hb6⟩; have hb6 : Below w5.heap.size w5.drew w6 := hb6; have z6 : w5.heap.size ≤ w6.heap.size := hb6.size) | (go_at_call 25; refine (put_yes r.act 1 w6 (by omega) (by omega) Hf.out.1 (by have := Hf.out; omega)).mono ?_; rintro e w7 ⟨A7, c7, rfl, how7, hb7⟩; have z7 := hb7.size))
          refine anch_end (Th.Reach.of (by first | exact Below.refl _ _ | exact below_alloc _ (by first | omega | (simp; done) | (simp; omega)) _ | exact below_alloc2 _ (by first | omega | (simp; done) | (simp; omega)) _ _ | exact below_alloc2d _ (by simp) _ _ | exact bdrew _ _ | assumption | (exact Below.mono (by assumption) (by first | (simp; done) | (simp; omega) | omega | assumption)))) (hKO _ _ ?_)
          clear hKO KO
          refine wpTree_float (fun KF hKF => ?_)
          simp only [List.drop, List.take]
          repeat (first | go_big_quiet_skip | ((with_reducible refine onq_load (.tmp 1) ?_); refine wqr_box rfl _ (.tmp 1) rfl st_rule rfl y1 ?_) | go_big_quiet_step (fail) | quiet_step (fail))
          refine wpQuiet_nil ?_
          refine hKF _ ?_
          clear hKF KF
          refine wpTree_done ?_
          refine hKT _ _ ?_
          clear hKT KT
          have b57 : Below w5.heap.size w5 w7 := (bdrew1 w5).trans (hb6.trans (hb7.mono z6))
          have howg := how.below b57
          have howtg := howt.below b57
          have hbxg := hbx.step b57
          have B7 := hb5.trans (b57.mono z5)
          clear how howt hbx y1 f0 f1
          go_wp2_with ((with_reducible refine on_append (.tmp 29) (.tmp 30) ?_); refine wl_appendA rfl (.tmp 29) (.tmp 30) _ rfl el_u8 (f := bv) (fun _ => rfl) rfl howg rfl how7.rd (by omega) (by omega) (by omega) ?_; intro A8 c8 w8 how8 hg8 hb8 hA8)
          have hgt7 : gt < w7.heap.size := by
            rcases howtg.ow.form with ⟨e, _⟩ | ⟨g', e, _, hl⟩
            · cases e
            · injection e with e; injection e with e; omega
          have hgab : w.heap.size + 1 ≤ ga := by
            rcases howg.ow.form with ⟨e, _⟩ | ⟨g', e, hb, _⟩
            · cases e
            · injection e with e; injection e with e; omega
          have hne1 : ∀ g, (some (⟨gt, 0, none⟩ : Addr)) = some ⟨g, 0, none⟩ → rowOf (some ⟨ga, 0, none⟩) ≠ some g := fun g hg e => by
            simp only [rowOf, Option.some.injEq, Addr.mk.injEq, and_true] at hg e
            exact hga.out (by omega)
          have hne2 : rowOf (some ⟨ga, 0, none⟩) ≠ some w.heap.size := fun e => by
            simp only [rowOf, Option.some.injEq] at e
            omega
          have hga8 : ∃ ga', A8 = some ⟨ga', 0, none⟩ ∧ ga' ≠ gt := by
            rcases hA8 with e | e
            · exact ⟨_, e, hga.out⟩
            · exact ⟨_, e, by omega⟩
          obtain ⟨ga', rfl, hga'⟩ := hga8
          have Hga' := Lib.hid hga'
          clear hga' hA8
          have hl8 := pre_le r 3 (by omega)
          have e8 : pre r 2 ++ be r.act.toNat 1 = pre r 3 := rfl
          rw [e8] at how8
          have ln8 := how8.len
          go_roundw
          case rel => exact ⟨3, ga', _, c8, by omega, rfl, by first | rfl | go_num, how8, Hga', by omega, (fun j hj => by
            rcases Nat.lt_or_ge j 2 with h | h
            · exact hfit.out j h
            · have : j = 2 := by omega
              subst this
              exact Hf.out), howtg.grown hg8 hne1, hbxg.grown hg8 hne2, B7.trans (hb8.mono (by omega))⟩
          case measure => simp [intOf]
        · have hnf : r.act < 0 ∨ 256 ^ 1 ≤ r.act := by omega
          have Hf := Lib.hid hf
          have Hnf := Lib.hid hnf
          clear hf hnf
          refine wp_region_tree (.float 0 3 (.float 4 2 (.one 3 (.one 6 (.float 7 5 .done))))) (Th.Reach w5.heap.size) (Th.Reach.trans _) (Th.Reach.refl _) (by kernel_rfl) (by kernel_rfl) (fun KT hKT => ?_)
          refine wpTree_float (fun KF hKF => ?_)
          simp only [List.drop, List.take]
          repeat (first | go_big_quiet_skip | ((with_reducible refine onq_load (.tmp 1) ?_); refine wqr_box rfl _ (.tmp 1) rfl st_rule rfl y1 ?_) | go_big_quiet_step (fail) | quiet_step (fail))
          refine wpQuiet_nil ?_
          refine hKF _ ?_
          clear hKF KF
          refine wpTree_float (fun KF hKF => ?_)
          simp only [List.drop, List.take]
          repeat (first | go_big_quiet_skip | ((with_reducible refine onq_load (.tmp 1) ?_); refine wqr_box rfl _ (.tmp 1) rfl st_rule rfl y1 ?_) | go_big_quiet_step (fail) | quiet_step (fail))
          refine wpQuiet_nil ?_
          refine hKF _ ?_
          clear hKF KF
          refine wpTree_one (fun KO hKO => ?_)
          simp only [List.drop, List.take]
          go_wp2_with (first | (go_at_call 56; refine (get2 r w5.drew).mono ?_; rintro e w6 ⟨rfl, hb6⟩; have hb6 : Below w5.heap.size w5.drew w6 := hb6; have z6 : w5.heap.size ≤ w6.heap.size := hb6.size) | (go_at_call 25; refine (put_out r.act 1 w6 (by omega) (by omega) Hnf.out).mono ?_; rintro e w7 ⟨rfl, rfl⟩))
          refine anch_end (Th.Reach.of (by first | exact Below.refl _ _ | exact below_alloc _ (by first | omega | (simp; done) | (simp; omega)) _ | exact below_alloc2 _ (by first | omega | (simp; done) | (simp; omega)) _ _ | exact below_alloc2d _ (by simp) _ _ | exact bdrew _ _ | assumption | (exact Below.mono (by assumption) (by first | (simp; done) | (simp; omega) | omega | assumption)))) (hKO _ _ ?_)
          clear hKO KO
          refine wpTree_one (fun KO hKO => ?_)
          simp only [List.drop, List.take]
          go_wp2_with (first | (go_at_call 56; refine (get2 r w5.drew).mono ?_; rintro e w6 ⟨rfl, hb6⟩; have hb6 : Below w5.heap.size w5.drew w6 := hb6; have z6 : w5.heap.size ≤ w6.heap.size := hb6.size) | (go_at_call 25; refine (put_out r.act 1 w6 (by omega) (by omega) Hnf.out).mono ?_; rintro e w7 ⟨rfl, rfl⟩))
          refine anch_end (Th.Reach.of (by first | exact Below.refl _ _ | exact below_alloc _ (by first | omega | (simp; done) | (simp; omega)) _ | exact below_alloc2 _ (by first | omega | (simp; done) | (simp; omega)) _ _ | exact below_alloc2d _ (by simp) _ _ | exact bdrew _ _ | assumption | (exact Below.mono (by assumption) (by first | (simp; done) | (simp; omega) | omega | assumption)))) (hKO _ _ ?_)
          clear hKO KO
          refine wpTree_float (fun KF hKF => ?_)
          simp only [List.drop, List.take]
          repeat (first | go_big_quiet_skip | ((with_reducible refine onq_load (.tmp 1) ?_); refine wqr_box rfl _ (.tmp 1) rfl st_rule rfl y1 ?_) | go_big_quiet_step (fail) | quiet_step (fail))
          refine wpQuiet_nil ?_
          refine hKF _ ?_
          clear hKF KF
          refine wpTree_done ?_
          refine hKT _ _ ?_
          clear hKT KT
          have b57 : Below w5.heap.size w5 w6 := (bdrew1 w5).trans hb6
          have B7 := hb5.trans (b57.mono z5)
          go_wp2
          go_ret2
          exact ⟨fun hall => absurd (hall 2 (by omega)) Hf.out, fun _ => ⟨none, 0, 0, rfl, OwS.nil_ _ _ _, B7⟩⟩
      · have f0 : ∀ q : Step w5.heap.size w5.drew, q.w.cell? ⟨wr.heap.size, 0, none⟩ = some (.int .i64 2) := e0
        have f1 : ∀ q : Step w5.heap.size w5.drew, q.w.cell? ⟨wr.heap.size, 1, none⟩ = some (.func (.func 58) #[] #[]) := e1
        clear e0 e1
        by_cases hf : 0 ≤ r.next ∧ r.next < 256 ^ 2
        · have Hf := Lib.hid hf
          clear hf
          refine wp_region_tree (.float 0 3 (.float 4 2 (.one 3 (.one 6 (.float 7 5 .done))))) (Th.Reach w5.heap.size) (Th.Reach.trans _) (Th.Reach.refl _) (by kernel_rfl) (by kernel_rfl) (fun KT hKT => ?_)
          refine wpTree_float (fun KF hKF => ?_)
          simp only [List.drop, List.take]
          repeat (first | go_big_quiet_skip | ((with_reducible refine onq_load (.tmp 1) ?_); refine wqr_box rfl _ (.tmp 1) rfl st_rule rfl y1 ?_) | go_big_quiet_step (fail) | quiet_step (fail))
          refine wpQuiet_nil ?_
          refine hKF _ ?_
          clear hKF KF
          refine wpTree_float (fun KF hKF => ?_)
          simp only [List.drop, List.take]
          repeat (first | go_big_quiet_skip | ((with_reducible refine onq_load (.tmp 1) ?_); refine wqr_box rfl _ (.tmp 1) rfl st_rule rfl y1 ?_) | go_big_quiet_step (fail) | quiet_step (fail))
          refine wpQuiet_nil ?_
          refine hKF _ ?_
          clear hKF KF
          refine wpTree_one (fun KO hKO => ?_)
          simp only [List.drop, List.take]
          go_wp2_with (first | (go_at_call 58; refine (get3 r w5.drew).mono ?_; rintro e w6 ⟨rfl, hb6⟩; have hb6 : Below w5.heap.size w5.drew w6 := hb6; have z6 : w5.heap.size ≤ w6.heap.size := hb6.size) | (go_at_call 25; refine (put_yes r.next 2 w6 (by omega) (by omega) Hf.out.1 (by have := Hf.out; omega)).mono ?_; rintro e w7 ⟨A7, c7, rfl, how7, hb7⟩; have z7 := hb7.size))
          refine anch_end (Th.Reach.of (by first | exact Below.refl _ _ | exact below_alloc _ (by first | omega | (simp; done) | (simp; omega)) _ | exact below_alloc2 _ (by first | omega | (simp; done) | (simp; omega)) _ _ | exact below_alloc2d _ (by simp) _ _ | exact bdrew _ _ | assumption | (exact Below.mono (by assumption) (by first | (simp; done) | (simp; omega) | omega | assumption)))) (hKO _ _ ?_)
          clear hKO KO
          refine wpTree_one (fun KO hKO => ?_)
          simp only [List.drop, List.take]
          go_wp2_with (first | (go_at_call 58; refine (get3 r w5.drew).mono ?_; rintro e w6 ⟨rfl, hb6⟩; have hb6 : Below w5.heap.size w5.drew w6 := hb6; have z6 : w5.heap.size ≤ w6.heap.size := hb6.size) | (go_at_call 25; refine (put_yes r.next 2 w6 (by omega) (by omega) Hf.out.1 (by have := Hf.out; omega)).mono ?_; rintro e w7 ⟨A7, c7, rfl, how7, hb7⟩; have z7 := hb7.size))
          refine anch_end (Th.Reach.of (by first | exact Below.refl _ _ | exact below_alloc _ (by first | omega | (simp; done) | (simp; omega)) _ | exact below_alloc2 _ (by first | omega | (simp; done) | (simp; omega)) _ _ | exact below_alloc2d _ (by simp) _ _ | exact bdrew _ _ | assumption | (exact Below.mono (by assumption) (by first | (simp; done) | (simp; omega) | omega | assumption)))) (hKO _ _ ?_)
          clear hKO KO
          refine wpTree_float (fun KF hKF => ?_)
          simp only [List.drop, List.take]
          repeat (first | go_big_quiet_skip | ((with_reducible refine onq_load (.tmp 1) ?_); refine wqr_box rfl _ (.tmp 1) rfl st_rule rfl y1 ?_) | go_big_quiet_step (fail) | quiet_step (fail))
          refine wpQuiet_nil ?_
          refine hKF _ ?_
          clear hKF KF
          refine wpTree_done ?_
          refine hKT _ _ ?_
          clear hKT KT
          have b57 : Below w5.heap.size w5 w7 := (bdrew1 w5).trans (hb6.trans (hb7.mono z6))
          have howg := how.below b57
          have howtg := howt.below b57
          have hbxg := hbx.step b57
          have B7 := hb5.trans (b57.mono z5)
          clear how howt hbx y1 f0 f1
          go_wp2_with ((with_reducible refine on_append (.tmp 29) (.tmp 30) ?_); refine wl_appendA rfl (.tmp 29) (.tmp 30) _ rfl el_u8 (f := bv) (fun _ => rfl) rfl howg rfl how7.rd (by omega) (by omega) (by omega) ?_; intro A8 c8 w8 how8 hg8 hb8 hA8)
          have hgt7 : gt < w7.heap.size := by
            rcases howtg.ow.form with ⟨e, _⟩ | ⟨g', e, _, hl⟩
            · cases e
            · injection e with e; injection e with e; omega
          have hgab : w.heap.size + 1 ≤ ga := by
            rcases howg.ow.form with ⟨e, _⟩ | ⟨g', e, hb, _⟩
            · cases e
            · injection e with e; injection e with e; omega
          have hne1 : ∀ g, (some (⟨gt, 0, none⟩ : Addr)) = some ⟨g, 0, none⟩ → rowOf (some ⟨ga, 0, none⟩) ≠ some g := fun g hg e => by
            simp only [rowOf, Option.some.injEq, Addr.mk.injEq, and_true] at hg e
            exact hga.out (by omega)
          have hne2 : rowOf (some ⟨ga, 0, none⟩) ≠ some w.heap.size := fun e => by
            simp only [rowOf, Option.some.injEq] at e
            omega
          have hga8 : ∃ ga', A8 = some ⟨ga', 0, none⟩ ∧ ga' ≠ gt := by
            rcases hA8 with e | e
            · exact ⟨_, e, hga.out⟩
            · exact ⟨_, e, by omega⟩
          obtain ⟨ga', rfl, hga'⟩ := hga8
          have Hga' := Lib.hid hga'
          clear hga' hA8
          have hl8 := pre_le r 4 (by omega)
          have e8 : pre r 3 ++ be r.next.toNat 2 = pre r 4 := rfl
          rw [e8] at how8
          have ln8 := how8.len
          go_roundw
          case rel => exact ⟨4, ga', _, c8, by omega, rfl, by first | rfl | go_num, how8, Hga', by omega, (fun j hj => by
            rcases Nat.lt_or_ge j 3 with h | h
            · exact hfit.out j h
            · have : j = 3 := by omega
              subst this
              exact Hf.out), howtg.grown hg8 hne1, hbxg.grown hg8 hne2, B7.trans (hb8.mono (by omega))⟩
          case measure => simp [intOf]
        · have hnf : r.next < 0 ∨ 256 ^ 2 ≤ r.next := by omega
          have Hf := Lib.hid hf
          have Hnf := Lib.hid hnf
          clear hf hnf
          refine wp_region_tree (.float 0 3 (.float 4 2 (.one 3 (.one 6 (.float 7 5 .done))))) (Th.Reach w5.heap.size) (Th.Reach.trans _) (Th.Reach.refl _) (by kernel_rfl) (by kernel_rfl) (fun KT hKT => ?_)
          refine wpTree_float (fun KF hKF => ?_)
          simp only [List.drop, List.take]
          repeat (first | go_big_quiet_skip | ((with_reducible refine onq_load (.tmp 1) ?_); refine wqr_box rfl _ (.tmp 1) rfl st_rule rfl y1 ?_) | go_big_quiet_step (fail) | quiet_step (fail))
          refine wpQuiet_nil ?_
          refine hKF _ ?_
          clear hKF KF
          refine wpTree_float (fun KF hKF => ?_)
          simp only [List.drop, List.take]
          repeat (first | go_big_quiet_skip | ((with_reducible refine onq_load (.tmp 1) ?_); refine wqr_box rfl _ (.tmp 1) rfl st_rule rfl y1 ?_) | go_big_quiet_step (fail) | quiet_step (fail))
          refine wpQuiet_nil ?_
          refine hKF _ ?_
          clear hKF KF
          refine wpTree_one (fun KO hKO => ?_)
          simp only [List.drop, List.take]
          go_wp2_with (first | (go_at_call 58; refine (get3 r w5.drew).mono ?_; rintro e w6 ⟨rfl, hb6⟩; have hb6 : Below w5.heap.size w5.drew w6 := hb6; have z6 : w5.heap.size ≤ w6.heap.size := hb6.size) | (go_at_call 25; refine (put_out r.next 2 w6 (by omega) (by omega) Hnf.out).mono ?_; rintro e w7 ⟨rfl, rfl⟩))
          refine anch_end (Th.Reach.of (by first | exact Below.refl _ _ | exact below_alloc _ (by first | omega | (simp; done) | (simp; omega)) _ | exact below_alloc2 _ (by first | omega | (simp; done) | (simp; omega)) _ _ | exact below_alloc2d _ (by simp) _ _ | exact bdrew _ _ | assumption | (exact Below.mono (by assumption) (by first | (simp; done) | (simp; omega) | omega | assumption)))) (hKO _ _ ?_)
          clear hKO KO
          refine wpTree_one (fun KO hKO => ?_)
          simp only [List.drop, List.take]
          go_wp2_with (first | (go_at_call 58; refine (get3 r w5.drew).mono ?_; rintro e w6 ⟨rfl, hb6⟩; have hb6 : Below w5.heap.size w5.drew w6 := hb6; have z6 : w5.heap.size ≤ w6.heap.size := hb6.size) | (go_at_call 25; refine (put_out r.next 2 w6 (by omega) (by omega) Hnf.out).mono ?_; rintro e w7 ⟨rfl, rfl⟩))
          refine anch_end (Th.Reach.of (by first | exact Below.refl _ _ | exact below_alloc _ (by first | omega | (simp; done) | (simp; omega)) _ | exact below_alloc2 _ (by first | omega | (simp; done) | (simp; omega)) _ _ | exact below_alloc2d _ (by simp) _ _ | exact bdrew _ _ | assumption | (exact Below.mono (by assumption) (by first | (simp; done) | (simp; omega) | omega | assumption)))) (hKO _ _ ?_)
          clear hKO KO
          refine wpTree_float (fun KF hKF => ?_)
          simp only [List.drop, List.take]
          repeat (first | go_big_quiet_skip | ((with_reducible refine onq_load (.tmp 1) ?_); refine wqr_box rfl _ (.tmp 1) rfl st_rule rfl y1 ?_) | go_big_quiet_step (fail) | quiet_step (fail))
          refine wpQuiet_nil ?_
          refine hKF _ ?_
          clear hKF KF
          refine wpTree_done ?_
          refine hKT _ _ ?_
          clear hKT KT
          have b57 : Below w5.heap.size w5 w6 := (bdrew1 w5).trans hb6
          have B7 := hb5.trans (b57.mono z5)
          go_wp2
          go_ret2
          exact ⟨fun hall => absurd (hall 3 (by omega)) Hf.out, fun _ => ⟨none, 0, 0, rfl, OwS.nil_ _ _ _, B7⟩⟩
    · have e4 : k = 4 := by omega
      subst e4
      go_wp2
      go_ret2
      exact ⟨fun _ => ⟨_, n, c, rfl, how.base_le (by omega), hbr⟩, fun ⟨j, hj, hn⟩ => absurd (hfit.out j hj) hn⟩
end Go.Proofs.Ytijobfkmchbpcaa
