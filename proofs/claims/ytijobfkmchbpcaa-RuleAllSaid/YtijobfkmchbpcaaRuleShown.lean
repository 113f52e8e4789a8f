/-
  law07's shown, and few.
-/
import Derived.Test.YtijobfkmchbpcaaRuleTake
namespace Go.Proofs.Ytijobfkmchbpcaa
open Go.RowKit Go.Th
set_option linter.unusedVariables false
theorem fit_10 : ∀ j, j < 4 → Fit1 ⟨167772160, 8, 1, 3⟩ j := by
  intro j hj
  have : j = 0 ∨ j = 1 ∨ j = 2 ∨ j = 3 := by omega
  rcases this with rfl | rfl | rfl | rfl <;> (unfold Fit1 gv gs; decide)
theorem pre_10 : pre ⟨167772160, 8, 1, 3⟩ 4 = [10, 0, 0, 0, 8, 1, 0, 3] := by decide +kernel
theorem rtk_10 : rtk [10, 0, 0, 0, 8, 1, 0, 3] = ⟨167772160, 8, 1, 3⟩ := by decide +kernel
theorem put_10 (w : World) : Calls Try.prog 22 #[.agg #[.int .u32 167772160, .int .i64 8, .int .i64 1, .int .i64 3]] w fun e w' => RetBytes [10, 0, 0, 0, 8, 1, 0, 3] 0 w e w' := by
  refine (rulePut ⟨167772160, 8, 1, 3⟩ (by decide) w).mono fun e w' h => ?_
  have := h.1 fit_10
  rw [pre_10] at this
  exact this
theorem take_10 (A : Option Addr) (n c : Nat) (w : World) (hr : RdS bv w w.heap.size A n c [10, 0, 0, 0, 8, 1, 0, 3]) : Calls Try.prog 23 #[.slice A n c] w fun e w' => e = .returned (.tuple #[.agg #[.int .u32 167772160, .int .i64 8, .int .i64 1, .int .i64 3], .int .i64 0]) ∧ Below w.heap.size w w' := by
  have hn : 8 = n := hr.len
  have := ruleTake A n c w _ hr (by omega) (by omega)
  rw [rtk_10] at this
  exact this
set_option maxRecDepth 100000 in
theorem shown7 (w : World) : Calls Try.prog 21 #[] w fun e w' => e = .returned (.bool true) ∧ Below w.heap.size w w' := by
  go_enter Try.func21, Try.ntmps21
  go_wp2_with fail
  refine (put_10 w).mono ?_
  rintro e w1 ⟨A1, n1, c1, rfl, how1, hb1⟩
  go_wp2_with fail
  refine (take_10 A1 n1 c1 w1 how1.rd).mono ?_
  rintro e w2 ⟨rfl, hb2⟩
  have how2 := how1.below hb2
  go_wp2_with (first
    | ((with_reducible refine on_store_at (.tmp 3) ?_); refine wr_store (r := ⟨0, 0, 0, 0⟩) (s := ⟨167772160, 8, 1, 3⟩) rfl _ (.tmp 3) _ rfl st_rule rfl rfl (Box.new w2 _ _) ?_; intro w3 hbx3 hg3; have how3 := (how2.alloc (.cells (Ru.cs ⟨0, 0, 0, 0⟩).toArray 25)).grown hg3 (by intro g hg; rcases how2.ow.form with ⟨e, _⟩ | ⟨g', e, _, hl⟩ <;> (rw [e] at hg) <;> simp at hg; (simp; omega)))
    | ((with_reducible refine on_convert (.tmp 15) ?_); refine wl_strS rfl _ _ (.tmp 15) rfl el_u8 Try.underlying5 Try.underlying9 rfl how3.rd ?_)
    | ((with_reducible refine on_load (.tmp 3) ?_); refine wr_box (r := ⟨167772160, 8, 1, 3⟩) rfl _ (.tmp 3) rfl st_rule rfl hbx3 ?_))
  go_ret
  have B2 := next hb1 hb2
  exact ⟨rfl, B2.trans (((below_alloc w2 (Nat.le_refl _) _).trans (below_of_grown hg3 (fun j e => by injection e with e; omega) (by simp))).mono B2.size)⟩
end Go.Proofs.Ytijobfkmchbpcaa
