/-
  The walks of the statements of layer 1: shown, few, short.
-/
import Derived.Test.YtgiefjbdkkdaiaaNum
namespace Go.Proofs.Ytgiefjbdkkdaiaa
open Go.RowKit Go.Th

/-- A slice is returned that reads as the first k of a list; the world is as it was. -/
def RetTake {α : Type} (f : α → Value) (k : Nat) (w : World) (B : Nat) (xs : List α) (e : Ending) (w' : World) : Prop :=
  ∃ A' c' m ys, e = .returned (.slice A' m c') ∧ Hid (ys = xs.take k) ∧ m ≤ k ∧ RdS f w B A' m c' ys ∧ w = w'

theorem few1 (A : Option Addr) (n c : Nat) (w : World) (hm : n ≤ 9223372036854775807) (B : Nat) (bs : List UInt8) (hr : RdS bv w B A n c bs) :
    Calls Try.prog 26 #[.slice A n c] w (RetTake bv 40 w B bs) := by
  have hc := hr.cap
  by_cases h : n ≤ 40
  · go_enter Try.func26, Try.ntmps26
    go_wp2
    go_ret
    exact ⟨A, c, n, bs, rfl, (List.take_of_length_le (by rw [hr.len]; omega)).symm, h, hr, rfl⟩
  · go_enter Try.func26, Try.ntmps26
    go_wp2_with (refine wl_cut_h rfl _ _ el_u8 rfl hr _ rfl rfl 40 (by omega) ?_; intro A' hr')
    go_ret
    exact ⟨A', c, 40, bs.take 40, rfl, rfl, by omega, hr', rfl⟩

theorem put_258 (w : World) : Calls Try.prog 24 #[.int .i64 258, .int .i64 3] w (RetRow w 3 [0, 1, 2] 0) :=
  put_yes 258 3 w (by omega) (by omega) (by omega) (by decide)

theorem take_0129 (w : World) : Calls Try.prog 25 #[.slice (some ⟨w.heap.size, 0, none⟩) 4 4, .int .i64 3] (w.alloc (.cells #[.int .u8 0, .int .u8 1, .int .u8 2, .int .u8 9] 5)) (RetNum 258 0 (w.alloc (.cells #[.int .u8 0, .int .u8 1, .int .u8 2, .int .u8 9] 5))) := by
  have how2 := OwS.lit (base := w.heap.size) (e := 5) (f := bv) (xs := [0, 1, 2, 9]) w #[.int .u8 0, .int .u8 1, .int .u8 2, .int .u8 9] 4 (Nat.le_refl _) (by simp [maxLen]) rfl (by simp [bv])
  exact take_yes _ 4 4 3 _ (by omega) (by omega) (by omega) (by omega) _ _ how2.rd

theorem shown1 (w : World) : Calls Try.prog 23 #[] w fun e w' => e = .returned (.bool true) ∧ Below w.heap.size w w' := by
  go_enter Try.func23, Try.ntmps23
  go_wp2_with (first
    | (go_at_call 24; refine (put_258 _).mono ?_; rintro e w1 ⟨A, c, rfl, how, hb⟩)
    | (go_at_call 25; refine (take_0129 _).mono ?_; rintro e w2 ⟨rfl, rfl⟩)
    | (refine wl_strS rfl _ _ _ rfl el_u8 Try.underlying5 Try.underlying9 rfl (how.rd.alloc _) ?_))
  go_ret
  exact ⟨rfl, hb.trans (below_alloc _ hb.size _)⟩

end Go.Proofs.Ytgiefjbdkkdaiaa
