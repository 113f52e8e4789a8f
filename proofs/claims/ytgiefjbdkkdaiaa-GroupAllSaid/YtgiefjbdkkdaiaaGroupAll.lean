/-
  theseuslaw02.GroupAll: the walk.
-/
import Derived.Test.YtgiefjbdkkdaiaaGroupRef
namespace Go.Proofs.Ytgiefjbdkkdaiaa
open Go.RowKit Go.Th
set_option maxRecDepth 100000 in
set_option maxHeartbeats 1000000 in
theorem groupAll_walk (n : Int) (_h : -9223372036854775808 ≤ n ∧ n ≤ 9223372036854775807) (A : Option Addr) (m c : Nat) (bs : List UInt8) {w : World} (hr : RdS bv w w.heap.size A m c bs) (hm : m ≤ 9223372036854775807) :
    Calls Try.prog 9 #[.int .i64 n, .slice A m c] w fun e w' => e = .returned (.bool true) ∧ Below w.heap.size w w' := by
  go_enter Try.func9, Try.ntmps9
  go_wp2_with (first
    | (go_at_call 32; refine (shown2 _).mono ?_; rintro e w1 ⟨rfl, hb1⟩)
    | (go_at_call 33; refine (gput_any _ _).mono ?_; rintro e w2 ⟨A2, c2, rfl, how2, hb2⟩)
    | (go_at_call 34; refine (rgput_any _ _).mono ?_; rintro e w3 ⟨A3, c3, rfl, how3, hb3⟩)
    | (go_at_call 36; refine (few2 _ _ _ _ hm _ _ (((hr.step hb1).step hb2).step hb3)).mono ?_; rintro e w4 ⟨A4, c4, rfl, hr4, rfl⟩)
    | (go_at_call 35; refine (gtake_any _ _ _ _ (by omega) _ _ hr4).mono ?_; rintro e w4 ⟨rfl, rfl⟩)
    | (go_at_call 37; refine (rgtake_any _ _ _ _ (by omega) _ _ hr4).mono ?_; rintro e w4 ⟨rfl, rfl⟩)
    | (go_at_call 38; refine (gsize_any _ _).mono ?_; rintro e w4 ⟨rfl, rfl⟩)
    | (refine wl_strS rfl _ _ (.tmp 43) rfl el_u8 Try.underlying5 Try.underlying9 rfl (how2.rd.step hb3) ?_)
    | (refine wl_strS rfl _ _ (.tmp 45) rfl el_u8 Try.underlying5 Try.underlying9 rfl how3.rd ?_))
  go_ret
  exact ⟨rfl, next (next hb1 hb2) hb3⟩
end Go.Proofs.Ytgiefjbdkkdaiaa
