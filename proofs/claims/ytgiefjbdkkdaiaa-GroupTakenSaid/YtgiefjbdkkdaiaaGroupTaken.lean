/-
  theseuslaw02.GroupTaken: the walk.
-/
import Derived.Test.YtgiefjbdkkdaiaaGroupBack
namespace Go.Proofs.Ytgiefjbdkkdaiaa
open Go.RowKit Go.Th
set_option maxRecDepth 100000 in
set_option maxHeartbeats 1000000 in
theorem groupTaken_walk (A : Option Addr) (m c : Nat) (bs : List UInt8) {w : World} (hr : RdS bv w w.heap.size A m c bs) (hm : m ≤ 9223372036854775807) :
    Calls Try.prog 11 #[.slice A m c] w fun e w' => e = .returned (.bool true) ∧ Below w.heap.size w w' := by
  have hl20 : (bs.take 20).length = min m 20 := by rw [List.length_take, hr.len, Nat.min_comm]
  rcases gtake_what (bs.take 20) with ⟨hg, hl⟩ | hg | ⟨n, k, hg, hn, hk1, hk2, hk4, hp⟩
  · have Hg := Lib.hid hg
    have hl4 : ((min m 20 : Nat) : Int) < 4 := by omega
    clear hg hl hl20
    go_enter Try.func11, Try.ntmps11
    go_wp2_with (first
      | (go_at_call 32; refine (shown2 _).mono ?_; rintro e w1 ⟨rfl, hb1⟩)
      | (go_at_call 36; refine (few2 _ _ _ _ hm _ _ (hr.step hb1)).mono ?_; rintro e w4 ⟨A4, c4, rfl, hr4, rfl⟩)
      | (go_at_call 35; refine (gtake_any _ _ _ _ (by omega) _ _ hr4).mono ?_; rintro e w4 ⟨rfl, rfl⟩; rw [Hg.out]))
    go_ret
    exact ⟨rfl, hb1⟩
  · have Hg := Lib.hid hg
    clear hg hl20
    go_enter Try.func11, Try.ntmps11
    go_wp2_with (first
      | (go_at_call 32; refine (shown2 _).mono ?_; rintro e w1 ⟨rfl, hb1⟩)
      | (go_at_call 36; refine (few2 _ _ _ _ hm _ _ (hr.step hb1)).mono ?_; rintro e w4 ⟨A4, c4, rfl, hr4, rfl⟩)
      | (go_at_call 35; refine (gtake_any _ _ _ _ (by omega) _ _ hr4).mono ?_; rintro e w4 ⟨rfl, rfl⟩; rw [Hg.out]))
    go_ret
    exact ⟨rfl, hb1⟩
  · have Hg := Lib.hid hg
    have hk2' : (k : Int) ≤ ((min m 20 : Nat) : Int) := by omega
    have hk1' : 1 ≤ (k : Int) := by omega
    have Hp := Lib.hid hp
    clear hg hl20 hk2 hp
    go_enter Try.func11, Try.ntmps11
    go_wp2_with (first
      | (go_at_call 32; refine (shown2 _).mono ?_; rintro e w1 ⟨rfl, hb1⟩)
      | (go_at_call 36; refine (few2 _ _ _ _ hm _ _ (hr.step hb1)).mono ?_; rintro e w4 ⟨A4, c4, rfl, hr4, rfl⟩)
      | (go_at_call 35; refine (gtake_any _ _ _ _ (by omega) _ _ hr4).mono ?_; rintro e w4 ⟨rfl, rfl⟩; rw [Hg.out])
      | (go_at_call 33; refine (gput_nat _ hn _).mono ?_; rintro e w2 ⟨A2, c2, rfl, how2, hb2⟩))
    have q2 := RdC.of_drew how2.rd
    have q4 := RdC.of_drew (hr4.step hb2)
    refine wp_region_quiet_lit (by kernel_rfl) (by kernel_rfl) ?_
    repeat (first
      | (refine wq_strS rfl _ _ (.tmp 64) rfl el_u8 Try.underlying5 Try.underlying9 rfl q2 ?_)
      | (refine wq_cut_h rfl _ _ el_u8 rfl q4 ⟨0, rfl⟩ _ rfl rfl k (by omega) ?_; intro A9 hr9; rw [← Hp.out] at hr9)
      | (refine wq_strS rfl _ _ (.tmp 68) rfl el_u8 Try.underlying5 Try.underlying9 rfl hr9 ?_)
      | go_big_quiet_step (fail) | quiet_step (fail))
    refine wpQuiet_nil ?_
    rintro w5 ⟨nq, rfl⟩
    go_wp2
    go_ret
    exact ⟨rfl, next hb1 (hb2.trans (bdrew _ _))⟩
end Go.Proofs.Ytgiefjbdkkdaiaa
