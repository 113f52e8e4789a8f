/-
  Layer 2: what all its statements begin with; the contracts for whatever arguments.
-/
import Derived.Test.YtgiefjbdkkdaiaaGroup
import Derived.Test.YtgiefjbdkkdaiaaQuiet
namespace Go.Proofs.Ytgiefjbdkkdaiaa
open Go.RowKit Go.Th

/-- Put's answer, and Size's. -/
def GP (n : Int) : List UInt8 × Int := if 0 ≤ n ∧ n ≤ 268435455 then (gput n.toNat, 0) else ([], 1)
def GS (n : Int) : Nat := if 0 ≤ n ∧ n ≤ 268435455 then gsize n.toNat else 0
theorem GP_length (n : Int) : (GP n).1.length = GS n := by unfold GP GS; split <;> simp [gput_length]
theorem GS_le (n : Int) : GS n ≤ 4 := by unfold GS; split <;> (try omega); exact (gsize_pos _).2
theorem GP_in (n : Nat) (h : n < 268435456) : GP n = (gput n, 0) := by unfold GP; rw [if_pos (by omega)]; simp
theorem GS_in (n : Nat) (h : n < 268435456) : GS n = gsize n := by unfold GS; rw [if_pos (by omega)]; simp
theorem GP_out (n : Int) (h : n < 0 ∨ 268435455 < n) : GP n = ([], 1) := by unfold GP; rw [if_neg (by omega)]
theorem GS_out (n : Int) (h : n < 0 ∨ 268435455 < n) : GS n = 0 := by unfold GS; rw [if_neg (by omega)]

/-- A row of the call's own with these bytes, as many as Size tells. -/
def RetP (n : Int) (w : World) (e : Ending) (w' : World) : Prop :=
  ∃ A c, e = .returned (.tuple #[.slice A (GS n) c, .int .i64 (GP n).2]) ∧ OwS bv w' w.heap.size 5 A (GS n) c (GP n).1 ∧ Below w.heap.size w w'
theorem RetP.of_g {n : Int} {w : World} {e : Ending} {w' : World} (h : RetG (GP n).1 (GP n).2 w e w') : RetP n w e w' := by
  obtain ⟨A, m, c, rfl, how, hb⟩ := h
  have : m = GS n := by rw [← how.len, GP_length]
  subst this
  exact ⟨A, c, rfl, how, hb⟩
theorem gput_any (n : Int) (w : World) : Calls Try.prog 33 #[.int .i64 n] w (RetP n w) := by
  by_cases h : 0 ≤ n ∧ n ≤ 268435455
  · obtain ⟨k, rfl⟩ := Int.eq_ofNat_of_zero_le h.1
    refine (gput_in k w (by omega)).mono fun _ _ hh => .of_g ?_
    rw [GP_in k (by omega)]
    exact hh
  · refine (gput_out n w (by omega)).mono fun _ _ hh => .of_g ?_
    rw [GP_out n (by omega)]
    exact hh
theorem gsize_any (n : Int) (w : World) : Calls Try.prog 38 #[.int .i64 n] w (RetInt (GS n) w) := by
  by_cases h : 0 ≤ n ∧ n ≤ 268435455
  · obtain ⟨k, rfl⟩ := Int.eq_ofNat_of_zero_le h.1
    rw [GS_in k (by omega)]
    exact gsize_in k w (by omega)
  · rw [GS_out n (by omega)]
    exact gsize_out n w (by omega)

theorem few2 (A : Option Addr) (n c : Nat) (w : World) (hm : n ≤ 9223372036854775807) (B : Nat) (bs : List UInt8) (hr : RdS bv w B A n c bs) :
    Calls Try.prog 36 #[.slice A n c] w fun e w' => ∃ A' c', e = .returned (.slice A' (min n 20) c') ∧ RdS bv w B A' (min n 20) c' (bs.take 20) ∧ w = w' := by
  have hc := hr.cap
  by_cases h : n ≤ 20
  · have e : min n 20 = n := by omega
    have e2 : bs.take 20 = bs := List.take_of_length_le (by rw [hr.len]; omega)
    rw [e, e2]
    go_enter Try.func36, Try.ntmps36
    go_wp2
    go_ret
    exact ⟨A, c, rfl, hr, rfl⟩
  · have e : min n 20 = 20 := by omega
    rw [e]
    go_enter Try.func36, Try.ntmps36
    go_wp2_with (refine wl_cut_h rfl _ _ el_u8 rfl hr _ rfl rfl 20 (by omega) ?_; intro A' hr')
    go_ret
    exact ⟨A', c, rfl, hr', rfl⟩

theorem gput_300 (w : World) : Calls Try.prog 33 #[.int .i64 300] w (RetG [130, 44] 0 w) := gput_in 300 w (by omega)
theorem gtake_300 (w : World) : Calls Try.prog 35 #[.slice (some ⟨w.heap.size, 0, none⟩) 3 3] (w.alloc (.cells #[.int .u8 130, .int .u8 44, .int .u8 9] 5)) (RetT3 (300, 2, 0) (w.alloc (.cells #[.int .u8 130, .int .u8 44, .int .u8 9] 5))) := by
  have how2 := OwS.lit (base := w.heap.size) (e := 5) (f := bv) (xs := [130, 44, 9]) w #[.int .u8 130, .int .u8 44, .int .u8 9] 3 (Nat.le_refl _) (by simp [maxLen]) rfl (by simp [bv])
  exact gtake_any _ 3 3 _ (by omega) _ _ how2.rd
theorem gsize_300 (w : World) : Calls Try.prog 38 #[.int .i64 300] w (RetInt 2 w) := gsize_in 300 w (by omega)
theorem shown2 (w : World) : Calls Try.prog 32 #[] w fun e w' => e = .returned (.bool true) ∧ Below w.heap.size w w' := by
  go_enter Try.func32, Try.ntmps32
  go_wp2_with (first
    | (go_at_call 33; refine (gput_300 _).mono ?_; rintro e w1 ⟨A, n, c, rfl, how, hb⟩)
    | (go_at_call 35; refine (gtake_300 _).mono ?_; rintro e w2 ⟨rfl, rfl⟩)
    | (go_at_call 38; refine (gsize_300 _).mono ?_; rintro e w2 ⟨rfl, rfl⟩)
    | (refine wl_strS rfl _ _ _ rfl el_u8 Try.underlying5 Try.underlying9 rfl (how.rd.alloc _) ?_))
  go_ret
  exact ⟨rfl, hb.trans (below_alloc _ hb.size _)⟩
end Go.Proofs.Ytgiefjbdkkdaiaa
