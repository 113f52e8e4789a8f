/-
  theseuslaw02.GroupBack: the walk.
-/
import Derived.Test.YtgiefjbdkkdaiaaGroupLaw
import Derived.Test.YtgiefjbdkkdaiaaGroupMore
namespace Go.Proofs.Ytgiefjbdkkdaiaa
open Go.RowKit Go.Th
theorem mask28 (n : Int) (h : 0 ≤ n ∧ n ≤ 4294967295) : bits .and .i64 n 268435455 = ((n.toNat % 268435456 : Nat) : Int) := by
  obtain ⟨m, rfl⟩ := Int.eq_ofNat_of_zero_le h.1
  have := and_i64 m 268435455 (by omega) (by omega)
  rw [show m &&& 268435455 = m % 268435456 from Nat.and_two_pow_sub_one_eq_mod m 28] at this
  rw [Int.toNat_natCast]
  exact this
theorem gput_nat (x : Nat) (h : x < 268435456) (w : World) : Calls Try.prog 33 #[.int .i64 x] w fun e w' => ∃ A c, e = .returned (.tuple #[.slice A (gsize x) c, .int .i64 0]) ∧ OwS bv w' w.heap.size 5 A (gsize x) c (gput x) ∧ Below w.heap.size w w' := by
  refine (gput_in x w h).mono ?_
  rintro e w' ⟨A, n, c, rfl, how, hb⟩
  have : n = gsize x := by rw [← how.len, gput_length]
  subst this
  exact ⟨A, c, rfl, how, hb⟩
set_option maxRecDepth 100000 in
set_option maxHeartbeats 1000000 in
theorem groupBack_walk (n : Int) (h : 0 ≤ n ∧ n ≤ 4294967295) (A : Option Addr) (m c : Nat) (bs : List UInt8) {w : World} (hr : RdS bv w w.heap.size A m c bs) (hm : m ≤ 9223372036854775807) :
    Calls Try.prog 10 #[.int .u32 n, .slice A m c] w fun e w' => e = .returned (.bool true) ∧ Below w.heap.size w w' := by
  obtain ⟨x, hx, hx2⟩ : ∃ x : Nat, bits .and .i64 n 268435455 = x ∧ x < 268435456 := ⟨_, mask28 n h, by omega⟩
  have hs := gsize_pos x
  obtain ⟨s, hs0⟩ : ∃ s, gsize x = s := ⟨_, rfl⟩
  have Hs := Lib.hid hs0
  have hs1 : 1 ≤ s ∧ s ≤ 4 := by omega
  obtain ⟨hs1, hs2⟩ := hs1
  clear hs hs0
  have hl20 : (bs.take 20).length = min m 20 := by rw [List.length_take, hr.len, Nat.min_comm]
  have HL := Lib.hid hl20
  clear hl20
  go_enter Try.func10, Try.ntmps10
  go_wp2_with (first
    | (go_at_call 32; refine (shown2 _).mono ?_; rintro e w1 ⟨rfl, hb1⟩)
    | (go_at_call 33; refine (gput_nat _ hx2 _).mono ?_; rintro e w2 ⟨A2, c2, rfl, how2, hb2⟩; rw [Hs.out] at how2 ⊢)
    | (go_at_call 36; refine (few2 _ _ _ _ hm _ _ ((((hr.step hb1).step hb2).step (below_alloc _ (Nat.le_refl _) _)).below (hb31.mono (Nat.le_trans hb1.size hb2.size)))).mono ?_; rintro e w4 ⟨A4, c4, rfl, hr4, rfl⟩)
    | (refine wl_appendS rfl (.tmp 29) (.tmp 30) _ rfl el_u8 (f := bv) (fun _ => rfl) rfl (OwS.lit (base := w2.heap.size) (e := 5) (xs := []) w2 #[] 0 (Nat.le_refl _) (by simp [maxLen]) rfl rfl) rfl (how2.rd.alloc _) (by omega) (by omega) (by simp) ?_; intro A31 c31 w31 how31 _ hb31; rw [Nat.zero_add, List.nil_append] at how31; have hs31 := Nat.le_trans (below_alloc (B := w2.heap.size) w2 (Nat.le_refl _) (.cells #[] 5)).size hb31.size)
    | (refine wl_appendS rfl (.tmp 31) (.tmp 33) _ rfl el_u8 (f := bv) (fun _ => rfl) rfl how31 rfl hr4 (by omega) (by omega) hs31 ?_; intro A34 c34 w34 how34 _ hb34)
    | (go_at_call 35; refine (gtake_any _ _ _ _ (by omega) _ _ how34.rd).mono ?_; rintro e w4 ⟨rfl, rfl⟩; rw [gtake_gput x hx2, Hs.out]))
  have HB := ((below_alloc (B := w2.heap.size) w2 (Nat.le_refl _) (.cells #[] 5)).trans hb31).trans hb34
  have how2w := how2.below HB
  go_loop [12] (fun i => ∃ k : Nat, k ≤ s ∧ i = .int .i64 k) (fun i => s - (intOf i).toNat)
  case atStart => exact ⟨0, by omega, rfl⟩
  case round =>
    obtain ⟨k, hk, rfl⟩ := hrel
    by_cases hlt : k < s
    · have hsh := Lib.hid (gtake_short x hx2 k (by rw [Hs.out]; exact hlt))
      go_wp2_with (first
        | (refine wl_cut_h rfl _ _ el_u8 rfl how2w.rd _ rfl rfl k (by omega) ?_; intro A48 r48)
        | (go_at_call 35; refine (gtake_any _ _ _ _ (by omega) _ _ r48).mono ?_; rintro e w4 ⟨rfl, rfl⟩; rw [hsh.out]))
      go_round
      case rel => exact ⟨k + 1, by omega, by go_num⟩
      case measure => simp [intOf]; omega
    · have hz := Nat.le_trans (Nat.le_trans hb2.size hs31) hb34.size
      go_wp2_with (first
        | (refine wl_appendS rfl (.tmp 56) (.tmp 57) _ rfl el_u8 (f := bv) (fun _ => rfl) rfl (OwS.lit (base := w34.heap.size) (e := 5) (xs := [128]) w34 #[.int .u8 128] 1 (Nat.le_refl _) (by simp [maxLen]) rfl rfl) rfl (how2w.rd.alloc _) (by omega) (by omega) (by simp) ?_; intro A58 c58 w58 how58 _ hb58)
        | (go_at_call 35; refine (gtake_any _ _ _ _ (by omega) _ _ how58.rd).mono ?_; rintro e w4 ⟨rfl, rfl⟩; rw [show [128] ++ gput x = 128 :: gput x from rfl, gtake_nought])
        | (go_at_call 38; refine (gsize_in _ _ hx2).mono ?_; rintro e w4 ⟨rfl, rfl⟩; rw [Hs.out]))
      go_ret
      exact ⟨rfl, next (next hb1 hb2) ((HB.trans (((below_alloc w34 (Nat.le_refl _) _).trans hb58).mono (Nat.le_trans hs31 hb34.size))))⟩
end Go.Proofs.Ytgiefjbdkkdaiaa
