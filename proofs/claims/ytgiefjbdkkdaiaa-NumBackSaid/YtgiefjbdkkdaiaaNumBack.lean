/-
  theseuslaw01.NumBack: the walk.
-/
import Derived.Test.YtgiefjbdkkdaiaaNumLaw
namespace Go.Proofs.Ytgiefjbdkkdaiaa
open Go.RowKit Go.Th

theorem numBack_walk (n : Int) (hn : 0 ≤ n ∧ n ≤ 4294967295) (size : Int) (hs : 0 ≤ size ∧ size ≤ 255) (A : Option Addr) (m c : Nat) (bs : List UInt8) {w : World} (hr : RdS bv w w.heap.size A m c bs) (hm : m ≤ 9223372036854775807) :
    Calls Try.prog 3 #[.int .u32 n, .int .u8 size, .slice A m c] w fun e w' => e = .returned (.bool true) ∧ Below w.heap.size w w' := by
  obtain ⟨hn0, hn1⟩ := hn
  obtain ⟨hs0, hs1⟩ := hs
  obtain ⟨s, hs, h1, h2⟩ : ∃ s : Nat, 1 + size % 4 = (s : Int) ∧ 1 ≤ s ∧ s ≤ 4 := ⟨(1 + size % 4).toNat, by omega, by omega, by omega⟩
  obtain ⟨x, hx, hx1⟩ : ∃ x : Nat, bits .and .i64 n (wrap64 (wrap64 (2 ^ (8 * s)) - 1)) = (x : Int) ∧ x < 256 ^ s := ⟨n.toNat % 256 ^ s, and_mask n hn0 (by omega) s h1 h2, Nat.mod_lt _ (Nat.pow_pos (by omega))⟩
  have Hx1 := Lib.hid hx1
  clear hx1
  go_enter Try.func3, Try.ntmps3
  go_wp2_with (first
    | (go_at_call 23; refine (shown1 _).mono ?_; rintro e w1 ⟨rfl, hb1⟩)
    | (go_at_call 24; refine (put_nat x s _ h1 h2 Hx1.out).mono ?_; rintro e w2 ⟨Ab, cb, rfl, how, hb2⟩; have HB2 := hb1.trans (hb2.mono hb1.size))
    | (refine wl_appendS (base := w2.heap.size) rfl (.tmp 40) (.tmp 41) _ rfl el_u8 (f := bv) (fun _ => rfl) (xs := []) rfl (OwS.lit _ _ _ (Nat.le_refl _) (by simp [maxLen]) rfl rfl) rfl (how.rd.alloc _) (by omega) (by omega) (by simp) ?_
       intro A3 c3 w3 how3 _ hb3'
       rw [Nat.zero_add, List.nil_append] at how3
       have hb3 := (below_alloc w2 (Nat.le_refl _) _).trans hb3'
       have HB3 := HB2.trans (hb3.mono HB2.size)
       clear hb3')
    | (go_at_call 26; refine (few1 _ _ _ _ hm _ _ (hr.below HB3)).mono ?_; rintro e w4 ⟨A4, c4, m4, ys, rfl, hys, hm4, hr4, rfl⟩)
    | (refine wl_appendS rfl (.tmp 42) (.tmp 44) _ rfl el_u8 (f := bv) (fun _ => rfl) rfl how3 rfl hr4 (by omega) (by omega) hb3.size ?_
       intro A5 c5 w5 how5 _ hb5
       have hb35 := hb3.trans hb5
       have HB5 := HB2.trans (hb35.mono HB2.size)
       have Hv : Hid (val ((be x s ++ ys).take s) = x) := by
         show _ = _
         rw [List.take_append_of_le_length (by rw [be_length]; omega), List.take_of_length_le (by rw [be_length]; omega), val_be s x Hx1.out]
       clear hb5)
    | (go_at_call 25; refine (take_yes _ _ _ s _ h1 h2 (by omega) (by omega) _ _ how5.rd).mono ?_; rintro e w6 ⟨rfl, rfl⟩; rw [Hv.out]))
  go_loop [14] (fun i => ∃ k : Nat, k ≤ s ∧ i = .int .i64 k) (fun i => s - (intOf i).toNat)
  case atStart => exact ⟨0, by omega, rfl⟩
  case round =>
    obtain ⟨k, hk, rfl⟩ := hrel
    have howr := (how.below hb35).rd
    by_cases hlt : k < s
    · go_wp2_with (first
        | (refine wl_cut_h rfl _ _ el_u8 rfl howr _ rfl rfl k (by omega) ?_; intro A6 hr6)
        | (go_at_call 25; refine (take_short _ _ _ s _ h1 h2 hlt).mono ?_; rintro e w6 ⟨rfl, rfl⟩))
      go_round
      case rel => exact ⟨k + 1, by omega, by go_num⟩
      case measure => simp [intOf]; omega
    · obtain ⟨hp1, hp2, hp3⟩ : (256 : Int) ^ s ≤ wrap64 (2 ^ (8 * s)) ∧ wrap64 (2 ^ (8 * s)) ≤ 4294967296 ∧ 0 ≤ wrap64 (2 ^ (8 * s)) := by
        have : s = 1 ∨ s = 2 ∨ s = 3 ∨ s = 4 := by omega
        rcases this with rfl | rfl | rfl | rfl <;> simp [wrap64]
      have hx2 : x < 4294967296 := by
        have h := Hx1.out
        have : s = 1 ∨ s = 2 ∨ s = 3 ∨ s = 4 := by omega
        rcases this with rfl | rfl | rfl | rfl <;> simp at h <;> omega
      go_wp2_with (first
        | (go_at_call 24; refine (put_out _ s _ h1 h2 (.inr (by omega))).mono ?_; rintro e w6 ⟨rfl, rfl⟩)
        | (go_at_call 24; refine (put_out _ s _ h1 h2 (.inl (by omega))).mono ?_; rintro e w6 ⟨rfl, rfl⟩))
      go_ret
      exact ⟨rfl, HB5⟩
end Go.Proofs.Ytgiefjbdkkdaiaa
