/-
  theseuslaw01.NumAll: the walk.
-/
import Derived.Test.YtgiefjbdkkdaiaaNumSpec
namespace Go.Proofs.Ytgiefjbdkkdaiaa
open Go.RowKit Go.Th

/-- The outer loop's relation, the inner one's. -/
def AllRel (w : World) (s : Value) (wr : World) : Prop := ∃ t : Int, -1 ≤ t ∧ t ≤ 6 ∧ s = .int .i64 t ∧ Below w.heap.size w wr
def InRel (w : World) (m : Nat) (i : Value) (wr : World) : Prop := ∃ k : Nat, k ≤ m ∧ i = .int .i64 k ∧ Below w.heap.size w wr

set_option maxRecDepth 100000 in
set_option maxHeartbeats 1000000 in
theorem numAll_walk (A : Option Addr) (n c : Nat) (zs : List Int) {w : World} (hr : RdS iv w w.heap.size A n c zs) (hm : n ≤ 9223372036854775807) (hw : ∀ z ∈ zs, -9223372036854775808 ≤ z ∧ z ≤ 9223372036854775807) (size : Int) (_hsz : -9223372036854775808 ≤ size ∧ size ≤ 9223372036854775807)
    (A' : Option Addr) (n' c' : Nat) (bs : List UInt8) (hr' : RdS bv w w.heap.size A' n' c' bs) (hm' : n' ≤ 9223372036854775807) :
    Calls Try.prog 6 #[.slice A n c, .int .i64 size, .slice A' n' c'] w fun e w' => e = .returned (.bool true) ∧ Below w.heap.size w w' := by
  have Hlen := Lib.hid hr.len
  have Hz := Lib.hid hw
  clear hw
  go_enter Try.func6, Try.ntmps6
  go_wp2_with (go_at_call 23; refine (shown1 _).mono ?_; rintro e w1 ⟨rfl, hb1⟩)
  go_loopw [8] (fun s wr => AllRel w s wr) (fun s _ => (6 - intOf s).toNat)
  case atStart => exact ⟨-1, by omega, by omega, rfl, hb1⟩
  case round =>
    obtain ⟨t, ht0, ht1, rfl, hb⟩ := hrel
    obtain ⟨wo, rfl⟩ : ∃ wo : World, wo = wr := ⟨_, rfl⟩
    by_cases hlt : t < 6
    · go_wp2_with fail
      go_loopw [9] (fun i wr => InRel w n i wr) (fun i _ => n - (intOf i).toNat)
      case atStart => exact ⟨0, by omega, rfl, hb⟩
      case round =>
        obtain ⟨k, hk, rfl, hbi⟩ := hrel
        have hri := hr.below hbi
        have hri' := hr'.below hbi
        have h0k : k < zs.length → ∃ x, zs[k]? = some x := fun h => ⟨zs[k]'h, List.getElem?_eq_getElem _⟩
        have H0k := Lib.hid h0k
        clear h0k
        go_wp2_with (first
          | (go_at_call 27; refine (short1 _ _ _ _ hm _ _ (hr.below (by assumption))).mono ?_; rintro e w2 ⟨A2, c2, m2, ys, rfl, hys, hm2, hr2, rfl⟩; obtain rfl := hys.out; have hmn : m2 ≤ n := by (have h1 := hr2.len; rw [List.length_take, Hlen.out] at h1; omega))
          | (refine wl_at_i rfl _ (.tmp 43) (.tmp 44) rfl el_int rfl rfl (by omega) (by omega) hri ?_; intro p x hx hc)
          | (refine wl_at_i rfl _ (.tmp 52) (.tmp 53) rfl el_int rfl rfl (by omega) (by omega) (hr.below (by assumption)) ?_; intro p2 x2 hx2 hc2; obtain rfl : x2 = x := Option.some.inj (hx2.out.symm.trans hx.out))
          | (go_at_call 24; refine (put_any _ _ _).mono ?_; rintro e w3 ⟨A3, n3, c3, rfl, how3, hb3⟩; have HB3 := next (show Below w.heap.size w _ by assumption) hb3)
          | (go_at_call 28; refine (rput_any _ _ _ (Hz.out _ (List.mem_of_getElem? hx.out))).mono ?_; rintro e w4 ⟨A4, n4, c4, rfl, how4, hb4⟩; have HB4 := next (show Below w.heap.size w _ by assumption) hb4)
          | (refine wl_strS rfl _ _ (.tmp 60) rfl el_u8 Try.underlying5 Try.underlying9 rfl (how3.rd.step hb4) ?_)
          | (refine wl_strS rfl _ _ (.tmp 62) rfl el_u8 Try.underlying5 Try.underlying9 rfl how4.rd ?_)
          | (go_at_call 29; refine (prow_any _ _ _ _ _ (by omega) _ _ (Below.size (show Below w.heap.size w _ by assumption)) hr2).mono ?_; rintro e w5 ⟨A5, n5, c5, rfl, how5, hb5⟩; have HB5 := next (show Below w.heap.size w _ by assumption) hb5)
          | (go_at_call 30; refine (rprow_any _ _ _ _ _ (by omega) _ (fun z hz => Hz.out z (List.mem_of_mem_take hz)) _ (Below.size (show Below w.heap.size w _ by assumption)) hr2).mono ?_; rintro e w6 ⟨A6, n6, c6, rfl, how6, hb6⟩; have HB6 := next (show Below w.heap.size w _ by assumption) hb6)
          | (go_at_call 26; refine (few1 _ _ _ _ hm' _ _ (hr'.below (by assumption))).mono ?_; rintro e w7 ⟨A7, c7, m7, ys7, rfl, hys7, hm7, hr7, rfl⟩; obtain rfl := hys7.out)
          | (go_at_call 25; refine (take_any _ _ _ _ _ (by omega) _ _ hr7).mono ?_; rintro e w8 ⟨rfl, rfl⟩)
          | (go_at_call 31; refine (rtake_any _ _ _ _ _ (by omega) _ _ hr7).mono ?_; rintro e w8 ⟨rfl, rfl⟩)
          | (refine wl_strS rfl _ _ (.tmp 98) rfl el_u8 Try.underlying5 Try.underlying9 rfl (how5.rd.step hb6) ?_)
          | (refine wl_strS rfl _ _ (.tmp 100) rfl el_u8 Try.underlying5 Try.underlying9 rfl how6.rd ?_))
        · go_roundw
          case rel => exact ⟨k + 1, by omega, by go_num, HB4⟩
          case measure => simp [intOf]; omega
        · go_roundw
          case rel => exact ⟨t + 1, by omega, by omega, rfl, HB6⟩
          case measure => simp [intOf]; omega
    · go_wp2_with (first
        | (go_at_call 26; refine (few1 _ _ _ _ hm' _ _ (hr'.below (by assumption))).mono ?_; rintro e w7 ⟨A7, c7, m7, ys7, rfl, hys7, hm7, hr7, rfl⟩; obtain rfl := hys7.out)
        | (go_at_call 25; refine (take_any _ _ _ _ _ (by omega) _ _ hr7).mono ?_; rintro e w8 ⟨rfl, rfl⟩)
        | (go_at_call 31; refine (rtake_any _ _ _ _ _ (by omega) _ _ hr7).mono ?_; rintro e w8 ⟨rfl, rfl⟩)
        | (go_at_call 24; refine (put_any _ _ _).mono ?_; rintro e w3 ⟨A3, n3, c3, rfl, how3, hb3⟩; have HB3 := next (show Below w.heap.size w _ by assumption) hb3)
        | (go_at_call 28; refine (rput_any _ _ _ (by omega)).mono ?_; rintro e w4 ⟨A4, n4, c4, rfl, how4, hb4⟩; have HB4 := next (show Below w.heap.size w _ by assumption) hb4))
      go_ret
      exact ⟨rfl, HB4⟩
end Go.Proofs.Ytgiefjbdkkdaiaa
