/-
  The walks of the reference of layer 2.
-/
import Derived.Test.YtgiefjbdkkdaiaaGroupLaw
namespace Go.Proofs.Ytgiefjbdkkdaiaa
open Go.RowKit Go.Th

/-! ### The reference -/
theorem rgput_out (n : Int) (w : World) (h : n < 0 ∨ 268435455 < n) : Calls Try.prog 34 #[.int .i64 n] w (RetG [] 1 w) := by
  by_cases h1 : n < 0
  · go_enter Try.func34, Try.ntmps34
    go_wp2
    go_ret2
    exact ⟨none, 0, 0, rfl, OwS.nil_ _ _ _, Below.refl _ _⟩
  · have h2 : 268435455 < n := by omega
    go_enter Try.func34, Try.ntmps34
    go_wp2
    go_ret2
    exact ⟨none, 0, 0, rfl, OwS.nil_ _ _ _, Below.refl _ _⟩
/-- The loop's relation: what is left of the number, and the bytes behind. -/
def RGPutRel (n : Nat) (w : World) (x out : Value) (wr : World) : Prop :=
  ∃ (X k c : Nat) (A : Option Addr) (l : List UInt8), X < 268435456 ∧ k ≤ 10 ∧ x = .int .i64 X ∧ out = .slice A k c ∧ Hid (gd X (gmore X) ++ l = gput n) ∧ Hid (gmore X + k ≤ 10) ∧ OwS bv wr w.heap.size 5 A k c l ∧ Below w.heap.size w wr
set_option maxRecDepth 100000 in
theorem rgput_in (n : Nat) (w : World) (h : n < 268435456) : Calls Try.prog 34 #[.int .i64 n] w (RetG (gput n) 0 w) := by
  go_enter Try.func34, Try.ntmps34
  go_wp2
  go_loopw [0, 4] (fun x out wr => RGPutRel n w x out wr) (fun x _ _ => (intOf x).toNat)
  case atStart =>
    refine ⟨n / 128, 1, 1, _, [UInt8.ofNat (n % 128)], by omega, by omega, by go_num, rfl, ?_, ?_, OwS.lit _ _ _ (Nat.le_refl _) (by simp [maxLen]) rfl ?_, below_alloc _ (Nat.le_refl _) _⟩
    · show _ = _
      rw [gmore_div h]; rfl
    · show _ ≤ _
      rw [gmore_div h]; have := gsize_pos n; omega
    · simp only [bv, List.map_cons, List.map_nil, List.cons.injEq, and_true, UInt8.toNat_ofNat', Value.int.injEq, true_and]; omega
  case round =>
    obtain ⟨X, k, c, A, l, hX, hk, rfl, rfl, hl, hk10, how, hb⟩ := hrel
    by_cases hlt : 0 < X
    · have h5 : gd (X / 128) (gmore (X / 128)) ++ ([UInt8.ofNat (X % 128 + 128)] ++ l) = gput n := by
        rw [← hl.out, gmore_step hlt hX, gd, List.append_assoc]
      have H5 := Lib.hid h5
      have h6 : gmore (X / 128) + (1 + k) ≤ 10 := by have := hk10.out; rw [gmore_step hlt hX] at this; omega
      have H6 := Lib.hid h6
      clear h5 h6
      go_wp2_with (refine wl_appendS (base := w.heap.size) rfl (.tmp 23) (.tmp 24) _ rfl el_u8 (f := bv) (fun _ => rfl) rfl (OwS.lit (xs := [UInt8.ofNat (X % 128 + 128)]) _ _ 1 hb.size (by simp [maxLen]) rfl (by simp only [bv, List.map_cons, List.map_nil, List.cons.injEq, and_true, UInt8.toNat_ofNat', Value.int.injEq, true_and]; omega)) rfl (how.rd.alloc _) (by omega) (by omega) (by have := hb.size; simp; omega) ?_; intro A2 c2 w2 how2 _ hb2)
      go_roundw
      case rel => exact ⟨X / 128, 1 + k, c2, A2, _, by omega, by have := H6.out; omega, by go_num, rfl, H5.out, H6.out, how2, (hb.trans (below_alloc wr hb.size _)).trans hb2⟩
      case measure => simp [intOf]; omega
    · have e : X = 0 := by omega
      subst e
      have h5 : l = gput n := hl.out
      subst h5
      go_wp2
      go_ret2
      exact ⟨_, _, _, rfl, how, hb⟩

/-- The loop's relation: k bytes were looked at. -/
def RGTakeRel (bs : List UInt8) (n : Nat) (v i : Value) : Prop :=
  ∃ V k : Nat, k ≤ n ∧ k ≤ 4 ∧ v = .int .i64 V ∧ i = .int .i64 k ∧ V < 128 ^ k ∧ Hid (gtake bs = gt (4 - k) V k (bs.drop k))
set_option maxRecDepth 100000 in
theorem rgtake_any (A : Option Addr) (n c : Nat) (w : World) (hm : n ≤ 9223372036854775807) (B : Nat) (bs : List UInt8) (hr : RdS bv w B A n c bs) :
    Calls Try.prog 37 #[.slice A n c] w (RetT3 (gtake bs) w) := by
  have hlen := hr.len
  rcases Nat.eq_zero_or_pos n with h0 | h0
  · subst h0
    have e : bs = [] := List.length_eq_zero_iff.1 hlen
    subst e
    go_enter Try.func37, Try.ntmps37
    go_wp2
    go_loop [5, 6] (fun v i => v = .int .i64 0 ∧ i = .int .i64 0) (fun _ _ => 0)
    case atStart => exact ⟨rfl, rfl⟩
    case round =>
      obtain ⟨rfl, rfl⟩ := hrel
      go_wp2
      go_ret3
      exact ⟨rfl, rfl⟩
  · obtain ⟨x0, hx0⟩ : ∃ x0, bs[0]? = some x0 := ⟨bs[0]'(by omega), List.getElem?_eq_getElem _⟩
    have Hx0 := Lib.hid hx0
    clear hx0
    by_cases h128 : x0.toNat = 128
    · have hb : gtake bs = (0, 0, 3) := by
        unfold gtake
        rw [if_pos]
        rw [Hx0.out, (u8_is (by omega)).2 h128]; rfl
      have Hb := Lib.hid hb
      have hx128' : (x0.toNat : Int) = 128 := by omega
      clear hb
      go_enter Try.func37, Try.ntmps37
      go_wp2_with (first | (refine wl_at_b rfl _ _ _ rfl el_u8 rfl rfl (by omega) (by omega) hr ?_; intro p x hx hxl hc; have hxx : x0 = x := (u8_at (k := 0) hx.out Hx0.out).symm; subst hxx))
      go_ret3
      rw [Hb.out]
      exact ⟨rfl, rfl⟩
    · have hb : gtake bs = gt 4 0 0 bs := by
        unfold gtake
        rw [if_neg]
        intro e
        rw [Hx0.out] at e
        injection e with e
        exact h128 ((u8_is (by omega)).1 e)
      have Hb := Lib.hid hb
      have hx128' : ¬ (x0.toNat : Int) = 128 := by omega
      clear hb
      go_enter Try.func37, Try.ntmps37
      go_wp2_with (first | (refine wl_at_b rfl _ _ _ rfl el_u8 rfl rfl (by omega) (by omega) hr ?_; intro p x hx hxl hc; have hxx : x0 = x := (u8_at (k := 0) hx.out Hx0.out).symm; subst hxx))
      clear hx128' h128 Hx0
      go_loop [5, 6] (fun v i => RGTakeRel bs n v i) (fun _ i => n - (intOf i).toNat)
      case atStart => exact ⟨0, 0, by omega, by omega, rfl, rfl, by omega, Hb.out⟩
      case round =>
        obtain ⟨V, k, hkn, hk4, rfl, rfl, hV, hg⟩ := hrel
        by_cases hlt : k < n
        · by_cases hk44 : k = 4
          · subst hk44
            have hb : gtake bs = (0, 0, 3) := hg.out
            have Hb := Lib.hid hb
            clear hb
            go_wp2
            go_ret3
            rw [Hb.out]
            exact ⟨rfl, rfl⟩
          · obtain ⟨x0, hx0⟩ : ∃ x0, bs[k]? = some x0 := ⟨bs[k]'(by omega), List.getElem?_eq_getElem _⟩
            have Hx0 := Lib.hid hx0
            clear hx0
            have hx255 : x0.toNat < 256 := x0.toNat_lt
            have hp := pow128 (show k < 4 by omega)
            obtain ⟨hp1, hp2⟩ := hp
            have hV2 : V < 2097152 := by omega
            by_cases hx : x0.toNat < 128
            · have hb : gtake bs = (V * 128 + x0.toNat, k + 1, 0) := by rw [hg.out]; exact gt_low (by omega) Hx0.out hx
              have Hb := Lib.hid hb
              have hxm : (x0.toNat : Int) % 128 = x0.toNat := by omega
              clear hb hV hp1 hp2
              go_wp2_with (first | (refine wl_at_b rfl _ _ _ rfl el_u8 rfl rfl (by omega) (by omega) hr ?_; intro p x hx hxl hc; have hxx : x0 = x := (u8_at hx.out Hx0.out).symm; subst hxx))
              go_ret3
              rw [Hb.out]
              exact ⟨rfl, rfl⟩
            · obtain ⟨y, hy⟩ : ∃ y, x0.toNat - 128 = y := ⟨_, rfl⟩
              have hym : (x0.toNat : Int) % 128 = y := by omega
              have hb : gtake bs = gt (4 - (k + 1)) (V * 128 + y) (k + 1) (bs.drop (k + 1)) := by
                rw [hg.out, show 4 - k = (4 - (k + 1)) + 1 by omega, gt_high Hx0.out (by omega), hy]
              have Hb := Lib.hid hb
              have hV3 : V * 128 + y < 128 ^ (k + 1) := by rw [hp2]; omega
              have HV3 := Lib.hid hV3
              clear hb hV hp1 hp2 hV3 hy
              go_wp2_with (first | (refine wl_at_b rfl _ _ _ rfl el_u8 rfl rfl (by omega) (by omega) hr ?_; intro p x hx hxl hc; have hxx : x0 = x := (u8_at hx.out Hx0.out).symm; subst hxx))
              go_round
              case rel =>
                refine ⟨_, _, _, _, _, ?_, rfl, rfl, rfl, rfl, rfl⟩
                exact ⟨V * 128 + y, k + 1, by omega, by omega, by go_num, by go_num, HV3.out, Hb.out⟩
              case measure => simp [intOf]; omega
        · have e : k = n := by omega
          subst e
          have hgt : gtake bs = gt (4 - k) V k [] := by
            have hd : bs.drop k = [] := List.drop_eq_nil_of_le (by omega)
            rw [← hd, ← hg.out]
          by_cases hk44 : k = 4
          · subst hk44
            have hb : gtake bs = (0, 0, 3) := hgt
            have Hb := Lib.hid hb
            clear hb hgt
            go_wp2
            go_ret3
            rw [Hb.out]
            exact ⟨rfl, rfl⟩
          · have hb : gtake bs = (0, 0, 2) := by rw [hgt]; exact gt_nil _ _ _ (by omega)
            have Hb := Lib.hid hb
            clear hb hgt
            go_wp2
            go_ret3
            rw [Hb.out]
            exact ⟨rfl, rfl⟩
theorem rgput_any (n : Int) (w : World) : Calls Try.prog 34 #[.int .i64 n] w (RetP n w) := by
  by_cases h : 0 ≤ n ∧ n ≤ 268435455
  · obtain ⟨k, rfl⟩ := Int.eq_ofNat_of_zero_le h.1
    refine (rgput_in k w (by omega)).mono fun _ _ hh => .of_g ?_
    rw [GP_in k (by omega)]
    exact hh
  · refine (rgput_out n w (by omega)).mono fun _ _ hh => .of_g ?_
    rw [GP_out n (by omega)]
    exact hh
end Go.Proofs.Ytgiefjbdkkdaiaa
