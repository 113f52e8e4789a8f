/-
  The reference of layer 1 walked: Put, Take (as in NumRef, for seats without Row: never import both).
-/
import Derived.Test.YtijobfkmchbpcaaNum
import Derived.Test.YtijobfkmchbpcaaTypes
namespace Go.Proofs.Ytijobfkmchbpcaa
open Go.RowKit Go.Th
theorem rput_size (n s : Int) (w : World) (h : s < 1 ∨ 4 < s) : Calls Try.prog 46 #[.int .i64 n, .int .i64 s] w (RetNil 1 w) := by
  by_cases h1 : s < 1
  · go_enter Try.func46, Try.ntmps46
    go_wp2
    go_ret2
    exact ⟨rfl, rfl⟩
  · have h2 : 4 < s := by omega
    go_enter Try.func46, Try.ntmps46
    go_wp2
    go_ret2
    exact ⟨rfl, rfl⟩

theorem and_255 (x : Nat) (h : x < 9223372036854775808) : bits .and .i64 (x : Int) 255 = ((x % 256 : Nat) : Int) := by
  have := and_i64 x 255 h (by omega)
  rw [show x &&& 255 = x % 256 from Nat.and_two_pow_sub_one_eq_mod x 8] at this
  exact this

theorem rput_nat (n s : Nat) (w : World) (h1 : 1 ≤ s) (h2 : s ≤ 4) (hn : n < 9223372036854775808) :
    Calls Try.prog 46 #[.int .i64 n, .int .i64 s] w fun e w' => (n < 256 ^ s → RetRow w s (be n s) 0 e w') ∧ (256 ^ s ≤ n → e = .returned (.tuple #[.slice none 0 0, .int .i64 1]) ∧ Below w.heap.size w w') := by
  go_enter Try.func46, Try.ntmps46
  go_wp2
  go_loopw [6, 7, 8] (fun out x i wr => ∃ (k X : Nat) (A : Option Addr) (c : Nat), k ≤ s ∧ i = .int .i64 k ∧ Hid (X = n / 256 ^ k) ∧ X < 9223372036854775808 ∧ x = .int .i64 X ∧ out = .slice A k c ∧ OwS bv wr w.heap.size 5 A k c (be n k) ∧ Below w.heap.size w wr)
    (fun _ _ i _ => s - (intOf i).toNat)
  case atStart => exact ⟨0, n, _, 0, by omega, rfl, by show _ = _; simp, hn, rfl, rfl, OwS.lit _ _ _ (Nat.le_refl _) (by simp [maxLen]) rfl rfl, below_alloc _ (Nat.le_refl _) _⟩
  case round =>
    obtain ⟨k, X, A, c, hk, rfl, hX, hXl, rfl, rfl, how, hb⟩ := hrel
    by_cases hlt : k < s
    · have e1 := and_255 X hXl
      have e2 : X % 256 % 256 = X % 256 := by omega
      have hX2 : X / 256 = n / 256 ^ (k + 1) := by rw [hX.out, Nat.div_div_eq_div_mul, Nat.pow_succ]
      have HX2 := Lib.hid hX2
      clear hX2
      go_wp2_with (refine wl_appendS (base := wr.heap.size) rfl (.tmp 25) (.tmp 26) _ rfl el_u8 (f := bv) (fun _ => rfl) rfl (OwS.lit (xs := [UInt8.ofNat X]) _ _ 1 (Nat.le_refl _) (by simp [maxLen]) rfl (by simp [bv])) rfl (how.rd.alloc _) (by omega) (by omega) (by simp) ?_; intro A2 c2 w2 how2 _ hb2)
      go_roundw
      case rel =>
        rw [hX.out, List.singleton_append, ← be_cons, Nat.add_comm 1 k] at how2
        exact ⟨k + 1, X / 256, A2, c2, by omega, by go_num, HX2.out, by omega, by go_num, by rw [Nat.add_comm 1 k], how2.base_le hb.size, hb.trans (((below_alloc wr (Nat.le_refl _) _).trans hb2).mono hb.size)⟩
      case measure => simp [intOf]; omega
    · have e : k = s := by omega
      subst e
      by_cases hf : n < 256 ^ k
      · have h0 : X = 0 := by rw [hX.out]; exact Nat.div_eq_of_lt hf
        subst h0
        go_wp2
        go_ret2
        exact ⟨fun _ => ⟨_, _, rfl, how, hb⟩, fun h => absurd hf (by omega)⟩
      · have h0 : 1 ≤ X := by rw [hX.out]; exact Nat.div_pos (by omega) (Nat.pow_pos (by omega))
        have hne : ((X : Int) != 0) = true := by rw [bne_iff_ne]; omega
        go_wp2
        go_ret2
        exact ⟨fun h => absurd h hf, fun _ => ⟨rfl, hb⟩⟩

theorem and_byte (x : Int) : ∃ b : UInt8, bv b = .int .u8 (bits .and .i64 x 255 % 256) :=
  ⟨UInt8.ofNat (bits .and .i64 x 255 % 256).toNat, by simp only [bv, UInt8.toNat_ofNat', Value.int.injEq, true_and]; omega⟩
theorem rput_neg (n : Int) (s : Nat) (w : World) (h1 : 1 ≤ s) (h2 : s ≤ 4) (hn : n < 0) (hn' : -9223372036854775808 ≤ n) :
    Calls Try.prog 46 #[.int .i64 n, .int .i64 s] w fun e w' => e = .returned (.tuple #[.slice none 0 0, .int .i64 1]) ∧ Below w.heap.size w w' := by
  go_enter Try.func46, Try.ntmps46
  go_wp2
  go_loopw [6, 7, 8] (fun out x i wr => ∃ (k : Nat) (X : Int) (A : Option Addr) (c : Nat) (bs : List UInt8), k ≤ s ∧ i = .int .i64 k ∧ -9223372036854775808 ≤ X ∧ X ≤ 0 ∧ x = .int .i64 X ∧ out = .slice A k c ∧ OwS bv wr w.heap.size 5 A k c bs ∧ Below w.heap.size w wr)
    (fun _ _ i _ => s - (intOf i).toNat)
  case atStart => exact ⟨0, n, _, 0, [], by omega, rfl, hn', by omega, rfl, rfl, OwS.lit _ _ _ (Nat.le_refl _) (by simp [maxLen]) rfl rfl, below_alloc _ (Nat.le_refl _) _⟩
  case round =>
    obtain ⟨k, X, A, c, bs, hk, rfl, hX0, hX1, rfl, rfl, how, hb⟩ := hrel
    by_cases hlt : k < s
    · obtain ⟨b, hbb⟩ := and_byte X
      have hq : -9223372036854775808 ≤ X.tdiv 256 ∧ X.tdiv 256 ≤ 0 := by
        have := Int.tdiv_nonneg (a := -X) (b := 256) (by omega) (by omega)
        rw [Int.neg_tdiv] at this
        have h2 := Int.mul_tdiv_add_tmod X 256
        have h3 := Int.tmod_lt_of_pos X (b := 256) (by omega)
        omega
      obtain ⟨hq0, hq1⟩ := hq
      have Hbb := Lib.hid hbb
      clear hbb
      go_wp2_with (refine wl_appendS (base := wr.heap.size) rfl (.tmp 25) (.tmp 26) _ rfl el_u8 (f := bv) (fun _ => rfl) rfl (OwS.lit (xs := [b]) _ _ 1 (Nat.le_refl _) (by simp [maxLen]) rfl (by simp only [List.map_cons, List.map_nil, Hbb.out])) rfl (how.rd.alloc _) (by omega) (by omega) (by simp) ?_; intro A2 c2 w2 how2 _ hb2)
      go_roundw
      case rel => exact ⟨k + 1, X.tdiv 256, A2, c2, _, by omega, by go_num, hq0, hq1, by go_num, by rw [Nat.add_comm 1 k], by rw [Nat.add_comm 1 k] at how2; exact how2.base_le hb.size, hb.trans (((below_alloc wr (Nat.le_refl _) _).trans hb2).mono hb.size)⟩
      case measure => simp [intOf]; omega
    · go_wp2
      go_ret2
      exact ⟨rfl, hb⟩

theorem rtake_size (A : Option Addr) (n c : Nat) (s : Int) (w : World) (h : s < 1 ∨ 4 < s) : Calls Try.prog 47 #[.slice A n c, .int .i64 s] w (RetNum 0 1 w) := by
  by_cases h1 : s < 1
  · go_enter Try.func47, Try.ntmps47
    go_wp2
    go_ret2
    exact ⟨rfl, rfl⟩
  · have h2 : 4 < s := by omega
    go_enter Try.func47, Try.ntmps47
    go_wp2
    go_ret2
    exact ⟨rfl, rfl⟩
theorem rtake_short (A : Option Addr) (n c : Nat) (s : Nat) (w : World) (h1 : 1 ≤ s) (h2 : s ≤ 4) (h : n < s) : Calls Try.prog 47 #[.slice A n c, .int .i64 s] w (RetNum 0 2 w) := by
  go_enter Try.func47, Try.ntmps47
  go_wp2
  go_ret2
  exact ⟨rfl, rfl⟩
theorem rtake_yes (A : Option Addr) (n c : Nat) (s : Nat) (w : World) (h1 : 1 ≤ s) (h2 : s ≤ 4) (h : s ≤ n) (hm : n ≤ 9223372036854775807) (B : Nat) (bs : List UInt8) (hr : RdS bv w B A n c bs) :
    Calls Try.prog 47 #[.slice A n c, .int .i64 s] w (RetNum (val (bs.take s)) 0 w) := by
  go_enter Try.func47, Try.ntmps47
  go_wp2
  go_loop [6, 7] (fun v x => ∃ i V : Nat, i ≤ s ∧ x = .int .i64 i ∧ Hid (V = val (bs.take i)) ∧ v = .int .i64 V)
    (fun _ x => s - (intOf x).toNat)
  case atStart => exact ⟨0, 0, by omega, rfl, rfl, rfl⟩
  case round =>
    obtain ⟨i, V, hi, rfl, hV, rfl⟩ := hrel
    by_cases hlt : i < s
    · have hv : (V : Int) < 16777216 := by
        have h5 := val_lt (bs.take i)
        have h6 : 256 ^ (bs.take i).length ≤ 256 ^ 3 := Nat.pow_le_pow_right (by omega) (by rw [List.length_take]; omega)
        have h7 : 256 ^ 3 = 16777216 := rfl
        have h8 := hV.out
        omega
      go_wp2_with (first
        | (refine wl_at_b rfl _ _ _ rfl el_u8 rfl rfl (by omega) (by omega) hr ?_; intro p x hx hxl hc))
      have e2 : val (bs.take (i + 1)) = V * 256 + x.toNat := by rw [hV.out]; exact val_take_succ bs i x hx.out
      go_round
      have H2 := Lib.hid e2.symm
      case rel => exact ⟨i + 1, by omega, by omega, V * 256 + x.toNat, H2, by omega⟩
      case measure => simp [intOf]; omega
    · go_wp2
      have e : i = s := by omega
      subst e
      go_ret2
      exact ⟨congrArg (fun z : Nat => Ending.returned (.tuple #[.int .i64 (z : Int), .int .i64 0])) hV.out, rfl⟩

/-! ### Row -/
/-- Does a number fit s bytes? -/
def Fits (s : Nat) (n : Int) : Prop := 0 ≤ n ∧ n.toNat < 256 ^ s
theorem put_fit (n : Int) (s : Nat) (w : World) (h1 : 1 ≤ s) (h2 : s ≤ 4) (h : Fits s n) : Calls Try.prog 25 #[.int .i64 n, .int .i64 s] w (RetRow w s (be n.toNat s) 0) :=
  put_yes n s w h1 h2 h.1 h.2
theorem put_misfit (n : Int) (s : Nat) (w : World) (h1 : 1 ≤ s) (h2 : s ≤ 4) (h : ¬ Fits s n) : Calls Try.prog 25 #[.int .i64 n, .int .i64 s] w (RetNil 1 w) := by
  refine put_out n s w h1 h2 ?_
  by_cases h0 : n < 0
  · exact .inl h0
  · right
    have h3 : 256 ^ s ≤ n.toNat := by
      rcases Nat.lt_or_ge n.toNat (256 ^ s) with h4 | h4
      · exact absurd ⟨by omega, h4⟩ h
      · exact h4
    obtain ⟨m, rfl⟩ := Int.eq_ofNat_of_zero_le (by omega : 0 ≤ n)
    rw [Int.toNat_natCast] at h3
    have h5 : ((256 ^ s : Nat) : Int) ≤ (m : Int) := by omega
    rwa [Int.natCast_pow] at h5
theorem rput_fit (n : Int) (s : Nat) (w : World) (h1 : 1 ≤ s) (h2 : s ≤ 4) (hn : n ≤ 9223372036854775807) (h : Fits s n) : Calls Try.prog 46 #[.int .i64 n, .int .i64 s] w (RetRow w s (be n.toNat s) 0) := by
  obtain ⟨h0, h3⟩ := h
  obtain ⟨m, rfl⟩ := Int.eq_ofNat_of_zero_le h0
  exact (rput_nat m s w h1 h2 (by omega)).mono fun e w' hh => hh.1 (by simpa using h3)
/-- Nothing, and a whole number; what was there is as it was. -/
def RetNone (er : Int) (w : World) (e : Ending) (w' : World) : Prop := e = .returned (.tuple #[.slice none 0 0, .int .i64 er]) ∧ Below w.heap.size w w'
theorem rput_misfit (n : Int) (s : Nat) (w : World) (h1 : 1 ≤ s) (h2 : s ≤ 4) (hn : -9223372036854775808 ≤ n ∧ n ≤ 9223372036854775807) (h : ¬ Fits s n) : Calls Try.prog 46 #[.int .i64 n, .int .i64 s] w (RetNone 1 w) := by
  by_cases h0 : n < 0
  · exact rput_neg n s w h1 h2 h0 hn.1
  · have h3 : 256 ^ s ≤ n.toNat := by
      rcases Nat.lt_or_ge n.toNat (256 ^ s) with h4 | h4
      · exact absurd ⟨by omega, h4⟩ h
      · exact h4
    obtain ⟨m, rfl⟩ := Int.eq_ofNat_of_zero_le (by omega : 0 ≤ n)
    exact (rput_nat m s w h1 h2 (by omega)).mono fun e w' hh => hh.2 (by simpa using h3)

end Go.Proofs.Ytijobfkmchbpcaa
