/-
  The walks of package num: sized, Put, Take.
-/
import Derived.Test.YtijobfkmchbpcaaTypes
import Derived.Test.YtijobfkmchbpcaaNumPlain
namespace Go.Proofs.Ytijobfkmchbpcaa
open Go.RowKit Go.Th

/-- A row of the call's own, and a whole number, are returned; what was there is as it was. -/
def RetRow (w : World) (n : Nat) (bs : List UInt8) (er : Int) (e : Ending) (w' : World) : Prop :=
  ∃ A c, e = .returned (.tuple #[.slice A n c, .int .i64 er]) ∧ OwS bv w' w.heap.size 5 A n c bs ∧ Below w.heap.size w w'

theorem sized_yes (s : Int) (w : World) (h1 : 1 ≤ s) (h2 : s ≤ 4) : Calls Try.prog 44 #[.int .i64 s] w fun e w' => e = .returned (.bool true) ∧ w = w' := by
  go_enter Try.func44, Try.ntmps44
  go_wp2
  go_ret
  exact ⟨rfl, rfl⟩
theorem sized_no (s : Int) (w : World) (h : s < 1 ∨ 4 < s) : Calls Try.prog 44 #[.int .i64 s] w fun e w' => e = .returned (.bool false) ∧ w = w' := by
  rcases h with h | h
  · go_enter Try.func44, Try.ntmps44
    go_wp2
    go_ret
    exact ⟨rfl, rfl⟩
  · have h1 : 1 ≤ s := by omega
    go_enter Try.func44, Try.ntmps44
    go_wp2
    go_ret
    exact ⟨by simp; omega, rfl⟩

theorem put_byte (n : Int) (h3 : 0 ≤ n) (i : Nat) : bv (UInt8.ofNat (n.toNat / 256 ^ i)) = .int .u8 (n / 2 ^ (8 * i) % 256) := by
  obtain ⟨m, rfl⟩ := Int.eq_ofNat_of_zero_le h3
  simp only [bv, Value.int.injEq, true_and, UInt8.toNat_ofNat', Int.toNat_natCast]
  have e3 : (256 : Nat) ^ i = 2 ^ (8 * i) := by rw [Nat.pow_mul]
  rw [e3, Int.natCast_emod, Int.natCast_ediv, Int.natCast_pow]
  rfl

theorem put_yes (n : Int) (s : Nat) (w : World) (h1 : 1 ≤ s) (h2 : s ≤ 4) (h3 : 0 ≤ n) (h4 : n.toNat < 256 ^ s) :
    Calls Try.prog 25 #[.int .i64 n, .int .i64 s] w (RetRow w s (be n.toNat s) 0) := by
  have hp : n < wrap64 (2 ^ (8 * s)) ∧ n < 4294967296 := by
    have : s = 1 ∨ s = 2 ∨ s = 3 ∨ s = 4 := by omega
    rcases this with rfl | rfl | rfl | rfl <;> simp [wrap64] at h4 ⊢ <;> omega
  obtain ⟨hp1, hp2⟩ := hp
  have hp3 : ¬ wrap64 (2 ^ (8 * s)) ≤ n := by omega
  clear h4
  go_enter Try.func25, Try.ntmps25
  go_wp2_with (first
    | (go_at_call 44; refine (sized_yes _ _ (by omega) (by omega)).mono ?_; rintro e w' ⟨rfl, rfl⟩)
    | (refine wl_makeS (base := w.heap.size) rfl _ _ _ rfl el_u8 (f := bv) 0 rfl s rfl rfl rfl rfl (by omega) (by omega) (Nat.le_refl _) ?_; intro g w1 hg how hb))
  have how0 : OwS bv w1 w.heap.size 5 (some ⟨g, 0, none⟩) s s (List.replicate (s - 0) 0 ++ (be n.toNat s).drop (s - 0)) := by
    rw [Nat.sub_zero, List.drop_eq_nil_of_le (by rw [be_length]; omega), List.append_nil]
    exact how
  clear how
  go_loopw [25] (fun x wr => ∃ i : Nat, i ≤ s ∧ x = .int .i64 i ∧ OwS bv wr w.heap.size 5 (some ⟨g, 0, none⟩) s s (List.replicate (s - i) 0 ++ (be n.toNat s).drop (s - i)) ∧ Below w.heap.size w wr)
    (fun x _ => s - (intOf x).toNat)
  case atStart => exact ⟨0, by omega, rfl, how0, hb⟩
  case round =>
    obtain ⟨i, hi, rfl, how, hb⟩ := hrel
    go_wp2_with (first
      | (refine wl_index_own rfl _ _ _ rfl Try.underlying36 size_u8 rfl rfl (by omega) (by omega) ?_)
      | (refine wl_setS rfl _ _ _ rfl size_u8 rfl rfl (UInt8.ofNat (n.toNat / 256 ^ i)) (put_byte n h3 i) how (by omega) ?_; intro w2 how2 hg2 hb2))
    · go_roundw
      case rel =>
        rw [show ((s : Int) - 1 - (i : Int)).toNat * 1 = s - 1 - i by omega, be_fill n.toNat s i (by assumption)] at how2
        exact ⟨i + 1, by omega, by go_num, how2, hb.trans hb2⟩
      case measure => simp [intOf]; omega
    · have e : i = s := by omega
      subst e
      go_ret2
      rw [Nat.sub_self] at how
      exact ⟨_, _, rfl, how, hb⟩

theorem put_nat (n s : Nat) (w : World) (h1 : 1 ≤ s) (h2 : s ≤ 4) (h4 : n < 256 ^ s) :
    Calls Try.prog 25 #[.int .i64 n, .int .i64 s] w (RetRow w s (be n s) 0) :=
  put_yes n s w h1 h2 (by omega) h4
/-- Nothing, and a whole number other than 0. -/
def RetNil (er : Int) (w : World) (e : Ending) (w' : World) : Prop := e = .returned (.tuple #[.slice none 0 0, .int .i64 er]) ∧ w = w'

theorem put_size (n s : Int) (w : World) (h : s < 1 ∨ 4 < s) : Calls Try.prog 25 #[.int .i64 n, .int .i64 s] w (RetNil 1 w) := by
  go_enter Try.func25, Try.ntmps25
  go_wp2_with (first
    | (go_at_call 44; refine (sized_no _ _ h).mono ?_; rintro e w' ⟨rfl, rfl⟩))
  go_ret2
  exact ⟨rfl, rfl⟩
theorem put_out (n : Int) (s : Nat) (w : World) (h1 : 1 ≤ s) (h2 : s ≤ 4) (h : n < 0 ∨ 256 ^ s ≤ n) : Calls Try.prog 25 #[.int .i64 n, .int .i64 s] w (RetNil 1 w) := by
  have hp : n < 0 ∨ (0 ≤ n ∧ wrap64 (2 ^ (8 * s)) ≤ n) := by
    have : s = 1 ∨ s = 2 ∨ s = 3 ∨ s = 4 := by omega
    rcases this with rfl | rfl | rfl | rfl <;> simp [wrap64] at h ⊢ <;> omega
  clear h
  rcases hp with hp | ⟨hp, hp'⟩
  · go_enter Try.func25, Try.ntmps25
    go_wp2_with (first
      | (go_at_call 44; refine (sized_yes _ _ (by omega) (by omega)).mono ?_; rintro e w' ⟨rfl, rfl⟩))
    go_ret2
    exact ⟨rfl, rfl⟩
  · go_enter Try.func25, Try.ntmps25
    go_wp2_with (first
      | (go_at_call 44; refine (sized_yes _ _ (by omega) (by omega)).mono ?_; rintro e w' ⟨rfl, rfl⟩))
    go_ret2
    exact ⟨rfl, rfl⟩

/-- Two whole numbers, the world as it was. -/
def RetNum (n er : Int) (w : World) (e : Ending) (w' : World) : Prop := e = .returned (.tuple #[.int .i64 n, .int .i64 er]) ∧ w = w'

theorem take_size (A : Option Addr) (n c : Nat) (s : Int) (w : World) (h : s < 1 ∨ 4 < s) : Calls Try.prog 43 #[.slice A n c, .int .i64 s] w (RetNum 0 1 w) := by
  go_enter Try.func43, Try.ntmps43
  go_wp2_with (first
    | (go_at_call 44; refine (sized_no _ _ h).mono ?_; rintro e w' ⟨rfl, rfl⟩))
  go_ret2
  exact ⟨rfl, rfl⟩
theorem take_short (A : Option Addr) (n c : Nat) (s : Nat) (w : World) (h1 : 1 ≤ s) (h2 : s ≤ 4) (h : n < s) : Calls Try.prog 43 #[.slice A n c, .int .i64 s] w (RetNum 0 2 w) := by
  go_enter Try.func43, Try.ntmps43
  go_wp2_with (first
    | (go_at_call 44; refine (sized_yes _ _ (by omega) (by omega)).mono ?_; rintro e w' ⟨rfl, rfl⟩))
  go_ret2
  exact ⟨rfl, rfl⟩
theorem take_yes (A : Option Addr) (n c : Nat) (s : Nat) (w : World) (h1 : 1 ≤ s) (h2 : s ≤ 4) (h : s ≤ n) (hm : n ≤ 9223372036854775807) (B : Nat) (bs : List UInt8) (hr : RdS bv w B A n c bs) :
    Calls Try.prog 43 #[.slice A n c, .int .i64 s] w (RetNum (val (bs.take s)) 0 w) := by
  have hlen := hr.len
  have Hlen := Lib.hid hlen
  clear hlen
  go_enter Try.func43, Try.ntmps43
  go_wp2_with (first
    | (go_at_call 44; refine (sized_yes _ _ (by omega) (by omega)).mono ?_; rintro e w' ⟨rfl, rfl⟩))
  go_loop [4, 15] (fun v x => ∃ i : Nat, i ≤ s ∧ x = .int .i64 i ∧ v = .int .i64 (val (bs.take i)))
    (fun _ x => s - (intOf x).toNat)
  case atStart => exact ⟨0, by omega, rfl, rfl⟩
  case round =>
    obtain ⟨i, hi, rfl, rfl⟩ := hrel
    by_cases hlt : i < s
    · have hv : (val (bs.take i) : Int) < 16777216 := by
        have h5 := val_lt (bs.take i)
        have h6 : 256 ^ (bs.take i).length ≤ 256 ^ 3 := Nat.pow_le_pow_right (by omega) (by rw [List.length_take]; omega)
        have h7 : 256 ^ 3 = 16777216 := rfl
        omega
      go_wp2_with (first
        | (refine wl_at_b rfl _ _ _ rfl el_u8 rfl rfl (by omega) (by omega) hr ?_; intro p x hx hxl hc))
      have e1 := or_byte (val (bs.take i)) x.toNat (by omega) (by omega)
      have e2 : val (bs.take (i + 1)) = val (bs.take i) * 256 + x.toNat := val_take_succ bs i x hx.out
      go_round
      case rel => exact ⟨_, _, _, ⟨i + 1, by omega, by go_num, by rw [e2]⟩, by rw [e1], rfl, rfl⟩
      case measure => simp [intOf]; omega
    · go_wp2
      have e : i = s := by omega
      subst e
      go_ret2
      exact ⟨rfl, rfl⟩

/-- The same, the size as a whole number. -/
theorem take_int (A : Option Addr) (n c : Nat) (S : Int) (w : World) (s : Nat) (hS : S = (s : Int)) (h1 : 1 ≤ s) (h2 : s ≤ 4) (h : s ≤ n) (hm : n ≤ 9223372036854775807) (B : Nat) (bs : List UInt8) (hr : RdS bv w B A n c bs) :
    Calls Try.prog 43 #[.slice A n c, .int .i64 S] w (RetNum (val (bs.take s)) 0 w) := by
  subst hS
  exact take_yes A n c s w h1 h2 h hm B bs hr
end Go.Proofs.Ytijobfkmchbpcaa
