/-
  Laid together by wip/tools/merge.py out of: Num, NumLaw, NumRef, FramePut, FrameLaw, FrameBack, NumSpec, GroupPart, FrameBurst, FrameSpoilt, Keep, AppendK.
-/
import Derived.StillTailTactics
import Derived.Test.YtjambnlocjjjpaaCfMa
import Derived.Test.YtjambnlocjjjpaaCfMb
import Derived.Test.YtjambnlocjjjpaaCfMd

/-! ### Num -/
namespace Go.Proofs.Ytjambnlocjjjpaa
open Go.RowKit Go.Th
/-- A row of the call's own, and a whole number, are returned; what was there is as it was. -/
def RetRow (w : World) (n : Nat) (bs : List UInt8) (er : Int) (e : Ending) (w' : World) : Prop :=
  ∃ A c, e = .returned (.tuple #[.slice A n c, .int .i64 er]) ∧ OwS bv w' w.heap.size 5 A n c bs ∧ Below w.heap.size w w'

theorem sized_yes (s : Int) (w : World) (h1 : 1 ≤ s) (h2 : s ≤ 4) : Calls Try.prog 27 #[.int .i64 s] w fun e w' => e = .returned (.bool true) ∧ w = w' := by
  go_enter Try.func27, Try.ntmps27
  go_wp2
  go_ret
  exact ⟨rfl, rfl⟩
theorem sized_no (s : Int) (w : World) (h : s < 1 ∨ 4 < s) : Calls Try.prog 27 #[.int .i64 s] w fun e w' => e = .returned (.bool false) ∧ w = w' := by
  rcases h with h | h
  · go_enter Try.func27, Try.ntmps27
    go_wp2
    go_ret
    exact ⟨rfl, rfl⟩
  · have h1 : 1 ≤ s := by omega
    go_enter Try.func27, Try.ntmps27
    go_wp2
    go_ret
    exact ⟨by simp; omega, rfl⟩

theorem put_byte (n : Int) (h3 : 0 ≤ n) (i : Nat) : bv (UInt8.ofNat (n.toNat / 256 ^ i)) = .int .u8 (n / 2 ^ (8 * i) % 256) := by
  obtain ⟨m, rfl⟩ := Int.eq_ofNat_of_zero_le h3
  simp only [bv, Value.int.injEq, true_and, UInt8.toNat_ofNat', Int.toNat_natCast]
  have e3 : (256 : Nat) ^ i = 2 ^ (8 * i) := by rw [Nat.pow_mul]
  rw [e3, Int.natCast_emod, Int.natCast_ediv, Int.natCast_pow]
  rfl

theorem put_yes (n : Int) (s : Nat) (w : World) (h1 : 1 ≤ s) (h2 : s ≤ 4) (h3 : 0 ≤ n) (h4 : n.toNat < 256 ^ s) :
    Calls Try.prog 13 #[.int .i64 n, .int .i64 s] w (RetRow w s (be n.toNat s) 0) := by
  have hp : n < wrap64 (2 ^ (8 * s)) ∧ n < 4294967296 := by
    have : s = 1 ∨ s = 2 ∨ s = 3 ∨ s = 4 := by omega
    rcases this with rfl | rfl | rfl | rfl <;> simp [wrap64] at h4 ⊢ <;> omega
  obtain ⟨hp1, hp2⟩ := hp
  have hp3 : ¬ wrap64 (2 ^ (8 * s)) ≤ n := by omega
  clear h4
  go_enter Try.func13, Try.ntmps13
  go_wp2_with (first
    | (go_at_call 27; refine (sized_yes _ _ (by omega) (by omega)).mono ?_; rintro e w' ⟨rfl, rfl⟩)
    | (refine wl_makeS (base := w.heap.size) rfl _ _ _ rfl el_u8 (f := bv) 0 rfl s rfl rfl rfl rfl (by omega) (by omega) (Nat.le_refl _) ?_; intro g w1 hg how hb))
  have how0 : OwS bv w1 w.heap.size 5 (some ⟨g, 0, none⟩) s s (List.replicate (s - 0) 0 ++ (be n.toNat s).drop (s - 0)) := by
    rw [Nat.sub_zero, List.drop_eq_nil_of_le (by rw [be_length]; omega), List.append_nil]
    exact how
  clear how
  go_loopw [25] (fun x wr => ∃ i : Nat, i ≤ s ∧ x = .int .i64 i ∧ OwS bv wr w.heap.size 5 (some ⟨g, 0, none⟩) s s (List.replicate (s - i) 0 ++ (be n.toNat s).drop (s - i)) ∧ Below w.heap.size w wr)
    (fun x _ => s - (intOf x).toNat)
  case atStart => exact ⟨0, by omega, rfl, how0, hb⟩
  case round =>
    obtain ⟨i, hi, rfl, how, hb⟩ := hrel
    go_wp2_with (first
      | (refine wl_index_own rfl _ _ _ rfl Try.underlying30 size_u8 rfl rfl (by omega) (by omega) ?_)
      | (refine wl_setS rfl _ _ _ rfl size_u8 rfl rfl (UInt8.ofNat (n.toNat / 256 ^ i)) (put_byte n h3 i) how (by omega) ?_; intro w2 how2 hg2 hb2))
    · go_roundw
      case rel =>
        rw [show ((s : Int) - 1 - (i : Int)).toNat * 1 = s - 1 - i by omega, be_fill n.toNat s i (by assumption)] at how2
        exact ⟨i + 1, by omega, by go_num, how2, hb.trans hb2⟩
      case measure => simp [intOf]; omega
    · have e : i = s := by omega
      subst e
      go_ret2
      rw [Nat.sub_self] at how
      exact ⟨_, _, rfl, how, hb⟩

theorem put_nat (n s : Nat) (w : World) (h1 : 1 ≤ s) (h2 : s ≤ 4) (h4 : n < 256 ^ s) :
    Calls Try.prog 13 #[.int .i64 n, .int .i64 s] w (RetRow w s (be n s) 0) :=
  put_yes n s w h1 h2 (by omega) h4
/-- Nothing, and a whole number other than 0. -/
def RetNil (er : Int) (w : World) (e : Ending) (w' : World) : Prop := e = .returned (.tuple #[.slice none 0 0, .int .i64 er]) ∧ w = w'

theorem put_size (n s : Int) (w : World) (h : s < 1 ∨ 4 < s) : Calls Try.prog 13 #[.int .i64 n, .int .i64 s] w (RetNil 1 w) := by
  go_enter Try.func13, Try.ntmps13
  go_wp2_with (first
    | (go_at_call 27; refine (sized_no _ _ h).mono ?_; rintro e w' ⟨rfl, rfl⟩))
  go_ret2
  exact ⟨rfl, rfl⟩
theorem put_out (n : Int) (s : Nat) (w : World) (h1 : 1 ≤ s) (h2 : s ≤ 4) (h : n < 0 ∨ 256 ^ s ≤ n) : Calls Try.prog 13 #[.int .i64 n, .int .i64 s] w (RetNil 1 w) := by
  have hp : n < 0 ∨ (0 ≤ n ∧ wrap64 (2 ^ (8 * s)) ≤ n) := by
    have : s = 1 ∨ s = 2 ∨ s = 3 ∨ s = 4 := by omega
    rcases this with rfl | rfl | rfl | rfl <;> simp [wrap64] at h ⊢ <;> omega
  clear h
  rcases hp with hp | ⟨hp, hp'⟩
  · go_enter Try.func13, Try.ntmps13
    go_wp2_with (first
      | (go_at_call 27; refine (sized_yes _ _ (by omega) (by omega)).mono ?_; rintro e w' ⟨rfl, rfl⟩))
    go_ret2
    exact ⟨rfl, rfl⟩
  · go_enter Try.func13, Try.ntmps13
    go_wp2_with (first
      | (go_at_call 27; refine (sized_yes _ _ (by omega) (by omega)).mono ?_; rintro e w' ⟨rfl, rfl⟩))
    go_ret2
    exact ⟨rfl, rfl⟩

/-- Two whole numbers, the world as it was. -/
def RetNum (n er : Int) (w : World) (e : Ending) (w' : World) : Prop := e = .returned (.tuple #[.int .i64 n, .int .i64 er]) ∧ w = w'

theorem take_size (A : Option Addr) (n c : Nat) (s : Int) (w : World) (h : s < 1 ∨ 4 < s) : Calls Try.prog 50 #[.slice A n c, .int .i64 s] w (RetNum 0 1 w) := by
  go_enter Try.func50, Try.ntmps50
  go_wp2_with (first
    | (go_at_call 27; refine (sized_no _ _ h).mono ?_; rintro e w' ⟨rfl, rfl⟩))
  go_ret2
  exact ⟨rfl, rfl⟩
theorem take_short (A : Option Addr) (n c : Nat) (s : Nat) (w : World) (h1 : 1 ≤ s) (h2 : s ≤ 4) (h : n < s) : Calls Try.prog 50 #[.slice A n c, .int .i64 s] w (RetNum 0 2 w) := by
  go_enter Try.func50, Try.ntmps50
  go_wp2_with (first
    | (go_at_call 27; refine (sized_yes _ _ (by omega) (by omega)).mono ?_; rintro e w' ⟨rfl, rfl⟩))
  go_ret2
  exact ⟨rfl, rfl⟩
theorem take_yes (A : Option Addr) (n c : Nat) (s : Nat) (w : World) (h1 : 1 ≤ s) (h2 : s ≤ 4) (h : s ≤ n) (hm : n ≤ 9223372036854775807) (B : Nat) (bs : List UInt8) (hr : RdS bv w B A n c bs) :
    Calls Try.prog 50 #[.slice A n c, .int .i64 s] w (RetNum (val (bs.take s)) 0 w) := by
  have hlen := hr.len
  have Hlen := Lib.hid hlen
  clear hlen
  go_enter Try.func50, Try.ntmps50
  go_wp2_with (first
    | (go_at_call 27; refine (sized_yes _ _ (by omega) (by omega)).mono ?_; rintro e w' ⟨rfl, rfl⟩))
  go_loop [4, 15] (fun v x => ∃ i : Nat, i ≤ s ∧ x = .int .i64 i ∧ v = .int .i64 (val (bs.take i)))
    (fun _ x => s - (intOf x).toNat)
  case atStart => exact ⟨0, by omega, rfl, rfl⟩
  case round =>
    obtain ⟨i, hi, rfl, rfl⟩ := hrel
    by_cases hlt : i < s
    · have hv : (val (bs.take i) : Int) < 16777216 := by
        have h5 := val_lt (bs.take i)
        have h6 : 256 ^ (bs.take i).length ≤ 256 ^ 3 := Nat.pow_le_pow_right (by omega) (by rw [List.length_take]; omega)
        have h7 : 256 ^ 3 = 16777216 := rfl
        omega
      go_wp2_with (first
        | (refine wl_at_b rfl _ _ _ rfl el_u8 rfl rfl (by omega) (by omega) hr ?_; intro p x hx hxl hc))
      have e1 := or_byte (val (bs.take i)) x.toNat (by omega) (by omega)
      have e2 : val (bs.take (i + 1)) = val (bs.take i) * 256 + x.toNat := val_take_succ bs i x hx.out
      go_round
      case rel => exact ⟨_, _, _, ⟨i + 1, by omega, by go_num, by rw [e2]⟩, by rw [e1], rfl, rfl⟩
      case measure => simp [intOf]; omega
    · go_wp2
      have e : i = s := by omega
      subst e
      go_ret2
      exact ⟨rfl, rfl⟩

/-- The same, the size as a whole number. -/
theorem take_int (A : Option Addr) (n c : Nat) (S : Int) (w : World) (s : Nat) (hS : S = (s : Int)) (h1 : 1 ≤ s) (h2 : s ≤ 4) (h : s ≤ n) (hm : n ≤ 9223372036854775807) (B : Nat) (bs : List UInt8) (hr : RdS bv w B A n c bs) :
    Calls Try.prog 50 #[.slice A n c, .int .i64 S] w (RetNum (val (bs.take s)) 0 w) := by
  subst hS
  exact take_yes A n c s w h1 h2 h hm B bs hr
end Go.Proofs.Ytjambnlocjjjpaa

/-! ### NumLaw -/
namespace Go.Proofs.Ytjambnlocjjjpaa
open Go.RowKit Go.Th
/-- A slice is returned that reads as the first k of a list; the world is as it was. -/
def RetTake {α : Type} (f : α → Value) (k : Nat) (w : World) (B : Nat) (xs : List α) (e : Ending) (w' : World) : Prop :=
  ∃ A' c' m ys, e = .returned (.slice A' m c') ∧ Hid (ys = xs.take k) ∧ m ≤ k ∧ RdS f w B A' m c' ys ∧ w = w'

theorem put_258 (w : World) : Calls Try.prog 13 #[.int .i64 258, .int .i64 3] w (RetRow w 3 [0, 1, 2] 0) :=
  put_yes 258 3 w (by omega) (by omega) (by omega) (by decide)

theorem take_0129 (w : World) : Calls Try.prog 50 #[.slice (some ⟨w.heap.size, 0, none⟩) 4 4, .int .i64 3] (w.alloc (.cells #[.int .u8 0, .int .u8 1, .int .u8 2, .int .u8 9] 5)) (RetNum 258 0 (w.alloc (.cells #[.int .u8 0, .int .u8 1, .int .u8 2, .int .u8 9] 5))) := by
  have how2 := OwS.lit (base := w.heap.size) (e := 5) (f := bv) (xs := [0, 1, 2, 9]) w #[.int .u8 0, .int .u8 1, .int .u8 2, .int .u8 9] 4 (Nat.le_refl _) (by simp [maxLen]) rfl (by simp [bv])
  exact take_yes _ 4 4 3 _ (by omega) (by omega) (by omega) (by omega) _ _ how2.rd

end Go.Proofs.Ytjambnlocjjjpaa

/-! ### NumRef -/
namespace Go.Proofs.Ytjambnlocjjjpaa
open Go.RowKit Go.Th
theorem and_255 (x : Nat) (h : x < 9223372036854775808) : bits .and .i64 (x : Int) 255 = ((x % 256 : Nat) : Int) := by
  have := and_i64 x 255 h (by omega)
  rw [show x &&& 255 = x % 256 from Nat.and_two_pow_sub_one_eq_mod x 8] at this
  exact this

theorem and_byte (x : Int) : ∃ b : UInt8, bv b = .int .u8 (bits .and .i64 x 255 % 256) :=
  ⟨UInt8.ofNat (bits .and .i64 x 255 % 256).toNat, by simp only [bv, UInt8.toNat_ofNat', Value.int.injEq, true_and]; omega⟩
/-- Does a number fit s bytes? -/
def Fits (s : Nat) (n : Int) : Prop := 0 ≤ n ∧ n.toNat < 256 ^ s
theorem put_fit (n : Int) (s : Nat) (w : World) (h1 : 1 ≤ s) (h2 : s ≤ 4) (h : Fits s n) : Calls Try.prog 13 #[.int .i64 n, .int .i64 s] w (RetRow w s (be n.toNat s) 0) :=
  put_yes n s w h1 h2 h.1 h.2
theorem put_misfit (n : Int) (s : Nat) (w : World) (h1 : 1 ≤ s) (h2 : s ≤ 4) (h : ¬ Fits s n) : Calls Try.prog 13 #[.int .i64 n, .int .i64 s] w (RetNil 1 w) := by
  refine put_out n s w h1 h2 ?_
  by_cases h0 : n < 0
  · exact .inl h0
  · right
    have h3 : 256 ^ s ≤ n.toNat := by
      rcases Nat.lt_or_ge n.toNat (256 ^ s) with h4 | h4
      · exact absurd ⟨by omega, h4⟩ h
      · exact h4
    obtain ⟨m, rfl⟩ := Int.eq_ofNat_of_zero_le (by omega : 0 ≤ n)
    rw [Int.toNat_natCast] at h3
    have h5 : ((256 ^ s : Nat) : Int) ≤ (m : Int) := by omega
    rwa [Int.natCast_pow] at h5
/-- Nothing, and a whole number; what was there is as it was. -/
def RetNone (er : Int) (w : World) (e : Ending) (w' : World) : Prop := e = .returned (.tuple #[.slice none 0 0, .int .i64 er]) ∧ Below w.heap.size w w'
/-- The bytes of some numbers, one behind the other. -/
def rowB (s : Nat) (zs : List Int) : List UInt8 := zs.flatMap fun z => be z.toNat s
theorem rowB_length (s : Nat) (zs : List Int) : (rowB s zs).length = zs.length * s := by
  induction zs with
  | nil => simp [rowB]
  | cons z zs ih =>
    have : rowB s (z :: zs) = be z.toNat s ++ rowB s zs := rfl
    rw [this, List.length_append, be_length, ih, List.length_cons, Nat.add_mul, Nat.one_mul, Nat.add_comm]
theorem rowB_take (s : Nat) (zs : List Int) (k : Nat) (x : Int) (h : zs[k]? = some x) : rowB s (zs.take (k + 1)) = rowB s (zs.take k) ++ be x.toNat s := by
  rw [List.take_add_one, h]
  simp [rowB]

theorem row_size (s : Int) (A : Option Addr) (n c : Nat) (w : World) (h : s < 1 ∨ 4 < s) : Calls Try.prog 14 #[.int .i64 s, .slice A n c] w (RetNil 1 w) := by
  go_enter Try.func14, Try.ntmps14
  go_wp2_with (first
    | (go_at_call 27; refine (sized_no _ _ h).mono ?_; rintro e w' ⟨rfl, rfl⟩))
  go_ret2
  exact ⟨rfl, rfl⟩
/-- What a row of numbers comes to. -/
def RetRows (s : Nat) (zs : List Int) (w : World) (e : Ending) (w' : World) : Prop :=
  ((∀ z ∈ zs, Fits s z) → RetRow w (zs.length * s) (rowB s zs) 0 e w') ∧ ((¬ ∀ z ∈ zs, Fits s z) → RetNone 1 w e w')
/-- The relation of Row's loops. -/
def num_RowRel (s n : Nat) (zs : List Int) (w : World) (all i : Value) (wr : World) : Prop :=
  ∃ (k : Nat) (A : Option Addr) (m c : Nat), k ≤ n ∧ i = .int .i64 k ∧ (∀ z ∈ zs.take k, Fits s z) ∧ m ≤ 4 * k ∧ all = .slice A m c ∧ OwS bv wr w.heap.size 5 A m c (rowB s (zs.take k)) ∧ Below w.heap.size w wr
theorem fits_take (s : Nat) (zs : List Int) (k : Nat) (x : Int) (h : zs[k]? = some x) (hall : ∀ z ∈ zs.take k, Fits s z) (hf : Fits s x) : ∀ z ∈ zs.take (k + 1), Fits s z := by
  intro z hz
  rw [List.take_add_one, h] at hz
  simp at hz
  rcases hz with hz | rfl
  · exact hall z hz
  · exact hf
theorem num_row_any (s : Nat) (A : Option Addr) (n c : Nat) (w : World) (h1 : 1 ≤ s) (h2 : s ≤ 4) (hn : n ≤ 1048576) (zs : List Int) (B : Nat) (hB : B ≤ w.heap.size) (hr : RdS iv w B A n c zs) :
    Calls Try.prog 14 #[.int .i64 s, .slice A n c] w (RetRows s zs w) := by
  have Hn := Lib.hid hr.len
  go_enter Try.func14, Try.ntmps14
  go_wp2_with (first
    | (go_at_call 27; refine (sized_yes _ _ (by omega) (by omega)).mono ?_; rintro e w' ⟨rfl, rfl⟩))
  go_loopw [6, 16] (fun all i wr => num_RowRel s n zs w all i wr) (fun _ i _ => n - (intOf i).toNat)
  case atStart => exact ⟨0, none, 0, 0, by omega, rfl, by simp, by omega, rfl, OwS.nil_ _ _ _, Below.refl _ _⟩
  case round =>
    obtain ⟨k, A1, m, c1, hk, rfl, hall, hm, rfl, how, hb⟩ := hrel
    have Hall := Lib.hid hall
    clear hall
    by_cases hlt : k < n
    · have hrk := hr.below (hb.mono hB)
      obtain ⟨x, hx⟩ : ∃ x, zs[k]? = some x := ⟨zs[k]'(by rw [Hn.out]; exact hlt), List.getElem?_eq_getElem _⟩
      have hmem : x ∈ zs := List.mem_of_getElem? hx
      have Hx := Lib.hid hx
      clear hx
      by_cases hfit : Fits s x
      · go_wp2_with (first
          | (refine wl_at_i rfl _ _ _ rfl el_int rfl rfl (by omega) (by omega) hrk ?_; intro p x' hx' hc; obtain rfl : x' = x := Option.some.inj (hx'.out.symm.trans Hx.out))
          | (go_at_call 13; refine (put_fit x' s _ h1 h2 hfit).mono ?_; rintro e w2 ⟨A2, c2, rfl, how2, hb2⟩)
          | (refine wl_appendS rfl _ _ _ rfl el_u8 (f := bv) (fun _ => rfl) rfl (how.below hb2) rfl how2.rd (by omega) (by omega) (Nat.le_trans hb.size hb2.size) ?_; intro A3 c3 w3 how3 _ hb3))
        go_roundw
        case rel => exact ⟨k + 1, A3, m + s, c3, by omega, by go_num, fits_take s zs k x' Hx.out Hall.out hfit, by omega, rfl, by rw [rowB_take s zs k x' Hx.out]; exact how3, (hb.trans (hb2.mono hb.size)).trans hb3⟩
        case measure => simp [intOf]; omega
      · go_wp2_with (first
          | (refine wl_at_i rfl _ _ _ rfl el_int rfl rfl (by omega) (by omega) hrk ?_; intro p x' hx' hc; obtain rfl : x' = x := Option.some.inj (hx'.out.symm.trans Hx.out))
          | (go_at_call 13; refine (put_misfit x' s _ h1 h2 hfit).mono ?_; rintro e w2 ⟨rfl, rfl⟩))
        go_ret2
        exact ⟨fun h => absurd (h _ hmem) hfit, fun _ => ⟨rfl, hb⟩⟩
    · obtain rfl : k = n := by omega
      have Hfull : Hid (zs.take k = zs) := List.take_of_length_le (by rw [Hn.out]; exact Nat.le_refl _)
      have hms : m = zs.length * s := by rw [← how.len, rowB_length, Hfull.out]
      go_wp2
      go_ret2
      refine ⟨fun _ => ⟨A1, c1, ?_, ?_, hb⟩, fun h => absurd (by rw [← Hfull.out]; exact Hall.out) h⟩
      · exact congrArg (fun j => Ending.returned (.tuple #[.slice A1 j c1, .int .i64 0])) hms
      · rw [← hms]
        rw [Hfull.out] at how
        exact how

end Go.Proofs.Ytjambnlocjjjpaa

/-! ### FramePut -/
namespace Go.Proofs.Ytjambnlocjjjpaa
open Go.RowKit Go.Th
set_option linter.unusedVariables false
theorem four_any (m : Nat) (hm : m < 4294967296) (M : Int) (hM : (m : Int) = M) (w : World) : Calls Try.prog 28 #[.int .u32 M] w fun e w' => ∃ A c, e = .returned (.slice A 4 c) ∧ OwS bv w' w.heap.size 5 A 4 c (be m 4) ∧ Below w.heap.size w w' := by
  subst hM
  go_enter Try.func28, Try.ntmps28
  go_wp2_with (go_at_call 13; refine (put_nat m 4 _ (by omega) (by omega) (by omega)).mono ?_; rintro e w1 ⟨A, c, rfl, how, hb⟩)
  go_ret
  exact ⟨A, c, rfl, how, hb⟩
set_option maxHeartbeats 1000000 in
theorem fput_any (m : Nat) (hm : m < 4294967296) (M : Int) (hM : (m : Int) = M) (A : Option Addr) (n c : Nat) (w : World) (hn : n ≤ 1000000) (bs : List UInt8) (hr : RdS bv w w.heap.size A n c bs) :
    Calls Try.prog 15 #[.int .u32 M, .slice A n c] w (RetOwn (fput m bs) w) := by
  subst hM
  have hcs := csum_lt (fhead m bs)
  go_enter Try.func15, Try.ntmps15
  go_wp2_with (first
    | ((with_reducible refine on_make ?_); refine wl_make0S rfl _ _ _ rfl el_u8 (f := bv) (base := w.heap.size) (n + 8) rfl rfl (by omega) (by omega) (by omega) (Nat.le_refl _) ?_; intro g1 w1 hg1 how1 hb1)
    | (go_at_call 28; refine (four_any m hm _ rfl w1).mono ?_; rintro e w2 ⟨A2, c2, rfl, how2, hb2⟩; have how1 := how1.below hb2; have K2 := hb1.trans (hb2.mono hb1.size))
    | ((with_reducible refine on_append (.tmp 10) (.tmp 12) ?_); refine wl_appendS rfl (.tmp 10) (.tmp 12) _ rfl el_u8 (f := bv) (fun _ => rfl) rfl how1 rfl how2.rd (by omega) (by omega) K2.size ?_; intro A3 c3 w3 how3 _ hb3; have K3 := K2.trans hb3)
    | ((with_reducible refine on_append (.tmp 14) (.tmp 15) ?_); refine wl_appendS rfl (.tmp 14) (.tmp 15) _ rfl el_u8 (f := bv) (fun _ => rfl) rfl how3 rfl (hr.step K3) (by omega) (by omega) K3.size ?_; intro A4 c4 w4 how4 _ hb4; have K4 := K3.trans hb4))
  refine (sum_any A4 _ c4 w4 (by omega) _ how4.rd).mono ?_
  rintro e w5 ⟨rfl, hb5⟩
  have how5 := how4.below hb5
  have K5 := K4.trans (hb5.mono K4.size)
  have e5 : [] ++ be m 4 ++ bs = fhead m bs := rfl
  rw [e5] at how5
  go_wp2_with fail
  refine (four_any (csum (fhead m bs)) hcs _ rfl w5).mono ?_
  rintro e w6 ⟨A6, c6, rfl, how6, hb6⟩
  have how7 := how5.below hb6
  have K6 := K5.trans (hb6.mono K5.size)
  go_wp2_with ((with_reducible refine on_append (.tmp 17) (.tmp 20) ?_); refine wl_appendS rfl (.tmp 17) (.tmp 20) _ rfl el_u8 (f := bv) (fun _ => rfl) rfl how7 rfl how6.rd (by omega) (by omega) K6.size ?_; intro A8 c8 w8 how8 _ hb8)
  go_ret
  exact ⟨A8, _, c8, rfl, how8, K6.trans hb8⟩
theorem fra_equal_any (A : Option Addr) (n c : Nat) (A' : Option Addr) (n' c' : Nat) (w : World) (B B' : Nat) (bs cs : List UInt8) (hr : RdS bv w B A n c bs) (hr' : RdS bv w B' A' n' c' cs) (b : Bool) (hb : (bs == cs) = b) :
    Calls Try.prog 48 #[.slice A n c, .slice A' n' c'] w fun e w' => e = .returned (.bool b) ∧ w = w' := by
  go_enter Try.func48, Try.ntmps48
  go_wp2_with (first
    | ((with_reducible refine on_convert (.tmp 5) ?_); refine wl_strS rfl _ _ (.tmp 5) rfl el_u8 Try.underlying5 Try.underlying9 rfl hr ?_)
    | ((with_reducible refine on_convert (.tmp 7) ?_); refine wl_strS rfl _ _ (.tmp 7) rfl el_u8 Try.underlying5 Try.underlying9 rfl hr' ?_))
  go_ret
  exact ⟨rfl, rfl⟩
/-- What is taken: a row of the call's own, and an error's number. -/
def RetTak (r : List UInt8 × Int) (w : World) (e : Ending) (w' : World) : Prop :=
  ∃ A n c, e = .returned (.tuple #[.slice A n c, .int .i64 r.2]) ∧ OwS bv w' w.heap.size 5 A n c r.1 ∧ Below w.heap.size w w'
set_option maxHeartbeats 2000000 in
theorem ftake_any (m : Nat) (hm : m < 4294967296) (M : Int) (hM : (m : Int) = M) (A : Option Addr) (n c : Nat) (w : World) (hn : n ≤ 1000000) (bs : List UInt8) (hr : RdS bv w w.heap.size A n c bs) :
    Calls Try.prog 31 #[.int .u32 M, .slice A n c] w (RetTak (ftake m bs) w) := by
  subst hM
  have hl := hr.len
  by_cases h8 : n < 8
  · rw [ftake_short (by omega)]
    go_enter Try.func31, Try.ntmps31
    go_wp2
    go_ret2
    exact ⟨none, 0, 0, rfl, OwS.nil_ _ _ _, Below.refl _ _⟩
  · obtain ⟨xh, hh⟩ : ∃ xh, bs.take (n - 4) = xh := ⟨_, rfl⟩
    obtain ⟨xs, hs⟩ : ∃ xs, bs.drop (n - 4) = xs := ⟨_, rfl⟩
    have lh : xh.length = n - 4 := by rw [← hh, List.length_take]; omega
    have ls : xs.length = 4 := by rw [← hs, List.length_drop]; omega
    have hcs := csum_lt xh
    rw [ftake_parts (h := xh) (s := xs) (by omega) ls (by rw [← hh, ← hs, List.take_append_drop])]
    obtain ⟨b1, hb1⟩ : ∃ b, (xh.take 4 == be m 4) = b := ⟨_, rfl⟩
    obtain ⟨b2, hb2⟩ : ∃ b, (xs == be (csum xh) 4) = b := ⟨_, rfl⟩
    have hgoal : (if xh.take 4 = be m 4 then (if xs = be (csum xh) 4 then (xh.drop 4, (0 : Int)) else ([], 6)) else ([], 5)) = if b1 = true then (if b2 = true then (xh.drop 4, 0) else ([], 6)) else ([], 5) := by
      rw [← hb1, ← hb2]
      simp only [beq_iff_eq]
    rw [hgoal]
    obtain ⟨r, hr0⟩ : ∃ r, (if b1 = true then (if b2 = true then (xh.drop 4, (0 : Int)) else ([], 6)) else ([], 5)) = r := ⟨_, rfl⟩
    rw [hr0]
    have HR := Lib.hid hr0
    have H1 := Lib.hid hb1
    have H2 := Lib.hid hb2
    have Hh := Lib.hid hh
    have Hs := Lib.hid hs
    have Lh := Lib.hid lh
    obtain ⟨n4, hn4⟩ : ∃ k, n = k + 4 := ⟨n - 4, by omega⟩
    subst hn4
    rw [Nat.add_sub_cancel] at *
    have h8i : decide ((n4 : Int) + 4 < 8) = false := decide_eq_false (by omega)
    have h8n : decide (n4 + 4 < 8) = false := decide_eq_false (by omega)
    clear hgoal hr0 hb1 hb2 hh hs lh ls
    go_enter Try.func31, Try.ntmps31
    go_wp2
    have q1 := RdC.of_reach (B' := w.heap.size) (hr.step (bdrew1 w)) (Nat.le_refl _)
    refine wp_region_tree (.float 0 9 .done) (Th.Reach w.heap.size) (Th.Reach.trans _) (Th.Reach.refl _) (by kernel_rfl) (by kernel_rfl) (fun KT hKT => ?_)
    refine wpTree_float (fun KF hKF => ?_)
    simp only [List.drop, List.take]
    repeat (first | go_big_quiet_skip | ((with_reducible refine onq_sl (.tmp 15) ?_); refine wq_cut_hm rfl _ (.tmp 15) el_u8 rfl q1 (Th.Reach.refl _ _) _ _ rfl rfl rfl n4 (by omega) ?_; intro A18 r18) | ((with_reducible refine onq_sl (.tmp 19) ?_); refine wq_cut_l rfl _ (.tmp 19) el_u8 rfl q1 (Th.Reach.refl _ _) _ rfl rfl n4 (by omega) ?_; intro A21 r21) | go_big_quiet_step (fail) | quiet_step (fail))
    refine wpQuiet_nil ?_
    refine hKF _ ?_
    clear hKF KF
    refine wpTree_done ?_
    refine hKT _ _ ?_
    clear hKT KT
    have ra := r18.rd w.drew (Th.Reach.refl _ _)
    have rs := r21.rd w.drew (Th.Reach.refl _ _)
    rw [Hh.out] at ra
    rw [Hs.out, show n4 + 4 - n4 = 4 by omega] at rs
    have B1 : Below w.heap.size w w.drew := bdrew1 w
    clear q1 r18 r21 hr
    generalize w.drew = w1 at B1 ra rs ⊢
    have z1 := B1.size
    go_wp2
    have q2 := RdC.of_reach (B' := w1.heap.size) (ra.step (bdrew1 w1)) z1
    refine wp_region_tree (.float 0 3 (.one 3 (.one 4 (.float 5 1 .done)))) (Th.Reach w1.heap.size) (Th.Reach.trans _) (Th.Reach.refl _) (by kernel_rfl) (by kernel_rfl) (fun KT hKT => ?_)
    refine wpTree_float (fun KF hKF => ?_)
    simp only [List.drop, List.take]
    repeat (first | go_big_quiet_skip | ((with_reducible refine onq_sl (.tmp 22) ?_); refine wq_cut_hm rfl _ (.tmp 22) el_u8 rfl q2 (Th.Reach.refl _ _) _ _ rfl rfl rfl 4 (by omega) ?_; intro A23 r23) | go_big_quiet_step (fail) | quiet_step (fail))
    refine wpQuiet_nil ?_
    refine hKF _ ?_
    clear hKF KF
    refine wpTree_one (fun KO hKO => ?_)
    simp only [List.drop, List.take]
    go_wp2_with (first | (go_at_call 28; refine (four_any m hm _ rfl w1.drew).mono ?_; rintro e w3 ⟨A3, c3, rfl, how3, hb3⟩; have hb3 : Below w1.heap.size w1.drew w3 := hb3) | (go_at_call 48; refine (fra_equal_any _ _ _ _ _ _ w3 _ _ _ _ (r23.rd w3 (Th.Reach.of hb3)) how3.rd b1 H1.out).mono ?_; rintro e w4 ⟨rfl, rfl⟩))
    refine anch_end (Th.Reach.of (by first | exact Below.refl _ _ | exact below_alloc _ (by first | omega | (simp; done) | (simp; omega)) _ | exact below_alloc2 _ (by first | omega | (simp; done) | (simp; omega)) _ _ | exact below_alloc2d _ (by simp) _ _ | exact bdrew _ _ | assumption | (exact Below.mono (by assumption) (by first | (simp; done) | (simp; omega) | omega | assumption)))) (hKO _ _ ?_)
    clear hKO KO
    refine wpTree_one (fun KO hKO => ?_)
    simp only [List.drop, List.take]
    go_wp2_with (first | (go_at_call 28; refine (four_any m hm _ rfl w1.drew).mono ?_; rintro e w3 ⟨A3, c3, rfl, how3, hb3⟩; have hb3 : Below w1.heap.size w1.drew w3 := hb3) | (go_at_call 48; refine (fra_equal_any _ _ _ _ _ _ w3 _ _ _ _ (r23.rd w3 (Th.Reach.of hb3)) how3.rd b1 H1.out).mono ?_; rintro e w4 ⟨rfl, rfl⟩))
    refine anch_end (Th.Reach.of (by first | exact Below.refl _ _ | exact below_alloc _ (by first | omega | (simp; done) | (simp; omega)) _ | exact below_alloc2 _ (by first | omega | (simp; done) | (simp; omega)) _ _ | exact below_alloc2d _ (by simp) _ _ | exact bdrew _ _ | assumption | (exact Below.mono (by assumption) (by first | (simp; done) | (simp; omega) | omega | assumption)))) (hKO _ _ ?_)
    clear hKO KO
    refine wpTree_float (fun KF hKF => ?_)
    simp only [List.drop, List.take]
    repeat (first | go_big_quiet_skip | ((with_reducible refine onq_sl (.tmp 22) ?_); refine wq_cut_hm rfl _ (.tmp 22) el_u8 rfl q2 (Th.Reach.refl _ _) _ _ rfl rfl rfl 4 (by omega) ?_; intro A23 r23) | go_big_quiet_step (fail) | quiet_step (fail))
    refine wpQuiet_nil ?_
    refine hKF _ ?_
    clear hKF KF
    refine wpTree_done ?_
    refine hKT _ _ ?_
    clear hKT KT
    have B3 := B1.trans (((bdrew1 w1).trans hb3).mono z1)
    have z3 := B3.size
    have ra := ra.step ((bdrew1 w1).trans hb3)
    have rs := rs.step ((bdrew1 w1).trans hb3)
    clear q2 r23 how3 hb3 B1
    cases b1 with
    | false =>
      go_wp2
      go_ret2
      rw [← HR.out]
      exact ⟨none, 0, 0, rfl, OwS.nil_ _ _ _, B3⟩
    | true =>
      go_wp2_with fail
      refine (sum_any A18 _ _ w3 (by omega) _ (ra.more z3)).mono ?_
      rintro e w5 ⟨rfl, hb5⟩
      have ra := ra.step hb5
      have rs := rs.step hb5
      have B5 := B3.trans (hb5.mono z3)
      have z5 := B5.size
      go_wp2_with fail
      refine (four_any (csum xh) hcs _ rfl w5).mono ?_
      rintro e w6 ⟨A6, c6, rfl, how6, hb6⟩
      have ra := ra.step hb6
      have rs := rs.step hb6
      have B6 := B5.trans (hb6.mono z5)
      have z6 := B6.size
      go_wp2_with fail
      refine (fra_equal_any _ _ _ _ _ _ w6 _ _ _ _ rs how6.rd b2 H2.out).mono ?_
      rintro e w7 ⟨rfl, rfl⟩
      cases b2 with
      | false =>
        go_wp2
        go_ret2
        rw [← HR.out]
        exact ⟨none, 0, 0, rfl, OwS.nil_ _ _ _, B6⟩
      | true =>
        have ht : xh.take n4 = xh := List.take_of_length_le (by rw [Lh.out]; exact Nat.le_refl _)
        go_wp2_with ((with_reducible refine on_slice (.tmp 34) ?_); refine wl_cut_lhm rfl _ (.tmp 34) el_u8 rfl ra _ _ _ rfl rfl rfl rfl 4 n4 n4 (by omega) ?_; intro A9 r9; rw [ht] at r9)
        go_wp2_with fail
        refine (own_any _ _ _ w6 (by omega) _ _ r9).mono ?_
        rintro e w8 ⟨A8, n8, c8, rfl, how8, hb8⟩
        go_wp2
        go_ret2
        rw [← HR.out]
        exact ⟨A8, n8, c8, rfl, how8.base_le z6, B6.trans (hb8.mono z6)⟩
end Go.Proofs.Ytjambnlocjjjpaa

/-! ### FrameLaw -/
namespace Go.Th
theorem fput_split (m : Nat) (bs : List UInt8) (v : UInt8) : (fput m bs).set (bs.length + 7) v = fhead m bs ++ (be (csum (fhead m bs)) 4).set 3 v := by
  have e : bs.length + 7 = (fhead m bs).length + 3 := by rw [fhead_length]
  unfold fput
  rw [e, List.set_append_right _ _ (by omega), Nat.add_sub_cancel_left]
theorem fhead_take (m : Nat) (bs : List UInt8) : (fhead m bs).take 4 = be m 4 := by
  have := List.take_left (l₁ := be m 4) (l₂ := bs)
  rwa [be_length] at this
/-- The last byte is another one. -/
theorem ftake_spoilt (m : Nat) (bs : List UInt8) (x v : UInt8) (hx : (fput m bs)[bs.length + 7]? = some x) (hv : v ≠ x) : ftake m ((fput m bs).set (bs.length + 7) v) = ([], 6) := by
  rw [fput_split, ftake_parts (h := fhead m bs) (s := (be (csum (fhead m bs)) 4).set 3 v) (by rw [fhead_length]; omega) (by rw [List.length_set, be_length]) rfl, if_pos (fhead_take m bs), if_neg]
  intro e
  have h3 : ((be (csum (fhead m bs)) 4).set 3 v)[3]? = (be (csum (fhead m bs)) 4)[3]? := congrArg (fun l : List UInt8 => l[3]?) e
  rw [List.getElem?_set_self (by rw [be_length]; omega)] at h3
  have e2 : (fput m bs)[bs.length + 7]? = (be (csum (fhead m bs)) 4)[3]? := by
    have e : bs.length + 7 = (fhead m bs).length + 3 := by rw [fhead_length]
    unfold fput
    rw [e, List.getElem?_append_right (by omega), Nat.add_sub_cancel_left]
  rw [← e2, hx] at h3
  exact hv (Option.some.inj h3)
theorem ftake_spoilt_other {m k : Nat} (hm : m < 4294967296) (hk : k < 4294967296) (h : m ≠ k) (bs : List UInt8) (v : UInt8) : ftake k ((fput m bs).set (bs.length + 7) v) = ([], 5) := by
  rw [fput_split, ftake_parts (h := fhead m bs) (s := (be (csum (fhead m bs)) 4).set 3 v) (by rw [fhead_length]; omega) (by rw [List.length_set, be_length]) rfl, fhead_take, if_neg (fun e => h ((be_inj m k 4 (by omega) (by omega)).1 e))]
theorem fopen_form (c : UInt8) (r : List UInt8) : fopen c (c :: 128 :: r) = ([], [], 3) := by
  rw [fopen_cons, if_pos rfl, gtake_nought, if_neg (by decide)]
theorem fopen_two (c : UInt8) : fopen c [c, 2, 0] = ([], [], 2) := by
  rw [fopen_cons, if_pos rfl]
  rfl
theorem fopen_one (c : UInt8) : fopen c [c] = ([], [], 2) := by
  rw [fopen_cons, if_pos rfl]
  rfl
theorem next_ne (c : UInt8) : c + 1 ≠ c := fun e => by
  have := congrArg UInt8.toNat e
  rw [UInt8.toNat_add] at this
  have := c.toNat_lt
  have e1 : (1 : UInt8).toNat = 1 := rfl
  omega
theorem or_one_ne (c : UInt8) : (1 ||| c) ≠ 0 := fun e => by
  have h := congrArg UInt8.toNat e
  rw [UInt8.toNat_or] at h
  have : (1 ||| c.toNat).testBit 0 = true := by rw [Nat.testBit_or]; rfl
  have e1 : (1 : UInt8).toNat = 1 := rfl
  rw [e1] at h
  rw [h] at this
  cases this
theorem xor_ne {x d : UInt8} (h : d ≠ 0) : x ^^^ d ≠ x := fun e => h (by
  have := congrArg (x ^^^ ·) e
  simpa [← UInt8.xor_assoc] using this)
/-- Bytes with their own sum behind them. -/
theorem ftake_all {m : Nat} (hm : m < 4294967296) (wa : List UInt8) : (wa.length < 4 ∧ ftake m (wa ++ be (csum wa) 4) = ([], 2)) ∨ (4 ≤ wa.length ∧ val (wa.take 4) = m ∧ ftake m (wa ++ be (csum wa) 4) = (wa.drop 4, 0)) ∨ (4 ≤ wa.length ∧ val (wa.take 4) ≠ m ∧ ftake m (wa ++ be (csum wa) 4) = ([], 5)) := by
  by_cases h : wa.length < 4
  · exact .inl ⟨h, ftake_short (by rw [List.length_append, be_length]; omega)⟩
  · have e := ftake_parts (m := m) (h := wa) (s := be (csum wa) 4) (by omega) (be_length _ _) rfl
    have l4 : (wa.take 4).length = 4 := by rw [List.length_take]; omega
    by_cases hv : val (wa.take 4) = m
    · have e4 : wa.take 4 = be m 4 := by
        have := be_val (wa.take 4)
        rw [l4, hv] at this
        exact this.symm
      rw [if_pos e4, if_pos rfl] at e
      exact .inr (.inl ⟨by omega, hv, e⟩)
    · rw [if_neg (fun e4 => hv (by rw [e4, val_be 4 m (by omega)]))] at e
      exact .inr (.inr ⟨by omega, hv, e⟩)
end Go.Th

/-! ### FrameBack -/
namespace Go.Proofs.Ytjambnlocjjjpaa
open Go.RowKit Go.Th
set_option linter.unusedVariables false
theorem ftake_isB (m : Nat) (hm : m < 4294967296) (M : Int) (hM : (m : Int) = M) (A : Option Addr) (n c : Nat) (w : World) (hn : n ≤ 1000000) (bs : List UInt8) (hr : RdS bv w w.heap.size A n c bs) (x : List UInt8) (er : Int) (h : ftake m bs = (x, er)) :
    Calls Try.prog 31 #[.int .u32 M, .slice A n c] w fun e w' => ∃ A' n' c', e = .returned (.tuple #[.slice A' n' c', .int .i64 er]) ∧ OwS bv w' w.heap.size 5 A' n' c' x ∧ Below w.heap.size w w' := by
  have := ftake_any m hm M hM A n c w hn bs hr
  rw [h] at this
  exact this
end Go.Proofs.Ytjambnlocjjjpaa

/-! ### NumSpec -/
namespace Go.Proofs.Ytjambnlocjjjpaa
open Go.RowKit Go.Th
open Classical in
/-- Put's answer. -/
noncomputable def PS (n s : Int) : List UInt8 × Int := if 1 ≤ s ∧ s ≤ 4 ∧ Fits s.toNat n then (be n.toNat s.toNat, 0) else ([], 1)
/-- Take's answer. -/
def TS (bs : List UInt8) (s : Int) : Nat × Int := if 1 ≤ s ∧ s ≤ 4 then (if (bs.length : Int) < s then (0, 2) else (val (bs.take s.toNat), 0)) else (0, 1)
open Classical in
/-- Row's answer. -/
noncomputable def RS (zs : List Int) (s : Int) : List UInt8 × Int := if 1 ≤ s ∧ s ≤ 4 ∧ ∀ z ∈ zs, Fits s.toNat z then (rowB s.toNat zs, 0) else ([], 1)

/-- A row of the call's own, of whatever length, and a whole number. -/
def RetBs (bs : List UInt8) (er : Int) (w : World) (e : Ending) (w' : World) : Prop :=
  ∃ A n c, e = .returned (.tuple #[.slice A n c, .int .i64 er]) ∧ OwS bv w' w.heap.size 5 A n c bs ∧ Below w.heap.size w w'
theorem RetBs.of_row {w : World} {n : Nat} {bs : List UInt8} {er : Int} {e : Ending} {w' : World} (h : RetRow w n bs er e w') : RetBs bs er w e w' := by
  obtain ⟨A, c, he, h1, h2⟩ := h
  exact ⟨A, n, c, he, h1, h2⟩
theorem RetBs.of_nil {w : World} {er : Int} {e : Ending} {w' : World} (h : RetNil er w e w') : RetBs [] er w e w' := by
  obtain ⟨he, rfl⟩ := h
  exact ⟨none, 0, 0, he, OwS.nil_ _ _ _, Below.refl _ _⟩
theorem RetBs.of_none {w : World} {er : Int} {e : Ending} {w' : World} (h : RetNone er w e w') : RetBs [] er w e w' := by
  obtain ⟨he, hb⟩ := h
  exact ⟨none, 0, 0, he, OwS.nil_ _ _ _, hb⟩

theorem put_any (n s : Int) (w : World) : Calls Try.prog 13 #[.int .i64 n, .int .i64 s] w (RetBs (PS n s).1 (PS n s).2 w) := by
  by_cases hs : 1 ≤ s ∧ s ≤ 4
  · obtain ⟨h1, h2⟩ := hs
    obtain ⟨k, rfl⟩ := Int.eq_ofNat_of_zero_le (by omega : 0 ≤ s)
    by_cases hf : Fits k n
    · have e : PS n k = (be n.toNat k, 0) := by unfold PS; rw [if_pos ⟨h1, h2, by simpa using hf⟩]; simp
      rw [e]
      exact (put_fit n k w (by omega) (by omega) hf).mono fun _ _ h => .of_row h
    · have e : PS n k = ([], 1) := by unfold PS; rw [if_neg (fun h => hf (by simpa using h.2.2))]
      rw [e]
      exact (put_misfit n k w (by omega) (by omega) hf).mono fun _ _ h => .of_nil h
  · have e : PS n s = ([], 1) := by unfold PS; rw [if_neg (fun h => hs ⟨h.1, h.2.1⟩)]
    rw [e]
    exact (put_size n s w (by omega)).mono fun _ _ h => .of_nil h
theorem take_any (A : Option Addr) (n c : Nat) (s : Int) (w : World) (hm : n ≤ 9223372036854775807) (B : Nat) (bs : List UInt8) (hr : RdS bv w B A n c bs) :
    Calls Try.prog 50 #[.slice A n c, .int .i64 s] w (RetNum (TS bs s).1 (TS bs s).2 w) := by
  have hl := hr.len
  by_cases hs : 1 ≤ s ∧ s ≤ 4
  · obtain ⟨h1, h2⟩ := hs
    obtain ⟨k, rfl⟩ := Int.eq_ofNat_of_zero_le (by omega : 0 ≤ s)
    by_cases hf : n < k
    · have e : TS bs k = (0, 2) := by unfold TS; rw [if_pos ⟨h1, h2⟩, if_pos (by omega)]
      rw [e]
      exact take_short A n c k w (by omega) (by omega) hf
    · have e : TS bs k = (val (bs.take k), 0) := by unfold TS; rw [if_pos ⟨h1, h2⟩, if_neg (by omega)]; simp
      rw [e]
      exact take_yes A n c k w (by omega) (by omega) (by omega) hm B bs hr
  · have e : TS bs s = (0, 1) := by unfold TS; rw [if_neg hs]
    rw [e]
    exact take_size A n c s w (by omega)
theorem RS_of {zs : List Int} {k : Nat} {w : World} {e : Ending} {w' : World} (h1 : 1 ≤ (k : Int)) (h2 : (k : Int) ≤ 4) (h : RetRows k zs w e w') : RetBs (RS zs k).1 (RS zs k).2 w e w' := by
  by_cases hf : ∀ z ∈ zs, Fits k z
  · have e : RS zs k = (rowB k zs, 0) := by unfold RS; rw [if_pos ⟨h1, h2, by simpa using hf⟩]; simp
    rw [e]
    exact .of_row (h.1 hf)
  · have e : RS zs k = ([], 1) := by unfold RS; rw [if_neg (fun h => hf (by simpa using h.2.2))]
    rw [e]
    exact .of_none (h.2 hf)
theorem prow_any (A : Option Addr) (n c : Nat) (s : Int) (w : World) (hn : n ≤ 1048576) (zs : List Int) (B : Nat) (hB : B ≤ w.heap.size) (hr : RdS iv w B A n c zs) :
    Calls Try.prog 14 #[.int .i64 s, .slice A n c] w (RetBs (RS zs s).1 (RS zs s).2 w) := by
  by_cases hs : 1 ≤ s ∧ s ≤ 4
  · obtain ⟨h1, h2⟩ := hs
    obtain ⟨k, rfl⟩ := Int.eq_ofNat_of_zero_le (by omega : 0 ≤ s)
    exact (num_row_any k A n c w (by omega) (by omega) hn zs B hB hr).mono fun _ _ h => RS_of h1 h2 h
  · have e : RS zs s = ([], 1) := by unfold RS; rw [if_neg (fun h => hs ⟨h.1, h.2.1⟩)]
    rw [e]
    exact (row_size s A n c w (by omega)).mono fun _ _ h => .of_nil h
end Go.Proofs.Ytjambnlocjjjpaa

/-! ### GroupPart -/
namespace Go.Th
theorem or128_fin : ∀ k : Fin 128, UInt8.ofNat k.1 ||| 128 = UInt8.ofNat (k.1 + 128) ∧ UInt8.ofNat (k.1 + 128) ||| 128 = UInt8.ofNat (k.1 + 128) := by decide +kernel
theorem or128_low (k : Nat) (h : k < 128) : UInt8.ofNat k ||| 128 = UInt8.ofNat (k + 128) := (or128_fin ⟨k, h⟩).1
theorem or128_high (k : Nat) (h : k < 128) : UInt8.ofNat (k + 128) ||| 128 = UInt8.ofNat (k + 128) := (or128_fin ⟨k, h⟩).2
theorem gd_or : ∀ (s n : Nat), (gd n s).map (· ||| 128) = gd n s
  | 0, _ => rfl
  | s + 1, n => by
    rw [gd, List.map_append, gd_or s]
    show _ ++ [UInt8.ofNat (n % 128 + 128) ||| 128] = _
    rw [or128_high _ (Nat.mod_lt _ (by omega))]
theorem gput_or (m : Nat) : (gput m).map (· ||| 128) = gd m (gsize m) := by
  obtain ⟨r, hr⟩ : ∃ r, gsize m = r + 1 := ⟨gsize m - 1, by have := (gsize_pos m).1; omega⟩
  rw [gput, hr, Nat.add_sub_cancel, List.map_append, gd_or, gd]
  show _ ++ [UInt8.ofNat (m % 128) ||| 128] = _
  rw [or128_low _ (Nat.mod_lt _ (by omega))]
theorem gput_bits {x : Nat} (h : 128 ≤ x) (h2 : x < 268435456) : gput x = (gput (x / 128)).map (· ||| 128) ++ [UInt8.ofNat (x % 128)] := by
  rw [gput_or, gput]
  have := gsize_step h h2
  rw [show gsize x - 1 = gsize (x / 128) by omega]
theorem gput_last (x r : Nat) (h : gsize x = r + 1) : (gput x)[r]? = some (UInt8.ofNat (x % 128)) := by
  rw [gput, h, Nat.add_sub_cancel, List.getElem?_append_right (by rw [gd_length]; exact Nat.le_refl _), gd_length, Nat.sub_self]
  rfl
theorem gput_bit {x : Nat} (h : 128 ≤ x) (h2 : x < 268435456) (i : Nat) (hi : i < gsize (x / 128)) (b c : UInt8) (hb : (gput x)[i]? = some b) (hc : (gput (x / 128))[i]? = some c) : b = c ||| 128 := by
  rw [gput_bits h h2, List.getElem?_append_left (by rw [List.length_map, gput_length]; exact hi), List.getElem?_map, hc] at hb
  injection hb with hb
  exact hb.symm
theorem or_u8_fin : ∀ k : Fin 256, bits .or .u8 (k.1 : Int) 128 = ((UInt8.ofNat k.1 ||| 128).toNat : Int) := by decide +kernel
theorem or_u8 (c : UInt8) : bits .or .u8 (c.toNat : Int) 128 = ((c ||| 128).toNat : Int) := by
  have := or_u8_fin ⟨c.toNat, c.toNat_lt⟩
  rw [UInt8.ofNat_toNat] at this
  exact this
/-- No number's bytes begin with another one's. -/
theorem gput_free (x y : Nat) (hx : x < 268435456) (hy : y < 268435456) (k : Nat) (hk : k = min (gsize x) (gsize y)) (h : (gput x).take k = (gput y).take k) : x = y := by
  rcases Nat.le_total (gsize x) (gsize y) with hl | hl
  · have e : gput y = gput x ++ (gput y).drop k := by
      have : gput x = (gput y).take k := by rw [← h, List.take_of_length_le (by rw [gput_length]; omega)]
      rw [this, List.take_append_drop]
    have h1 := gtake_gput x hx ((gput y).drop k)
    have h2 := gtake_gput y hy []
    rw [List.append_nil] at h2
    rw [← e, h2] at h1
    exact (congrArg Prod.fst h1).symm
  · have e : gput x = gput y ++ (gput x).drop k := by
      have : gput y = (gput x).take k := by rw [h, List.take_of_length_le (by rw [gput_length]; omega)]
      rw [this, List.take_append_drop]
    have h1 := gtake_gput y hy ((gput x).drop k)
    have h2 := gtake_gput x hx []
    rw [List.append_nil] at h2
    rw [← e, h2] at h1
    exact congrArg Prod.fst h1
/-- Numbers, one behind the other. -/
def gcat (xs : List Nat) : List UInt8 := xs.flatMap gput
theorem gcat_take {xs : List Nat} {k x : Nat} (h : xs[k]? = some x) : gcat (xs.take (k + 1)) = gcat (xs.take k) ++ gput x := by
  rw [List.take_add_one, h]
  unfold gcat
  rw [List.flatMap_append]
  simp
theorem gcat_drop (xs : List Nat) (k : Nat) : (gcat xs).drop (gcat (xs.take k)).length = gcat (xs.drop k) := by
  have e : gcat xs = gcat (xs.take k) ++ gcat (xs.drop k) := by
    unfold gcat
    rw [← List.flatMap_append, List.take_append_drop]
  rw [e, List.drop_left]
theorem gcat_cons {xs : List Nat} {k x : Nat} (h : xs[k]? = some x) : gcat (xs.drop k) = gput x ++ gcat (xs.drop (k + 1)) := by
  obtain ⟨hl, rfl⟩ := List.getElem?_eq_some_iff.1 h
  rw [List.drop_eq_getElem_cons hl]
  unfold gcat
  rw [List.flatMap_cons]
theorem gcat_le (xs : List Nat) (k : Nat) : (gcat (xs.take k)).length ≤ (gcat xs).length := by
  have e : gcat xs = gcat (xs.take k) ++ gcat (xs.drop k) := by
    unfold gcat
    rw [← List.flatMap_append, List.take_append_drop]
  rw [e, List.length_append]
  omega
theorem gcat_four : ∀ xs : List Nat, (gcat xs).length ≤ 4 * xs.length
  | [] => by simp [gcat]
  | x :: xs => by
    have := gcat_four xs
    have h2 := gsize_pos x
    rw [gcat, List.flatMap_cons, List.length_append, gput_length, List.length_cons]
    unfold gcat at this
    omega
end Go.Th

/-! ### FrameBurst -/
namespace Go.Th
/-- k bits from p on, turned where x has a bit. -/
def burst (bs : List UInt8) (x p : Nat) : Nat → List UInt8
  | 0 => bs
  | k + 1 => if x / 2 ^ k % 2 = 1 then flip (burst bs x p k) (p + k) else burst bs x p k
theorem burst_length (bs : List UInt8) (x p : Nat) : ∀ k, (burst bs x p k).length = bs.length
  | 0 => rfl
  | k + 1 => by
    unfold burst
    split
    · rw [flip_length, burst_length bs x p k]
    · exact burst_length bs x p k
theorem burst_append (bs cs : List UInt8) (x p : Nat) : ∀ k, p + k ≤ 8 * bs.length → burst (bs ++ cs) x p k = burst bs x p k ++ cs
  | 0, _ => rfl
  | k + 1, h => by
    unfold burst
    rw [burst_append bs cs x p k (by omega)]
    split
    · exact flip_append _ _ _ (by rw [burst_length]; omega)
    · rfl
theorem mod_bit (x k : Nat) : x % 2 ^ (k + 1) = if x / 2 ^ k % 2 = 1 then x % 2 ^ k ^^^ 2 ^ k else x % 2 ^ k := by
  have h := Nat.mod_pow_succ (b := 2) (x := x) (k := k)
  rw [h]
  have hlt : x % 2 ^ k < 2 ^ k := Nat.mod_lt _ (Nat.two_pow_pos k)
  rcases Nat.mod_two_eq_zero_or_one (x / 2 ^ k) with h0 | h1
  · rw [h0, if_neg (by decide), Nat.mul_zero, Nat.add_zero]
  · rw [h1, if_pos rfl, Nat.mul_one]
    have := Nat.two_pow_add_eq_or_of_lt hlt 1
    rw [Nat.mul_one] at this
    rw [Nat.add_comm, this]
    apply Nat.eq_of_testBit_eq
    intro i
    rw [Nat.testBit_or, Nat.testBit_xor]
    by_cases hi : i = k
    · subst hi
      rw [Nat.testBit_two_pow_self, Nat.testBit_lt_two_pow hlt]
      rfl
    · rw [Nat.testBit_two_pow_of_ne (fun e => hi e.symm)]
      simp
theorem mul_xor (p a b : Nat) : 2 ^ p * (a ^^^ b) = 2 ^ p * a ^^^ 2 ^ p * b := by
  have := Nat.shiftLeft_xor_distrib (a := a) (b := b) (i := p)
  rw [Nat.shiftLeft_eq, Nat.shiftLeft_eq, Nat.shiftLeft_eq] at this
  rw [Nat.mul_comm, this, Nat.mul_comm a, Nat.mul_comm b]
theorem le_burst (bs : List UInt8) (x p : Nat) : ∀ k, p + k ≤ 8 * bs.length → le (burst bs x p k) = le bs ^^^ 2 ^ p * (x % 2 ^ k)
  | 0, _ => by simp [burst, Nat.mod_one]
  | k + 1, h => by
    have ih := le_burst bs x p k (by omega)
    unfold burst
    rw [mod_bit]
    split
    · rw [le_flip _ _ (by rw [burst_length]; omega), ih, mul_xor, Nat.xor_assoc, ← Nat.pow_add]
    · exact ih
/-- Up to 32 bits next to each other ahead of the sum, the lowest one turned. -/
theorem ftake_burst (m : Nat) (bs : List UInt8) (x p k : Nat) (hx : x % 2 = 1) (hk : 1 ≤ k) (hk2 : k ≤ 32) (hp : p + k ≤ 8 * (bs.length + 4)) : ∃ g, ftake m (burst (fput m bs) x p k) = ([], g) ∧ (g = 5 ∨ g = 6) := by
  have hl := fhead_length m bs
  have e1 : burst (fput m bs) x p k = burst (fhead m bs) x p k ++ be (csum (fhead m bs)) 4 := burst_append _ _ _ _ _ (by rw [hl]; omega)
  have hne : csum (burst (fhead m bs) x p k) ≠ csum (fhead m bs) := by
    refine csum_burst (burst_length _ _ _ _) (p := p) (e := x % 2 ^ k) ?_ ?_ (by rw [hl]; omega) (le_burst _ _ _ _ (by rw [hl]; omega))
    · intro h0
      have h2 : x % 2 ^ k % 2 = 1 := by rw [Nat.mod_mod_of_dvd _ (⟨2 ^ (k - 1), by rw [← Nat.pow_succ', Nat.succ_eq_add_one, Nat.sub_add_cancel hk]⟩ : 2 ∣ 2 ^ k)]; exact hx
      rw [h0] at h2
      cases h2
    · exact Nat.lt_of_lt_of_le (Nat.mod_lt _ (Nat.two_pow_pos k)) (Nat.pow_le_pow_right (by decide) hk2 : 2 ^ k ≤ 2 ^ 32)
  rw [e1, ftake_parts (h := burst (fhead m bs) x p k) (s := be (csum (fhead m bs)) 4) (by rw [burst_length, hl]; omega) (be_length _ _) rfl]
  split
  · rw [if_neg (fun e => hne ((be_inj _ _ 4 (by have := csum_lt (fhead m bs); omega) (by have := csum_lt (burst (fhead m bs) x p k); omega)).1 e).symm)]
    exact ⟨6, rfl, .inr rfl⟩
  · exact ⟨5, rfl, .inl rfl⟩
theorem flip_behind (bs cs : List UInt8) (q : Nat) (h : 8 * bs.length ≤ q) : flip (bs ++ cs) q = bs ++ flip cs (q - 8 * bs.length) := by
  unfold flip
  have e1 : (q - 8 * bs.length) / 8 = q / 8 - bs.length := by omega
  have e2 : (q - 8 * bs.length) % 8 = q % 8 := by omega
  rw [List.set_append_right _ _ (by omega), e1, e2]
  congr 3
  rw [List.getD_eq_getElem?_getD, List.getD_eq_getElem?_getD, List.getElem?_append_right (by omega)]
/-- One bit is turned. -/
theorem ftake_flip (m : Nat) (bs : List UInt8) (q : Nat) (hq : q < 8 * (bs.length + 8)) : ∃ g, ftake m (flip (fput m bs) q) = ([], g) ∧ (g = 5 ∨ g = 6) := by
  by_cases h : q < 8 * (bs.length + 4)
  · have := ftake_burst m bs 1 q 1 rfl (by omega) (by omega) (by omega)
    exact this
  · have hl := fhead_length m bs
    have e1 : flip (fput m bs) q = fhead m bs ++ flip (be (csum (fhead m bs)) 4) (q - 8 * (fhead m bs).length) := flip_behind _ _ _ (by rw [hl]; omega)
    have hne : flip (be (csum (fhead m bs)) 4) (q - 8 * (fhead m bs).length) ≠ be (csum (fhead m bs)) 4 := fun e => by
      have h2 := congrArg le e
      rw [le_flip _ _ (by rw [be_length, hl]; omega)] at h2
      have h3 := congrArg (le (be (csum (fhead m bs)) 4) ^^^ ·) h2
      simp [← Nat.xor_assoc] at h3
    rw [e1, ftake_parts (h := fhead m bs) (s := flip (be (csum (fhead m bs)) 4) (q - 8 * (fhead m bs).length)) (by rw [hl]; omega) (by rw [flip_length, be_length]) rfl, if_pos (fhead_take m bs), if_neg hne]
    exact ⟨6, rfl, .inr rfl⟩
end Go.Th

/-! ### FrameSpoilt -/
namespace Go.Th
section
variable {P : Program} {ops : Array Oper} {rest : List Oper} {o : Oper} {a : Act} {Q : Act → Prop} {w : World}
theorem ws_run {v : Value} (hw : Region.wanted o (yielded ops a.tmps) = true) (hr : (execOp a.eval o).run P w = .ok (.value v) w) (h : wpStill P ops w Q rest (a.put o.dst v)) : wpStill P ops w Q (o :: rest) a := by
  refine wpStill_step fun K hK => ?_
  rw [if_pos hw]
  unfold Oper.still
  rw [hr, Oper.stillUpon_value]
  exact hK _ h
/-- &s[i] of a row of the call's own. -/
theorem ws_placeS (hw : Region.wanted o (yielded ops a.tmps) = true) (T : TypeId) (s i : Operand) (ho : o.op = .indexAddr T s i) {E bytes : Nat} {z : Value} (el : El P T E z bytes)
    {g n c : Nat} {kk : IntKind} {I : Int} (hs : a.eval s = .slice (some ⟨g, 0, none⟩) n c) (hi : a.eval i = .int kk I) (j : Nat) (hj : I = (j : Int) ∧ j < n)
    (h : wpStill P ops w Q rest (a.put o.dst (.pointer (some ⟨g, j, none⟩)))) : wpStill P ops w Q (o :: rest) a := by
  obtain ⟨rfl, hj⟩ := hj
  refine ws_run hw (v := .pointer (some ⟨g, j, none⟩)) ?_ h
  have := run_indexAt (P := P) (w := w) T el.ht (el.size w) ⟨g, 0, none⟩ n c kk (j : Int) (by omega) (by omega)
  rw [Addr.add_lit, Nat.zero_add, Int.toNat_natCast, Nat.mul_one] at this
  simp only [execOp, ho, hs, hi, Sem.run_bind, this, Result.andThen, Sem.run_pure]
theorem ons_ix (s : Operand) {d T i ty pos af g} (h : wpStill P ops w Q (⟨d, .indexAddr T s i, ty, pos, af, g⟩ :: rest) a) : wpStill P ops w Q (⟨d, .indexAddr T s i, ty, pos, af, g⟩ :: rest) a := h
end
end Go.Th
namespace Go.Proofs.Ytjambnlocjjjpaa
open Go.RowKit Go.Th
set_option linter.unusedVariables false
theorem ftake_isP (m : Nat) (hm : m < 4294967296) (M : Int) (hM : (m : Int) = M) (A : Option Addr) (n c : Nat) (w : World) (hn : n ≤ 1000000) (bs : List UInt8) (hr : RdS bv w w.heap.size A n c bs) (x : List UInt8) (er : Int) (h : ftake m bs = (x, er)) :
    Calls Try.prog 31 #[.int .u32 M, .slice A n c] w fun e w' => ∃ A' n' c', e = .returned (.tuple #[.slice A' n' c', .int .i64 er]) ∧ OwS bv w' w.heap.size 5 A' n' c' x ∧ Below w.heap.size w w' := by
  have := ftake_any m hm M hM A n c w hn bs hr
  rw [h] at this
  exact this
end Go.Proofs.Ytjambnlocjjjpaa

/-! ### Keep -/
namespace Go.Th
open Go.RowKit
set_option linter.unusedVariables false
structure KSStep (S : Addr → Prop) (w0 : World) where
  w : World
  h : ∀ a, S a → w.cell? a = w0.cell? a
instance (S : Addr → Prop) (w : World) : Nonempty (KSStep S w) := ⟨⟨w, fun _ _ => rfl⟩⟩
def KSReach (S : Addr → Prop) (w w' : World) : Prop := ∃ p : KSStep S w, w' = p.w
theorem KSReach.of {S : Addr → Prop} {w w' : World} (h : ∀ a, S a → w'.cell? a = w.cell? a) : KSReach S w w' := ⟨⟨w', h⟩, rfl⟩
theorem KSReach.refl (S : Addr → Prop) (w : World) : KSReach S w w := .of fun _ _ => rfl
theorem KSReach.trans (S : Addr → Prop) (x y z : World) (h1 : KSReach S x y) (h2 : KSReach S y z) : KSReach S x z := by
  obtain ⟨p, rfl⟩ := h1
  obtain ⟨q, rfl⟩ := h2
  exact .of fun a ha => (q.h a ha).trans (p.h a ha)
attribute [go_sem] KSReach
theorem ks_alloc {S : Addr → Prop} (w : World) (o : Obj) (h : ∀ a, S a → a.block < w.heap.size) : ∀ a, S a → (w.alloc o).cell? a = w.cell? a := fun a ha => World.cell?_alloc_lt w o a (h a ha)
end Go.Th

/-! ### AppendK -/
namespace Go.Th
open Go.RowKit
set_option linter.unusedVariables false
section
variable {P : Program} {ops : Array Oper} {rest : List Oper} {o : Oper} {a : Act} {Q : Exit → Act → World → Prop} {w : World}
theorem append_keep {base : Nat} {t ty E : TypeId} {i : TypeInfo} {z : Value} {size bytes : Nat} (ht : P.underlying t = some (.slice E)) (hi : P.info? E = some i) (hz : i.zero = some z)
    (hsize : i.size = size) (hby : i.bytes = bytes) (hsz : 0 < size) {g n c : Nat} {xs : List Value} (hown : Ow w base E size (some ⟨g, 0, none⟩) n c xs)
    {ad : Addr} {m c' : Nat} {news : List Value} (hl : news.length = m * size) (hr : ∀ j u, news[j]? = some u → w.cell? (ad.add j) = some u) (h1 : ∀ u ∈ news, u.oneCell' = true)
    (h63 : n + m ≤ maxLen) (hbytes : (n + m) * bytes ≤ 140737488355328) {v' : Value} {w' : World}
    (hrun : (Builtin.append_ #[t, t] ty #[.slice (some ⟨g, 0, none⟩) n c, .slice (some ad) m c']).run P w = .ok v' w') :
    ∀ j, j < n * size → w'.cell? ⟨g, j, none⟩ = w.cell? ⟨g, j, none⟩ := by
  subst hsize hby
  intro j hj
  rcases hown.own.2 with ⟨hv, _⟩ | ⟨g', cap, cur, hv, hbg, hg, hnc, hcm, hcs, htake⟩
  · cases hv
  · injection hv with hv1 _ hv3
    injection hv1 with hv1
    injection hv1 with hv1
    subst hv1 hv3
    have hlt : g < w.heap.size := (Array.getElem?_eq_some_iff.1 hg).1
    have hle : n * i.size ≤ cur.size := by rw [hcs]; exact Nat.mul_le_mul_right _ hnc
    by_cases hroom : n + m ≤ c
    · have hfit : n * i.size + news.length ≤ cur.size := by rw [hl, hcs, ← Nat.add_mul]; exact Nat.mul_le_mul_right _ hroom
      have h := run_append_room (P := P) w t ty E i ht hi g n c cur hg ad m c' news hl hr h1 hroom hfit
      rw [hrun] at h
      injection h with _ h
      subst h
      have hx : (cur.toList.take (n * i.size) ++ news ++ cur.toList.drop (n * i.size + news.length))[j]? = cur.toList[j]? := by
        rw [List.append_assoc, List.getElem?_append_left (by rw [List.length_take, Array.length_toList]; omega), List.getElem?_take, if_pos hj]
      rw [cell_of_row _ g j _ E (0, 0) (setRow_heap w g cur _ E (0, 0) hg), cell_of_row w g j cur E (0, 0) hg]
      simpa using hx
    · have holds : ∀ j u, xs[j]? = some u → w.cell? ((⟨g, 0, none⟩ : Addr).add j) = some u := hown.own.cells (g := g) rfl
      have hsmall : n + m ≤ 9223372036854775807 := by simp only [maxLen] at h63; omega
      have h := run_append_grow (P := P) w t ty E i z ht hi hz ⟨g, 0, none⟩ n c xs hown.own.1 holds ad m c' news hl hr (by omega) (by omega) (growslice_fits (by omega) hbytes)
      rw [hrun] at h
      injection h with _ h
      subst h
      exact World.cell?_alloc_lt w.drew _ ⟨g, j, none⟩ hlt
/-- append to a row that is there: where it lies then, and what it read still reads. -/
theorem wl_appendK (hw : Region.wanted o (yielded ops a.tmps) = true) (s x : Operand) (t : TypeId)
    (ho : o.op = .call { callee := .builtin .append, args := #[s, x], argTypes := #[t, t] })
    {base E : Nat} {z : Value} {bytes : Nat} (el : El P t E z bytes) {α : Type} {f : α → Value} (hf : ∀ x, (f x).oneCell' = true)
    {g n c : Nat} (hs : a.eval s = .slice (some ⟨g, 0, none⟩) n c) {xs : List α} (hown : OwS f w base E (some ⟨g, 0, none⟩) n c xs)
    {B : Nat} {ad : Addr} {m c' : Nat} (hx : a.eval x = .slice (some ad) m c') {ys : List α} (hr : RdS f w B (some ad) m c' ys)
    (hbytes : (n + m) * bytes ≤ 140737488355328) (hpos : 0 < bytes) (hbase : base ≤ w.heap.size)
    (h : ∀ A'' c'' w', OwS f w' base E A'' (n + m) c'' (xs ++ ys) → w.grownBy w' (some g) → Below base w w' → (A'' = some ⟨g, 0, none⟩ ∨ A'' = some ⟨w.heap.size, 0, Option.none⟩) → (∀ j, j < n → w'.cell? ⟨g, j, none⟩ = w.cell? ⟨g, j, none⟩) → wpList P ops Q rest (a.put o.dst (.slice A'' (n + m) c'')) w') : wpList P ops Q (o :: rest) a w := by
  obtain ⟨i, hi, hz, hsize, hby⟩ := el.info
  have h63 : n + m ≤ maxLen := by
    have := Nat.le_mul_of_pos_right (n + m) hpos
    simp only [maxLen]; omega
  have hone : ∀ u ∈ ys.map f, u.oneCell' = true := by
    intro u hu
    obtain ⟨y, _, rfl⟩ := List.mem_map.1 hu
    exact hf y
  have hnl : (ys.map f).length = m * 1 := by rw [List.length_map, hr.len]; omega
  obtain ⟨A'', c'', w', hrun, h2, h3, h4⟩ := run_append (P := P) (ty := o.type) (c' := c') el.ht hi hz hsize hby (by rw [el.cells]; rfl) (by omega) hown.ow hnl hr.rd hone h63 hbytes hbase
  have hk := append_keep el.ht hi hz hsize hby (by omega) hown.ow hnl (hr.rd.cells rfl) hone h63 hbytes hrun
  refine wl_run hw ?_ (h A'' c'' w' ⟨by rw [← List.map_append] at h2; exact h2⟩ h3 ((Below.refl _ _).grown h3 hbase hown.ow.row_ge) h4 (fun j hj => hk j (by omega)))
  simp only [execOp, ho, resolve, invoke, builtin, Sem.run_bind, Sem.run_pure, Result.andThen, List.map_toArray, List.map_cons, List.map_nil, hs, hx, hrun]
/-- The same of elements of k cells. -/
theorem wm_appendK {α : Type} {f : α → List Value} {k : Nat} (hf : ∀ x, (f x).length = k) (hw : Region.wanted o (yielded ops a.tmps) = true) (s x : Operand) (t : TypeId)
    (ho : o.op = .call { callee := .builtin .append, args := #[s, x], argTypes := #[t, t] })
    {base E : Nat} {z : Value} {bytes : Nat} (el : ElM P t E z bytes k) (h1 : ∀ x, ∀ u ∈ f x, u.oneCell' = true)
    {g n c : Nat} (hs : a.eval s = .slice (some ⟨g, 0, none⟩) n c) {xs : List α} (hown : OwM f k w base E (some ⟨g, 0, none⟩) n c xs)
    {B : Nat} {ad : Addr} {m c' : Nat} (hx : a.eval x = .slice (some ad) m c') {ys : List α} (hr : RdM f w B (some ad) m c' ys)
    (hbytes : (n + m) * bytes ≤ 140737488355328) (hpos : 0 < bytes) (hbase : base ≤ w.heap.size)
    (h : ∀ A'' c'' w', OwM f k w' base E A'' (n + m) c'' (xs ++ ys) → w.grownBy w' (some g) → Below base w w' → (A'' = some ⟨g, 0, none⟩ ∨ A'' = some ⟨w.heap.size, 0, Option.none⟩) → (∀ j, j < n * k → w'.cell? ⟨g, j, none⟩ = w.cell? ⟨g, j, none⟩) → wpList P ops Q rest (a.put o.dst (.slice A'' (n + m) c'')) w') : wpList P ops Q (o :: rest) a w := by
  obtain ⟨i, hi, hz, hsize, hby⟩ := el.info
  have h63 : n + m ≤ maxLen := by
    have := Nat.le_mul_of_pos_right (n + m) hpos
    simp only [maxLen]; omega
  have hone : ∀ u ∈ ys.flatMap f, u.oneCell' = true := by
    intro u hu
    obtain ⟨y, _, hy⟩ := List.mem_flatMap.1 hu
    exact h1 y u hy
  have hnl : (ys.flatMap f).length = m * k := by rw [flat_length hf, hr.len]
  obtain ⟨A'', c'', w', hrun, h2, h3, h4⟩ := run_append (P := P) (ty := o.type) (c' := c') el.ht hi hz hsize hby el.cells el.pos hown.ow hnl hr.rd hone h63 hbytes hbase
  have hk := append_keep el.ht hi hz hsize hby el.pos hown.ow hnl (hr.rd.cells rfl) hone h63 hbytes hrun
  refine wl_run hw ?_ (h A'' c'' w' ⟨by rw [← List.flatMap_append] at h2; exact h2, by rw [List.length_append, hown.len, hr.len]⟩ h3 ((Below.refl _ _).grown h3 hbase hown.ow.row_ge) h4 hk)
  simp only [execOp, ho, resolve, invoke, builtin, Sem.run_bind, Sem.run_pure, Result.andThen, List.map_toArray, List.map_cons, List.map_nil, hs, hx, hrun]
end
end Go.Th
