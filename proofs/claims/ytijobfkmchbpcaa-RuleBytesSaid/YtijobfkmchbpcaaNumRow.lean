/-
  num.Row walked (as in NumRef, for seats without the reference of layer 1's Row: never import both).
-/
import Derived.Test.YtijobfkmchbpcaaNum
import Derived.Test.YtijobfkmchbpcaaTypes
namespace Go.Proofs.Ytijobfkmchbpcaa
open Go.RowKit Go.Th
def Fits (s : Nat) (n : Int) : Prop := 0 ≤ n ∧ n.toNat < 256 ^ s
theorem put_fit (n : Int) (s : Nat) (w : World) (h1 : 1 ≤ s) (h2 : s ≤ 4) (h : Fits s n) : Calls Try.prog 25 #[.int .i64 n, .int .i64 s] w (RetRow w s (be n.toNat s) 0) :=
  put_yes n s w h1 h2 h.1 h.2
theorem put_misfit (n : Int) (s : Nat) (w : World) (h1 : 1 ≤ s) (h2 : s ≤ 4) (h : ¬ Fits s n) : Calls Try.prog 25 #[.int .i64 n, .int .i64 s] w (RetNil 1 w) := by
  refine put_out n s w h1 h2 ?_
  by_cases h0 : n < 0
  · exact .inl h0
  · right
    have h3 : 256 ^ s ≤ n.toNat := by
      rcases Nat.lt_or_ge n.toNat (256 ^ s) with h4 | h4
      · exact absurd ⟨by omega, h4⟩ h
      · exact h4
    obtain ⟨m, rfl⟩ := Int.eq_ofNat_of_zero_le (by omega : 0 ≤ n)
    rw [Int.toNat_natCast] at h3
    have h5 : ((256 ^ s : Nat) : Int) ≤ (m : Int) := by omega
    rwa [Int.natCast_pow] at h5
def rowB (s : Nat) (zs : List Int) : List UInt8 := zs.flatMap fun z => be z.toNat s
theorem rowB_length (s : Nat) (zs : List Int) : (rowB s zs).length = zs.length * s := by
  induction zs with
  | nil => simp [rowB]
  | cons z zs ih =>
    have : rowB s (z :: zs) = be z.toNat s ++ rowB s zs := rfl
    rw [this, List.length_append, be_length, ih, List.length_cons, Nat.add_mul, Nat.one_mul, Nat.add_comm]
theorem rowB_take (s : Nat) (zs : List Int) (k : Nat) (x : Int) (h : zs[k]? = some x) : rowB s (zs.take (k + 1)) = rowB s (zs.take k) ++ be x.toNat s := by
  rw [List.take_add_one, h]
  simp [rowB]

theorem row_size (s : Int) (A : Option Addr) (n c : Nat) (w : World) (h : s < 1 ∨ 4 < s) : Calls Try.prog 26 #[.int .i64 s, .slice A n c] w (RetNil 1 w) := by
  go_enter Try.func26, Try.ntmps26
  go_wp2_with (first
    | (go_at_call 44; refine (sized_no _ _ h).mono ?_; rintro e w' ⟨rfl, rfl⟩))
  go_ret2
  exact ⟨rfl, rfl⟩
/-- What a row of numbers comes to. -/
def RetNone (er : Int) (w : World) (e : Ending) (w' : World) : Prop := e = .returned (.tuple #[.slice none 0 0, .int .i64 er]) ∧ Below w.heap.size w w'
def RetRows (s : Nat) (zs : List Int) (w : World) (e : Ending) (w' : World) : Prop :=
  ((∀ z ∈ zs, Fits s z) → RetRow w (zs.length * s) (rowB s zs) 0 e w') ∧ ((¬ ∀ z ∈ zs, Fits s z) → RetNone 1 w e w')
/-- The relation of Row's loops. -/
def RowRel (s n : Nat) (zs : List Int) (w : World) (all i : Value) (wr : World) : Prop :=
  ∃ (k : Nat) (A : Option Addr) (m c : Nat), k ≤ n ∧ i = .int .i64 k ∧ (∀ z ∈ zs.take k, Fits s z) ∧ m ≤ 4 * k ∧ all = .slice A m c ∧ OwS bv wr w.heap.size 5 A m c (rowB s (zs.take k)) ∧ Below w.heap.size w wr
theorem fits_take (s : Nat) (zs : List Int) (k : Nat) (x : Int) (h : zs[k]? = some x) (hall : ∀ z ∈ zs.take k, Fits s z) (hf : Fits s x) : ∀ z ∈ zs.take (k + 1), Fits s z := by
  intro z hz
  rw [List.take_add_one, h] at hz
  simp at hz
  rcases hz with hz | rfl
  · exact hall z hz
  · exact hf
theorem row_any (s : Nat) (A : Option Addr) (n c : Nat) (w : World) (h1 : 1 ≤ s) (h2 : s ≤ 4) (hn : n ≤ 1048576) (zs : List Int) (B : Nat) (hB : B ≤ w.heap.size) (hr : RdS iv w B A n c zs) :
    Calls Try.prog 26 #[.int .i64 s, .slice A n c] w (RetRows s zs w) := by
  have Hn := Lib.hid hr.len
  go_enter Try.func26, Try.ntmps26
  go_wp2_with (first
    | (go_at_call 44; refine (sized_yes _ _ (by omega) (by omega)).mono ?_; rintro e w' ⟨rfl, rfl⟩))
  go_loopw [6, 16] (fun all i wr => RowRel s n zs w all i wr) (fun _ i _ => n - (intOf i).toNat)
  case atStart => exact ⟨0, none, 0, 0, by omega, rfl, by simp, by omega, rfl, OwS.nil_ _ _ _, Below.refl _ _⟩
  case round =>
    obtain ⟨k, A1, m, c1, hk, rfl, hall, hm, rfl, how, hb⟩ := hrel
    have Hall := Lib.hid hall
    clear hall
    by_cases hlt : k < n
    · have hrk := hr.below (hb.mono hB)
      obtain ⟨x, hx⟩ : ∃ x, zs[k]? = some x := ⟨zs[k]'(by rw [Hn.out]; exact hlt), List.getElem?_eq_getElem _⟩
      have hmem : x ∈ zs := List.mem_of_getElem? hx
      have Hx := Lib.hid hx
      clear hx
      by_cases hfit : Fits s x
      · go_wp2_with (first
          | (refine wl_at_i rfl _ _ _ rfl el_int rfl rfl (by omega) (by omega) hrk ?_; intro p x' hx' hc; obtain rfl : x' = x := Option.some.inj (hx'.out.symm.trans Hx.out))
          | (go_at_call 25; refine (put_fit x' s _ h1 h2 hfit).mono ?_; rintro e w2 ⟨A2, c2, rfl, how2, hb2⟩)
          | (refine wl_appendS rfl _ _ _ rfl el_u8 (f := bv) (fun _ => rfl) rfl (how.below hb2) rfl how2.rd (by omega) (by omega) (Nat.le_trans hb.size hb2.size) ?_; intro A3 c3 w3 how3 _ hb3))
        go_roundw
        case rel => exact ⟨k + 1, A3, m + s, c3, by omega, by go_num, fits_take s zs k x' Hx.out Hall.out hfit, by omega, rfl, by rw [rowB_take s zs k x' Hx.out]; exact how3, (hb.trans (hb2.mono hb.size)).trans hb3⟩
        case measure => simp [intOf]; omega
      · go_wp2_with (first
          | (refine wl_at_i rfl _ _ _ rfl el_int rfl rfl (by omega) (by omega) hrk ?_; intro p x' hx' hc; obtain rfl : x' = x := Option.some.inj (hx'.out.symm.trans Hx.out))
          | (go_at_call 25; refine (put_misfit x' s _ h1 h2 hfit).mono ?_; rintro e w2 ⟨rfl, rfl⟩))
        go_ret2
        exact ⟨fun h => absurd (h _ hmem) hfit, fun _ => ⟨rfl, hb⟩⟩
    · obtain rfl : k = n := by omega
      have Hfull : Hid (zs.take k = zs) := List.take_of_length_le (by rw [Hn.out]; exact Nat.le_refl _)
      have hms : m = zs.length * s := by rw [← how.len, rowB_length, Hfull.out]
      go_wp2
      go_ret2
      refine ⟨fun _ => ⟨A1, c1, ?_, ?_, hb⟩, fun h => absurd (by rw [← Hfull.out]; exact Hall.out) h⟩
      · exact congrArg (fun j => Ending.returned (.tuple #[.slice A1 j c1, .int .i64 0])) hms
      · rw [← hms]
        rw [Hfull.out] at how
        exact how
end Go.Proofs.Ytijobfkmchbpcaa
