/-
  Laid together by wip/tools/merge.py out of: NumRefB, Append, RulePut, RuleTake, RuleRef, RuleShown, TableLessLaw, RuleBackLaw, RuleAll, GroupPlain.
-/
import Derived.Laws.ResultCell
import Derived.Deep.DeepCutAuto
import Derived.Test.YtgapcmodhcdebaaNfMa
import Derived.Test.YtgapcmodhcdebaaNfMb

/-! ### NumRefB -/
namespace Go.Proofs.Ytgapcmodhcdebaa
open Go.RowKit Go.Th
theorem rput_size (n s : Int) (w : World) (h : s < 1 ∨ 4 < s) : Calls Try.prog 49 #[.int .i64 n, .int .i64 s] w (RetNil 1 w) := by
  by_cases h1 : s < 1
  · go_enter Try.func49, Try.ntmps49
    go_wp2
    go_ret2
    exact ⟨rfl, rfl⟩
  · have h2 : 4 < s := by omega
    go_enter Try.func49, Try.ntmps49
    go_wp2
    go_ret2
    exact ⟨rfl, rfl⟩

theorem and_255 (x : Nat) (h : x < 9223372036854775808) : bits .and .i64 (x : Int) 255 = ((x % 256 : Nat) : Int) := by
  have := and_i64 x 255 h (by omega)
  rw [show x &&& 255 = x % 256 from Nat.and_two_pow_sub_one_eq_mod x 8] at this
  exact this

theorem rput_nat (n s : Nat) (w : World) (h1 : 1 ≤ s) (h2 : s ≤ 4) (hn : n < 9223372036854775808) :
    Calls Try.prog 49 #[.int .i64 n, .int .i64 s] w fun e w' => (n < 256 ^ s → RetRow w s (be n s) 0 e w') ∧ (256 ^ s ≤ n → e = .returned (.tuple #[.slice none 0 0, .int .i64 1]) ∧ Below w.heap.size w w') := by
  go_enter Try.func49, Try.ntmps49
  go_wp2
  go_loopw [6, 7, 8] (fun out x i wr => ∃ (k X : Nat) (A : Option Addr) (c : Nat), k ≤ s ∧ i = .int .i64 k ∧ Hid (X = n / 256 ^ k) ∧ X < 9223372036854775808 ∧ x = .int .i64 X ∧ out = .slice A k c ∧ OwS bv wr w.heap.size 5 A k c (be n k) ∧ Below w.heap.size w wr)
    (fun _ _ i _ => s - (intOf i).toNat)
  case atStart => exact ⟨0, n, _, 0, by omega, rfl, by show _ = _; simp, hn, rfl, rfl, OwS.lit _ _ _ (Nat.le_refl _) (by simp [maxLen]) rfl rfl, below_alloc _ (Nat.le_refl _) _⟩
  case round =>
    obtain ⟨k, X, A, c, hk, rfl, hX, hXl, rfl, rfl, how, hb⟩ := hrel
    by_cases hlt : k < s
    · have e1 := and_255 X hXl
      have e2 : X % 256 % 256 = X % 256 := by omega
      have hX2 : X / 256 = n / 256 ^ (k + 1) := by rw [hX.out, Nat.div_div_eq_div_mul, Nat.pow_succ]
      have HX2 := Lib.hid hX2
      clear hX2
      go_wp2_with (refine wl_appendS (base := wr.heap.size) rfl (.tmp 25) (.tmp 26) _ rfl el_u8 (f := bv) (fun _ => rfl) rfl (OwS.lit (xs := [UInt8.ofNat X]) _ _ 1 (Nat.le_refl _) (by simp [maxLen]) rfl (by simp [bv])) rfl (how.rd.alloc _) (by omega) (by omega) (by simp) ?_; intro A2 c2 w2 how2 _ hb2)
      go_roundw
      case rel =>
        rw [hX.out, List.singleton_append, ← be_cons, Nat.add_comm 1 k] at how2
        exact ⟨k + 1, X / 256, A2, c2, by omega, by go_num, HX2.out, by omega, by go_num, by rw [Nat.add_comm 1 k], how2.base_le hb.size, hb.trans (((below_alloc wr (Nat.le_refl _) _).trans hb2).mono hb.size)⟩
      case measure => simp [intOf]; omega
    · have e : k = s := by omega
      subst e
      by_cases hf : n < 256 ^ k
      · have h0 : X = 0 := by rw [hX.out]; exact Nat.div_eq_of_lt hf
        subst h0
        go_wp2
        go_ret2
        exact ⟨fun _ => ⟨_, _, rfl, how, hb⟩, fun h => absurd hf (by omega)⟩
      · have h0 : 1 ≤ X := by rw [hX.out]; exact Nat.div_pos (by omega) (Nat.pow_pos (by omega))
        have hne : ((X : Int) != 0) = true := by rw [bne_iff_ne]; omega
        go_wp2
        go_ret2
        exact ⟨fun h => absurd h hf, fun _ => ⟨rfl, hb⟩⟩

theorem and_byte (x : Int) : ∃ b : UInt8, bv b = .int .u8 (bits .and .i64 x 255 % 256) :=
  ⟨UInt8.ofNat (bits .and .i64 x 255 % 256).toNat, by simp only [bv, UInt8.toNat_ofNat', Value.int.injEq, true_and]; omega⟩
theorem rput_neg (n : Int) (s : Nat) (w : World) (h1 : 1 ≤ s) (h2 : s ≤ 4) (hn : n < 0) (hn' : -9223372036854775808 ≤ n) :
    Calls Try.prog 49 #[.int .i64 n, .int .i64 s] w fun e w' => e = .returned (.tuple #[.slice none 0 0, .int .i64 1]) ∧ Below w.heap.size w w' := by
  go_enter Try.func49, Try.ntmps49
  go_wp2
  go_loopw [6, 7, 8] (fun out x i wr => ∃ (k : Nat) (X : Int) (A : Option Addr) (c : Nat) (bs : List UInt8), k ≤ s ∧ i = .int .i64 k ∧ -9223372036854775808 ≤ X ∧ X ≤ 0 ∧ x = .int .i64 X ∧ out = .slice A k c ∧ OwS bv wr w.heap.size 5 A k c bs ∧ Below w.heap.size w wr)
    (fun _ _ i _ => s - (intOf i).toNat)
  case atStart => exact ⟨0, n, _, 0, [], by omega, rfl, hn', by omega, rfl, rfl, OwS.lit _ _ _ (Nat.le_refl _) (by simp [maxLen]) rfl rfl, below_alloc _ (Nat.le_refl _) _⟩
  case round =>
    obtain ⟨k, X, A, c, bs, hk, rfl, hX0, hX1, rfl, rfl, how, hb⟩ := hrel
    by_cases hlt : k < s
    · obtain ⟨b, hbb⟩ := and_byte X
      have hq : -9223372036854775808 ≤ X.tdiv 256 ∧ X.tdiv 256 ≤ 0 := by
        have := Int.tdiv_nonneg (a := -X) (b := 256) (by omega) (by omega)
        rw [Int.neg_tdiv] at this
        have h2 := Int.mul_tdiv_add_tmod X 256
        have h3 := Int.tmod_lt_of_pos X (b := 256) (by omega)
        omega
      obtain ⟨hq0, hq1⟩ := hq
      have Hbb := Lib.hid hbb
      clear hbb
      go_wp2_with (refine wl_appendS (base := wr.heap.size) rfl (.tmp 25) (.tmp 26) _ rfl el_u8 (f := bv) (fun _ => rfl) rfl (OwS.lit (xs := [b]) _ _ 1 (Nat.le_refl _) (by simp [maxLen]) rfl (by simp only [List.map_cons, List.map_nil, Hbb.out])) rfl (how.rd.alloc _) (by omega) (by omega) (by simp) ?_; intro A2 c2 w2 how2 _ hb2)
      go_roundw
      case rel => exact ⟨k + 1, X.tdiv 256, A2, c2, _, by omega, by go_num, hq0, hq1, by go_num, by rw [Nat.add_comm 1 k], by rw [Nat.add_comm 1 k] at how2; exact how2.base_le hb.size, hb.trans (((below_alloc wr (Nat.le_refl _) _).trans hb2).mono hb.size)⟩
      case measure => simp [intOf]; omega
    · go_wp2
      go_ret2
      exact ⟨rfl, hb⟩

theorem rtake_size (A : Option Addr) (n c : Nat) (s : Int) (w : World) (h : s < 1 ∨ 4 < s) : Calls Try.prog 60 #[.slice A n c, .int .i64 s] w (RetNum 0 1 w) := by
  by_cases h1 : s < 1
  · go_enter Try.func60, Try.ntmps60
    go_wp2
    go_ret2
    exact ⟨rfl, rfl⟩
  · have h2 : 4 < s := by omega
    go_enter Try.func60, Try.ntmps60
    go_wp2
    go_ret2
    exact ⟨rfl, rfl⟩
theorem rtake_short (A : Option Addr) (n c : Nat) (s : Nat) (w : World) (h1 : 1 ≤ s) (h2 : s ≤ 4) (h : n < s) : Calls Try.prog 60 #[.slice A n c, .int .i64 s] w (RetNum 0 2 w) := by
  go_enter Try.func60, Try.ntmps60
  go_wp2
  go_ret2
  exact ⟨rfl, rfl⟩
theorem rtake_yes (A : Option Addr) (n c : Nat) (s : Nat) (w : World) (h1 : 1 ≤ s) (h2 : s ≤ 4) (h : s ≤ n) (hm : n ≤ 9223372036854775807) (B : Nat) (bs : List UInt8) (hr : RdS bv w B A n c bs) :
    Calls Try.prog 60 #[.slice A n c, .int .i64 s] w (RetNum (val (bs.take s)) 0 w) := by
  go_enter Try.func60, Try.ntmps60
  go_wp2
  go_loop [6, 7] (fun v x => ∃ i V : Nat, i ≤ s ∧ x = .int .i64 i ∧ Hid (V = val (bs.take i)) ∧ v = .int .i64 V)
    (fun _ x => s - (intOf x).toNat)
  case atStart => exact ⟨0, 0, by omega, rfl, rfl, rfl⟩
  case round =>
    obtain ⟨i, V, hi, rfl, hV, rfl⟩ := hrel
    by_cases hlt : i < s
    · have hv : (V : Int) < 16777216 := by
        have h5 := val_lt (bs.take i)
        have h6 : 256 ^ (bs.take i).length ≤ 256 ^ 3 := Nat.pow_le_pow_right (by omega) (by rw [List.length_take]; omega)
        have h7 : 256 ^ 3 = 16777216 := rfl
        have h8 := hV.out
        omega
      go_wp2_with (first
        | (refine wl_at_b rfl _ _ _ rfl el_u8 rfl rfl (by omega) (by omega) hr ?_; intro p x hx hxl hc))
      have e2 : val (bs.take (i + 1)) = V * 256 + x.toNat := by rw [hV.out]; exact val_take_succ bs i x hx.out
      go_round
      have H2 := Lib.hid e2.symm
      case rel => exact ⟨i + 1, by omega, by omega, V * 256 + x.toNat, H2, by omega⟩
      case measure => simp [intOf]; omega
    · go_wp2
      have e : i = s := by omega
      subst e
      go_ret2
      exact ⟨congrArg (fun z : Nat => Ending.returned (.tuple #[.int .i64 (z : Int), .int .i64 0])) hV.out, rfl⟩

/-- Does a number fit s bytes? -/
def Fits (s : Nat) (n : Int) : Prop := 0 ≤ n ∧ n.toNat < 256 ^ s
theorem put_fit (n : Int) (s : Nat) (w : World) (h1 : 1 ≤ s) (h2 : s ≤ 4) (h : Fits s n) : Calls Try.prog 45 #[.int .i64 n, .int .i64 s] w (RetRow w s (be n.toNat s) 0) :=
  put_yes n s w h1 h2 h.1 h.2
theorem put_misfit (n : Int) (s : Nat) (w : World) (h1 : 1 ≤ s) (h2 : s ≤ 4) (h : ¬ Fits s n) : Calls Try.prog 45 #[.int .i64 n, .int .i64 s] w (RetNil 1 w) := by
  refine put_out n s w h1 h2 ?_
  by_cases h0 : n < 0
  · exact .inl h0
  · right
    have h3 : 256 ^ s ≤ n.toNat := by
      rcases Nat.lt_or_ge n.toNat (256 ^ s) with h4 | h4
      · exact absurd ⟨by omega, h4⟩ h
      · exact h4
    obtain ⟨m, rfl⟩ := Int.eq_ofNat_of_zero_le (by omega : 0 ≤ n)
    rw [Int.toNat_natCast] at h3
    have h5 : ((256 ^ s : Nat) : Int) ≤ (m : Int) := by omega
    rwa [Int.natCast_pow] at h5
theorem rput_fit (n : Int) (s : Nat) (w : World) (h1 : 1 ≤ s) (h2 : s ≤ 4) (hn : n ≤ 9223372036854775807) (h : Fits s n) : Calls Try.prog 49 #[.int .i64 n, .int .i64 s] w (RetRow w s (be n.toNat s) 0) := by
  obtain ⟨h0, h3⟩ := h
  obtain ⟨m, rfl⟩ := Int.eq_ofNat_of_zero_le h0
  exact (rput_nat m s w h1 h2 (by omega)).mono fun e w' hh => hh.1 (by simpa using h3)
/-- Nothing, and a whole number; what was there is as it was. -/
def RetNone (er : Int) (w : World) (e : Ending) (w' : World) : Prop := e = .returned (.tuple #[.slice none 0 0, .int .i64 er]) ∧ Below w.heap.size w w'
theorem rput_misfit (n : Int) (s : Nat) (w : World) (h1 : 1 ≤ s) (h2 : s ≤ 4) (hn : -9223372036854775808 ≤ n ∧ n ≤ 9223372036854775807) (h : ¬ Fits s n) : Calls Try.prog 49 #[.int .i64 n, .int .i64 s] w (RetNone 1 w) := by
  by_cases h0 : n < 0
  · exact rput_neg n s w h1 h2 h0 hn.1
  · have h3 : 256 ^ s ≤ n.toNat := by
      rcases Nat.lt_or_ge n.toNat (256 ^ s) with h4 | h4
      · exact absurd ⟨by omega, h4⟩ h
      · exact h4
    obtain ⟨m, rfl⟩ := Int.eq_ofNat_of_zero_le (by omega : 0 ≤ n)
    exact (rput_nat m s w h1 h2 (by omega)).mono fun e w' hh => hh.2 (by simpa using h3)

end Go.Proofs.Ytgapcmodhcdebaa

/-! ### Append -/
namespace Go.Th
open Go.RowKit
section
variable {P : Program} {ops : Array Oper} {rest : List Oper} {o : Oper} {a : Act} {Q : Exit → Act → World → Prop} {w : World}
/-- append, and where the row lies then. -/
theorem wl_appendA (hw : Region.wanted o (yielded ops a.tmps) = true) (s x : Operand) (t : TypeId)
    (ho : o.op = .call { callee := .builtin .append, args := #[s, x], argTypes := #[t, t] })
    {base E : Nat} {z : Value} {bytes : Nat} (el : El P t E z bytes) {α : Type} {f : α → Value} (hf : ∀ x, (f x).oneCell' = true)
    {A : Option Addr} {n c : Nat} (hs : a.eval s = .slice A n c) {xs : List α} (hown : OwS f w base E A n c xs)
    {B : Nat} {A' : Option Addr} {m c' : Nat} (hx : a.eval x = .slice A' m c') {ys : List α} (hr : RdS f w B A' m c' ys)
    (hbytes : (n + m) * bytes ≤ 140737488355328) (hpos : 0 < bytes) (hbase : base ≤ w.heap.size)
    (h : ∀ A'' c'' w', OwS f w' base E A'' (n + m) c'' (xs ++ ys) → w.grownBy w' (rowOf A) → Below base w w' → (A'' = A ∨ A'' = some ⟨w.heap.size, 0, Option.none⟩) → wpList P ops Q rest (a.put o.dst (.slice A'' (n + m) c'')) w') : wpList P ops Q (o :: rest) a w := by
  obtain ⟨i, hi, hz, hsize, hby⟩ := el.info
  have h63 : n + m ≤ maxLen := by
    have := Nat.le_mul_of_pos_right (n + m) hpos
    simp only [maxLen]; omega
  obtain ⟨A'', c'', w', hrun, h2, h3, h4⟩ := run_append (P := P) (ty := o.type) (c' := c') el.ht hi hz hsize hby (by rw [el.cells]; rfl) (by omega) hown.ow (news := ys.map f) (by rw [List.length_map, hr.len]; omega) hr.rd (by
    intro u hu
    obtain ⟨y, _, rfl⟩ := List.mem_map.1 hu
    exact hf y) h63 hbytes hbase
  refine wl_run hw ?_ (h A'' c'' w' ⟨by rw [← List.map_append] at h2; exact h2⟩ h3 ((Below.refl _ _).grown h3 hbase hown.ow.row_ge) h4)
  simp only [execOp, ho, resolve, invoke, builtin, Sem.run_bind, Sem.run_pure, Result.andThen, List.map_toArray, List.map_cons, List.map_nil, hs, hx, hrun]
end
end Go.Th

/-! ### RulePut -/
namespace Go.Proofs.Ytgapcmodhcdebaa
open Go.RowKit Go.Th
set_option linter.unusedVariables false
/-- A row of the table: how many bytes; the reader; the setter. -/
def fcs : Nat → List Value
  | 0 => [.int .i64 4, .func (.func 67) #[] #[], .func (.func 68) #[] #[]]
  | 1 => [.int .i64 1, .func (.func 69) #[] #[], .func (.func 70) #[] #[]]
  | 2 => [.int .i64 1, .func (.func 71) #[] #[], .func (.func 72) #[] #[]]
  | _ => [.int .i64 2, .func (.func 73) #[] #[], .func (.func 74) #[] #[]]
theorem fcs_length : ∀ i, (fcs i).length = 3
  | 0 | 1 | 2 | _ + 3 => rfl
theorem fcs_one : ∀ i, ∀ u ∈ fcs i, u.oneCell' = true
  | 0 | 1 | 2 | _ + 3 => by
    intro u hu
    simp only [fcs, List.mem_cons, List.not_mem_nil, or_false] at hu
    rcases hu with rfl | rfl | rfl <;> rfl
theorem info_field : (Try.prog.info? 77).map (fun i => (i.zero, i.size, i.bytes)) = some (some (.agg #[.int .i64 0, .nilFunc, .nilFunc]), 3, 24) := by kernel_rfl
theorem size_field (w : World) : (sizeOf 77).run Try.prog w = .ok 3 w := by kernel_rfl
theorem el_field : ElM Try.prog 72 77 (.agg #[.int .i64 0, .nilFunc, .nilFunc]) 24 3 := ⟨Try.underlying72, info_parts info_field, rfl, size_field, by omega⟩
theorem st_field : St Try.prog 77 3 := ⟨⟨_, Try.underlying77⟩, by kernel_rfl⟩
theorem fields_any (w : World) : Calls Try.prog 44 #[] w fun e w' => ∃ A, e = .returned (.slice A 4 4) ∧ OwM fcs 3 w' w.heap.size 77 A 4 4 [0, 1, 2, 3] ∧ Below w.heap.size w w' := by
  go_enter Try.func44, Try.ntmps44
  go_wp2
  go_ret
  exact ⟨_, rfl, OwM.lit fcs_length w _ 4 (Nat.le_refl _) (by simp [maxLen]) rfl rfl, below_alloc w (Nat.le_refl _) _⟩
/-- The readers. -/
theorem get0 (r : Ru) (h : 0 ≤ r.a ∧ r.a ≤ 4294967295) (w : World) : Calls Try.prog 67 #[.agg #[.int .u32 r.a, .int .i64 r.n, .int .i64 r.act, .int .i64 r.next]] w fun e w' => e = .returned (.int .i64 r.a) ∧ Below w.heap.size w w' := by
  obtain ⟨h0, h1⟩ := h
  go_enter Try.func67, Try.ntmps67
  go_wp2
  go_ret
  exact ⟨rfl, below_alloc w (Nat.le_refl _) _⟩
theorem get1 (r : Ru) (w : World) : Calls Try.prog 69 #[.agg #[.int .u32 r.a, .int .i64 r.n, .int .i64 r.act, .int .i64 r.next]] w fun e w' => e = .returned (.int .i64 r.n) ∧ Below w.heap.size w w' := by
  go_enter Try.func69, Try.ntmps69
  go_wp2
  go_ret
  exact ⟨rfl, below_alloc w (Nat.le_refl _) _⟩
theorem get2 (r : Ru) (w : World) : Calls Try.prog 71 #[.agg #[.int .u32 r.a, .int .i64 r.n, .int .i64 r.act, .int .i64 r.next]] w fun e w' => e = .returned (.int .i64 r.act) ∧ Below w.heap.size w w' := by
  go_enter Try.func71, Try.ntmps71
  go_wp2
  go_ret
  exact ⟨rfl, below_alloc w (Nat.le_refl _) _⟩
theorem get3 (r : Ru) (w : World) : Calls Try.prog 73 #[.agg #[.int .u32 r.a, .int .i64 r.n, .int .i64 r.act, .int .i64 r.next]] w fun e w' => e = .returned (.int .i64 r.next) ∧ Below w.heap.size w w' := by
  go_enter Try.func73, Try.ntmps73
  go_wp2
  go_ret
  exact ⟨rfl, below_alloc w (Nat.le_refl _) _⟩
/-- A part of a rule: its number, and how many bytes it has. -/
def gv (r : Ru) : Nat → Int
  | 0 => r.a
  | 1 => r.n
  | 2 => r.act
  | _ => r.next
def gs : Nat → Nat
  | 0 => 4
  | 1 => 1
  | 2 => 1
  | _ => 2
def Fit1 (r : Ru) (i : Nat) : Prop := 0 ≤ gv r i ∧ gv r i < 256 ^ gs i
def pre (r : Ru) : Nat → List UInt8
  | 0 => []
  | k + 1 => pre r k ++ be (gv r k).toNat (gs k)
theorem pre_length (r : Ru) : (pre r 4).length = 8 := by simp [pre, be_length, gs]
theorem pre_le (r : Ru) : ∀ k, k ≤ 4 → (pre r k).length ≤ 8
  | 0, _ => by simp [pre]
  | 1, _ => by simp [pre, be_length, gs]
  | 2, _ => by simp [pre, be_length, gs]
  | 3, _ => by simp [pre, be_length, gs]
  | 4, _ => by simp [pre, be_length, gs]
  | k + 5, h => by omega
/-- A row of bytes of the call's own, and an error's number. -/
def RetBytes (bs : List UInt8) (er : Int) (w : World) (e : Ending) (w' : World) : Prop :=
  ∃ A n c, e = .returned (.tuple #[.slice A n c, .int .i64 er]) ∧ OwS bv w' w.heap.size 5 A n c bs ∧ Below w.heap.size w w'
def PutRel (r : Ru) (base b0 g gt : Nat) (w : World) (all i : Value) (wr : World) : Prop :=
  ∃ (k ga n c : Nat), k ≤ 4 ∧ all = .slice (some ⟨ga, 0, none⟩) n c ∧ i = .int .i64 k ∧ OwS bv wr base 5 (some ⟨ga, 0, none⟩) n c (pre r k) ∧ Hid (ga ≠ gt) ∧ n ≤ 8 ∧ Hid (∀ j, j < k → Fit1 r j) ∧ OwM fcs 3 wr base 77 (some ⟨gt, 0, none⟩) 4 4 [0, 1, 2, 3] ∧ Box wr g 47 r.cs.toArray ∧ Below b0 w wr
set_option maxHeartbeats 4000000 in
theorem rulePut (r : Ru) (h : 0 ≤ r.a ∧ r.a ≤ 4294967295) (w : World) : Calls Try.prog 22 #[.agg #[.int .u32 r.a, .int .i64 r.n, .int .i64 r.act, .int .i64 r.next]] w fun e w' =>
    ((∀ j, j < 4 → Fit1 r j) → RetBytes (pre r 4) 0 w e w') ∧ ((∃ j, j < 4 ∧ ¬ Fit1 r j) → RetBytes [] 1 w e w') := by
  go_enter Try.func22, Try.ntmps22
  go_wp2_with ((with_reducible refine on_make ?_); refine wl_make0S rfl _ _ _ rfl el_u8 (f := bv) (base := w.heap.size + 1) 8 rfl rfl (by omega) (by omega) (by omega) (by simp) ?_; intro g1 w1 hg1 how1 hb1)
  have hg1lt : g1 < w1.heap.size := by
    rcases how1.ow.form with ⟨e, _⟩ | ⟨g', e, _, hl⟩
    · cases e
    · injection e with e; injection e with e; subst e; exact hl
  have bx := (Box.new w r.cs.toArray 47).step hb1
  have B1 : Below w.heap.size w w1 := (below_alloc w (Nat.le_refl _) _).trans (hb1.mono (by simp))
  have z1 := B1.size
  refine (fields_any w1).mono ?_
  rintro e w2 ⟨At, rfl, how2, hb2⟩
  have bx2 := bx.step hb2
  have how1 := how1.below hb2
  have B2 := B1.trans (hb2.mono z1)
  have hg1' : w.heap.size + 1 ≤ w1.heap.size := by have := hb1.size; simpa using this
  obtain ⟨gt, rfl, hgt1, hgt2⟩ := how2.at0 (by omega)
  have hgt : g1 ≠ gt := by omega
  have Hgt := Lib.hid hgt
  have how2 := how2.base_le hg1'
  clear hb1 hb2 bx hgt B1
  go_wp2_with fail
  go_loopw [4, 6, 7, 8, 12] (fun all _ _ _ i wr => PutRel r (w.heap.size + 1) w.heap.size w.heap.size gt w all i wr) (fun _ _ _ _ i _ => 4 - (intOf i).toNat)
  case atStart => exact ⟨0, g1, 0, 8, by omega, rfl, rfl, how1, Hgt, by omega, (fun j hj => by omega), how2, bx2, B2⟩
  case round =>
    obtain ⟨k, ga, n, c, hk, rfl, rfl, how, hga, hn8, hfit, howt, hbx, hbr⟩ := hrel
    clear how1 how2 bx2 B2
    have zr := hbr.size
    have hbase := how.ow.form
    have hzb : w.heap.size + 1 ≤ wr.heap.size := by
      have := hbx.lt; omega
    by_cases hlt : k < 4
    · go_wp2_with (first
        | ((with_reducible refine on_index (.tmp 10) ?_); refine wm_at fcs_length rfl _ _ _ rfl el_field rfl rfl (by omega) (by omega) howt.rd ?_; intro b1 j1 x1 hx1 hbb1 hc1; have hxk : x1 = k := (by have e := hx1.out; rw [Int.toNat_natCast] at e; have : k = 0 ∨ k = 1 ∨ k = 2 ∨ k = 3 := (by omega); rcases this with h | h | h | h <;> (rw [h] at e; injection e with e; rw [h]; exact e.symm)); subst hxk)
        | ((with_reducible refine on_load (.tmp 14) ?_); refine wm_load rfl _ (.tmp 14) rfl st_field rfl (fcs_length _) hc1.out ?_)
        | ((with_reducible refine on_store_at (.tmp 6) ?_); refine wb_store rfl _ (.tmp 6) _ rfl st_field rfl rfl (Box.new _ _ _) rfl (by simp [fcs_length]) (by rw [Array.all_eq_true_iff_forall_mem]; intro u hu; exact fcs_one _ u (by simpa using hu)) ?_; intro w5 hbx5 hg5))
      have hb5 : Below w.heap.size w w5 := (hbr.alloc zr _).trans (below_of_grown hg5 (fun j e => by injection e with e; omega) (by have := zr; simp; omega))
      have z5 := hb5.size
      have how := (how.alloc (.cells #[.int .i64 0, .nilFunc, .nilFunc] 77)).grown hg5 (by
        intro g hg
        rcases how.ow.form with ⟨e, _⟩ | ⟨g', e, _, hl⟩
        · cases e
        · injection e with e; injection e with e; injection hg with hg; injection hg with hg; subst e; subst hg
          intro e2; injection e2 with e2; omega)
      have howt := (howt.alloc (.cells #[.int .i64 0, .nilFunc, .nilFunc] 77)).grown hg5 (by
        intro g hg
        rcases howt.ow.form with ⟨e, _⟩ | ⟨g', e, _, hl⟩
        · cases e
        · injection e with e; injection e with e; injection hg with hg; injection hg with hg; subst e; subst hg
          intro e2; injection e2 with e2; omega)
      have hbx := (hbx.alloc (.cells #[.int .i64 0, .nilFunc, .nilFunc] 77)).grown hg5 (fun e => by injection e with e; have := hbx.lt; omega)
      have y1 : ∀ w', Th.Reach w5.heap.size w5.drew w' → Box w' w.heap.size 47 r.cs.toArray := fun _ hw => hbx.drew.step hw.below
      have e0 : ∀ q : Step w5.heap.size w5.drew, q.w.cell? ⟨wr.heap.size, 0, none⟩ = (fcs x1)[0]? := fun q => by simpa using (hbx5.drew.step q.h).cell 0
      have e1 : ∀ q : Step w5.heap.size w5.drew, q.w.cell? ⟨wr.heap.size, 1, none⟩ = (fcs x1)[1]? := fun q => by simpa using (hbx5.drew.step q.h).cell 1
      clear hbr zr hg5 hbx5 hc1 hx1 hbase hzb
      have hzb5 : w.heap.size + 1 ≤ w5.heap.size := by have := hbx.lt; omega
      have hk4 : x1 = 0 ∨ x1 = 1 ∨ x1 = 2 ∨ x1 = 3 := by omega
      rcases hk4 with rfl | rfl | rfl | rfl
      · have f0 : ∀ q : Step w5.heap.size w5.drew, q.w.cell? ⟨wr.heap.size, 0, none⟩ = some (.int .i64 4) := e0
        have f1 : ∀ q : Step w5.heap.size w5.drew, q.w.cell? ⟨wr.heap.size, 1, none⟩ = some (.func (.func 67) #[] #[]) := e1
        clear e0 e1
        by_cases hf : 0 ≤ r.a ∧ r.a < 256 ^ 4
        · have Hf := Lib.hid hf
          clear hf
          refine wp_region_tree (.float 0 3 (.float 4 2 (.one 3 (.one 6 (.float 7 5 .done))))) (Th.Reach w5.heap.size) (Th.Reach.trans _) (Th.Reach.refl _) (by kernel_rfl) (by kernel_rfl) (fun KT hKT => ?_)
          refine wpTree_float (fun KF hKF => ?_)
          simp only [List.drop, List.take]
          repeat (first | go_big_quiet_skip | ((with_reducible refine onq_load (.tmp 1) ?_); refine wqr_box rfl _ (.tmp 1) rfl st_rule rfl y1 ?_) | go_big_quiet_step (fail) | quiet_step (fail))
          refine wpQuiet_nil ?_
          refine hKF _ ?_
          clear hKF KF
          refine wpTree_float (fun KF hKF => ?_)
          simp only [List.drop, List.take]
          repeat (first | go_big_quiet_skip | ((with_reducible refine onq_load (.tmp 1) ?_); refine wqr_box rfl _ (.tmp 1) rfl st_rule rfl y1 ?_) | go_big_quiet_step (fail) | quiet_step (fail))
          refine wpQuiet_nil ?_
          refine hKF _ ?_
          clear hKF KF
          refine wpTree_one (fun KO hKO => ?_)
          simp only [List.drop, List.take]
          go_wp2_with (first | (go_at_call 67; refine (get0 r h w5.drew).mono ?_; rintro e w6 ⟨rfl, hb6⟩; have hb6 : Below w5.heap.size w5.drew w6 := hb6; have z6 : w5.heap.size ≤ w6.heap.size := hb6.size) | (go_at_call 45; refine (put_yes r.a 4 w6 (by omega) (by omega) Hf.out.1 (by have := Hf.out; omega)).mono ?_; rintro e w7 ⟨A7, c7, rfl, how7, hb7⟩; have z7 := hb7.size))
          refine anch_end (Th.Reach.of (by first | exact Below.refl _ _ | exact below_alloc _ (by first | omega | (simp; done) | (simp; omega)) _ | exact below_alloc2 _ (by first | omega | (simp; done) | (simp; omega)) _ _ | exact below_alloc2d _ (by simp) _ _ | exact bdrew _ _ | assumption | (exact Below.mono (by assumption) (by first | (simp; done) | (simp; omega) | omega | assumption)))) (hKO _ _ ?_)
          clear hKO KO
          refine wpTree_one (fun KO hKO => ?_)
          simp only [List.drop, List.take]
          go_wp2_with (first | (go_at_call 67; refine (get0 r h w5.drew).mono ?_; rintro e w6 ⟨rfl, hb6⟩; have hb6 : Below w5.heap.size w5.drew w6 := hb6; have z6 : w5.heap.size ≤ w6.heap.size := hb6.size) | (go_at_call 45; refine (put_yes r.a 4 w6 (by omega) (by omega) Hf.out.1 (by have := Hf.out; omega)).mono ?_; rintro e w7 ⟨A7, c7, rfl, how7, hb7⟩; have z7 := hb7.size))
          refine anch_end (Th.Reach.of (by first | exact Below.refl _ _ | exact below_alloc _ (by first | omega | (simp; done) | (simp; omega)) _ | exact below_alloc2 _ (by first | omega | (simp; done) | (simp; omega)) _ _ | exact below_alloc2d _ (by simp) _ _ | exact bdrew _ _ | assumption | (exact Below.mono (by assumption) (by first | (simp; done) | (simp; omega) | omega | assumption)))) (hKO _ _ ?_)
          clear hKO KO
          refine wpTree_float (fun KF hKF => ?_)
          simp only [List.drop, List.take]
          repeat (first | go_big_quiet_skip | ((with_reducible refine onq_load (.tmp 1) ?_); refine wqr_box rfl _ (.tmp 1) rfl st_rule rfl y1 ?_) | go_big_quiet_step (fail) | quiet_step (fail))
          refine wpQuiet_nil ?_
          refine hKF _ ?_
          clear hKF KF
          refine wpTree_done ?_
          refine hKT _ _ ?_
          clear hKT KT
          have b57 : Below w5.heap.size w5 w7 := (bdrew1 w5).trans (hb6.trans (hb7.mono z6))
          have howg := how.below b57
          have howtg := howt.below b57
          have hbxg := hbx.step b57
          have B7 := hb5.trans (b57.mono z5)
          clear how howt hbx y1 f0 f1
          go_wp2_with ((with_reducible refine on_append (.tmp 29) (.tmp 30) ?_); refine wl_appendA rfl (.tmp 29) (.tmp 30) _ rfl el_u8 (f := bv) (fun _ => rfl) rfl howg rfl how7.rd (by omega) (by omega) (by omega) ?_; intro A8 c8 w8 how8 hg8 hb8 hA8)
          have hgt7 : gt < w7.heap.size := by
            rcases howtg.ow.form with ⟨e, _⟩ | ⟨g', e, _, hl⟩
            · cases e
            · injection e with e; injection e with e; omega
          have hgab : w.heap.size + 1 ≤ ga := by
            rcases howg.ow.form with ⟨e, _⟩ | ⟨g', e, hb, _⟩
            · cases e
            · injection e with e; injection e with e; omega
          have hne1 : ∀ g, (some (⟨gt, 0, none⟩ : Addr)) = some ⟨g, 0, none⟩ → rowOf (some ⟨ga, 0, none⟩) ≠ some g := fun g hg e => by
            simp only [rowOf, Option.some.injEq, Addr.mk.injEq, and_true] at hg e
            exact hga.out (by omega)
          have hne2 : rowOf (some ⟨ga, 0, none⟩) ≠ some w.heap.size := fun e => by
            simp only [rowOf, Option.some.injEq] at e
            omega
          have hga8 : ∃ ga', A8 = some ⟨ga', 0, none⟩ ∧ ga' ≠ gt := by
            rcases hA8 with e | e
            · exact ⟨_, e, hga.out⟩
            · exact ⟨_, e, by omega⟩
          obtain ⟨ga', rfl, hga'⟩ := hga8
          have Hga' := Lib.hid hga'
          clear hga' hA8
          have hl8 := pre_le r 1 (by omega)
          have e8 : pre r 0 ++ be r.a.toNat 4 = pre r 1 := rfl
          rw [e8] at how8
          have ln8 := how8.len
          go_roundw
          case rel => exact ⟨1, ga', _, c8, by omega, rfl, by first | rfl | go_num, how8, Hga', by omega, (fun j hj => by
            rcases Nat.lt_or_ge j 0 with h | h
            · exact hfit.out j h
            · have : j = 0 := by omega
              subst this
              exact Hf.out), howtg.grown hg8 hne1, hbxg.grown hg8 hne2, B7.trans (hb8.mono (by omega))⟩
          case measure => simp [intOf]
        · have hnf : r.a < 0 ∨ 256 ^ 4 ≤ r.a := by omega
          have Hf := Lib.hid hf
          have Hnf := Lib.hid hnf
          clear hf hnf
          refine wp_region_tree (.float 0 3 (.float 4 2 (.one 3 (.one 6 (.float 7 5 .done))))) (Th.Reach w5.heap.size) (Th.Reach.trans _) (Th.Reach.refl _) (by kernel_rfl) (by kernel_rfl) (fun KT hKT => ?_)
          refine wpTree_float (fun KF hKF => ?_)
          simp only [List.drop, List.take]
          repeat (first | go_big_quiet_skip | ((with_reducible refine onq_load (.tmp 1) ?_); refine wqr_box rfl _ (.tmp 1) rfl st_rule rfl y1 ?_) | go_big_quiet_step (fail) | quiet_step (fail))
          refine wpQuiet_nil ?_
          refine hKF _ ?_
          clear hKF KF
          refine wpTree_float (fun KF hKF => ?_)
          simp only [List.drop, List.take]
          repeat (first | go_big_quiet_skip | ((with_reducible refine onq_load (.tmp 1) ?_); refine wqr_box rfl _ (.tmp 1) rfl st_rule rfl y1 ?_) | go_big_quiet_step (fail) | quiet_step (fail))
          refine wpQuiet_nil ?_
          refine hKF _ ?_
          clear hKF KF
          refine wpTree_one (fun KO hKO => ?_)
          simp only [List.drop, List.take]
          go_wp2_with (first | (go_at_call 67; refine (get0 r h w5.drew).mono ?_; rintro e w6 ⟨rfl, hb6⟩; have hb6 : Below w5.heap.size w5.drew w6 := hb6; have z6 : w5.heap.size ≤ w6.heap.size := hb6.size) | (go_at_call 45; refine (put_out r.a 4 w6 (by omega) (by omega) Hnf.out).mono ?_; rintro e w7 ⟨rfl, rfl⟩))
          refine anch_end (Th.Reach.of (by first | exact Below.refl _ _ | exact below_alloc _ (by first | omega | (simp; done) | (simp; omega)) _ | exact below_alloc2 _ (by first | omega | (simp; done) | (simp; omega)) _ _ | exact below_alloc2d _ (by simp) _ _ | exact bdrew _ _ | assumption | (exact Below.mono (by assumption) (by first | (simp; done) | (simp; omega) | omega | assumption)))) (hKO _ _ ?_)
          clear hKO KO
          refine wpTree_one (fun KO hKO => ?_)
          simp only [List.drop, List.take]
          go_wp2_with (first | (go_at_call 67; refine (get0 r h w5.drew).mono ?_; rintro e w6 ⟨rfl, hb6⟩; have hb6 : Below w5.heap.size w5.drew w6 := hb6; have z6 : w5.heap.size ≤ w6.heap.size := hb6.size) | (go_at_call 45; refine (put_out r.a 4 w6 (by omega) (by omega) Hnf.out).mono ?_; rintro e w7 ⟨rfl, rfl⟩))
          refine anch_end (Th.Reach.of (by first | exact Below.refl _ _ | exact below_alloc _ (by first | omega | (simp; done) | (simp; omega)) _ | exact below_alloc2 _ (by first | omega | (simp; done) | (simp; omega)) _ _ | exact below_alloc2d _ (by simp) _ _ | exact bdrew _ _ | assumption | (exact Below.mono (by assumption) (by first | (simp; done) | (simp; omega) | omega | assumption)))) (hKO _ _ ?_)
          clear hKO KO
          refine wpTree_float (fun KF hKF => ?_)
          simp only [List.drop, List.take]
          repeat (first | go_big_quiet_skip | ((with_reducible refine onq_load (.tmp 1) ?_); refine wqr_box rfl _ (.tmp 1) rfl st_rule rfl y1 ?_) | go_big_quiet_step (fail) | quiet_step (fail))
          refine wpQuiet_nil ?_
          refine hKF _ ?_
          clear hKF KF
          refine wpTree_done ?_
          refine hKT _ _ ?_
          clear hKT KT
          have b57 : Below w5.heap.size w5 w6 := (bdrew1 w5).trans hb6
          have B7 := hb5.trans (b57.mono z5)
          go_wp2
          go_ret2
          exact ⟨fun hall => absurd (hall 0 (by omega)) Hf.out, fun _ => ⟨none, 0, 0, rfl, OwS.nil_ _ _ _, B7⟩⟩
      · have f0 : ∀ q : Step w5.heap.size w5.drew, q.w.cell? ⟨wr.heap.size, 0, none⟩ = some (.int .i64 1) := e0
        have f1 : ∀ q : Step w5.heap.size w5.drew, q.w.cell? ⟨wr.heap.size, 1, none⟩ = some (.func (.func 69) #[] #[]) := e1
        clear e0 e1
        by_cases hf : 0 ≤ r.n ∧ r.n < 256 ^ 1
        · have Hf := Lib.hid hf
          clear hf
          refine wp_region_tree (.float 0 3 (.float 4 2 (.one 3 (.one 6 (.float 7 5 .done))))) (Th.Reach w5.heap.size) (Th.Reach.trans _) (Th.Reach.refl _) (by kernel_rfl) (by kernel_rfl) (fun KT hKT => ?_)
          refine wpTree_float (fun KF hKF => ?_)
          simp only [List.drop, List.take]
          repeat (first | go_big_quiet_skip | ((with_reducible refine onq_load (.tmp 1) ?_); refine wqr_box rfl _ (.tmp 1) rfl st_rule rfl y1 ?_) | go_big_quiet_step (fail) | quiet_step (fail))
          refine wpQuiet_nil ?_
          refine hKF _ ?_
          clear hKF KF
          refine wpTree_float (fun KF hKF => ?_)
          simp only [List.drop, List.take]
          repeat (first | go_big_quiet_skip | ((with_reducible refine onq_load (.tmp 1) ?_); refine wqr_box rfl _ (.tmp 1) rfl st_rule rfl y1 ?_) | go_big_quiet_step (fail) | quiet_step (fail))
          refine wpQuiet_nil ?_
          refine hKF _ ?_
          clear hKF KF
          refine wpTree_one (fun KO hKO => ?_)
          simp only [List.drop, List.take]
          go_wp2_with (first | (go_at_call 69; refine (get1 r w5.drew).mono ?_; rintro e w6 ⟨rfl, hb6⟩; have hb6 : Below w5.heap.size w5.drew w6 := hb6; have z6 : w5.heap.size ≤ w6.heap.size := hb6.size) | (go_at_call 45; refine (put_yes r.n 1 w6 (by omega) (by omega) Hf.out.1 (by have := Hf.out; omega)).mono ?_; rintro e w7 ⟨A7, c7, rfl, how7, hb7⟩; have z7 := hb7.size))
          refine anch_end (Th.Reach.of (by first | exact Below.refl _ _ | exact below_alloc _ (by first | omega | (simp; done) | (simp; omega)) _ | exact below_alloc2 _ (by first | omega | (simp; done) | (simp; omega)) _ _ | exact below_alloc2d _ (by simp) _ _ | exact bdrew _ _ | assumption | (exact Below.mono (by assumption) (by first | (simp; done) | (simp; omega) | omega | assumption)))) (hKO _ _ ?_)
          clear hKO KO
          refine wpTree_one (fun KO hKO => ?_)
          simp only [List.drop, List.take]
          go_wp2_with (first | (go_at_call 69; refine (get1 r w5.drew).mono ?_; rintro e w6 ⟨rfl, hb6⟩; have hb6 : Below w5.heap.size w5.drew w6 := hb6; have z6 : w5.heap.size ≤ w6.heap.size := hb6.size) | (go_at_call 45; refine (put_yes r.n 1 w6 (by omega) (by omega) Hf.out.1 (by have := Hf.out; omega)).mono ?_; rintro e w7 ⟨A7, c7, rfl, how7, hb7⟩; have z7 := hb7.size))
          refine anch_end (Th.Reach.of (by first | exact Below.refl _ _ | exact below_alloc _ (by first | omega | (simp; done) | (simp; omega)) _ | exact below_alloc2 _ (by first | omega | (simp; done) | (simp; omega)) _ _ | exact below_alloc2d _ (by simp) _ _ | exact bdrew _ _ | assumption | (exact Below.mono (by assumption) (by first | (simp; done) | (simp; omega) | omega | assumption)))) (hKO _ _ ?_)
          clear hKO KO
          refine wpTree_float (fun KF hKF => ?_)
          simp only [List.drop, List.take]
          repeat (first | go_big_quiet_skip | ((with_reducible refine onq_load (.tmp 1) ?_); refine wqr_box rfl _ (.tmp 1) rfl st_rule rfl y1 ?_) | go_big_quiet_step (fail) | quiet_step (fail))
          refine wpQuiet_nil ?_
          refine hKF _ ?_
          clear hKF KF
          refine wpTree_done ?_
          refine hKT _ _ ?_
          clear hKT KT
          have b57 : Below w5.heap.size w5 w7 := (bdrew1 w5).trans (hb6.trans (hb7.mono z6))
          have howg := how.below b57
          have howtg := howt.below b57
          have hbxg := hbx.step b57
          have B7 := hb5.trans (b57.mono z5)
          clear how howt hbx y1 f0 f1
          go_wp2_with ((with_reducible refine on_append (.tmp 29) (.tmp 30) ?_); refine wl_appendA rfl (.tmp 29) (.tmp 30) _ rfl el_u8 (f := bv) (fun _ => rfl) rfl howg rfl how7.rd (by omega) (by omega) (by omega) ?_; intro A8 c8 w8 how8 hg8 hb8 hA8)
          have hgt7 : gt < w7.heap.size := by
            rcases howtg.ow.form with ⟨e, _⟩ | ⟨g', e, _, hl⟩
            · cases e
            · injection e with e; injection e with e; omega
          have hgab : w.heap.size + 1 ≤ ga := by
            rcases howg.ow.form with ⟨e, _⟩ | ⟨g', e, hb, _⟩
            · cases e
            · injection e with e; injection e with e; omega
          have hne1 : ∀ g, (some (⟨gt, 0, none⟩ : Addr)) = some ⟨g, 0, none⟩ → rowOf (some ⟨ga, 0, none⟩) ≠ some g := fun g hg e => by
            simp only [rowOf, Option.some.injEq, Addr.mk.injEq, and_true] at hg e
            exact hga.out (by omega)
          have hne2 : rowOf (some ⟨ga, 0, none⟩) ≠ some w.heap.size := fun e => by
            simp only [rowOf, Option.some.injEq] at e
            omega
          have hga8 : ∃ ga', A8 = some ⟨ga', 0, none⟩ ∧ ga' ≠ gt := by
            rcases hA8 with e | e
            · exact ⟨_, e, hga.out⟩
            · exact ⟨_, e, by omega⟩
          obtain ⟨ga', rfl, hga'⟩ := hga8
          have Hga' := Lib.hid hga'
          clear hga' hA8
          have hl8 := pre_le r 2 (by omega)
          have e8 : pre r 1 ++ be r.n.toNat 1 = pre r 2 := rfl
          rw [e8] at how8
          have ln8 := how8.len
          go_roundw
          case rel => exact ⟨2, ga', _, c8, by omega, rfl, by first | rfl | go_num, how8, Hga', by omega, (fun j hj => by
            rcases Nat.lt_or_ge j 1 with h | h
            · exact hfit.out j h
            · have : j = 1 := by omega
              subst this
              exact Hf.out), howtg.grown hg8 hne1, hbxg.grown hg8 hne2, B7.trans (hb8.mono (by omega))⟩
          case measure => simp [intOf]
        · have hnf : r.n < 0 ∨ 256 ^ 1 ≤ r.n := by omega
          have Hf := Lib.hid hf
          have Hnf := Lib.hid hnf
          clear hf hnf
          refine wp_region_tree (.float 0 3 (.float 4 2 (.one 3 (.one 6 (.float 7 5 .done))))) (Th.Reach w5.heap.size) (Th.Reach.trans _) (Th.Reach.refl _) (by kernel_rfl) (by kernel_rfl) (fun KT hKT => ?_)
          refine wpTree_float (fun KF hKF => ?_)
          simp only [List.drop, List.take]
          repeat (first | go_big_quiet_skip | ((with_reducible refine onq_load (.tmp 1) ?_); refine wqr_box rfl _ (.tmp 1) rfl st_rule rfl y1 ?_) | go_big_quiet_step (fail) | quiet_step (fail))
          refine wpQuiet_nil ?_
          refine hKF _ ?_
          clear hKF KF
          refine wpTree_float (fun KF hKF => ?_)
          simp only [List.drop, List.take]
          repeat (first | go_big_quiet_skip | ((with_reducible refine onq_load (.tmp 1) ?_); refine wqr_box rfl _ (.tmp 1) rfl st_rule rfl y1 ?_) | go_big_quiet_step (fail) | quiet_step (fail))
          refine wpQuiet_nil ?_
          refine hKF _ ?_
          clear hKF KF
          refine wpTree_one (fun KO hKO => ?_)
          simp only [List.drop, List.take]
          go_wp2_with (first | (go_at_call 69; refine (get1 r w5.drew).mono ?_; rintro e w6 ⟨rfl, hb6⟩; have hb6 : Below w5.heap.size w5.drew w6 := hb6; have z6 : w5.heap.size ≤ w6.heap.size := hb6.size) | (go_at_call 45; refine (put_out r.n 1 w6 (by omega) (by omega) Hnf.out).mono ?_; rintro e w7 ⟨rfl, rfl⟩))
          refine anch_end (Th.Reach.of (by first | exact Below.refl _ _ | exact below_alloc _ (by first | omega | (simp; done) | (simp; omega)) _ | exact below_alloc2 _ (by first | omega | (simp; done) | (simp; omega)) _ _ | exact below_alloc2d _ (by simp) _ _ | exact bdrew _ _ | assumption | (exact Below.mono (by assumption) (by first | (simp; done) | (simp; omega) | omega | assumption)))) (hKO _ _ ?_)
          clear hKO KO
          refine wpTree_one (fun KO hKO => ?_)
          simp only [List.drop, List.take]
          go_wp2_with (first | (go_at_call 69; refine (get1 r w5.drew).mono ?_; rintro e w6 ⟨rfl, hb6⟩; have hb6 : Below w5.heap.size w5.drew w6 := hb6; have z6 : w5.heap.size ≤ w6.heap.size := hb6.size) | (go_at_call 45; refine (put_out r.n 1 w6 (by omega) (by omega) Hnf.out).mono ?_; rintro e w7 ⟨rfl, rfl⟩))
          refine anch_end (Th.Reach.of (by first | exact Below.refl _ _ | exact below_alloc _ (by first | omega | (simp; done) | (simp; omega)) _ | exact below_alloc2 _ (by first | omega | (simp; done) | (simp; omega)) _ _ | exact below_alloc2d _ (by simp) _ _ | exact bdrew _ _ | assumption | (exact Below.mono (by assumption) (by first | (simp; done) | (simp; omega) | omega | assumption)))) (hKO _ _ ?_)
          clear hKO KO
          refine wpTree_float (fun KF hKF => ?_)
          simp only [List.drop, List.take]
          repeat (first | go_big_quiet_skip | ((with_reducible refine onq_load (.tmp 1) ?_); refine wqr_box rfl _ (.tmp 1) rfl st_rule rfl y1 ?_) | go_big_quiet_step (fail) | quiet_step (fail))
          refine wpQuiet_nil ?_
          refine hKF _ ?_
          clear hKF KF
          refine wpTree_done ?_
          refine hKT _ _ ?_
          clear hKT KT
          have b57 : Below w5.heap.size w5 w6 := (bdrew1 w5).trans hb6
          have B7 := hb5.trans (b57.mono z5)
          go_wp2
          go_ret2
          exact ⟨fun hall => absurd (hall 1 (by omega)) Hf.out, fun _ => ⟨none, 0, 0, rfl, OwS.nil_ _ _ _, B7⟩⟩
      · have f0 : ∀ q : Step w5.heap.size w5.drew, q.w.cell? ⟨wr.heap.size, 0, none⟩ = some (.int .i64 1) := e0
        have f1 : ∀ q : Step w5.heap.size w5.drew, q.w.cell? ⟨wr.heap.size, 1, none⟩ = some (.func (.func 71) #[] #[]) := e1
        clear e0 e1
        by_cases hf : 0 ≤ r.act ∧ r.act < 256 ^ 1
        · have Hf := Lib.hid hf
          clear hf
          refine wp_region_tree (.float 0 3 (.float 4 2 (.one 3 (.one 6 (.float 7 5 .done))))) (Th.Reach w5.heap.size) (Th.Reach.trans _) (Th.Reach.refl _) (by kernel_rfl) (by kernel_rfl) (fun KT hKT => ?_)
          refine wpTree_float (fun KF hKF => ?_)
          simp only [List.drop, List.take]
          repeat (first | go_big_quiet_skip | ((with_reducible refine onq_load (.tmp 1) ?_); refine wqr_box rfl _ (.tmp 1) rfl st_rule rfl y1 ?_) | go_big_quiet_step (fail) | quiet_step (fail))
          refine wpQuiet_nil ?_
          refine hKF _ ?_
          clear hKF KF
          refine wpTree_float (fun KF hKF => ?_)
          simp only [List.drop, List.take]
          repeat (first | go_big_quiet_skip | ((with_reducible refine onq_load (.tmp 1) ?_); refine wqr_box rfl _ (.tmp 1) rfl st_rule rfl y1 ?_) | go_big_quiet_step (fail) | quiet_step (fail))
          refine wpQuiet_nil ?_
          refine hKF _ ?_
          clear hKF KF
          refine wpTree_one (fun KO hKO => ?_)
          simp only [List.drop, List.take]
          go_wp2_with (first | (go_at_call 71; refine (get2 r w5.drew).mono ?_; rintro e w6 ⟨rfl, hb6⟩; have hb6 : Below w5.heap.size w5.drew w6 := hb6; have z6 : w5.heap.size ≤ w6.heap.size := hb6.size) | (go_at_call 45; refine (put_yes r.act 1 w6 (by omega) (by omega) Hf.out.1 (by have := Hf.out; omega)).mono ?_; rintro e w7 ⟨A7, c7, rfl, how7, hb7⟩; have z7 := hb7.size))
          refine anch_end (Th.Reach.of (by first | exact Below.refl _ _ | exact below_alloc _ (by first | omega | (simp; done) | (simp; omega)) _ | exact below_alloc2 _ (by first | omega | (simp; done) | (simp; omega)) _ _ | exact below_alloc2d _ (by simp) _ _ | exact bdrew _ _ | assumption | (exact Below.mono (by assumption) (by first | (simp; done) | (simp; omega) | omega | assumption)))) (hKO _ _ ?_)
          clear hKO KO
          refine wpTree_one (fun KO hKO => ?_)
          simp only [List.drop, List.take]
          go_wp2_with (first | (go_at_call 71; refine (get2 r w5.drew).mono ?_; rintro e w6 ⟨rfl, hb6⟩; have hb6 : Below w5.heap.size w5.drew w6 := hb6; have z6 : w5.heap.size ≤ w6.heap.size := hb6.size) | (go_at_call 45; refine (put_yes r.act 1 w6 (by omega) (by omega) Hf.out.1 (by have := Hf.out; omega)).mono ?_; rintro e w7 ⟨A7, c7, rfl, how7, hb7⟩; have z7 := hb7.size))
          refine anch_end (Th.Reach.of (by first | exact Below.refl _ _ | exact below_alloc _ (by first | omega | (simp; done) | (simp; omega)) _ | exact below_alloc2 _ (by first | omega | (simp; done) | (simp; omega)) _ _ | exact below_alloc2d _ (by simp) _ _ | exact bdrew _ _ | assumption | (exact Below.mono (by assumption) (by first | (simp; done) | (simp; omega) | omega | assumption)))) (hKO _ _ ?_)
          clear hKO KO
          refine wpTree_float (fun KF hKF => ?_)
          simp only [List.drop, List.take]
          repeat (first | go_big_quiet_skip | ((with_reducible refine onq_load (.tmp 1) ?_); refine wqr_box rfl _ (.tmp 1) rfl st_rule rfl y1 ?_) | go_big_quiet_step (fail) | quiet_step (fail))
          refine wpQuiet_nil ?_
          refine hKF _ ?_
          clear hKF KF
          refine wpTree_done ?_
          refine hKT _ _ ?_
          clear hKT KT
          have b57 : Below w5.heap.size w5 w7 := (bdrew1 w5).trans (hb6.trans (hb7.mono z6))
          have howg := how.below b57
          have howtg := howt.below b57
          have hbxg := hbx.step b57
          have B7 := hb5.trans (b57.mono z5)
          clear how howt hbx y1 f0 f1
          go_wp2_with ((with_reducible refine on_append (.tmp 29) (.tmp 30) ?_); refine wl_appendA rfl (.tmp 29) (.tmp 30) _ rfl el_u8 (f := bv) (fun _ => rfl) rfl howg rfl how7.rd (by omega) (by omega) (by omega) ?_; intro A8 c8 w8 how8 hg8 hb8 hA8)
          have hgt7 : gt < w7.heap.size := by
            rcases howtg.ow.form with ⟨e, _⟩ | ⟨g', e, _, hl⟩
            · cases e
            · injection e with e; injection e with e; omega
          have hgab : w.heap.size + 1 ≤ ga := by
            rcases howg.ow.form with ⟨e, _⟩ | ⟨g', e, hb, _⟩
            · cases e
            · injection e with e; injection e with e; omega
          have hne1 : ∀ g, (some (⟨gt, 0, none⟩ : Addr)) = some ⟨g, 0, none⟩ → rowOf (some ⟨ga, 0, none⟩) ≠ some g := fun g hg e => by
            simp only [rowOf, Option.some.injEq, Addr.mk.injEq, and_true] at hg e
            exact hga.out (by omega)
          have hne2 : rowOf (some ⟨ga, 0, none⟩) ≠ some w.heap.size := fun e => by
            simp only [rowOf, Option.some.injEq] at e
            omega
          have hga8 : ∃ ga', A8 = some ⟨ga', 0, none⟩ ∧ ga' ≠ gt := by
            rcases hA8 with e | e
            · exact ⟨_, e, hga.out⟩
            · exact ⟨_, e, by omega⟩
          obtain ⟨ga', rfl, hga'⟩ := hga8
          have Hga' := Lib.hid hga'
          clear hga' hA8
          have hl8 := pre_le r 3 (by omega)
          have e8 : pre r 2 ++ be r.act.toNat 1 = pre r 3 := rfl
          rw [e8] at how8
          have ln8 := how8.len
          go_roundw
          case rel => exact ⟨3, ga', _, c8, by omega, rfl, by first | rfl | go_num, how8, Hga', by omega, (fun j hj => by
            rcases Nat.lt_or_ge j 2 with h | h
            · exact hfit.out j h
            · have : j = 2 := by omega
              subst this
              exact Hf.out), howtg.grown hg8 hne1, hbxg.grown hg8 hne2, B7.trans (hb8.mono (by omega))⟩
          case measure => simp [intOf]
        · have hnf : r.act < 0 ∨ 256 ^ 1 ≤ r.act := by omega
          have Hf := Lib.hid hf
          have Hnf := Lib.hid hnf
          clear hf hnf
          refine wp_region_tree (.float 0 3 (.float 4 2 (.one 3 (.one 6 (.float 7 5 .done))))) (Th.Reach w5.heap.size) (Th.Reach.trans _) (Th.Reach.refl _) (by kernel_rfl) (by kernel_rfl) (fun KT hKT => ?_)
          refine wpTree_float (fun KF hKF => ?_)
          simp only [List.drop, List.take]
          repeat (first | go_big_quiet_skip | ((with_reducible refine onq_load (.tmp 1) ?_); refine wqr_box rfl _ (.tmp 1) rfl st_rule rfl y1 ?_) | go_big_quiet_step (fail) | quiet_step (fail))
          refine wpQuiet_nil ?_
          refine hKF _ ?_
          clear hKF KF
          refine wpTree_float (fun KF hKF => ?_)
          simp only [List.drop, List.take]
          repeat (first | go_big_quiet_skip | ((with_reducible refine onq_load (.tmp 1) ?_); refine wqr_box rfl _ (.tmp 1) rfl st_rule rfl y1 ?_) | go_big_quiet_step (fail) | quiet_step (fail))
          refine wpQuiet_nil ?_
          refine hKF _ ?_
          clear hKF KF
          refine wpTree_one (fun KO hKO => ?_)
          simp only [List.drop, List.take]
          go_wp2_with (first | (go_at_call 71; refine (get2 r w5.drew).mono ?_; rintro e w6 ⟨rfl, hb6⟩; have hb6 : Below w5.heap.size w5.drew w6 := hb6; have z6 : w5.heap.size ≤ w6.heap.size := hb6.size) | (go_at_call 45; refine (put_out r.act 1 w6 (by omega) (by omega) Hnf.out).mono ?_; rintro e w7 ⟨rfl, rfl⟩))
          refine anch_end (Th.Reach.of (by first | exact Below.refl _ _ | exact below_alloc _ (by first | omega | (simp; done) | (simp; omega)) _ | exact below_alloc2 _ (by first | omega | (simp; done) | (simp; omega)) _ _ | exact below_alloc2d _ (by simp) _ _ | exact bdrew _ _ | assumption | (exact Below.mono (by assumption) (by first | (simp; done) | (simp; omega) | omega | assumption)))) (hKO _ _ ?_)
          clear hKO KO
          refine wpTree_one (fun KO hKO => ?_)
          simp only [List.drop, List.take]
          go_wp2_with (first | (go_at_call 71; refine (get2 r w5.drew).mono ?_; rintro e w6 ⟨rfl, hb6⟩; have hb6 : Below w5.heap.size w5.drew w6 := hb6; have z6 : w5.heap.size ≤ w6.heap.size := hb6.size) | (go_at_call 45; refine (put_out r.act 1 w6 (by omega) (by omega) Hnf.out).mono ?_; rintro e w7 ⟨rfl, rfl⟩))
          refine anch_end (Th.Reach.of (by first | exact Below.refl _ _ | exact below_alloc _ (by first | omega | (simp; done) | (simp; omega)) _ | exact below_alloc2 _ (by first | omega | (simp; done) | (simp; omega)) _ _ | exact below_alloc2d _ (by simp) _ _ | exact bdrew _ _ | assumption | (exact Below.mono (by assumption) (by first | (simp; done) | (simp; omega) | omega | assumption)))) (hKO _ _ ?_)
          clear hKO KO
          refine wpTree_float (fun KF hKF => ?_)
          simp only [List.drop, List.take]
          repeat (first | go_big_quiet_skip | ((with_reducible refine onq_load (.tmp 1) ?_); refine wqr_box rfl _ (.tmp 1) rfl st_rule rfl y1 ?_) | go_big_quiet_step (fail) | quiet_step (fail))
          refine wpQuiet_nil ?_
          refine hKF _ ?_
          clear hKF KF
          refine wpTree_done ?_
          refine hKT _ _ ?_
          clear hKT KT
          have b57 : Below w5.heap.size w5 w6 := (bdrew1 w5).trans hb6
          have B7 := hb5.trans (b57.mono z5)
          go_wp2
          go_ret2
          exact ⟨fun hall => absurd (hall 2 (by omega)) Hf.out, fun _ => ⟨none, 0, 0, rfl, OwS.nil_ _ _ _, B7⟩⟩
      · have f0 : ∀ q : Step w5.heap.size w5.drew, q.w.cell? ⟨wr.heap.size, 0, none⟩ = some (.int .i64 2) := e0
        have f1 : ∀ q : Step w5.heap.size w5.drew, q.w.cell? ⟨wr.heap.size, 1, none⟩ = some (.func (.func 73) #[] #[]) := e1
        clear e0 e1
        by_cases hf : 0 ≤ r.next ∧ r.next < 256 ^ 2
        · have Hf := Lib.hid hf
          clear hf
          refine wp_region_tree (.float 0 3 (.float 4 2 (.one 3 (.one 6 (.float 7 5 .done))))) (Th.Reach w5.heap.size) (Th.Reach.trans _) (Th.Reach.refl _) (by kernel_rfl) (by kernel_rfl) (fun KT hKT => ?_)
          refine wpTree_float (fun KF hKF => ?_)
          simp only [List.drop, List.take]
          repeat (first | go_big_quiet_skip | ((with_reducible refine onq_load (.tmp 1) ?_); refine wqr_box rfl _ (.tmp 1) rfl st_rule rfl y1 ?_) | go_big_quiet_step (fail) | quiet_step (fail))
          refine wpQuiet_nil ?_
          refine hKF _ ?_
          clear hKF KF
          refine wpTree_float (fun KF hKF => ?_)
          simp only [List.drop, List.take]
          repeat (first | go_big_quiet_skip | ((with_reducible refine onq_load (.tmp 1) ?_); refine wqr_box rfl _ (.tmp 1) rfl st_rule rfl y1 ?_) | go_big_quiet_step (fail) | quiet_step (fail))
          refine wpQuiet_nil ?_
          refine hKF _ ?_
          clear hKF KF
          refine wpTree_one (fun KO hKO => ?_)
          simp only [List.drop, List.take]
          go_wp2_with (first | (go_at_call 73; refine (get3 r w5.drew).mono ?_; rintro e w6 ⟨rfl, hb6⟩; have hb6 : Below w5.heap.size w5.drew w6 := hb6; have z6 : w5.heap.size ≤ w6.heap.size := hb6.size) | (go_at_call 45; refine (put_yes r.next 2 w6 (by omega) (by omega) Hf.out.1 (by have := Hf.out; omega)).mono ?_; rintro e w7 ⟨A7, c7, rfl, how7, hb7⟩; have z7 := hb7.size))
          refine anch_end (Th.Reach.of (by first | exact Below.refl _ _ | exact below_alloc _ (by first | omega | (simp; done) | (simp; omega)) _ | exact below_alloc2 _ (by first | omega | (simp; done) | (simp; omega)) _ _ | exact below_alloc2d _ (by simp) _ _ | exact bdrew _ _ | assumption | (exact Below.mono (by assumption) (by first | (simp; done) | (simp; omega) | omega | assumption)))) (hKO _ _ ?_)
          clear hKO KO
          refine wpTree_one (fun KO hKO => ?_)
          simp only [List.drop, List.take]
          go_wp2_with (first | (go_at_call 73; refine (get3 r w5.drew).mono ?_; rintro e w6 ⟨rfl, hb6⟩; have hb6 : Below w5.heap.size w5.drew w6 := hb6; have z6 : w5.heap.size ≤ w6.heap.size := hb6.size) | (go_at_call 45; refine (put_yes r.next 2 w6 (by omega) (by omega) Hf.out.1 (by have := Hf.out; omega)).mono ?_; rintro e w7 ⟨A7, c7, rfl, how7, hb7⟩; have z7 := hb7.size))
          refine anch_end (Th.Reach.of (by first | exact Below.refl _ _ | exact below_alloc _ (by first | omega | (simp; done) | (simp; omega)) _ | exact below_alloc2 _ (by first | omega | (simp; done) | (simp; omega)) _ _ | exact below_alloc2d _ (by simp) _ _ | exact bdrew _ _ | assumption | (exact Below.mono (by assumption) (by first | (simp; done) | (simp; omega) | omega | assumption)))) (hKO _ _ ?_)
          clear hKO KO
          refine wpTree_float (fun KF hKF => ?_)
          simp only [List.drop, List.take]
          repeat (first | go_big_quiet_skip | ((with_reducible refine onq_load (.tmp 1) ?_); refine wqr_box rfl _ (.tmp 1) rfl st_rule rfl y1 ?_) | go_big_quiet_step (fail) | quiet_step (fail))
          refine wpQuiet_nil ?_
          refine hKF _ ?_
          clear hKF KF
          refine wpTree_done ?_
          refine hKT _ _ ?_
          clear hKT KT
          have b57 : Below w5.heap.size w5 w7 := (bdrew1 w5).trans (hb6.trans (hb7.mono z6))
          have howg := how.below b57
          have howtg := howt.below b57
          have hbxg := hbx.step b57
          have B7 := hb5.trans (b57.mono z5)
          clear how howt hbx y1 f0 f1
          go_wp2_with ((with_reducible refine on_append (.tmp 29) (.tmp 30) ?_); refine wl_appendA rfl (.tmp 29) (.tmp 30) _ rfl el_u8 (f := bv) (fun _ => rfl) rfl howg rfl how7.rd (by omega) (by omega) (by omega) ?_; intro A8 c8 w8 how8 hg8 hb8 hA8)
          have hgt7 : gt < w7.heap.size := by
            rcases howtg.ow.form with ⟨e, _⟩ | ⟨g', e, _, hl⟩
            · cases e
            · injection e with e; injection e with e; omega
          have hgab : w.heap.size + 1 ≤ ga := by
            rcases howg.ow.form with ⟨e, _⟩ | ⟨g', e, hb, _⟩
            · cases e
            · injection e with e; injection e with e; omega
          have hne1 : ∀ g, (some (⟨gt, 0, none⟩ : Addr)) = some ⟨g, 0, none⟩ → rowOf (some ⟨ga, 0, none⟩) ≠ some g := fun g hg e => by
            simp only [rowOf, Option.some.injEq, Addr.mk.injEq, and_true] at hg e
            exact hga.out (by omega)
          have hne2 : rowOf (some ⟨ga, 0, none⟩) ≠ some w.heap.size := fun e => by
            simp only [rowOf, Option.some.injEq] at e
            omega
          have hga8 : ∃ ga', A8 = some ⟨ga', 0, none⟩ ∧ ga' ≠ gt := by
            rcases hA8 with e | e
            · exact ⟨_, e, hga.out⟩
            · exact ⟨_, e, by omega⟩
          obtain ⟨ga', rfl, hga'⟩ := hga8
          have Hga' := Lib.hid hga'
          clear hga' hA8
          have hl8 := pre_le r 4 (by omega)
          have e8 : pre r 3 ++ be r.next.toNat 2 = pre r 4 := rfl
          rw [e8] at how8
          have ln8 := how8.len
          go_roundw
          case rel => exact ⟨4, ga', _, c8, by omega, rfl, by first | rfl | go_num, how8, Hga', by omega, (fun j hj => by
            rcases Nat.lt_or_ge j 3 with h | h
            · exact hfit.out j h
            · have : j = 3 := by omega
              subst this
              exact Hf.out), howtg.grown hg8 hne1, hbxg.grown hg8 hne2, B7.trans (hb8.mono (by omega))⟩
          case measure => simp [intOf]
        · have hnf : r.next < 0 ∨ 256 ^ 2 ≤ r.next := by omega
          have Hf := Lib.hid hf
          have Hnf := Lib.hid hnf
          clear hf hnf
          refine wp_region_tree (.float 0 3 (.float 4 2 (.one 3 (.one 6 (.float 7 5 .done))))) (Th.Reach w5.heap.size) (Th.Reach.trans _) (Th.Reach.refl _) (by kernel_rfl) (by kernel_rfl) (fun KT hKT => ?_)
          refine wpTree_float (fun KF hKF => ?_)
          simp only [List.drop, List.take]
          repeat (first | go_big_quiet_skip | ((with_reducible refine onq_load (.tmp 1) ?_); refine wqr_box rfl _ (.tmp 1) rfl st_rule rfl y1 ?_) | go_big_quiet_step (fail) | quiet_step (fail))
          refine wpQuiet_nil ?_
          refine hKF _ ?_
          clear hKF KF
          refine wpTree_float (fun KF hKF => ?_)
          simp only [List.drop, List.take]
          repeat (first | go_big_quiet_skip | ((with_reducible refine onq_load (.tmp 1) ?_); refine wqr_box rfl _ (.tmp 1) rfl st_rule rfl y1 ?_) | go_big_quiet_step (fail) | quiet_step (fail))
          refine wpQuiet_nil ?_
          refine hKF _ ?_
          clear hKF KF
          refine wpTree_one (fun KO hKO => ?_)
          simp only [List.drop, List.take]
          go_wp2_with (first | (go_at_call 73; refine (get3 r w5.drew).mono ?_; rintro e w6 ⟨rfl, hb6⟩; have hb6 : Below w5.heap.size w5.drew w6 := hb6; have z6 : w5.heap.size ≤ w6.heap.size := hb6.size) | (go_at_call 45; refine (put_out r.next 2 w6 (by omega) (by omega) Hnf.out).mono ?_; rintro e w7 ⟨rfl, rfl⟩))
          refine anch_end (Th.Reach.of (by first | exact Below.refl _ _ | exact below_alloc _ (by first | omega | (simp; done) | (simp; omega)) _ | exact below_alloc2 _ (by first | omega | (simp; done) | (simp; omega)) _ _ | exact below_alloc2d _ (by simp) _ _ | exact bdrew _ _ | assumption | (exact Below.mono (by assumption) (by first | (simp; done) | (simp; omega) | omega | assumption)))) (hKO _ _ ?_)
          clear hKO KO
          refine wpTree_one (fun KO hKO => ?_)
          simp only [List.drop, List.take]
          go_wp2_with (first | (go_at_call 73; refine (get3 r w5.drew).mono ?_; rintro e w6 ⟨rfl, hb6⟩; have hb6 : Below w5.heap.size w5.drew w6 := hb6; have z6 : w5.heap.size ≤ w6.heap.size := hb6.size) | (go_at_call 45; refine (put_out r.next 2 w6 (by omega) (by omega) Hnf.out).mono ?_; rintro e w7 ⟨rfl, rfl⟩))
          refine anch_end (Th.Reach.of (by first | exact Below.refl _ _ | exact below_alloc _ (by first | omega | (simp; done) | (simp; omega)) _ | exact below_alloc2 _ (by first | omega | (simp; done) | (simp; omega)) _ _ | exact below_alloc2d _ (by simp) _ _ | exact bdrew _ _ | assumption | (exact Below.mono (by assumption) (by first | (simp; done) | (simp; omega) | omega | assumption)))) (hKO _ _ ?_)
          clear hKO KO
          refine wpTree_float (fun KF hKF => ?_)
          simp only [List.drop, List.take]
          repeat (first | go_big_quiet_skip | ((with_reducible refine onq_load (.tmp 1) ?_); refine wqr_box rfl _ (.tmp 1) rfl st_rule rfl y1 ?_) | go_big_quiet_step (fail) | quiet_step (fail))
          refine wpQuiet_nil ?_
          refine hKF _ ?_
          clear hKF KF
          refine wpTree_done ?_
          refine hKT _ _ ?_
          clear hKT KT
          have b57 : Below w5.heap.size w5 w6 := (bdrew1 w5).trans hb6
          have B7 := hb5.trans (b57.mono z5)
          go_wp2
          go_ret2
          exact ⟨fun hall => absurd (hall 3 (by omega)) Hf.out, fun _ => ⟨none, 0, 0, rfl, OwS.nil_ _ _ _, B7⟩⟩
    · have e4 : k = 4 := by omega
      subst e4
      go_wp2
      go_ret2
      exact ⟨fun _ => ⟨_, n, c, rfl, how.base_le (by omega), hbr⟩, fun ⟨j, hj, hn⟩ => absurd (hfit.out j hj) hn⟩
end Go.Proofs.Ytgapcmodhcdebaa

/-! ### RuleTake -/
namespace Go.Proofs.Ytgapcmodhcdebaa
open Go.RowKit Go.Th
set_option linter.unusedVariables false
theorem set0 (g : Nat) (r : Ru) (z : Int) (hz : 0 ≤ z ∧ z ≤ 4294967295) (w : World) (hb : Box w g 47 r.cs.toArray) :
    Calls Try.prog 68 #[.pointer (some ⟨g, 0, none⟩), .int .i64 z] w fun e w' => e = .returned (.tuple #[]) ∧ Box w' g 47 (Ru.cs { r with a := z }).toArray ∧ w.grownBy w' (some g) := by
  obtain ⟨hz0, hz1⟩ := hz
  obtain ⟨c0, c1, c2, c3⟩ := hb.rule
  have f0 := hb.frozen 0
  have hs := hb.setCell 0 (.int .u32 z)
  go_enter Try.func68, Try.ntmps68
  go_wp2
  go_end0
  exact ⟨rfl, hs.1, hs.2⟩
theorem set1 (g : Nat) (r : Ru) (z : Int) (w : World) (hb : Box w g 47 r.cs.toArray) :
    Calls Try.prog 70 #[.pointer (some ⟨g, 0, none⟩), .int .i64 z] w fun e w' => e = .returned (.tuple #[]) ∧ Box w' g 47 (Ru.cs { r with n := z }).toArray ∧ w.grownBy w' (some g) := by
  obtain ⟨c0, c1, c2, c3⟩ := hb.rule
  have f0 := hb.frozen 1
  have hs := hb.setCell 1 (.int .i64 z)
  go_enter Try.func70, Try.ntmps70
  go_wp2
  go_end0
  exact ⟨rfl, hs.1, hs.2⟩
theorem set2 (g : Nat) (r : Ru) (z : Int) (w : World) (hb : Box w g 47 r.cs.toArray) :
    Calls Try.prog 72 #[.pointer (some ⟨g, 0, none⟩), .int .i64 z] w fun e w' => e = .returned (.tuple #[]) ∧ Box w' g 47 (Ru.cs { r with act := z }).toArray ∧ w.grownBy w' (some g) := by
  obtain ⟨c0, c1, c2, c3⟩ := hb.rule
  have f0 := hb.frozen 2
  have hs := hb.setCell 2 (.int .i64 z)
  go_enter Try.func72, Try.ntmps72
  go_wp2
  go_end0
  exact ⟨rfl, hs.1, hs.2⟩
theorem set3 (g : Nat) (r : Ru) (z : Int) (w : World) (hb : Box w g 47 r.cs.toArray) :
    Calls Try.prog 74 #[.pointer (some ⟨g, 0, none⟩), .int .i64 z] w fun e w' => e = .returned (.tuple #[]) ∧ Box w' g 47 (Ru.cs { r with next := z }).toArray ∧ w.grownBy w' (some g) := by
  obtain ⟨c0, c1, c2, c3⟩ := hb.rule
  have f0 := hb.frozen 3
  have hs := hb.setCell 3 (.int .i64 z)
  go_enter Try.func74, Try.ntmps74
  go_wp2
  go_end0
  exact ⟨rfl, hs.1, hs.2⟩
/-- The rule of bytes. -/
def rtk (bs : List UInt8) : Ru := ⟨val (bs.take 4), val ((bs.drop 4).take 1), val ((bs.drop 5).take 1), val ((bs.drop 6).take 2)⟩
def off : Nat → Nat
  | 0 => 0
  | 1 => 4
  | 2 => 5
  | 3 => 6
  | _ => 8
def stage (bs : List UInt8) : Nat → Ru
  | 0 => ⟨0, 0, 0, 0⟩
  | 1 => ⟨val (bs.take 4), 0, 0, 0⟩
  | 2 => ⟨val (bs.take 4), val ((bs.drop 4).take 1), 0, 0⟩
  | 3 => ⟨val (bs.take 4), val ((bs.drop 4).take 1), val ((bs.drop 5).take 1), 0⟩
  | _ => rtk bs
def TakRel (bs : List UInt8) (N B b0 g gt : Nat) (w : World) (b i : Value) (wr : World) : Prop :=
  ∃ (k : Nat) (A : Option Addr) (n c : Nat), k ≤ 4 ∧ n + off k = N ∧ b = .slice A n c ∧ i = .int .i64 k ∧ RdS bv wr B A n c (bs.drop (off k)) ∧ OwM fcs 3 wr (w.heap.size + 1) 77 (some ⟨gt, 0, none⟩) 4 4 [0, 1, 2, 3] ∧ Box wr g 47 (stage bs k).cs.toArray ∧ Below b0 w wr
def RetRu (r : Ru) (er : Int) (w : World) (e : Ending) (w' : World) : Prop :=
  e = .returned (.tuple #[.agg #[.int .u32 r.a, .int .i64 r.n, .int .i64 r.act, .int .i64 r.next], .int .i64 er]) ∧ Below w.heap.size w w'
set_option maxHeartbeats 4000000 in
theorem ruleTake_short (A : Option Addr) (n c : Nat) (w : World) (h : n < 8) : Calls Try.prog 78 #[.slice A n c] w (RetRu ⟨0, 0, 0, 0⟩ 2 w) := by
  have hi : decide ((n : Int) < 8) = true := decide_eq_true (by omega)
  go_enter Try.func78, Try.ntmps78
  go_wp2_with ((with_reducible refine on_store_at (.tmp 2) ?_); refine wb_store rfl _ (.tmp 2) _ rfl st_rule rfl rfl (Box.new w _ _) rfl rfl (by simp [Value.oneCell']) ?_; intro w1 hbx1 hg1)
  have B1 : Below w.heap.size w w1 := (below_alloc w (Nat.le_refl _) _).trans (below_of_grown hg1 (fun j e => by injection e with e; omega) (by simp))
  have hld := run_loadVar_row (P := Try.prog) w1 w.heap.size 47 47 _ (0, 0) _ hbx1.at_ Try.underlying47 rfl st_rule.size
  refine bodyPost_ret (v := .tuple #[.agg #[.int .u32 0, .int .i64 0, .int .i64 0, .int .i64 0], .int .i64 2]) ?_ rfl ⟨rfl, B1⟩
  rw [results_cell_tmp rfl]
  simp [asAddr, hld]
set_option maxHeartbeats 4000000 in
theorem ruleTake (A : Option Addr) (N c : Nat) (w : World) (bs : List UInt8) (hr : RdS bv w w.heap.size A N c bs) (h8 : 8 ≤ N) (hm : N ≤ 1000000) : Calls Try.prog 78 #[.slice A N c] w (RetRu (rtk bs) 0 w) := by
  have hi : decide ((N : Int) < 8) = false := decide_eq_false (by omega)
  have hlen := hr.len
  go_enter Try.func78, Try.ntmps78
  go_wp2_with fail
  have bx := Box.new w (Ru.cs ⟨0, 0, 0, 0⟩).toArray 47
  refine (fields_any _).mono ?_
  rintro e w2 ⟨At, rfl, how2, hb2⟩
  have hk1 := heap_size_alloc w (.cells (Ru.cs ⟨0, 0, 0, 0⟩).toArray 47)
  have hb2 : Below (w.alloc (.cells (Ru.cs ⟨0, 0, 0, 0⟩).toArray 47)).heap.size (w.alloc (.cells (Ru.cs ⟨0, 0, 0, 0⟩).toArray 47)) w2 := hb2
  have bx2 := bx.step hb2
  have hr2 := (hr.step (below_alloc w (Nat.le_refl _) (.cells (Ru.cs ⟨0, 0, 0, 0⟩).toArray 47))).step hb2
  have B2 : Below w.heap.size w w2 := (below_alloc w (Nat.le_refl _) _).trans (hb2.mono (by omega))
  obtain ⟨gt, rfl, hgt1, hgt2⟩ := how2.at0 (by omega)
  have how2 := how2.base_le (base' := w.heap.size + 1) (by have : (w.alloc (.cells (Ru.cs ⟨0, 0, 0, 0⟩).toArray 47)).heap.size = w.heap.size + 1 := hk1; exact Nat.le_of_eq this.symm)
  clear hb2 bx hk1 hr
  go_wp2_with fail
  go_loopw [0, 5, 6, 7, 14] (fun b _ _ _ i wr => TakRel bs N w.heap.size w.heap.size w.heap.size gt w b i wr) (fun _ _ _ _ i _ => 4 - (intOf i).toNat)
  case atStart => exact ⟨0, A, N, c, by omega, rfl, rfl, rfl, hr2, how2, bx2, B2⟩
  case round =>
    obtain ⟨k, A, n, c, hk, hno, rfl, rfl, hrd, howt, hbx, hbr⟩ := hrel
    clear how2 bx2 B2 hr2
    have zr := hbr.size
    by_cases hlt : k < 4
    · go_upto_region 6 with (first
        | ((with_reducible refine on_index (.tmp 12) ?_); refine wm_at fcs_length rfl _ _ _ rfl el_field rfl rfl (by omega) (by omega) howt.rd ?_; intro b1 j1 x1 hx1 hbb1 hc1; have hxk : x1 = k := (by have e := hx1.out; rw [Int.toNat_natCast] at e; have : k = 0 ∨ k = 1 ∨ k = 2 ∨ k = 3 := (by omega); rcases this with h | h | h | h <;> (rw [h] at e; injection e with e; rw [h]; exact e.symm)); subst hxk)
        | ((with_reducible refine on_load (.tmp 16) ?_); refine wm_load rfl _ (.tmp 16) rfl st_field rfl (fcs_length _) hc1.out ?_)
        | ((with_reducible refine on_store_at (.tmp 5) ?_); refine wb_store rfl _ (.tmp 5) _ rfl st_field rfl rfl (Box.new _ _ _) rfl (by simp [fcs_length]) (by rw [Array.all_eq_true_iff_forall_mem]; intro u hu; exact fcs_one _ u (by simpa using hu)) ?_; intro w5 hbx5 hg5))
      have hb5 : Below w.heap.size w w5 := (hbr.alloc zr _).trans (below_of_grown hg5 (fun j e => by injection e with e; omega) (by have := zr; simp; omega))
      have z5 := hb5.size
      have howt := (howt.alloc (.cells #[.int .i64 0, .nilFunc, .nilFunc] 77)).grown hg5 (by
        intro g hg
        rcases howt.ow.form with ⟨e, _⟩ | ⟨g', e, _, hl⟩
        · cases e
        · injection e with e; injection e with e; injection hg with hg; injection hg with hg; subst e; subst hg
          intro e2; injection e2 with e2; omega)
      have hgl := hbx.lt
      have hbx := (hbx.alloc (.cells #[.int .i64 0, .nilFunc, .nilFunc] 77)).grown hg5 (fun e => by injection e with e; omega)
      have hrd := (hrd.alloc (.cells #[.int .i64 0, .nilFunc, .nilFunc] 77)).grown hg5 (fun g e => by injection e with e; omega)
      have e0 : w5.cell? ⟨wr.heap.size, 0, none⟩ = (fcs x1)[0]? := by simpa using hbx5.cell 0
      have e2 : w5.cell? ⟨wr.heap.size, 2, none⟩ = (fcs x1)[2]? := by simpa using hbx5.cell 2
      have hgt5 : gt ≠ w.heap.size := by
        rcases howt.ow.form with ⟨e, _⟩ | ⟨g', e, hb, hl⟩
        · cases e
        · injection e with e; injection e with e; omega
      have Hgt := Lib.hid hgt5
      have hne0 : w.heap.size ≠ wr.heap.size := by omega
      have Hne0 := Lib.hid hne0
      clear hbr hg5 hc1 hx1 hgt5 hne0
      have hk4 : x1 = 0 ∨ x1 = 1 ∨ x1 = 2 ∨ x1 = 3 := by omega
      rcases hk4 with rfl | rfl | rfl | rfl
      · have f0 : w5.cell? ⟨wr.heap.size, 0, none⟩ = some (.int .i64 4) := e0
        have f2 : w5.cell? ⟨wr.heap.size, 2, none⟩ = some (.func (.func 68) #[] #[]) := e2
        clear e0 e2
        have hn0 : n + 0 = N := hno
        have hrd : RdS bv w5 w.heap.size A n c (bs.drop 0) := hrd
        go_wp2_with fail
        refine (take_yes A n c 4 w5 (by omega) (by omega) (by omega) (by omega) _ _ hrd).mono ?_
        rintro e w6 ⟨rfl, rfl⟩
        obtain ⟨vz, hvz⟩ : ∃ z, val ((bs.drop 0).take 4) = z := ⟨_, rfl⟩
        have hlt4 : vz < 4294967296 := by
          have := val_lt ((bs.drop 0).take 4)
          rw [hvz] at this
          have hl : ((bs.drop 0).take 4).length = 4 := by rw [List.length_take, List.length_drop]; omega
          rw [hl] at this
          omega
        rw [hvz]
        go_wp2_with fail
        refine (set0 w.heap.size _ (vz : Int) ⟨by omega, by omega⟩ w5 hbx).mono ?_
        rintro e w8 ⟨rfl, hbx8, hg8⟩
        have f08 : w8.cell? ⟨wr.heap.size, 0, none⟩ = some (.int .i64 4) := ((hbx5.grown hg8 (fun e => by injection e with e; exact Hne0.out e)).cell 0).trans (by simp [fcs])
        have hrd8 := hrd.grown hg8 (fun g e => by injection e with e; omega)
        have howt8 := howt.grown hg8 (fun g hg e => by
          simp only [Option.some.injEq, Addr.mk.injEq, and_true] at hg e
          exact Hgt.out (by omega))
        have hb8 := hb5.trans (below_of_grown hg8 (fun j e => by injection e with e; omega) z5)
        have hst : ({ stage bs 0 with a := (vz : Int) } : Ru) = stage bs 1 := by
          rw [← hvz]; rfl
        rw [hst] at hbx8
        have hdd : (bs.drop 0).drop 4 = bs.drop 4 := by rw [List.drop_drop]
        clear howt hbx f0 f2
        go_wp2_with ((with_reducible refine on_slice (.tmp 33) ?_); refine wl_cut_l rfl _ (.tmp 33) el_u8 rfl hrd8 _ rfl rfl 4 (by omega) ?_; intro A9 r9; rw [hdd] at r9)
        go_roundw
        case rel => exact ⟨1, A9, _, _, by omega, by show _ + 4 = N; omega, rfl, by first | rfl | go_num, r9, howt8, hbx8, hb8⟩
        case measure => simp [intOf]
      · have f0 : w5.cell? ⟨wr.heap.size, 0, none⟩ = some (.int .i64 1) := e0
        have f2 : w5.cell? ⟨wr.heap.size, 2, none⟩ = some (.func (.func 70) #[] #[]) := e2
        clear e0 e2
        have hn1 : n + 4 = N := hno
        have hrd : RdS bv w5 w.heap.size A n c (bs.drop 4) := hrd
        go_wp2_with fail
        refine (take_yes A n c 1 w5 (by omega) (by omega) (by omega) (by omega) _ _ hrd).mono ?_
        rintro e w6 ⟨rfl, rfl⟩
        obtain ⟨vz, hvz⟩ : ∃ z, val ((bs.drop 4).take 1) = z := ⟨_, rfl⟩
        have hlt4 : vz < 4294967296 := by
          have := val_lt ((bs.drop 4).take 1)
          rw [hvz] at this
          have hl : ((bs.drop 4).take 1).length = 1 := by rw [List.length_take, List.length_drop]; omega
          rw [hl] at this
          omega
        rw [hvz]
        go_wp2_with fail
        refine (set1 w.heap.size _ (vz : Int) w5 hbx).mono ?_
        rintro e w8 ⟨rfl, hbx8, hg8⟩
        have f08 : w8.cell? ⟨wr.heap.size, 0, none⟩ = some (.int .i64 1) := ((hbx5.grown hg8 (fun e => by injection e with e; exact Hne0.out e)).cell 0).trans (by simp [fcs])
        have hrd8 := hrd.grown hg8 (fun g e => by injection e with e; omega)
        have howt8 := howt.grown hg8 (fun g hg e => by
          simp only [Option.some.injEq, Addr.mk.injEq, and_true] at hg e
          exact Hgt.out (by omega))
        have hb8 := hb5.trans (below_of_grown hg8 (fun j e => by injection e with e; omega) z5)
        have hst : ({ stage bs 1 with n := (vz : Int) } : Ru) = stage bs 2 := by
          rw [← hvz]; rfl
        rw [hst] at hbx8
        have hdd : (bs.drop 4).drop 1 = bs.drop 5 := by rw [List.drop_drop]
        clear howt hbx f0 f2
        go_wp2_with ((with_reducible refine on_slice (.tmp 33) ?_); refine wl_cut_l rfl _ (.tmp 33) el_u8 rfl hrd8 _ rfl rfl 1 (by omega) ?_; intro A9 r9; rw [hdd] at r9)
        go_roundw
        case rel => exact ⟨2, A9, _, _, by omega, by show _ + 5 = N; omega, rfl, by first | rfl | go_num, r9, howt8, hbx8, hb8⟩
        case measure => simp [intOf]
      · have f0 : w5.cell? ⟨wr.heap.size, 0, none⟩ = some (.int .i64 1) := e0
        have f2 : w5.cell? ⟨wr.heap.size, 2, none⟩ = some (.func (.func 72) #[] #[]) := e2
        clear e0 e2
        have hn2 : n + 5 = N := hno
        have hrd : RdS bv w5 w.heap.size A n c (bs.drop 5) := hrd
        go_wp2_with fail
        refine (take_yes A n c 1 w5 (by omega) (by omega) (by omega) (by omega) _ _ hrd).mono ?_
        rintro e w6 ⟨rfl, rfl⟩
        obtain ⟨vz, hvz⟩ : ∃ z, val ((bs.drop 5).take 1) = z := ⟨_, rfl⟩
        have hlt4 : vz < 4294967296 := by
          have := val_lt ((bs.drop 5).take 1)
          rw [hvz] at this
          have hl : ((bs.drop 5).take 1).length = 1 := by rw [List.length_take, List.length_drop]; omega
          rw [hl] at this
          omega
        rw [hvz]
        go_wp2_with fail
        refine (set2 w.heap.size _ (vz : Int) w5 hbx).mono ?_
        rintro e w8 ⟨rfl, hbx8, hg8⟩
        have f08 : w8.cell? ⟨wr.heap.size, 0, none⟩ = some (.int .i64 1) := ((hbx5.grown hg8 (fun e => by injection e with e; exact Hne0.out e)).cell 0).trans (by simp [fcs])
        have hrd8 := hrd.grown hg8 (fun g e => by injection e with e; omega)
        have howt8 := howt.grown hg8 (fun g hg e => by
          simp only [Option.some.injEq, Addr.mk.injEq, and_true] at hg e
          exact Hgt.out (by omega))
        have hb8 := hb5.trans (below_of_grown hg8 (fun j e => by injection e with e; omega) z5)
        have hst : ({ stage bs 2 with act := (vz : Int) } : Ru) = stage bs 3 := by
          rw [← hvz]; rfl
        rw [hst] at hbx8
        have hdd : (bs.drop 5).drop 1 = bs.drop 6 := by rw [List.drop_drop]
        clear howt hbx f0 f2
        go_wp2_with ((with_reducible refine on_slice (.tmp 33) ?_); refine wl_cut_l rfl _ (.tmp 33) el_u8 rfl hrd8 _ rfl rfl 1 (by omega) ?_; intro A9 r9; rw [hdd] at r9)
        go_roundw
        case rel => exact ⟨3, A9, _, _, by omega, by show _ + 6 = N; omega, rfl, by first | rfl | go_num, r9, howt8, hbx8, hb8⟩
        case measure => simp [intOf]
      · have f0 : w5.cell? ⟨wr.heap.size, 0, none⟩ = some (.int .i64 2) := e0
        have f2 : w5.cell? ⟨wr.heap.size, 2, none⟩ = some (.func (.func 74) #[] #[]) := e2
        clear e0 e2
        have hn3 : n + 6 = N := hno
        have hrd : RdS bv w5 w.heap.size A n c (bs.drop 6) := hrd
        go_wp2_with fail
        refine (take_yes A n c 2 w5 (by omega) (by omega) (by omega) (by omega) _ _ hrd).mono ?_
        rintro e w6 ⟨rfl, rfl⟩
        obtain ⟨vz, hvz⟩ : ∃ z, val ((bs.drop 6).take 2) = z := ⟨_, rfl⟩
        have hlt4 : vz < 4294967296 := by
          have := val_lt ((bs.drop 6).take 2)
          rw [hvz] at this
          have hl : ((bs.drop 6).take 2).length = 2 := by rw [List.length_take, List.length_drop]; omega
          rw [hl] at this
          omega
        rw [hvz]
        go_wp2_with fail
        refine (set3 w.heap.size _ (vz : Int) w5 hbx).mono ?_
        rintro e w8 ⟨rfl, hbx8, hg8⟩
        have f08 : w8.cell? ⟨wr.heap.size, 0, none⟩ = some (.int .i64 2) := ((hbx5.grown hg8 (fun e => by injection e with e; exact Hne0.out e)).cell 0).trans (by simp [fcs])
        have hrd8 := hrd.grown hg8 (fun g e => by injection e with e; omega)
        have howt8 := howt.grown hg8 (fun g hg e => by
          simp only [Option.some.injEq, Addr.mk.injEq, and_true] at hg e
          exact Hgt.out (by omega))
        have hb8 := hb5.trans (below_of_grown hg8 (fun j e => by injection e with e; omega) z5)
        have hst : ({ stage bs 3 with next := (vz : Int) } : Ru) = stage bs 4 := by
          rw [← hvz]; rfl
        rw [hst] at hbx8
        have hdd : (bs.drop 6).drop 2 = bs.drop 8 := by rw [List.drop_drop]
        clear howt hbx f0 f2
        go_wp2_with ((with_reducible refine on_slice (.tmp 33) ?_); refine wl_cut_l rfl _ (.tmp 33) el_u8 rfl hrd8 _ rfl rfl 2 (by omega) ?_; intro A9 r9; rw [hdd] at r9)
        go_roundw
        case rel => exact ⟨4, A9, _, _, by omega, by show _ + 8 = N; omega, rfl, by first | rfl | go_num, r9, howt8, hbx8, hb8⟩
        case measure => simp [intOf]
    · have e4 : k = 4 := by omega
      subst e4
      have hbx : Box wr w.heap.size 47 (rtk bs).cs.toArray := hbx
      go_wp2_with (first
        | ((with_reducible refine on_load (.tmp 2) ?_); refine wr_box rfl _ (.tmp 2) rfl st_rule rfl hbx ?_)
        | ((with_reducible refine on_store_at (.tmp 2) ?_); refine wr_store (s := rtk bs) rfl _ (.tmp 2) _ rfl st_rule rfl rfl hbx ?_; intro w9 hbx9 hg9))
      have hb9 := hbr.trans (below_of_grown hg9 (fun j e => by injection e with e; omega) zr)
      have hld := run_loadVar_row (P := Try.prog) w9 w.heap.size 47 47 _ (0, 0) _ hbx9.at_ Try.underlying47 rfl st_rule.size
      refine bodyPost_ret (v := .tuple #[.agg (rtk bs).cs.toArray, .int .i64 0]) ?_ rfl ⟨rfl, hb9⟩
      rw [results_cell_tmp rfl]
      simp [asAddr, hld]
end Go.Proofs.Ytgapcmodhcdebaa

/-! ### RuleRef -/
namespace Go.Proofs.Ytgapcmodhcdebaa
open Go.RowKit Go.Th
set_option linter.unusedVariables false
def RPutRel (r : Ru) (w : World) (g5 g6 : Nat) (all i : Value) (wr : World) : Prop :=
  ∃ (k m c ga : Nat), k ≤ 4 ∧ all = .slice (some ⟨ga, 0, none⟩) m c ∧ i = .int .i64 k ∧ Hid (ga ≠ g5 ∧ ga ≠ g6) ∧ OwS bv wr w.heap.size 5 (some ⟨ga, 0, none⟩) m c (pre r k) ∧ m ≤ 8 ∧ Hid (∀ j, j < k → Fit1 r j) ∧ Box wr g5 94 #[.int .i64 r.a, .int .i64 r.n, .int .i64 r.act, .int .i64 r.next] ∧ Box wr g6 94 #[.int .i64 4, .int .i64 1, .int .i64 1, .int .i64 2] ∧ Below w.heap.size w wr
theorem ends_at (r : Ru) (k : Nat) (h : ∀ j, j < k → Fit1 r j) (hf : Fit1 r k) : ∀ j, j < k + 1 → Fit1 r j := fun j hj => by
  rcases Nat.lt_or_ge j k with h1 | h1
  · exact h j h1
  · have : j = k := by omega
    subst this
    exact hf
set_option maxRecDepth 100000 in
set_option maxHeartbeats 4000000 in
theorem rrulePut (r : Ru) (hr : r.Ok) (w : World) : Calls Try.prog 52 #[.agg #[.int .u32 r.a, .int .i64 r.n, .int .i64 r.act, .int .i64 r.next]] w fun e w' =>
    ((∀ j, j < 4 → Fit1 r j) → RetBytes (pre r 4) 0 w e w') ∧ ((∃ j, j < 4 ∧ ¬ Fit1 r j) → RetBytes [] 1 w e w') := by
  have ha0 := hr.a.1
  have ha1 := hr.a.2
  have Hr := Lib.hid hr
  clear hr
  go_enter Try.func52, Try.ntmps52
  go_wp2
  go_loopw [4, 7, 8, 9] (fun all i _ _ wr => RPutRel r w (w.heap.size + 1 + 1) (w.heap.size + 1 + 1 + 1) all i wr) (fun _ i _ _ _ => 4 - (intOf i).toNat)
  case atStart =>
    have o1 : OwS bv ((w.alloc (.cells #[.int .u32 r.a, .int .i64 r.n, .int .i64 r.act, .int .i64 r.next] 47)).alloc (.cells #[] 5)) w.heap.size 5 (some ⟨w.heap.size + 1, 0, none⟩) 0 0 (pre r 0) := OwS.lit' _ _ 0 (w.heap.size + 1) (by simp) (by simp) (by simp [maxLen]) rfl rfl
    have b5 := (Box.new ((w.alloc (.cells #[.int .u32 r.a, .int .i64 r.n, .int .i64 r.act, .int .i64 r.next] 47)).alloc (.cells #[] 5)) #[.int .i64 r.a, .int .i64 r.n, .int .i64 r.act, .int .i64 r.next] 94).alloc (.cells #[.int .i64 4, .int .i64 1, .int .i64 1, .int .i64 2] 94)
    have b6 := Box.new (((w.alloc (.cells #[.int .u32 r.a, .int .i64 r.n, .int .i64 r.act, .int .i64 r.next] 47)).alloc (.cells #[] 5)).alloc (.cells #[.int .i64 r.a, .int .i64 r.n, .int .i64 r.act, .int .i64 r.next] 94)) #[.int .i64 4, .int .i64 1, .int .i64 1, .int .i64 2] 94
    rw [heap_size_alloc, heap_size_alloc] at b5
    rw [heap_size_alloc, heap_size_alloc, heap_size_alloc] at b6
    exact ⟨0, 0, 0, _, by omega, rfl, rfl, Lib.hid (by omega), (o1.alloc _).alloc _, by omega, Lib.hid (fun j hj => by omega), b5, b6, (by repeat (first | exact Below.refl _ _ | refine Below.drew ?_ | refine Below.alloc ?_ (by first | (simp; done) | (simp; omega)) _ | refine Below.setCell ?_ (by first | (simp; done) | (simp; omega)) _ | assumption))⟩
  case round =>
    obtain ⟨k, m, c, ga, hk, rfl, rfl, hga, how, hm8, hfit, b5, b6, hb⟩ := hrel
    have z := hb.size
    by_cases hlt : k < 4
    · rcases (show k = 0 ∨ k = 1 ∨ k = 2 ∨ k = 3 by omega) with rfl | rfl | rfl | rfl
      · have y5 : ∀ q : Step wr.heap.size wr.drew, q.w.cell? ⟨w.heap.size + 1 + 1, 0, none⟩ = some (.int .i64 r.a) := fun q => (b5.drew.step q.h).cell 0
        have y6 : ∀ q : Step wr.heap.size wr.drew, q.w.cell? ⟨w.heap.size + 1 + 1 + 1, 0, none⟩ = some (.int .i64 4) := fun q => (b6.drew.step q.h).cell 0
        have hbd := Lib.hid (show -9223372036854775808 ≤ r.a ∧ r.a ≤ 9223372036854775807 by omega)
        by_cases hf : 0 ≤ r.a ∧ r.a < 4294967296
        · have Hf : Hid (Fit1 r 0) := Lib.hid (show 0 ≤ r.a ∧ r.a < 256 ^ 4 from ⟨hf.1, by have := hf.2; omega⟩)
          have Hf2 : Hid (Fits 4 r.a) := Lib.hid ⟨hf.1, by have := hf.2; have := hf.1; omega⟩
          clear hf
          go_upto_region 7 with fail
          refine wp_region_tree (.float 0 6 (.one 6 (.float 7 5 .done))) (Th.Reach wr.heap.size) (Th.Reach.trans _) (Th.Reach.refl _) (by kernel_rfl) (by kernel_rfl) (fun KT hKT => ?_)
          refine wpTree_float (fun KF hKF => ?_)
          simp only [List.drop, List.take]
          repeat (first | go_big_quiet_skip | go_big_quiet_step (fail) | quiet_step (fail))
          refine wpQuiet_nil ?_
          refine hKF _ ?_
          clear hKF KF
          refine wpTree_one (fun KO hKO => ?_)
          simp only [List.drop, List.take]
          go_wp2_with (first | (go_at_call 49; refine (rput_fit r.a 4 _ (by omega) (by omega) (by have := hbd.out; omega) Hf2.out).mono ?_; rintro e w7 ⟨A7, c7, rfl, how7, hb7⟩))
          refine anch_end (Th.Reach.of (by first | exact Below.refl _ _ | exact below_alloc _ (by first | omega | (simp; done) | (simp; omega)) _ | exact below_alloc2 _ (by first | omega | (simp; done) | (simp; omega)) _ _ | exact below_alloc2d _ (by simp) _ _ | exact bdrew _ _ | assumption | (exact Below.mono (by assumption) (by first | (simp; done) | (simp; omega) | omega | assumption)))) (hKO _ _ ?_)
          clear hKO KO
          refine wpTree_float (fun KF hKF => ?_)
          simp only [List.drop, List.take]
          repeat (first | go_big_quiet_skip | go_big_quiet_step (fail) | quiet_step (fail))
          refine wpQuiet_nil ?_
          refine hKF _ ?_
          clear hKF KF
          refine wpTree_done ?_
          refine hKT _ _ ?_
          clear hKT KT
          have B7 : Below wr.heap.size wr w7 := (bdrew1 wr).trans hb7
          have z7 := B7.size
          go_wp2_with ((with_reducible refine on_append (.tmp 39) (.tmp 40) ?_); refine wl_appendA rfl (.tmp 39) (.tmp 40) _ rfl el_u8 (f := bv) (fun _ => rfl) rfl (how.below B7) rfl how7.rd (by omega) (by omega) (by omega) ?_; intro A8 c8 w8 how8 hg8 hb8 hA8)
          have l5 := (b5.step B7).lt
          have l6 := (b6.step B7).lt
          obtain ⟨ga', rfl, hga'⟩ : ∃ ga', A8 = some ⟨ga', 0, none⟩ ∧ (ga' ≠ w.heap.size + 1 + 1 ∧ ga' ≠ w.heap.size + 1 + 1 + 1) := by
            rcases hA8 with e | e
            · exact ⟨_, e, hga.out⟩
            · exact ⟨_, e, by omega, by omega⟩
          have Hga' := Lib.hid hga'
          clear hga' hA8
          go_roundw
          case rel => exact ⟨1, m + 4, c8, ga', by omega, rfl, by first | rfl | go_num, Hga', how8, (by have := pre_le r 1 (by omega); have := how8.len; have e : pre r 0 ++ be (r.a).toNat 4 = pre r 1 := rfl; rw [e] at this; omega), Lib.hid (ends_at r 0 hfit.out Hf.out), (b5.step B7).grown hg8 (fun e => by simp only [rowOf, Option.some.injEq] at e; exact hga.out.1 e), (b6.step B7).grown hg8 (fun e => by simp only [rowOf, Option.some.injEq] at e; exact hga.out.2 e), (hb.trans (B7.mono z)).trans hb8⟩
          case measure => simp [intOf]
        · have Hf : Hid (¬ Fit1 r 0) := Lib.hid (fun h => hf ⟨h.1, by have : r.a < 256 ^ 4 := h.2; omega⟩)
          have Hf2 : Hid (¬ Fits 4 r.a) := Lib.hid (fun h => hf ⟨h.1, by have := h.2; have := h.1; omega⟩)
          clear hf
          go_upto_region 7 with fail
          refine wp_region_tree (.float 0 6 (.one 6 (.float 7 5 .done))) (Th.Reach wr.heap.size) (Th.Reach.trans _) (Th.Reach.refl _) (by kernel_rfl) (by kernel_rfl) (fun KT hKT => ?_)
          refine wpTree_float (fun KF hKF => ?_)
          simp only [List.drop, List.take]
          repeat (first | go_big_quiet_skip | go_big_quiet_step (fail) | quiet_step (fail))
          refine wpQuiet_nil ?_
          refine hKF _ ?_
          clear hKF KF
          refine wpTree_one (fun KO hKO => ?_)
          simp only [List.drop, List.take]
          go_wp2_with (first | (go_at_call 49; refine (rput_misfit r.a 4 _ (by omega) (by omega) hbd.out Hf2.out).mono ?_; rintro e w7 ⟨rfl, hb7⟩))
          refine anch_end (Th.Reach.of (by first | exact Below.refl _ _ | exact below_alloc _ (by first | omega | (simp; done) | (simp; omega)) _ | exact below_alloc2 _ (by first | omega | (simp; done) | (simp; omega)) _ _ | exact below_alloc2d _ (by simp) _ _ | exact bdrew _ _ | assumption | (exact Below.mono (by assumption) (by first | (simp; done) | (simp; omega) | omega | assumption)))) (hKO _ _ ?_)
          clear hKO KO
          refine wpTree_float (fun KF hKF => ?_)
          simp only [List.drop, List.take]
          repeat (first | go_big_quiet_skip | go_big_quiet_step (fail) | quiet_step (fail))
          refine wpQuiet_nil ?_
          refine hKF _ ?_
          clear hKF KF
          refine wpTree_done ?_
          refine hKT _ _ ?_
          clear hKT KT
          have B7 : Below wr.heap.size wr w7 := (bdrew1 wr).trans hb7
          go_wp2
          go_ret2
          exact ⟨fun h => absurd (h 0 (by omega)) Hf.out, fun _ => ⟨none, 0, 0, rfl, OwS.nil_ _ _ _, hb.trans (B7.mono z)⟩⟩
      · have y5 : ∀ q : Step wr.heap.size wr.drew, q.w.cell? ⟨w.heap.size + 1 + 1, 1, none⟩ = some (.int .i64 r.n) := fun q => (b5.drew.step q.h).cell 1
        have y6 : ∀ q : Step wr.heap.size wr.drew, q.w.cell? ⟨w.heap.size + 1 + 1 + 1, 1, none⟩ = some (.int .i64 1) := fun q => (b6.drew.step q.h).cell 1
        have hbd := Lib.hid (Hr.out.n)
        by_cases hf : 0 ≤ r.n ∧ r.n < 256
        · have Hf : Hid (Fit1 r 1) := Lib.hid (show 0 ≤ r.n ∧ r.n < 256 ^ 1 from ⟨hf.1, by have := hf.2; omega⟩)
          have Hf2 : Hid (Fits 1 r.n) := Lib.hid ⟨hf.1, by have := hf.2; have := hf.1; omega⟩
          clear hf
          go_upto_region 7 with fail
          refine wp_region_tree (.float 0 6 (.one 6 (.float 7 5 .done))) (Th.Reach wr.heap.size) (Th.Reach.trans _) (Th.Reach.refl _) (by kernel_rfl) (by kernel_rfl) (fun KT hKT => ?_)
          refine wpTree_float (fun KF hKF => ?_)
          simp only [List.drop, List.take]
          repeat (first | go_big_quiet_skip | go_big_quiet_step (fail) | quiet_step (fail))
          refine wpQuiet_nil ?_
          refine hKF _ ?_
          clear hKF KF
          refine wpTree_one (fun KO hKO => ?_)
          simp only [List.drop, List.take]
          go_wp2_with (first | (go_at_call 49; refine (rput_fit r.n 1 _ (by omega) (by omega) (by have := hbd.out; omega) Hf2.out).mono ?_; rintro e w7 ⟨A7, c7, rfl, how7, hb7⟩))
          refine anch_end (Th.Reach.of (by first | exact Below.refl _ _ | exact below_alloc _ (by first | omega | (simp; done) | (simp; omega)) _ | exact below_alloc2 _ (by first | omega | (simp; done) | (simp; omega)) _ _ | exact below_alloc2d _ (by simp) _ _ | exact bdrew _ _ | assumption | (exact Below.mono (by assumption) (by first | (simp; done) | (simp; omega) | omega | assumption)))) (hKO _ _ ?_)
          clear hKO KO
          refine wpTree_float (fun KF hKF => ?_)
          simp only [List.drop, List.take]
          repeat (first | go_big_quiet_skip | go_big_quiet_step (fail) | quiet_step (fail))
          refine wpQuiet_nil ?_
          refine hKF _ ?_
          clear hKF KF
          refine wpTree_done ?_
          refine hKT _ _ ?_
          clear hKT KT
          have B7 : Below wr.heap.size wr w7 := (bdrew1 wr).trans hb7
          have z7 := B7.size
          go_wp2_with ((with_reducible refine on_append (.tmp 39) (.tmp 40) ?_); refine wl_appendA rfl (.tmp 39) (.tmp 40) _ rfl el_u8 (f := bv) (fun _ => rfl) rfl (how.below B7) rfl how7.rd (by omega) (by omega) (by omega) ?_; intro A8 c8 w8 how8 hg8 hb8 hA8)
          have l5 := (b5.step B7).lt
          have l6 := (b6.step B7).lt
          obtain ⟨ga', rfl, hga'⟩ : ∃ ga', A8 = some ⟨ga', 0, none⟩ ∧ (ga' ≠ w.heap.size + 1 + 1 ∧ ga' ≠ w.heap.size + 1 + 1 + 1) := by
            rcases hA8 with e | e
            · exact ⟨_, e, hga.out⟩
            · exact ⟨_, e, by omega, by omega⟩
          have Hga' := Lib.hid hga'
          clear hga' hA8
          go_roundw
          case rel => exact ⟨2, m + 1, c8, ga', by omega, rfl, by first | rfl | go_num, Hga', how8, (by have := pre_le r 2 (by omega); have := how8.len; have e : pre r 1 ++ be (r.n).toNat 1 = pre r 2 := rfl; rw [e] at this; omega), Lib.hid (ends_at r 1 hfit.out Hf.out), (b5.step B7).grown hg8 (fun e => by simp only [rowOf, Option.some.injEq] at e; exact hga.out.1 e), (b6.step B7).grown hg8 (fun e => by simp only [rowOf, Option.some.injEq] at e; exact hga.out.2 e), (hb.trans (B7.mono z)).trans hb8⟩
          case measure => simp [intOf]
        · have Hf : Hid (¬ Fit1 r 1) := Lib.hid (fun h => hf ⟨h.1, by have : r.n < 256 ^ 1 := h.2; omega⟩)
          have Hf2 : Hid (¬ Fits 1 r.n) := Lib.hid (fun h => hf ⟨h.1, by have := h.2; have := h.1; omega⟩)
          clear hf
          go_upto_region 7 with fail
          refine wp_region_tree (.float 0 6 (.one 6 (.float 7 5 .done))) (Th.Reach wr.heap.size) (Th.Reach.trans _) (Th.Reach.refl _) (by kernel_rfl) (by kernel_rfl) (fun KT hKT => ?_)
          refine wpTree_float (fun KF hKF => ?_)
          simp only [List.drop, List.take]
          repeat (first | go_big_quiet_skip | go_big_quiet_step (fail) | quiet_step (fail))
          refine wpQuiet_nil ?_
          refine hKF _ ?_
          clear hKF KF
          refine wpTree_one (fun KO hKO => ?_)
          simp only [List.drop, List.take]
          go_wp2_with (first | (go_at_call 49; refine (rput_misfit r.n 1 _ (by omega) (by omega) hbd.out Hf2.out).mono ?_; rintro e w7 ⟨rfl, hb7⟩))
          refine anch_end (Th.Reach.of (by first | exact Below.refl _ _ | exact below_alloc _ (by first | omega | (simp; done) | (simp; omega)) _ | exact below_alloc2 _ (by first | omega | (simp; done) | (simp; omega)) _ _ | exact below_alloc2d _ (by simp) _ _ | exact bdrew _ _ | assumption | (exact Below.mono (by assumption) (by first | (simp; done) | (simp; omega) | omega | assumption)))) (hKO _ _ ?_)
          clear hKO KO
          refine wpTree_float (fun KF hKF => ?_)
          simp only [List.drop, List.take]
          repeat (first | go_big_quiet_skip | go_big_quiet_step (fail) | quiet_step (fail))
          refine wpQuiet_nil ?_
          refine hKF _ ?_
          clear hKF KF
          refine wpTree_done ?_
          refine hKT _ _ ?_
          clear hKT KT
          have B7 : Below wr.heap.size wr w7 := (bdrew1 wr).trans hb7
          go_wp2
          go_ret2
          exact ⟨fun h => absurd (h 1 (by omega)) Hf.out, fun _ => ⟨none, 0, 0, rfl, OwS.nil_ _ _ _, hb.trans (B7.mono z)⟩⟩
      · have y5 : ∀ q : Step wr.heap.size wr.drew, q.w.cell? ⟨w.heap.size + 1 + 1, 2, none⟩ = some (.int .i64 r.act) := fun q => (b5.drew.step q.h).cell 2
        have y6 : ∀ q : Step wr.heap.size wr.drew, q.w.cell? ⟨w.heap.size + 1 + 1 + 1, 2, none⟩ = some (.int .i64 1) := fun q => (b6.drew.step q.h).cell 2
        have hbd := Lib.hid (Hr.out.act)
        by_cases hf : 0 ≤ r.act ∧ r.act < 256
        · have Hf : Hid (Fit1 r 2) := Lib.hid (show 0 ≤ r.act ∧ r.act < 256 ^ 1 from ⟨hf.1, by have := hf.2; omega⟩)
          have Hf2 : Hid (Fits 1 r.act) := Lib.hid ⟨hf.1, by have := hf.2; have := hf.1; omega⟩
          clear hf
          go_upto_region 7 with fail
          refine wp_region_tree (.float 0 6 (.one 6 (.float 7 5 .done))) (Th.Reach wr.heap.size) (Th.Reach.trans _) (Th.Reach.refl _) (by kernel_rfl) (by kernel_rfl) (fun KT hKT => ?_)
          refine wpTree_float (fun KF hKF => ?_)
          simp only [List.drop, List.take]
          repeat (first | go_big_quiet_skip | go_big_quiet_step (fail) | quiet_step (fail))
          refine wpQuiet_nil ?_
          refine hKF _ ?_
          clear hKF KF
          refine wpTree_one (fun KO hKO => ?_)
          simp only [List.drop, List.take]
          go_wp2_with (first | (go_at_call 49; refine (rput_fit r.act 1 _ (by omega) (by omega) (by have := hbd.out; omega) Hf2.out).mono ?_; rintro e w7 ⟨A7, c7, rfl, how7, hb7⟩))
          refine anch_end (Th.Reach.of (by first | exact Below.refl _ _ | exact below_alloc _ (by first | omega | (simp; done) | (simp; omega)) _ | exact below_alloc2 _ (by first | omega | (simp; done) | (simp; omega)) _ _ | exact below_alloc2d _ (by simp) _ _ | exact bdrew _ _ | assumption | (exact Below.mono (by assumption) (by first | (simp; done) | (simp; omega) | omega | assumption)))) (hKO _ _ ?_)
          clear hKO KO
          refine wpTree_float (fun KF hKF => ?_)
          simp only [List.drop, List.take]
          repeat (first | go_big_quiet_skip | go_big_quiet_step (fail) | quiet_step (fail))
          refine wpQuiet_nil ?_
          refine hKF _ ?_
          clear hKF KF
          refine wpTree_done ?_
          refine hKT _ _ ?_
          clear hKT KT
          have B7 : Below wr.heap.size wr w7 := (bdrew1 wr).trans hb7
          have z7 := B7.size
          go_wp2_with ((with_reducible refine on_append (.tmp 39) (.tmp 40) ?_); refine wl_appendA rfl (.tmp 39) (.tmp 40) _ rfl el_u8 (f := bv) (fun _ => rfl) rfl (how.below B7) rfl how7.rd (by omega) (by omega) (by omega) ?_; intro A8 c8 w8 how8 hg8 hb8 hA8)
          have l5 := (b5.step B7).lt
          have l6 := (b6.step B7).lt
          obtain ⟨ga', rfl, hga'⟩ : ∃ ga', A8 = some ⟨ga', 0, none⟩ ∧ (ga' ≠ w.heap.size + 1 + 1 ∧ ga' ≠ w.heap.size + 1 + 1 + 1) := by
            rcases hA8 with e | e
            · exact ⟨_, e, hga.out⟩
            · exact ⟨_, e, by omega, by omega⟩
          have Hga' := Lib.hid hga'
          clear hga' hA8
          go_roundw
          case rel => exact ⟨3, m + 1, c8, ga', by omega, rfl, by first | rfl | go_num, Hga', how8, (by have := pre_le r 3 (by omega); have := how8.len; have e : pre r 2 ++ be (r.act).toNat 1 = pre r 3 := rfl; rw [e] at this; omega), Lib.hid (ends_at r 2 hfit.out Hf.out), (b5.step B7).grown hg8 (fun e => by simp only [rowOf, Option.some.injEq] at e; exact hga.out.1 e), (b6.step B7).grown hg8 (fun e => by simp only [rowOf, Option.some.injEq] at e; exact hga.out.2 e), (hb.trans (B7.mono z)).trans hb8⟩
          case measure => simp [intOf]
        · have Hf : Hid (¬ Fit1 r 2) := Lib.hid (fun h => hf ⟨h.1, by have : r.act < 256 ^ 1 := h.2; omega⟩)
          have Hf2 : Hid (¬ Fits 1 r.act) := Lib.hid (fun h => hf ⟨h.1, by have := h.2; have := h.1; omega⟩)
          clear hf
          go_upto_region 7 with fail
          refine wp_region_tree (.float 0 6 (.one 6 (.float 7 5 .done))) (Th.Reach wr.heap.size) (Th.Reach.trans _) (Th.Reach.refl _) (by kernel_rfl) (by kernel_rfl) (fun KT hKT => ?_)
          refine wpTree_float (fun KF hKF => ?_)
          simp only [List.drop, List.take]
          repeat (first | go_big_quiet_skip | go_big_quiet_step (fail) | quiet_step (fail))
          refine wpQuiet_nil ?_
          refine hKF _ ?_
          clear hKF KF
          refine wpTree_one (fun KO hKO => ?_)
          simp only [List.drop, List.take]
          go_wp2_with (first | (go_at_call 49; refine (rput_misfit r.act 1 _ (by omega) (by omega) hbd.out Hf2.out).mono ?_; rintro e w7 ⟨rfl, hb7⟩))
          refine anch_end (Th.Reach.of (by first | exact Below.refl _ _ | exact below_alloc _ (by first | omega | (simp; done) | (simp; omega)) _ | exact below_alloc2 _ (by first | omega | (simp; done) | (simp; omega)) _ _ | exact below_alloc2d _ (by simp) _ _ | exact bdrew _ _ | assumption | (exact Below.mono (by assumption) (by first | (simp; done) | (simp; omega) | omega | assumption)))) (hKO _ _ ?_)
          clear hKO KO
          refine wpTree_float (fun KF hKF => ?_)
          simp only [List.drop, List.take]
          repeat (first | go_big_quiet_skip | go_big_quiet_step (fail) | quiet_step (fail))
          refine wpQuiet_nil ?_
          refine hKF _ ?_
          clear hKF KF
          refine wpTree_done ?_
          refine hKT _ _ ?_
          clear hKT KT
          have B7 : Below wr.heap.size wr w7 := (bdrew1 wr).trans hb7
          go_wp2
          go_ret2
          exact ⟨fun h => absurd (h 2 (by omega)) Hf.out, fun _ => ⟨none, 0, 0, rfl, OwS.nil_ _ _ _, hb.trans (B7.mono z)⟩⟩
      · have y5 : ∀ q : Step wr.heap.size wr.drew, q.w.cell? ⟨w.heap.size + 1 + 1, 3, none⟩ = some (.int .i64 r.next) := fun q => (b5.drew.step q.h).cell 3
        have y6 : ∀ q : Step wr.heap.size wr.drew, q.w.cell? ⟨w.heap.size + 1 + 1 + 1, 3, none⟩ = some (.int .i64 2) := fun q => (b6.drew.step q.h).cell 3
        have hbd := Lib.hid (Hr.out.next)
        by_cases hf : 0 ≤ r.next ∧ r.next < 65536
        · have Hf : Hid (Fit1 r 3) := Lib.hid (show 0 ≤ r.next ∧ r.next < 256 ^ 2 from ⟨hf.1, by have := hf.2; omega⟩)
          have Hf2 : Hid (Fits 2 r.next) := Lib.hid ⟨hf.1, by have := hf.2; have := hf.1; omega⟩
          clear hf
          go_upto_region 7 with fail
          refine wp_region_tree (.float 0 6 (.one 6 (.float 7 5 .done))) (Th.Reach wr.heap.size) (Th.Reach.trans _) (Th.Reach.refl _) (by kernel_rfl) (by kernel_rfl) (fun KT hKT => ?_)
          refine wpTree_float (fun KF hKF => ?_)
          simp only [List.drop, List.take]
          repeat (first | go_big_quiet_skip | go_big_quiet_step (fail) | quiet_step (fail))
          refine wpQuiet_nil ?_
          refine hKF _ ?_
          clear hKF KF
          refine wpTree_one (fun KO hKO => ?_)
          simp only [List.drop, List.take]
          go_wp2_with (first | (go_at_call 49; refine (rput_fit r.next 2 _ (by omega) (by omega) (by have := hbd.out; omega) Hf2.out).mono ?_; rintro e w7 ⟨A7, c7, rfl, how7, hb7⟩))
          refine anch_end (Th.Reach.of (by first | exact Below.refl _ _ | exact below_alloc _ (by first | omega | (simp; done) | (simp; omega)) _ | exact below_alloc2 _ (by first | omega | (simp; done) | (simp; omega)) _ _ | exact below_alloc2d _ (by simp) _ _ | exact bdrew _ _ | assumption | (exact Below.mono (by assumption) (by first | (simp; done) | (simp; omega) | omega | assumption)))) (hKO _ _ ?_)
          clear hKO KO
          refine wpTree_float (fun KF hKF => ?_)
          simp only [List.drop, List.take]
          repeat (first | go_big_quiet_skip | go_big_quiet_step (fail) | quiet_step (fail))
          refine wpQuiet_nil ?_
          refine hKF _ ?_
          clear hKF KF
          refine wpTree_done ?_
          refine hKT _ _ ?_
          clear hKT KT
          have B7 : Below wr.heap.size wr w7 := (bdrew1 wr).trans hb7
          have z7 := B7.size
          go_wp2_with ((with_reducible refine on_append (.tmp 39) (.tmp 40) ?_); refine wl_appendA rfl (.tmp 39) (.tmp 40) _ rfl el_u8 (f := bv) (fun _ => rfl) rfl (how.below B7) rfl how7.rd (by omega) (by omega) (by omega) ?_; intro A8 c8 w8 how8 hg8 hb8 hA8)
          have l5 := (b5.step B7).lt
          have l6 := (b6.step B7).lt
          obtain ⟨ga', rfl, hga'⟩ : ∃ ga', A8 = some ⟨ga', 0, none⟩ ∧ (ga' ≠ w.heap.size + 1 + 1 ∧ ga' ≠ w.heap.size + 1 + 1 + 1) := by
            rcases hA8 with e | e
            · exact ⟨_, e, hga.out⟩
            · exact ⟨_, e, by omega, by omega⟩
          have Hga' := Lib.hid hga'
          clear hga' hA8
          go_roundw
          case rel => exact ⟨4, m + 2, c8, ga', by omega, rfl, by first | rfl | go_num, Hga', how8, (by have := pre_le r 4 (by omega); have := how8.len; have e : pre r 3 ++ be (r.next).toNat 2 = pre r 4 := rfl; rw [e] at this; omega), Lib.hid (ends_at r 3 hfit.out Hf.out), (b5.step B7).grown hg8 (fun e => by simp only [rowOf, Option.some.injEq] at e; exact hga.out.1 e), (b6.step B7).grown hg8 (fun e => by simp only [rowOf, Option.some.injEq] at e; exact hga.out.2 e), (hb.trans (B7.mono z)).trans hb8⟩
          case measure => simp [intOf]
        · have Hf : Hid (¬ Fit1 r 3) := Lib.hid (fun h => hf ⟨h.1, by have : r.next < 256 ^ 2 := h.2; omega⟩)
          have Hf2 : Hid (¬ Fits 2 r.next) := Lib.hid (fun h => hf ⟨h.1, by have := h.2; have := h.1; omega⟩)
          clear hf
          go_upto_region 7 with fail
          refine wp_region_tree (.float 0 6 (.one 6 (.float 7 5 .done))) (Th.Reach wr.heap.size) (Th.Reach.trans _) (Th.Reach.refl _) (by kernel_rfl) (by kernel_rfl) (fun KT hKT => ?_)
          refine wpTree_float (fun KF hKF => ?_)
          simp only [List.drop, List.take]
          repeat (first | go_big_quiet_skip | go_big_quiet_step (fail) | quiet_step (fail))
          refine wpQuiet_nil ?_
          refine hKF _ ?_
          clear hKF KF
          refine wpTree_one (fun KO hKO => ?_)
          simp only [List.drop, List.take]
          go_wp2_with (first | (go_at_call 49; refine (rput_misfit r.next 2 _ (by omega) (by omega) hbd.out Hf2.out).mono ?_; rintro e w7 ⟨rfl, hb7⟩))
          refine anch_end (Th.Reach.of (by first | exact Below.refl _ _ | exact below_alloc _ (by first | omega | (simp; done) | (simp; omega)) _ | exact below_alloc2 _ (by first | omega | (simp; done) | (simp; omega)) _ _ | exact below_alloc2d _ (by simp) _ _ | exact bdrew _ _ | assumption | (exact Below.mono (by assumption) (by first | (simp; done) | (simp; omega) | omega | assumption)))) (hKO _ _ ?_)
          clear hKO KO
          refine wpTree_float (fun KF hKF => ?_)
          simp only [List.drop, List.take]
          repeat (first | go_big_quiet_skip | go_big_quiet_step (fail) | quiet_step (fail))
          refine wpQuiet_nil ?_
          refine hKF _ ?_
          clear hKF KF
          refine wpTree_done ?_
          refine hKT _ _ ?_
          clear hKT KT
          have B7 : Below wr.heap.size wr w7 := (bdrew1 wr).trans hb7
          go_wp2
          go_ret2
          exact ⟨fun h => absurd (h 3 (by omega)) Hf.out, fun _ => ⟨none, 0, 0, rfl, OwS.nil_ _ _ _, hb.trans (B7.mono z)⟩⟩
    · have hk4 : k = 4 := by omega
      subst hk4
      go_wp2
      go_ret2
      exact ⟨fun _ => ⟨_, m, c, rfl, how, hb⟩, fun ⟨j, hj, h⟩ => absurd (hfit.out j hj) h⟩
theorem val_one (bs : List UInt8) (j : Nat) (x : UInt8) (h : bs[j]? = some x) : val ((bs.drop j).take 1) = x.toNat := by
  have e : (bs.drop j).take 1 = [x] := by
    have h2 : (bs.drop j)[0]? = some x := by rw [List.getElem?_drop]; simpa using h
    match hd : bs.drop j, h2 with
    | y :: ys, h2 => simp at h2; simp [h2]
  rw [e]
  simp [val, valFrom]
set_option maxHeartbeats 4000000 in
theorem rruleTake_short (A : Option Addr) (n c : Nat) (w : World) (h : n < 8) : Calls Try.prog 61 #[.slice A n c] w (RetRu ⟨0, 0, 0, 0⟩ 2 w) := by
  have hi : decide ((n : Int) < 8) = true := decide_eq_true (by omega)
  go_enter Try.func61, Try.ntmps61
  go_wp2_with ((with_reducible refine on_store_at (.tmp 2) ?_); refine wb_store rfl _ (.tmp 2) _ rfl st_rule rfl rfl (Box.new w _ _) rfl rfl (by simp [Value.oneCell']) ?_; intro w1 hbx1 hg1)
  have B1 : Below w.heap.size w w1 := (below_alloc w (Nat.le_refl _) _).trans (below_of_grown hg1 (fun j e => by injection e with e; omega) (by simp))
  have hld := run_loadVar_row (P := Try.prog) w1 w.heap.size 47 47 _ (0, 0) _ hbx1.at_ Try.underlying47 rfl st_rule.size
  refine bodyPost_ret (v := .tuple #[.agg #[.int .u32 0, .int .i64 0, .int .i64 0, .int .i64 0], .int .i64 2]) ?_ rfl ⟨rfl, B1⟩
  rw [results_cell_tmp rfl]
  simp [asAddr, hld]
set_option maxHeartbeats 4000000 in
theorem rruleTake (A : Option Addr) (N c : Nat) (w : World) (bs : List UInt8) (hr : RdS bv w w.heap.size A N c bs) (h8 : 8 ≤ N) (hm : N ≤ 1000000) : Calls Try.prog 61 #[.slice A N c] w (RetRu (rtk bs) 0 w) := by
  have hi : decide ((N : Int) < 8) = false := decide_eq_false (by omega)
  have hlen := hr.len
  obtain ⟨V4, hV4⟩ : ∃ V, val (bs.take 4) = V := ⟨_, rfl⟩
  obtain ⟨V6, hV6⟩ : ∃ V, val ((bs.drop 6).take 2) = V := ⟨_, rfl⟩
  have h4 : V4 < 4294967296 := by
    have h5 := val_lt (bs.take 4)
    rw [hV4, List.length_take, Nat.min_eq_left (by omega)] at h5
    exact h5
  obtain ⟨x4, hx4⟩ : ∃ x, bs[4]? = some x := ⟨bs[4]'(by omega), List.getElem?_eq_getElem _⟩
  obtain ⟨x5, hx5⟩ : ∃ x, bs[5]? = some x := ⟨bs[5]'(by omega), List.getElem?_eq_getElem _⟩
  have hrt : rtk bs = ⟨V4, x4.toNat, x5.toNat, V6⟩ := by
    unfold rtk
    rw [hV4, hV6, val_one bs 4 x4 hx4, val_one bs 5 x5 hx5]
  rw [hrt]
  have HV4 := Lib.hid hV4
  have HV6 := Lib.hid hV6
  have Hx4 := Lib.hid hx4
  have Hx5 := Lib.hid hx5
  clear hV4 hV6 hx4 hx5 hrt hlen
  go_enter Try.func61, Try.ntmps61
  go_wp2_with fail
  have bx := Box.new w (Ru.cs ⟨0, 0, 0, 0⟩).toArray 47
  have B1 := below_alloc w (Nat.le_refl _) (.cells (Ru.cs ⟨0, 0, 0, 0⟩).toArray 47)
  have hr1 := hr.step B1
  refine (rtake_yes A _ c 4 _ (by omega) (by omega) (by omega) (by omega) _ _ hr1).mono ?_
  rintro e w1 ⟨rfl, rfl⟩
  rw [HV4.out]
  go_wp2_with ((with_reducible refine on_slice (.tmp 18) ?_); refine wl_cut_l rfl _ (.tmp 18) el_u8 rfl hr1 _ rfl rfl 6 (by omega) ?_; intro A9 r9)
  refine (rtake_yes A9 _ _ 2 _ (by omega) (by omega) (by omega) (by omega) _ _ r9).mono ?_
  rintro e w1 ⟨rfl, rfl⟩
  rw [HV6.out]
  have q2 := RdC.of_reach (hr1.step (bdrew1 _)) (Nat.le_refl _)
  go_upto_region 5 with fail
  have bxd := bx.drew
  refine wp_region_tree (.float 0 12 (.one 12 (.float 13 1 .done))) (Th.Reach w.heap.size) (Th.Reach.trans _) (Th.Reach.refl _) (by kernel_rfl) (by kernel_rfl) (fun KT hKT => ?_)
  refine wpTree_float (fun KF hKF => ?_)
  simp only [List.drop, List.take]
  repeat (first | go_big_quiet_skip | ((with_reducible refine onq_index (.tmp 25) ?_); refine wq_at_b rfl _ (.tmp 25) _ rfl el_u8 rfl rfl (by omega) (by omega) (Th.Reach.refl _ _) q2 ?_; intro p1 x1 hz1 hxl1 hc1; have hxx := get_eq Hx4.out hz1.out (by omega); subst hxx; have f1 : ∀ q : Step _ _, q.w.cell? p1 = some (.int .u8 (x4.toNat : Int)) := fun q => hc1 q.w ⟨q, rfl⟩) | ((with_reducible refine onq_index (.tmp 29) ?_); refine wq_at_b rfl _ (.tmp 29) _ rfl el_u8 rfl rfl (by omega) (by omega) (Th.Reach.refl _ _) q2 ?_; intro p2 x2 hz2 hxl2 hc2; have hxx := get_eq Hx5.out hz2.out (by omega); subst hxx; have f2 : ∀ q : Step _ _, q.w.cell? p2 = some (.int .u8 (x5.toNat : Int)) := fun q => hc2 q.w ⟨q, rfl⟩) | go_big_quiet_step (fail) | quiet_step (fail))
  refine wpQuiet_nil ?_
  refine hKF _ ?_
  clear hKF KF
  refine wpTree_one (fun KO hKO => ?_)
  simp only [List.drop, List.take]
  go_wp2_with (first | ((with_reducible refine on_store_at (.tmp 2) ?_); refine wr_store (r := ⟨0, 0, 0, 0⟩) (s := ⟨V4, x4.toNat, x5.toNat, V6⟩) rfl _ (.tmp 2) _ rfl st_rule rfl rfl bxd ?_; intro w5 hbx5 hg5; have hb5 := below_of_grown (B := w.heap.size) hg5 (fun j e => by injection e with e; omega) (by simp)))
  refine anch_end (Th.Reach.of (by first | exact Below.refl _ _ | exact below_alloc _ (by first | omega | (simp; done) | (simp; omega)) _ | exact below_alloc2 _ (by first | omega | (simp; done) | (simp; omega)) _ _ | exact below_alloc2d _ (by simp) _ _ | exact bdrew _ _ | assumption | (exact Below.mono (by assumption) (by first | (simp; done) | (simp; omega) | omega | assumption)))) (hKO _ _ ?_)
  clear hKO KO
  refine wpTree_float (fun KF hKF => ?_)
  simp only [List.drop, List.take]
  repeat (first | go_big_quiet_skip | ((with_reducible refine onq_index (.tmp 25) ?_); refine wq_at_b rfl _ (.tmp 25) _ rfl el_u8 rfl rfl (by omega) (by omega) (Th.Reach.refl _ _) q2 ?_; intro p1 x1 hz1 hxl1 hc1; have hxx := get_eq Hx4.out hz1.out (by omega); subst hxx; have f1 : ∀ q : Step _ _, q.w.cell? p1 = some (.int .u8 (x4.toNat : Int)) := fun q => hc1 q.w ⟨q, rfl⟩) | ((with_reducible refine onq_index (.tmp 29) ?_); refine wq_at_b rfl _ (.tmp 29) _ rfl el_u8 rfl rfl (by omega) (by omega) (Th.Reach.refl _ _) q2 ?_; intro p2 x2 hz2 hxl2 hc2; have hxx := get_eq Hx5.out hz2.out (by omega); subst hxx; have f2 : ∀ q : Step _ _, q.w.cell? p2 = some (.int .u8 (x5.toNat : Int)) := fun q => hc2 q.w ⟨q, rfl⟩) | go_big_quiet_step (fail) | quiet_step (fail))
  refine wpQuiet_nil ?_
  refine hKF _ ?_
  clear hKF KF
  refine wpTree_done ?_
  refine hKT _ _ ?_
  clear hKT KT
  have B5 : Below w.heap.size w w5 := B1.trans ((bdrew _ _).trans hb5)
  have hld := run_loadVar_row (P := Try.prog) w5 w.heap.size 47 47 _ (0, 0) _ hbx5.at_ Try.underlying47 rfl st_rule.size
  go_wp2
  refine bodyPost_ret (v := .tuple #[.agg #[.int .u32 V4, .int .i64 x4.toNat, .int .i64 x5.toNat, .int .i64 V6], .int .i64 0]) ?_ rfl ⟨rfl, B5⟩
  rw [results_cell_tmp rfl]
  simp [asAddr, hld, Ru.cs]
end Go.Proofs.Ytgapcmodhcdebaa

/-! ### RuleShown -/
namespace Go.Proofs.Ytgapcmodhcdebaa
open Go.RowKit Go.Th
set_option linter.unusedVariables false
theorem fit_10 : ∀ j, j < 4 → Fit1 ⟨167772160, 8, 1, 3⟩ j := by
  intro j hj
  have : j = 0 ∨ j = 1 ∨ j = 2 ∨ j = 3 := by omega
  rcases this with rfl | rfl | rfl | rfl <;> (unfold Fit1 gv gs; decide)
theorem pre_10 : pre ⟨167772160, 8, 1, 3⟩ 4 = [10, 0, 0, 0, 8, 1, 0, 3] := by decide +kernel
theorem rtk_10 : rtk [10, 0, 0, 0, 8, 1, 0, 3] = ⟨167772160, 8, 1, 3⟩ := by decide +kernel
theorem put_10 (w : World) : Calls Try.prog 22 #[.agg #[.int .u32 167772160, .int .i64 8, .int .i64 1, .int .i64 3]] w fun e w' => RetBytes [10, 0, 0, 0, 8, 1, 0, 3] 0 w e w' := by
  refine (rulePut ⟨167772160, 8, 1, 3⟩ (by decide) w).mono fun e w' h => ?_
  have := h.1 fit_10
  rw [pre_10] at this
  exact this
theorem take_10 (A : Option Addr) (n c : Nat) (w : World) (hr : RdS bv w w.heap.size A n c [10, 0, 0, 0, 8, 1, 0, 3]) : Calls Try.prog 78 #[.slice A n c] w fun e w' => e = .returned (.tuple #[.agg #[.int .u32 167772160, .int .i64 8, .int .i64 1, .int .i64 3], .int .i64 0]) ∧ Below w.heap.size w w' := by
  have hn : 8 = n := hr.len
  have := ruleTake A n c w _ hr (by omega) (by omega)
  rw [rtk_10] at this
  exact this
end Go.Proofs.Ytgapcmodhcdebaa

/-! ### TableLessLaw -/
namespace Go.Th
/-- Rules that are made such as may be, may be. -/
theorem Ru.fit_may (r : Ru) (nodes : Int) (hn : 1 ≤ nodes) (_h : r.Ok) : (r.fit nodes).may nodes = 0 := by
  have hp : pmay (r.fit nodes).a (r.fit nodes).n = 0 := by
    unfold pmay
    rw [if_neg (by show ¬ (r.n % 33 < 0 ∨ 32 < r.n % 33); omega)]
    exact if_pos (lead_mod r.a (r.n % 33))
  have h3 := Int.emod_nonneg r.next (b := nodes) (by omega)
  have h4 := Int.emod_lt_of_pos r.next (b := nodes) (by omega)
  unfold Ru.may
  rw [if_neg (by simp [hp])]
  show (if (if r.act % 3 = 0 then 3 else r.act % 3) = 1 then (if (if r.act % 3 = 1 then r.next % nodes else 0) < 0 ∨ nodes ≤ (if r.act % 3 = 1 then r.next % nodes else 0) then (10 : Int) else 0) else if (if r.act % 3 = 0 then 3 else r.act % 3) = 2 ∨ (if r.act % 3 = 0 then 3 else r.act % 3) = 3 then (if (if r.act % 3 = 1 then r.next % nodes else 0) ≠ 0 then 10 else 0) else 9) = 0
  have hc : r.act % 3 = 0 ∨ r.act % 3 = 1 ∨ r.act % 3 = 2 := by omega
  rcases hc with h0 | h0 | h0 <;> simp [h0] <;> omega
theorem fitted_may {nodes : Int} (hn : 1 ≤ nodes) {l : List Ru} (hf : Fitted nodes l) (ho : ∀ r ∈ l, r.Ok) : ∀ r ∈ l, r.may nodes = 0 := fun r hr => by
  have := Ru.fit_may r nodes hn (ho r hr)
  rwa [hf r hr] at this
theorem cmp_one {r s : Ru} (h : r.cmp s < 0) : s.cmp r = 1 := by
  have h1 := Ru.cmp_neg r s
  have h2 := Ru.cmp_vals r s
  omega
theorem tmayGo_ok {nodes : Int} : ∀ (l : List Ru) (p : Option Ru), (∀ q, p = some q → ∀ r ∈ l, q.cmp r < 0) → Sorted l → (∀ r ∈ l, r.may nodes = 0) → tmayGo nodes p l = 0
  | [], _, _, _, _ => rfl
  | r :: l, p, hp, hs, hm => by
    obtain ⟨h1, h2⟩ := List.pairwise_cons.1 hs
    rw [tmayGo, if_neg (by simp [hm r (by simp)])]
    have ho : outOf p r = false := by
      cases p with
      | none => rfl
      | some q => show decide (r.cmp q ≠ 1) = false; have := cmp_one (hp q rfl r (by simp)); simp [this]
    rw [if_neg (by simp [ho])]
    exact tmayGo_ok l (some r) (fun q hq => by injection hq with hq; subst hq; exact h1) h2 (fun s hs => hm s (by simp [hs]))
theorem tmay_ok {l : List Ru} {nodes : Int} (hs : Sorted l) (hm : ∀ r ∈ l, r.may nodes = 0) : tmay l nodes = 0 := tmayGo_ok l none (fun q h => by cases h) hs hm
/-- Without the rule at place k. -/
def less (l : List Ru) (k : Nat) : List Ru := l.take k ++ l.drop (k + 1)
theorem less_sub (l : List Ru) (k : Nat) : (less l k).Sublist l := by
  have h1 : (l.drop (k + 1)).Sublist (l.drop k) := by rw [← List.drop_drop]; exact List.drop_sublist _ _
  have h2 := List.Sublist.append (List.Sublist.refl (l.take k)) h1
  rw [List.take_append_drop] at h2
  exact h2
theorem less_mem {l : List Ru} {k : Nat} {r t : Ru} (hk : l[k]? = some r) : t ∈ l ↔ t ∈ less l k ∨ t = r := by
  obtain ⟨hl, rfl⟩ := List.getElem?_eq_some_iff.1 hk
  have e : l = l.take k ++ l[k] :: l.drop (k + 1) := by rw [← List.drop_eq_getElem_cons hl, List.take_append_drop]
  constructor
  · intro h
    rw [e] at h
    unfold less
    rcases List.mem_append.1 h with h | h
    · exact .inl (List.mem_append_left _ h)
    · rcases List.mem_cons.1 h with h | h
      · exact .inr h
      · exact .inl (List.mem_append_right _ h)
  · rintro (h | rfl)
    · exact (less_sub l k).mem h
    · exact List.getElem_mem hl
theorem less_not {l : List Ru} (hg : GoodT l) {k : Nat} {r : Ru} (hk : l[k]? = some r) : r ∉ less l k := by
  obtain ⟨hl, rfl⟩ := List.getElem?_eq_some_iff.1 hk
  have e : l = l.take k ++ l[k] :: l.drop (k + 1) := by rw [← List.drop_eq_getElem_cons hl, List.take_append_drop]
  have hs : Sorted l := hg.sorted
  unfold Sorted at hs
  rw [e] at hs
  obtain ⟨_, h2, h3⟩ := List.pairwise_append.1 hs
  obtain ⟨h4, _⟩ := List.pairwise_cons.1 h2
  intro h
  have hz : (l[k]).cmp l[k] = 0 := (Ru.cmp_zero _ _).2 ⟨rfl, rfl⟩
  rcases List.mem_append.1 h with h | h
  · have := h3 _ h (l[k]) (List.mem_cons.2 (.inl rfl)); omega
  · have := h4 _ h; omega
theorem less_good {l : List Ru} (hg : GoodT l) (k : Nat) : GoodT (less l k) := ⟨fun r hr => hg.pre r ((less_sub l k).mem hr), List.Pairwise.sublist (less_sub l k) hg.sorted⟩
theorem less_find {l : List Ru} (hg : GoodT l) {k : Nat} {t : Ru} (hk : l[k]? = some t) (x : Int) {r s : Ru} {ok is : Bool} (hr : tfind l x = (r, ok)) (hs : tfind (less l k) x = (s, is)) :
    (ok = true ∧ r = t ∧ (is = true → s.n < r.n)) ∨ (ok = true ∧ r ≠ t ∧ r ∈ l ∧ t ∈ l ∧ s = r ∧ is = ok) ∨ (ok = false ∧ s = r ∧ is = ok) := by
  have h1 := tfind_best l x
  have h2 := tfind_best (less l k) x
  rw [hr] at h1
  rw [hs] at h2
  have hgl := less_good hg k
  cases ok with
  | false =>
    right; right
    obtain ⟨e1, e2⟩ := h1.1 rfl
    have := hgl.best (x := x) (p := (r, false)) ⟨fun _ => ⟨e1, fun u hu => e2 u ((less_sub l k).mem hu)⟩, fun h => by cases h⟩
    rw [hs] at this
    injection this with a b
    exact ⟨rfl, a, b⟩
  | true =>
    obtain ⟨a1, a2, a3⟩ := h1.2 rfl
    by_cases e : r = t
    · left
      refine ⟨rfl, e, fun hi => ?_⟩
      obtain ⟨b1, b2, b3⟩ := h2.2 hi
      have hsl := (less_sub l k).mem b1
      have c1 := a3 s hsl b2
      rcases Int.lt_or_eq_of_le c1 with h | h
      · exact h
      · have := hg.uniq hsl a1 b2 a2 h
        subst this
        rw [e] at b1
        exact absurd b1 (less_not hg hk)
    · right; left
      have hrl : r ∈ less l k := by
        rcases (less_mem hk).1 a1 with h | h
        · exact h
        · exact absurd h e
      have := hgl.best (x := x) (p := (r, true)) ⟨(fun h => by cases h), fun _ => ⟨hrl, a2, fun u hu hh => a3 u ((less_sub l k).mem hu) hh⟩⟩
      rw [hs] at this
      injection this with a b
      exact ⟨rfl, e, a1, List.mem_of_getElem? hk, a, b⟩
/-- Two rules of a table part in their address or their length. -/
theorem GoodT.part {l : List Ru} (hg : GoodT l) {r t : Ru} (hr : r ∈ l) (ht : t ∈ l) (h : r ≠ t) : (r.a == t.a) = false ∨ ((r.a == t.a) = true ∧ (r.n == t.n) = false) := by
  by_cases e : r.a = t.a
  · right
    refine ⟨by simp [e], ?_⟩
    by_cases e2 : r.n = t.n
    · exact absurd (hg.sorted.key hr ht ((Ru.cmp_zero _ _).2 ⟨e, e2⟩)) h
    · simp [e2]
  · left; simp [e]
end Go.Th

/-! ### RuleBackLaw -/
namespace Go.Proofs.Ytgapcmodhcdebaa
open Go.RowKit Go.Th
set_option linter.unusedVariables false
theorem fit1_all {r : Ru} (ha : 0 ≤ r.a ∧ r.a < 4294967296) (hn : 0 ≤ r.n ∧ r.n < 256) (hc : 0 ≤ r.act ∧ r.act < 256) (hx : 0 ≤ r.next ∧ r.next < 65536) : ∀ j, j < 4 → Fit1 r j := by
  intro j hj
  have : j = 0 ∨ j = 1 ∨ j = 2 ∨ j = 3 := by omega
  rcases this with rfl | rfl | rfl | rfl
  · exact ha
  · exact hn
  · exact hc
  · exact hx
theorem fit1_fit (r : Ru) (h : r.Ok) : ∀ j, j < 4 → Fit1 (r.fit 256) j := by
  have hl := lead_bd r.a (r.n % 33) h.a
  refine fit1_all ⟨hl.1, ?_⟩ ⟨?_, ?_⟩ ⟨?_, ?_⟩ ⟨?_, ?_⟩
  · show lead r.a (r.n % 33) < 4294967296; omega
  · show 0 ≤ r.n % 33; omega
  · show r.n % 33 < 256; omega
  · show 0 ≤ (if r.act % 3 = 0 then 3 else r.act % 3); split <;> omega
  · show (if r.act % 3 = 0 then 3 else r.act % 3) < 256; split <;> omega
  · show 0 ≤ (if r.act % 3 = 1 then r.next % 256 else 0); split <;> omega
  · show (if r.act % 3 = 1 then r.next % 256 else 0) < 65536; split <;> omega
theorem fit1_rtk (bs : List UInt8) : ∀ j, j < 4 → Fit1 (rtk bs) j := by
  have v4 := val_lt (bs.take 4)
  have v1 := val_lt ((bs.drop 4).take 1)
  have v2 := val_lt ((bs.drop 5).take 1)
  have v3 := val_lt ((bs.drop 6).take 2)
  have p : ∀ (l : List UInt8) (k : Nat), (256 : Nat) ^ (l.take k).length ≤ 256 ^ k := fun l k => Nat.pow_le_pow_right (by decide) (by rw [List.length_take]; omega)
  have p4 := p bs 4
  have p1 := p (bs.drop 4) 1
  have p2 := p (bs.drop 5) 1
  have p3 := p (bs.drop 6) 2
  refine fit1_all ⟨?_, ?_⟩ ⟨?_, ?_⟩ ⟨?_, ?_⟩ ⟨?_, ?_⟩ <;> (unfold rtk; simp only; omega)
theorem pre_four (r : Ru) : pre r 4 = be r.a.toNat 4 ++ be r.n.toNat 1 ++ be r.act.toNat 1 ++ be r.next.toNat 2 := rfl
theorem rtk_pre (r : Ru) (h : ∀ j, j < 4 → Fit1 r j) (rest : List UInt8) : rtk (pre r 4 ++ rest) = r := by
  have h0 : 0 ≤ r.a ∧ r.a < 4294967296 := h 0 (by omega)
  have h1 : 0 ≤ r.n ∧ r.n < 256 := h 1 (by omega)
  have h2 : 0 ≤ r.act ∧ r.act < 256 := h 2 (by omega)
  have h3 : 0 ≤ r.next ∧ r.next < 65536 := h 3 (by omega)
  have e : pre r 4 ++ rest = be r.a.toNat 4 ++ (be r.n.toNat 1 ++ (be r.act.toNat 1 ++ (be r.next.toNat 2 ++ rest))) := by
    rw [pre_four]; simp only [List.append_assoc]
  have d4 : (pre r 4 ++ rest).drop 4 = be r.n.toNat 1 ++ (be r.act.toNat 1 ++ (be r.next.toNat 2 ++ rest)) := by
    rw [e]; exact List.drop_left' (be_length _ _)
  have d5 : (pre r 4 ++ rest).drop 5 = be r.act.toNat 1 ++ (be r.next.toNat 2 ++ rest) := by
    rw [show (5 : Nat) = 4 + 1 from rfl, ← List.drop_drop, d4]; exact List.drop_left' (be_length _ _)
  have d6 : (pre r 4 ++ rest).drop 6 = be r.next.toNat 2 ++ rest := by
    rw [show (6 : Nat) = 5 + 1 from rfl, ← List.drop_drop, d5]; exact List.drop_left' (be_length _ _)
  have t0 : (pre r 4 ++ rest).take 4 = be r.a.toNat 4 := by rw [e]; exact List.take_left' (be_length _ _)
  have t1 : ((pre r 4 ++ rest).drop 4).take 1 = be r.n.toNat 1 := by rw [d4]; exact List.take_left' (be_length _ _)
  have t2 : ((pre r 4 ++ rest).drop 5).take 1 = be r.act.toNat 1 := by rw [d5]; exact List.take_left' (be_length _ _)
  have t3 : ((pre r 4 ++ rest).drop 6).take 2 = be r.next.toNat 2 := by rw [d6]; exact List.take_left' (be_length _ _)
  unfold rtk
  rw [t0, t1, t2, t3, val_be 4 _ (by omega), val_be 1 _ (by omega), val_be 1 _ (by omega), val_be 2 _ (by omega)]
  obtain ⟨a, n, act, next⟩ := r
  simp only at h0 h1 h2 h3
  simp only [Ru.mk.injEq]
  omega
theorem pre_rtk {bs : List UInt8} (h : 8 ≤ bs.length) : pre (rtk bs) 4 = bs.take 8 := by
  have e : ∀ (l : List UInt8) (k : Nat), k ≤ l.length → be (val (l.take k)) k = l.take k := fun l k hk => by
    have := be_val (l.take k)
    rwa [List.length_take, Nat.min_eq_left hk] at this
  rw [pre_four]
  show be (val (bs.take 4) : Int).toNat 4 ++ be (val ((bs.drop 4).take 1) : Int).toNat 1 ++ be (val ((bs.drop 5).take 1) : Int).toNat 1 ++ be (val ((bs.drop 6).take 2) : Int).toNat 2 = _
  rw [Int.toNat_natCast, Int.toNat_natCast, Int.toNat_natCast, Int.toNat_natCast, e bs 4 (by omega), e (bs.drop 4) 1 (by rw [List.length_drop]; omega), e (bs.drop 5) 1 (by rw [List.length_drop]; omega), e (bs.drop 6) 2 (by rw [List.length_drop]; omega)]
  rw [show (8 : Nat) = 4 + (1 + (1 + 2)) from rfl, List.take_add, List.take_add, List.drop_drop, List.take_add, List.drop_drop]
  simp only [List.append_assoc]
/-- The place of few's result. -/
def fewB (A : Option Addr) (n c : Nat) : Option Addr := if n ≤ 30 then A else cutA A 0 c
theorem fewRB {A : Option Addr} {n c N : Nat} (hN : min n 30 = N) {w : World} {B : Nat} {bs : List UInt8} (hr : RdS bv w B A n c bs) : RdS bv w B (fewB A n c) N c (bs.take 30) := by
  have hc := hr.cap
  unfold fewB
  split
  · rename_i h
    have e : N = n := by omega
    rw [e, List.take_of_length_le (by rw [hr.len]; omega)]
    exact hr
  · have e : N = 30 := by omega
    rw [e]
    exact hr.cut 0 30 c (by omega) (by omega) (by omega)
theorem take_pre (A : Option Addr) (n c : Nat) (r : Ru) (hf : ∀ j, j < 4 → Fit1 r j) (rest : List UInt8) (hl : rest.length ≤ 1000) (w : World) (hr : RdS bv w w.heap.size A n c (pre r 4 ++ rest)) : Calls Try.prog 78 #[.slice A n c] w fun e w' => e = .returned (.tuple #[.agg #[.int .u32 r.a, .int .i64 r.n, .int .i64 r.act, .int .i64 r.next], .int .i64 0]) ∧ Below w.heap.size w w' := by
  have hn := hr.len
  rw [List.length_append, pre_length] at hn
  have := ruleTake A n c w _ hr (by omega) (by omega)
  rw [rtk_pre r hf] at this
  exact this
theorem put_fits (r : Ru) (h : 0 ≤ r.a ∧ r.a ≤ 4294967295) (hf : ∀ j, j < 4 → Fit1 r j) (p : List UInt8) (hp : pre r 4 = p) (w : World) : Calls Try.prog 22 #[.agg #[.int .u32 r.a, .int .i64 r.n, .int .i64 r.act, .int .i64 r.next]] w fun e w' => ∃ A c, e = .returned (.tuple #[.slice A 8 c, .int .i64 0]) ∧ OwS bv w' w.heap.size 5 A 8 c p ∧ Below w.heap.size w w' := by
  refine (rulePut r h w).mono fun e w' hh => ?_
  obtain ⟨A, n, c, rfl, how, hb⟩ := hh.1 hf
  have hn : n = 8 := by rw [← how.len, pre_length]
  subst hn
  rw [hp] at how
  exact ⟨A, c, rfl, how, hb⟩
end Go.Proofs.Ytgapcmodhcdebaa

/-! ### RuleAll -/
namespace Go.Th
open Go.RowKit
theorem Box.two0 {w : World} {g : Nat} {t : TypeId} {x y : Ru} (h : Box w g t (x.cs ++ y.cs).toArray) : ∀ i v, x.cs[i]? = some v → w.cell? ⟨g, 0 + i, none⟩ = some v := fun i v hi => by
  have hl : i < x.cs.length := (List.getElem?_eq_some_iff.1 hi).1
  rw [Nat.zero_add, h.cell i, List.getElem?_toArray, List.getElem?_append_left hl, hi]
theorem Box.two1 {w : World} {g : Nat} {t : TypeId} {x y : Ru} (h : Box w g t (x.cs ++ y.cs).toArray) : ∀ i v, y.cs[i]? = some v → w.cell? ⟨g, 4 + i, none⟩ = some v := fun i v hi => by
  rw [h.cell (4 + i), List.getElem?_toArray, List.getElem?_append_right (by rw [Ru.cs_length]; omega), Ru.cs_length, Nat.add_sub_cancel_left, hi]
end Go.Th
namespace Go.Proofs.Ytgapcmodhcdebaa
open Go.RowKit Go.Th
set_option linter.unusedVariables false
theorem put_both (r : Ru) (hr : r.Ok) : ∃ P ep, (∀ W, Calls Try.prog 22 #[.agg #[.int .u32 r.a, .int .i64 r.n, .int .i64 r.act, .int .i64 r.next]] W (RetBytes P ep W)) ∧ (∀ W, Calls Try.prog 52 #[.agg #[.int .u32 r.a, .int .i64 r.n, .int .i64 r.act, .int .i64 r.next]] W (RetBytes P ep W)) := by
  by_cases h : ∀ j, j < 4 → Fit1 r j
  · exact ⟨_, _, fun W => (rulePut r hr.a W).mono fun e w' hh => hh.1 h, fun W => (rrulePut r hr W).mono fun e w' hh => hh.1 h⟩
  · have h2 : ∃ j, j < 4 ∧ ¬ Fit1 r j := by
      apply Classical.byContradiction
      intro hn
      exact h fun j hj => Classical.byContradiction fun hf => hn ⟨j, hj, hf⟩
    exact ⟨_, _, fun W => (rulePut r hr.a W).mono fun e w' hh => hh.2 h2, fun W => (rrulePut r hr W).mono fun e w' hh => hh.2 h2⟩
theorem take_both (M : Nat) (bs : List UInt8) (hM : M ≤ 30) : ∃ R er, (∀ A c W, RdS bv W W.heap.size A M c bs → Calls Try.prog 78 #[.slice A M c] W (RetRu R er W)) ∧ (∀ A c W, RdS bv W W.heap.size A M c bs → Calls Try.prog 61 #[.slice A M c] W (RetRu R er W)) := by
  by_cases h : M < 8
  · exact ⟨_, _, fun A c W _ => ruleTake_short A M c W h, fun A c W _ => rruleTake_short A M c W h⟩
  · exact ⟨_, _, fun A c W hr => ruleTake A M c W bs hr (by omega) (by omega), fun A c W hr => rruleTake A M c W bs hr (by omega) (by omega)⟩
end Go.Proofs.Ytgapcmodhcdebaa

/-! ### GroupPlain -/
namespace Go.Th
/-- How many bytes. -/
def gsize (n : Nat) : Nat := if n < 128 then 1 else if n < 16384 then 2 else if n < 2097152 then 3 else 4
/-- The same, nought having none. -/
def gmore (n : Nat) : Nat := if n = 0 then 0 else gsize n
/-- s bytes that another one follows, the highest first. -/
def gd : Nat → Nat → List UInt8
  | _, 0 => []
  | n, s + 1 => gd (n / 128) s ++ [UInt8.ofNat (n % 128 + 128)]
/-- A number's bytes. -/
def gput (n : Nat) : List UInt8 := gd (n / 128) (gsize n - 1) ++ [UInt8.ofNat (n % 128)]
/-- What bytes begin with: so many may yet come. -/
def gt : Nat → Nat → Nat → List UInt8 → Nat × Nat × Int
  | 0, _, _, _ => (0, 0, 3)
  | _ + 1, _, _, [] => (0, 0, 2)
  | f + 1, v, c, b :: bs => if b.toNat < 128 then (v * 128 + b.toNat, c + 1, 0) else gt f (v * 128 + (b.toNat - 128)) (c + 1) bs
def gtake (bs : List UInt8) : Nat × Nat × Int := if bs[0]? = some 128 then (0, 0, 3) else gt 4 0 0 bs

theorem gsize_pos (n : Nat) : 1 ≤ gsize n ∧ gsize n ≤ 4 := by unfold gsize; split <;> (try split) <;> (try split) <;> omega
theorem gsize_small {n : Nat} (h : n < 128) : gsize n = 1 := by unfold gsize; rw [if_pos h]
theorem gsize_step {n : Nat} (h : 128 ≤ n) (h2 : n < 268435456) : gsize (n / 128) + 1 = gsize n := by
  unfold gsize
  repeat' split
  all_goals omega
theorem gmore_div {n : Nat} (h2 : n < 268435456) : gmore (n / 128) = gsize n - 1 := by
  unfold gmore gsize
  repeat' split
  all_goals omega
theorem gmore_step {n : Nat} (h : 1 ≤ n) (h2 : n < 268435456) : gmore n = gmore (n / 128) + 1 := by
  rw [gmore_div h2]
  unfold gmore
  rw [if_neg (by omega)]
  have := gsize_pos n
  omega
theorem gd_length : ∀ (s n : Nat), (gd n s).length = s
  | 0, _ => rfl
  | s + 1, n => by rw [gd, List.length_append, gd_length s]; rfl
theorem gput_length (n : Nat) : (gput n).length = gsize n := by
  rw [gput, List.length_append, gd_length]
  have := (gsize_pos n).1
  show _ + 1 = _
  omega
theorem fill_set (m : Nat) (z v : UInt8) (l : List UInt8) : (List.replicate (m + 1) z ++ l).set m v = List.replicate m z ++ v :: l := by
  rw [List.replicate_succ', List.append_assoc, List.set_append_right _ _ (by simp)]
  simp
theorem last_set (l : List UInt8) (z v : UInt8) (r : Nat) (h : l.length = r) : (l ++ [z]).set r v = l ++ [v] := by
  subst h
  rw [List.set_append_right _ _ (by simp)]
  simp
theorem gt_nil (f v c : Nat) (h : 1 ≤ f) : gt f v c [] = (0, 0, 2) := by
  obtain ⟨k, rfl⟩ : ∃ k, f = k + 1 := ⟨f - 1, by omega⟩
  rfl
theorem gt_low {f v c : Nat} {bs : List UInt8} {k : Nat} {x : UInt8} (hf : 1 ≤ f) (h : bs[k]? = some x) (hx : x.toNat < 128) : gt f v c (bs.drop k) = (v * 128 + x.toNat, c + 1, 0) := by
  obtain ⟨j, rfl⟩ : ∃ j, f = j + 1 := ⟨f - 1, by omega⟩
  obtain ⟨hl, rfl⟩ := List.getElem?_eq_some_iff.1 h
  rw [List.drop_eq_getElem_cons hl, gt, if_pos hx]
theorem gt_high {f v c : Nat} {bs : List UInt8} {k : Nat} {x : UInt8} (h : bs[k]? = some x) (hx : 128 ≤ x.toNat) : gt (f + 1) v c (bs.drop k) = gt f (v * 128 + (x.toNat - 128)) (c + 1) (bs.drop (k + 1)) := by
  obtain ⟨hl, rfl⟩ := List.getElem?_eq_some_iff.1 h
  rw [List.drop_eq_getElem_cons hl, gt, if_neg (by omega)]
end Go.Th
