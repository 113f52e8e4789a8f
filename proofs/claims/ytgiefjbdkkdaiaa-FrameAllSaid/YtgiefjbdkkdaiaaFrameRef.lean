/-
  The walks of theseusref03 (Step, More, Sum) and theseusref04 (Put, Take, Section, Open).
-/
import Derived.Test.YtgiefjbdkkdaiaaFramePut
import Derived.Test.YtgiefjbdkkdaiaaFrameLaw
import Derived.Test.YtgiefjbdkkdaiaaGroupRef
namespace Go.Proofs.Ytgiefjbdkkdaiaa
open Go.RowKit Go.Th
set_option linter.unusedVariables false
theorem rstep_any (s : Nat) (c : UInt8) (w : World) (hs : s < 4294967296) (S : Int) (hS : (s : Int) = S) (C : Int) (hC : (c.toNat : Int) = C) :
    Calls Try.prog 58 #[.int .u32 S, .int .u8 C] w fun e w' => e = .returned (.int .u32 (cstep s c)) ∧ w = w' := by
  subst hS
  subst hC
  have hc := c.toNat_lt
  have hx0 := u32_xor_nat s c.toNat hs (by omega)
  obtain ⟨y, hy⟩ : ∃ y, s ^^^ c.toNat = y := ⟨_, rfl⟩
  have hy2 : y < 4294967296 := by rw [← hy]; exact xor_lt32 hs (by omega)
  rw [hy] at hx0
  have hst : cstep s c = ctn 8 y := by rw [← hy]; rfl
  rw [hst]
  clear hst hy
  go_enter Try.func58, Try.ntmps58
  go_wp2
  go_loop [0, 5, 6] (fun v i _ => ∃ k x : Nat, k ≤ 8 ∧ x < 4294967296 ∧ v = .int .u32 x ∧ i = .int .i64 k ∧ Hid (ctn k y = x)) (fun _ i _ => 8 - (intOf i).toNat)
  case atStart => exact ⟨0, y, by omega, hy2, rfl, rfl, rfl⟩
  case round =>
    obtain ⟨k, x, hk, hx, rfl, rfl, hX⟩ := hrel
    by_cases hlt : k < 8
    · have ha := u32_and_nat x 1 hx (by omega)
      rw [Nat.and_one_is_mod] at ha
      have hn := ctn_more k y
      rw [hX.out] at hn
      unfold ct at hn
      rcases Nat.mod_two_eq_zero_or_one x with h | h
      · rw [if_neg (by omega)] at hn
        rw [h] at ha
        have ha : bits .and .u32 (x : Int) 1 = 0 := ha
        go_wp2
        go_round
        case rel => exact ⟨k + 1, x / 2, by omega, by omega, by go_num, by go_num, hn⟩
        case measure => simp [intOf]; omega
      · rw [if_pos h] at hn
        rw [h] at ha
        have ha : bits .and .u32 (x : Int) 1 = 1 := ha
        have hp : bits .xor .u32 ((x : Int) / 2) 2197175160 = ((x / 2 ^^^ poly : Nat) : Int) := u32_xor_nat (x / 2) poly (by omega) (by decide)
        have hl : x / 2 ^^^ poly < 4294967296 := xor_lt32 (by omega) (by decide)
        go_wp2
        go_round
        case rel => exact ⟨k + 1, x / 2 ^^^ poly, by omega, hl, by first | rfl | rw [hp], by go_num, hn⟩
        case measure => simp [intOf]; omega
    · have e8 : k = 8 := by omega
      subst e8
      go_wp2
      go_ret
      rw [hX.out]
      exact ⟨rfl, rfl⟩
set_option maxRecDepth 100000 in
theorem rsum_any (A : Option Addr) (n c : Nat) (w : World) (hm : n ≤ 9223372036854775807) (B : Nat) (bs : List UInt8) (hr : RdS bv w B A n c bs) :
    Calls Try.prog 54 #[.slice A n c] w fun e w' => e = .returned (.int .u32 (csum bs)) ∧ w = w' := by
  go_enter Try.func54, Try.ntmps54
  go_wp2_with fail
  have key : Calls Try.prog 56 #[.int .u32 0, .slice A n c] w fun e w' => e = .returned (.int .u32 (csum bs)) ∧ w = w' := by
    have hx0 : bits .xor .u32 0 4294967295 = 4294967295 := by decide
    go_enter Try.func56, Try.ntmps56
    go_wp2
    go_loop [0, 5] (fun v i => ∃ k s : Nat, k ≤ n ∧ s < 4294967296 ∧ v = .int .u32 s ∧ i = .int .i64 k ∧ Hid (cfrom 4294967295 (bs.take k) = s)) (fun _ i => n - (intOf i).toNat)
    case atStart => exact ⟨0, 4294967295, by omega, by omega, by first | rfl | (rw [hx0]; rfl), rfl, rfl⟩
    case round =>
      obtain ⟨k, s, hk, hs, rfl, rfl, hS⟩ := hrel
      by_cases hlt : k < n
      · obtain ⟨x, hx⟩ : ∃ x, bs[k]? = some x := ⟨bs[k]'(by rw [hr.len]; exact hlt), List.getElem?_eq_getElem _⟩
        have hnext : cfrom 4294967295 (bs.take (k + 1)) = cstep s x := by
          rw [List.take_add_one, hx]
          show cfrom _ (_ ++ [x]) = _
          rw [cfrom_snoc, hS.out]
        have Hx := Lib.hid hx
        have Hn := Lib.hid hnext
        have hl := cstep_lt hs x
        clear hx hnext
        go_wp2_with ((with_reducible refine on_index (.tmp 15) ?_); refine wl_at_b rfl _ _ _ rfl el_u8 rfl rfl (by omega) (by omega) hr ?_; intro p x' hx' hx5 hc; have hxx : x' = x := (Option.some.inj ((show bs[k]? = some x' from hx'.out).symm.trans Hx.out)); subst hxx)
        refine (rstep_any s x' w hs _ rfl _ rfl).mono ?_
        rintro e w' ⟨rfl, rfl⟩
        go_wp2
        go_round
        case rel => exact ⟨k + 1, cstep s x', by omega, hl, rfl, by go_num, Hn.out⟩
        case measure => simp [intOf]; omega
      · have hS2 := hS.out
        rw [List.take_of_length_le (by rw [hr.len]; omega)] at hS2
        have hx9 : bits .xor .u32 (s : Int) 4294967295 = ((s ^^^ 4294967295 : Nat) : Int) := u32_xor_nat s 4294967295 hs (by omega)
        have hcs : csum bs = s ^^^ 4294967295 := by unfold csum; rw [hS2]
        have Hcs := Lib.hid hcs
        clear hcs hS2
        go_wp2
        go_ret
        rw [Hcs.out]
        first
          | exact ⟨rfl, rfl⟩
          | exact ⟨congrArg (fun z => Ending.returned (Value.int .u32 z)) hx9, rfl⟩
  refine key.mono ?_
  rintro e w1 ⟨rfl, rfl⟩
  go_wp2
  go_ret
  exact ⟨rfl, rfl⟩
end Go.Proofs.Ytgiefjbdkkdaiaa
namespace Go.Th
open Go.RowKit
section
variable {P : Program} {ops : Array Oper} {rest : List Oper} {o : Oper} {a : Act} {Q : Exit → Act → World → Prop} {w : World}
/-- append, and where the row lies then. -/
theorem wl_appendA (hw : Region.wanted o (yielded ops a.tmps) = true) (s x : Operand) (t : TypeId)
    (ho : o.op = .call { callee := .builtin .append, args := #[s, x], argTypes := #[t, t] })
    {base E : Nat} {z : Value} {bytes : Nat} (el : El P t E z bytes) {α : Type} {f : α → Value} (hf : ∀ x, (f x).oneCell' = true)
    {A : Option Addr} {n c : Nat} (hs : a.eval s = .slice A n c) {xs : List α} (hown : OwS f w base E A n c xs)
    {B : Nat} {A' : Option Addr} {m c' : Nat} (hx : a.eval x = .slice A' m c') {ys : List α} (hr : RdS f w B A' m c' ys)
    (hbytes : (n + m) * bytes ≤ 140737488355328) (hpos : 0 < bytes) (hbase : base ≤ w.heap.size)
    (h : ∀ A'' c'' w', OwS f w' base E A'' (n + m) c'' (xs ++ ys) → w.grownBy w' (rowOf A) → Below base w w' → (A'' = A ∨ A'' = some ⟨w.heap.size, 0, Option.none⟩) → wpList P ops Q rest (a.put o.dst (.slice A'' (n + m) c'')) w') : wpList P ops Q (o :: rest) a w := by
  obtain ⟨i, hi, hz, hsize, hby⟩ := el.info
  have h63 : n + m ≤ maxLen := by
    have := Nat.le_mul_of_pos_right (n + m) hpos
    simp only [maxLen]; omega
  obtain ⟨A'', c'', w', hrun, h2, h3, h4⟩ := run_append (P := P) (ty := o.type) (c' := c') el.ht hi hz hsize hby (by rw [el.cells]; rfl) (by omega) hown.ow (news := ys.map f) (by rw [List.length_map, hr.len]; omega) hr.rd (by
    intro u hu
    obtain ⟨y, _, rfl⟩ := List.mem_map.1 hu
    exact hf y) h63 hbytes hbase
  refine wl_run hw ?_ (h A'' c'' w' ⟨by rw [← List.map_append] at h2; exact h2⟩ h3 ((Below.refl _ _).grown h3 hbase hown.ow.row_ge) h4)
  simp only [execOp, ho, resolve, invoke, builtin, Sem.run_bind, Sem.run_pure, Result.andThen, List.map_toArray, List.map_cons, List.map_nil, hs, hx, hrun]
end
theorem be_beq {l : List UInt8} (h : l.length = 4) {m : Nat} (hm : m < 4294967296) : (l == be m 4) = ((val l : Int) == (m : Int)) := by
  rw [Bool.eq_iff_iff, beq_iff_eq, beq_iff_eq]
  constructor
  · intro e
    rw [e, val_be 4 m (by omega)]
  · intro e
    have e : val l = m := by omega
    have := be_val l
    rw [h, e] at this
    exact this.symm
end Go.Th
namespace Go.Proofs.Ytgiefjbdkkdaiaa
open Go.RowKit Go.Th
set_option linter.unusedVariables false
theorem rput4 (m : Nat) (hm : m < 4294967296) (w : World) : Calls Try.prog 28 #[.int .i64 m, .int .i64 4] w (RetRow w 4 (be m 4) 0) :=
  (rput_nat m 4 w (by omega) (by omega) (by omega)).mono fun e w' hh => hh.1 (by omega)
set_option maxHeartbeats 1000000 in
theorem rfput_any (m : Nat) (hm : m < 4294967296) (M : Int) (hM : (m : Int) = M) (A : Option Addr) (n c : Nat) (w : World) (hn : n ≤ 1000000) (bs : List UInt8) (hr : RdS bv w w.heap.size A n c bs) :
    Calls Try.prog 48 #[.int .u32 M, .slice A n c] w (RetOwn (fput m bs) w) := by
  subst hM
  have hcs := csum_lt (fhead m bs)
  go_enter Try.func48, Try.ntmps48
  go_wp2_with fail
  refine (rput4 m hm w).mono ?_
  rintro e w1 ⟨A1, c1, rfl, how1, hb1⟩
  go_wp2_with ((with_reducible refine on_append (.tmp 15) (.tmp 16) ?_); refine wl_appendS rfl (.tmp 15) (.tmp 16) _ rfl el_u8 (f := bv) (fun _ => rfl) rfl how1 rfl (hr.step hb1) (by omega) (by omega) hb1.size ?_; intro A2 c2 w2 how2 _ hb2)
  have B2 := hb1.trans hb2
  have e5 : be m 4 ++ bs = fhead m bs := rfl
  rw [e5] at how2
  refine (rsum_any A2 _ c2 w2 (by omega) _ _ how2.rd).mono ?_
  rintro e w3 ⟨rfl, rfl⟩
  go_wp2_with fail
  refine (rput4 (csum (fhead m bs)) hcs w2).mono ?_
  rintro e w4 ⟨A4, c4, rfl, how4, hb4⟩
  have B4 := B2.trans (hb4.mono B2.size)
  go_wp2_with ((with_reducible refine on_append (.tmp 25) (.tmp 26) ?_); refine wl_appendS rfl (.tmp 25) (.tmp 26) _ rfl el_u8 (f := bv) (fun _ => rfl) rfl (how2.below hb4) rfl how4.rd (by omega) (by omega) B4.size ?_; intro A5 c5 w5 how5 _ hb5)
  go_ret
  exact ⟨A5, _, c5, rfl, how5, B4.trans hb5⟩
set_option maxHeartbeats 2000000 in
theorem rftake_any (m : Nat) (hm : m < 4294967296) (M : Int) (hM : (m : Int) = M) (A : Option Addr) (n c : Nat) (w : World) (hn : n ≤ 1000000) (bs : List UInt8) (hr : RdS bv w w.heap.size A n c bs) :
    Calls Try.prog 45 #[.int .u32 M, .slice A n c] w (RetTak (ftake m bs) w) := by
  subst hM
  have hl := hr.len
  by_cases h8 : n < 8
  · rw [ftake_short (by omega)]
    go_enter Try.func45, Try.ntmps45
    go_wp2
    go_ret2
    exact ⟨none, 0, 0, rfl, OwS.nil_ _ _ _, Below.refl _ _⟩
  · obtain ⟨n4, hn4⟩ : ∃ k, n = k + 4 := ⟨n - 4, by omega⟩
    subst hn4
    obtain ⟨xh, hh⟩ : ∃ h, bs.take n4 = h := ⟨_, rfl⟩
    obtain ⟨xs, hs⟩ : ∃ s, bs.drop n4 = s := ⟨_, rfl⟩
    have lh : xh.length = n4 := by rw [← hh, List.length_take]; omega
    have ls : xs.length = 4 := by rw [← hs, List.length_drop]; omega
    have hcs := csum_lt xh
    have ht4 : bs.take 4 = xh.take 4 := by rw [← hh, List.take_take, Nat.min_eq_left (by omega)]
    have hd4 : (bs.take n4).drop 4 = xh.drop 4 := by rw [hh]
    have hxs4 : xs.take 4 = xs := List.take_of_length_le (by omega)
    have l4 : (xh.take 4).length = 4 := by rw [List.length_take]; omega
    rw [ftake_parts (h := xh) (s := xs) (by omega) ls (by rw [← hh, ← hs, List.take_append_drop])]
    obtain ⟨b1, hb1⟩ : ∃ b, (xh.take 4 == be m 4) = b := ⟨_, rfl⟩
    obtain ⟨b2, hb2⟩ : ∃ b, (xs == be (csum xh) 4) = b := ⟨_, rfl⟩
    have hv1 : ((val (xh.take 4) : Int) == (m : Int)) = b1 := by rw [← hb1]; exact (be_beq l4 hm).symm
    have hv2 : ((val xs : Int) == (csum xh : Int)) = b2 := by rw [← hb2]; exact (be_beq ls hcs).symm
    have hgoal : (if xh.take 4 = be m 4 then (if xs = be (csum xh) 4 then (xh.drop 4, (0 : Int)) else ([], 6)) else ([], 5)) = if b1 = true then (if b2 = true then (xh.drop 4, 0) else ([], 6)) else ([], 5) := by
      rw [← hb1, ← hb2]
      simp only [beq_iff_eq]
    rw [hgoal]
    obtain ⟨r, hr0⟩ : ∃ r, (if b1 = true then (if b2 = true then (xh.drop 4, (0 : Int)) else ([], 6)) else ([], 5)) = r := ⟨_, rfl⟩
    rw [hr0]
    have HR := Lib.hid hr0
    have Hh := Lib.hid hh
    have Hs := Lib.hid hs
    have Ht4 := Lib.hid ht4
    have Hx4 := Lib.hid hxs4
    have h8i : decide ((n4 : Int) + 4 < 8) = false := decide_eq_false (by omega)
    have h8n : decide (n4 + 4 < 8) = false := decide_eq_false (by omega)
    have hv1n : (val (xh.take 4) == m) = b1 := by rw [← hv1, Bool.eq_iff_iff, beq_iff_eq, beq_iff_eq]; omega
    have hv2n : (val xs == csum xh) = b2 := by rw [← hv2, Bool.eq_iff_iff, beq_iff_eq, beq_iff_eq]; omega
    clear hgoal hr0 hb1 hb2 hh hs lh ls ht4 hd4 hxs4 l4
    go_enter Try.func45, Try.ntmps45
    go_wp2_with fail
    refine (rtake_yes A _ c 4 w (by omega) (by omega) (by omega) (by omega) _ _ hr).mono ?_
    rintro e w1 ⟨rfl, rfl⟩
    rw [Ht4.out]
    cases b1 with
    | false =>
      go_wp2
      go_ret2
      rw [← HR.out]
      exact ⟨none, 0, 0, rfl, OwS.nil_ _ _ _, Below.refl _ _⟩
    | true =>
      go_wp2_with ((with_reducible refine on_slice (.tmp 25) ?_); refine wl_cut_l rfl _ (.tmp 25) el_u8 rfl hr _ rfl rfl n4 (by omega) ?_; intro A28 r28; rw [Hs.out, show n4 + 4 - n4 = 4 by omega] at r28; rw [show n4 + 4 - n4 = 4 by omega])
      refine (rtake_yes A28 _ _ 4 w (by omega) (by omega) (by omega) (by omega) _ _ r28).mono ?_
      rintro e w2 ⟨rfl, rfl⟩
      rw [Hx4.out]
      go_wp2_with ((with_reducible refine on_slice (.tmp 33) ?_); refine wl_cut_h rfl _ (.tmp 33) el_u8 rfl hr _ rfl rfl n4 (by omega) ?_; intro A36 r36; rw [Hh.out] at r36)
      refine (rsum_any A36 _ _ w (by omega) _ _ r36).mono ?_
      rintro e w3 ⟨rfl, rfl⟩
      cases b2 with
      | false =>
        go_wp2
        go_ret2
        rw [← HR.out]
        exact ⟨none, 0, 0, rfl, OwS.nil_ _ _ _, Below.refl _ _⟩
      | true =>
        go_wp2_with (first
          | ((with_reducible refine on_slice (.tmp 41) ?_); refine wl_cut_lh rfl _ (.tmp 41) el_u8 rfl (hr.alloc _) _ _ rfl rfl rfl 4 n4 (by omega) ?_; intro A44 r44; rw [Hh.out] at r44)
          | ((with_reducible refine on_append (.tmp 40) (.tmp 44) ?_); refine wl_appendS rfl (.tmp 40) (.tmp 44) _ rfl el_u8 (f := bv) (fun _ => rfl) rfl (OwS.lit (base := w.heap.size) (e := 5) (xs := []) w #[] 0 (Nat.le_refl _) (by simp [maxLen]) rfl rfl) rfl r44 (by omega) (by omega) (by simp) ?_; intro A5 c5 w5 how5 _ hb5; rw [Nat.zero_add, List.nil_append] at how5))
        go_ret2
        rw [← HR.out]
        exact ⟨A5, _, c5, rfl, how5, (below_alloc w (Nat.le_refl _) _).trans hb5⟩
theorem rgput_natF (x : Nat) (h : x < 268435456) (w : World) : Calls Try.prog 34 #[.int .i64 x] w fun e w' => ∃ A c, e = .returned (.tuple #[.slice A (gsize x) c, .int .i64 0]) ∧ OwS bv w' w.heap.size 5 A (gsize x) c (gput x) ∧ Below w.heap.size w w' := by
  refine (rgput_in x w h).mono ?_
  rintro e w' ⟨A, n, c, rfl, how, hb⟩
  have : n = gsize x := by rw [← how.len, gput_length]
  subst this
  exact ⟨A, c, rfl, how, hb⟩
set_option maxHeartbeats 2000000 in
theorem rsec_any (t : UInt8) (T : Int) (hT : (t.toNat : Int) = T) (A : Option Addr) (n c : Nat) (w : World) (hm : n ≤ 1000000) (B : Nat) (bs : List UInt8) (hr : RdS bv w B A n c bs) (hB : B ≤ w.heap.size) :
    Calls Try.prog 46 #[.int .u8 T, .slice A n c] w (RetSec (fsec t bs) w) := by
  have hs := gsize_pos n
  obtain ⟨s, hs0⟩ : ∃ s, gsize n = s := ⟨_, rfl⟩
  rw [hs0] at hs
  obtain ⟨hs1, hs2⟩ := hs
  have Hs := Lib.hid hs0
  have HT := Lib.hid hT
  clear hs0 hT
  go_enter Try.func46, Try.ntmps46
  go_wp2_with fail
  refine (rgput_natF n (by omega) _).mono ?_
  rintro e w1 ⟨A1, c1, rfl, how1, hb1⟩
  rw [Hs.out] at how1 ⊢
  have r1 := hr.heap.step hb1
  go_wp2_with (first
    | ((with_reducible refine on_append (.tmp 18) (.tmp 19) ?_); refine wl_appendS rfl (.tmp 18) (.tmp 19) _ rfl el_u8 (f := bv) (fun _ => rfl) rfl (OwS.lit (base := w1.heap.size) (e := 5) (xs := [t]) w1 #[.int .u8 T] 1 (Nat.le_refl _) (by simp [maxLen]) rfl (by simp [bv, HT.out])) rfl (how1.rd.alloc _) (by omega) (by omega) (by simp) ?_; intro A3 c3 w3 how3 _ hb3; have H3 : Below w1.heap.size w1 w3 := (below_alloc w1 (Nat.le_refl _) _).trans hb3)
    | ((with_reducible refine on_append (.tmp 20) (.tmp 21) ?_); refine wl_appendS rfl (.tmp 20) (.tmp 21) _ rfl el_u8 (f := bv) (fun _ => rfl) rfl how3 rfl (r1.step H3) (by omega) (by omega) H3.size ?_; intro A5 c5 w5 how5 _ hb5; have H5 := H3.trans hb5))
  go_ret2
  refine ⟨A5, 1 + s + n, c5, rfl, ?_, next hb1 H5⟩
  have e : fsec t bs = [t] ++ gput n ++ bs := by simp [fsec, hr.len]
  rw [e]
  exact how5.base_le hb1.size
set_option maxHeartbeats 4000000 in
theorem ropen_any (t : UInt8) (T : Int) (hT : (t.toNat : Int) = T) (A : Option Addr) (n c : Nat) (w : World) (hm : n ≤ 1000000) (bs : List UInt8) (hr : RdS bv w w.heap.size A n c bs) :
    Calls Try.prog 47 #[.int .u8 T, .slice A n c] w (RetOpen (fopen t bs) w) := by
  subst hT
  have hl := hr.len
  cases bs with
  | nil =>
    subst hl
    go_enter Try.func47, Try.ntmps47
    go_wp2
    go_ret3
    exact RetOpen.nil 2 w
  | cons b r =>
    simp only [List.length_cons] at hl
    subst hl
    rw [fopen_cons]
    by_cases hb : b = t
    · subst hb
      rw [if_pos rfl]
      have e0 : ((b.toNat : Int) == (b.toNat : Int)) = true := by simp
      have hd1 : (b :: r).drop 1 = r := rfl
      rcases gtake_what r with ⟨hg, _⟩ | hg | ⟨m, k, hg, hm1, hk1, hk2, hk4, _⟩
      · rw [hg]
        have Hg := Lib.hid hg
        clear hg
        go_enter Try.func47, Try.ntmps47
        go_wp2_with (first
          | ((with_reducible refine on_index (.tmp 13) ?_); refine wl_at_b rfl _ _ _ rfl el_u8 rfl rfl (by omega) (by omega) hr ?_; intro p x hx hx5 hc; have hxb : x = b := (Option.some.inj hx.out).symm; subst hxb)
          | ((with_reducible refine on_slice (.tmp 19) ?_); refine wl_cut_l rfl _ _ el_u8 rfl hr _ rfl rfl 1 (by omega) ?_; intro A1 r1; rw [hd1] at r1)
          | (go_at_call 37; refine (rgtake_any _ _ _ _ (by omega) _ _ r1).mono ?_; rintro e w1 ⟨rfl, rfl⟩; rw [Hg.out]))
        go_ret3
        exact RetOpen.nil 2 w
      · rw [hg]
        have Hg := Lib.hid hg
        clear hg
        go_enter Try.func47, Try.ntmps47
        go_wp2_with (first
          | ((with_reducible refine on_index (.tmp 13) ?_); refine wl_at_b rfl _ _ _ rfl el_u8 rfl rfl (by omega) (by omega) hr ?_; intro p x hx hx5 hc; have hxb : x = b := (Option.some.inj hx.out).symm; subst hxb)
          | ((with_reducible refine on_slice (.tmp 19) ?_); refine wl_cut_l rfl _ _ el_u8 rfl hr _ rfl rfl 1 (by omega) ?_; intro A1 r1; rw [hd1] at r1)
          | (go_at_call 37; refine (rgtake_any _ _ _ _ (by omega) _ _ r1).mono ?_; rintro e w1 ⟨rfl, rfl⟩; rw [Hg.out]))
        go_ret3
        exact RetOpen.nil 3 w
      · have hdl : (r.drop k).length = r.length - k := List.length_drop ..
        have hd5 : ((b :: r).take (1 + k + m)).drop (1 + k) = (r.drop k).take m := by
          rw [List.drop_take, show 1 + k + m - (1 + k) = m by omega, Nat.add_comm 1 k]
          rfl
        have hd6 : (b :: r).drop (1 + k + m) = (r.drop k).drop m := by
          rw [List.drop_drop, show 1 + k + m = (k + m) + 1 by omega]
          rfl
        have e5 : 1 + k + m - (1 + k) = m := by omega
        rw [hg, if_pos rfl]
        show Calls _ _ _ _ (RetOpen (if (r.drop k).length < m then _ else ((r.drop k).take m, (r.drop k).drop m, 0)) w)
        rw [hdl]
        have Hg := Lib.hid hg
        clear hg
        by_cases hms : r.length - k < m
        · rw [if_pos hms]
          go_enter Try.func47, Try.ntmps47
          go_wp2_with (first
          | ((with_reducible refine on_index (.tmp 13) ?_); refine wl_at_b rfl _ _ _ rfl el_u8 rfl rfl (by omega) (by omega) hr ?_; intro p x hx hx5 hc; have hxb : x = b := (Option.some.inj hx.out).symm; subst hxb)
          | ((with_reducible refine on_slice (.tmp 19) ?_); refine wl_cut_l rfl _ _ el_u8 rfl hr _ rfl rfl 1 (by omega) ?_; intro A1 r1; rw [hd1] at r1)
          | (go_at_call 37; refine (rgtake_any _ _ _ _ (by omega) _ _ r1).mono ?_; rintro e w1 ⟨rfl, rfl⟩; rw [Hg.out]))
          go_ret3
          exact RetOpen.nil 2 w
        · rw [if_neg hms]
          go_enter Try.func47, Try.ntmps47
          go_wp2_with (first
          | ((with_reducible refine on_index (.tmp 13) ?_); refine wl_at_b rfl _ _ _ rfl el_u8 rfl rfl (by omega) (by omega) hr ?_; intro p x hx hx5 hc; have hxb : x = b := (Option.some.inj hx.out).symm; subst hxb)
          | ((with_reducible refine on_slice (.tmp 19) ?_); refine wl_cut_l rfl _ _ el_u8 rfl hr _ rfl rfl 1 (by omega) ?_; intro A1 r1; rw [hd1] at r1)
          | (go_at_call 37; refine (rgtake_any _ _ _ _ (by omega) _ _ r1).mono ?_; rintro e w1 ⟨rfl, rfl⟩; rw [Hg.out]))
          have q1 := RdC.of_reach (B' := w.heap.size) (hr.step (bdrew1 w)) (Nat.le_refl _)
          refine wp_region_tree (.float 1 8 (.float 11 6 (.two 0 (.two 9 (.one 10 (.one 17 (.float 18 3 .done))) 10 (.one 9 (.one 17 (.float 18 3 .done)))) 10 (.one 0 (.one 9 (.one 17 (.float 18 3 .done))))))) (Th.Reach w.heap.size) (Th.Reach.trans _) (Th.Reach.refl _) (by kernel_rfl) (by kernel_rfl) (fun KT hKT => ?_)
          refine wpTree_float (fun KF hKF => ?_)
          simp only [List.drop, List.take]
          repeat (first | ((with_reducible refine onq_sl (.tmp 36) ?_); refine wq_cut_lh rfl _ (.tmp 36) el_u8 rfl q1 (Th.Reach.refl _ _) _ _ rfl rfl rfl (1 + k) (1 + k + m) (by omega) ?_; intro A43 r43; rw [hd5, e5] at r43; rw [e5]) | ((with_reducible refine onq_sl (.tmp 46) ?_); refine wq_cut_l rfl _ (.tmp 46) el_u8 rfl q1 (Th.Reach.refl _ _) _ rfl rfl (1 + k + m) (by omega) ?_; intro A51 r51; rw [hd6] at r51) | go_big_quiet_step (fail) | quiet_step (fail))
          refine wpQuiet_nil ?_
          refine hKF _ ?_
          clear hKF KF
          refine wpTree_float (fun KF hKF => ?_)
          simp only [List.drop, List.take]
          repeat (first | ((with_reducible refine onq_sl (.tmp 36) ?_); refine wq_cut_lh rfl _ (.tmp 36) el_u8 rfl q1 (Th.Reach.refl _ _) _ _ rfl rfl rfl (1 + k) (1 + k + m) (by omega) ?_; intro A43 r43; rw [hd5, e5] at r43; rw [e5]) | ((with_reducible refine onq_sl (.tmp 46) ?_); refine wq_cut_l rfl _ (.tmp 46) el_u8 rfl q1 (Th.Reach.refl _ _) _ rfl rfl (1 + k + m) (by omega) ?_; intro A51 r51; rw [hd6] at r51) | go_big_quiet_step (fail) | quiet_step (fail))
          refine wpQuiet_nil ?_
          refine hKF _ ?_
          clear hKF KF
          refine wpTree_two ?_ ?_
          refine wpTree_one (fun KO hKO => ?_)
          simp only [List.drop, List.take]
          go_wp2_with (first | ((with_reducible refine on_append (.tmp 35) (.tmp 43) ?_); first | (refine wl_appendA rfl (.tmp 35) (.tmp 43) _ rfl el_u8 (f := bv) (fun _ => rfl) rfl (OwS.lit (base := w.heap.size) (e := 5) (xs := []) w.drew #[] 0 (Nat.le_refl _) (by simp [maxLen]) rfl rfl) rfl (r43.rd _ (Th.Reach.of (below_alloc w.drew (Nat.le_refl _) _))) (by omega) (by omega) (by first | (simp; done) | (simp; omega) | omega) ?_; intro A44 c44 w44 how44 hg44 hb44 hA44; rw [Nat.zero_add, List.nil_append] at how44; have H44 : Below w.heap.size w.drew w44 := Below.trans (below_alloc w.drew (Nat.le_refl _) _) hb44; have z44 : w.heap.size ≤ w44.heap.size := (by have := H44.size; simpa using this); have l45 := (OwS.lit (base := w.heap.size) (e := 5) (f := bv) (xs := []) w44 #[] 0 z44 (by simp [maxLen]) rfl rfl); have hz44 : ∀ g, A44 = some ⟨g, 0, none⟩ → g < w44.heap.size := (by intro g hg; rcases how44.ow.form with ⟨e, _⟩ | ⟨g', e, _, hl⟩ <;> (rw [e] at hg) <;> simp at hg; omega); have how44 := how44.alloc (.cells #[] 5); have hne : ∀ g, A44 = some ⟨g, 0, none⟩ → rowOf (some ⟨w44.heap.size, 0, none⟩) ≠ some g := (by intro g hg; have := hz44 g hg; simp [rowOf]; omega)) | (refine wl_appendA rfl (.tmp 35) (.tmp 43) _ rfl el_u8 (f := bv) (fun _ => rfl) rfl ((OwS.lit (base := w.heap.size) (e := 5) (xs := []) w.drew #[] 0 (Nat.le_refl _) (by simp [maxLen]) rfl rfl).alloc (.cells #[] 5)) rfl (r43.rd _ (Th.Reach.of ((below_alloc w.drew (Nat.le_refl _) _).alloc (by simp) _))) (by omega) (by omega) (by first | (simp; done) | (simp; omega) | omega) ?_; intro A44 c44 w44 how44 hg44 hb44 hA44; rw [Nat.zero_add, List.nil_append] at how44; have H44 : Below w.heap.size w.drew w44 := Below.trans ((below_alloc w.drew (Nat.le_refl _) _).alloc (by simp) _) hb44; have z44 : w.heap.size ≤ w44.heap.size := (by have := H44.size; simpa using this); have l45 := OwS.grown (OwS.lit' (base := w.heap.size) (e := 5) (f := bv) (xs := []) (w.drew.alloc (.cells #[] 5)) #[] 0 (w.heap.size + 1) (by simp) (by first | (simp; done) | (simp; omega) | omega) (by simp [maxLen]) rfl rfl) hg44 (by intro g hg; simp [rowOf] at hg ⊢; omega); have hne : ∀ g, A44 = some ⟨g, 0, none⟩ → rowOf (some ⟨w.heap.size + 1, 0, none⟩) ≠ some g := (by intro g hg; rcases hA44 with e | e <;> (rw [e] at hg; simp at hg; simp [rowOf]; omega))) | (refine wl_appendA rfl (.tmp 35) (.tmp 43) _ rfl el_u8 (f := bv) (fun _ => rfl) rfl (OwS.lit' (base := w.heap.size) (e := 5) (xs := []) (w.drew.alloc (.cells #[] 5)) #[] 0 (w.heap.size + 1) (by simp) (by first | (simp; done) | (simp; omega) | omega) (by simp [maxLen]) rfl rfl) rfl (r43.rd _ (Th.Reach.of ((below_alloc w.drew (Nat.le_refl _) _).alloc (by simp) _))) (by omega) (by omega) (by first | (simp; done) | (simp; omega) | omega) ?_; intro A44 c44 w44 how44 hg44 hb44 hA44; rw [Nat.zero_add, List.nil_append] at how44; have H44 : Below w.heap.size w.drew w44 := Below.trans ((below_alloc w.drew (Nat.le_refl _) _).alloc (by simp) _) hb44; have z44 : w.heap.size ≤ w44.heap.size := (by have := H44.size; simpa using this); have l45 := OwS.grown ((OwS.lit (base := w.heap.size) (e := 5) (f := bv) (xs := []) w.drew #[] 0 (Nat.le_refl _) (by simp [maxLen]) rfl rfl).alloc (.cells #[] 5)) hg44 (by intro g hg; simp [rowOf] at hg ⊢; omega); have hne : ∀ g, A44 = some ⟨g, 0, none⟩ → rowOf (some ⟨w.heap.size, 0, none⟩) ≠ some g := (by intro g hg; rcases hA44 with e | e <;> (rw [e] at hg; simp at hg; simp [rowOf]; omega)))) | ((with_reducible refine on_append (.tmp 45) (.tmp 51) ?_); first | (refine wl_appendA rfl (.tmp 45) (.tmp 51) _ rfl el_u8 (f := bv) (fun _ => rfl) rfl l45 rfl (r51.rd _ (Th.Reach.of H44)) (by omega) (by omega) z44 ?_; intro A52 c52 w52 how52 hg52 hb52 hA52; rw [Nat.zero_add, List.nil_append] at how52; have H52 := H44.trans hb52; have how44 := how44.grown hg52 hne) | (refine wl_appendA rfl (.tmp 45) (.tmp 51) _ rfl el_u8 (f := bv) (fun _ => rfl) rfl l45 rfl (r51.rd _ (Th.Reach.of (H44.alloc z44 _))) (by omega) (by omega) (by simp; omega) ?_; intro A52 c52 w52 how52 hg52 hb52 hA52; rw [Nat.zero_add, List.nil_append] at how52; have H52 := (H44.alloc z44 _).trans hb52; have how44 := how44.grown hg52 hne)))
          refine anch_end (Th.Reach.of (by first | exact Below.refl _ _ | exact below_alloc _ (by first | omega | (simp; done) | (simp; omega)) _ | exact below_alloc2 _ (by first | omega | (simp; done) | (simp; omega)) _ _ | exact below_alloc2d _ (by simp) _ _ | exact bdrew _ _ | assumption | (exact Below.mono (by assumption) (by first | (simp; done) | (simp; omega) | omega | assumption)))) (hKO _ _ ?_)
          clear hKO KO
          refine wpTree_two ?_ ?_
          refine wpTree_one (fun KO hKO => ?_)
          simp only [List.drop, List.take]
          go_wp2_with (first | ((with_reducible refine on_append (.tmp 35) (.tmp 43) ?_); first | (refine wl_appendA rfl (.tmp 35) (.tmp 43) _ rfl el_u8 (f := bv) (fun _ => rfl) rfl (OwS.lit (base := w.heap.size) (e := 5) (xs := []) w.drew #[] 0 (Nat.le_refl _) (by simp [maxLen]) rfl rfl) rfl (r43.rd _ (Th.Reach.of (below_alloc w.drew (Nat.le_refl _) _))) (by omega) (by omega) (by first | (simp; done) | (simp; omega) | omega) ?_; intro A44 c44 w44 how44 hg44 hb44 hA44; rw [Nat.zero_add, List.nil_append] at how44; have H44 : Below w.heap.size w.drew w44 := Below.trans (below_alloc w.drew (Nat.le_refl _) _) hb44; have z44 : w.heap.size ≤ w44.heap.size := (by have := H44.size; simpa using this); have l45 := (OwS.lit (base := w.heap.size) (e := 5) (f := bv) (xs := []) w44 #[] 0 z44 (by simp [maxLen]) rfl rfl); have hz44 : ∀ g, A44 = some ⟨g, 0, none⟩ → g < w44.heap.size := (by intro g hg; rcases how44.ow.form with ⟨e, _⟩ | ⟨g', e, _, hl⟩ <;> (rw [e] at hg) <;> simp at hg; omega); have how44 := how44.alloc (.cells #[] 5); have hne : ∀ g, A44 = some ⟨g, 0, none⟩ → rowOf (some ⟨w44.heap.size, 0, none⟩) ≠ some g := (by intro g hg; have := hz44 g hg; simp [rowOf]; omega)) | (refine wl_appendA rfl (.tmp 35) (.tmp 43) _ rfl el_u8 (f := bv) (fun _ => rfl) rfl ((OwS.lit (base := w.heap.size) (e := 5) (xs := []) w.drew #[] 0 (Nat.le_refl _) (by simp [maxLen]) rfl rfl).alloc (.cells #[] 5)) rfl (r43.rd _ (Th.Reach.of ((below_alloc w.drew (Nat.le_refl _) _).alloc (by simp) _))) (by omega) (by omega) (by first | (simp; done) | (simp; omega) | omega) ?_; intro A44 c44 w44 how44 hg44 hb44 hA44; rw [Nat.zero_add, List.nil_append] at how44; have H44 : Below w.heap.size w.drew w44 := Below.trans ((below_alloc w.drew (Nat.le_refl _) _).alloc (by simp) _) hb44; have z44 : w.heap.size ≤ w44.heap.size := (by have := H44.size; simpa using this); have l45 := OwS.grown (OwS.lit' (base := w.heap.size) (e := 5) (f := bv) (xs := []) (w.drew.alloc (.cells #[] 5)) #[] 0 (w.heap.size + 1) (by simp) (by first | (simp; done) | (simp; omega) | omega) (by simp [maxLen]) rfl rfl) hg44 (by intro g hg; simp [rowOf] at hg ⊢; omega); have hne : ∀ g, A44 = some ⟨g, 0, none⟩ → rowOf (some ⟨w.heap.size + 1, 0, none⟩) ≠ some g := (by intro g hg; rcases hA44 with e | e <;> (rw [e] at hg; simp at hg; simp [rowOf]; omega))) | (refine wl_appendA rfl (.tmp 35) (.tmp 43) _ rfl el_u8 (f := bv) (fun _ => rfl) rfl (OwS.lit' (base := w.heap.size) (e := 5) (xs := []) (w.drew.alloc (.cells #[] 5)) #[] 0 (w.heap.size + 1) (by simp) (by first | (simp; done) | (simp; omega) | omega) (by simp [maxLen]) rfl rfl) rfl (r43.rd _ (Th.Reach.of ((below_alloc w.drew (Nat.le_refl _) _).alloc (by simp) _))) (by omega) (by omega) (by first | (simp; done) | (simp; omega) | omega) ?_; intro A44 c44 w44 how44 hg44 hb44 hA44; rw [Nat.zero_add, List.nil_append] at how44; have H44 : Below w.heap.size w.drew w44 := Below.trans ((below_alloc w.drew (Nat.le_refl _) _).alloc (by simp) _) hb44; have z44 : w.heap.size ≤ w44.heap.size := (by have := H44.size; simpa using this); have l45 := OwS.grown ((OwS.lit (base := w.heap.size) (e := 5) (f := bv) (xs := []) w.drew #[] 0 (Nat.le_refl _) (by simp [maxLen]) rfl rfl).alloc (.cells #[] 5)) hg44 (by intro g hg; simp [rowOf] at hg ⊢; omega); have hne : ∀ g, A44 = some ⟨g, 0, none⟩ → rowOf (some ⟨w.heap.size, 0, none⟩) ≠ some g := (by intro g hg; rcases hA44 with e | e <;> (rw [e] at hg; simp at hg; simp [rowOf]; omega)))) | ((with_reducible refine on_append (.tmp 45) (.tmp 51) ?_); first | (refine wl_appendA rfl (.tmp 45) (.tmp 51) _ rfl el_u8 (f := bv) (fun _ => rfl) rfl l45 rfl (r51.rd _ (Th.Reach.of H44)) (by omega) (by omega) z44 ?_; intro A52 c52 w52 how52 hg52 hb52 hA52; rw [Nat.zero_add, List.nil_append] at how52; have H52 := H44.trans hb52; have how44 := how44.grown hg52 hne) | (refine wl_appendA rfl (.tmp 45) (.tmp 51) _ rfl el_u8 (f := bv) (fun _ => rfl) rfl l45 rfl (r51.rd _ (Th.Reach.of (H44.alloc z44 _))) (by omega) (by omega) (by simp; omega) ?_; intro A52 c52 w52 how52 hg52 hb52 hA52; rw [Nat.zero_add, List.nil_append] at how52; have H52 := (H44.alloc z44 _).trans hb52; have how44 := how44.grown hg52 hne)))
          refine anch_end (Th.Reach.of (by first | exact Below.refl _ _ | exact below_alloc _ (by first | omega | (simp; done) | (simp; omega)) _ | exact below_alloc2 _ (by first | omega | (simp; done) | (simp; omega)) _ _ | exact below_alloc2d _ (by simp) _ _ | exact bdrew _ _ | assumption | (exact Below.mono (by assumption) (by first | (simp; done) | (simp; omega) | omega | assumption)))) (hKO _ _ ?_)
          clear hKO KO
          refine wpTree_one (fun KO hKO => ?_)
          simp only [List.drop, List.take]
          go_wp2_with (first | ((with_reducible refine on_append (.tmp 35) (.tmp 43) ?_); first | (refine wl_appendA rfl (.tmp 35) (.tmp 43) _ rfl el_u8 (f := bv) (fun _ => rfl) rfl (OwS.lit (base := w.heap.size) (e := 5) (xs := []) w.drew #[] 0 (Nat.le_refl _) (by simp [maxLen]) rfl rfl) rfl (r43.rd _ (Th.Reach.of (below_alloc w.drew (Nat.le_refl _) _))) (by omega) (by omega) (by first | (simp; done) | (simp; omega) | omega) ?_; intro A44 c44 w44 how44 hg44 hb44 hA44; rw [Nat.zero_add, List.nil_append] at how44; have H44 : Below w.heap.size w.drew w44 := Below.trans (below_alloc w.drew (Nat.le_refl _) _) hb44; have z44 : w.heap.size ≤ w44.heap.size := (by have := H44.size; simpa using this); have l45 := (OwS.lit (base := w.heap.size) (e := 5) (f := bv) (xs := []) w44 #[] 0 z44 (by simp [maxLen]) rfl rfl); have hz44 : ∀ g, A44 = some ⟨g, 0, none⟩ → g < w44.heap.size := (by intro g hg; rcases how44.ow.form with ⟨e, _⟩ | ⟨g', e, _, hl⟩ <;> (rw [e] at hg) <;> simp at hg; omega); have how44 := how44.alloc (.cells #[] 5); have hne : ∀ g, A44 = some ⟨g, 0, none⟩ → rowOf (some ⟨w44.heap.size, 0, none⟩) ≠ some g := (by intro g hg; have := hz44 g hg; simp [rowOf]; omega)) | (refine wl_appendA rfl (.tmp 35) (.tmp 43) _ rfl el_u8 (f := bv) (fun _ => rfl) rfl ((OwS.lit (base := w.heap.size) (e := 5) (xs := []) w.drew #[] 0 (Nat.le_refl _) (by simp [maxLen]) rfl rfl).alloc (.cells #[] 5)) rfl (r43.rd _ (Th.Reach.of ((below_alloc w.drew (Nat.le_refl _) _).alloc (by simp) _))) (by omega) (by omega) (by first | (simp; done) | (simp; omega) | omega) ?_; intro A44 c44 w44 how44 hg44 hb44 hA44; rw [Nat.zero_add, List.nil_append] at how44; have H44 : Below w.heap.size w.drew w44 := Below.trans ((below_alloc w.drew (Nat.le_refl _) _).alloc (by simp) _) hb44; have z44 : w.heap.size ≤ w44.heap.size := (by have := H44.size; simpa using this); have l45 := OwS.grown (OwS.lit' (base := w.heap.size) (e := 5) (f := bv) (xs := []) (w.drew.alloc (.cells #[] 5)) #[] 0 (w.heap.size + 1) (by simp) (by first | (simp; done) | (simp; omega) | omega) (by simp [maxLen]) rfl rfl) hg44 (by intro g hg; simp [rowOf] at hg ⊢; omega); have hne : ∀ g, A44 = some ⟨g, 0, none⟩ → rowOf (some ⟨w.heap.size + 1, 0, none⟩) ≠ some g := (by intro g hg; rcases hA44 with e | e <;> (rw [e] at hg; simp at hg; simp [rowOf]; omega))) | (refine wl_appendA rfl (.tmp 35) (.tmp 43) _ rfl el_u8 (f := bv) (fun _ => rfl) rfl (OwS.lit' (base := w.heap.size) (e := 5) (xs := []) (w.drew.alloc (.cells #[] 5)) #[] 0 (w.heap.size + 1) (by simp) (by first | (simp; done) | (simp; omega) | omega) (by simp [maxLen]) rfl rfl) rfl (r43.rd _ (Th.Reach.of ((below_alloc w.drew (Nat.le_refl _) _).alloc (by simp) _))) (by omega) (by omega) (by first | (simp; done) | (simp; omega) | omega) ?_; intro A44 c44 w44 how44 hg44 hb44 hA44; rw [Nat.zero_add, List.nil_append] at how44; have H44 : Below w.heap.size w.drew w44 := Below.trans ((below_alloc w.drew (Nat.le_refl _) _).alloc (by simp) _) hb44; have z44 : w.heap.size ≤ w44.heap.size := (by have := H44.size; simpa using this); have l45 := OwS.grown ((OwS.lit (base := w.heap.size) (e := 5) (f := bv) (xs := []) w.drew #[] 0 (Nat.le_refl _) (by simp [maxLen]) rfl rfl).alloc (.cells #[] 5)) hg44 (by intro g hg; simp [rowOf] at hg ⊢; omega); have hne : ∀ g, A44 = some ⟨g, 0, none⟩ → rowOf (some ⟨w.heap.size, 0, none⟩) ≠ some g := (by intro g hg; rcases hA44 with e | e <;> (rw [e] at hg; simp at hg; simp [rowOf]; omega)))) | ((with_reducible refine on_append (.tmp 45) (.tmp 51) ?_); first | (refine wl_appendA rfl (.tmp 45) (.tmp 51) _ rfl el_u8 (f := bv) (fun _ => rfl) rfl l45 rfl (r51.rd _ (Th.Reach.of H44)) (by omega) (by omega) z44 ?_; intro A52 c52 w52 how52 hg52 hb52 hA52; rw [Nat.zero_add, List.nil_append] at how52; have H52 := H44.trans hb52; have how44 := how44.grown hg52 hne) | (refine wl_appendA rfl (.tmp 45) (.tmp 51) _ rfl el_u8 (f := bv) (fun _ => rfl) rfl l45 rfl (r51.rd _ (Th.Reach.of (H44.alloc z44 _))) (by omega) (by omega) (by simp; omega) ?_; intro A52 c52 w52 how52 hg52 hb52 hA52; rw [Nat.zero_add, List.nil_append] at how52; have H52 := (H44.alloc z44 _).trans hb52; have how44 := how44.grown hg52 hne)))
          refine anch_end (Th.Reach.of (by first | exact Below.refl _ _ | exact below_alloc _ (by first | omega | (simp; done) | (simp; omega)) _ | exact below_alloc2 _ (by first | omega | (simp; done) | (simp; omega)) _ _ | exact below_alloc2d _ (by simp) _ _ | exact bdrew _ _ | assumption | (exact Below.mono (by assumption) (by first | (simp; done) | (simp; omega) | omega | assumption)))) (hKO _ _ ?_)
          clear hKO KO
          refine wpTree_one (fun KO hKO => ?_)
          simp only [List.drop, List.take]
          go_wp2_with (first | ((with_reducible refine on_append (.tmp 35) (.tmp 43) ?_); first | (refine wl_appendA rfl (.tmp 35) (.tmp 43) _ rfl el_u8 (f := bv) (fun _ => rfl) rfl (OwS.lit (base := w.heap.size) (e := 5) (xs := []) w.drew #[] 0 (Nat.le_refl _) (by simp [maxLen]) rfl rfl) rfl (r43.rd _ (Th.Reach.of (below_alloc w.drew (Nat.le_refl _) _))) (by omega) (by omega) (by first | (simp; done) | (simp; omega) | omega) ?_; intro A44 c44 w44 how44 hg44 hb44 hA44; rw [Nat.zero_add, List.nil_append] at how44; have H44 : Below w.heap.size w.drew w44 := Below.trans (below_alloc w.drew (Nat.le_refl _) _) hb44; have z44 : w.heap.size ≤ w44.heap.size := (by have := H44.size; simpa using this); have l45 := (OwS.lit (base := w.heap.size) (e := 5) (f := bv) (xs := []) w44 #[] 0 z44 (by simp [maxLen]) rfl rfl); have hz44 : ∀ g, A44 = some ⟨g, 0, none⟩ → g < w44.heap.size := (by intro g hg; rcases how44.ow.form with ⟨e, _⟩ | ⟨g', e, _, hl⟩ <;> (rw [e] at hg) <;> simp at hg; omega); have how44 := how44.alloc (.cells #[] 5); have hne : ∀ g, A44 = some ⟨g, 0, none⟩ → rowOf (some ⟨w44.heap.size, 0, none⟩) ≠ some g := (by intro g hg; have := hz44 g hg; simp [rowOf]; omega)) | (refine wl_appendA rfl (.tmp 35) (.tmp 43) _ rfl el_u8 (f := bv) (fun _ => rfl) rfl ((OwS.lit (base := w.heap.size) (e := 5) (xs := []) w.drew #[] 0 (Nat.le_refl _) (by simp [maxLen]) rfl rfl).alloc (.cells #[] 5)) rfl (r43.rd _ (Th.Reach.of ((below_alloc w.drew (Nat.le_refl _) _).alloc (by simp) _))) (by omega) (by omega) (by first | (simp; done) | (simp; omega) | omega) ?_; intro A44 c44 w44 how44 hg44 hb44 hA44; rw [Nat.zero_add, List.nil_append] at how44; have H44 : Below w.heap.size w.drew w44 := Below.trans ((below_alloc w.drew (Nat.le_refl _) _).alloc (by simp) _) hb44; have z44 : w.heap.size ≤ w44.heap.size := (by have := H44.size; simpa using this); have l45 := OwS.grown (OwS.lit' (base := w.heap.size) (e := 5) (f := bv) (xs := []) (w.drew.alloc (.cells #[] 5)) #[] 0 (w.heap.size + 1) (by simp) (by first | (simp; done) | (simp; omega) | omega) (by simp [maxLen]) rfl rfl) hg44 (by intro g hg; simp [rowOf] at hg ⊢; omega); have hne : ∀ g, A44 = some ⟨g, 0, none⟩ → rowOf (some ⟨w.heap.size + 1, 0, none⟩) ≠ some g := (by intro g hg; rcases hA44 with e | e <;> (rw [e] at hg; simp at hg; simp [rowOf]; omega))) | (refine wl_appendA rfl (.tmp 35) (.tmp 43) _ rfl el_u8 (f := bv) (fun _ => rfl) rfl (OwS.lit' (base := w.heap.size) (e := 5) (xs := []) (w.drew.alloc (.cells #[] 5)) #[] 0 (w.heap.size + 1) (by simp) (by first | (simp; done) | (simp; omega) | omega) (by simp [maxLen]) rfl rfl) rfl (r43.rd _ (Th.Reach.of ((below_alloc w.drew (Nat.le_refl _) _).alloc (by simp) _))) (by omega) (by omega) (by first | (simp; done) | (simp; omega) | omega) ?_; intro A44 c44 w44 how44 hg44 hb44 hA44; rw [Nat.zero_add, List.nil_append] at how44; have H44 : Below w.heap.size w.drew w44 := Below.trans ((below_alloc w.drew (Nat.le_refl _) _).alloc (by simp) _) hb44; have z44 : w.heap.size ≤ w44.heap.size := (by have := H44.size; simpa using this); have l45 := OwS.grown ((OwS.lit (base := w.heap.size) (e := 5) (f := bv) (xs := []) w.drew #[] 0 (Nat.le_refl _) (by simp [maxLen]) rfl rfl).alloc (.cells #[] 5)) hg44 (by intro g hg; simp [rowOf] at hg ⊢; omega); have hne : ∀ g, A44 = some ⟨g, 0, none⟩ → rowOf (some ⟨w.heap.size, 0, none⟩) ≠ some g := (by intro g hg; rcases hA44 with e | e <;> (rw [e] at hg; simp at hg; simp [rowOf]; omega)))) | ((with_reducible refine on_append (.tmp 45) (.tmp 51) ?_); first | (refine wl_appendA rfl (.tmp 45) (.tmp 51) _ rfl el_u8 (f := bv) (fun _ => rfl) rfl l45 rfl (r51.rd _ (Th.Reach.of H44)) (by omega) (by omega) z44 ?_; intro A52 c52 w52 how52 hg52 hb52 hA52; rw [Nat.zero_add, List.nil_append] at how52; have H52 := H44.trans hb52; have how44 := how44.grown hg52 hne) | (refine wl_appendA rfl (.tmp 45) (.tmp 51) _ rfl el_u8 (f := bv) (fun _ => rfl) rfl l45 rfl (r51.rd _ (Th.Reach.of (H44.alloc z44 _))) (by omega) (by omega) (by simp; omega) ?_; intro A52 c52 w52 how52 hg52 hb52 hA52; rw [Nat.zero_add, List.nil_append] at how52; have H52 := (H44.alloc z44 _).trans hb52; have how44 := how44.grown hg52 hne)))
          refine anch_end (Th.Reach.of (by first | exact Below.refl _ _ | exact below_alloc _ (by first | omega | (simp; done) | (simp; omega)) _ | exact below_alloc2 _ (by first | omega | (simp; done) | (simp; omega)) _ _ | exact below_alloc2d _ (by simp) _ _ | exact bdrew _ _ | assumption | (exact Below.mono (by assumption) (by first | (simp; done) | (simp; omega) | omega | assumption)))) (hKO _ _ ?_)
          clear hKO KO
          refine wpTree_float (fun KF hKF => ?_)
          simp only [List.drop, List.take]
          repeat (first | ((with_reducible refine onq_sl (.tmp 36) ?_); refine wq_cut_lh rfl _ (.tmp 36) el_u8 rfl q1 (Th.Reach.refl _ _) _ _ rfl rfl rfl (1 + k) (1 + k + m) (by omega) ?_; intro A43 r43; rw [hd5, e5] at r43; rw [e5]) | ((with_reducible refine onq_sl (.tmp 46) ?_); refine wq_cut_l rfl _ (.tmp 46) el_u8 rfl q1 (Th.Reach.refl _ _) _ rfl rfl (1 + k + m) (by omega) ?_; intro A51 r51; rw [hd6] at r51) | go_big_quiet_step (fail) | quiet_step (fail))
          refine wpQuiet_nil ?_
          refine hKF _ ?_
          clear hKF KF
          refine wpTree_done ?_
          refine hKT _ _ ?_
          clear hKT KT
          rotate_left 1
          refine wpTree_one (fun KO hKO => ?_)
          simp only [List.drop, List.take]
          go_wp2_with (first | ((with_reducible refine on_append (.tmp 35) (.tmp 43) ?_); first | (refine wl_appendA rfl (.tmp 35) (.tmp 43) _ rfl el_u8 (f := bv) (fun _ => rfl) rfl (OwS.lit (base := w.heap.size) (e := 5) (xs := []) w.drew #[] 0 (Nat.le_refl _) (by simp [maxLen]) rfl rfl) rfl (r43.rd _ (Th.Reach.of (below_alloc w.drew (Nat.le_refl _) _))) (by omega) (by omega) (by first | (simp; done) | (simp; omega) | omega) ?_; intro A44 c44 w44 how44 hg44 hb44 hA44; rw [Nat.zero_add, List.nil_append] at how44; have H44 : Below w.heap.size w.drew w44 := Below.trans (below_alloc w.drew (Nat.le_refl _) _) hb44; have z44 : w.heap.size ≤ w44.heap.size := (by have := H44.size; simpa using this); have l45 := (OwS.lit (base := w.heap.size) (e := 5) (f := bv) (xs := []) w44 #[] 0 z44 (by simp [maxLen]) rfl rfl); have hz44 : ∀ g, A44 = some ⟨g, 0, none⟩ → g < w44.heap.size := (by intro g hg; rcases how44.ow.form with ⟨e, _⟩ | ⟨g', e, _, hl⟩ <;> (rw [e] at hg) <;> simp at hg; omega); have how44 := how44.alloc (.cells #[] 5); have hne : ∀ g, A44 = some ⟨g, 0, none⟩ → rowOf (some ⟨w44.heap.size, 0, none⟩) ≠ some g := (by intro g hg; have := hz44 g hg; simp [rowOf]; omega)) | (refine wl_appendA rfl (.tmp 35) (.tmp 43) _ rfl el_u8 (f := bv) (fun _ => rfl) rfl ((OwS.lit (base := w.heap.size) (e := 5) (xs := []) w.drew #[] 0 (Nat.le_refl _) (by simp [maxLen]) rfl rfl).alloc (.cells #[] 5)) rfl (r43.rd _ (Th.Reach.of ((below_alloc w.drew (Nat.le_refl _) _).alloc (by simp) _))) (by omega) (by omega) (by first | (simp; done) | (simp; omega) | omega) ?_; intro A44 c44 w44 how44 hg44 hb44 hA44; rw [Nat.zero_add, List.nil_append] at how44; have H44 : Below w.heap.size w.drew w44 := Below.trans ((below_alloc w.drew (Nat.le_refl _) _).alloc (by simp) _) hb44; have z44 : w.heap.size ≤ w44.heap.size := (by have := H44.size; simpa using this); have l45 := OwS.grown (OwS.lit' (base := w.heap.size) (e := 5) (f := bv) (xs := []) (w.drew.alloc (.cells #[] 5)) #[] 0 (w.heap.size + 1) (by simp) (by first | (simp; done) | (simp; omega) | omega) (by simp [maxLen]) rfl rfl) hg44 (by intro g hg; simp [rowOf] at hg ⊢; omega); have hne : ∀ g, A44 = some ⟨g, 0, none⟩ → rowOf (some ⟨w.heap.size + 1, 0, none⟩) ≠ some g := (by intro g hg; rcases hA44 with e | e <;> (rw [e] at hg; simp at hg; simp [rowOf]; omega))) | (refine wl_appendA rfl (.tmp 35) (.tmp 43) _ rfl el_u8 (f := bv) (fun _ => rfl) rfl (OwS.lit' (base := w.heap.size) (e := 5) (xs := []) (w.drew.alloc (.cells #[] 5)) #[] 0 (w.heap.size + 1) (by simp) (by first | (simp; done) | (simp; omega) | omega) (by simp [maxLen]) rfl rfl) rfl (r43.rd _ (Th.Reach.of ((below_alloc w.drew (Nat.le_refl _) _).alloc (by simp) _))) (by omega) (by omega) (by first | (simp; done) | (simp; omega) | omega) ?_; intro A44 c44 w44 how44 hg44 hb44 hA44; rw [Nat.zero_add, List.nil_append] at how44; have H44 : Below w.heap.size w.drew w44 := Below.trans ((below_alloc w.drew (Nat.le_refl _) _).alloc (by simp) _) hb44; have z44 : w.heap.size ≤ w44.heap.size := (by have := H44.size; simpa using this); have l45 := OwS.grown ((OwS.lit (base := w.heap.size) (e := 5) (f := bv) (xs := []) w.drew #[] 0 (Nat.le_refl _) (by simp [maxLen]) rfl rfl).alloc (.cells #[] 5)) hg44 (by intro g hg; simp [rowOf] at hg ⊢; omega); have hne : ∀ g, A44 = some ⟨g, 0, none⟩ → rowOf (some ⟨w.heap.size, 0, none⟩) ≠ some g := (by intro g hg; rcases hA44 with e | e <;> (rw [e] at hg; simp at hg; simp [rowOf]; omega)))) | ((with_reducible refine on_append (.tmp 45) (.tmp 51) ?_); first | (refine wl_appendA rfl (.tmp 45) (.tmp 51) _ rfl el_u8 (f := bv) (fun _ => rfl) rfl l45 rfl (r51.rd _ (Th.Reach.of H44)) (by omega) (by omega) z44 ?_; intro A52 c52 w52 how52 hg52 hb52 hA52; rw [Nat.zero_add, List.nil_append] at how52; have H52 := H44.trans hb52; have how44 := how44.grown hg52 hne) | (refine wl_appendA rfl (.tmp 45) (.tmp 51) _ rfl el_u8 (f := bv) (fun _ => rfl) rfl l45 rfl (r51.rd _ (Th.Reach.of (H44.alloc z44 _))) (by omega) (by omega) (by simp; omega) ?_; intro A52 c52 w52 how52 hg52 hb52 hA52; rw [Nat.zero_add, List.nil_append] at how52; have H52 := (H44.alloc z44 _).trans hb52; have how44 := how44.grown hg52 hne)))
          refine anch_end (Th.Reach.of (by first | exact Below.refl _ _ | exact below_alloc _ (by first | omega | (simp; done) | (simp; omega)) _ | exact below_alloc2 _ (by first | omega | (simp; done) | (simp; omega)) _ _ | exact below_alloc2d _ (by simp) _ _ | exact bdrew _ _ | assumption | (exact Below.mono (by assumption) (by first | (simp; done) | (simp; omega) | omega | assumption)))) (hKO _ _ ?_)
          clear hKO KO
          refine wpTree_one (fun KO hKO => ?_)
          simp only [List.drop, List.take]
          go_wp2_with (first | ((with_reducible refine on_append (.tmp 35) (.tmp 43) ?_); first | (refine wl_appendA rfl (.tmp 35) (.tmp 43) _ rfl el_u8 (f := bv) (fun _ => rfl) rfl (OwS.lit (base := w.heap.size) (e := 5) (xs := []) w.drew #[] 0 (Nat.le_refl _) (by simp [maxLen]) rfl rfl) rfl (r43.rd _ (Th.Reach.of (below_alloc w.drew (Nat.le_refl _) _))) (by omega) (by omega) (by first | (simp; done) | (simp; omega) | omega) ?_; intro A44 c44 w44 how44 hg44 hb44 hA44; rw [Nat.zero_add, List.nil_append] at how44; have H44 : Below w.heap.size w.drew w44 := Below.trans (below_alloc w.drew (Nat.le_refl _) _) hb44; have z44 : w.heap.size ≤ w44.heap.size := (by have := H44.size; simpa using this); have l45 := (OwS.lit (base := w.heap.size) (e := 5) (f := bv) (xs := []) w44 #[] 0 z44 (by simp [maxLen]) rfl rfl); have hz44 : ∀ g, A44 = some ⟨g, 0, none⟩ → g < w44.heap.size := (by intro g hg; rcases how44.ow.form with ⟨e, _⟩ | ⟨g', e, _, hl⟩ <;> (rw [e] at hg) <;> simp at hg; omega); have how44 := how44.alloc (.cells #[] 5); have hne : ∀ g, A44 = some ⟨g, 0, none⟩ → rowOf (some ⟨w44.heap.size, 0, none⟩) ≠ some g := (by intro g hg; have := hz44 g hg; simp [rowOf]; omega)) | (refine wl_appendA rfl (.tmp 35) (.tmp 43) _ rfl el_u8 (f := bv) (fun _ => rfl) rfl ((OwS.lit (base := w.heap.size) (e := 5) (xs := []) w.drew #[] 0 (Nat.le_refl _) (by simp [maxLen]) rfl rfl).alloc (.cells #[] 5)) rfl (r43.rd _ (Th.Reach.of ((below_alloc w.drew (Nat.le_refl _) _).alloc (by simp) _))) (by omega) (by omega) (by first | (simp; done) | (simp; omega) | omega) ?_; intro A44 c44 w44 how44 hg44 hb44 hA44; rw [Nat.zero_add, List.nil_append] at how44; have H44 : Below w.heap.size w.drew w44 := Below.trans ((below_alloc w.drew (Nat.le_refl _) _).alloc (by simp) _) hb44; have z44 : w.heap.size ≤ w44.heap.size := (by have := H44.size; simpa using this); have l45 := OwS.grown (OwS.lit' (base := w.heap.size) (e := 5) (f := bv) (xs := []) (w.drew.alloc (.cells #[] 5)) #[] 0 (w.heap.size + 1) (by simp) (by first | (simp; done) | (simp; omega) | omega) (by simp [maxLen]) rfl rfl) hg44 (by intro g hg; simp [rowOf] at hg ⊢; omega); have hne : ∀ g, A44 = some ⟨g, 0, none⟩ → rowOf (some ⟨w.heap.size + 1, 0, none⟩) ≠ some g := (by intro g hg; rcases hA44 with e | e <;> (rw [e] at hg; simp at hg; simp [rowOf]; omega))) | (refine wl_appendA rfl (.tmp 35) (.tmp 43) _ rfl el_u8 (f := bv) (fun _ => rfl) rfl (OwS.lit' (base := w.heap.size) (e := 5) (xs := []) (w.drew.alloc (.cells #[] 5)) #[] 0 (w.heap.size + 1) (by simp) (by first | (simp; done) | (simp; omega) | omega) (by simp [maxLen]) rfl rfl) rfl (r43.rd _ (Th.Reach.of ((below_alloc w.drew (Nat.le_refl _) _).alloc (by simp) _))) (by omega) (by omega) (by first | (simp; done) | (simp; omega) | omega) ?_; intro A44 c44 w44 how44 hg44 hb44 hA44; rw [Nat.zero_add, List.nil_append] at how44; have H44 : Below w.heap.size w.drew w44 := Below.trans ((below_alloc w.drew (Nat.le_refl _) _).alloc (by simp) _) hb44; have z44 : w.heap.size ≤ w44.heap.size := (by have := H44.size; simpa using this); have l45 := OwS.grown ((OwS.lit (base := w.heap.size) (e := 5) (f := bv) (xs := []) w.drew #[] 0 (Nat.le_refl _) (by simp [maxLen]) rfl rfl).alloc (.cells #[] 5)) hg44 (by intro g hg; simp [rowOf] at hg ⊢; omega); have hne : ∀ g, A44 = some ⟨g, 0, none⟩ → rowOf (some ⟨w.heap.size, 0, none⟩) ≠ some g := (by intro g hg; rcases hA44 with e | e <;> (rw [e] at hg; simp at hg; simp [rowOf]; omega)))) | ((with_reducible refine on_append (.tmp 45) (.tmp 51) ?_); first | (refine wl_appendA rfl (.tmp 45) (.tmp 51) _ rfl el_u8 (f := bv) (fun _ => rfl) rfl l45 rfl (r51.rd _ (Th.Reach.of H44)) (by omega) (by omega) z44 ?_; intro A52 c52 w52 how52 hg52 hb52 hA52; rw [Nat.zero_add, List.nil_append] at how52; have H52 := H44.trans hb52; have how44 := how44.grown hg52 hne) | (refine wl_appendA rfl (.tmp 45) (.tmp 51) _ rfl el_u8 (f := bv) (fun _ => rfl) rfl l45 rfl (r51.rd _ (Th.Reach.of (H44.alloc z44 _))) (by omega) (by omega) (by simp; omega) ?_; intro A52 c52 w52 how52 hg52 hb52 hA52; rw [Nat.zero_add, List.nil_append] at how52; have H52 := (H44.alloc z44 _).trans hb52; have how44 := how44.grown hg52 hne)))
          refine anch_end (Th.Reach.of (by first | exact Below.refl _ _ | exact below_alloc _ (by first | omega | (simp; done) | (simp; omega)) _ | exact below_alloc2 _ (by first | omega | (simp; done) | (simp; omega)) _ _ | exact below_alloc2d _ (by simp) _ _ | exact bdrew _ _ | assumption | (exact Below.mono (by assumption) (by first | (simp; done) | (simp; omega) | omega | assumption)))) (hKO _ _ ?_)
          clear hKO KO
          refine wpTree_one (fun KO hKO => ?_)
          simp only [List.drop, List.take]
          go_wp2_with (first | ((with_reducible refine on_append (.tmp 35) (.tmp 43) ?_); first | (refine wl_appendA rfl (.tmp 35) (.tmp 43) _ rfl el_u8 (f := bv) (fun _ => rfl) rfl (OwS.lit (base := w.heap.size) (e := 5) (xs := []) w.drew #[] 0 (Nat.le_refl _) (by simp [maxLen]) rfl rfl) rfl (r43.rd _ (Th.Reach.of (below_alloc w.drew (Nat.le_refl _) _))) (by omega) (by omega) (by first | (simp; done) | (simp; omega) | omega) ?_; intro A44 c44 w44 how44 hg44 hb44 hA44; rw [Nat.zero_add, List.nil_append] at how44; have H44 : Below w.heap.size w.drew w44 := Below.trans (below_alloc w.drew (Nat.le_refl _) _) hb44; have z44 : w.heap.size ≤ w44.heap.size := (by have := H44.size; simpa using this); have l45 := (OwS.lit (base := w.heap.size) (e := 5) (f := bv) (xs := []) w44 #[] 0 z44 (by simp [maxLen]) rfl rfl); have hz44 : ∀ g, A44 = some ⟨g, 0, none⟩ → g < w44.heap.size := (by intro g hg; rcases how44.ow.form with ⟨e, _⟩ | ⟨g', e, _, hl⟩ <;> (rw [e] at hg) <;> simp at hg; omega); have how44 := how44.alloc (.cells #[] 5); have hne : ∀ g, A44 = some ⟨g, 0, none⟩ → rowOf (some ⟨w44.heap.size, 0, none⟩) ≠ some g := (by intro g hg; have := hz44 g hg; simp [rowOf]; omega)) | (refine wl_appendA rfl (.tmp 35) (.tmp 43) _ rfl el_u8 (f := bv) (fun _ => rfl) rfl ((OwS.lit (base := w.heap.size) (e := 5) (xs := []) w.drew #[] 0 (Nat.le_refl _) (by simp [maxLen]) rfl rfl).alloc (.cells #[] 5)) rfl (r43.rd _ (Th.Reach.of ((below_alloc w.drew (Nat.le_refl _) _).alloc (by simp) _))) (by omega) (by omega) (by first | (simp; done) | (simp; omega) | omega) ?_; intro A44 c44 w44 how44 hg44 hb44 hA44; rw [Nat.zero_add, List.nil_append] at how44; have H44 : Below w.heap.size w.drew w44 := Below.trans ((below_alloc w.drew (Nat.le_refl _) _).alloc (by simp) _) hb44; have z44 : w.heap.size ≤ w44.heap.size := (by have := H44.size; simpa using this); have l45 := OwS.grown (OwS.lit' (base := w.heap.size) (e := 5) (f := bv) (xs := []) (w.drew.alloc (.cells #[] 5)) #[] 0 (w.heap.size + 1) (by simp) (by first | (simp; done) | (simp; omega) | omega) (by simp [maxLen]) rfl rfl) hg44 (by intro g hg; simp [rowOf] at hg ⊢; omega); have hne : ∀ g, A44 = some ⟨g, 0, none⟩ → rowOf (some ⟨w.heap.size + 1, 0, none⟩) ≠ some g := (by intro g hg; rcases hA44 with e | e <;> (rw [e] at hg; simp at hg; simp [rowOf]; omega))) | (refine wl_appendA rfl (.tmp 35) (.tmp 43) _ rfl el_u8 (f := bv) (fun _ => rfl) rfl (OwS.lit' (base := w.heap.size) (e := 5) (xs := []) (w.drew.alloc (.cells #[] 5)) #[] 0 (w.heap.size + 1) (by simp) (by first | (simp; done) | (simp; omega) | omega) (by simp [maxLen]) rfl rfl) rfl (r43.rd _ (Th.Reach.of ((below_alloc w.drew (Nat.le_refl _) _).alloc (by simp) _))) (by omega) (by omega) (by first | (simp; done) | (simp; omega) | omega) ?_; intro A44 c44 w44 how44 hg44 hb44 hA44; rw [Nat.zero_add, List.nil_append] at how44; have H44 : Below w.heap.size w.drew w44 := Below.trans ((below_alloc w.drew (Nat.le_refl _) _).alloc (by simp) _) hb44; have z44 : w.heap.size ≤ w44.heap.size := (by have := H44.size; simpa using this); have l45 := OwS.grown ((OwS.lit (base := w.heap.size) (e := 5) (f := bv) (xs := []) w.drew #[] 0 (Nat.le_refl _) (by simp [maxLen]) rfl rfl).alloc (.cells #[] 5)) hg44 (by intro g hg; simp [rowOf] at hg ⊢; omega); have hne : ∀ g, A44 = some ⟨g, 0, none⟩ → rowOf (some ⟨w.heap.size, 0, none⟩) ≠ some g := (by intro g hg; rcases hA44 with e | e <;> (rw [e] at hg; simp at hg; simp [rowOf]; omega)))) | ((with_reducible refine on_append (.tmp 45) (.tmp 51) ?_); first | (refine wl_appendA rfl (.tmp 45) (.tmp 51) _ rfl el_u8 (f := bv) (fun _ => rfl) rfl l45 rfl (r51.rd _ (Th.Reach.of H44)) (by omega) (by omega) z44 ?_; intro A52 c52 w52 how52 hg52 hb52 hA52; rw [Nat.zero_add, List.nil_append] at how52; have H52 := H44.trans hb52; have how44 := how44.grown hg52 hne) | (refine wl_appendA rfl (.tmp 45) (.tmp 51) _ rfl el_u8 (f := bv) (fun _ => rfl) rfl l45 rfl (r51.rd _ (Th.Reach.of (H44.alloc z44 _))) (by omega) (by omega) (by simp; omega) ?_; intro A52 c52 w52 how52 hg52 hb52 hA52; rw [Nat.zero_add, List.nil_append] at how52; have H52 := (H44.alloc z44 _).trans hb52; have how44 := how44.grown hg52 hne)))
          refine anch_end (Th.Reach.of (by first | exact Below.refl _ _ | exact below_alloc _ (by first | omega | (simp; done) | (simp; omega)) _ | exact below_alloc2 _ (by first | omega | (simp; done) | (simp; omega)) _ _ | exact below_alloc2d _ (by simp) _ _ | exact bdrew _ _ | assumption | (exact Below.mono (by assumption) (by first | (simp; done) | (simp; omega) | omega | assumption)))) (hKO _ _ ?_)
          clear hKO KO
          refine wpTree_float (fun KF hKF => ?_)
          simp only [List.drop, List.take]
          repeat (first | ((with_reducible refine onq_sl (.tmp 36) ?_); refine wq_cut_lh rfl _ (.tmp 36) el_u8 rfl q1 (Th.Reach.refl _ _) _ _ rfl rfl rfl (1 + k) (1 + k + m) (by omega) ?_; intro A43 r43; rw [hd5, e5] at r43; rw [e5]) | ((with_reducible refine onq_sl (.tmp 46) ?_); refine wq_cut_l rfl _ (.tmp 46) el_u8 rfl q1 (Th.Reach.refl _ _) _ rfl rfl (1 + k + m) (by omega) ?_; intro A51 r51; rw [hd6] at r51) | go_big_quiet_step (fail) | quiet_step (fail))
          refine wpQuiet_nil ?_
          refine hKF _ ?_
          clear hKF KF
          refine wpTree_done ?_
          refine hKT _ _ ?_
          clear hKT KT
          rotate_right 1
          rotate_left 2
          refine wpTree_one (fun KO hKO => ?_)
          simp only [List.drop, List.take]
          go_wp2_with (first | ((with_reducible refine on_append (.tmp 35) (.tmp 43) ?_); first | (refine wl_appendA rfl (.tmp 35) (.tmp 43) _ rfl el_u8 (f := bv) (fun _ => rfl) rfl (OwS.lit (base := w.heap.size) (e := 5) (xs := []) w.drew #[] 0 (Nat.le_refl _) (by simp [maxLen]) rfl rfl) rfl (r43.rd _ (Th.Reach.of (below_alloc w.drew (Nat.le_refl _) _))) (by omega) (by omega) (by first | (simp; done) | (simp; omega) | omega) ?_; intro A44 c44 w44 how44 hg44 hb44 hA44; rw [Nat.zero_add, List.nil_append] at how44; have H44 : Below w.heap.size w.drew w44 := Below.trans (below_alloc w.drew (Nat.le_refl _) _) hb44; have z44 : w.heap.size ≤ w44.heap.size := (by have := H44.size; simpa using this); have l45 := (OwS.lit (base := w.heap.size) (e := 5) (f := bv) (xs := []) w44 #[] 0 z44 (by simp [maxLen]) rfl rfl); have hz44 : ∀ g, A44 = some ⟨g, 0, none⟩ → g < w44.heap.size := (by intro g hg; rcases how44.ow.form with ⟨e, _⟩ | ⟨g', e, _, hl⟩ <;> (rw [e] at hg) <;> simp at hg; omega); have how44 := how44.alloc (.cells #[] 5); have hne : ∀ g, A44 = some ⟨g, 0, none⟩ → rowOf (some ⟨w44.heap.size, 0, none⟩) ≠ some g := (by intro g hg; have := hz44 g hg; simp [rowOf]; omega)) | (refine wl_appendA rfl (.tmp 35) (.tmp 43) _ rfl el_u8 (f := bv) (fun _ => rfl) rfl ((OwS.lit (base := w.heap.size) (e := 5) (xs := []) w.drew #[] 0 (Nat.le_refl _) (by simp [maxLen]) rfl rfl).alloc (.cells #[] 5)) rfl (r43.rd _ (Th.Reach.of ((below_alloc w.drew (Nat.le_refl _) _).alloc (by simp) _))) (by omega) (by omega) (by first | (simp; done) | (simp; omega) | omega) ?_; intro A44 c44 w44 how44 hg44 hb44 hA44; rw [Nat.zero_add, List.nil_append] at how44; have H44 : Below w.heap.size w.drew w44 := Below.trans ((below_alloc w.drew (Nat.le_refl _) _).alloc (by simp) _) hb44; have z44 : w.heap.size ≤ w44.heap.size := (by have := H44.size; simpa using this); have l45 := OwS.grown (OwS.lit' (base := w.heap.size) (e := 5) (f := bv) (xs := []) (w.drew.alloc (.cells #[] 5)) #[] 0 (w.heap.size + 1) (by simp) (by first | (simp; done) | (simp; omega) | omega) (by simp [maxLen]) rfl rfl) hg44 (by intro g hg; simp [rowOf] at hg ⊢; omega); have hne : ∀ g, A44 = some ⟨g, 0, none⟩ → rowOf (some ⟨w.heap.size + 1, 0, none⟩) ≠ some g := (by intro g hg; rcases hA44 with e | e <;> (rw [e] at hg; simp at hg; simp [rowOf]; omega))) | (refine wl_appendA rfl (.tmp 35) (.tmp 43) _ rfl el_u8 (f := bv) (fun _ => rfl) rfl (OwS.lit' (base := w.heap.size) (e := 5) (xs := []) (w.drew.alloc (.cells #[] 5)) #[] 0 (w.heap.size + 1) (by simp) (by first | (simp; done) | (simp; omega) | omega) (by simp [maxLen]) rfl rfl) rfl (r43.rd _ (Th.Reach.of ((below_alloc w.drew (Nat.le_refl _) _).alloc (by simp) _))) (by omega) (by omega) (by first | (simp; done) | (simp; omega) | omega) ?_; intro A44 c44 w44 how44 hg44 hb44 hA44; rw [Nat.zero_add, List.nil_append] at how44; have H44 : Below w.heap.size w.drew w44 := Below.trans ((below_alloc w.drew (Nat.le_refl _) _).alloc (by simp) _) hb44; have z44 : w.heap.size ≤ w44.heap.size := (by have := H44.size; simpa using this); have l45 := OwS.grown ((OwS.lit (base := w.heap.size) (e := 5) (f := bv) (xs := []) w.drew #[] 0 (Nat.le_refl _) (by simp [maxLen]) rfl rfl).alloc (.cells #[] 5)) hg44 (by intro g hg; simp [rowOf] at hg ⊢; omega); have hne : ∀ g, A44 = some ⟨g, 0, none⟩ → rowOf (some ⟨w.heap.size, 0, none⟩) ≠ some g := (by intro g hg; rcases hA44 with e | e <;> (rw [e] at hg; simp at hg; simp [rowOf]; omega)))) | ((with_reducible refine on_append (.tmp 45) (.tmp 51) ?_); first | (refine wl_appendA rfl (.tmp 45) (.tmp 51) _ rfl el_u8 (f := bv) (fun _ => rfl) rfl l45 rfl (r51.rd _ (Th.Reach.of H44)) (by omega) (by omega) z44 ?_; intro A52 c52 w52 how52 hg52 hb52 hA52; rw [Nat.zero_add, List.nil_append] at how52; have H52 := H44.trans hb52; have how44 := how44.grown hg52 hne) | (refine wl_appendA rfl (.tmp 45) (.tmp 51) _ rfl el_u8 (f := bv) (fun _ => rfl) rfl l45 rfl (r51.rd _ (Th.Reach.of (H44.alloc z44 _))) (by omega) (by omega) (by simp; omega) ?_; intro A52 c52 w52 how52 hg52 hb52 hA52; rw [Nat.zero_add, List.nil_append] at how52; have H52 := (H44.alloc z44 _).trans hb52; have how44 := how44.grown hg52 hne)))
          refine anch_end (Th.Reach.of (by first | exact Below.refl _ _ | exact below_alloc _ (by first | omega | (simp; done) | (simp; omega)) _ | exact below_alloc2 _ (by first | omega | (simp; done) | (simp; omega)) _ _ | exact below_alloc2d _ (by simp) _ _ | exact bdrew _ _ | assumption | (exact Below.mono (by assumption) (by first | (simp; done) | (simp; omega) | omega | assumption)))) (hKO _ _ ?_)
          clear hKO KO
          refine wpTree_one (fun KO hKO => ?_)
          simp only [List.drop, List.take]
          go_wp2_with (first | ((with_reducible refine on_append (.tmp 35) (.tmp 43) ?_); first | (refine wl_appendA rfl (.tmp 35) (.tmp 43) _ rfl el_u8 (f := bv) (fun _ => rfl) rfl (OwS.lit (base := w.heap.size) (e := 5) (xs := []) w.drew #[] 0 (Nat.le_refl _) (by simp [maxLen]) rfl rfl) rfl (r43.rd _ (Th.Reach.of (below_alloc w.drew (Nat.le_refl _) _))) (by omega) (by omega) (by first | (simp; done) | (simp; omega) | omega) ?_; intro A44 c44 w44 how44 hg44 hb44 hA44; rw [Nat.zero_add, List.nil_append] at how44; have H44 : Below w.heap.size w.drew w44 := Below.trans (below_alloc w.drew (Nat.le_refl _) _) hb44; have z44 : w.heap.size ≤ w44.heap.size := (by have := H44.size; simpa using this); have l45 := (OwS.lit (base := w.heap.size) (e := 5) (f := bv) (xs := []) w44 #[] 0 z44 (by simp [maxLen]) rfl rfl); have hz44 : ∀ g, A44 = some ⟨g, 0, none⟩ → g < w44.heap.size := (by intro g hg; rcases how44.ow.form with ⟨e, _⟩ | ⟨g', e, _, hl⟩ <;> (rw [e] at hg) <;> simp at hg; omega); have how44 := how44.alloc (.cells #[] 5); have hne : ∀ g, A44 = some ⟨g, 0, none⟩ → rowOf (some ⟨w44.heap.size, 0, none⟩) ≠ some g := (by intro g hg; have := hz44 g hg; simp [rowOf]; omega)) | (refine wl_appendA rfl (.tmp 35) (.tmp 43) _ rfl el_u8 (f := bv) (fun _ => rfl) rfl ((OwS.lit (base := w.heap.size) (e := 5) (xs := []) w.drew #[] 0 (Nat.le_refl _) (by simp [maxLen]) rfl rfl).alloc (.cells #[] 5)) rfl (r43.rd _ (Th.Reach.of ((below_alloc w.drew (Nat.le_refl _) _).alloc (by simp) _))) (by omega) (by omega) (by first | (simp; done) | (simp; omega) | omega) ?_; intro A44 c44 w44 how44 hg44 hb44 hA44; rw [Nat.zero_add, List.nil_append] at how44; have H44 : Below w.heap.size w.drew w44 := Below.trans ((below_alloc w.drew (Nat.le_refl _) _).alloc (by simp) _) hb44; have z44 : w.heap.size ≤ w44.heap.size := (by have := H44.size; simpa using this); have l45 := OwS.grown (OwS.lit' (base := w.heap.size) (e := 5) (f := bv) (xs := []) (w.drew.alloc (.cells #[] 5)) #[] 0 (w.heap.size + 1) (by simp) (by first | (simp; done) | (simp; omega) | omega) (by simp [maxLen]) rfl rfl) hg44 (by intro g hg; simp [rowOf] at hg ⊢; omega); have hne : ∀ g, A44 = some ⟨g, 0, none⟩ → rowOf (some ⟨w.heap.size + 1, 0, none⟩) ≠ some g := (by intro g hg; rcases hA44 with e | e <;> (rw [e] at hg; simp at hg; simp [rowOf]; omega))) | (refine wl_appendA rfl (.tmp 35) (.tmp 43) _ rfl el_u8 (f := bv) (fun _ => rfl) rfl (OwS.lit' (base := w.heap.size) (e := 5) (xs := []) (w.drew.alloc (.cells #[] 5)) #[] 0 (w.heap.size + 1) (by simp) (by first | (simp; done) | (simp; omega) | omega) (by simp [maxLen]) rfl rfl) rfl (r43.rd _ (Th.Reach.of ((below_alloc w.drew (Nat.le_refl _) _).alloc (by simp) _))) (by omega) (by omega) (by first | (simp; done) | (simp; omega) | omega) ?_; intro A44 c44 w44 how44 hg44 hb44 hA44; rw [Nat.zero_add, List.nil_append] at how44; have H44 : Below w.heap.size w.drew w44 := Below.trans ((below_alloc w.drew (Nat.le_refl _) _).alloc (by simp) _) hb44; have z44 : w.heap.size ≤ w44.heap.size := (by have := H44.size; simpa using this); have l45 := OwS.grown ((OwS.lit (base := w.heap.size) (e := 5) (f := bv) (xs := []) w.drew #[] 0 (Nat.le_refl _) (by simp [maxLen]) rfl rfl).alloc (.cells #[] 5)) hg44 (by intro g hg; simp [rowOf] at hg ⊢; omega); have hne : ∀ g, A44 = some ⟨g, 0, none⟩ → rowOf (some ⟨w.heap.size, 0, none⟩) ≠ some g := (by intro g hg; rcases hA44 with e | e <;> (rw [e] at hg; simp at hg; simp [rowOf]; omega)))) | ((with_reducible refine on_append (.tmp 45) (.tmp 51) ?_); first | (refine wl_appendA rfl (.tmp 45) (.tmp 51) _ rfl el_u8 (f := bv) (fun _ => rfl) rfl l45 rfl (r51.rd _ (Th.Reach.of H44)) (by omega) (by omega) z44 ?_; intro A52 c52 w52 how52 hg52 hb52 hA52; rw [Nat.zero_add, List.nil_append] at how52; have H52 := H44.trans hb52; have how44 := how44.grown hg52 hne) | (refine wl_appendA rfl (.tmp 45) (.tmp 51) _ rfl el_u8 (f := bv) (fun _ => rfl) rfl l45 rfl (r51.rd _ (Th.Reach.of (H44.alloc z44 _))) (by omega) (by omega) (by simp; omega) ?_; intro A52 c52 w52 how52 hg52 hb52 hA52; rw [Nat.zero_add, List.nil_append] at how52; have H52 := (H44.alloc z44 _).trans hb52; have how44 := how44.grown hg52 hne)))
          refine anch_end (Th.Reach.of (by first | exact Below.refl _ _ | exact below_alloc _ (by first | omega | (simp; done) | (simp; omega)) _ | exact below_alloc2 _ (by first | omega | (simp; done) | (simp; omega)) _ _ | exact below_alloc2d _ (by simp) _ _ | exact bdrew _ _ | assumption | (exact Below.mono (by assumption) (by first | (simp; done) | (simp; omega) | omega | assumption)))) (hKO _ _ ?_)
          clear hKO KO
          refine wpTree_one (fun KO hKO => ?_)
          simp only [List.drop, List.take]
          go_wp2_with (first | ((with_reducible refine on_append (.tmp 35) (.tmp 43) ?_); first | (refine wl_appendA rfl (.tmp 35) (.tmp 43) _ rfl el_u8 (f := bv) (fun _ => rfl) rfl (OwS.lit (base := w.heap.size) (e := 5) (xs := []) w.drew #[] 0 (Nat.le_refl _) (by simp [maxLen]) rfl rfl) rfl (r43.rd _ (Th.Reach.of (below_alloc w.drew (Nat.le_refl _) _))) (by omega) (by omega) (by first | (simp; done) | (simp; omega) | omega) ?_; intro A44 c44 w44 how44 hg44 hb44 hA44; rw [Nat.zero_add, List.nil_append] at how44; have H44 : Below w.heap.size w.drew w44 := Below.trans (below_alloc w.drew (Nat.le_refl _) _) hb44; have z44 : w.heap.size ≤ w44.heap.size := (by have := H44.size; simpa using this); have l45 := (OwS.lit (base := w.heap.size) (e := 5) (f := bv) (xs := []) w44 #[] 0 z44 (by simp [maxLen]) rfl rfl); have hz44 : ∀ g, A44 = some ⟨g, 0, none⟩ → g < w44.heap.size := (by intro g hg; rcases how44.ow.form with ⟨e, _⟩ | ⟨g', e, _, hl⟩ <;> (rw [e] at hg) <;> simp at hg; omega); have how44 := how44.alloc (.cells #[] 5); have hne : ∀ g, A44 = some ⟨g, 0, none⟩ → rowOf (some ⟨w44.heap.size, 0, none⟩) ≠ some g := (by intro g hg; have := hz44 g hg; simp [rowOf]; omega)) | (refine wl_appendA rfl (.tmp 35) (.tmp 43) _ rfl el_u8 (f := bv) (fun _ => rfl) rfl ((OwS.lit (base := w.heap.size) (e := 5) (xs := []) w.drew #[] 0 (Nat.le_refl _) (by simp [maxLen]) rfl rfl).alloc (.cells #[] 5)) rfl (r43.rd _ (Th.Reach.of ((below_alloc w.drew (Nat.le_refl _) _).alloc (by simp) _))) (by omega) (by omega) (by first | (simp; done) | (simp; omega) | omega) ?_; intro A44 c44 w44 how44 hg44 hb44 hA44; rw [Nat.zero_add, List.nil_append] at how44; have H44 : Below w.heap.size w.drew w44 := Below.trans ((below_alloc w.drew (Nat.le_refl _) _).alloc (by simp) _) hb44; have z44 : w.heap.size ≤ w44.heap.size := (by have := H44.size; simpa using this); have l45 := OwS.grown (OwS.lit' (base := w.heap.size) (e := 5) (f := bv) (xs := []) (w.drew.alloc (.cells #[] 5)) #[] 0 (w.heap.size + 1) (by simp) (by first | (simp; done) | (simp; omega) | omega) (by simp [maxLen]) rfl rfl) hg44 (by intro g hg; simp [rowOf] at hg ⊢; omega); have hne : ∀ g, A44 = some ⟨g, 0, none⟩ → rowOf (some ⟨w.heap.size + 1, 0, none⟩) ≠ some g := (by intro g hg; rcases hA44 with e | e <;> (rw [e] at hg; simp at hg; simp [rowOf]; omega))) | (refine wl_appendA rfl (.tmp 35) (.tmp 43) _ rfl el_u8 (f := bv) (fun _ => rfl) rfl (OwS.lit' (base := w.heap.size) (e := 5) (xs := []) (w.drew.alloc (.cells #[] 5)) #[] 0 (w.heap.size + 1) (by simp) (by first | (simp; done) | (simp; omega) | omega) (by simp [maxLen]) rfl rfl) rfl (r43.rd _ (Th.Reach.of ((below_alloc w.drew (Nat.le_refl _) _).alloc (by simp) _))) (by omega) (by omega) (by first | (simp; done) | (simp; omega) | omega) ?_; intro A44 c44 w44 how44 hg44 hb44 hA44; rw [Nat.zero_add, List.nil_append] at how44; have H44 : Below w.heap.size w.drew w44 := Below.trans ((below_alloc w.drew (Nat.le_refl _) _).alloc (by simp) _) hb44; have z44 : w.heap.size ≤ w44.heap.size := (by have := H44.size; simpa using this); have l45 := OwS.grown ((OwS.lit (base := w.heap.size) (e := 5) (f := bv) (xs := []) w.drew #[] 0 (Nat.le_refl _) (by simp [maxLen]) rfl rfl).alloc (.cells #[] 5)) hg44 (by intro g hg; simp [rowOf] at hg ⊢; omega); have hne : ∀ g, A44 = some ⟨g, 0, none⟩ → rowOf (some ⟨w.heap.size, 0, none⟩) ≠ some g := (by intro g hg; rcases hA44 with e | e <;> (rw [e] at hg; simp at hg; simp [rowOf]; omega)))) | ((with_reducible refine on_append (.tmp 45) (.tmp 51) ?_); first | (refine wl_appendA rfl (.tmp 45) (.tmp 51) _ rfl el_u8 (f := bv) (fun _ => rfl) rfl l45 rfl (r51.rd _ (Th.Reach.of H44)) (by omega) (by omega) z44 ?_; intro A52 c52 w52 how52 hg52 hb52 hA52; rw [Nat.zero_add, List.nil_append] at how52; have H52 := H44.trans hb52; have how44 := how44.grown hg52 hne) | (refine wl_appendA rfl (.tmp 45) (.tmp 51) _ rfl el_u8 (f := bv) (fun _ => rfl) rfl l45 rfl (r51.rd _ (Th.Reach.of (H44.alloc z44 _))) (by omega) (by omega) (by simp; omega) ?_; intro A52 c52 w52 how52 hg52 hb52 hA52; rw [Nat.zero_add, List.nil_append] at how52; have H52 := (H44.alloc z44 _).trans hb52; have how44 := how44.grown hg52 hne)))
          refine anch_end (Th.Reach.of (by first | exact Below.refl _ _ | exact below_alloc _ (by first | omega | (simp; done) | (simp; omega)) _ | exact below_alloc2 _ (by first | omega | (simp; done) | (simp; omega)) _ _ | exact below_alloc2d _ (by simp) _ _ | exact bdrew _ _ | assumption | (exact Below.mono (by assumption) (by first | (simp; done) | (simp; omega) | omega | assumption)))) (hKO _ _ ?_)
          clear hKO KO
          refine wpTree_one (fun KO hKO => ?_)
          simp only [List.drop, List.take]
          go_wp2_with (first | ((with_reducible refine on_append (.tmp 35) (.tmp 43) ?_); first | (refine wl_appendA rfl (.tmp 35) (.tmp 43) _ rfl el_u8 (f := bv) (fun _ => rfl) rfl (OwS.lit (base := w.heap.size) (e := 5) (xs := []) w.drew #[] 0 (Nat.le_refl _) (by simp [maxLen]) rfl rfl) rfl (r43.rd _ (Th.Reach.of (below_alloc w.drew (Nat.le_refl _) _))) (by omega) (by omega) (by first | (simp; done) | (simp; omega) | omega) ?_; intro A44 c44 w44 how44 hg44 hb44 hA44; rw [Nat.zero_add, List.nil_append] at how44; have H44 : Below w.heap.size w.drew w44 := Below.trans (below_alloc w.drew (Nat.le_refl _) _) hb44; have z44 : w.heap.size ≤ w44.heap.size := (by have := H44.size; simpa using this); have l45 := (OwS.lit (base := w.heap.size) (e := 5) (f := bv) (xs := []) w44 #[] 0 z44 (by simp [maxLen]) rfl rfl); have hz44 : ∀ g, A44 = some ⟨g, 0, none⟩ → g < w44.heap.size := (by intro g hg; rcases how44.ow.form with ⟨e, _⟩ | ⟨g', e, _, hl⟩ <;> (rw [e] at hg) <;> simp at hg; omega); have how44 := how44.alloc (.cells #[] 5); have hne : ∀ g, A44 = some ⟨g, 0, none⟩ → rowOf (some ⟨w44.heap.size, 0, none⟩) ≠ some g := (by intro g hg; have := hz44 g hg; simp [rowOf]; omega)) | (refine wl_appendA rfl (.tmp 35) (.tmp 43) _ rfl el_u8 (f := bv) (fun _ => rfl) rfl ((OwS.lit (base := w.heap.size) (e := 5) (xs := []) w.drew #[] 0 (Nat.le_refl _) (by simp [maxLen]) rfl rfl).alloc (.cells #[] 5)) rfl (r43.rd _ (Th.Reach.of ((below_alloc w.drew (Nat.le_refl _) _).alloc (by simp) _))) (by omega) (by omega) (by first | (simp; done) | (simp; omega) | omega) ?_; intro A44 c44 w44 how44 hg44 hb44 hA44; rw [Nat.zero_add, List.nil_append] at how44; have H44 : Below w.heap.size w.drew w44 := Below.trans ((below_alloc w.drew (Nat.le_refl _) _).alloc (by simp) _) hb44; have z44 : w.heap.size ≤ w44.heap.size := (by have := H44.size; simpa using this); have l45 := OwS.grown (OwS.lit' (base := w.heap.size) (e := 5) (f := bv) (xs := []) (w.drew.alloc (.cells #[] 5)) #[] 0 (w.heap.size + 1) (by simp) (by first | (simp; done) | (simp; omega) | omega) (by simp [maxLen]) rfl rfl) hg44 (by intro g hg; simp [rowOf] at hg ⊢; omega); have hne : ∀ g, A44 = some ⟨g, 0, none⟩ → rowOf (some ⟨w.heap.size + 1, 0, none⟩) ≠ some g := (by intro g hg; rcases hA44 with e | e <;> (rw [e] at hg; simp at hg; simp [rowOf]; omega))) | (refine wl_appendA rfl (.tmp 35) (.tmp 43) _ rfl el_u8 (f := bv) (fun _ => rfl) rfl (OwS.lit' (base := w.heap.size) (e := 5) (xs := []) (w.drew.alloc (.cells #[] 5)) #[] 0 (w.heap.size + 1) (by simp) (by first | (simp; done) | (simp; omega) | omega) (by simp [maxLen]) rfl rfl) rfl (r43.rd _ (Th.Reach.of ((below_alloc w.drew (Nat.le_refl _) _).alloc (by simp) _))) (by omega) (by omega) (by first | (simp; done) | (simp; omega) | omega) ?_; intro A44 c44 w44 how44 hg44 hb44 hA44; rw [Nat.zero_add, List.nil_append] at how44; have H44 : Below w.heap.size w.drew w44 := Below.trans ((below_alloc w.drew (Nat.le_refl _) _).alloc (by simp) _) hb44; have z44 : w.heap.size ≤ w44.heap.size := (by have := H44.size; simpa using this); have l45 := OwS.grown ((OwS.lit (base := w.heap.size) (e := 5) (f := bv) (xs := []) w.drew #[] 0 (Nat.le_refl _) (by simp [maxLen]) rfl rfl).alloc (.cells #[] 5)) hg44 (by intro g hg; simp [rowOf] at hg ⊢; omega); have hne : ∀ g, A44 = some ⟨g, 0, none⟩ → rowOf (some ⟨w.heap.size, 0, none⟩) ≠ some g := (by intro g hg; rcases hA44 with e | e <;> (rw [e] at hg; simp at hg; simp [rowOf]; omega)))) | ((with_reducible refine on_append (.tmp 45) (.tmp 51) ?_); first | (refine wl_appendA rfl (.tmp 45) (.tmp 51) _ rfl el_u8 (f := bv) (fun _ => rfl) rfl l45 rfl (r51.rd _ (Th.Reach.of H44)) (by omega) (by omega) z44 ?_; intro A52 c52 w52 how52 hg52 hb52 hA52; rw [Nat.zero_add, List.nil_append] at how52; have H52 := H44.trans hb52; have how44 := how44.grown hg52 hne) | (refine wl_appendA rfl (.tmp 45) (.tmp 51) _ rfl el_u8 (f := bv) (fun _ => rfl) rfl l45 rfl (r51.rd _ (Th.Reach.of (H44.alloc z44 _))) (by omega) (by omega) (by simp; omega) ?_; intro A52 c52 w52 how52 hg52 hb52 hA52; rw [Nat.zero_add, List.nil_append] at how52; have H52 := (H44.alloc z44 _).trans hb52; have how44 := how44.grown hg52 hne)))
          refine anch_end (Th.Reach.of (by first | exact Below.refl _ _ | exact below_alloc _ (by first | omega | (simp; done) | (simp; omega)) _ | exact below_alloc2 _ (by first | omega | (simp; done) | (simp; omega)) _ _ | exact below_alloc2d _ (by simp) _ _ | exact bdrew _ _ | assumption | (exact Below.mono (by assumption) (by first | (simp; done) | (simp; omega) | omega | assumption)))) (hKO _ _ ?_)
          clear hKO KO
          refine wpTree_float (fun KF hKF => ?_)
          simp only [List.drop, List.take]
          repeat (first | ((with_reducible refine onq_sl (.tmp 36) ?_); refine wq_cut_lh rfl _ (.tmp 36) el_u8 rfl q1 (Th.Reach.refl _ _) _ _ rfl rfl rfl (1 + k) (1 + k + m) (by omega) ?_; intro A43 r43; rw [hd5, e5] at r43; rw [e5]) | ((with_reducible refine onq_sl (.tmp 46) ?_); refine wq_cut_l rfl _ (.tmp 46) el_u8 rfl q1 (Th.Reach.refl _ _) _ rfl rfl (1 + k + m) (by omega) ?_; intro A51 r51; rw [hd6] at r51) | go_big_quiet_step (fail) | quiet_step (fail))
          refine wpQuiet_nil ?_
          refine hKF _ ?_
          clear hKF KF
          refine wpTree_done ?_
          refine hKT _ _ ?_
          clear hKT KT
          rotate_right 2
          all_goals
            go_wp2
            go_ret3
            exact ⟨A44, _, c44, A52, _, c52, rfl, how44, how52, (bdrew1 w).trans H52⟩
    · rw [if_neg hb]
      have h1 : ((b.toNat : Int) == (t.toNat : Int)) = false := byte_beq b t false (by simpa using hb)
      have h2 : (b.toNat == t.toNat) = false := by simpa using fun e => hb (UInt8.toNat_inj.1 e)
      go_enter Try.func47, Try.ntmps47
      go_wp2_with ((with_reducible refine on_index (.tmp 13) ?_); refine wl_at_b rfl _ _ _ rfl el_u8 rfl rfl (by omega) (by omega) hr ?_; intro p x hx hx5 hc; have hxb : x = b := (Option.some.inj hx.out).symm; subst hxb)
      go_ret3
      exact RetOpen.nil 3 w
end Go.Proofs.Ytgiefjbdkkdaiaa
