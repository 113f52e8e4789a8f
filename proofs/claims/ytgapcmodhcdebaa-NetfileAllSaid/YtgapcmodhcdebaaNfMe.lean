/-
  Laid together by wip/tools/merge.py out of: FrameRef, FrameAll, FrameBack, FrameBurst, FrameSpoilt, GroupPart, NewArms, Keep, AppendK, RegionL, LitsP, Open.
-/
import Derived.StillTailTactics
import Derived.Great.BuildSlice
import Derived.Great.FillDense
import Derived.ProofKit
import Derived.OpenShut
import Derived.ShutString
import Derived.ChangeOld
import Derived.Test.YtgapcmodhcdebaaNfMa
import Derived.Test.YtgapcmodhcdebaaNfMb
import Derived.Test.YtgapcmodhcdebaaNfMc
import Derived.Test.YtgapcmodhcdebaaNfMd

/-! ### FrameRef -/
namespace Go.Proofs.Ytgapcmodhcdebaa
open Go.RowKit Go.Th
set_option linter.unusedVariables false
theorem rstep_any (s : Nat) (c : UInt8) (w : World) (hs : s < 4294967296) (S : Int) (hS : (s : Int) = S) (C : Int) (hC : (c.toNat : Int) = C) :
    Calls Try.prog 85 #[.int .u32 S, .int .u8 C] w fun e w' => e = .returned (.int .u32 (cstep s c)) ∧ w = w' := by
  subst hS
  subst hC
  have hc := c.toNat_lt
  have hx0 := u32_xor_nat s c.toNat hs (by omega)
  obtain ⟨y, hy⟩ : ∃ y, s ^^^ c.toNat = y := ⟨_, rfl⟩
  have hy2 : y < 4294967296 := by rw [← hy]; exact xor_lt32 hs (by omega)
  rw [hy] at hx0
  have hst : cstep s c = ctn 8 y := by rw [← hy]; rfl
  rw [hst]
  clear hst hy
  go_enter Try.func85, Try.ntmps85
  go_wp2
  go_loop [0, 5, 6] (fun v i _ => ∃ k x : Nat, k ≤ 8 ∧ x < 4294967296 ∧ v = .int .u32 x ∧ i = .int .i64 k ∧ Hid (ctn k y = x)) (fun _ i _ => 8 - (intOf i).toNat)
  case atStart => exact ⟨0, y, by omega, hy2, rfl, rfl, rfl⟩
  case round =>
    obtain ⟨k, x, hk, hx, rfl, rfl, hX⟩ := hrel
    by_cases hlt : k < 8
    · have ha := u32_and_nat x 1 hx (by omega)
      rw [Nat.and_one_is_mod] at ha
      have hn := ctn_more k y
      rw [hX.out] at hn
      unfold ct at hn
      rcases Nat.mod_two_eq_zero_or_one x with h | h
      · rw [if_neg (by omega)] at hn
        rw [h] at ha
        have ha : bits .and .u32 (x : Int) 1 = 0 := ha
        go_wp2
        go_round
        case rel => exact ⟨k + 1, x / 2, by omega, by omega, by go_num, by go_num, hn⟩
        case measure => simp [intOf]; omega
      · rw [if_pos h] at hn
        rw [h] at ha
        have ha : bits .and .u32 (x : Int) 1 = 1 := ha
        have hp : bits .xor .u32 ((x : Int) / 2) 2197175160 = ((x / 2 ^^^ poly : Nat) : Int) := u32_xor_nat (x / 2) poly (by omega) (by decide)
        have hl : x / 2 ^^^ poly < 4294967296 := xor_lt32 (by omega) (by decide)
        go_wp2
        go_round
        case rel => exact ⟨k + 1, x / 2 ^^^ poly, by omega, hl, by first | rfl | rw [hp], by go_num, hn⟩
        case measure => simp [intOf]; omega
    · have e8 : k = 8 := by omega
      subst e8
      go_wp2
      go_ret
      rw [hX.out]
      exact ⟨rfl, rfl⟩
set_option maxRecDepth 100000 in
theorem rsum_any (A : Option Addr) (n c : Nat) (w : World) (hm : n ≤ 9223372036854775807) (B : Nat) (bs : List UInt8) (hr : RdS bv w B A n c bs) :
    Calls Try.prog 50 #[.slice A n c] w fun e w' => e = .returned (.int .u32 (csum bs)) ∧ w = w' := by
  go_enter Try.func50, Try.ntmps50
  go_wp2_with fail
  have key : Calls Try.prog 77 #[.int .u32 0, .slice A n c] w fun e w' => e = .returned (.int .u32 (csum bs)) ∧ w = w' := by
    have hx0 : bits .xor .u32 0 4294967295 = 4294967295 := by decide
    go_enter Try.func77, Try.ntmps77
    go_wp2
    go_loop [0, 5] (fun v i => ∃ k s : Nat, k ≤ n ∧ s < 4294967296 ∧ v = .int .u32 s ∧ i = .int .i64 k ∧ Hid (cfrom 4294967295 (bs.take k) = s)) (fun _ i => n - (intOf i).toNat)
    case atStart => exact ⟨0, 4294967295, by omega, by omega, by first | rfl | (rw [hx0]; rfl), rfl, rfl⟩
    case round =>
      obtain ⟨k, s, hk, hs, rfl, rfl, hS⟩ := hrel
      by_cases hlt : k < n
      · obtain ⟨x, hx⟩ : ∃ x, bs[k]? = some x := ⟨bs[k]'(by rw [hr.len]; exact hlt), List.getElem?_eq_getElem _⟩
        have hnext : cfrom 4294967295 (bs.take (k + 1)) = cstep s x := by
          rw [List.take_add_one, hx]
          show cfrom _ (_ ++ [x]) = _
          rw [cfrom_snoc, hS.out]
        have Hx := Lib.hid hx
        have Hn := Lib.hid hnext
        have hl := cstep_lt hs x
        clear hx hnext
        go_wp2_with ((with_reducible refine on_index (.tmp 15) ?_); refine wl_at_b rfl _ _ _ rfl el_u8 rfl rfl (by omega) (by omega) hr ?_; intro p x' hx' hx5 hc; have hxx : x' = x := (Option.some.inj ((show bs[k]? = some x' from hx'.out).symm.trans Hx.out)); subst hxx)
        refine (rstep_any s x' w hs _ rfl _ rfl).mono ?_
        rintro e w' ⟨rfl, rfl⟩
        go_wp2
        go_round
        case rel => exact ⟨k + 1, cstep s x', by omega, hl, rfl, by go_num, Hn.out⟩
        case measure => simp [intOf]; omega
      · have hS2 := hS.out
        rw [List.take_of_length_le (by rw [hr.len]; omega)] at hS2
        have hx9 : bits .xor .u32 (s : Int) 4294967295 = ((s ^^^ 4294967295 : Nat) : Int) := u32_xor_nat s 4294967295 hs (by omega)
        have hcs : csum bs = s ^^^ 4294967295 := by unfold csum; rw [hS2]
        have Hcs := Lib.hid hcs
        clear hcs hS2
        go_wp2
        go_ret
        rw [Hcs.out]
        first
          | exact ⟨rfl, rfl⟩
          | exact ⟨congrArg (fun z => Ending.returned (Value.int .u32 z)) hx9, rfl⟩
  refine key.mono ?_
  rintro e w1 ⟨rfl, rfl⟩
  go_wp2
  go_ret
  exact ⟨rfl, rfl⟩
end Go.Proofs.Ytgapcmodhcdebaa
namespace Go.Th
open Go.RowKit
theorem be_beq {l : List UInt8} (h : l.length = 4) {m : Nat} (hm : m < 4294967296) : (l == be m 4) = ((val l : Int) == (m : Int)) := by
  rw [Bool.eq_iff_iff, beq_iff_eq, beq_iff_eq]
  constructor
  · intro e
    rw [e, val_be 4 m (by omega)]
  · intro e
    have e : val l = m := by omega
    have := be_val l
    rw [h, e] at this
    exact this.symm
end Go.Th
namespace Go.Proofs.Ytgapcmodhcdebaa
open Go.RowKit Go.Th
set_option linter.unusedVariables false
theorem rput4 (m : Nat) (hm : m < 4294967296) (w : World) : Calls Try.prog 49 #[.int .i64 m, .int .i64 4] w (RetRow w 4 (be m 4) 0) :=
  (rput_nat m 4 w (by omega) (by omega) (by omega)).mono fun e w' hh => hh.1 (by omega)
set_option maxHeartbeats 1000000 in
theorem rfput_any (m : Nat) (hm : m < 4294967296) (M : Int) (hM : (m : Int) = M) (A : Option Addr) (n c : Nat) (w : World) (hn : n ≤ 1000000) (bs : List UInt8) (hr : RdS bv w w.heap.size A n c bs) :
    Calls Try.prog 27 #[.int .u32 M, .slice A n c] w (RetOwn (fput m bs) w) := by
  subst hM
  have hcs := csum_lt (fhead m bs)
  go_enter Try.func27, Try.ntmps27
  go_wp2_with fail
  refine (rput4 m hm w).mono ?_
  rintro e w1 ⟨A1, c1, rfl, how1, hb1⟩
  go_wp2_with ((with_reducible refine on_append (.tmp 15) (.tmp 16) ?_); refine wl_appendS rfl (.tmp 15) (.tmp 16) _ rfl el_u8 (f := bv) (fun _ => rfl) rfl how1 rfl (hr.step hb1) (by omega) (by omega) hb1.size ?_; intro A2 c2 w2 how2 _ hb2)
  have B2 := hb1.trans hb2
  have e5 : be m 4 ++ bs = fhead m bs := rfl
  rw [e5] at how2
  refine (rsum_any A2 _ c2 w2 (by omega) _ _ how2.rd).mono ?_
  rintro e w3 ⟨rfl, rfl⟩
  go_wp2_with fail
  refine (rput4 (csum (fhead m bs)) hcs w2).mono ?_
  rintro e w4 ⟨A4, c4, rfl, how4, hb4⟩
  have B4 := B2.trans (hb4.mono B2.size)
  go_wp2_with ((with_reducible refine on_append (.tmp 25) (.tmp 26) ?_); refine wl_appendS rfl (.tmp 25) (.tmp 26) _ rfl el_u8 (f := bv) (fun _ => rfl) rfl (how2.below hb4) rfl how4.rd (by omega) (by omega) B4.size ?_; intro A5 c5 w5 how5 _ hb5)
  go_ret
  exact ⟨A5, _, c5, rfl, how5, B4.trans hb5⟩
set_option maxHeartbeats 2000000 in
theorem rftake_any (m : Nat) (hm : m < 4294967296) (M : Int) (hM : (m : Int) = M) (A : Option Addr) (n c : Nat) (w : World) (hn : n ≤ 1000000) (bs : List UInt8) (hr : RdS bv w w.heap.size A n c bs) :
    Calls Try.prog 33 #[.int .u32 M, .slice A n c] w (RetTak (ftake m bs) w) := by
  subst hM
  have hl := hr.len
  by_cases h8 : n < 8
  · rw [ftake_short (by omega)]
    go_enter Try.func33, Try.ntmps33
    go_wp2
    go_ret2
    exact ⟨none, 0, 0, rfl, OwS.nil_ _ _ _, Below.refl _ _⟩
  · obtain ⟨n4, hn4⟩ : ∃ k, n = k + 4 := ⟨n - 4, by omega⟩
    subst hn4
    obtain ⟨xh, hh⟩ : ∃ h, bs.take n4 = h := ⟨_, rfl⟩
    obtain ⟨xs, hs⟩ : ∃ s, bs.drop n4 = s := ⟨_, rfl⟩
    have lh : xh.length = n4 := by rw [← hh, List.length_take]; omega
    have ls : xs.length = 4 := by rw [← hs, List.length_drop]; omega
    have hcs := csum_lt xh
    have ht4 : bs.take 4 = xh.take 4 := by rw [← hh, List.take_take, Nat.min_eq_left (by omega)]
    have hd4 : (bs.take n4).drop 4 = xh.drop 4 := by rw [hh]
    have hxs4 : xs.take 4 = xs := List.take_of_length_le (by omega)
    have l4 : (xh.take 4).length = 4 := by rw [List.length_take]; omega
    rw [ftake_parts (h := xh) (s := xs) (by omega) ls (by rw [← hh, ← hs, List.take_append_drop])]
    obtain ⟨b1, hb1⟩ : ∃ b, (xh.take 4 == be m 4) = b := ⟨_, rfl⟩
    obtain ⟨b2, hb2⟩ : ∃ b, (xs == be (csum xh) 4) = b := ⟨_, rfl⟩
    have hv1 : ((val (xh.take 4) : Int) == (m : Int)) = b1 := by rw [← hb1]; exact (be_beq l4 hm).symm
    have hv2 : ((val xs : Int) == (csum xh : Int)) = b2 := by rw [← hb2]; exact (be_beq ls hcs).symm
    have hgoal : (if xh.take 4 = be m 4 then (if xs = be (csum xh) 4 then (xh.drop 4, (0 : Int)) else ([], 6)) else ([], 5)) = if b1 = true then (if b2 = true then (xh.drop 4, 0) else ([], 6)) else ([], 5) := by
      rw [← hb1, ← hb2]
      simp only [beq_iff_eq]
    rw [hgoal]
    obtain ⟨r, hr0⟩ : ∃ r, (if b1 = true then (if b2 = true then (xh.drop 4, (0 : Int)) else ([], 6)) else ([], 5)) = r := ⟨_, rfl⟩
    rw [hr0]
    have HR := Lib.hid hr0
    have Hh := Lib.hid hh
    have Hs := Lib.hid hs
    have Ht4 := Lib.hid ht4
    have Hx4 := Lib.hid hxs4
    have h8i : decide ((n4 : Int) + 4 < 8) = false := decide_eq_false (by omega)
    have h8n : decide (n4 + 4 < 8) = false := decide_eq_false (by omega)
    have hv1n : (val (xh.take 4) == m) = b1 := by rw [← hv1, Bool.eq_iff_iff, beq_iff_eq, beq_iff_eq]; omega
    have hv2n : (val xs == csum xh) = b2 := by rw [← hv2, Bool.eq_iff_iff, beq_iff_eq, beq_iff_eq]; omega
    clear hgoal hr0 hb1 hb2 hh hs lh ls ht4 hd4 hxs4 l4
    go_enter Try.func33, Try.ntmps33
    go_wp2_with fail
    refine (rtake_yes A _ c 4 w (by omega) (by omega) (by omega) (by omega) _ _ hr).mono ?_
    rintro e w1 ⟨rfl, rfl⟩
    rw [Ht4.out]
    cases b1 with
    | false =>
      go_wp2
      go_ret2
      rw [← HR.out]
      exact ⟨none, 0, 0, rfl, OwS.nil_ _ _ _, Below.refl _ _⟩
    | true =>
      go_wp2_with ((with_reducible refine on_slice (.tmp 25) ?_); refine wl_cut_l rfl _ (.tmp 25) el_u8 rfl hr _ rfl rfl n4 (by omega) ?_; intro A28 r28; rw [Hs.out, show n4 + 4 - n4 = 4 by omega] at r28; rw [show n4 + 4 - n4 = 4 by omega])
      refine (rtake_yes A28 _ _ 4 w (by omega) (by omega) (by omega) (by omega) _ _ r28).mono ?_
      rintro e w2 ⟨rfl, rfl⟩
      rw [Hx4.out]
      go_wp2_with ((with_reducible refine on_slice (.tmp 33) ?_); refine wl_cut_h rfl _ (.tmp 33) el_u8 rfl hr _ rfl rfl n4 (by omega) ?_; intro A36 r36; rw [Hh.out] at r36)
      refine (rsum_any A36 _ _ w (by omega) _ _ r36).mono ?_
      rintro e w3 ⟨rfl, rfl⟩
      cases b2 with
      | false =>
        go_wp2
        go_ret2
        rw [← HR.out]
        exact ⟨none, 0, 0, rfl, OwS.nil_ _ _ _, Below.refl _ _⟩
      | true =>
        go_wp2_with (first
          | ((with_reducible refine on_slice (.tmp 41) ?_); refine wl_cut_lh rfl _ (.tmp 41) el_u8 rfl (hr.alloc _) _ _ rfl rfl rfl 4 n4 (by omega) ?_; intro A44 r44; rw [Hh.out] at r44)
          | ((with_reducible refine on_append (.tmp 40) (.tmp 44) ?_); refine wl_appendS rfl (.tmp 40) (.tmp 44) _ rfl el_u8 (f := bv) (fun _ => rfl) rfl (OwS.lit (base := w.heap.size) (e := 5) (xs := []) w #[] 0 (Nat.le_refl _) (by simp [maxLen]) rfl rfl) rfl r44 (by omega) (by omega) (by simp) ?_; intro A5 c5 w5 how5 _ hb5; rw [Nat.zero_add, List.nil_append] at how5))
        go_ret2
        rw [← HR.out]
        exact ⟨A5, _, c5, rfl, how5, (below_alloc w (Nat.le_refl _) _).trans hb5⟩
theorem rgput_natF (x : Nat) (h : x < 268435456) (w : World) : Calls Try.prog 51 #[.int .i64 x] w fun e w' => ∃ A c, e = .returned (.tuple #[.slice A (gsize x) c, .int .i64 0]) ∧ OwS bv w' w.heap.size 5 A (gsize x) c (gput x) ∧ Below w.heap.size w w' := by
  refine (rgput_in x w h).mono ?_
  rintro e w' ⟨A, n, c, rfl, how, hb⟩
  have : n = gsize x := by rw [← how.len, gput_length]
  subst this
  exact ⟨A, c, rfl, how, hb⟩
set_option maxHeartbeats 2000000 in
theorem rsec_any (t : UInt8) (T : Int) (hT : (t.toNat : Int) = T) (A : Option Addr) (n c : Nat) (w : World) (hm : n ≤ 1000000) (B : Nat) (bs : List UInt8) (hr : RdS bv w B A n c bs) (hB : B ≤ w.heap.size) :
    Calls Try.prog 53 #[.int .u8 T, .slice A n c] w (RetSec (fsec t bs) w) := by
  have hs := gsize_pos n
  obtain ⟨s, hs0⟩ : ∃ s, gsize n = s := ⟨_, rfl⟩
  rw [hs0] at hs
  obtain ⟨hs1, hs2⟩ := hs
  have Hs := Lib.hid hs0
  have HT := Lib.hid hT
  clear hs0 hT
  go_enter Try.func53, Try.ntmps53
  go_wp2_with fail
  refine (rgput_natF n (by omega) _).mono ?_
  rintro e w1 ⟨A1, c1, rfl, how1, hb1⟩
  rw [Hs.out] at how1 ⊢
  have r1 := hr.heap.step hb1
  go_wp2_with (first
    | ((with_reducible refine on_append (.tmp 18) (.tmp 19) ?_); refine wl_appendS rfl (.tmp 18) (.tmp 19) _ rfl el_u8 (f := bv) (fun _ => rfl) rfl (OwS.lit (base := w1.heap.size) (e := 5) (xs := [t]) w1 #[.int .u8 T] 1 (Nat.le_refl _) (by simp [maxLen]) rfl (by simp [bv, HT.out])) rfl (how1.rd.alloc _) (by omega) (by omega) (by simp) ?_; intro A3 c3 w3 how3 _ hb3; have H3 : Below w1.heap.size w1 w3 := (below_alloc w1 (Nat.le_refl _) _).trans hb3)
    | ((with_reducible refine on_append (.tmp 20) (.tmp 21) ?_); refine wl_appendS rfl (.tmp 20) (.tmp 21) _ rfl el_u8 (f := bv) (fun _ => rfl) rfl how3 rfl (r1.step H3) (by omega) (by omega) H3.size ?_; intro A5 c5 w5 how5 _ hb5; have H5 := H3.trans hb5))
  go_ret2
  refine ⟨A5, 1 + s + n, c5, rfl, ?_, next hb1 H5⟩
  have e : fsec t bs = [t] ++ gput n ++ bs := by simp [fsec, hr.len]
  rw [e]
  exact how5.base_le hb1.size
set_option maxHeartbeats 4000000 in
theorem ropen_any (t : UInt8) (T : Int) (hT : (t.toNat : Int) = T) (A : Option Addr) (n c : Nat) (w : World) (hm : n ≤ 1000000) (bs : List UInt8) (hr : RdS bv w w.heap.size A n c bs) :
    Calls Try.prog 35 #[.int .u8 T, .slice A n c] w (RetOpen (fopen t bs) w) := by
  subst hT
  have hl := hr.len
  cases bs with
  | nil =>
    subst hl
    go_enter Try.func35, Try.ntmps35
    go_wp2
    go_ret3
    exact RetOpen.nil 2 w
  | cons b r =>
    simp only [List.length_cons] at hl
    subst hl
    rw [fopen_cons]
    by_cases hb : b = t
    · subst hb
      rw [if_pos rfl]
      have e0 : ((b.toNat : Int) == (b.toNat : Int)) = true := by simp
      have hd1 : (b :: r).drop 1 = r := rfl
      rcases gtake_what r with ⟨hg, _⟩ | hg | ⟨m, k, hg, hm1, hk1, hk2, hk4, _⟩
      · rw [hg]
        have Hg := Lib.hid hg
        clear hg
        go_enter Try.func35, Try.ntmps35
        go_wp2_with (first
          | ((with_reducible refine on_index (.tmp 13) ?_); refine wl_at_b rfl _ _ _ rfl el_u8 rfl rfl (by omega) (by omega) hr ?_; intro p x hx hx5 hc; have hxb : x = b := (Option.some.inj hx.out).symm; subst hxb)
          | ((with_reducible refine on_slice (.tmp 19) ?_); refine wl_cut_l rfl _ _ el_u8 rfl hr _ rfl rfl 1 (by omega) ?_; intro A1 r1; rw [hd1] at r1)
          | (go_at_call 34; refine (rgtake_any _ _ _ _ (by omega) _ _ r1).mono ?_; rintro e w1 ⟨rfl, rfl⟩; rw [Hg.out]))
        go_ret3
        exact RetOpen.nil 2 w
      · rw [hg]
        have Hg := Lib.hid hg
        clear hg
        go_enter Try.func35, Try.ntmps35
        go_wp2_with (first
          | ((with_reducible refine on_index (.tmp 13) ?_); refine wl_at_b rfl _ _ _ rfl el_u8 rfl rfl (by omega) (by omega) hr ?_; intro p x hx hx5 hc; have hxb : x = b := (Option.some.inj hx.out).symm; subst hxb)
          | ((with_reducible refine on_slice (.tmp 19) ?_); refine wl_cut_l rfl _ _ el_u8 rfl hr _ rfl rfl 1 (by omega) ?_; intro A1 r1; rw [hd1] at r1)
          | (go_at_call 34; refine (rgtake_any _ _ _ _ (by omega) _ _ r1).mono ?_; rintro e w1 ⟨rfl, rfl⟩; rw [Hg.out]))
        go_ret3
        exact RetOpen.nil 3 w
      · have hdl : (r.drop k).length = r.length - k := List.length_drop ..
        have hd5 : ((b :: r).take (1 + k + m)).drop (1 + k) = (r.drop k).take m := by
          rw [List.drop_take, show 1 + k + m - (1 + k) = m by omega, Nat.add_comm 1 k]
          rfl
        have hd6 : (b :: r).drop (1 + k + m) = (r.drop k).drop m := by
          rw [List.drop_drop, show 1 + k + m = (k + m) + 1 by omega]
          rfl
        have e5 : 1 + k + m - (1 + k) = m := by omega
        rw [hg, if_pos rfl]
        show Calls _ _ _ _ (RetOpen (if (r.drop k).length < m then _ else ((r.drop k).take m, (r.drop k).drop m, 0)) w)
        rw [hdl]
        have Hg := Lib.hid hg
        clear hg
        by_cases hms : r.length - k < m
        · rw [if_pos hms]
          go_enter Try.func35, Try.ntmps35
          go_wp2_with (first
          | ((with_reducible refine on_index (.tmp 13) ?_); refine wl_at_b rfl _ _ _ rfl el_u8 rfl rfl (by omega) (by omega) hr ?_; intro p x hx hx5 hc; have hxb : x = b := (Option.some.inj hx.out).symm; subst hxb)
          | ((with_reducible refine on_slice (.tmp 19) ?_); refine wl_cut_l rfl _ _ el_u8 rfl hr _ rfl rfl 1 (by omega) ?_; intro A1 r1; rw [hd1] at r1)
          | (go_at_call 34; refine (rgtake_any _ _ _ _ (by omega) _ _ r1).mono ?_; rintro e w1 ⟨rfl, rfl⟩; rw [Hg.out]))
          go_ret3
          exact RetOpen.nil 2 w
        · rw [if_neg hms]
          go_enter Try.func35, Try.ntmps35
          go_wp2_with (first
          | ((with_reducible refine on_index (.tmp 13) ?_); refine wl_at_b rfl _ _ _ rfl el_u8 rfl rfl (by omega) (by omega) hr ?_; intro p x hx hx5 hc; have hxb : x = b := (Option.some.inj hx.out).symm; subst hxb)
          | ((with_reducible refine on_slice (.tmp 19) ?_); refine wl_cut_l rfl _ _ el_u8 rfl hr _ rfl rfl 1 (by omega) ?_; intro A1 r1; rw [hd1] at r1)
          | (go_at_call 34; refine (rgtake_any _ _ _ _ (by omega) _ _ r1).mono ?_; rintro e w1 ⟨rfl, rfl⟩; rw [Hg.out]))
          have q1 := RdC.of_reach (B' := w.heap.size) (hr.step (bdrew1 w)) (Nat.le_refl _)
          refine wp_region_tree (.float 1 8 (.float 11 6 (.two 0 (.two 9 (.one 10 (.one 17 (.float 18 3 .done))) 10 (.one 9 (.one 17 (.float 18 3 .done)))) 10 (.one 0 (.one 9 (.one 17 (.float 18 3 .done))))))) (Th.Reach w.heap.size) (Th.Reach.trans _) (Th.Reach.refl _) (by kernel_rfl) (by kernel_rfl) (fun KT hKT => ?_)
          refine wpTree_float (fun KF hKF => ?_)
          simp only [List.drop, List.take]
          repeat (first | go_big_quiet_skip | ((with_reducible refine onq_sl (.tmp 36) ?_); refine wq_cut_lh rfl _ (.tmp 36) el_u8 rfl q1 (Th.Reach.refl _ _) _ _ rfl rfl rfl (1 + k) (1 + k + m) (by omega) ?_; intro A43 r43; rw [hd5, e5] at r43; rw [e5]) | ((with_reducible refine onq_sl (.tmp 46) ?_); refine wq_cut_l rfl _ (.tmp 46) el_u8 rfl q1 (Th.Reach.refl _ _) _ rfl rfl (1 + k + m) (by omega) ?_; intro A51 r51; rw [hd6] at r51) | go_big_quiet_step (fail) | quiet_step (fail))
          refine wpQuiet_nil ?_
          refine hKF _ ?_
          clear hKF KF
          refine wpTree_float (fun KF hKF => ?_)
          simp only [List.drop, List.take]
          repeat (first | go_big_quiet_skip | ((with_reducible refine onq_sl (.tmp 36) ?_); refine wq_cut_lh rfl _ (.tmp 36) el_u8 rfl q1 (Th.Reach.refl _ _) _ _ rfl rfl rfl (1 + k) (1 + k + m) (by omega) ?_; intro A43 r43; rw [hd5, e5] at r43; rw [e5]) | ((with_reducible refine onq_sl (.tmp 46) ?_); refine wq_cut_l rfl _ (.tmp 46) el_u8 rfl q1 (Th.Reach.refl _ _) _ rfl rfl (1 + k + m) (by omega) ?_; intro A51 r51; rw [hd6] at r51) | go_big_quiet_step (fail) | quiet_step (fail))
          refine wpQuiet_nil ?_
          refine hKF _ ?_
          clear hKF KF
          refine wpTree_two ?_ ?_
          refine wpTree_one (fun KO hKO => ?_)
          simp only [List.drop, List.take]
          go_wp2_with (first | ((with_reducible refine on_append (.tmp 35) (.tmp 43) ?_); first | (refine wl_appendA rfl (.tmp 35) (.tmp 43) _ rfl el_u8 (f := bv) (fun _ => rfl) rfl (OwS.lit (base := w.heap.size) (e := 5) (xs := []) w.drew #[] 0 (Nat.le_refl _) (by simp [maxLen]) rfl rfl) rfl (r43.rd _ (Th.Reach.of (below_alloc w.drew (Nat.le_refl _) _))) (by omega) (by omega) (by first | (simp; done) | (simp; omega) | omega) ?_; intro A44 c44 w44 how44 hg44 hb44 hA44; rw [Nat.zero_add, List.nil_append] at how44; have H44 : Below w.heap.size w.drew w44 := Below.trans (below_alloc w.drew (Nat.le_refl _) _) hb44; have z44 : w.heap.size ≤ w44.heap.size := (by have := H44.size; simpa using this); have l45 := (OwS.lit (base := w.heap.size) (e := 5) (f := bv) (xs := []) w44 #[] 0 z44 (by simp [maxLen]) rfl rfl); have hz44 : ∀ g, A44 = some ⟨g, 0, none⟩ → g < w44.heap.size := (by intro g hg; rcases how44.ow.form with ⟨e, _⟩ | ⟨g', e, _, hl⟩ <;> (rw [e] at hg) <;> simp at hg; omega); have how44 := how44.alloc (.cells #[] 5); have hne : ∀ g, A44 = some ⟨g, 0, none⟩ → rowOf (some ⟨w44.heap.size, 0, none⟩) ≠ some g := (by intro g hg; have := hz44 g hg; simp [rowOf]; omega)) | (refine wl_appendA rfl (.tmp 35) (.tmp 43) _ rfl el_u8 (f := bv) (fun _ => rfl) rfl ((OwS.lit (base := w.heap.size) (e := 5) (xs := []) w.drew #[] 0 (Nat.le_refl _) (by simp [maxLen]) rfl rfl).alloc (.cells #[] 5)) rfl (r43.rd _ (Th.Reach.of ((below_alloc w.drew (Nat.le_refl _) _).alloc (by simp) _))) (by omega) (by omega) (by first | (simp; done) | (simp; omega) | omega) ?_; intro A44 c44 w44 how44 hg44 hb44 hA44; rw [Nat.zero_add, List.nil_append] at how44; have H44 : Below w.heap.size w.drew w44 := Below.trans ((below_alloc w.drew (Nat.le_refl _) _).alloc (by simp) _) hb44; have z44 : w.heap.size ≤ w44.heap.size := (by have := H44.size; simpa using this); have l45 := OwS.grown (OwS.lit' (base := w.heap.size) (e := 5) (f := bv) (xs := []) (w.drew.alloc (.cells #[] 5)) #[] 0 (w.heap.size + 1) (by simp) (by first | (simp; done) | (simp; omega) | omega) (by simp [maxLen]) rfl rfl) hg44 (by intro g hg; simp [rowOf] at hg ⊢; omega); have hne : ∀ g, A44 = some ⟨g, 0, none⟩ → rowOf (some ⟨w.heap.size + 1, 0, none⟩) ≠ some g := (by intro g hg; rcases hA44 with e | e <;> (rw [e] at hg; simp at hg; simp [rowOf]; omega))) | (refine wl_appendA rfl (.tmp 35) (.tmp 43) _ rfl el_u8 (f := bv) (fun _ => rfl) rfl (OwS.lit' (base := w.heap.size) (e := 5) (xs := []) (w.drew.alloc (.cells #[] 5)) #[] 0 (w.heap.size + 1) (by simp) (by first | (simp; done) | (simp; omega) | omega) (by simp [maxLen]) rfl rfl) rfl (r43.rd _ (Th.Reach.of ((below_alloc w.drew (Nat.le_refl _) _).alloc (by simp) _))) (by omega) (by omega) (by first | (simp; done) | (simp; omega) | omega) ?_; intro A44 c44 w44 how44 hg44 hb44 hA44; rw [Nat.zero_add, List.nil_append] at how44; have H44 : Below w.heap.size w.drew w44 := Below.trans ((below_alloc w.drew (Nat.le_refl _) _).alloc (by simp) _) hb44; have z44 : w.heap.size ≤ w44.heap.size := (by have := H44.size; simpa using this); have l45 := OwS.grown ((OwS.lit (base := w.heap.size) (e := 5) (f := bv) (xs := []) w.drew #[] 0 (Nat.le_refl _) (by simp [maxLen]) rfl rfl).alloc (.cells #[] 5)) hg44 (by intro g hg; simp [rowOf] at hg ⊢; omega); have hne : ∀ g, A44 = some ⟨g, 0, none⟩ → rowOf (some ⟨w.heap.size, 0, none⟩) ≠ some g := (by intro g hg; rcases hA44 with e | e <;> (rw [e] at hg; simp at hg; simp [rowOf]; omega)))) | ((with_reducible refine on_append (.tmp 45) (.tmp 51) ?_); first | (refine wl_appendA rfl (.tmp 45) (.tmp 51) _ rfl el_u8 (f := bv) (fun _ => rfl) rfl l45 rfl (r51.rd _ (Th.Reach.of H44)) (by omega) (by omega) z44 ?_; intro A52 c52 w52 how52 hg52 hb52 hA52; rw [Nat.zero_add, List.nil_append] at how52; have H52 := H44.trans hb52; have how44 := how44.grown hg52 hne) | (refine wl_appendA rfl (.tmp 45) (.tmp 51) _ rfl el_u8 (f := bv) (fun _ => rfl) rfl l45 rfl (r51.rd _ (Th.Reach.of (H44.alloc z44 _))) (by omega) (by omega) (by simp; omega) ?_; intro A52 c52 w52 how52 hg52 hb52 hA52; rw [Nat.zero_add, List.nil_append] at how52; have H52 := (H44.alloc z44 _).trans hb52; have how44 := how44.grown hg52 hne)))
          refine anch_end (Th.Reach.of (by first | exact Below.refl _ _ | exact below_alloc _ (by first | omega | (simp; done) | (simp; omega)) _ | exact below_alloc2 _ (by first | omega | (simp; done) | (simp; omega)) _ _ | exact below_alloc2d _ (by simp) _ _ | exact bdrew _ _ | assumption | (exact Below.mono (by assumption) (by first | (simp; done) | (simp; omega) | omega | assumption)))) (hKO _ _ ?_)
          clear hKO KO
          refine wpTree_two ?_ ?_
          refine wpTree_one (fun KO hKO => ?_)
          simp only [List.drop, List.take]
          go_wp2_with (first | ((with_reducible refine on_append (.tmp 35) (.tmp 43) ?_); first | (refine wl_appendA rfl (.tmp 35) (.tmp 43) _ rfl el_u8 (f := bv) (fun _ => rfl) rfl (OwS.lit (base := w.heap.size) (e := 5) (xs := []) w.drew #[] 0 (Nat.le_refl _) (by simp [maxLen]) rfl rfl) rfl (r43.rd _ (Th.Reach.of (below_alloc w.drew (Nat.le_refl _) _))) (by omega) (by omega) (by first | (simp; done) | (simp; omega) | omega) ?_; intro A44 c44 w44 how44 hg44 hb44 hA44; rw [Nat.zero_add, List.nil_append] at how44; have H44 : Below w.heap.size w.drew w44 := Below.trans (below_alloc w.drew (Nat.le_refl _) _) hb44; have z44 : w.heap.size ≤ w44.heap.size := (by have := H44.size; simpa using this); have l45 := (OwS.lit (base := w.heap.size) (e := 5) (f := bv) (xs := []) w44 #[] 0 z44 (by simp [maxLen]) rfl rfl); have hz44 : ∀ g, A44 = some ⟨g, 0, none⟩ → g < w44.heap.size := (by intro g hg; rcases how44.ow.form with ⟨e, _⟩ | ⟨g', e, _, hl⟩ <;> (rw [e] at hg) <;> simp at hg; omega); have how44 := how44.alloc (.cells #[] 5); have hne : ∀ g, A44 = some ⟨g, 0, none⟩ → rowOf (some ⟨w44.heap.size, 0, none⟩) ≠ some g := (by intro g hg; have := hz44 g hg; simp [rowOf]; omega)) | (refine wl_appendA rfl (.tmp 35) (.tmp 43) _ rfl el_u8 (f := bv) (fun _ => rfl) rfl ((OwS.lit (base := w.heap.size) (e := 5) (xs := []) w.drew #[] 0 (Nat.le_refl _) (by simp [maxLen]) rfl rfl).alloc (.cells #[] 5)) rfl (r43.rd _ (Th.Reach.of ((below_alloc w.drew (Nat.le_refl _) _).alloc (by simp) _))) (by omega) (by omega) (by first | (simp; done) | (simp; omega) | omega) ?_; intro A44 c44 w44 how44 hg44 hb44 hA44; rw [Nat.zero_add, List.nil_append] at how44; have H44 : Below w.heap.size w.drew w44 := Below.trans ((below_alloc w.drew (Nat.le_refl _) _).alloc (by simp) _) hb44; have z44 : w.heap.size ≤ w44.heap.size := (by have := H44.size; simpa using this); have l45 := OwS.grown (OwS.lit' (base := w.heap.size) (e := 5) (f := bv) (xs := []) (w.drew.alloc (.cells #[] 5)) #[] 0 (w.heap.size + 1) (by simp) (by first | (simp; done) | (simp; omega) | omega) (by simp [maxLen]) rfl rfl) hg44 (by intro g hg; simp [rowOf] at hg ⊢; omega); have hne : ∀ g, A44 = some ⟨g, 0, none⟩ → rowOf (some ⟨w.heap.size + 1, 0, none⟩) ≠ some g := (by intro g hg; rcases hA44 with e | e <;> (rw [e] at hg; simp at hg; simp [rowOf]; omega))) | (refine wl_appendA rfl (.tmp 35) (.tmp 43) _ rfl el_u8 (f := bv) (fun _ => rfl) rfl (OwS.lit' (base := w.heap.size) (e := 5) (xs := []) (w.drew.alloc (.cells #[] 5)) #[] 0 (w.heap.size + 1) (by simp) (by first | (simp; done) | (simp; omega) | omega) (by simp [maxLen]) rfl rfl) rfl (r43.rd _ (Th.Reach.of ((below_alloc w.drew (Nat.le_refl _) _).alloc (by simp) _))) (by omega) (by omega) (by first | (simp; done) | (simp; omega) | omega) ?_; intro A44 c44 w44 how44 hg44 hb44 hA44; rw [Nat.zero_add, List.nil_append] at how44; have H44 : Below w.heap.size w.drew w44 := Below.trans ((below_alloc w.drew (Nat.le_refl _) _).alloc (by simp) _) hb44; have z44 : w.heap.size ≤ w44.heap.size := (by have := H44.size; simpa using this); have l45 := OwS.grown ((OwS.lit (base := w.heap.size) (e := 5) (f := bv) (xs := []) w.drew #[] 0 (Nat.le_refl _) (by simp [maxLen]) rfl rfl).alloc (.cells #[] 5)) hg44 (by intro g hg; simp [rowOf] at hg ⊢; omega); have hne : ∀ g, A44 = some ⟨g, 0, none⟩ → rowOf (some ⟨w.heap.size, 0, none⟩) ≠ some g := (by intro g hg; rcases hA44 with e | e <;> (rw [e] at hg; simp at hg; simp [rowOf]; omega)))) | ((with_reducible refine on_append (.tmp 45) (.tmp 51) ?_); first | (refine wl_appendA rfl (.tmp 45) (.tmp 51) _ rfl el_u8 (f := bv) (fun _ => rfl) rfl l45 rfl (r51.rd _ (Th.Reach.of H44)) (by omega) (by omega) z44 ?_; intro A52 c52 w52 how52 hg52 hb52 hA52; rw [Nat.zero_add, List.nil_append] at how52; have H52 := H44.trans hb52; have how44 := how44.grown hg52 hne) | (refine wl_appendA rfl (.tmp 45) (.tmp 51) _ rfl el_u8 (f := bv) (fun _ => rfl) rfl l45 rfl (r51.rd _ (Th.Reach.of (H44.alloc z44 _))) (by omega) (by omega) (by simp; omega) ?_; intro A52 c52 w52 how52 hg52 hb52 hA52; rw [Nat.zero_add, List.nil_append] at how52; have H52 := (H44.alloc z44 _).trans hb52; have how44 := how44.grown hg52 hne)))
          refine anch_end (Th.Reach.of (by first | exact Below.refl _ _ | exact below_alloc _ (by first | omega | (simp; done) | (simp; omega)) _ | exact below_alloc2 _ (by first | omega | (simp; done) | (simp; omega)) _ _ | exact below_alloc2d _ (by simp) _ _ | exact bdrew _ _ | assumption | (exact Below.mono (by assumption) (by first | (simp; done) | (simp; omega) | omega | assumption)))) (hKO _ _ ?_)
          clear hKO KO
          refine wpTree_one (fun KO hKO => ?_)
          simp only [List.drop, List.take]
          go_wp2_with (first | ((with_reducible refine on_append (.tmp 35) (.tmp 43) ?_); first | (refine wl_appendA rfl (.tmp 35) (.tmp 43) _ rfl el_u8 (f := bv) (fun _ => rfl) rfl (OwS.lit (base := w.heap.size) (e := 5) (xs := []) w.drew #[] 0 (Nat.le_refl _) (by simp [maxLen]) rfl rfl) rfl (r43.rd _ (Th.Reach.of (below_alloc w.drew (Nat.le_refl _) _))) (by omega) (by omega) (by first | (simp; done) | (simp; omega) | omega) ?_; intro A44 c44 w44 how44 hg44 hb44 hA44; rw [Nat.zero_add, List.nil_append] at how44; have H44 : Below w.heap.size w.drew w44 := Below.trans (below_alloc w.drew (Nat.le_refl _) _) hb44; have z44 : w.heap.size ≤ w44.heap.size := (by have := H44.size; simpa using this); have l45 := (OwS.lit (base := w.heap.size) (e := 5) (f := bv) (xs := []) w44 #[] 0 z44 (by simp [maxLen]) rfl rfl); have hz44 : ∀ g, A44 = some ⟨g, 0, none⟩ → g < w44.heap.size := (by intro g hg; rcases how44.ow.form with ⟨e, _⟩ | ⟨g', e, _, hl⟩ <;> (rw [e] at hg) <;> simp at hg; omega); have how44 := how44.alloc (.cells #[] 5); have hne : ∀ g, A44 = some ⟨g, 0, none⟩ → rowOf (some ⟨w44.heap.size, 0, none⟩) ≠ some g := (by intro g hg; have := hz44 g hg; simp [rowOf]; omega)) | (refine wl_appendA rfl (.tmp 35) (.tmp 43) _ rfl el_u8 (f := bv) (fun _ => rfl) rfl ((OwS.lit (base := w.heap.size) (e := 5) (xs := []) w.drew #[] 0 (Nat.le_refl _) (by simp [maxLen]) rfl rfl).alloc (.cells #[] 5)) rfl (r43.rd _ (Th.Reach.of ((below_alloc w.drew (Nat.le_refl _) _).alloc (by simp) _))) (by omega) (by omega) (by first | (simp; done) | (simp; omega) | omega) ?_; intro A44 c44 w44 how44 hg44 hb44 hA44; rw [Nat.zero_add, List.nil_append] at how44; have H44 : Below w.heap.size w.drew w44 := Below.trans ((below_alloc w.drew (Nat.le_refl _) _).alloc (by simp) _) hb44; have z44 : w.heap.size ≤ w44.heap.size := (by have := H44.size; simpa using this); have l45 := OwS.grown (OwS.lit' (base := w.heap.size) (e := 5) (f := bv) (xs := []) (w.drew.alloc (.cells #[] 5)) #[] 0 (w.heap.size + 1) (by simp) (by first | (simp; done) | (simp; omega) | omega) (by simp [maxLen]) rfl rfl) hg44 (by intro g hg; simp [rowOf] at hg ⊢; omega); have hne : ∀ g, A44 = some ⟨g, 0, none⟩ → rowOf (some ⟨w.heap.size + 1, 0, none⟩) ≠ some g := (by intro g hg; rcases hA44 with e | e <;> (rw [e] at hg; simp at hg; simp [rowOf]; omega))) | (refine wl_appendA rfl (.tmp 35) (.tmp 43) _ rfl el_u8 (f := bv) (fun _ => rfl) rfl (OwS.lit' (base := w.heap.size) (e := 5) (xs := []) (w.drew.alloc (.cells #[] 5)) #[] 0 (w.heap.size + 1) (by simp) (by first | (simp; done) | (simp; omega) | omega) (by simp [maxLen]) rfl rfl) rfl (r43.rd _ (Th.Reach.of ((below_alloc w.drew (Nat.le_refl _) _).alloc (by simp) _))) (by omega) (by omega) (by first | (simp; done) | (simp; omega) | omega) ?_; intro A44 c44 w44 how44 hg44 hb44 hA44; rw [Nat.zero_add, List.nil_append] at how44; have H44 : Below w.heap.size w.drew w44 := Below.trans ((below_alloc w.drew (Nat.le_refl _) _).alloc (by simp) _) hb44; have z44 : w.heap.size ≤ w44.heap.size := (by have := H44.size; simpa using this); have l45 := OwS.grown ((OwS.lit (base := w.heap.size) (e := 5) (f := bv) (xs := []) w.drew #[] 0 (Nat.le_refl _) (by simp [maxLen]) rfl rfl).alloc (.cells #[] 5)) hg44 (by intro g hg; simp [rowOf] at hg ⊢; omega); have hne : ∀ g, A44 = some ⟨g, 0, none⟩ → rowOf (some ⟨w.heap.size, 0, none⟩) ≠ some g := (by intro g hg; rcases hA44 with e | e <;> (rw [e] at hg; simp at hg; simp [rowOf]; omega)))) | ((with_reducible refine on_append (.tmp 45) (.tmp 51) ?_); first | (refine wl_appendA rfl (.tmp 45) (.tmp 51) _ rfl el_u8 (f := bv) (fun _ => rfl) rfl l45 rfl (r51.rd _ (Th.Reach.of H44)) (by omega) (by omega) z44 ?_; intro A52 c52 w52 how52 hg52 hb52 hA52; rw [Nat.zero_add, List.nil_append] at how52; have H52 := H44.trans hb52; have how44 := how44.grown hg52 hne) | (refine wl_appendA rfl (.tmp 45) (.tmp 51) _ rfl el_u8 (f := bv) (fun _ => rfl) rfl l45 rfl (r51.rd _ (Th.Reach.of (H44.alloc z44 _))) (by omega) (by omega) (by simp; omega) ?_; intro A52 c52 w52 how52 hg52 hb52 hA52; rw [Nat.zero_add, List.nil_append] at how52; have H52 := (H44.alloc z44 _).trans hb52; have how44 := how44.grown hg52 hne)))
          refine anch_end (Th.Reach.of (by first | exact Below.refl _ _ | exact below_alloc _ (by first | omega | (simp; done) | (simp; omega)) _ | exact below_alloc2 _ (by first | omega | (simp; done) | (simp; omega)) _ _ | exact below_alloc2d _ (by simp) _ _ | exact bdrew _ _ | assumption | (exact Below.mono (by assumption) (by first | (simp; done) | (simp; omega) | omega | assumption)))) (hKO _ _ ?_)
          clear hKO KO
          refine wpTree_one (fun KO hKO => ?_)
          simp only [List.drop, List.take]
          go_wp2_with (first | ((with_reducible refine on_append (.tmp 35) (.tmp 43) ?_); first | (refine wl_appendA rfl (.tmp 35) (.tmp 43) _ rfl el_u8 (f := bv) (fun _ => rfl) rfl (OwS.lit (base := w.heap.size) (e := 5) (xs := []) w.drew #[] 0 (Nat.le_refl _) (by simp [maxLen]) rfl rfl) rfl (r43.rd _ (Th.Reach.of (below_alloc w.drew (Nat.le_refl _) _))) (by omega) (by omega) (by first | (simp; done) | (simp; omega) | omega) ?_; intro A44 c44 w44 how44 hg44 hb44 hA44; rw [Nat.zero_add, List.nil_append] at how44; have H44 : Below w.heap.size w.drew w44 := Below.trans (below_alloc w.drew (Nat.le_refl _) _) hb44; have z44 : w.heap.size ≤ w44.heap.size := (by have := H44.size; simpa using this); have l45 := (OwS.lit (base := w.heap.size) (e := 5) (f := bv) (xs := []) w44 #[] 0 z44 (by simp [maxLen]) rfl rfl); have hz44 : ∀ g, A44 = some ⟨g, 0, none⟩ → g < w44.heap.size := (by intro g hg; rcases how44.ow.form with ⟨e, _⟩ | ⟨g', e, _, hl⟩ <;> (rw [e] at hg) <;> simp at hg; omega); have how44 := how44.alloc (.cells #[] 5); have hne : ∀ g, A44 = some ⟨g, 0, none⟩ → rowOf (some ⟨w44.heap.size, 0, none⟩) ≠ some g := (by intro g hg; have := hz44 g hg; simp [rowOf]; omega)) | (refine wl_appendA rfl (.tmp 35) (.tmp 43) _ rfl el_u8 (f := bv) (fun _ => rfl) rfl ((OwS.lit (base := w.heap.size) (e := 5) (xs := []) w.drew #[] 0 (Nat.le_refl _) (by simp [maxLen]) rfl rfl).alloc (.cells #[] 5)) rfl (r43.rd _ (Th.Reach.of ((below_alloc w.drew (Nat.le_refl _) _).alloc (by simp) _))) (by omega) (by omega) (by first | (simp; done) | (simp; omega) | omega) ?_; intro A44 c44 w44 how44 hg44 hb44 hA44; rw [Nat.zero_add, List.nil_append] at how44; have H44 : Below w.heap.size w.drew w44 := Below.trans ((below_alloc w.drew (Nat.le_refl _) _).alloc (by simp) _) hb44; have z44 : w.heap.size ≤ w44.heap.size := (by have := H44.size; simpa using this); have l45 := OwS.grown (OwS.lit' (base := w.heap.size) (e := 5) (f := bv) (xs := []) (w.drew.alloc (.cells #[] 5)) #[] 0 (w.heap.size + 1) (by simp) (by first | (simp; done) | (simp; omega) | omega) (by simp [maxLen]) rfl rfl) hg44 (by intro g hg; simp [rowOf] at hg ⊢; omega); have hne : ∀ g, A44 = some ⟨g, 0, none⟩ → rowOf (some ⟨w.heap.size + 1, 0, none⟩) ≠ some g := (by intro g hg; rcases hA44 with e | e <;> (rw [e] at hg; simp at hg; simp [rowOf]; omega))) | (refine wl_appendA rfl (.tmp 35) (.tmp 43) _ rfl el_u8 (f := bv) (fun _ => rfl) rfl (OwS.lit' (base := w.heap.size) (e := 5) (xs := []) (w.drew.alloc (.cells #[] 5)) #[] 0 (w.heap.size + 1) (by simp) (by first | (simp; done) | (simp; omega) | omega) (by simp [maxLen]) rfl rfl) rfl (r43.rd _ (Th.Reach.of ((below_alloc w.drew (Nat.le_refl _) _).alloc (by simp) _))) (by omega) (by omega) (by first | (simp; done) | (simp; omega) | omega) ?_; intro A44 c44 w44 how44 hg44 hb44 hA44; rw [Nat.zero_add, List.nil_append] at how44; have H44 : Below w.heap.size w.drew w44 := Below.trans ((below_alloc w.drew (Nat.le_refl _) _).alloc (by simp) _) hb44; have z44 : w.heap.size ≤ w44.heap.size := (by have := H44.size; simpa using this); have l45 := OwS.grown ((OwS.lit (base := w.heap.size) (e := 5) (f := bv) (xs := []) w.drew #[] 0 (Nat.le_refl _) (by simp [maxLen]) rfl rfl).alloc (.cells #[] 5)) hg44 (by intro g hg; simp [rowOf] at hg ⊢; omega); have hne : ∀ g, A44 = some ⟨g, 0, none⟩ → rowOf (some ⟨w.heap.size, 0, none⟩) ≠ some g := (by intro g hg; rcases hA44 with e | e <;> (rw [e] at hg; simp at hg; simp [rowOf]; omega)))) | ((with_reducible refine on_append (.tmp 45) (.tmp 51) ?_); first | (refine wl_appendA rfl (.tmp 45) (.tmp 51) _ rfl el_u8 (f := bv) (fun _ => rfl) rfl l45 rfl (r51.rd _ (Th.Reach.of H44)) (by omega) (by omega) z44 ?_; intro A52 c52 w52 how52 hg52 hb52 hA52; rw [Nat.zero_add, List.nil_append] at how52; have H52 := H44.trans hb52; have how44 := how44.grown hg52 hne) | (refine wl_appendA rfl (.tmp 45) (.tmp 51) _ rfl el_u8 (f := bv) (fun _ => rfl) rfl l45 rfl (r51.rd _ (Th.Reach.of (H44.alloc z44 _))) (by omega) (by omega) (by simp; omega) ?_; intro A52 c52 w52 how52 hg52 hb52 hA52; rw [Nat.zero_add, List.nil_append] at how52; have H52 := (H44.alloc z44 _).trans hb52; have how44 := how44.grown hg52 hne)))
          refine anch_end (Th.Reach.of (by first | exact Below.refl _ _ | exact below_alloc _ (by first | omega | (simp; done) | (simp; omega)) _ | exact below_alloc2 _ (by first | omega | (simp; done) | (simp; omega)) _ _ | exact below_alloc2d _ (by simp) _ _ | exact bdrew _ _ | assumption | (exact Below.mono (by assumption) (by first | (simp; done) | (simp; omega) | omega | assumption)))) (hKO _ _ ?_)
          clear hKO KO
          refine wpTree_float (fun KF hKF => ?_)
          simp only [List.drop, List.take]
          repeat (first | go_big_quiet_skip | ((with_reducible refine onq_sl (.tmp 36) ?_); refine wq_cut_lh rfl _ (.tmp 36) el_u8 rfl q1 (Th.Reach.refl _ _) _ _ rfl rfl rfl (1 + k) (1 + k + m) (by omega) ?_; intro A43 r43; rw [hd5, e5] at r43; rw [e5]) | ((with_reducible refine onq_sl (.tmp 46) ?_); refine wq_cut_l rfl _ (.tmp 46) el_u8 rfl q1 (Th.Reach.refl _ _) _ rfl rfl (1 + k + m) (by omega) ?_; intro A51 r51; rw [hd6] at r51) | go_big_quiet_step (fail) | quiet_step (fail))
          refine wpQuiet_nil ?_
          refine hKF _ ?_
          clear hKF KF
          refine wpTree_done ?_
          refine hKT _ _ ?_
          clear hKT KT
          rotate_left 1
          refine wpTree_one (fun KO hKO => ?_)
          simp only [List.drop, List.take]
          go_wp2_with (first | ((with_reducible refine on_append (.tmp 35) (.tmp 43) ?_); first | (refine wl_appendA rfl (.tmp 35) (.tmp 43) _ rfl el_u8 (f := bv) (fun _ => rfl) rfl (OwS.lit (base := w.heap.size) (e := 5) (xs := []) w.drew #[] 0 (Nat.le_refl _) (by simp [maxLen]) rfl rfl) rfl (r43.rd _ (Th.Reach.of (below_alloc w.drew (Nat.le_refl _) _))) (by omega) (by omega) (by first | (simp; done) | (simp; omega) | omega) ?_; intro A44 c44 w44 how44 hg44 hb44 hA44; rw [Nat.zero_add, List.nil_append] at how44; have H44 : Below w.heap.size w.drew w44 := Below.trans (below_alloc w.drew (Nat.le_refl _) _) hb44; have z44 : w.heap.size ≤ w44.heap.size := (by have := H44.size; simpa using this); have l45 := (OwS.lit (base := w.heap.size) (e := 5) (f := bv) (xs := []) w44 #[] 0 z44 (by simp [maxLen]) rfl rfl); have hz44 : ∀ g, A44 = some ⟨g, 0, none⟩ → g < w44.heap.size := (by intro g hg; rcases how44.ow.form with ⟨e, _⟩ | ⟨g', e, _, hl⟩ <;> (rw [e] at hg) <;> simp at hg; omega); have how44 := how44.alloc (.cells #[] 5); have hne : ∀ g, A44 = some ⟨g, 0, none⟩ → rowOf (some ⟨w44.heap.size, 0, none⟩) ≠ some g := (by intro g hg; have := hz44 g hg; simp [rowOf]; omega)) | (refine wl_appendA rfl (.tmp 35) (.tmp 43) _ rfl el_u8 (f := bv) (fun _ => rfl) rfl ((OwS.lit (base := w.heap.size) (e := 5) (xs := []) w.drew #[] 0 (Nat.le_refl _) (by simp [maxLen]) rfl rfl).alloc (.cells #[] 5)) rfl (r43.rd _ (Th.Reach.of ((below_alloc w.drew (Nat.le_refl _) _).alloc (by simp) _))) (by omega) (by omega) (by first | (simp; done) | (simp; omega) | omega) ?_; intro A44 c44 w44 how44 hg44 hb44 hA44; rw [Nat.zero_add, List.nil_append] at how44; have H44 : Below w.heap.size w.drew w44 := Below.trans ((below_alloc w.drew (Nat.le_refl _) _).alloc (by simp) _) hb44; have z44 : w.heap.size ≤ w44.heap.size := (by have := H44.size; simpa using this); have l45 := OwS.grown (OwS.lit' (base := w.heap.size) (e := 5) (f := bv) (xs := []) (w.drew.alloc (.cells #[] 5)) #[] 0 (w.heap.size + 1) (by simp) (by first | (simp; done) | (simp; omega) | omega) (by simp [maxLen]) rfl rfl) hg44 (by intro g hg; simp [rowOf] at hg ⊢; omega); have hne : ∀ g, A44 = some ⟨g, 0, none⟩ → rowOf (some ⟨w.heap.size + 1, 0, none⟩) ≠ some g := (by intro g hg; rcases hA44 with e | e <;> (rw [e] at hg; simp at hg; simp [rowOf]; omega))) | (refine wl_appendA rfl (.tmp 35) (.tmp 43) _ rfl el_u8 (f := bv) (fun _ => rfl) rfl (OwS.lit' (base := w.heap.size) (e := 5) (xs := []) (w.drew.alloc (.cells #[] 5)) #[] 0 (w.heap.size + 1) (by simp) (by first | (simp; done) | (simp; omega) | omega) (by simp [maxLen]) rfl rfl) rfl (r43.rd _ (Th.Reach.of ((below_alloc w.drew (Nat.le_refl _) _).alloc (by simp) _))) (by omega) (by omega) (by first | (simp; done) | (simp; omega) | omega) ?_; intro A44 c44 w44 how44 hg44 hb44 hA44; rw [Nat.zero_add, List.nil_append] at how44; have H44 : Below w.heap.size w.drew w44 := Below.trans ((below_alloc w.drew (Nat.le_refl _) _).alloc (by simp) _) hb44; have z44 : w.heap.size ≤ w44.heap.size := (by have := H44.size; simpa using this); have l45 := OwS.grown ((OwS.lit (base := w.heap.size) (e := 5) (f := bv) (xs := []) w.drew #[] 0 (Nat.le_refl _) (by simp [maxLen]) rfl rfl).alloc (.cells #[] 5)) hg44 (by intro g hg; simp [rowOf] at hg ⊢; omega); have hne : ∀ g, A44 = some ⟨g, 0, none⟩ → rowOf (some ⟨w.heap.size, 0, none⟩) ≠ some g := (by intro g hg; rcases hA44 with e | e <;> (rw [e] at hg; simp at hg; simp [rowOf]; omega)))) | ((with_reducible refine on_append (.tmp 45) (.tmp 51) ?_); first | (refine wl_appendA rfl (.tmp 45) (.tmp 51) _ rfl el_u8 (f := bv) (fun _ => rfl) rfl l45 rfl (r51.rd _ (Th.Reach.of H44)) (by omega) (by omega) z44 ?_; intro A52 c52 w52 how52 hg52 hb52 hA52; rw [Nat.zero_add, List.nil_append] at how52; have H52 := H44.trans hb52; have how44 := how44.grown hg52 hne) | (refine wl_appendA rfl (.tmp 45) (.tmp 51) _ rfl el_u8 (f := bv) (fun _ => rfl) rfl l45 rfl (r51.rd _ (Th.Reach.of (H44.alloc z44 _))) (by omega) (by omega) (by simp; omega) ?_; intro A52 c52 w52 how52 hg52 hb52 hA52; rw [Nat.zero_add, List.nil_append] at how52; have H52 := (H44.alloc z44 _).trans hb52; have how44 := how44.grown hg52 hne)))
          refine anch_end (Th.Reach.of (by first | exact Below.refl _ _ | exact below_alloc _ (by first | omega | (simp; done) | (simp; omega)) _ | exact below_alloc2 _ (by first | omega | (simp; done) | (simp; omega)) _ _ | exact below_alloc2d _ (by simp) _ _ | exact bdrew _ _ | assumption | (exact Below.mono (by assumption) (by first | (simp; done) | (simp; omega) | omega | assumption)))) (hKO _ _ ?_)
          clear hKO KO
          refine wpTree_one (fun KO hKO => ?_)
          simp only [List.drop, List.take]
          go_wp2_with (first | ((with_reducible refine on_append (.tmp 35) (.tmp 43) ?_); first | (refine wl_appendA rfl (.tmp 35) (.tmp 43) _ rfl el_u8 (f := bv) (fun _ => rfl) rfl (OwS.lit (base := w.heap.size) (e := 5) (xs := []) w.drew #[] 0 (Nat.le_refl _) (by simp [maxLen]) rfl rfl) rfl (r43.rd _ (Th.Reach.of (below_alloc w.drew (Nat.le_refl _) _))) (by omega) (by omega) (by first | (simp; done) | (simp; omega) | omega) ?_; intro A44 c44 w44 how44 hg44 hb44 hA44; rw [Nat.zero_add, List.nil_append] at how44; have H44 : Below w.heap.size w.drew w44 := Below.trans (below_alloc w.drew (Nat.le_refl _) _) hb44; have z44 : w.heap.size ≤ w44.heap.size := (by have := H44.size; simpa using this); have l45 := (OwS.lit (base := w.heap.size) (e := 5) (f := bv) (xs := []) w44 #[] 0 z44 (by simp [maxLen]) rfl rfl); have hz44 : ∀ g, A44 = some ⟨g, 0, none⟩ → g < w44.heap.size := (by intro g hg; rcases how44.ow.form with ⟨e, _⟩ | ⟨g', e, _, hl⟩ <;> (rw [e] at hg) <;> simp at hg; omega); have how44 := how44.alloc (.cells #[] 5); have hne : ∀ g, A44 = some ⟨g, 0, none⟩ → rowOf (some ⟨w44.heap.size, 0, none⟩) ≠ some g := (by intro g hg; have := hz44 g hg; simp [rowOf]; omega)) | (refine wl_appendA rfl (.tmp 35) (.tmp 43) _ rfl el_u8 (f := bv) (fun _ => rfl) rfl ((OwS.lit (base := w.heap.size) (e := 5) (xs := []) w.drew #[] 0 (Nat.le_refl _) (by simp [maxLen]) rfl rfl).alloc (.cells #[] 5)) rfl (r43.rd _ (Th.Reach.of ((below_alloc w.drew (Nat.le_refl _) _).alloc (by simp) _))) (by omega) (by omega) (by first | (simp; done) | (simp; omega) | omega) ?_; intro A44 c44 w44 how44 hg44 hb44 hA44; rw [Nat.zero_add, List.nil_append] at how44; have H44 : Below w.heap.size w.drew w44 := Below.trans ((below_alloc w.drew (Nat.le_refl _) _).alloc (by simp) _) hb44; have z44 : w.heap.size ≤ w44.heap.size := (by have := H44.size; simpa using this); have l45 := OwS.grown (OwS.lit' (base := w.heap.size) (e := 5) (f := bv) (xs := []) (w.drew.alloc (.cells #[] 5)) #[] 0 (w.heap.size + 1) (by simp) (by first | (simp; done) | (simp; omega) | omega) (by simp [maxLen]) rfl rfl) hg44 (by intro g hg; simp [rowOf] at hg ⊢; omega); have hne : ∀ g, A44 = some ⟨g, 0, none⟩ → rowOf (some ⟨w.heap.size + 1, 0, none⟩) ≠ some g := (by intro g hg; rcases hA44 with e | e <;> (rw [e] at hg; simp at hg; simp [rowOf]; omega))) | (refine wl_appendA rfl (.tmp 35) (.tmp 43) _ rfl el_u8 (f := bv) (fun _ => rfl) rfl (OwS.lit' (base := w.heap.size) (e := 5) (xs := []) (w.drew.alloc (.cells #[] 5)) #[] 0 (w.heap.size + 1) (by simp) (by first | (simp; done) | (simp; omega) | omega) (by simp [maxLen]) rfl rfl) rfl (r43.rd _ (Th.Reach.of ((below_alloc w.drew (Nat.le_refl _) _).alloc (by simp) _))) (by omega) (by omega) (by first | (simp; done) | (simp; omega) | omega) ?_; intro A44 c44 w44 how44 hg44 hb44 hA44; rw [Nat.zero_add, List.nil_append] at how44; have H44 : Below w.heap.size w.drew w44 := Below.trans ((below_alloc w.drew (Nat.le_refl _) _).alloc (by simp) _) hb44; have z44 : w.heap.size ≤ w44.heap.size := (by have := H44.size; simpa using this); have l45 := OwS.grown ((OwS.lit (base := w.heap.size) (e := 5) (f := bv) (xs := []) w.drew #[] 0 (Nat.le_refl _) (by simp [maxLen]) rfl rfl).alloc (.cells #[] 5)) hg44 (by intro g hg; simp [rowOf] at hg ⊢; omega); have hne : ∀ g, A44 = some ⟨g, 0, none⟩ → rowOf (some ⟨w.heap.size, 0, none⟩) ≠ some g := (by intro g hg; rcases hA44 with e | e <;> (rw [e] at hg; simp at hg; simp [rowOf]; omega)))) | ((with_reducible refine on_append (.tmp 45) (.tmp 51) ?_); first | (refine wl_appendA rfl (.tmp 45) (.tmp 51) _ rfl el_u8 (f := bv) (fun _ => rfl) rfl l45 rfl (r51.rd _ (Th.Reach.of H44)) (by omega) (by omega) z44 ?_; intro A52 c52 w52 how52 hg52 hb52 hA52; rw [Nat.zero_add, List.nil_append] at how52; have H52 := H44.trans hb52; have how44 := how44.grown hg52 hne) | (refine wl_appendA rfl (.tmp 45) (.tmp 51) _ rfl el_u8 (f := bv) (fun _ => rfl) rfl l45 rfl (r51.rd _ (Th.Reach.of (H44.alloc z44 _))) (by omega) (by omega) (by simp; omega) ?_; intro A52 c52 w52 how52 hg52 hb52 hA52; rw [Nat.zero_add, List.nil_append] at how52; have H52 := (H44.alloc z44 _).trans hb52; have how44 := how44.grown hg52 hne)))
          refine anch_end (Th.Reach.of (by first | exact Below.refl _ _ | exact below_alloc _ (by first | omega | (simp; done) | (simp; omega)) _ | exact below_alloc2 _ (by first | omega | (simp; done) | (simp; omega)) _ _ | exact below_alloc2d _ (by simp) _ _ | exact bdrew _ _ | assumption | (exact Below.mono (by assumption) (by first | (simp; done) | (simp; omega) | omega | assumption)))) (hKO _ _ ?_)
          clear hKO KO
          refine wpTree_one (fun KO hKO => ?_)
          simp only [List.drop, List.take]
          go_wp2_with (first | ((with_reducible refine on_append (.tmp 35) (.tmp 43) ?_); first | (refine wl_appendA rfl (.tmp 35) (.tmp 43) _ rfl el_u8 (f := bv) (fun _ => rfl) rfl (OwS.lit (base := w.heap.size) (e := 5) (xs := []) w.drew #[] 0 (Nat.le_refl _) (by simp [maxLen]) rfl rfl) rfl (r43.rd _ (Th.Reach.of (below_alloc w.drew (Nat.le_refl _) _))) (by omega) (by omega) (by first | (simp; done) | (simp; omega) | omega) ?_; intro A44 c44 w44 how44 hg44 hb44 hA44; rw [Nat.zero_add, List.nil_append] at how44; have H44 : Below w.heap.size w.drew w44 := Below.trans (below_alloc w.drew (Nat.le_refl _) _) hb44; have z44 : w.heap.size ≤ w44.heap.size := (by have := H44.size; simpa using this); have l45 := (OwS.lit (base := w.heap.size) (e := 5) (f := bv) (xs := []) w44 #[] 0 z44 (by simp [maxLen]) rfl rfl); have hz44 : ∀ g, A44 = some ⟨g, 0, none⟩ → g < w44.heap.size := (by intro g hg; rcases how44.ow.form with ⟨e, _⟩ | ⟨g', e, _, hl⟩ <;> (rw [e] at hg) <;> simp at hg; omega); have how44 := how44.alloc (.cells #[] 5); have hne : ∀ g, A44 = some ⟨g, 0, none⟩ → rowOf (some ⟨w44.heap.size, 0, none⟩) ≠ some g := (by intro g hg; have := hz44 g hg; simp [rowOf]; omega)) | (refine wl_appendA rfl (.tmp 35) (.tmp 43) _ rfl el_u8 (f := bv) (fun _ => rfl) rfl ((OwS.lit (base := w.heap.size) (e := 5) (xs := []) w.drew #[] 0 (Nat.le_refl _) (by simp [maxLen]) rfl rfl).alloc (.cells #[] 5)) rfl (r43.rd _ (Th.Reach.of ((below_alloc w.drew (Nat.le_refl _) _).alloc (by simp) _))) (by omega) (by omega) (by first | (simp; done) | (simp; omega) | omega) ?_; intro A44 c44 w44 how44 hg44 hb44 hA44; rw [Nat.zero_add, List.nil_append] at how44; have H44 : Below w.heap.size w.drew w44 := Below.trans ((below_alloc w.drew (Nat.le_refl _) _).alloc (by simp) _) hb44; have z44 : w.heap.size ≤ w44.heap.size := (by have := H44.size; simpa using this); have l45 := OwS.grown (OwS.lit' (base := w.heap.size) (e := 5) (f := bv) (xs := []) (w.drew.alloc (.cells #[] 5)) #[] 0 (w.heap.size + 1) (by simp) (by first | (simp; done) | (simp; omega) | omega) (by simp [maxLen]) rfl rfl) hg44 (by intro g hg; simp [rowOf] at hg ⊢; omega); have hne : ∀ g, A44 = some ⟨g, 0, none⟩ → rowOf (some ⟨w.heap.size + 1, 0, none⟩) ≠ some g := (by intro g hg; rcases hA44 with e | e <;> (rw [e] at hg; simp at hg; simp [rowOf]; omega))) | (refine wl_appendA rfl (.tmp 35) (.tmp 43) _ rfl el_u8 (f := bv) (fun _ => rfl) rfl (OwS.lit' (base := w.heap.size) (e := 5) (xs := []) (w.drew.alloc (.cells #[] 5)) #[] 0 (w.heap.size + 1) (by simp) (by first | (simp; done) | (simp; omega) | omega) (by simp [maxLen]) rfl rfl) rfl (r43.rd _ (Th.Reach.of ((below_alloc w.drew (Nat.le_refl _) _).alloc (by simp) _))) (by omega) (by omega) (by first | (simp; done) | (simp; omega) | omega) ?_; intro A44 c44 w44 how44 hg44 hb44 hA44; rw [Nat.zero_add, List.nil_append] at how44; have H44 : Below w.heap.size w.drew w44 := Below.trans ((below_alloc w.drew (Nat.le_refl _) _).alloc (by simp) _) hb44; have z44 : w.heap.size ≤ w44.heap.size := (by have := H44.size; simpa using this); have l45 := OwS.grown ((OwS.lit (base := w.heap.size) (e := 5) (f := bv) (xs := []) w.drew #[] 0 (Nat.le_refl _) (by simp [maxLen]) rfl rfl).alloc (.cells #[] 5)) hg44 (by intro g hg; simp [rowOf] at hg ⊢; omega); have hne : ∀ g, A44 = some ⟨g, 0, none⟩ → rowOf (some ⟨w.heap.size, 0, none⟩) ≠ some g := (by intro g hg; rcases hA44 with e | e <;> (rw [e] at hg; simp at hg; simp [rowOf]; omega)))) | ((with_reducible refine on_append (.tmp 45) (.tmp 51) ?_); first | (refine wl_appendA rfl (.tmp 45) (.tmp 51) _ rfl el_u8 (f := bv) (fun _ => rfl) rfl l45 rfl (r51.rd _ (Th.Reach.of H44)) (by omega) (by omega) z44 ?_; intro A52 c52 w52 how52 hg52 hb52 hA52; rw [Nat.zero_add, List.nil_append] at how52; have H52 := H44.trans hb52; have how44 := how44.grown hg52 hne) | (refine wl_appendA rfl (.tmp 45) (.tmp 51) _ rfl el_u8 (f := bv) (fun _ => rfl) rfl l45 rfl (r51.rd _ (Th.Reach.of (H44.alloc z44 _))) (by omega) (by omega) (by simp; omega) ?_; intro A52 c52 w52 how52 hg52 hb52 hA52; rw [Nat.zero_add, List.nil_append] at how52; have H52 := (H44.alloc z44 _).trans hb52; have how44 := how44.grown hg52 hne)))
          refine anch_end (Th.Reach.of (by first | exact Below.refl _ _ | exact below_alloc _ (by first | omega | (simp; done) | (simp; omega)) _ | exact below_alloc2 _ (by first | omega | (simp; done) | (simp; omega)) _ _ | exact below_alloc2d _ (by simp) _ _ | exact bdrew _ _ | assumption | (exact Below.mono (by assumption) (by first | (simp; done) | (simp; omega) | omega | assumption)))) (hKO _ _ ?_)
          clear hKO KO
          refine wpTree_float (fun KF hKF => ?_)
          simp only [List.drop, List.take]
          repeat (first | go_big_quiet_skip | ((with_reducible refine onq_sl (.tmp 36) ?_); refine wq_cut_lh rfl _ (.tmp 36) el_u8 rfl q1 (Th.Reach.refl _ _) _ _ rfl rfl rfl (1 + k) (1 + k + m) (by omega) ?_; intro A43 r43; rw [hd5, e5] at r43; rw [e5]) | ((with_reducible refine onq_sl (.tmp 46) ?_); refine wq_cut_l rfl _ (.tmp 46) el_u8 rfl q1 (Th.Reach.refl _ _) _ rfl rfl (1 + k + m) (by omega) ?_; intro A51 r51; rw [hd6] at r51) | go_big_quiet_step (fail) | quiet_step (fail))
          refine wpQuiet_nil ?_
          refine hKF _ ?_
          clear hKF KF
          refine wpTree_done ?_
          refine hKT _ _ ?_
          clear hKT KT
          rotate_right 1
          rotate_left 2
          refine wpTree_one (fun KO hKO => ?_)
          simp only [List.drop, List.take]
          go_wp2_with (first | ((with_reducible refine on_append (.tmp 35) (.tmp 43) ?_); first | (refine wl_appendA rfl (.tmp 35) (.tmp 43) _ rfl el_u8 (f := bv) (fun _ => rfl) rfl (OwS.lit (base := w.heap.size) (e := 5) (xs := []) w.drew #[] 0 (Nat.le_refl _) (by simp [maxLen]) rfl rfl) rfl (r43.rd _ (Th.Reach.of (below_alloc w.drew (Nat.le_refl _) _))) (by omega) (by omega) (by first | (simp; done) | (simp; omega) | omega) ?_; intro A44 c44 w44 how44 hg44 hb44 hA44; rw [Nat.zero_add, List.nil_append] at how44; have H44 : Below w.heap.size w.drew w44 := Below.trans (below_alloc w.drew (Nat.le_refl _) _) hb44; have z44 : w.heap.size ≤ w44.heap.size := (by have := H44.size; simpa using this); have l45 := (OwS.lit (base := w.heap.size) (e := 5) (f := bv) (xs := []) w44 #[] 0 z44 (by simp [maxLen]) rfl rfl); have hz44 : ∀ g, A44 = some ⟨g, 0, none⟩ → g < w44.heap.size := (by intro g hg; rcases how44.ow.form with ⟨e, _⟩ | ⟨g', e, _, hl⟩ <;> (rw [e] at hg) <;> simp at hg; omega); have how44 := how44.alloc (.cells #[] 5); have hne : ∀ g, A44 = some ⟨g, 0, none⟩ → rowOf (some ⟨w44.heap.size, 0, none⟩) ≠ some g := (by intro g hg; have := hz44 g hg; simp [rowOf]; omega)) | (refine wl_appendA rfl (.tmp 35) (.tmp 43) _ rfl el_u8 (f := bv) (fun _ => rfl) rfl ((OwS.lit (base := w.heap.size) (e := 5) (xs := []) w.drew #[] 0 (Nat.le_refl _) (by simp [maxLen]) rfl rfl).alloc (.cells #[] 5)) rfl (r43.rd _ (Th.Reach.of ((below_alloc w.drew (Nat.le_refl _) _).alloc (by simp) _))) (by omega) (by omega) (by first | (simp; done) | (simp; omega) | omega) ?_; intro A44 c44 w44 how44 hg44 hb44 hA44; rw [Nat.zero_add, List.nil_append] at how44; have H44 : Below w.heap.size w.drew w44 := Below.trans ((below_alloc w.drew (Nat.le_refl _) _).alloc (by simp) _) hb44; have z44 : w.heap.size ≤ w44.heap.size := (by have := H44.size; simpa using this); have l45 := OwS.grown (OwS.lit' (base := w.heap.size) (e := 5) (f := bv) (xs := []) (w.drew.alloc (.cells #[] 5)) #[] 0 (w.heap.size + 1) (by simp) (by first | (simp; done) | (simp; omega) | omega) (by simp [maxLen]) rfl rfl) hg44 (by intro g hg; simp [rowOf] at hg ⊢; omega); have hne : ∀ g, A44 = some ⟨g, 0, none⟩ → rowOf (some ⟨w.heap.size + 1, 0, none⟩) ≠ some g := (by intro g hg; rcases hA44 with e | e <;> (rw [e] at hg; simp at hg; simp [rowOf]; omega))) | (refine wl_appendA rfl (.tmp 35) (.tmp 43) _ rfl el_u8 (f := bv) (fun _ => rfl) rfl (OwS.lit' (base := w.heap.size) (e := 5) (xs := []) (w.drew.alloc (.cells #[] 5)) #[] 0 (w.heap.size + 1) (by simp) (by first | (simp; done) | (simp; omega) | omega) (by simp [maxLen]) rfl rfl) rfl (r43.rd _ (Th.Reach.of ((below_alloc w.drew (Nat.le_refl _) _).alloc (by simp) _))) (by omega) (by omega) (by first | (simp; done) | (simp; omega) | omega) ?_; intro A44 c44 w44 how44 hg44 hb44 hA44; rw [Nat.zero_add, List.nil_append] at how44; have H44 : Below w.heap.size w.drew w44 := Below.trans ((below_alloc w.drew (Nat.le_refl _) _).alloc (by simp) _) hb44; have z44 : w.heap.size ≤ w44.heap.size := (by have := H44.size; simpa using this); have l45 := OwS.grown ((OwS.lit (base := w.heap.size) (e := 5) (f := bv) (xs := []) w.drew #[] 0 (Nat.le_refl _) (by simp [maxLen]) rfl rfl).alloc (.cells #[] 5)) hg44 (by intro g hg; simp [rowOf] at hg ⊢; omega); have hne : ∀ g, A44 = some ⟨g, 0, none⟩ → rowOf (some ⟨w.heap.size, 0, none⟩) ≠ some g := (by intro g hg; rcases hA44 with e | e <;> (rw [e] at hg; simp at hg; simp [rowOf]; omega)))) | ((with_reducible refine on_append (.tmp 45) (.tmp 51) ?_); first | (refine wl_appendA rfl (.tmp 45) (.tmp 51) _ rfl el_u8 (f := bv) (fun _ => rfl) rfl l45 rfl (r51.rd _ (Th.Reach.of H44)) (by omega) (by omega) z44 ?_; intro A52 c52 w52 how52 hg52 hb52 hA52; rw [Nat.zero_add, List.nil_append] at how52; have H52 := H44.trans hb52; have how44 := how44.grown hg52 hne) | (refine wl_appendA rfl (.tmp 45) (.tmp 51) _ rfl el_u8 (f := bv) (fun _ => rfl) rfl l45 rfl (r51.rd _ (Th.Reach.of (H44.alloc z44 _))) (by omega) (by omega) (by simp; omega) ?_; intro A52 c52 w52 how52 hg52 hb52 hA52; rw [Nat.zero_add, List.nil_append] at how52; have H52 := (H44.alloc z44 _).trans hb52; have how44 := how44.grown hg52 hne)))
          refine anch_end (Th.Reach.of (by first | exact Below.refl _ _ | exact below_alloc _ (by first | omega | (simp; done) | (simp; omega)) _ | exact below_alloc2 _ (by first | omega | (simp; done) | (simp; omega)) _ _ | exact below_alloc2d _ (by simp) _ _ | exact bdrew _ _ | assumption | (exact Below.mono (by assumption) (by first | (simp; done) | (simp; omega) | omega | assumption)))) (hKO _ _ ?_)
          clear hKO KO
          refine wpTree_one (fun KO hKO => ?_)
          simp only [List.drop, List.take]
          go_wp2_with (first | ((with_reducible refine on_append (.tmp 35) (.tmp 43) ?_); first | (refine wl_appendA rfl (.tmp 35) (.tmp 43) _ rfl el_u8 (f := bv) (fun _ => rfl) rfl (OwS.lit (base := w.heap.size) (e := 5) (xs := []) w.drew #[] 0 (Nat.le_refl _) (by simp [maxLen]) rfl rfl) rfl (r43.rd _ (Th.Reach.of (below_alloc w.drew (Nat.le_refl _) _))) (by omega) (by omega) (by first | (simp; done) | (simp; omega) | omega) ?_; intro A44 c44 w44 how44 hg44 hb44 hA44; rw [Nat.zero_add, List.nil_append] at how44; have H44 : Below w.heap.size w.drew w44 := Below.trans (below_alloc w.drew (Nat.le_refl _) _) hb44; have z44 : w.heap.size ≤ w44.heap.size := (by have := H44.size; simpa using this); have l45 := (OwS.lit (base := w.heap.size) (e := 5) (f := bv) (xs := []) w44 #[] 0 z44 (by simp [maxLen]) rfl rfl); have hz44 : ∀ g, A44 = some ⟨g, 0, none⟩ → g < w44.heap.size := (by intro g hg; rcases how44.ow.form with ⟨e, _⟩ | ⟨g', e, _, hl⟩ <;> (rw [e] at hg) <;> simp at hg; omega); have how44 := how44.alloc (.cells #[] 5); have hne : ∀ g, A44 = some ⟨g, 0, none⟩ → rowOf (some ⟨w44.heap.size, 0, none⟩) ≠ some g := (by intro g hg; have := hz44 g hg; simp [rowOf]; omega)) | (refine wl_appendA rfl (.tmp 35) (.tmp 43) _ rfl el_u8 (f := bv) (fun _ => rfl) rfl ((OwS.lit (base := w.heap.size) (e := 5) (xs := []) w.drew #[] 0 (Nat.le_refl _) (by simp [maxLen]) rfl rfl).alloc (.cells #[] 5)) rfl (r43.rd _ (Th.Reach.of ((below_alloc w.drew (Nat.le_refl _) _).alloc (by simp) _))) (by omega) (by omega) (by first | (simp; done) | (simp; omega) | omega) ?_; intro A44 c44 w44 how44 hg44 hb44 hA44; rw [Nat.zero_add, List.nil_append] at how44; have H44 : Below w.heap.size w.drew w44 := Below.trans ((below_alloc w.drew (Nat.le_refl _) _).alloc (by simp) _) hb44; have z44 : w.heap.size ≤ w44.heap.size := (by have := H44.size; simpa using this); have l45 := OwS.grown (OwS.lit' (base := w.heap.size) (e := 5) (f := bv) (xs := []) (w.drew.alloc (.cells #[] 5)) #[] 0 (w.heap.size + 1) (by simp) (by first | (simp; done) | (simp; omega) | omega) (by simp [maxLen]) rfl rfl) hg44 (by intro g hg; simp [rowOf] at hg ⊢; omega); have hne : ∀ g, A44 = some ⟨g, 0, none⟩ → rowOf (some ⟨w.heap.size + 1, 0, none⟩) ≠ some g := (by intro g hg; rcases hA44 with e | e <;> (rw [e] at hg; simp at hg; simp [rowOf]; omega))) | (refine wl_appendA rfl (.tmp 35) (.tmp 43) _ rfl el_u8 (f := bv) (fun _ => rfl) rfl (OwS.lit' (base := w.heap.size) (e := 5) (xs := []) (w.drew.alloc (.cells #[] 5)) #[] 0 (w.heap.size + 1) (by simp) (by first | (simp; done) | (simp; omega) | omega) (by simp [maxLen]) rfl rfl) rfl (r43.rd _ (Th.Reach.of ((below_alloc w.drew (Nat.le_refl _) _).alloc (by simp) _))) (by omega) (by omega) (by first | (simp; done) | (simp; omega) | omega) ?_; intro A44 c44 w44 how44 hg44 hb44 hA44; rw [Nat.zero_add, List.nil_append] at how44; have H44 : Below w.heap.size w.drew w44 := Below.trans ((below_alloc w.drew (Nat.le_refl _) _).alloc (by simp) _) hb44; have z44 : w.heap.size ≤ w44.heap.size := (by have := H44.size; simpa using this); have l45 := OwS.grown ((OwS.lit (base := w.heap.size) (e := 5) (f := bv) (xs := []) w.drew #[] 0 (Nat.le_refl _) (by simp [maxLen]) rfl rfl).alloc (.cells #[] 5)) hg44 (by intro g hg; simp [rowOf] at hg ⊢; omega); have hne : ∀ g, A44 = some ⟨g, 0, none⟩ → rowOf (some ⟨w.heap.size, 0, none⟩) ≠ some g := (by intro g hg; rcases hA44 with e | e <;> (rw [e] at hg; simp at hg; simp [rowOf]; omega)))) | ((with_reducible refine on_append (.tmp 45) (.tmp 51) ?_); first | (refine wl_appendA rfl (.tmp 45) (.tmp 51) _ rfl el_u8 (f := bv) (fun _ => rfl) rfl l45 rfl (r51.rd _ (Th.Reach.of H44)) (by omega) (by omega) z44 ?_; intro A52 c52 w52 how52 hg52 hb52 hA52; rw [Nat.zero_add, List.nil_append] at how52; have H52 := H44.trans hb52; have how44 := how44.grown hg52 hne) | (refine wl_appendA rfl (.tmp 45) (.tmp 51) _ rfl el_u8 (f := bv) (fun _ => rfl) rfl l45 rfl (r51.rd _ (Th.Reach.of (H44.alloc z44 _))) (by omega) (by omega) (by simp; omega) ?_; intro A52 c52 w52 how52 hg52 hb52 hA52; rw [Nat.zero_add, List.nil_append] at how52; have H52 := (H44.alloc z44 _).trans hb52; have how44 := how44.grown hg52 hne)))
          refine anch_end (Th.Reach.of (by first | exact Below.refl _ _ | exact below_alloc _ (by first | omega | (simp; done) | (simp; omega)) _ | exact below_alloc2 _ (by first | omega | (simp; done) | (simp; omega)) _ _ | exact below_alloc2d _ (by simp) _ _ | exact bdrew _ _ | assumption | (exact Below.mono (by assumption) (by first | (simp; done) | (simp; omega) | omega | assumption)))) (hKO _ _ ?_)
          clear hKO KO
          refine wpTree_one (fun KO hKO => ?_)
          simp only [List.drop, List.take]
          go_wp2_with (first | ((with_reducible refine on_append (.tmp 35) (.tmp 43) ?_); first | (refine wl_appendA rfl (.tmp 35) (.tmp 43) _ rfl el_u8 (f := bv) (fun _ => rfl) rfl (OwS.lit (base := w.heap.size) (e := 5) (xs := []) w.drew #[] 0 (Nat.le_refl _) (by simp [maxLen]) rfl rfl) rfl (r43.rd _ (Th.Reach.of (below_alloc w.drew (Nat.le_refl _) _))) (by omega) (by omega) (by first | (simp; done) | (simp; omega) | omega) ?_; intro A44 c44 w44 how44 hg44 hb44 hA44; rw [Nat.zero_add, List.nil_append] at how44; have H44 : Below w.heap.size w.drew w44 := Below.trans (below_alloc w.drew (Nat.le_refl _) _) hb44; have z44 : w.heap.size ≤ w44.heap.size := (by have := H44.size; simpa using this); have l45 := (OwS.lit (base := w.heap.size) (e := 5) (f := bv) (xs := []) w44 #[] 0 z44 (by simp [maxLen]) rfl rfl); have hz44 : ∀ g, A44 = some ⟨g, 0, none⟩ → g < w44.heap.size := (by intro g hg; rcases how44.ow.form with ⟨e, _⟩ | ⟨g', e, _, hl⟩ <;> (rw [e] at hg) <;> simp at hg; omega); have how44 := how44.alloc (.cells #[] 5); have hne : ∀ g, A44 = some ⟨g, 0, none⟩ → rowOf (some ⟨w44.heap.size, 0, none⟩) ≠ some g := (by intro g hg; have := hz44 g hg; simp [rowOf]; omega)) | (refine wl_appendA rfl (.tmp 35) (.tmp 43) _ rfl el_u8 (f := bv) (fun _ => rfl) rfl ((OwS.lit (base := w.heap.size) (e := 5) (xs := []) w.drew #[] 0 (Nat.le_refl _) (by simp [maxLen]) rfl rfl).alloc (.cells #[] 5)) rfl (r43.rd _ (Th.Reach.of ((below_alloc w.drew (Nat.le_refl _) _).alloc (by simp) _))) (by omega) (by omega) (by first | (simp; done) | (simp; omega) | omega) ?_; intro A44 c44 w44 how44 hg44 hb44 hA44; rw [Nat.zero_add, List.nil_append] at how44; have H44 : Below w.heap.size w.drew w44 := Below.trans ((below_alloc w.drew (Nat.le_refl _) _).alloc (by simp) _) hb44; have z44 : w.heap.size ≤ w44.heap.size := (by have := H44.size; simpa using this); have l45 := OwS.grown (OwS.lit' (base := w.heap.size) (e := 5) (f := bv) (xs := []) (w.drew.alloc (.cells #[] 5)) #[] 0 (w.heap.size + 1) (by simp) (by first | (simp; done) | (simp; omega) | omega) (by simp [maxLen]) rfl rfl) hg44 (by intro g hg; simp [rowOf] at hg ⊢; omega); have hne : ∀ g, A44 = some ⟨g, 0, none⟩ → rowOf (some ⟨w.heap.size + 1, 0, none⟩) ≠ some g := (by intro g hg; rcases hA44 with e | e <;> (rw [e] at hg; simp at hg; simp [rowOf]; omega))) | (refine wl_appendA rfl (.tmp 35) (.tmp 43) _ rfl el_u8 (f := bv) (fun _ => rfl) rfl (OwS.lit' (base := w.heap.size) (e := 5) (xs := []) (w.drew.alloc (.cells #[] 5)) #[] 0 (w.heap.size + 1) (by simp) (by first | (simp; done) | (simp; omega) | omega) (by simp [maxLen]) rfl rfl) rfl (r43.rd _ (Th.Reach.of ((below_alloc w.drew (Nat.le_refl _) _).alloc (by simp) _))) (by omega) (by omega) (by first | (simp; done) | (simp; omega) | omega) ?_; intro A44 c44 w44 how44 hg44 hb44 hA44; rw [Nat.zero_add, List.nil_append] at how44; have H44 : Below w.heap.size w.drew w44 := Below.trans ((below_alloc w.drew (Nat.le_refl _) _).alloc (by simp) _) hb44; have z44 : w.heap.size ≤ w44.heap.size := (by have := H44.size; simpa using this); have l45 := OwS.grown ((OwS.lit (base := w.heap.size) (e := 5) (f := bv) (xs := []) w.drew #[] 0 (Nat.le_refl _) (by simp [maxLen]) rfl rfl).alloc (.cells #[] 5)) hg44 (by intro g hg; simp [rowOf] at hg ⊢; omega); have hne : ∀ g, A44 = some ⟨g, 0, none⟩ → rowOf (some ⟨w.heap.size, 0, none⟩) ≠ some g := (by intro g hg; rcases hA44 with e | e <;> (rw [e] at hg; simp at hg; simp [rowOf]; omega)))) | ((with_reducible refine on_append (.tmp 45) (.tmp 51) ?_); first | (refine wl_appendA rfl (.tmp 45) (.tmp 51) _ rfl el_u8 (f := bv) (fun _ => rfl) rfl l45 rfl (r51.rd _ (Th.Reach.of H44)) (by omega) (by omega) z44 ?_; intro A52 c52 w52 how52 hg52 hb52 hA52; rw [Nat.zero_add, List.nil_append] at how52; have H52 := H44.trans hb52; have how44 := how44.grown hg52 hne) | (refine wl_appendA rfl (.tmp 45) (.tmp 51) _ rfl el_u8 (f := bv) (fun _ => rfl) rfl l45 rfl (r51.rd _ (Th.Reach.of (H44.alloc z44 _))) (by omega) (by omega) (by simp; omega) ?_; intro A52 c52 w52 how52 hg52 hb52 hA52; rw [Nat.zero_add, List.nil_append] at how52; have H52 := (H44.alloc z44 _).trans hb52; have how44 := how44.grown hg52 hne)))
          refine anch_end (Th.Reach.of (by first | exact Below.refl _ _ | exact below_alloc _ (by first | omega | (simp; done) | (simp; omega)) _ | exact below_alloc2 _ (by first | omega | (simp; done) | (simp; omega)) _ _ | exact below_alloc2d _ (by simp) _ _ | exact bdrew _ _ | assumption | (exact Below.mono (by assumption) (by first | (simp; done) | (simp; omega) | omega | assumption)))) (hKO _ _ ?_)
          clear hKO KO
          refine wpTree_one (fun KO hKO => ?_)
          simp only [List.drop, List.take]
          go_wp2_with (first | ((with_reducible refine on_append (.tmp 35) (.tmp 43) ?_); first | (refine wl_appendA rfl (.tmp 35) (.tmp 43) _ rfl el_u8 (f := bv) (fun _ => rfl) rfl (OwS.lit (base := w.heap.size) (e := 5) (xs := []) w.drew #[] 0 (Nat.le_refl _) (by simp [maxLen]) rfl rfl) rfl (r43.rd _ (Th.Reach.of (below_alloc w.drew (Nat.le_refl _) _))) (by omega) (by omega) (by first | (simp; done) | (simp; omega) | omega) ?_; intro A44 c44 w44 how44 hg44 hb44 hA44; rw [Nat.zero_add, List.nil_append] at how44; have H44 : Below w.heap.size w.drew w44 := Below.trans (below_alloc w.drew (Nat.le_refl _) _) hb44; have z44 : w.heap.size ≤ w44.heap.size := (by have := H44.size; simpa using this); have l45 := (OwS.lit (base := w.heap.size) (e := 5) (f := bv) (xs := []) w44 #[] 0 z44 (by simp [maxLen]) rfl rfl); have hz44 : ∀ g, A44 = some ⟨g, 0, none⟩ → g < w44.heap.size := (by intro g hg; rcases how44.ow.form with ⟨e, _⟩ | ⟨g', e, _, hl⟩ <;> (rw [e] at hg) <;> simp at hg; omega); have how44 := how44.alloc (.cells #[] 5); have hne : ∀ g, A44 = some ⟨g, 0, none⟩ → rowOf (some ⟨w44.heap.size, 0, none⟩) ≠ some g := (by intro g hg; have := hz44 g hg; simp [rowOf]; omega)) | (refine wl_appendA rfl (.tmp 35) (.tmp 43) _ rfl el_u8 (f := bv) (fun _ => rfl) rfl ((OwS.lit (base := w.heap.size) (e := 5) (xs := []) w.drew #[] 0 (Nat.le_refl _) (by simp [maxLen]) rfl rfl).alloc (.cells #[] 5)) rfl (r43.rd _ (Th.Reach.of ((below_alloc w.drew (Nat.le_refl _) _).alloc (by simp) _))) (by omega) (by omega) (by first | (simp; done) | (simp; omega) | omega) ?_; intro A44 c44 w44 how44 hg44 hb44 hA44; rw [Nat.zero_add, List.nil_append] at how44; have H44 : Below w.heap.size w.drew w44 := Below.trans ((below_alloc w.drew (Nat.le_refl _) _).alloc (by simp) _) hb44; have z44 : w.heap.size ≤ w44.heap.size := (by have := H44.size; simpa using this); have l45 := OwS.grown (OwS.lit' (base := w.heap.size) (e := 5) (f := bv) (xs := []) (w.drew.alloc (.cells #[] 5)) #[] 0 (w.heap.size + 1) (by simp) (by first | (simp; done) | (simp; omega) | omega) (by simp [maxLen]) rfl rfl) hg44 (by intro g hg; simp [rowOf] at hg ⊢; omega); have hne : ∀ g, A44 = some ⟨g, 0, none⟩ → rowOf (some ⟨w.heap.size + 1, 0, none⟩) ≠ some g := (by intro g hg; rcases hA44 with e | e <;> (rw [e] at hg; simp at hg; simp [rowOf]; omega))) | (refine wl_appendA rfl (.tmp 35) (.tmp 43) _ rfl el_u8 (f := bv) (fun _ => rfl) rfl (OwS.lit' (base := w.heap.size) (e := 5) (xs := []) (w.drew.alloc (.cells #[] 5)) #[] 0 (w.heap.size + 1) (by simp) (by first | (simp; done) | (simp; omega) | omega) (by simp [maxLen]) rfl rfl) rfl (r43.rd _ (Th.Reach.of ((below_alloc w.drew (Nat.le_refl _) _).alloc (by simp) _))) (by omega) (by omega) (by first | (simp; done) | (simp; omega) | omega) ?_; intro A44 c44 w44 how44 hg44 hb44 hA44; rw [Nat.zero_add, List.nil_append] at how44; have H44 : Below w.heap.size w.drew w44 := Below.trans ((below_alloc w.drew (Nat.le_refl _) _).alloc (by simp) _) hb44; have z44 : w.heap.size ≤ w44.heap.size := (by have := H44.size; simpa using this); have l45 := OwS.grown ((OwS.lit (base := w.heap.size) (e := 5) (f := bv) (xs := []) w.drew #[] 0 (Nat.le_refl _) (by simp [maxLen]) rfl rfl).alloc (.cells #[] 5)) hg44 (by intro g hg; simp [rowOf] at hg ⊢; omega); have hne : ∀ g, A44 = some ⟨g, 0, none⟩ → rowOf (some ⟨w.heap.size, 0, none⟩) ≠ some g := (by intro g hg; rcases hA44 with e | e <;> (rw [e] at hg; simp at hg; simp [rowOf]; omega)))) | ((with_reducible refine on_append (.tmp 45) (.tmp 51) ?_); first | (refine wl_appendA rfl (.tmp 45) (.tmp 51) _ rfl el_u8 (f := bv) (fun _ => rfl) rfl l45 rfl (r51.rd _ (Th.Reach.of H44)) (by omega) (by omega) z44 ?_; intro A52 c52 w52 how52 hg52 hb52 hA52; rw [Nat.zero_add, List.nil_append] at how52; have H52 := H44.trans hb52; have how44 := how44.grown hg52 hne) | (refine wl_appendA rfl (.tmp 45) (.tmp 51) _ rfl el_u8 (f := bv) (fun _ => rfl) rfl l45 rfl (r51.rd _ (Th.Reach.of (H44.alloc z44 _))) (by omega) (by omega) (by simp; omega) ?_; intro A52 c52 w52 how52 hg52 hb52 hA52; rw [Nat.zero_add, List.nil_append] at how52; have H52 := (H44.alloc z44 _).trans hb52; have how44 := how44.grown hg52 hne)))
          refine anch_end (Th.Reach.of (by first | exact Below.refl _ _ | exact below_alloc _ (by first | omega | (simp; done) | (simp; omega)) _ | exact below_alloc2 _ (by first | omega | (simp; done) | (simp; omega)) _ _ | exact below_alloc2d _ (by simp) _ _ | exact bdrew _ _ | assumption | (exact Below.mono (by assumption) (by first | (simp; done) | (simp; omega) | omega | assumption)))) (hKO _ _ ?_)
          clear hKO KO
          refine wpTree_float (fun KF hKF => ?_)
          simp only [List.drop, List.take]
          repeat (first | go_big_quiet_skip | ((with_reducible refine onq_sl (.tmp 36) ?_); refine wq_cut_lh rfl _ (.tmp 36) el_u8 rfl q1 (Th.Reach.refl _ _) _ _ rfl rfl rfl (1 + k) (1 + k + m) (by omega) ?_; intro A43 r43; rw [hd5, e5] at r43; rw [e5]) | ((with_reducible refine onq_sl (.tmp 46) ?_); refine wq_cut_l rfl _ (.tmp 46) el_u8 rfl q1 (Th.Reach.refl _ _) _ rfl rfl (1 + k + m) (by omega) ?_; intro A51 r51; rw [hd6] at r51) | go_big_quiet_step (fail) | quiet_step (fail))
          refine wpQuiet_nil ?_
          refine hKF _ ?_
          clear hKF KF
          refine wpTree_done ?_
          refine hKT _ _ ?_
          clear hKT KT
          rotate_right 2
          all_goals
            go_wp2
            go_ret3
            exact ⟨A44, _, c44, A52, _, c52, rfl, how44, how52, (bdrew1 w).trans H52⟩
    · rw [if_neg hb]
      have h1 : ((b.toNat : Int) == (t.toNat : Int)) = false := byte_beq b t false (by simpa using hb)
      have h2 : (b.toNat == t.toNat) = false := by simpa using fun e => hb (UInt8.toNat_inj.1 e)
      go_enter Try.func35, Try.ntmps35
      go_wp2_with ((with_reducible refine on_index (.tmp 13) ?_); refine wl_at_b rfl _ _ _ rfl el_u8 rfl rfl (by omega) (by omega) hr ?_; intro p x hx hx5 hc; have hxb : x = b := (Option.some.inj hx.out).symm; subst hxb)
      go_ret3
      exact RetOpen.nil 3 w
end Go.Proofs.Ytgapcmodhcdebaa

/-! ### FrameAll -/
namespace Go.Proofs.Ytgapcmodhcdebaa
open Go.RowKit Go.Th
set_option linter.unusedVariables false
theorem ropen_is (t : UInt8) (T : Int) (hT : (t.toNat : Int) = T) (A : Option Addr) (n c : Nat) (w : World) (hm : n ≤ 1000000) (bs : List UInt8) (hr : RdS bv w w.heap.size A n c bs) (x y : List UInt8) (er : Int) (h : fopen t bs = (x, y, er)) :
    Calls Try.prog 35 #[.int .u8 T, .slice A n c] w fun e w' => ∃ A1 n1 c1 A2 n2 c2, e = .returned (.tuple #[.slice A1 n1 c1, .slice A2 n2 c2, .int .i64 er]) ∧ OwS bv w' w.heap.size 5 A1 n1 c1 x ∧ OwS bv w' w.heap.size 5 A2 n2 c2 y ∧ Below w.heap.size w w' := by
  have := ropen_any t T hT A n c w hm bs hr
  rw [h] at this
  exact this
theorem ftake_isA (m : Nat) (hm : m < 4294967296) (M : Int) (hM : (m : Int) = M) (A : Option Addr) (n c : Nat) (w : World) (hn : n ≤ 1000000) (bs : List UInt8) (hr : RdS bv w w.heap.size A n c bs) (x : List UInt8) (er : Int) (h : ftake m bs = (x, er)) :
    Calls Try.prog 30 #[.int .u32 M, .slice A n c] w fun e w' => ∃ A' n' c', e = .returned (.tuple #[.slice A' n' c', .int .i64 er]) ∧ OwS bv w' w.heap.size 5 A' n' c' x ∧ Below w.heap.size w w' := by
  have := ftake_any m hm M hM A n c w hn bs hr
  rw [h] at this
  exact this
theorem rftake_isA (m : Nat) (hm : m < 4294967296) (M : Int) (hM : (m : Int) = M) (A : Option Addr) (n c : Nat) (w : World) (hn : n ≤ 1000000) (bs : List UInt8) (hr : RdS bv w w.heap.size A n c bs) (x : List UInt8) (er : Int) (h : ftake m bs = (x, er)) :
    Calls Try.prog 33 #[.int .u32 M, .slice A n c] w fun e w' => ∃ A' n' c', e = .returned (.tuple #[.slice A' n' c', .int .i64 er]) ∧ OwS bv w' w.heap.size 5 A' n' c' x ∧ Below w.heap.size w w' := by
  have := rftake_any m hm M hM A n c w hn bs hr
  rw [h] at this
  exact this
end Go.Proofs.Ytgapcmodhcdebaa

/-! ### FrameBack -/
namespace Go.Proofs.Ytgapcmodhcdebaa
open Go.RowKit Go.Th
set_option linter.unusedVariables false
theorem ftake_isB (m : Nat) (hm : m < 4294967296) (M : Int) (hM : (m : Int) = M) (A : Option Addr) (n c : Nat) (w : World) (hn : n ≤ 1000000) (bs : List UInt8) (hr : RdS bv w w.heap.size A n c bs) (x : List UInt8) (er : Int) (h : ftake m bs = (x, er)) :
    Calls Try.prog 30 #[.int .u32 M, .slice A n c] w fun e w' => ∃ A' n' c', e = .returned (.tuple #[.slice A' n' c', .int .i64 er]) ∧ OwS bv w' w.heap.size 5 A' n' c' x ∧ Below w.heap.size w w' := by
  have := ftake_any m hm M hM A n c w hn bs hr
  rw [h] at this
  exact this
end Go.Proofs.Ytgapcmodhcdebaa

/-! ### FrameBurst -/
namespace Go.Th
/-- k bits from p on, turned where x has a bit. -/
def burst (bs : List UInt8) (x p : Nat) : Nat → List UInt8
  | 0 => bs
  | k + 1 => if x / 2 ^ k % 2 = 1 then flip (burst bs x p k) (p + k) else burst bs x p k
theorem burst_length (bs : List UInt8) (x p : Nat) : ∀ k, (burst bs x p k).length = bs.length
  | 0 => rfl
  | k + 1 => by
    unfold burst
    split
    · rw [flip_length, burst_length bs x p k]
    · exact burst_length bs x p k
theorem burst_append (bs cs : List UInt8) (x p : Nat) : ∀ k, p + k ≤ 8 * bs.length → burst (bs ++ cs) x p k = burst bs x p k ++ cs
  | 0, _ => rfl
  | k + 1, h => by
    unfold burst
    rw [burst_append bs cs x p k (by omega)]
    split
    · exact flip_append _ _ _ (by rw [burst_length]; omega)
    · rfl
theorem mod_bit (x k : Nat) : x % 2 ^ (k + 1) = if x / 2 ^ k % 2 = 1 then x % 2 ^ k ^^^ 2 ^ k else x % 2 ^ k := by
  have h := Nat.mod_pow_succ (b := 2) (x := x) (k := k)
  rw [h]
  have hlt : x % 2 ^ k < 2 ^ k := Nat.mod_lt _ (Nat.two_pow_pos k)
  rcases Nat.mod_two_eq_zero_or_one (x / 2 ^ k) with h0 | h1
  · rw [h0, if_neg (by decide), Nat.mul_zero, Nat.add_zero]
  · rw [h1, if_pos rfl, Nat.mul_one]
    have := Nat.two_pow_add_eq_or_of_lt hlt 1
    rw [Nat.mul_one] at this
    rw [Nat.add_comm, this]
    apply Nat.eq_of_testBit_eq
    intro i
    rw [Nat.testBit_or, Nat.testBit_xor]
    by_cases hi : i = k
    · subst hi
      rw [Nat.testBit_two_pow_self, Nat.testBit_lt_two_pow hlt]
      rfl
    · rw [Nat.testBit_two_pow_of_ne (fun e => hi e.symm)]
      simp
theorem mul_xor (p a b : Nat) : 2 ^ p * (a ^^^ b) = 2 ^ p * a ^^^ 2 ^ p * b := by
  have := Nat.shiftLeft_xor_distrib (a := a) (b := b) (i := p)
  rw [Nat.shiftLeft_eq, Nat.shiftLeft_eq, Nat.shiftLeft_eq] at this
  rw [Nat.mul_comm, this, Nat.mul_comm a, Nat.mul_comm b]
theorem le_burst (bs : List UInt8) (x p : Nat) : ∀ k, p + k ≤ 8 * bs.length → le (burst bs x p k) = le bs ^^^ 2 ^ p * (x % 2 ^ k)
  | 0, _ => by simp [burst, Nat.mod_one]
  | k + 1, h => by
    have ih := le_burst bs x p k (by omega)
    unfold burst
    rw [mod_bit]
    split
    · rw [le_flip _ _ (by rw [burst_length]; omega), ih, mul_xor, Nat.xor_assoc, ← Nat.pow_add]
    · exact ih
/-- Up to 32 bits next to each other ahead of the sum, the lowest one turned. -/
theorem ftake_burst (m : Nat) (bs : List UInt8) (x p k : Nat) (hx : x % 2 = 1) (hk : 1 ≤ k) (hk2 : k ≤ 32) (hp : p + k ≤ 8 * (bs.length + 4)) : ∃ g, ftake m (burst (fput m bs) x p k) = ([], g) ∧ (g = 5 ∨ g = 6) := by
  have hl := fhead_length m bs
  have e1 : burst (fput m bs) x p k = burst (fhead m bs) x p k ++ be (csum (fhead m bs)) 4 := burst_append _ _ _ _ _ (by rw [hl]; omega)
  have hne : csum (burst (fhead m bs) x p k) ≠ csum (fhead m bs) := by
    refine csum_burst (burst_length _ _ _ _) (p := p) (e := x % 2 ^ k) ?_ ?_ (by rw [hl]; omega) (le_burst _ _ _ _ (by rw [hl]; omega))
    · intro h0
      have h2 : x % 2 ^ k % 2 = 1 := by rw [Nat.mod_mod_of_dvd _ (⟨2 ^ (k - 1), by rw [← Nat.pow_succ', Nat.succ_eq_add_one, Nat.sub_add_cancel hk]⟩ : 2 ∣ 2 ^ k)]; exact hx
      rw [h0] at h2
      cases h2
    · exact Nat.lt_of_lt_of_le (Nat.mod_lt _ (Nat.two_pow_pos k)) (Nat.pow_le_pow_right (by decide) hk2 : 2 ^ k ≤ 2 ^ 32)
  rw [e1, ftake_parts (h := burst (fhead m bs) x p k) (s := be (csum (fhead m bs)) 4) (by rw [burst_length, hl]; omega) (be_length _ _) rfl]
  split
  · rw [if_neg (fun e => hne ((be_inj _ _ 4 (by have := csum_lt (fhead m bs); omega) (by have := csum_lt (burst (fhead m bs) x p k); omega)).1 e).symm)]
    exact ⟨6, rfl, .inr rfl⟩
  · exact ⟨5, rfl, .inl rfl⟩
theorem flip_behind (bs cs : List UInt8) (q : Nat) (h : 8 * bs.length ≤ q) : flip (bs ++ cs) q = bs ++ flip cs (q - 8 * bs.length) := by
  unfold flip
  have e1 : (q - 8 * bs.length) / 8 = q / 8 - bs.length := by omega
  have e2 : (q - 8 * bs.length) % 8 = q % 8 := by omega
  rw [List.set_append_right _ _ (by omega), e1, e2]
  congr 3
  rw [List.getD_eq_getElem?_getD, List.getD_eq_getElem?_getD, List.getElem?_append_right (by omega)]
/-- One bit is turned. -/
theorem ftake_flip (m : Nat) (bs : List UInt8) (q : Nat) (hq : q < 8 * (bs.length + 8)) : ∃ g, ftake m (flip (fput m bs) q) = ([], g) ∧ (g = 5 ∨ g = 6) := by
  by_cases h : q < 8 * (bs.length + 4)
  · have := ftake_burst m bs 1 q 1 rfl (by omega) (by omega) (by omega)
    exact this
  · have hl := fhead_length m bs
    have e1 : flip (fput m bs) q = fhead m bs ++ flip (be (csum (fhead m bs)) 4) (q - 8 * (fhead m bs).length) := flip_behind _ _ _ (by rw [hl]; omega)
    have hne : flip (be (csum (fhead m bs)) 4) (q - 8 * (fhead m bs).length) ≠ be (csum (fhead m bs)) 4 := fun e => by
      have h2 := congrArg le e
      rw [le_flip _ _ (by rw [be_length, hl]; omega)] at h2
      have h3 := congrArg (le (be (csum (fhead m bs)) 4) ^^^ ·) h2
      simp [← Nat.xor_assoc] at h3
    rw [e1, ftake_parts (h := fhead m bs) (s := flip (be (csum (fhead m bs)) 4) (q - 8 * (fhead m bs).length)) (by rw [hl]; omega) (by rw [flip_length, be_length]) rfl, if_pos (fhead_take m bs), if_neg hne]
    exact ⟨6, rfl, .inr rfl⟩
end Go.Th

/-! ### FrameSpoilt -/
namespace Go.Th
section
variable {P : Program} {ops : Array Oper} {rest : List Oper} {o : Oper} {a : Act} {Q : Act → Prop} {w : World}
theorem ws_run {v : Value} (hw : Region.wanted o (yielded ops a.tmps) = true) (hr : (execOp a.eval o).run P w = .ok (.value v) w) (h : wpStill P ops w Q rest (a.put o.dst v)) : wpStill P ops w Q (o :: rest) a := by
  refine wpStill_step fun K hK => ?_
  rw [if_pos hw]
  unfold Oper.still
  rw [hr, Oper.stillUpon_value]
  exact hK _ h
/-- &s[i] of a row of the call's own. -/
theorem ws_placeS (hw : Region.wanted o (yielded ops a.tmps) = true) (T : TypeId) (s i : Operand) (ho : o.op = .indexAddr T s i) {E bytes : Nat} {z : Value} (el : El P T E z bytes)
    {g n c : Nat} {kk : IntKind} {I : Int} (hs : a.eval s = .slice (some ⟨g, 0, none⟩) n c) (hi : a.eval i = .int kk I) (j : Nat) (hj : I = (j : Int) ∧ j < n)
    (h : wpStill P ops w Q rest (a.put o.dst (.pointer (some ⟨g, j, none⟩)))) : wpStill P ops w Q (o :: rest) a := by
  obtain ⟨rfl, hj⟩ := hj
  refine ws_run hw (v := .pointer (some ⟨g, j, none⟩)) ?_ h
  have := run_indexAt (P := P) (w := w) T el.ht (el.size w) ⟨g, 0, none⟩ n c kk (j : Int) (by omega) (by omega)
  rw [Addr.add_lit, Nat.zero_add, Int.toNat_natCast, Nat.mul_one] at this
  simp only [execOp, ho, hs, hi, Sem.run_bind, this, Result.andThen, Sem.run_pure]
theorem ons_ix (s : Operand) {d T i ty pos af g} (h : wpStill P ops w Q (⟨d, .indexAddr T s i, ty, pos, af, g⟩ :: rest) a) : wpStill P ops w Q (⟨d, .indexAddr T s i, ty, pos, af, g⟩ :: rest) a := h
end
end Go.Th
namespace Go.Proofs.Ytgapcmodhcdebaa
open Go.RowKit Go.Th
set_option linter.unusedVariables false
theorem ftake_isP (m : Nat) (hm : m < 4294967296) (M : Int) (hM : (m : Int) = M) (A : Option Addr) (n c : Nat) (w : World) (hn : n ≤ 1000000) (bs : List UInt8) (hr : RdS bv w w.heap.size A n c bs) (x : List UInt8) (er : Int) (h : ftake m bs = (x, er)) :
    Calls Try.prog 30 #[.int .u32 M, .slice A n c] w fun e w' => ∃ A' n' c', e = .returned (.tuple #[.slice A' n' c', .int .i64 er]) ∧ OwS bv w' w.heap.size 5 A' n' c' x ∧ Below w.heap.size w w' := by
  have := ftake_any m hm M hM A n c w hn bs hr
  rw [h] at this
  exact this
end Go.Proofs.Ytgapcmodhcdebaa

/-! ### GroupPart -/
namespace Go.Th
theorem or128_fin : ∀ k : Fin 128, UInt8.ofNat k.1 ||| 128 = UInt8.ofNat (k.1 + 128) ∧ UInt8.ofNat (k.1 + 128) ||| 128 = UInt8.ofNat (k.1 + 128) := by decide +kernel
theorem or128_low (k : Nat) (h : k < 128) : UInt8.ofNat k ||| 128 = UInt8.ofNat (k + 128) := (or128_fin ⟨k, h⟩).1
theorem or128_high (k : Nat) (h : k < 128) : UInt8.ofNat (k + 128) ||| 128 = UInt8.ofNat (k + 128) := (or128_fin ⟨k, h⟩).2
theorem gd_or : ∀ (s n : Nat), (gd n s).map (· ||| 128) = gd n s
  | 0, _ => rfl
  | s + 1, n => by
    rw [gd, List.map_append, gd_or s]
    show _ ++ [UInt8.ofNat (n % 128 + 128) ||| 128] = _
    rw [or128_high _ (Nat.mod_lt _ (by omega))]
theorem gput_or (m : Nat) : (gput m).map (· ||| 128) = gd m (gsize m) := by
  obtain ⟨r, hr⟩ : ∃ r, gsize m = r + 1 := ⟨gsize m - 1, by have := (gsize_pos m).1; omega⟩
  rw [gput, hr, Nat.add_sub_cancel, List.map_append, gd_or, gd]
  show _ ++ [UInt8.ofNat (m % 128) ||| 128] = _
  rw [or128_low _ (Nat.mod_lt _ (by omega))]
theorem gput_bits {x : Nat} (h : 128 ≤ x) (h2 : x < 268435456) : gput x = (gput (x / 128)).map (· ||| 128) ++ [UInt8.ofNat (x % 128)] := by
  rw [gput_or, gput]
  have := gsize_step h h2
  rw [show gsize x - 1 = gsize (x / 128) by omega]
theorem gput_last (x r : Nat) (h : gsize x = r + 1) : (gput x)[r]? = some (UInt8.ofNat (x % 128)) := by
  rw [gput, h, Nat.add_sub_cancel, List.getElem?_append_right (by rw [gd_length]; exact Nat.le_refl _), gd_length, Nat.sub_self]
  rfl
theorem gput_bit {x : Nat} (h : 128 ≤ x) (h2 : x < 268435456) (i : Nat) (hi : i < gsize (x / 128)) (b c : UInt8) (hb : (gput x)[i]? = some b) (hc : (gput (x / 128))[i]? = some c) : b = c ||| 128 := by
  rw [gput_bits h h2, List.getElem?_append_left (by rw [List.length_map, gput_length]; exact hi), List.getElem?_map, hc] at hb
  injection hb with hb
  exact hb.symm
theorem or_u8_fin : ∀ k : Fin 256, bits .or .u8 (k.1 : Int) 128 = ((UInt8.ofNat k.1 ||| 128).toNat : Int) := by decide +kernel
theorem or_u8 (c : UInt8) : bits .or .u8 (c.toNat : Int) 128 = ((c ||| 128).toNat : Int) := by
  have := or_u8_fin ⟨c.toNat, c.toNat_lt⟩
  rw [UInt8.ofNat_toNat] at this
  exact this
/-- No number's bytes begin with another one's. -/
theorem gput_free (x y : Nat) (hx : x < 268435456) (hy : y < 268435456) (k : Nat) (hk : k = min (gsize x) (gsize y)) (h : (gput x).take k = (gput y).take k) : x = y := by
  rcases Nat.le_total (gsize x) (gsize y) with hl | hl
  · have e : gput y = gput x ++ (gput y).drop k := by
      have : gput x = (gput y).take k := by rw [← h, List.take_of_length_le (by rw [gput_length]; omega)]
      rw [this, List.take_append_drop]
    have h1 := gtake_gput x hx ((gput y).drop k)
    have h2 := gtake_gput y hy []
    rw [List.append_nil] at h2
    rw [← e, h2] at h1
    exact (congrArg Prod.fst h1).symm
  · have e : gput x = gput y ++ (gput x).drop k := by
      have : gput y = (gput x).take k := by rw [h, List.take_of_length_le (by rw [gput_length]; omega)]
      rw [this, List.take_append_drop]
    have h1 := gtake_gput y hy ((gput x).drop k)
    have h2 := gtake_gput x hx []
    rw [List.append_nil] at h2
    rw [← e, h2] at h1
    exact congrArg Prod.fst h1
/-- Numbers, one behind the other. -/
def gcat (xs : List Nat) : List UInt8 := xs.flatMap gput
theorem gcat_take {xs : List Nat} {k x : Nat} (h : xs[k]? = some x) : gcat (xs.take (k + 1)) = gcat (xs.take k) ++ gput x := by
  rw [List.take_add_one, h]
  unfold gcat
  rw [List.flatMap_append]
  simp
theorem gcat_drop (xs : List Nat) (k : Nat) : (gcat xs).drop (gcat (xs.take k)).length = gcat (xs.drop k) := by
  have e : gcat xs = gcat (xs.take k) ++ gcat (xs.drop k) := by
    unfold gcat
    rw [← List.flatMap_append, List.take_append_drop]
  rw [e, List.drop_left]
theorem gcat_cons {xs : List Nat} {k x : Nat} (h : xs[k]? = some x) : gcat (xs.drop k) = gput x ++ gcat (xs.drop (k + 1)) := by
  obtain ⟨hl, rfl⟩ := List.getElem?_eq_some_iff.1 h
  rw [List.drop_eq_getElem_cons hl]
  unfold gcat
  rw [List.flatMap_cons]
theorem gcat_le (xs : List Nat) (k : Nat) : (gcat (xs.take k)).length ≤ (gcat xs).length := by
  have e : gcat xs = gcat (xs.take k) ++ gcat (xs.drop k) := by
    unfold gcat
    rw [← List.flatMap_append, List.take_append_drop]
  rw [e, List.length_append]
  omega
theorem gcat_four : ∀ xs : List Nat, (gcat xs).length ≤ 4 * xs.length
  | [] => by simp [gcat]
  | x :: xs => by
    have := gcat_four xs
    have h2 := gsize_pos x
    rw [gcat, List.flatMap_cons, List.length_append, gput_length, List.length_cons]
    unfold gcat at this
    omega
end Go.Th

/-! ### NewArms -/
namespace Go.Th
open Go.RowKit
set_option linter.unusedVariables false
section
variable {P : Program} {ops : Array Oper} {rest : List Oper} {o : Oper} {a : Act} {Q : Exit → Act → World → Prop} {w : World}
/-- A variable is made; where it lies is a name. -/
theorem wl_newBox (hw : Region.wanted o (yielded ops a.tmps) = true) (T : TypeId) (ho : o.op = .alloc T) {cs : Array Value} {k : Nat} (hz : (P.info? T).map (fun i => (i.zero.map Value.cells, i.size)) = some (some cs, k))
    (h : ∀ g w', w.heap.size ≤ g → g < w'.heap.size → Box w' g T cs → Below w.heap.size w w' → wpList P ops Q rest (a.put o.dst (.pointer (some ⟨g, 0, none⟩))) w') : wpList P ops Q (o :: rest) a w := by
  cases hi : P.info? T with
  | none => rw [hi] at hz; simp at hz
  | some i =>
    rw [hi] at hz
    simp only [Option.map_some, Option.some.injEq, Prod.mk.injEq, Option.map_eq_some_iff] at hz
    obtain ⟨⟨z, hz1, hz2⟩, _⟩ := hz
    refine wl_run hw (v := .pointer (some ⟨w.heap.size, 0, none⟩)) ?_ (h _ (w.alloc (.cells cs T)) (Nat.le_refl _) (by simp) (Box.new w cs T) (below_alloc w (Nat.le_refl _) _))
    simp [execOp, ho, Instr.alloc, zeroValue, typeInfo, hi, hz1, newVar, newRow, hz2]
/-- A slice literal is made. -/
theorem wl_sliceM (hw : Region.wanted o (yielded ops a.tmps) = true) (T : TypeId) (n : Nat) (parts : Array (Nat × Operand)) (ho : o.op = .buildSlice T n parts) {E bytes k : Nat} {z : Value} (el : ElM P T E z bytes k) {α : Type} {f : α → List Value} (hf : ∀ x, (f x).length = k) {base : Nat} (xs : List α) (hx : xs.length = n)
    (hs : n * k ≤ 16777216) (hn : 0 < n) (hb : base ≤ w.heap.size)
    {vs : List (Nat × Value)} (hv : parts.toList.map (fun (i, x) => (i, a.eval x)) = vs) (hc : Instr.fill (fun i => some (i * k, k)) ((Array.range (n * k)).map (z.cells[· % z.cells.size]!)) vs = some (xs.flatMap f).toArray)
    (h : ∀ g w', w.heap.size ≤ g → g < w'.heap.size → OwM f k w' base E (some ⟨g, 0, none⟩) n n xs → Below w.heap.size w w' → wpList P ops Q rest (a.put o.dst (.slice (some ⟨g, 0, none⟩) n n)) w') : wpList P ops Q (o :: rest) a w := by
  obtain ⟨i, hi, hz, hk, hby⟩ := el.info
  have hpos : 0 < n * k := Nat.mul_pos hn el.pos
  refine wl_run hw (v := .slice (some ⟨w.heap.size, 0, none⟩) n n) ?_ (h _ (w.alloc (.cells (xs.flatMap f).toArray E)) (Nat.le_refl _) (by simp) (OwM.lit hf w _ n hb (by simp only [maxLen]; have := Nat.le_mul_of_pos_right n el.pos; omega) hx rfl) (below_alloc w (Nat.le_refl _) _))
  simp only [execOp, ho, Sem.run_bind, run_buildSlice w T E n _ _ i z el.ht hi hz (by rw [hk]; omega) (by rw [hk]; omega) (by rw [hk, Array.toList_map]; exact hv ▸ hc), Result.andThen_ok, Sem.run_pure]
theorem on_makeL (l : Operand) {d t c ty pos af g} (h : wpList P ops Q (⟨d, .makeSlice t l c, ty, pos, af, g⟩ :: rest) a w) : wpList P ops Q (⟨d, .makeSlice t l c, ty, pos, af, g⟩ :: rest) a w := h
theorem on_alloc {T : TypeId} {d ty pos af g} (h : wpList P ops Q (⟨d, .alloc T, ty, pos, af, g⟩ :: rest) a w) : wpList P ops Q (⟨d, .alloc T, ty, pos, af, g⟩ :: rest) a w := h
theorem on_sliceLit {T : TypeId} {n : Nat} {ps d ty pos af g} (h : wpList P ops Q (⟨d, .buildSlice T n ps, ty, pos, af, g⟩ :: rest) a w) : wpList P ops Q (⟨d, .buildSlice T n ps, ty, pos, af, g⟩ :: rest) a w := h
theorem OwS.lt {α : Type} {f : α → Value} {base e n c g : Nat} {w : World} {xs : List α} (h : OwS f w base e (some ⟨g, 0, none⟩) n c xs) : base ≤ g ∧ g < w.heap.size := by
  rcases h.ow.form with ⟨e, _⟩ | ⟨g', e, hb, hl⟩
  · cases e
  · injection e with e; injection e with e; subst e; exact ⟨hb, hl⟩
theorem OwM.lt {α : Type} {f : α → List Value} {k base e n c g : Nat} {w : World} {xs : List α} (h : OwM f k w base e (some ⟨g, 0, none⟩) n c xs) : base ≤ g ∧ g < w.heap.size := by
  rcases h.ow.form with ⟨e, _⟩ | ⟨g', e, hb, hl⟩
  · cases e
  · injection e with e; injection e with e; subst e; exact ⟨hb, hl⟩
end
section
variable {P : Program} {ops : Array Oper} {rest : List Oper} {o : Oper} {a : Act} {C : World → Prop} {Q : Act → Prop}
/-- &s[i] of a row of the call's own, in a quiet walk. -/
theorem wqm_place (hw : Region.wanted o (yielded ops a.tmps) = true) (T : TypeId) (s i : Operand) (ho : o.op = .indexAddr T s i) {E bytes k : Nat} {z : Value} (el : ElM P T E z bytes k)
    {g n c : Nat} {kk : IntKind} {I : Int} (hs : a.eval s = .slice (some ⟨g, 0, none⟩) n c) (hi : a.eval i = .int kk I) (j : Nat) (hj : I = (j : Int) ∧ j < n)
    (h : wpQuiet P ops C Q rest (a.put o.dst (.pointer (some ⟨g, j * k, none⟩)))) : wpQuiet P ops C Q (o :: rest) a := by
  obtain ⟨rfl, hj⟩ := hj
  refine wq_run hw (v := .pointer (some ⟨g, j * k, none⟩)) (fun w hC => ?_) h
  have := run_indexAt (P := P) (w := w) T el.ht (el.size w) ⟨g, 0, none⟩ n c kk (j : Int) (by omega) (by omega)
  rw [Addr.add_lit, Nat.zero_add, Int.toNat_natCast] at this
  simp only [execOp, ho, hs, hi, Sem.run_bind, this, Result.andThen, Sem.run_pure]
end
structure KStep (g : Nat) (w0 : World) where
  w : World
  h : w.heap[g]? = w0.heap[g]?
instance (g : Nat) (w : World) : Nonempty (KStep g w) := ⟨⟨w, rfl⟩⟩
def KReach (g : Nat) (w w' : World) : Prop := ∃ p : KStep g w, w' = p.w
theorem KReach.of {g : Nat} {w w' : World} (h : w'.heap[g]? = w.heap[g]?) : KReach g w w' := ⟨⟨w', h⟩, rfl⟩
theorem KReach.refl (g : Nat) (w : World) : KReach g w w := .of rfl
theorem KReach.trans (g : Nat) (x y z : World) (h1 : KReach g x y) (h2 : KReach g y z) : KReach g x z := by
  obtain ⟨p, rfl⟩ := h1
  obtain ⟨q, rfl⟩ := h2
  exact .of (q.h.trans p.h)
attribute [go_sem] KReach
theorem keep_alloc {g : Nat} (w : World) (o : Obj) (h : g < w.heap.size) : (w.alloc o).heap[g]? = w.heap[g]? := (below_alloc w (Nat.le_refl _) o).block g h
theorem keep_grown {g : Nat} {w w' : World} {row : Option Nat} (h : w.grownBy w' row) (hl : g < w.heap.size) (hne : row ≠ some g) : w'.heap[g]? = w.heap[g]? := h.block g hl (fun e => hne e.symm)
theorem Box.keep {w : World} {g : Nat} {t : TypeId} {cs : Array Value} (h : Box w g t cs) (q : KStep g w) : Box q.w g t cs := ⟨q.h.trans h.at_⟩
end Go.Th

/-! ### Keep -/
namespace Go.Th
open Go.RowKit
set_option linter.unusedVariables false
structure KSStep (S : Addr → Prop) (w0 : World) where
  w : World
  h : ∀ a, S a → w.cell? a = w0.cell? a
instance (S : Addr → Prop) (w : World) : Nonempty (KSStep S w) := ⟨⟨w, fun _ _ => rfl⟩⟩
def KSReach (S : Addr → Prop) (w w' : World) : Prop := ∃ p : KSStep S w, w' = p.w
theorem KSReach.of {S : Addr → Prop} {w w' : World} (h : ∀ a, S a → w'.cell? a = w.cell? a) : KSReach S w w' := ⟨⟨w', h⟩, rfl⟩
theorem KSReach.refl (S : Addr → Prop) (w : World) : KSReach S w w := .of fun _ _ => rfl
theorem KSReach.trans (S : Addr → Prop) (x y z : World) (h1 : KSReach S x y) (h2 : KSReach S y z) : KSReach S x z := by
  obtain ⟨p, rfl⟩ := h1
  obtain ⟨q, rfl⟩ := h2
  exact .of fun a ha => (q.h a ha).trans (p.h a ha)
attribute [go_sem] KSReach
theorem ks_alloc {S : Addr → Prop} (w : World) (o : Obj) (h : ∀ a, S a → a.block < w.heap.size) : ∀ a, S a → (w.alloc o).cell? a = w.cell? a := fun a ha => World.cell?_alloc_lt w o a (h a ha)
end Go.Th

/-! ### AppendK -/
namespace Go.Th
open Go.RowKit
set_option linter.unusedVariables false
section
variable {P : Program} {ops : Array Oper} {rest : List Oper} {o : Oper} {a : Act} {Q : Exit → Act → World → Prop} {w : World}
theorem append_keep {base : Nat} {t ty E : TypeId} {i : TypeInfo} {z : Value} {size bytes : Nat} (ht : P.underlying t = some (.slice E)) (hi : P.info? E = some i) (hz : i.zero = some z)
    (hsize : i.size = size) (hby : i.bytes = bytes) (hsz : 0 < size) {g n c : Nat} {xs : List Value} (hown : Ow w base E size (some ⟨g, 0, none⟩) n c xs)
    {ad : Addr} {m c' : Nat} {news : List Value} (hl : news.length = m * size) (hr : ∀ j u, news[j]? = some u → w.cell? (ad.add j) = some u) (h1 : ∀ u ∈ news, u.oneCell' = true)
    (h63 : n + m ≤ maxLen) (hbytes : (n + m) * bytes ≤ 140737488355328) {v' : Value} {w' : World}
    (hrun : (Builtin.append_ #[t, t] ty #[.slice (some ⟨g, 0, none⟩) n c, .slice (some ad) m c']).run P w = .ok v' w') :
    ∀ j, j < n * size → w'.cell? ⟨g, j, none⟩ = w.cell? ⟨g, j, none⟩ := by
  subst hsize hby
  intro j hj
  rcases hown.own.2 with ⟨hv, _⟩ | ⟨g', cap, cur, hv, hbg, hg, hnc, hcm, hcs, htake⟩
  · cases hv
  · injection hv with hv1 _ hv3
    injection hv1 with hv1
    injection hv1 with hv1
    subst hv1 hv3
    have hlt : g < w.heap.size := (Array.getElem?_eq_some_iff.1 hg).1
    have hle : n * i.size ≤ cur.size := by rw [hcs]; exact Nat.mul_le_mul_right _ hnc
    by_cases hroom : n + m ≤ c
    · have hfit : n * i.size + news.length ≤ cur.size := by rw [hl, hcs, ← Nat.add_mul]; exact Nat.mul_le_mul_right _ hroom
      have h := run_append_room (P := P) w t ty E i ht hi g n c cur hg ad m c' news hl hr h1 hroom hfit
      rw [hrun] at h
      injection h with _ h
      subst h
      have hx : (cur.toList.take (n * i.size) ++ news ++ cur.toList.drop (n * i.size + news.length))[j]? = cur.toList[j]? := by
        rw [List.append_assoc, List.getElem?_append_left (by rw [List.length_take, Array.length_toList]; omega), List.getElem?_take, if_pos hj]
      rw [cell_of_row _ g j _ E (0, 0) (setRow_heap w g cur _ E (0, 0) hg), cell_of_row w g j cur E (0, 0) hg]
      simpa using hx
    · have holds : ∀ j u, xs[j]? = some u → w.cell? ((⟨g, 0, none⟩ : Addr).add j) = some u := hown.own.cells (g := g) rfl
      have hsmall : n + m ≤ 9223372036854775807 := by simp only [maxLen] at h63; omega
      have h := run_append_grow (P := P) w t ty E i z ht hi hz ⟨g, 0, none⟩ n c xs hown.own.1 holds ad m c' news hl hr (by omega) (by omega) (growslice_fits (by omega) hbytes)
      rw [hrun] at h
      injection h with _ h
      subst h
      exact World.cell?_alloc_lt w.drew _ ⟨g, j, none⟩ hlt
/-- append to a row that is there: where it lies then, and what it read still reads. -/
theorem wl_appendK (hw : Region.wanted o (yielded ops a.tmps) = true) (s x : Operand) (t : TypeId)
    (ho : o.op = .call { callee := .builtin .append, args := #[s, x], argTypes := #[t, t] })
    {base E : Nat} {z : Value} {bytes : Nat} (el : El P t E z bytes) {α : Type} {f : α → Value} (hf : ∀ x, (f x).oneCell' = true)
    {g n c : Nat} (hs : a.eval s = .slice (some ⟨g, 0, none⟩) n c) {xs : List α} (hown : OwS f w base E (some ⟨g, 0, none⟩) n c xs)
    {B : Nat} {ad : Addr} {m c' : Nat} (hx : a.eval x = .slice (some ad) m c') {ys : List α} (hr : RdS f w B (some ad) m c' ys)
    (hbytes : (n + m) * bytes ≤ 140737488355328) (hpos : 0 < bytes) (hbase : base ≤ w.heap.size)
    (h : ∀ A'' c'' w', OwS f w' base E A'' (n + m) c'' (xs ++ ys) → w.grownBy w' (some g) → Below base w w' → (A'' = some ⟨g, 0, none⟩ ∨ A'' = some ⟨w.heap.size, 0, Option.none⟩) → (∀ j, j < n → w'.cell? ⟨g, j, none⟩ = w.cell? ⟨g, j, none⟩) → wpList P ops Q rest (a.put o.dst (.slice A'' (n + m) c'')) w') : wpList P ops Q (o :: rest) a w := by
  obtain ⟨i, hi, hz, hsize, hby⟩ := el.info
  have h63 : n + m ≤ maxLen := by
    have := Nat.le_mul_of_pos_right (n + m) hpos
    simp only [maxLen]; omega
  have hone : ∀ u ∈ ys.map f, u.oneCell' = true := by
    intro u hu
    obtain ⟨y, _, rfl⟩ := List.mem_map.1 hu
    exact hf y
  have hnl : (ys.map f).length = m * 1 := by rw [List.length_map, hr.len]; omega
  obtain ⟨A'', c'', w', hrun, h2, h3, h4⟩ := run_append (P := P) (ty := o.type) (c' := c') el.ht hi hz hsize hby (by rw [el.cells]; rfl) (by omega) hown.ow hnl hr.rd hone h63 hbytes hbase
  have hk := append_keep el.ht hi hz hsize hby (by omega) hown.ow hnl (hr.rd.cells rfl) hone h63 hbytes hrun
  refine wl_run hw ?_ (h A'' c'' w' ⟨by rw [← List.map_append] at h2; exact h2⟩ h3 ((Below.refl _ _).grown h3 hbase hown.ow.row_ge) h4 (fun j hj => hk j (by omega)))
  simp only [execOp, ho, resolve, invoke, builtin, Sem.run_bind, Sem.run_pure, Result.andThen, List.map_toArray, List.map_cons, List.map_nil, hs, hx, hrun]
/-- The same of elements of k cells. -/
theorem wm_appendK {α : Type} {f : α → List Value} {k : Nat} (hf : ∀ x, (f x).length = k) (hw : Region.wanted o (yielded ops a.tmps) = true) (s x : Operand) (t : TypeId)
    (ho : o.op = .call { callee := .builtin .append, args := #[s, x], argTypes := #[t, t] })
    {base E : Nat} {z : Value} {bytes : Nat} (el : ElM P t E z bytes k) (h1 : ∀ x, ∀ u ∈ f x, u.oneCell' = true)
    {g n c : Nat} (hs : a.eval s = .slice (some ⟨g, 0, none⟩) n c) {xs : List α} (hown : OwM f k w base E (some ⟨g, 0, none⟩) n c xs)
    {B : Nat} {ad : Addr} {m c' : Nat} (hx : a.eval x = .slice (some ad) m c') {ys : List α} (hr : RdM f w B (some ad) m c' ys)
    (hbytes : (n + m) * bytes ≤ 140737488355328) (hpos : 0 < bytes) (hbase : base ≤ w.heap.size)
    (h : ∀ A'' c'' w', OwM f k w' base E A'' (n + m) c'' (xs ++ ys) → w.grownBy w' (some g) → Below base w w' → (A'' = some ⟨g, 0, none⟩ ∨ A'' = some ⟨w.heap.size, 0, Option.none⟩) → (∀ j, j < n * k → w'.cell? ⟨g, j, none⟩ = w.cell? ⟨g, j, none⟩) → wpList P ops Q rest (a.put o.dst (.slice A'' (n + m) c'')) w') : wpList P ops Q (o :: rest) a w := by
  obtain ⟨i, hi, hz, hsize, hby⟩ := el.info
  have h63 : n + m ≤ maxLen := by
    have := Nat.le_mul_of_pos_right (n + m) hpos
    simp only [maxLen]; omega
  have hone : ∀ u ∈ ys.flatMap f, u.oneCell' = true := by
    intro u hu
    obtain ⟨y, _, hy⟩ := List.mem_flatMap.1 hu
    exact h1 y u hy
  have hnl : (ys.flatMap f).length = m * k := by rw [flat_length hf, hr.len]
  obtain ⟨A'', c'', w', hrun, h2, h3, h4⟩ := run_append (P := P) (ty := o.type) (c' := c') el.ht hi hz hsize hby el.cells el.pos hown.ow hnl hr.rd hone h63 hbytes hbase
  have hk := append_keep el.ht hi hz hsize hby el.pos hown.ow hnl (hr.rd.cells rfl) hone h63 hbytes hrun
  refine wl_run hw ?_ (h A'' c'' w' ⟨by rw [← List.flatMap_append] at h2; exact h2, by rw [List.length_append, hown.len, hr.len]⟩ h3 ((Below.refl _ _).grown h3 hbase hown.ow.row_ge) h4 hk)
  simp only [execOp, ho, resolve, invoke, builtin, Sem.run_bind, Sem.run_pure, Result.andThen, List.map_toArray, List.map_cons, List.map_nil, hs, hx, hrun]
end
end Go.Th

/-! ### RegionL -/
namespace Go.Th
open Go.RowKit
set_option linter.unusedVariables false
section
variable {P : Program} {ops : Array Oper} {G : World → World → Prop} {md : Region.Mode} {L : Nat}
/-- No class is asked of operation L. -/
def Gof (L : Nat) (G : World → World → Prop) (i : Nat) : World → World → Prop := fun w w' => i = L ∨ G w w'
def anyL (P : Program) (md : Region.Mode) (ops : Array Oper) (L : Nat) (G : World → World → Prop) (Q : Act → World → Prop) : Nat → Array Bool → Act → World → Prop
  | 0, listed, a, w => Region.ready md ops listed = [] ∧ Q a w
  | fuel + 1, listed, a, w =>
    (Region.ready md ops listed = [] → Q a w) ∧
    ∀ i ∈ Region.ready md ops listed, opG P ops (Gof L G i) i (anyL P md ops L G Q fuel (listed.setIfInBounds i true)) a w
theorem wpAny_of_anyL {Q : Act → World → Prop} {Q' : Exit → Act → World → Prop} (hQ : ∀ a w, Q a w → Q' .normal a w) : ∀ (fuel : Nat) (listed : Array Bool) (a : Act) (w : World), anyL P md ops L G Q fuel listed a w → wpAny P md ops Q' fuel listed a w
  | 0, _, _, _, h => ⟨h.1, hQ _ _ h.2⟩
  | fuel + 1, listed, a, w, h => by
    refine ⟨fun h0 => hQ _ _ (h.1 h0), fun i hi => ?_⟩
    have h1 := h.2 i hi
    unfold opG at h1
    unfold wpOp
    split
    · rename_i ho
      simp only [ho] at h1
      exact wpAny_of_anyL hQ fuel _ _ _ h1
    · rename_i o ho
      simp only [ho] at h1
      split
      · rename_i hw
        simp only [hw, if_true] at h1
        exact .inl (wp_weak (fun a' w' hh => wpAny_of_anyL hQ fuel _ _ _ hh.2) h1)
      · rename_i hw
        simp only [hw] at h1
        exact wpAny_of_anyL hQ fuel _ _ _ h1
theorem yields_opGof {i : Nat} {o : Oper} {v : Value} {a : Act} {w : World} (hr : ∀ x, G x x) (hi : ops[i]? = some o) (hy : YieldsG P ops G o v a w) {K : Act → World → Prop} (h : K (a.put o.dst v) w) : opG P ops (Gof L G i) i K a w := by
  have := hy.opG hr hi h
  unfold Go.Th.opG at *
  simp only [hi] at *
  split
  · rename_i hw
    simp only [hw, if_true] at this
    exact wp_weak (fun a' w' q => ⟨.inr q.1, q.2⟩) this
  · rename_i hw
    simp only [hw] at this
    exact this
/-- Operation j hangs on operation i, in so many steps. -/
def hangs (md : Region.Mode) (ops : Array Oper) : Nat → Nat → Nat → Bool
  | 0, _, _ => false
  | n + 1, j, i => match ops[j]? with
    | none => false
    | some o => o.after.any fun e => Region.binds md e && (e.on == i || hangs md ops n e.on i)
/-- Operation L hangs on all the others. -/
def lastB (md : Region.Mode) (ops : Array Oper) (L : Nat) : Bool := (List.range ops.size).all fun i => i == L || hangs md ops 4 L i
/-- What is listed has what it hangs on listed. -/
def ClosedL (md : Region.Mode) (ops : Array Oper) (listed : Array Bool) : Prop := ∀ k o, ops[k]? = some o → listed.getD k true = true → ∀ e ∈ o.after, Region.binds md e = true → listed.getD e.on true = true
theorem hangs_listed {listed : Array Bool} (hc : ClosedL md ops listed) {i : Nat} : ∀ (n j : Nat) (oj : Oper), ops[j]? = some oj → (∀ e ∈ oj.after, Region.binds md e = true → listed.getD e.on true = true) → hangs md ops n j i = true → listed.getD i true = true
  | 0, _, _, _, _, h => by cases h
  | n + 1, j, oj, hj, hl, h => by
    unfold hangs at h
    rw [hj] at h
    simp only [Array.any_eq_true', Bool.and_eq_true, Bool.or_eq_true, beq_iff_eq] at h
    obtain ⟨e, he, hb, h2⟩ := h
    have h3 := hl e he hb
    rcases h2 with h2 | h2
    · rw [← h2]; exact h3
    · cases ho : ops[e.on]? with
      | none => cases n <;> simp [hangs, ho] at h2
      | some o => exact hangs_listed hc n e.on o ho (hc _ _ ho h3) h2
theorem lastB_spec (h : lastB md ops L = true) {listed : Array Bool} (hc : ClosedL md ops listed) {i j : Nat} {oi oj : Oper} (hi : ops[i]? = some oi) (hj : ops[j]? = some oj) (hji : j ≠ i) (hun : listed.getD i true = false) (hall : ∀ e ∈ oj.after, Region.binds md e = true → listed.getD e.on true = true) : j ≠ L := by
  intro e
  subst e
  unfold lastB at h
  simp only [List.all_eq_true, List.mem_range, Bool.or_eq_true, beq_iff_eq] at h
  rcases h i (Array.getElem?_eq_some_iff.1 hi).1 with h | h
  · exact hji h.symm
  · have := hangs_listed hc 4 j oj hj hall h
    rw [hun] at this
    cases this
theorem getD_up {listed : Array Bool} {k : Nat} (h : listed.getD k false = true) : listed.getD k true = true := by
  unfold Array.getD at *
  split
  · rename_i hk; simpa [hk] using h
  · rfl
theorem ClosedL.set {listed : Array Bool} (hc : ClosedL md ops listed) {j : Nat} (hj : j ∈ Region.ready md ops listed) : ClosedL md ops (listed.setIfInBounds j true) := by
  obtain ⟨hjun, oj, hoj, hall⟩ := mem_ready.1 hj
  have up : ∀ k, listed.getD k true = true → (listed.setIfInBounds j true).getD k true = true := by
    intro k hk
    by_cases e : j = k
    · subst e
      simp [Array.getD]
    · rw [getD_set_ne true e]; exact hk
  intro k o hk hl e he hb
  by_cases ek : j = k
  · subst ek
    rw [hoj] at hk
    injection hk with hk
    subst hk
    exact up _ (getD_up (hall e he hb))
  · rw [getD_set_ne true ek] at hl
    exact up _ (hc k o hk hl e he hb)
theorem ClosedL.start : ClosedL md ops (Array.replicate ops.size false) := by
  intro k o hk hl
  have := (Array.getElem?_eq_some_iff.1 hk).1
  simp [Array.getD, this] at hl
theorem anyL_first {Q : Act → World → Prop} {i : Nat} {oi : Oper} {v : Value} (hG : ∀ x y z, G x y → G y z → G x z) (hr0 : ∀ x, G x x) (hLB : lastB md ops L = true) (hi : ops[i]? = some oi) (hsel : ∀ (j : Nat) (o : Oper) cs b, ops[j]? = some o → o.op ≠ .select cs b) :
    ∀ (fuel : Nat) (listed : Array Bool) (a : Act) (w : World), ClosedL md ops listed →
      (∀ j oj, ops[j]? = some oj → j ≠ i → listed.getD j true = false → (∀ e ∈ oj.after, Region.binds md e = true → e.on ≠ i) → oi.apart ops oj = true) →
      i ∈ Region.ready md ops listed → YieldsG P ops G oi v a w →
      anyL P md ops L G Q fuel (listed.setIfInBounds i true) (a.put oi.dst v) w → anyL P md ops L G Q (fuel + 1) listed a w := by
  intro fuel
  induction fuel with
  | zero =>
    intro listed a w hcl _ hr hy H
    refine ⟨fun h => (by rw [h] at hr; cases hr), fun j hj => ?_⟩
    by_cases hji : j = i
    · subst hji; exact yields_opGof hr0 hi hy H
    · have := ready_mono hj hji
      rw [H.1] at this
      cases this
  | succ fuel ih =>
    intro listed a w hcl hfree hr hy H
    refine ⟨fun h => (by rw [h] at hr; cases hr), fun j hj => ?_⟩
    by_cases hji : j = i
    · subst hji; exact yields_opGof hr0 hi hy H
    · have h1 := H.2 j (ready_mono hj hji)
      obtain ⟨hjun, oj, hoj, hall⟩ := mem_ready.1 hj
      have hnot : ∀ e ∈ oj.after, Region.binds md e = true → e.on ≠ i := fun e he hb heq => by
        have h1 := hall e he hb
        have h0 := (mem_ready.1 hr).1
        rw [heq] at h1
        rcases Nat.lt_or_ge i listed.size with h' | h'
        · simp [h'] at h0 h1; rw [h0] at h1; cases h1
        · simp [Array.getElem?_eq_none h'] at h1
      have hjL : j ≠ L := lastB_spec hLB hcl hi hoj hji (mem_ready.1 hr).1 (fun e he hb => getD_up (hall e he hb))
      have eG : Gof L G j = G := by funext x y; simp [Gof, hjL]
      rw [eG] at h1 ⊢
      have h2 := opG_put hG hoj (hfree j oj hoj hji hjun hnot) (fun cs b => hsel i oi cs b hi) (fun cs b => hsel j oj cs b hoj) hy h1
      have hfree' : ∀ k ok, ops[k]? = some ok → k ≠ i → (listed.setIfInBounds j true).getD k true = false →
          (∀ e ∈ ok.after, Region.binds md e = true → e.on ≠ i) → oi.apart ops ok = true := fun k ok hk hki hun hno => by
        refine hfree k ok hk hki ?_ hno
        by_cases hjk : j = k
        · subst hjk; exact hjun
        · rw [getD_set_ne true hjk] at hun; exact hun
      refine opG_mono (fun a' w' _ h3 => ih (listed.setIfInBounds j true) a' w' (hcl.set hj) hfree' (ready_mono hr (Ne.symm hji)) h3.1 ?_) h2
      rw [Array.setIfInBounds_comm _ _ hji]
      exact h3.2
def wpTreeL (P : Program) (ops : Array Oper) (L : Nat) (G : World → World → Prop) (Q : Act → World → Prop) (l : List Oper) : Tree → Act → World → Prop
  | .done, a, w => Q a w
  | .float s n t, a, w => wpQuiet P ops (G w) (fun a' => wpTreeL P ops L G Q l t a' w) ((l.drop s).take n) a
  | .one i t, a, w => wpList P ops (Anch (Gof L G i) w (wpTreeL P ops L G Q l t)) ((l.drop i).take 1) a w
  | .two i t j u, a, w => wpList P ops (Anch (Gof L G i) w (wpTreeL P ops L G Q l t)) ((l.drop i).take 1) a w ∧ wpList P ops (Anch (Gof L G j) w (wpTreeL P ops L G Q l u)) ((l.drop j).take 1) a w
  | .three i t j u k v, a, w => wpList P ops (Anch (Gof L G i) w (wpTreeL P ops L G Q l t)) ((l.drop i).take 1) a w ∧ wpList P ops (Anch (Gof L G j) w (wpTreeL P ops L G Q l u)) ((l.drop j).take 1) a w ∧ wpList P ops (Anch (Gof L G k) w (wpTreeL P ops L G Q l v)) ((l.drop k).take 1) a w
theorem anyL_floats {Q : Act → World → Prop} (hG : ∀ x y z, G x y → G y z → G x z) (hr0 : ∀ x, G x x) (hLB : lastB .any ops L = true) (hs : Region.noSelect ops = true) (l : List Oper) (hl : l.toArray = ops) (K : Act → World → Prop) (fuel : Nat) (w : World) :
    ∀ (n s : Nat) (listed : Array Bool) (a : Act), ClosedL .any ops listed → floatsB ops n s listed = true → (∀ a', K a' w → ClosedL .any ops (listAll n s listed) → anyL P .any ops L G Q fuel (listAll n s listed) a' w) →
      wpQuiet P ops (G w) (fun a' => K a' w) ((l.drop s).take n) a → anyL P .any ops L G Q (n + fuel) listed a w := by
  intro n
  induction n with
  | zero => intro s listed a hcl _ hK h; rw [Nat.zero_add]; rw [List.take_zero] at h; exact hK a h hcl
  | succ n ih =>
    intro s listed a hcl hB hK h
    simp only [floatsB, Bool.and_eq_true] at hB
    obtain ⟨⟨⟨hr, hf⟩, hc⟩, hB'⟩ := hB
    unfold calmAt at hc
    cases ho : ops[s]? with
    | none => rw [ho] at hc; simp at hc
    | some o =>
      rw [ho] at hc
      have hlt : s < l.length := by
        have := (Array.getElem?_eq_some_iff.1 ho).1
        rw [← hl] at this; simpa using this
      have hlo : l[s] = o := by
        have h1 := (Array.getElem?_eq_some_iff.1 ho).2
        subst hl
        simpa using h1
      rw [List.drop_eq_getElem_cons hlt, List.take_succ_cons, hlo] at h
      have hst : qOp P ops (G w) s (wpQuiet P ops (G w) (fun a' => K a' w) ((l.drop (s + 1)).take n)) a := by unfold qOp; simp only [ho]; exact h
      obtain ⟨v, hy, hK1⟩ := yieldsIn_of_qOp ho hst
      rw [show n + 1 + fuel = (n + fuel) + 1 by omega]
      exact anyL_first hG hr0 hLB ho (Region.noSelect_spec hs) (n + fuel) listed a w hcl (Region.free_spec ho hf) (by simpa using hr) (yieldsG_of_in hc hy)
        (ih (s + 1) _ _ (hcl.set (by simpa using hr)) hB' hK hK1)
theorem anyL_tree {Q : Act → World → Prop} (hG : ∀ x y z, G x y → G y z → G x z) (hr0 : ∀ x, G x x) (hLB : lastB .any ops L = true) (hs : Region.noSelect ops = true) (l : List Oper) (hl : l.toArray = ops) :
    ∀ (t : Tree) (listed : Array Bool) (a : Act) (w : World), ClosedL .any ops listed → t.okB ops listed = true → wpTreeL P ops L G Q l t a w → anyL P .any ops L G Q t.len listed a w
  | .done, listed, a, w, hcl, hB, h => ⟨by simpa [Tree.okB] using hB, h⟩
  | .float s n t, listed, a, w, hcl, hB, h => by
    simp only [Tree.okB, Bool.and_eq_true] at hB
    exact anyL_floats hG hr0 hLB hs l hl (wpTreeL P ops L G Q l t) t.len w n s listed a hcl hB.1 (fun a' h' hc' => anyL_tree hG hr0 hLB hs l hl t _ a' w hc' hB.2 h') h
  | .one i t, listed, a, w, hcl, hB, h => by
    simp only [Tree.okB, Bool.and_eq_true, decide_eq_true_eq] at hB
    refine ⟨fun h0 => absurd (hB.1 ▸ h0) (by simp), fun k hk => ?_⟩
    have hk' := hk
    rw [hB.1] at hk'
    have hk' := List.mem_singleton.1 hk'
    subst hk'
    exact opG_anch l hl hk (fun a w h => anyL_tree hG hr0 hLB hs l hl t _ a w (hcl.set hk) hB.2 h) h
  | .two i t j u, listed, a, w, hcl, hB, h => by
    simp only [Tree.okB, Bool.and_eq_true, decide_eq_true_eq, beq_iff_eq] at hB
    obtain ⟨⟨⟨h1, h2⟩, h3⟩, h4⟩ := hB
    refine ⟨fun h0 => absurd (h1 ▸ h0) (by simp), fun k hk => ?_⟩
    have hk' := hk
    rw [h1] at hk'
    simp at hk'
    rcases hk' with hk' | hk'
    · subst hk'
      exact opG_anch l hl hk (fun a w h => anyL_tree hG hr0 hLB hs l hl t _ a w (hcl.set hk) h3 h) h.1
    · subst hk'
      exact opG_anch l hl hk (fun a w h => by have := anyL_tree hG hr0 hLB hs l hl u _ a w (hcl.set hk) h4 h; rw [← h2] at this; exact this) h.2
  | .three i t j u m v, listed, a, w, hcl, hB, h => by
    simp only [Tree.okB, Bool.and_eq_true, decide_eq_true_eq, beq_iff_eq] at hB
    obtain ⟨⟨⟨⟨⟨h1, h2⟩, h2'⟩, h3⟩, h4⟩, h5⟩ := hB
    refine ⟨fun h0 => absurd (h1 ▸ h0) (by simp), fun k hk => ?_⟩
    have hk' := hk
    rw [h1] at hk'
    simp at hk'
    rcases hk' with hk' | hk' | hk'
    · subst hk'
      exact opG_anch l hl hk (fun a w h => anyL_tree hG hr0 hLB hs l hl t _ a w (hcl.set hk) h3 h) h.1
    · subst hk'
      exact opG_anch l hl hk (fun a w h => by have := anyL_tree hG hr0 hLB hs l hl u _ a w (hcl.set hk) h4 h; rw [← h2] at this; exact this) h.2.1
    · subst hk'
      exact opG_anch l hl hk (fun a w h => by have := anyL_tree hG hr0 hLB hs l hl v _ a w (hcl.set hk) h5 h; rw [← h2'] at this; exact this) h.2.2
/-- **A region that draws its order, walked by a plan of our own; the last operation is free.** -/
theorem wp_region_treeL (L : Nat) (t : Tree) (G : World → World → Prop) (hG : ∀ x y z, G x y → G y z → G x z) (hr0 : ∀ x, G x x) {id : Nat} {Q : Exit → Act → World → Prop} {a : Act} {w : World} {l : List Oper} (hm : P.follows .mixedOrders = true) (hLB : lastB .any l.toArray L = true) (hB : treeB l.toArray t = true)
    (h : ∀ K : Act → World → Prop, (∀ a w', Q .normal a w' → K a w') → wpTreeL P l.toArray L G K l t a w.drew) : (Code.region id l.toArray true).wp P Q a w := by
  simp only [treeB, Bool.and_eq_true, beq_iff_eq] at hB
  obtain ⟨⟨h1, h2⟩, h3⟩ := hB
  refine wp_region_any hm (wpAny_of_anyL (Q := Q .normal) (G := G) (L := L) (fun _ _ h => h) _ _ _ _ ?_)
  have := anyL_tree hG hr0 hLB h1 l rfl t _ a _ ClosedL.start h3 (h _ (fun _ _ h => h))
  rw [h2] at this
  exact this
theorem wpTreeL_done {Q : Act → World → Prop} {l : List Oper} {a : Act} {w : World} (h : Q a w) : wpTreeL P ops L G Q l .done a w := h
theorem wpTreeL_float {Q : Act → World → Prop} {l : List Oper} {a : Act} {w : World} {s n : Nat} {t : Tree}
    (h : ∀ K : Act → Prop, (∀ a', wpTreeL P ops L G Q l t a' w → K a') → wpQuiet P ops (G w) K ((l.drop s).take n) a) : wpTreeL P ops L G Q l (.float s n t) a w := h _ (fun _ h => h)
theorem wpTreeL_one {Q : Act → World → Prop} {l : List Oper} {a : Act} {w : World} {i : Nat} {t : Tree}
    (h : ∀ K : Act → World → Prop, (∀ a' w', wpTreeL P ops L G Q l t a' w' → K a' w') → wpList P ops (Anch (Gof L G i) w K) ((l.drop i).take 1) a w) : wpTreeL P ops L G Q l (.one i t) a w := h _ (fun _ _ h => h)
theorem wpTreeL_two {Q : Act → World → Prop} {l : List Oper} {a : Act} {w : World} {i j : Nat} {t u : Tree}
    (h1 : wpTreeL P ops L G Q l (.one i t) a w) (h2 : wpTreeL P ops L G Q l (.one j u) a w) : wpTreeL P ops L G Q l (.two i t j u) a w := ⟨h1, h2⟩
end
theorem anch_last {L : Nat} {G : World → World → Prop} {w w' : World} {K : Act → World → Prop} {a : Act} (h : K a w') : Anch (Gof L G L) w K .normal a w' := ⟨rfl, .inl rfl, h⟩
theorem anch_endL {L i : Nat} {G : World → World → Prop} {w w' : World} {K : Act → World → Prop} {a : Act} (hG : G w w') (h : K a w') : Anch (Gof L G i) w K .normal a w' := ⟨rfl, .inr hG, h⟩
end Go.Th

/-! ### LitsP -/
namespace Go.Th
open Go.RowKit
set_option linter.unusedSimpArgs false
section
variable {P : Program} {ops : Array Oper} {rest : List Oper} {o : Oper} {a : Act} {Q : Exit → Act → World → Prop} {w : World}
theorem wl_lit (hw : Region.wanted o (yielded ops a.tmps) = true) (T : TypeId) (n : Nat) (parts : Array (Nat × Operand)) (ho : o.op = .buildSlice T n parts) {E bytes : Nat} {z : Value} (el : El P T E z bytes) {α : Type} {f : α → Value} (hf : ∀ x, (f x).cells = #[f x]) (xs : List α) (hx : xs.length = n) (hn : 0 < n) (hs : n ≤ 16777216) {base : Nat} (hb : base ≤ w.heap.size)
    (hv : parts.toList.map (fun p => (p.1, a.eval p.2)) = ((xs.map f).zipIdx 0).map fun x => (x.2, x.1))
    (h : ∀ g w', w.heap.size ≤ g → g < w'.heap.size → OwS f w' base E (some ⟨g, 0, none⟩) n n xs → Below w.heap.size w w' → wpList P ops Q rest (a.put o.dst (.slice (some ⟨g, 0, none⟩) n n)) w') : wpList P ops Q (o :: rest) a w := by
  obtain ⟨i, hi, hz, hk, hby⟩ := el.info
  refine wl_run hw (v := .slice (some ⟨w.heap.size, 0, none⟩) n n) ?_ (h _ (w.alloc (.cells (xs.map f).toArray E)) (Nat.le_refl _) (by simp) (OwS.lit w _ n hb (by simp only [maxLen]; omega) hx rfl) (below_alloc w (Nat.le_refl _) _))
  have hv' : (Array.map (fun p => (p.1, a.eval p.2)) parts).toList = ((xs.map f).zipIdx 0).map fun x => (x.2, x.1) := by rw [Array.toList_map]; exact hv
  simp only [execOp, ho, Sem.run_bind, run_buildSlice w T E n _ _ i z el.ht hi hz (by rw [hk]; omega) (by rw [hk]; omega) (by rw [hk, hv']; exact Go.Great.fill_flat (xs.map f) _ (fun v hm => by obtain ⟨x, _, rfl⟩ := List.mem_map.1 hm; exact hf x) (by simp [hx])), Result.andThen_ok, Sem.run_pure]
theorem wl_lit0 (hw : Region.wanted o (yielded ops a.tmps) = true) (T : TypeId) (ho : o.op = .buildSlice T 0 #[]) {E bytes : Nat} {z : Value} (el : El P T E z bytes) {α : Type} (f : α → Value) {base : Nat} (hb : base ≤ w.heap.size)
    (h : ∀ g w', w.heap.size ≤ g → g < w'.heap.size → OwS f w' base E (some ⟨g, 0, none⟩) 0 0 [] → Below w.heap.size w w' → wpList P ops Q rest (a.put o.dst (.slice (some ⟨g, 0, none⟩) 0 0)) w') : wpList P ops Q (o :: rest) a w := by
  obtain ⟨i, hi, hz, hk, hby⟩ := el.info
  refine wl_run hw (v := .slice (some ⟨w.heap.size, 0, none⟩) 0 0) ?_ (h _ (w.alloc (.cells #[] E)) (Nat.le_refl _) (by simp) (OwS.lit w _ 0 hb (by simp [maxLen]) rfl rfl) (below_alloc w (Nat.le_refl _) _))
  have e : ∀ z' : Value, (Array.range 0).map (fun _ => z') = #[] := fun z' => Array.eq_empty_of_size_eq_zero (by simp)
  simp [execOp, ho, Instr.buildSlice, run_underlying el.ht, sizeOf, typeInfo, zeroValue, hi, hz, newRow, Instr.fill, e]
end
theorem bv_cells (x : UInt8) : (bv x).cells = #[bv x] := rfl
theorem iv_cells (x : Int) : (iv x).cells = #[iv x] := rfl
/-- Rows of bytes that can be read. -/
def Rws (w : World) (l : List (Option Addr × Nat × Nat × List UInt8)) : Prop := ∀ x ∈ l, RdS bv w w.heap.size x.1 x.2.1 x.2.2.1 x.2.2.2
theorem Rws.nil (w : World) : Rws w [] := by intro x hx; cases hx
theorem Rws.step {w w' : World} {l : List (Option Addr × Nat × Nat × List UInt8)} (h : Rws w l) (hb : Below w.heap.size w w') : Rws w' l := fun x hx => ((h x hx).step hb).heap
theorem Rws.cons {w : World} {l : List (Option Addr × Nat × Nat × List UInt8)} (h : Rws w l) {A : Option Addr} {n c B : Nat} {bs : List UInt8} (hr : RdS bv w B A n c bs) : Rws w ((A, n, c, bs) :: l) := fun x hx => by
  rcases List.mem_cons.1 hx with rfl | hx
  · exact hr.heap
  · exact h x hx
theorem Rws.get {w : World} {l : List (Option Addr × Nat × Nat × List UInt8)} (h : Rws w l) {A : Option Addr} {n c : Nat} {bs : List UInt8} (hx : (A, n, c, bs) ∈ l) : RdS bv w w.heap.size A n c bs := h _ hx
end Go.Th

/-! ### Open -/
namespace Go.Th
open Go.ChangeShapes Go.WideShapes Go.ChangeAt Go.RowKit
section
variable {H : Type} {enc : TypeId × Value → H} {P : Program} {w : World} {base : Nat} {spare : Nat → Bool} {held : Bool} {r : Go.Reach} {b0 : Nat} {t e : TypeId} {v : Value} {d : DataW H} {p : List MemPlace}
/-- A slice of whole numbers. -/
theorem open_slice_ints {k : IntKind} (ht : P.underlying t = some (.slice e)) (he : P.underlying e = some (.int k)) (hc : P.cellsOf e = 1) (hv : Value.okWide P w r b0 t v) (h : DataW.Trod enc P w base spare held t v d p) :
    ∃ A n c zs, v = .slice A n c ∧ RdS (Value.int k) w w.heap.size A n c zs ∧ n ≤ 9223372036854775807 ∧ ∀ z ∈ zs, (Lit.int k z).wf = true := by
  obtain ⟨a, n, c, rfl⟩ := okWide_slice ht hv
  obtain ⟨fuel, hf⟩ := h
  rcases open_ints ht he hc hf with ⟨hcs, _⟩ | ⟨x, l, c', zs, hcs, _, hl, hm, hz, _, hcell, hwz⟩
  · simp only [Value.cells, List.cons.injEq, and_true, Value.slice.injEq] at hcs
    obtain ⟨rfl, rfl, rfl⟩ := hcs
    exact ⟨none, 0, 0, [], rfl, RdS.nil _ _, by omega, by simp⟩
  · simp only [Value.cells, List.cons.injEq, and_true, Value.slice.injEq] at hcs
    obtain ⟨rfl, rfl, rfl⟩ := hcs
    have hzl : n ≤ zs.length := by rw [hz]; split <;> omega
    have hadd : ∀ j u, (zs.take n)[j]? = some u → ∃ b o, some x = some ⟨b, o, none⟩ ∧ b < w.heap.size ∧ w.cell? ⟨b, o + j, none⟩ = some (.int k u) := by
      intro j u hu
      rw [List.getElem?_take] at hu
      split at hu
      · have hjl : j < zs.length := by omega
        have hj := hcell j hjl
        have h0 := hcell 0 (by omega)
        obtain ⟨b, off, spot⟩ := x
        have hspot : spot = none := by simpa [Addr.add] using World.cell?_spot h0
        subst hspot
        have hu' : zs.getD j 0 = u := by rw [List.getD_eq_getElem?_getD, hu]; rfl
        rw [Addr.add_lit, hu'] at hj
        exact ⟨b, off, rfl, World.block_lt_of_cell? w ⟨b, off + j, none⟩ hj, hj⟩
      · cases hu
    refine ⟨some x, n, c, zs.take n, rfl, ⟨⟨fun j u hu => ?_⟩, by rw [List.length_take]; omega, hl⟩, by simp only [maxLen] at hm; omega, fun z hz => hwz z (List.mem_of_mem_take hz)⟩
    rw [List.getElem?_map] at hu
    cases hj : (zs.take n)[j]? with
    | none => rw [hj] at hu; cases hu
    | some y =>
      rw [hj] at hu
      injection hu with hu
      subst hu
      exact hadd j y hj

/-- A slice of bytes. -/
theorem open_slice_bytes (ht : P.underlying t = some (.slice e)) (he : P.underlying e = some (.int .u8)) (hc : P.cellsOf e = 1) (hv : Value.okWide P w r b0 t v) (h : DataW.Trod enc P w base spare held t v d p) :
    ∃ A n c bs, v = .slice A n c ∧ RdS bv w w.heap.size A n c bs ∧ n ≤ 9223372036854775807 := by
  obtain ⟨A, n, c, zs, hv', hr, hm, hwf⟩ := open_slice_ints ht he hc hv h
  have e : zs.map (Value.int .u8) = (zs.map fun z => UInt8.ofNat z.toNat).map bv := by
    rw [List.map_map]
    refine List.map_congr_left fun z hz => ?_
    have hb := bounds_u8 (hwf z hz)
    simp only [Function.comp, bv, UInt8.toNat_ofNat', Value.int.injEq, true_and]
    omega
  exact ⟨A, n, c, zs.map fun z => UInt8.ofNat z.toNat, hv', ⟨by rw [← e]; exact hr.rd, by rw [List.length_map]; exact hr.len, hr.cap⟩, hm⟩

/-- An array of whole numbers. -/
theorem open_array_ints {k : IntKind} {n : Nat} (ht : P.underlying t = some (.array n e)) (he : P.underlying e = some (.int k)) (hc : P.cellsOf e = 1) (hct : P.cellsOf t = n) (hv : Value.okWide P w r b0 t v) (h : DataW.Trod enc P w base spare held t v d p) :
    ∃ zs : List Int, v = .agg (zs.map (Value.int k)).toArray ∧ zs.length = n ∧ ∀ z ∈ zs, (Lit.int k z).wf = true := by
  simp only [Value.okWide, ht] at hv
  obtain ⟨cs, rfl, h1, _⟩ := hv
  obtain ⟨fuel, hf⟩ := h
  obtain ⟨xs, m, _, _, hlen, hxl, hg⟩ := DataW.trod_array ht hf
  obtain ⟨l⟩ := cs
  simp only [Value.cells] at hlen hg
  have hcells : ∀ i, i < n → ∃ z, (l.drop i).take 1 = [.int k z] ∧ (Lit.int k z).wf = true := by
    intro i hi
    have := hg i hi
    rw [hc, Nat.mul_one] at this
    have hx : ∃ y, xs[i]? = some y := ⟨xs[i]'(by omega), List.getElem?_eq_getElem (by omega)⟩
    obtain ⟨y, hy⟩ := hx
    rw [hy] at this
    obtain ⟨z, hz, _, hw⟩ := DataW.trod_int he this
    exact ⟨z, hz, hw⟩
  have key : ∀ (l : List Value) (n : Nat), (∀ i, i < n → ∃ z, (l.drop i).take 1 = [.int k z] ∧ (Lit.int k z).wf = true) → l.length = n → ∃ zs : List Int, l = zs.map (Value.int k) ∧ zs.length = n ∧ ∀ z ∈ zs, (Lit.int k z).wf = true := by
    intro l
    induction l with
    | nil => intro n _ hn; exact ⟨[], rfl, by simpa using hn, by simp⟩
    | cons u l ih =>
      intro n hn hl
      rcases n with _ | n
      · simp at hl
      obtain ⟨z, hz, hw⟩ := hn 0 (by omega)
      simp at hz
      obtain ⟨zs, h1, h2, h3⟩ := ih n (fun i hi => by simpa using hn (i + 1) (by omega)) (by simpa using hl)
      exact ⟨z :: zs, by simp [hz, h1], by simp [h2], by simpa using ⟨hw, h3⟩⟩
  obtain ⟨zs, h1, h2, h3⟩ := key l n hcells (by simpa [hct] using hlen)
  exact ⟨zs, by rw [h1], h2, h3⟩
end
end Go.Th
