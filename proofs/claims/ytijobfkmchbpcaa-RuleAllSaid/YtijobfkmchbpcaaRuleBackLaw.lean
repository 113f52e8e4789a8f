/-
  What RuleBack says: a rule's bytes, there and back; and law07's few.
-/
import Derived.Test.YtijobfkmchbpcaaRuleShown
import Derived.Test.YtijobfkmchbpcaaTableLessLaw
namespace Go.Proofs.Ytijobfkmchbpcaa
open Go.RowKit Go.Th
set_option linter.unusedVariables false
theorem fit1_all {r : Ru} (ha : 0 ≤ r.a ∧ r.a < 4294967296) (hn : 0 ≤ r.n ∧ r.n < 256) (hc : 0 ≤ r.act ∧ r.act < 256) (hx : 0 ≤ r.next ∧ r.next < 65536) : ∀ j, j < 4 → Fit1 r j := by
  intro j hj
  have : j = 0 ∨ j = 1 ∨ j = 2 ∨ j = 3 := by omega
  rcases this with rfl | rfl | rfl | rfl
  · exact ha
  · exact hn
  · exact hc
  · exact hx
theorem fit1_fit (r : Ru) (h : r.Ok) : ∀ j, j < 4 → Fit1 (r.fit 256) j := by
  have hl := lead_bd r.a (r.n % 33) h.a
  refine fit1_all ⟨hl.1, ?_⟩ ⟨?_, ?_⟩ ⟨?_, ?_⟩ ⟨?_, ?_⟩
  · show lead r.a (r.n % 33) < 4294967296; omega
  · show 0 ≤ r.n % 33; omega
  · show r.n % 33 < 256; omega
  · show 0 ≤ (if r.act % 3 = 0 then 3 else r.act % 3); split <;> omega
  · show (if r.act % 3 = 0 then 3 else r.act % 3) < 256; split <;> omega
  · show 0 ≤ (if r.act % 3 = 1 then r.next % 256 else 0); split <;> omega
  · show (if r.act % 3 = 1 then r.next % 256 else 0) < 65536; split <;> omega
theorem fit1_rtk (bs : List UInt8) : ∀ j, j < 4 → Fit1 (rtk bs) j := by
  have v4 := val_lt (bs.take 4)
  have v1 := val_lt ((bs.drop 4).take 1)
  have v2 := val_lt ((bs.drop 5).take 1)
  have v3 := val_lt ((bs.drop 6).take 2)
  have p : ∀ (l : List UInt8) (k : Nat), (256 : Nat) ^ (l.take k).length ≤ 256 ^ k := fun l k => Nat.pow_le_pow_right (by decide) (by rw [List.length_take]; omega)
  have p4 := p bs 4
  have p1 := p (bs.drop 4) 1
  have p2 := p (bs.drop 5) 1
  have p3 := p (bs.drop 6) 2
  refine fit1_all ⟨?_, ?_⟩ ⟨?_, ?_⟩ ⟨?_, ?_⟩ ⟨?_, ?_⟩ <;> (unfold rtk; simp only; omega)
theorem pre_four (r : Ru) : pre r 4 = be r.a.toNat 4 ++ be r.n.toNat 1 ++ be r.act.toNat 1 ++ be r.next.toNat 2 := rfl
theorem rtk_pre (r : Ru) (h : ∀ j, j < 4 → Fit1 r j) (rest : List UInt8) : rtk (pre r 4 ++ rest) = r := by
  have h0 : 0 ≤ r.a ∧ r.a < 4294967296 := h 0 (by omega)
  have h1 : 0 ≤ r.n ∧ r.n < 256 := h 1 (by omega)
  have h2 : 0 ≤ r.act ∧ r.act < 256 := h 2 (by omega)
  have h3 : 0 ≤ r.next ∧ r.next < 65536 := h 3 (by omega)
  have e : pre r 4 ++ rest = be r.a.toNat 4 ++ (be r.n.toNat 1 ++ (be r.act.toNat 1 ++ (be r.next.toNat 2 ++ rest))) := by
    rw [pre_four]; simp only [List.append_assoc]
  have d4 : (pre r 4 ++ rest).drop 4 = be r.n.toNat 1 ++ (be r.act.toNat 1 ++ (be r.next.toNat 2 ++ rest)) := by
    rw [e]; exact List.drop_left' (be_length _ _)
  have d5 : (pre r 4 ++ rest).drop 5 = be r.act.toNat 1 ++ (be r.next.toNat 2 ++ rest) := by
    rw [show (5 : Nat) = 4 + 1 from rfl, ← List.drop_drop, d4]; exact List.drop_left' (be_length _ _)
  have d6 : (pre r 4 ++ rest).drop 6 = be r.next.toNat 2 ++ rest := by
    rw [show (6 : Nat) = 5 + 1 from rfl, ← List.drop_drop, d5]; exact List.drop_left' (be_length _ _)
  have t0 : (pre r 4 ++ rest).take 4 = be r.a.toNat 4 := by rw [e]; exact List.take_left' (be_length _ _)
  have t1 : ((pre r 4 ++ rest).drop 4).take 1 = be r.n.toNat 1 := by rw [d4]; exact List.take_left' (be_length _ _)
  have t2 : ((pre r 4 ++ rest).drop 5).take 1 = be r.act.toNat 1 := by rw [d5]; exact List.take_left' (be_length _ _)
  have t3 : ((pre r 4 ++ rest).drop 6).take 2 = be r.next.toNat 2 := by rw [d6]; exact List.take_left' (be_length _ _)
  unfold rtk
  rw [t0, t1, t2, t3, val_be 4 _ (by omega), val_be 1 _ (by omega), val_be 1 _ (by omega), val_be 2 _ (by omega)]
  obtain ⟨a, n, act, next⟩ := r
  simp only at h0 h1 h2 h3
  simp only [Ru.mk.injEq]
  omega
theorem pre_rtk {bs : List UInt8} (h : 8 ≤ bs.length) : pre (rtk bs) 4 = bs.take 8 := by
  have e : ∀ (l : List UInt8) (k : Nat), k ≤ l.length → be (val (l.take k)) k = l.take k := fun l k hk => by
    have := be_val (l.take k)
    rwa [List.length_take, Nat.min_eq_left hk] at this
  rw [pre_four]
  show be (val (bs.take 4) : Int).toNat 4 ++ be (val ((bs.drop 4).take 1) : Int).toNat 1 ++ be (val ((bs.drop 5).take 1) : Int).toNat 1 ++ be (val ((bs.drop 6).take 2) : Int).toNat 2 = _
  rw [Int.toNat_natCast, Int.toNat_natCast, Int.toNat_natCast, Int.toNat_natCast, e bs 4 (by omega), e (bs.drop 4) 1 (by rw [List.length_drop]; omega), e (bs.drop 5) 1 (by rw [List.length_drop]; omega), e (bs.drop 6) 2 (by rw [List.length_drop]; omega)]
  rw [show (8 : Nat) = 4 + (1 + (1 + 2)) from rfl, List.take_add, List.take_add, List.drop_drop, List.take_add, List.drop_drop]
  simp only [List.append_assoc]
/-- The place of few's result. -/
def fewB (A : Option Addr) (n c : Nat) : Option Addr := if n ≤ 30 then A else cutA A 0 c
theorem fewRB {A : Option Addr} {n c N : Nat} (hN : min n 30 = N) {w : World} {B : Nat} {bs : List UInt8} (hr : RdS bv w B A n c bs) : RdS bv w B (fewB A n c) N c (bs.take 30) := by
  have hc := hr.cap
  unfold fewB
  split
  · rename_i h
    have e : N = n := by omega
    rw [e, List.take_of_length_le (by rw [hr.len]; omega)]
    exact hr
  · have e : N = 30 := by omega
    rw [e]
    exact hr.cut 0 30 c (by omega) (by omega) (by omega)
theorem few7 (A : Option Addr) (n c N : Nat) (hN : min n 30 = N) (w : World) (hm : n ≤ 9223372036854775807) (B : Nat) (bs : List UInt8) (hr : RdS bv w B A n c bs) :
    Calls Try.prog 24 #[.slice A n c] w fun e w' => e = .returned (.slice (fewB A n c) N c) ∧ w = w' := by
  have hc := hr.cap
  have HN := Lib.hid hN
  by_cases h : n ≤ 30
  · have e : fewB A n c = A := if_pos h
    have e2 : N = n := by omega
    rw [e]
    subst e2
    clear hN
    go_enter Try.func24, Try.ntmps24
    go_wp2
    go_ret
    exact ⟨rfl, rfl⟩
  · have e : fewB A n c = cutA A 0 c := if_neg h
    have e2 : N = 30 := by omega
    rw [e, e2]
    clear hN
    go_enter Try.func24, Try.ntmps24
    go_wp2_with (refine wl_cut_hx rfl _ _ el_u8 rfl _ rfl rfl 30 (by omega) hc ?_)
    go_ret
    exact ⟨rfl, rfl⟩
theorem take_pre (A : Option Addr) (n c : Nat) (r : Ru) (hf : ∀ j, j < 4 → Fit1 r j) (rest : List UInt8) (hl : rest.length ≤ 1000) (w : World) (hr : RdS bv w w.heap.size A n c (pre r 4 ++ rest)) : Calls Try.prog 23 #[.slice A n c] w fun e w' => e = .returned (.tuple #[.agg #[.int .u32 r.a, .int .i64 r.n, .int .i64 r.act, .int .i64 r.next], .int .i64 0]) ∧ Below w.heap.size w w' := by
  have hn := hr.len
  rw [List.length_append, pre_length] at hn
  have := ruleTake A n c w _ hr (by omega) (by omega)
  rw [rtk_pre r hf] at this
  exact this
theorem put_fits (r : Ru) (h : 0 ≤ r.a ∧ r.a ≤ 4294967295) (hf : ∀ j, j < 4 → Fit1 r j) (p : List UInt8) (hp : pre r 4 = p) (w : World) : Calls Try.prog 22 #[.agg #[.int .u32 r.a, .int .i64 r.n, .int .i64 r.act, .int .i64 r.next]] w fun e w' => ∃ A c, e = .returned (.tuple #[.slice A 8 c, .int .i64 0]) ∧ OwS bv w' w.heap.size 5 A 8 c p ∧ Below w.heap.size w w' := by
  refine (rulePut r h w).mono fun e w' hh => ?_
  obtain ⟨A, n, c, rfl, how, hb⟩ := hh.1 hf
  have hn : n = 8 := by rw [← how.len, pre_length]
  subst hn
  rw [hp] at how
  exact ⟨A, c, rfl, how, hb⟩
end Go.Proofs.Ytijobfkmchbpcaa
