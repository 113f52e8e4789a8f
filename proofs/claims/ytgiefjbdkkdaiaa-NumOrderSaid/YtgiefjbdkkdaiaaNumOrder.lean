/-
  theseuslaw01.NumOrder: the walk.
-/
import Derived.Test.YtgiefjbdkkdaiaaNumLaw
namespace Go.Proofs.Ytgiefjbdkkdaiaa
open Go.RowKit Go.Th

theorem numOrder_walk (n : Int) (hn : 0 ≤ n ∧ n ≤ 4294967295) (l : Int) (hl : 0 ≤ l ∧ l ≤ 4294967295) (size : Int) (hs : 0 ≤ size ∧ size ≤ 255) {w : World} :
    Calls Try.prog 4 #[.int .u32 n, .int .u32 l, .int .u8 size] w fun e w' => e = .returned (.bool true) ∧ Below w.heap.size w w' := by
  obtain ⟨hn0, hn1⟩ := hn
  obtain ⟨hl0, hl1⟩ := hl
  obtain ⟨hs0, hs1⟩ := hs
  obtain ⟨s, hs, h1, h2⟩ : ∃ s : Nat, 1 + size % 4 = (s : Int) ∧ 1 ≤ s ∧ s ≤ 4 := ⟨(1 + size % 4).toNat, by omega, by omega, by omega⟩
  obtain ⟨x, hx, hx1⟩ : ∃ x : Nat, bits .and .i64 n (wrap64 (wrap64 (2 ^ (8 * s)) - 1)) = (x : Int) ∧ x < 256 ^ s := ⟨n.toNat % 256 ^ s, and_mask n hn0 (by omega) s h1 h2, Nat.mod_lt _ (Nat.pow_pos (by omega))⟩
  obtain ⟨y, hy, hy1⟩ : ∃ y : Nat, bits .and .i64 l (wrap64 (wrap64 (2 ^ (8 * s)) - 1)) = (y : Int) ∧ y < 256 ^ s := ⟨l.toNat % 256 ^ s, and_mask l hl0 (by omega) s h1 h2, Nat.mod_lt _ (Nat.pow_pos (by omega))⟩
  have hx4 : x < 256 ^ 4 := Nat.lt_of_lt_of_le hx1 (Nat.pow_le_pow_right (by omega) h2)
  have Hx1 := Lib.hid hx1
  have Hy1 := Lib.hid hy1
  have Hx4 := Lib.hid hx4
  clear hx1 hy1 hx4
  go_enter Try.func4, Try.ntmps4
  go_wp2_with (first
    | (go_at_call 23; refine (shown1 _).mono ?_; rintro e w1 ⟨rfl, hb1⟩)
    | (go_at_call 24; (with_reducible refine (put_nat x s _ h1 h2 Hx1.out).mono ?_); rintro e w2 ⟨A2, c2, rfl, how2, hb2⟩; have HB2 := hb1.trans (hb2.mono hb1.size))
    | (go_at_call 24; (with_reducible refine (put_nat y s _ h1 h2 Hy1.out).mono ?_); rintro e w3 ⟨A3, c3, rfl, how3, hb3⟩; have HB3 := HB2.trans (hb3.mono HB2.size))
    | (go_at_call 24; refine (put_nat x 4 _ (by omega) (by omega) Hx4.out).mono ?_; rintro e w4 ⟨A4, c4, rfl, how4, hb4⟩; have HB4 := HB3.trans (hb4.mono HB3.size)))
  have f1 := less_be x y s Hx1.out Hy1.out
  have f2 := beq_be' x y s Hx1.out Hy1.out
  have f3 : (⟨#[0, 0, 0]⟩ : ByteArray).extract 0 (4 - s) = ⟨(List.replicate (4 - s) 0).toArray⟩ := by
    have : s = 1 ∨ s = 2 ∨ s = 3 ∨ s = 4 := by omega
    rcases this with rfl | rfl | rfl | rfl <;> rfl
  have f4 : be x 4 = List.replicate (4 - s) 0 ++ be x s := by
    have := be_wide x s (4 - s) Hx1.out
    rwa [Nat.sub_add_cancel h2] at this
  have f5 : ∀ k, (be k s).length = s := fun k => be_length s k
  have f6 : ((⟨Array.replicate (4 - s) 0⟩ : ByteArray) ++ ⟨(be x s).toArray⟩).toList = List.replicate (4 - s) 0 ++ be x s := by
    rw [← List.toArray_replicate, ByteArray.mk_append_mk]
    simp
  have hs2 := fun k => run_str (P := Try.prog) Try.underlying23 Try.underlying5 Try.underlying9 how2.rd.len ((how2.rd.step (hb3.trans (hb4.mono hb3.size))).drewN k).rd (c := c2)
  have hs3 := fun k => run_str (P := Try.prog) Try.underlying23 Try.underlying5 Try.underlying9 how3.rd.len ((how3.rd.step hb4).drewN k).rd (c := c3)
  have hs4 := fun k => run_str (P := Try.prog) Try.underlying23 Try.underlying5 Try.underlying9 how4.rd.len (how4.rd.drewN k).rd (c := c4)
  go_quiet (fail)
  go_wp2
  go_ret
  exact ⟨rfl, HB4.trans ⟨rfl, rfl, rfl, Nat.le_refl _, fun _ _ => rfl⟩⟩
end Go.Proofs.Ytgiefjbdkkdaiaa
