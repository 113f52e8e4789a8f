/-
  What is taken of bytes that were put: as they are, with a byte more, cut, and with a bit turned.
-/
import Derived.Test.YtjambnlocjjjpaaCertfileTaken
import Derived.Test.YtjambnlocjjjpaaCertfileUnlike
namespace Go.Proofs.Ytjambnlocjjjpaa
open Go.RowKit Go.Th
set_option linter.unusedVariables false
theorem fput_mid (m : Nat) (bs : List UInt8) : ((fput m bs).take (bs.length + 4)).drop 4 = bs := by
  unfold fput fhead
  rw [List.append_assoc, List.take_append, List.take_append, be_length, List.take_of_length_le (by rw [be_length]; omega), List.drop_append, be_length]
  rw [List.drop_of_length_le (by rw [be_length]; omega)]
  simp
theorem ftk_flip (m : List UInt8) (q : Nat) (hq : q < 8 * (m.length + 8)) : ∃ g, ftk (Go.Th.flip (fput 1129468977 m) q) = ⟨0, [], 0, [], 0, g⟩ ∧ (g = 5 ∨ g = 6) := by
  obtain ⟨g, h1, h2⟩ := ftake_flip 1129468977 m q hq
  refine ⟨g, ?_, h2⟩
  unfold ftk
  rw [h1, if_pos (by rcases h2 with rfl | rfl <;> decide)]
theorem ftk_more {v d nodes : Int} {ks : List PK} {tr : List Int} (h : CIn v ks d tr nodes) (x : UInt8) : ftk (fput 1129468977 (cbody v ks d tr nodes ++ [x])) = ⟨0, [], 0, [], 0, 4⟩ := by
  rw [ftk_fput, ctake_more h (by simp)]
theorem ftk_cut {v d nodes : Int} {ks : List PK} {tr : List Int} (h : CIn v ks d tr nodes) (hm : cmayK v ks d tr nodes = 0) {q : Nat} (hq : q < (cbody v ks d tr nodes).length + 8) : (ftk ((fput 1129468977 (cbody v ks d tr nodes)).take q)).e ≠ 0 := by
  obtain ⟨b, hb⟩ : ∃ b, cbody v ks d tr nodes = b := ⟨_, rfl⟩
  have hl := fput_length 1129468977 b
  rw [hb] at hq ⊢
  unfold ftk
  by_cases h1 : (ftake 1129468977 ((fput 1129468977 b).take q)).2 ≠ 0
  · rw [if_pos h1]; exact h1
  · rw [if_neg h1]
    simp only [ne_eq, Decidable.not_not] at h1
    have hlen : ((fput 1129468977 b).take q).length = q := by rw [List.length_take]; omega
    have h8 : 8 ≤ q := by
      by_cases h8 : 8 ≤ q
      · exact h8
      · unfold ftake at h1
        rw [if_pos (by omega)] at h1
        exact absurd h1 (by decide)
    have hx : (ftake 1129468977 ((fput 1129468977 b).take q)).1 = b.take (q - 8) := by
      unfold ftake at h1 ⊢
      rw [if_neg (by omega)] at h1 ⊢
      split at h1
      · rename_i h2
        rw [if_pos h2]
        split at h1
        · rename_i h3
          rw [if_pos h3, hlen]
          unfold fput fhead
          rw [List.take_take, Nat.min_eq_left (by omega), List.append_assoc, List.take_append, be_length, List.take_of_length_le (by rw [be_length]; omega), List.drop_append, be_length, List.drop_of_length_le (by rw [be_length]; omega), List.take_append]
          simp only [Nat.sub_self, List.drop_zero, List.nil_append]
          rw [show q - 4 - 4 = q - 8 by omega, show q - 8 - b.length = 0 by omega, List.take_zero, List.append_nil]
        · exact absurd h1 (by decide)
      · exact absurd h1 (by decide)
    rw [hx, ← hb]
    exact ctake_cut h hm (k := q - 8) (by rw [hb]; omega) rfl
theorem ftk_put {v d nodes : Int} {ks : List PK} {tr : List Int} (h : CIn v ks d tr nodes) (hm : cmayK v ks d tr nodes = 0) : ftk (fput 1129468977 (cbody v ks d tr nodes)) = ⟨v, ks, d, tr, nodes, 0⟩ := by
  rw [ftk_fput, ctake_cbody h hm]
theorem MBox.size {w : World} {g nodes : Nat} {v : Int} {Ap : Option Addr} {np cp : Nat} {d : Int} {At : Option Addr} {nt ct : Nat} {ps : List Pt} {tr : List Int} (h : MBox w g nodes v Ap np cp d At nt ct ps tr) (L : Nat) (hL : (cbody v (ps.map pkey) d tr nodes).length = L) :
    Calls Try.prog 21 #[.agg #[.int .i64 v, .slice Ap np cp, .int .u32 d, .slice At nt ct], .int .i64 nodes] w (fun e w' => e = .returned (.int .i64 ((L : Int) + 8)) ∧ Below w.heap.size w w') := by
  obtain ⟨fa, hfa⟩ : ∃ f, fput 1129468977 (cbody v (ps.map pkey) d tr nodes) = f := ⟨_, rfl⟩
  have hl := fput_length 1129468977 (cbody v (ps.map pkey) d tr nodes)
  rw [hfa, hL] at hl
  have k0 := below_alloc w (Nat.le_refl _) (.cells (Cv v Ap np cp d At nt ct) 26)
  have hp := Lib.hid ((h.step k0).put fa hfa)
  clear hfa hL h
  go_enter Try.func21, Try.ntmps21
  go_wp2_with (go_at_call 11; refine (hp.out).mono ?_; rintro e w1 ⟨A1, n1, c1, rfl, o1, hb1⟩)
  have hn : (n1 : Int) = (L : Int) + 8 := by have := o1.len; omega
  go_ret
  exact ⟨by rw [← hn]; rfl, k0.trans (hb1.mono k0.size)⟩
end Go.Proofs.Ytjambnlocjjjpaa
