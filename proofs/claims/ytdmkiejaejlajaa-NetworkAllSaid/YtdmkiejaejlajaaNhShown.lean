/-
  theseuslaw09.shown.
-/
import Derived.Test.YtdmkiejaejlajaaNhEx
namespace Go.Proofs.Ytdmkiejaejlajaa
open Go.RowKit Go.Th
set_option linter.unusedVariables false
set_option maxRecDepth 100000 in
set_option maxHeartbeats 4000000 in
theorem shown9 (w : World) : Calls Try.prog 10 #[] w fun e w' => e = .returned (.bool true) ∧ Below w.heap.size w w' := by
  obtain ⟨w1, hw1⟩ : ∃ W, w.alloc (.cells #[.int .u32 0, .int .i64 0, .int .i64 1, .int .i64 2] 40) = W := ⟨_, rfl⟩
  obtain ⟨w2, hw2⟩ : ∃ W, w1.alloc (.cells #[.int .u32 0, .int .i64 0, .int .i64 1, .int .i64 1] 40) = W := ⟨_, rfl⟩
  obtain ⟨w3, hw3⟩ : ∃ W, w2.alloc (.cells #[.int .u32 0, .int .i64 0, .int .i64 1, .int .i64 1] 40) = W := ⟨_, rfl⟩
  have k1 : Below w.heap.size w w1 := by rw [← hw1]; exact below_alloc w (Nat.le_refl _) _
  have k2 : Below w1.heap.size w1 w2 := by rw [← hw2]; exact below_alloc w1 (Nat.le_refl _) _
  have k3 : Below w2.heap.size w2 w3 := by rw [← hw3]; exact below_alloc w2 (Nat.le_refl _) _
  have o1 : OwM Ru.cs 4 w1 w.heap.size 40 (some ⟨w.heap.size, 0, none⟩) 1 1 [⟨0, 0, 1, 2⟩] := by rw [← hw1]; exact OwM.lit Ru.cs_length w #[.int .u32 0, .int .i64 0, .int .i64 1, .int .i64 2] 1 (Nat.le_refl _) (by simp [maxLen]) rfl rfl
  have o2 : OwM Ru.cs 4 w2 w1.heap.size 40 (some ⟨w1.heap.size, 0, none⟩) 1 1 [⟨0, 0, 1, 1⟩] := by rw [← hw2]; exact OwM.lit Ru.cs_length w1 #[.int .u32 0, .int .i64 0, .int .i64 1, .int .i64 1] 1 (Nat.le_refl _) (by simp [maxLen]) rfl rfl
  have o3 : OwM Ru.cs 4 w3 w2.heap.size 40 (some ⟨w2.heap.size, 0, none⟩) 1 1 [⟨0, 0, 1, 1⟩] := by rw [← hw3]; exact OwM.lit Ru.cs_length w2 #[.int .u32 0, .int .i64 0, .int .i64 1, .int .i64 1] 1 (Nat.le_refl _) (by simp [maxLen]) rfl rfl
  obtain ⟨ns, hns⟩ : ∃ ns : List Nd, ns = [⟨some ⟨w.heap.size, 0, none⟩, 1, 1, [⟨0, 0, 1, 2⟩]⟩, ⟨some ⟨w1.heap.size, 0, none⟩, 1, 1, [⟨0, 0, 1, 1⟩]⟩, ⟨some ⟨w2.heap.size, 0, none⟩, 1, 1, [⟨0, 0, 1, 1⟩]⟩] := ⟨_, rfl⟩
  obtain ⟨w4, hw4⟩ : ∃ W, w3.alloc (.cells #[.slice (some ⟨w.heap.size, 0, none⟩) 1 1, .slice (some ⟨w1.heap.size, 0, none⟩) 1 1, .slice (some ⟨w2.heap.size, 0, none⟩) 1 1] 33) = W := ⟨_, rfl⟩
  have k4 : Below w3.heap.size w3 w4 := by rw [← hw4]; exact below_alloc w3 (Nat.le_refl _) _
  have o4 : OwS sv w4 w3.heap.size 33 (some ⟨w3.heap.size, 0, none⟩) 3 3 ns := by rw [← hw4, hns]; exact OwS.lit w3 #[.slice (some ⟨w.heap.size, 0, none⟩) 1 1, .slice (some ⟨w1.heap.size, 0, none⟩) 1 1, .slice (some ⟨w2.heap.size, 0, none⟩) 1 1] 3 (Nat.le_refl _) (by simp [maxLen]) rfl rfl
  have hls : Nd.ls ns = exN := by rw [hns]; rfl
  have hr : NRd w4 w4.heap.size (some ⟨w3.heap.size, 0, none⟩) 3 3 ns := ⟨o4.rd, fun x hx => by
    rw [hns] at hx
    simp at hx
    rcases hx with rfl | rfl | rfl
    · exact (((o1.below k2).below k3).below k4).rd
    · exact ((o2.below k3).below k4).rd
    · exact (o3.below k4).rd, fun x hx r hr => by
    rw [hns] at hx
    simp at hx
    rcases hx with rfl | rfl | rfl <;> (simp at hr; subst hr; refine ⟨?_, ?_, ?_, ?_⟩ <;> simp)⟩
  have hxn : ∀ x ∈ ns, x.n ≤ 9223372036854775807 := fun x hx => by
    rw [hns] at hx
    simp at hx
    rcases hx with rfl | rfl | rfl <;> simp
  have K1 := Lib.hid (loop_any (some ⟨w3.heap.size, 0, none⟩) 3 3 ns 7 w4 (by omega) (by omega) hxn hr)
  have K4 : Below w.heap.size w w4 := ((k1.trans (k2.mono k1.size)).trans (k3.mono (by have := k1.size; have := k2.size; omega))).trans (k4.mono (by have := k1.size; have := k2.size; have := k3.size; omega))
  have Hls := Lib.hid hls
  clear hns hr hxn hls o1 o2 o3 o4 k1 k2 k3 k4
  go_enter Try.func10, Try.ntmps10
  go_upto_region 2 with (go_at_call 15; refine (K1.out).mono ?_; rintro e w5 ⟨Al, nl, cl, l, ok, rfl, rl, hb5, hcs⟩)
  have hl : ok = true ∧ l = [1] := by
    rcases hcs with ⟨_, _, h⟩ | ⟨h1, best, M, h2, h3, h4, h5, h6, h7, h8⟩
    · rw [Hls.out] at h
      exact absurd ex_cyc1 (h 1 1 (by omega) (by omega))
    · rw [Hls.out] at h5 h6 h7 h8
      exact ⟨h1, by rw [h7]; exact ex_only h2 h5 h6 (h8 1 1 (by omega) (by omega) ex_cyc1)⟩
  obtain ⟨rfl, rfl⟩ := hl
  have hnl := rl.len
  have K5 := K4.trans (hb5.mono K4.size)
  clear hcs Hls K1 hb5 K4
  have Hnl := Lib.hid hnl
  clear hnl
  have k6 := below_alloc w5 (Nat.le_refl _) (.cells #[.int .i64 1] 3)
  have o6 : OwS iv (w5.alloc (.cells #[.int .i64 1] 3)) w5.heap.size 3 (some ⟨w5.heap.size, 0, none⟩) 1 1 [1] := OwS.lit w5 #[.int .i64 1] 1 (Nat.le_refl _) (by simp [maxLen]) rfl rfl
  have K6 := K5.trans (k6.mono K5.size)
  go_wp2_with (go_at_call 16; refine (row_any _ _ _ _ _ _ [1] [1] _ (by have := Hnl.out; simp at this; omega) (by omega) _ _ (rl.step k6) o6.rd true (Lib.hid rfl)).mono ?_; rintro e w7 ⟨rfl, hb7⟩)
  go_ret
  exact ⟨rfl, K6.trans (hb7.mono K6.size)⟩
end Go.Proofs.Ytdmkiejaejlajaa
