/-
  theseustop.few; what tool.Check tells, as numbers.
-/
import Derived.Test.YtjandnidljbkoaaGreatSTpOf
namespace Go.Proofs.YtjandnidljbkoaaGreat
open Go.RowKit Go.Th
set_option linter.unusedVariables false
theorem tfew_any (A : Option Addr) (n c : Nat) (bs : List UInt8) (w : World) (hm : n ≤ 9223372036854775807) (B : Nat) (hr : RdS bv w B A n c bs) :
    Calls Tryz.prog 9 #[.slice A n c] w (fun e w' => ∃ A' c', e = .returned (.slice A' (bs.take 500).length c') ∧ RdS bv w B A' (bs.take 500).length c' (bs.take 500) ∧ w' = w) := by
  have hlen := hr.len
  by_cases h : n ≤ 500
  · have e : (bs.take 500).length = n := by rw [List.length_take]; omega
    have e2 : bs.take 500 = bs.take n := by rw [List.take_of_length_le (by omega), List.take_of_length_le (by omega)]
    rw [e, e2]
    have hmin : decide ((500 : Int) < n) = false := decide_eq_false (by omega)
    have hmin2 : decide ((n : Int) ≤ 500) = true := decide_eq_true (by omega)
    clear e e2 hlen
    go_enter Tryz.func9, Tryz.ntmps9
    go_wp2_with ((with_reducible refine on_slice (.tmp 3) ?_); refine wl_cut_h rfl _ (.tmp 3) el_u8 rfl hr _ rfl rfl n ⟨by first | rfl | omega, by omega⟩ ?_; intro A3 r3)
    go_ret
    exact ⟨A3, c, rfl, r3, rfl⟩
  · have e : (bs.take 500).length = 500 := by rw [List.length_take]; omega
    rw [e]
    clear e hlen
    go_enter Tryz.func9, Tryz.ntmps9
    go_wp2_with ((with_reducible refine on_slice (.tmp 3) ?_); refine wl_cut_h rfl _ (.tmp 3) el_u8 rfl hr _ rfl rfl 500 ⟨by first | rfl | omega, by omega⟩ ?_; intro A3 r3)
    go_ret
    exact ⟨A3, c, rfl, r3, rfl⟩
theorem chk_ways {tn : List (List Ru) × Int} {tc : CR} {w : World} {e : Ending} {w' : World} (h : ChkR tn tc w e w') :
    Below w.heap.size w w' ∧ ∃ x c : Int, e = .returned (.agg #[.int .i64 x, .int .i64 c]) ∧ 0 ≤ x ∧ x ≤ 2 ∧ ((x = 0 ∧ c ≠ 0) ∨ (c = 0 ∧ x = tc.v ∧ tn.2 = 0 ∧ tc.e = 0 ∧ ((x = 1 ∧ tc.v = 1) ∨ (x = 2 ∧ tc.v = 2)) ∧ CheckK tn.1 tc)) := by
  obtain ⟨h1, ⟨h2, h3⟩ | ⟨c, h2, h3, h4⟩⟩ := h
  · have hv : tc.v = 1 ∨ tc.v = 2 := by rcases h3.2.2.2 with ⟨h, _⟩ | ⟨h, _⟩ <;> simp [h]
    exact ⟨h1, tc.v, 0, h2, by omega, by omega, .inr ⟨rfl, rfl, h3.1, h3.2.1, by omega, h3.2.2.2⟩⟩
  · exact ⟨h1, 0, c, h2, by omega, by omega, .inl ⟨rfl, h3⟩⟩
theorem told_free {fb cb : List UInt8} (hn : (ntk fb).2 = 0) (hc : (ftk cb).e = 0) (hv : (ftk cb).v = 1) (hk : CheckK (ntk fb).1 (ftk cb)) {a : Int} (ha : 0 ≤ a ∧ a ≤ 4294967295) : ¬ ∃ u L, Cyc (hof (ntk fb).1 a) (gof (ntk fb).1 a) u L := by
  rintro ⟨u, L, c⟩
  have h1 := ntk_ok hn
  obtain ⟨h2, h3⟩ := ftk_ok hc
  rw [hv] at h2 h3
  have h4 := cmay_free h3
  rcases hk with ⟨_, hk⟩ | ⟨hk, _⟩
  · have hm : meetF 0 ((ftk cb).ks.map ptOf) = true := by
      have := h4.2.2.2.1
      unfold pmeet at this
      split at this
      · assumption
      · cases this
    refine free_sure ⟨h1.may, h1.ok⟩ hm (fun p hp => ?_) (fun p hp => ?_) ha u L c
    · obtain ⟨q, hq, rfl⟩ := List.mem_map.1 hp
      have hin : ∀ q ∈ (ftk cb).ks, PKin (ftk cb).nodes q := by
        rcases h2.kind with ⟨_, _, _, _, h⟩ | ⟨h, _⟩
        · exact h
        · omega
      have := hin q hq
      exact ⟨this.1, this.2.1⟩
    · obtain ⟨q, hq, rfl⟩ := List.mem_map.1 hp
      exact hk q hq
  · omega
theorem told_loop {fb cb : List UInt8} (hv : (ftk cb).v = 2) (hk : CheckK (ntk fb).1 (ftk cb)) : ∃ u L, Cyc (hof (ntk fb).1 (ftk cb).d) (gof (ntk fb).1 (ftk cb).d) u L := by
  rcases hk with ⟨h, _⟩ | ⟨_, hk⟩
  · omega
  · obtain ⟨u, _, c⟩ := trace_cyc hk
    exact ⟨u, _, c⟩
end Go.Proofs.YtjandnidljbkoaaGreat
