/-
  theseuslaw01.NumTaken: the walk.
-/
import Derived.Test.YtgiefjbdkkdaiaaNumSpec
import Derived.Test.YtgiefjbdkkdaiaaQuiet
namespace Go.Proofs.Ytgiefjbdkkdaiaa
open Go.RowKit Go.Th

theorem take_drop_comm (ys : List UInt8) (k s : Nat) : (ys.take (k + s)).drop k = (ys.drop k).take s := by
  rw [List.drop_take, Nat.add_sub_cancel_left]

/-- The loop's relation: what was taken so far. -/
def TakenRel (w : World) (s m : Nat) (ys : List UInt8) (l at_ : Value) (wr : World) : Prop :=
  ∃ (j k c : Nat) (A : Option Addr) (zs : List Int), k ≤ m ∧ j ≤ k ∧ l = .slice A j c ∧ at_ = .int .i64 k ∧ OwS iv wr w.heap.size 3 A j c zs ∧ Hid (k = j * s) ∧ Hid (∀ z ∈ zs, Fits s z) ∧ Hid (rowB s zs = ys.take k) ∧ Below w.heap.size w wr

theorem taken_step {s k : Nat} {ys : List UInt8} {zs : List Int} {V : Nat} (hV : V = val ((ys.drop k).take s)) (hl : k + s ≤ ys.length) (h1 : ∀ z ∈ zs, Fits s z) (h2 : rowB s zs = ys.take k) :
    be V s = (ys.drop k).take s ∧ V < 256 ^ s ∧ (∀ z ∈ zs ++ [(V : Int)], Fits s z) ∧ rowB s (zs ++ [(V : Int)]) = ys.take (k + s) := by
  have hlen : ((ys.drop k).take s).length = s := by rw [List.length_take, List.length_drop]; omega
  have hb : be V s = (ys.drop k).take s := by
    have := be_val ((ys.drop k).take s)
    rwa [hlen, ← hV] at this
  have hlt : V < 256 ^ s := by
    have := val_lt ((ys.drop k).take s)
    rwa [hlen, ← hV] at this
  refine ⟨hb, hlt, ?_, ?_⟩
  · intro z hz
    simp at hz
    rcases hz with hz | rfl
    · exact h1 z hz
    · exact ⟨by omega, by simpa using hlt⟩
  · have : rowB s (zs ++ [(V : Int)]) = rowB s zs ++ be V s := by simp [rowB]
    rw [this, h2, hb, ← List.take_add]

set_option maxRecDepth 100000 in
set_option maxHeartbeats 1000000 in
theorem numTaken_walk (A : Option Addr) (n c : Nat) (bs : List UInt8) {w : World} (hr : RdS bv w w.heap.size A n c bs) (hm : n ≤ 9223372036854775807) (size : Int) (hs : 0 ≤ size ∧ size ≤ 255) :
    Calls Try.prog 7 #[.slice A n c, .int .u8 size] w fun e w' => e = .returned (.bool true) ∧ Below w.heap.size w w' := by
  obtain ⟨hs0, hs1⟩ := hs
  obtain ⟨s, hs, h1, h2⟩ : ∃ s : Nat, 1 + size % 4 = (s : Int) ∧ 1 ≤ s ∧ s ≤ 4 := ⟨(1 + size % 4).toNat, by omega, by omega, by omega⟩
  go_enter Try.func7, Try.ntmps7
  go_wp2_with (first
    | (go_at_call 23; refine (shown1 _).mono ?_; rintro e w1 ⟨rfl, hb1⟩)
    | (go_at_call 26; refine (few1 _ _ _ _ hm _ _ (hr.below hb1)).mono ?_; rintro e w7 ⟨A7, c7, m, ys, rfl, hys, hm7, hr7, rfl⟩))
  have Hy := Lib.hid hr7.len
  go_loopw [8, 9] (fun l i wr => TakenRel w1 s m ys l i wr) (fun _ i _ => m - (intOf i).toNat)
  case atStart => exact ⟨0, 0, 0, _, [], by omega, by omega, rfl, rfl, OwS.lit _ _ _ (Nat.le_refl _) (by simp [maxLen]) rfl rfl, by show _ = _; omega, by show ∀ z ∈ [], _; simp, by show _ = _; simp [rowB], below_alloc _ (Nat.le_refl _) _⟩
  case round =>
    obtain ⟨j, k, c1, A1, zs, hk, hjk, rfl, rfl, how, hks, hfit, hrow, hb⟩ := hrel
    have hrk := hr7.step hb
    by_cases hlt : k + s ≤ m
    · obtain ⟨V, hV⟩ : ∃ V, V = val ((ys.drop k).take s) := ⟨_, rfl⟩
      obtain ⟨t1, t2, t3, t4⟩ := taken_step hV (by rw [Hy.out]; exact hlt) hfit.out hrow.out
      have HV := Lib.hid hV
      have T1 := Lib.hid t1
      have T2 := Lib.hid t2
      have T3 := Lib.hid t3
      have T4 := Lib.hid t4
      clear hV t1 t2 t3 t4
      go_wp2_with (first
        | (refine wl_cut_l rfl _ _ el_u8 rfl hrk _ rfl rfl k (by omega) ?_; intro A8 hr8)
        | (go_at_call 25; refine (take_yes _ _ _ s _ h1 h2 (by omega) (by omega) _ _ hr8).mono ?_; rintro e w6 ⟨rfl, rfl⟩; rw [← HV.out])
        | (go_at_call 24; refine (put_nat V s _ h1 h2 T2.out).mono ?_; rintro e w2 ⟨A2, c2, rfl, how2, hb2⟩))
      have q7 := RdC.of_drew (hrk.step hb2)
      have q2 := RdC.of_drew how2.rd
      refine wp_region_quiet_lit (by kernel_rfl) (by kernel_rfl) ?_
      repeat (first
        | (refine wq_cut_lh rfl _ _ el_u8 rfl q7 ⟨0, rfl⟩ _ _ rfl rfl rfl k (k + s) (by omega) ?_; intro A9 hr9; rw [take_drop_comm, ← T1.out] at hr9)
        | (refine wq_strS rfl _ _ (.tmp 55) rfl el_u8 Try.underlying5 Try.underlying9 rfl q2 ?_)
        | (refine wq_strS rfl _ _ (.tmp 62) rfl el_u8 Try.underlying5 Try.underlying9 rfl hr9 ?_)
        | go_big_quiet_step (fail) | quiet_step (fail))
      refine wpQuiet_nil ?_
      rintro w5 ⟨nq, hw5⟩
      have hb5 : Below w2.heap.size w2 w5 := by rw [hw5]; exact bdrew _ _
      clear hw5
      have hb25 := hb2.trans (hb5.mono hb2.size)
      have hl5 := (how.below hb25).alloc
      go_wp2_with (first
        | (refine wl_appendS rfl (.tmp 66) (.tmp 68) _ rfl el_int (f := iv) (fun _ => rfl) rfl (hl5 _) rfl (OwS.rd (OwS.lit (base := w5.heap.size) (e := 3) (xs := [(V : Int)]) w5 _ 1 (Nat.le_refl _) (by simp [maxLen]) rfl (by simp [iv]))) (by omega) (by omega) (by have h8 := hb.size; have h9 := hb25.size; simp; omega) ?_; intro A4 c4 w4 how4 _ hb4))
      go_roundw
      case rel => exact ⟨j + 1, k + s, c4, A4, _, by omega, by omega, rfl, by go_num, how4, by show _ = _; rw [Nat.add_mul, hks.out]; omega, T3.out, T4.out, (hb.trans (hb25.mono hb.size)).trans ((below_alloc w5 (by have h8 := hb.size; have h9 := hb25.size; omega) _).trans hb4)⟩
      case measure => simp [intOf]; omega
    · go_wp2_with (first
        | (refine wl_cut_l rfl _ _ el_u8 rfl hrk _ rfl rfl k (by omega) ?_; intro A8 hr8)
        | (go_at_call 25; refine (take_short _ _ _ s _ h1 h2 (by omega)).mono ?_; rintro e w6 ⟨rfl, rfl⟩)
        | (go_at_call 29; (with_reducible refine (row_any s _ _ _ _ h1 h2 (by omega) _ _ (Nat.le_refl _) how.rd).mono ?_); rintro e w6 hh; obtain ⟨A6, c6, rfl, how6, hb6⟩ := hh.1 hfit.out)
        | (go_at_call 29; refine (row_size 0 _ _ _ _ (by omega)).mono ?_; rintro e w7 ⟨rfl, rfl⟩))
      have q7 := RdC.of_drew (hrk.step hb6)
      have q6 := RdC.of_drew how6.rd
      refine wp_region_quiet_lit (by kernel_rfl) (by kernel_rfl) ?_
      repeat (first
        | (refine wq_cut_h rfl _ _ el_u8 rfl q7 ⟨0, rfl⟩ _ rfl rfl k (by omega) ?_; intro A9 hr9; rw [← hrow.out] at hr9)
        | (refine wq_strS rfl _ _ (.tmp 102) rfl el_u8 Try.underlying5 Try.underlying9 rfl q6 ?_)
        | (refine wq_strS rfl _ _ (.tmp 106) rfl el_u8 Try.underlying5 Try.underlying9 rfl hr9 ?_)
        | go_big_quiet_step (fail) | quiet_step (fail))
      refine wpQuiet_nil ?_
      rintro w5 ⟨nq, rfl⟩
      go_wp2
      go_ret
      exact ⟨rfl, next hb1 ((next hb hb6).trans (bdrew _ _))⟩
end Go.Proofs.Ytgiefjbdkkdaiaa
