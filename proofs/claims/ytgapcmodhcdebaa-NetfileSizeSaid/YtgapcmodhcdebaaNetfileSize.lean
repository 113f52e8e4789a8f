/-
  theseuslaw10.NetfileSize: the walk.
-/
import Derived.Test.YtgapcmodhcdebaaNfMade
import Derived.Deep.DeepCutAuto
namespace Go.Proofs.Ytgapcmodhcdebaa
open Go.RowKit Go.Th
set_option linter.unusedVariables false
theorem fsec_small {l : List Ru} (h : l.length ≤ 20) : (fsec 84 (lbody l)).length = 3 + 8 * l.length + (if 128 ≤ 1 + 8 * l.length then 1 else 0) := by
  have h1 := lbody_length l
  have h2 : gsize l.length = 1 := gsize_small (by omega)
  rw [fsec_length]
  rw [h2] at h1
  rw [h1]
  have h3 : gsize (1 + 8 * l.length) = if 128 ≤ 1 + 8 * l.length then 2 else 1 := by
    by_cases h : 128 ≤ 1 + 8 * l.length
    · rw [if_pos h]; unfold gsize; rw [if_neg (by omega), if_pos (by omega)]
    · rw [if_neg h]; unfold gsize; rw [if_pos (by omega)]
  rw [h3]
  split <;> omega
def NsRel (ns : List Nd) (n : Nat) (w1 : World) (s i : Value) (wr : World) : Prop :=
  ∃ k m : Nat, k ≤ n ∧ i = .int .i64 k ∧ s = .int .i64 m ∧ Hid (m = 9 + (nrows ((Nd.ls ns).take k)).length) ∧ m ≤ 9 + 200 * k ∧ wr = w1
set_option maxRecDepth 100000 in
set_option maxHeartbeats 4000000 in
theorem netfileSize_walk {w : World} (A : Option Addr) (n c : Nat) (ns : List Nd) (ni : NetIn w A n c ns) :
    Calls Try.prog 6 #[.agg #[.slice A n c]] w fun e w' => e = .returned (.bool true) ∧ Below w.heap.size w w' := by
  have K1 := Lib.hid (made_any A n c ns w ni)
  clear ni
  have k0 := below_alloc w (Nat.le_refl _) (.cells #[.slice A n c] 24)
  have b0 := Box.new w #[.slice A n c] 24
  go_enter Try.func6, Try.ntmps6
  go_upto_region 2 with (go_at_call 10; refine (shown10 _).mono ?_; rintro e w1 ⟨rfl, hb1⟩; have bx1 := b0.step hb1)
  have B1 := k0.trans (hb1.mono k0.size)
  clear k0 b0 hb1
  go_upto_region 3 with (first
    | ((with_reducible refine on_load (.tmp 1) ?_); refine wb_load rfl _ (.tmp 1) rfl st_net rfl bx1 rfl ?_)
    | (go_at_call 19; refine (K1.out _ B1).mono ?_; rintro e w2 ⟨Aa, na, ca, nsa, rfl, hra, oka, sma, nba, hb2⟩)
    | ((with_reducible refine on_alloc ?_); refine wl_newBox rfl _ rfl z_net ?_; intro ga w3 hg3 hl3 bg3 hb3)
    | ((with_reducible refine on_store_at (.tmp 4) ?_); refine wb_store (cs := #[.slice none 0 0]) (cs' := #[.slice Aa na ca]) rfl _ (.tmp 4) _ rfl st_net rfl rfl bg3 rfl rfl (by simp [Value.oneCell']) ?_; intro w4 bx4 hg4))
  have bd4 := hb3.trans (below_of_grown (B := w2.heap.size) hg4 (fun j e => by injection e with e; omega) hb3.size)
  have M4 : NBox w4 ga Aa na ca nsa := ⟨bx4, (hra.step bd4).heap, oka, sma, nba⟩
  have b14 := hb2.trans (bd4.mono hb2.size)
  have B4 := B1.trans (b14.mono B1.size)
  clear bd4 b14 bx4 hra oka sma nba hg4 hb3 bg3 hg3 hl3 hb2 B1 bx1 K1
  obtain ⟨fa, hfa⟩ : ∃ f, fput 1179206193 (nbody (Nd.ls nsa)) = f := ⟨_, rfl⟩
  have hlen : fa.length = 8 + (1 + (nrows (Nd.ls nsa)).length) := by
    have h1 := M4.rd.len
    have h2 := M4.nb
    rw [← hfa, fput_length]
    unfold nbody
    rw [List.length_append, gput_length, Nd.ls_len, h1, gsize_small (by omega)]
    omega
  have Hfa := Lib.hid hfa
  have Hlen := Lib.hid hlen
  clear hfa hlen
  go_upto_region 6 with (first
    | ((with_reducible refine on_load (.tmp 4) ?_); refine wb_load rfl _ (.tmp 4) rfl st_net rfl M4.box rfl ?_)
    | (go_at_call 11; (with_reducible refine (M4.put fa Hfa.out).mono ?_); rintro e w8 ⟨P1, p1, q1, rfl, o1, hb8⟩; have M8 := M4.step hb8))
  have B8 := B4.trans (hb8.mono B4.size)
  have hp1 := Lib.hid (o1.len.symm.trans Hlen.out)
  have hnn := M8.nb
  have hl8 := M8.rd.len
  have y8 : w8.cell? ⟨ga, 0, none⟩ = some (.slice Aa na ca) := M8.box.cell 0
  clear M4 hb8 o1
  go_wp2_with fail
  go_loopw [7, 8] (fun s i wr => NsRel nsa na w8 s i wr) (fun _ i _ => na - (intOf i).toNat)
  case atStart => exact ⟨0, 9, by omega, rfl, rfl, Lib.hid (by simp [nrows]), by omega, rfl⟩
  case round =>
    obtain ⟨k, m, hk, hi, hs, hm, hm2, hww⟩ := hrel
    subst hi hs hww
    by_cases hlt : k < na
    · obtain ⟨x, hx⟩ : ∃ x, nsa[k]? = some x := ⟨nsa[k]'(by omega), List.getElem?_eq_getElem _⟩
      have hxm := List.mem_of_getElem? hx
      have htk := nrows_take (Nd.ls_get hx)
      have hxl := (M8.rd.rk x hxm).len
      have hx20 := M8.small x hxm
      have hfs := fsec_small (l := x.l) (by omega)
      rw [hxl] at hfs
      have htl := congrArg List.length htk
      rw [List.length_append, hfs] at htl
      have Htl := Lib.hid htl
      have Hx := Lib.hid hx
      clear htk hfs htl hx hxl
      by_cases h128 : 128 ≤ 1 + 8 * x.n
      · have hd : decide ((128 : Int) ≤ 1 + 8 * (x.n : Int)) = true := decide_eq_true (by omega)
        have hT := Htl.out
        rw [if_pos h128] at hT
        have HT := Lib.hid hT
        clear hT Htl
        go_wp2_with ((with_reducible refine on_index (.tmp 26) ?_); refine wn_at rfl _ (.tmp 26) _ rfl el_row rfl rfl (by omega) (by omega) M8.rd.rd ?_; intro b1 j1 r1 hr1 hb1 hc1; have hxx : x = r1 := (by have e := hr1.out; rw [Int.toNat_natCast, Hx.out] at e; injection e); subst hxx)
        go_roundw
        case rel => exact ⟨k + 1, m + 2 + (1 + 8 * x.n) + 1, by omega, by go_num, by go_num, Lib.hid (by have := HT.out; have := hm.out; omega), by omega, rfl⟩
        case measure => simp [intOf]; omega
      · have hd : decide ((128 : Int) ≤ 1 + 8 * (x.n : Int)) = false := decide_eq_false (by omega)
        have hT := Htl.out
        rw [if_neg h128] at hT
        have HT := Lib.hid hT
        clear hT Htl
        go_wp2_with ((with_reducible refine on_index (.tmp 26) ?_); refine wn_at rfl _ (.tmp 26) _ rfl el_row rfl rfl (by omega) (by omega) M8.rd.rd ?_; intro b1 j1 r1 hr1 hb1 hc1; have hxx : x = r1 := (by have e := hr1.out; rw [Int.toNat_natCast, Hx.out] at e; injection e); subst hxx)
        go_roundw
        case rel => exact ⟨k + 1, m + 2 + (1 + 8 * x.n), by omega, by go_num, by go_num, Lib.hid (by have := HT.out; have := hm.out; omega), by omega, rfl⟩
        case measure => simp [intOf]; omega
    · obtain rfl : k = na := by omega
      have hmm := hm.out
      rw [List.take_of_length_le (by rw [Nd.ls_len]; omega)] at hmm
      obtain rfl : p1 = m := by have := hp1.out; omega
      clear hmm hm hp1
      go_wp2
      go_ret
      exact ⟨rfl, B8⟩
end Go.Proofs.Ytgapcmodhcdebaa
