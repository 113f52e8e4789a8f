/-
  theseuslaw02.GroupRow: the walk.
-/
import Derived.Test.YtgiefjbdkkdaiaaGroupBack
import Derived.Test.YtgiefjbdkkdaiaaGroupPart
namespace Go.Proofs.Ytgiefjbdkkdaiaa
open Go.RowKit Go.Th
/-- A number's lowest 28 bits. -/
def m28 (z : Int) : Nat := z.toNat % 268435456
def RowRel1 (B m : Nat) (w : World) (xs : List Nat) (b i : Value) (wr : World) : Prop :=
  ∃ (k L c : Nat) (A : Option Addr), k ≤ m ∧ L ≤ 4 * k ∧ b = .slice A L c ∧ i = .int .i64 k ∧ OwS bv wr B 5 A L c (gcat (xs.take k)) ∧ Below B w wr
def RowRel2 (m : Nat) (xs : List Nat) (at_ i : Value) : Prop :=
  ∃ (k p : Nat), k ≤ m ∧ at_ = .int .i64 p ∧ i = .int .i64 k ∧ Hid (p = (gcat (xs.take k)).length)
set_option maxRecDepth 100000 in
set_option maxHeartbeats 2000000 in
theorem groupRow_walk (A : Option Addr) (n c : Nat) (zs : List Int) {w : World} (hr : RdS (Value.int .u32) w w.heap.size A n c zs) (hm : n ≤ 9223372036854775807) (hw : ∀ z ∈ zs, 0 ≤ z ∧ z ≤ 4294967295) :
    Calls Try.prog 13 #[.slice A n c] w fun e w' => e = .returned (.bool true) ∧ Below w.heap.size w w' := by
  obtain ⟨m, hm1, hm2, hm3⟩ : ∃ m : Nat, m ≤ n ∧ m ≤ 20 ∧ (m = n ∨ m = 20) := ⟨min n 20, by omega, by omega, by omega⟩
  obtain ⟨xs, hxs⟩ : ∃ xs, xs = (zs.take m).map m28 := ⟨_, rfl⟩
  have hxl : xs.length = m := by rw [hxs, List.length_map, List.length_take, hr.len]; omega
  have hxz : ∀ k z, k < m → zs[k]? = some z → xs[k]? = some (m28 z) := fun k z hk hz => by rw [hxs, List.getElem?_map, List.getElem?_take, if_pos hk, hz]; rfl
  have Hxz := Lib.hid hxz
  have Hw := Lib.hid hw
  have hg4 := gcat_four xs
  obtain ⟨M, hM⟩ : ∃ M, (gcat xs).length = M := ⟨_, rfl⟩
  have hM80 : M ≤ 80 := by omega
  have HM := Lib.hid hM
  have Hxl := Lib.hid hxl
  clear hxz hw hxs hM hg4 hxl
  go_enter Try.func13, Try.ntmps13
  go_wp2_with (first
    | (go_at_call 32; refine (shown2 _).mono ?_; rintro e w1 ⟨rfl, hb1⟩))
  have hr1 := hr.step hb1
  go_loopw [4, 5] (fun b i wr => RowRel1 w1.heap.size m w1 xs b i wr) (fun _ i _ => 20 - (intOf i).toNat)
  case atStart => exact ⟨0, 0, 0, _, by omega, by omega, rfl, rfl, OwS.lit _ _ _ (Nat.le_refl _) (by simp [maxLen]) rfl rfl, below_alloc _ (Nat.le_refl _) _⟩
  case round =>
    obtain ⟨k, L, c1, A1, hk, hL, rfl, rfl, how, hb⟩ := hrel
    have hrk := hr1.step hb
    have hlen := hrk.len
    by_cases hlt : k < m
    · obtain ⟨z0, hz0⟩ : ∃ z0, zs[k]? = some z0 := ⟨zs[k]'(by omega), List.getElem?_eq_getElem _⟩
      have hzb := Hw.out z0 (List.mem_of_getElem? hz0)
      obtain ⟨hzb1, hzb2⟩ := hzb
      have hxk := Hxz.out k z0 hlt hz0
      obtain ⟨y, hy, hy2, hym⟩ : ∃ y : Nat, bits .and .i64 z0 268435455 = y ∧ y < 268435456 ∧ m28 z0 = y := ⟨_, mask28 z0 ⟨hzb1, hzb2⟩, by omega, rfl⟩
      rw [hym] at hxk
      have hct := Lib.hid (gcat_take hxk)
      have Hz0 := Lib.hid hz0
      obtain ⟨g, hg⟩ : ∃ g, gsize y = g := ⟨_, rfl⟩
      have hg4 : g ≤ 4 := by have := gsize_pos y; omega
      have Hg := Lib.hid hg
      clear hym hz0 hxk hg
      go_wp2_with (first
        | ((with_reducible refine on_index (.tmp 26) ?_); refine wl_at_u rfl _ _ _ rfl el_u32 rfl rfl (by omega) (by omega) hrk ?_; intro p x hx hc; have hxx : z0 = x := (by have e := hx.out; rw [Int.toNat_natCast, Hz0.out] at e; injection e); subst hxx)
        | (go_at_call 33; (with_reducible refine (gput_nat y hy2 _).mono ?_); rintro e w2 ⟨A2, c2, rfl, how2, hb2⟩; rw [Hg.out] at how2 ⊢; have how' := how.below hb2; have hs2 := Nat.le_trans hb.size hb2.size)
        | ((with_reducible refine on_append (.tmp 37) (.tmp 38) ?_); refine wl_appendS rfl (.tmp 37) (.tmp 38) _ rfl el_u8 (f := bv) (fun _ => rfl) rfl how' rfl how2.rd (by omega) (by omega) hs2 ?_; intro A4 c4 w4 how4 _ hb4))
      go_roundw
      case rel => exact ⟨k + 1, L + g, c4, A4, by omega, by omega, rfl, by go_num, (by rw [hct.out]; exact how4), (hb.trans (hb2.mono hb.size)).trans hb4⟩
      case measure => simp [intOf]; omega
    · have hkm : k = m := by omega
      have how0 : OwS bv wr w1.heap.size 5 A1 L c1 (gcat xs) := by rwa [List.take_of_length_le (by rw [Hxl.out]; omega)] at how
      have hLM : L = M := by rw [← how0.len, HM.out]
      subst hLM hkm
      have rb := how0.rd
      have hk3 : (k : Int) ≥ n ∨ ((k : Int) < n ∧ (k : Int) ≥ 20) := by omega
      have hend : ∀ p, p = (gcat (xs.take k)).length → p = L := fun p hp => by rw [hp, ← HM.out, List.take_of_length_le (by rw [Hxl.out]; exact Nat.le_refl _)]
      have Hend := Lib.hid hend
      clear hend how how0
      rcases hk3 with hk3 | ⟨hk3, hk4⟩
      all_goals
        go_wp2
        go_loopw [8, 9] (fun at_ i wr2 => RowRel2 k xs at_ i ∧ wr2 = wr) (fun _ i _ => 20 - (intOf i).toNat)
        case atStart => exact ⟨⟨0, 0, by omega, rfl, rfl, rfl⟩, rfl⟩
        case round =>
          obtain ⟨⟨j, p, hj, rfl, rfl, hp⟩, rfl⟩ := hrel
          by_cases hlt2 : j < k
          · obtain ⟨z0, hz0⟩ : ∃ z0, zs[j]? = some z0 := ⟨zs[j]'(by omega), List.getElem?_eq_getElem _⟩
            have hzb := Hw.out z0 (List.mem_of_getElem? hz0)
            obtain ⟨hzb1, hzb2⟩ := hzb
            have hxk := Hxz.out j z0 hlt2 hz0
            obtain ⟨y, hy, hy2, hym⟩ : ∃ y : Nat, bits .and .i64 z0 268435455 = y ∧ y < 268435456 ∧ m28 z0 = y := ⟨_, mask28 z0 ⟨hzb1, hzb2⟩, by omega, rfl⟩
            rw [hym] at hxk
            have hpL : p ≤ L := by have := gcat_le xs j; rw [← hp.out, HM.out] at this; exact this
            obtain ⟨g, hg⟩ : ∃ g, gsize y = g := ⟨_, rfl⟩
            have hp2 : p + g = (gcat (xs.take (j + 1))).length := by rw [gcat_take hxk, List.length_append, ← hp.out, gput_length, hg]
            have hpL2 : p + g ≤ L := by have := gcat_le xs (j + 1); rw [← hp2, HM.out] at this; exact this
            have htk : gtake ((gcat xs).drop p) = (y, g, 0) := by rw [hp.out, gcat_drop, gcat_cons hxk, gtake_gput y hy2, hg]
            have Htk := Lib.hid htk
            have Hp2 := Lib.hid hp2
            have Hz0 := Lib.hid hz0
            have hg4 : g ≤ 4 := by have := gsize_pos y; omega
            have Hg := Lib.hid hg
            clear hym hz0 hxk hg htk hp2
            go_wp2_with (first
              | ((with_reducible refine on_slice (.tmp 55) ?_); refine wl_cut_l rfl _ _ el_u8 rfl rb _ rfl rfl p (by omega) ?_; intro A5 r5)
              | (go_at_call 35; refine (gtake_any _ _ _ _ (by omega) _ _ r5).mono ?_; rintro e w4 ⟨rfl, rfl⟩; rw [Htk.out])
              | ((with_reducible refine on_index (.tmp 66) ?_); refine wl_at_u rfl _ _ _ rfl el_u32 rfl rfl (by omega) (by omega) hrk ?_; intro pa x hx hc; have hxx : z0 = x := (by have e := hx.out; rw [Int.toNat_natCast, Hz0.out] at e; injection e); subst hxx)
              | (go_at_call 38; refine (gsize_in _ _ hy2).mono ?_; rintro e w4 ⟨rfl, rfl⟩; rw [Hg.out]))
            go_roundw
            case rel => exact ⟨⟨j + 1, p + g, by omega, by go_num, by go_num, Hp2.out⟩, by trivial⟩
            case measure => simp [intOf]; omega
          · have hjk : j = k := by omega
            subst hjk
            have hpL := Hend.out p hp.out
            subst hpL
            go_wp2
            go_ret
            exact ⟨rfl, hb1.trans (hb.mono hb1.size)⟩
end Go.Proofs.Ytgiefjbdkkdaiaa
