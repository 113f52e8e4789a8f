/-
  Laid together by wip/tools/merge.py out of: NhStep, OpenNet. ! ### NhStep ! ### OpenNet
-/
import Derived.Deep.DeepCutAuto
import Derived.Deep.Slices
import Derived.Deep.Fields
import Derived.Lib.SmallJoins
import Derived.Test.YtjandnidljbkoaaGreatSTpMa
import Derived.Test.YtjandnidljbkoaaGreatSTpMb
import Derived.Test.YtjandnidljbkoaaGreatSTpMc
import Derived.Test.YtjandnidljbkoaaGreatSTpMd
namespace Go.Proofs.YtjandnidljbkoaaGreat
open Go.RowKit Go.Th
set_option linter.unusedVariables false
def nstep (ls : List (List Ru)) (a v : Int) : Int × Bool := if 0 ≤ v ∧ v < (ls.length : Int) then tnext (ls.getD v.toNat []) a else (0, false)
theorem nstep_at {ns : List Nd} {x : Nd} {k : Nat} (a : Int) (h : ns[k]? = some x) : nstep (Nd.ls ns) a (k : Int) = tnext x.l a := by
  have hl := (List.getElem?_eq_some_iff.1 h).1
  unfold nstep
  rw [if_pos (by rw [Nd.ls_len]; omega), Int.toNat_natCast, List.getD_eq_getElem?_getD, Nd.ls_get h]
  rfl
theorem nstep_off {ls : List (List Ru)} {a v : Int} (h : ¬ (0 ≤ v ∧ v < (ls.length : Int))) : nstep ls a v = (0, false) := if_neg h
theorem is_any (A : Option Addr) (n c : Nat) (v : Int) (w : World) (b : Bool) (hb : Hid (decide (0 ≤ v ∧ v < (n : Int)) = b)) :
    Calls Tryz.prog 65 #[.agg #[.slice A n c], .int .i64 v] w (RetB (.bool b) w) := by
  have k0 := below_alloc w (Nat.le_refl _) (.cells #[.slice A n c] 34)
  have b0 := Box.new w #[.slice A n c] 34
  have y0 : (w.alloc (.cells #[.slice A n c] 34)).cell? ⟨w.heap.size, 0, none⟩ = some (.slice A n c) := b0.cell 0
  have hb2 := hb.out
  by_cases h0 : 0 ≤ v
  · have hd : decide ((0 : Int) ≤ v) = true := decide_eq_true h0
    by_cases h1 : v < (n : Int)
    · have hd1 : decide (v < (n : Int)) = true := decide_eq_true h1
      obtain rfl : true = b := by rw [← hb2]; exact (decide_eq_true ⟨h0, h1⟩).symm
      clear hb hb2
      go_enter Tryz.func65, Tryz.ntmps65
      go_wp2
      go_ret
      exact ⟨rfl, k0⟩
    · have hd1 : decide (v < (n : Int)) = false := decide_eq_false h1
      obtain rfl : false = b := by rw [← hb2]; exact (decide_eq_false (fun h => h1 h.2)).symm
      clear hb hb2
      go_enter Tryz.func65, Tryz.ntmps65
      go_wp2
      go_ret
      exact ⟨rfl, k0⟩
  · have hd : decide ((0 : Int) ≤ v) = false := decide_eq_false h0
    obtain rfl : false = b := by rw [← hb2]; exact (decide_eq_false (fun h => h0 h.1)).symm
    clear hb hb2
    go_enter Tryz.func65, Tryz.ntmps65
    go_wp2
    go_ret
    exact ⟨rfl, k0⟩
set_option maxRecDepth 100000 in
set_option maxHeartbeats 2000000 in
theorem step_any (A : Option Addr) (n c : Nat) (ns : List Nd) (a v : Int) (w : World) (hn : n ≤ 9223372036854775807) (ha : 0 ≤ a ∧ a ≤ 4294967295) (hx : ∀ x ∈ ns, x.n ≤ 9223372036854775807) (B : Nat) (hr : NRd w B A n c ns) (u : Int) (ok : Bool) (h : Hid (nstep (Nd.ls ns) a v = (u, ok))) :
    Calls Tryz.prog 26 #[.agg #[.slice A n c], .int .u32 a, .int .i64 v] w (RetIB (u, ok) w) := by
  have hlen := hr.len
  have k0 := below_alloc w (Nat.le_refl _) (.cells #[.slice A n c] 34)
  have b0 := Box.new w #[.slice A n c] 34
  have hr0 := hr.step k0
  by_cases hv : 0 ≤ v ∧ v < (n : Int)
  · obtain ⟨k, rfl⟩ := Int.eq_ofNat_of_zero_le hv.1
    have hk : k < n := by omega
    obtain ⟨x, hx1⟩ : ∃ x, ns[k]? = some x := ⟨ns[k]'(by omega), List.getElem?_eq_getElem _⟩
    have hxm := List.mem_of_getElem? hx1
    have h2 := h.out
    rw [nstep_at a hx1] at h2
    have K1 := Lib.hid (is_any A n c (k : Int) (w.alloc (.cells #[.slice A n c] 34)) true (Lib.hid (decide_eq_true hv)))
    have hxr := hr.rk x hxm
    have hxok := hr.ok x hxm
    have hxn := hx x hxm
    have Hx1 := Lib.hid hx1
    have K2 := Lib.hid (fun w1 (hb : Below w.heap.size w w1) => next_any x.A x.n x.c x.l a w1 hxn B (hxr.step hb) hxok ha)
    rw [h2] at K2
    clear h h2 hx1 hxm hv hx hxn hxr hxok
    go_enter Tryz.func26, Tryz.ntmps26
    go_wp2_with (first
      | ((with_reducible refine on_load (.tmp 3) ?_); refine wb_load rfl _ (.tmp 3) rfl st_net rfl b0 rfl ?_)
      | (go_at_call 65; refine (K1.out).mono ?_; rintro e w1 ⟨rfl, hb1⟩; have b1 := b0.step hb1; have k1 := k0.trans (hb1.mono k0.size); have hr1 := hr.step k1; have y1 : w1.cell? ⟨w.heap.size, 0, none⟩ = some (.slice A n c) := b1.cell 0)
      | ((with_reducible refine on_index (.tmp 13) ?_); refine wn_at rfl _ (.tmp 13) _ rfl el_row rfl rfl (by omega) (by omega) hr1.rd ?_; intro b j y hy hbB hc; have hxx : x = y := (by have e := hy.out; rw [Int.toNat_natCast, Hx1.out] at e; injection e); subst hxx)
      | (go_at_call 66; refine (K2.out w1 k1).mono ?_; rintro e w2 ⟨rfl, hb2⟩))
    go_ret2
    exact ⟨rfl, k1.trans (hb2.mono k1.size)⟩
  · have h2 := h.out
    rw [nstep_off (by rw [Nd.ls_len, hlen]; exact hv)] at h2
    obtain ⟨rfl, rfl⟩ : 0 = u ∧ false = ok := by injection h2 with a b; exact ⟨a, b⟩
    have K1 := Lib.hid (is_any A n c v (w.alloc (.cells #[.slice A n c] 34)) false (Lib.hid (decide_eq_false hv)))
    clear h h2 hv hx hr0
    go_enter Tryz.func26, Tryz.ntmps26
    go_wp2_with (first
      | ((with_reducible refine on_load (.tmp 3) ?_); refine wb_load rfl _ (.tmp 3) rfl st_net rfl b0 rfl ?_)
      | (go_at_call 65; refine (K1.out).mono ?_; rintro e w1 ⟨rfl, hb1⟩))
    go_ret2
    exact ⟨rfl, k0.trans (hb1.mono k0.size)⟩
end Go.Proofs.YtjandnidljbkoaaGreat
namespace Go.Th
open Go.ChangeShapes Go.WideShapes Go.ChangeAt Go.RowKit Go.Deep Go.Joins
set_option linter.unusedVariables false
section
variable {H : Type} {enc : TypeId × Value → H} {P : Program} {w : World} {base : Nat} {spare : Nat → Bool} {held : Bool} {r : Go.Reach} {b0 : Nat} {t e : TypeId} {v : Value} {d : DataW H} {p : List MemPlace}
end
end Go.Th
