/-
  network.Loop.
-/
import Derived.Test.YtdmkiejaejlajaaNhLoopLaw
namespace Go.Proofs.Ytdmkiejaejlajaa
open Go.RowKit Go.Th
set_option linter.unusedVariables false
theorem sits_zero {ls : List (List Ru)} {a u : Int} {M : Nat} (h : 1 ≤ M) : (sits ls a u M)[0]? = some u := by rw [sits_head h]; rfl
theorem cyc_sit {ls : List (List Ru)} {a u : Int} {M : Nat} (c : Cyc (hof ls a) (gof ls a) u M) : ∀ j, (sit ls a u j).2 = true
  | 0 => rfl
  | j + 1 => by rw [sit_goes]; exact c.all j
theorem cyc_round (A : Option Addr) (n c : Nat) (ns : List Nd) (a u : Int) (w : World) (hn : n ≤ 9223372036854775807) (ha : 0 ≤ a ∧ a ≤ 4294967295) (hx : ∀ x ∈ ns, x.n ≤ 9223372036854775807) (hr : NRd w w.heap.size A n c ns)
    (M : Nat) (hM : M ≤ 1000000) (cM : Cyc (hof (Nd.ls ns) a) (gof (Nd.ls ns) a) u M) (hmin : ∀ j, 0 < j → j < M → itr (hof (Nd.ls ns) a) j u ≠ u) :
    Calls Try.prog 31 #[.agg #[.slice A n c], .int .u32 a, .int .i64 u] w (fun e w' => ∃ A' c', e = .returned (.slice A' M c') ∧ OwS iv w' w.heap.size 3 A' M c' (sits (Nd.ls ns) a u M) ∧ Below w.heap.size w w') :=
  round_any A n c ns a u w hn ha hx hr M cM.pos hM (fun j _ => cyc_sit cM j) (by rw [sit_itr]; exact cM.back) (fun j h1 h2 => by rw [sit_itr]; exact hmin j h1 h2)
def LpRel (ns : List Nd) (A : Option Addr) (n c : Nat) (a : Int) (w w1 : World) (gs : Nat) (s7 s8 i : Value) (wr : World) : Prop :=
  ∃ (v : Nat) (zs : List Int) (found : Bool) (best : Int), v ≤ n ∧ i = .int .i64 v ∧ s7 = .int .i64 best ∧ s8 = .bool found ∧ OwS iv wr w1.heap.size 3 (some ⟨gs, 0, none⟩) n n zs ∧ Hid (LInv (Nd.ls ns) a n zs found best v) ∧ Below w1.heap.size w1 wr
set_option maxRecDepth 100000 in
set_option maxHeartbeats 4000000 in
theorem loop_any (A : Option Addr) (n c : Nat) (ns : List Nd) (a : Int) (w : World) (hn : n ≤ 1000000) (ha : 0 ≤ a ∧ a ≤ 4294967295) (hx : ∀ x ∈ ns, x.n ≤ 9223372036854775807) (hr : NRd w w.heap.size A n c ns) :
    Calls Try.prog 15 #[.agg #[.slice A n c], .int .u32 a] w (fun e w' => ∃ Al nl cl l ok, e = .returned (.tuple #[.slice Al nl cl, .bool ok]) ∧ RdS iv w' w'.heap.size Al nl cl l ∧ Below w.heap.size w w' ∧
      ((ok = false ∧ l = [] ∧ ∀ u L, 0 ≤ u → u < (n : Int) → ¬ Cyc (hof (Nd.ls ns) a) (gof (Nd.ls ns) a) u L) ∨
       (ok = true ∧ ∃ best M, 0 ≤ best ∧ best < (n : Int) ∧ M ≤ n ∧ Cyc (hof (Nd.ls ns) a) (gof (Nd.ls ns) a) best M ∧ (∀ j, 0 < j → j < M → itr (hof (Nd.ls ns) a) j best ≠ best) ∧ l = sits (Nd.ls ns) a best M ∧ ∀ u L, 0 ≤ u → u < (n : Int) → Cyc (hof (Nd.ls ns) a) (gof (Nd.ls ns) a) u L → best ≤ u))) := by
  have hlen := hr.len
  have k0 := below_alloc w (Nat.le_refl _) (.cells #[.slice A n c] 24)
  have b0 := Box.new w #[.slice A n c] 24
  have hr0 := hr.step k0
  go_enter Try.func15, Try.ntmps15
  go_upto_region 1 with fail
  obtain ⟨w1, hw1⟩ : ∃ W, w.alloc (.cells #[.slice A n c] 24) = W := ⟨_, rfl⟩
  rw [hw1] at k0 b0 hr0 ⊢
  have y0 : w1.cell? ⟨w.heap.size, 0, none⟩ = some (.slice A n c) := b0.cell 0
  go_upto_region 3 with ((with_reducible refine on_makeL _ ?_); refine wl_makeS (base := w1.heap.size) rfl _ _ _ rfl el_int (f := iv) 0 rfl n rfl rfl rfl rfl (by omega) (by omega) (Nat.le_refl _) ?_; intro gs w2 hgs ow2 hb2)
  have y2 : w2.cell? ⟨w.heap.size, 0, none⟩ = some (.slice A n c) := (b0.step hb2).cell 0
  have b2 := b0.step hb2
  have hl0 := b0.lt
  go_wp2_with fail
  go_loopw [7, 8, 20] (fun s7 s8 i wr => LpRel ns A n c a w w1 gs s7 s8 i wr) (fun _ _ i _ => n - (intOf i).toNat)
  case atStart => exact ⟨0, _, false, 0, by omega, rfl, rfl, rfl, ow2, Lib.hid (LInv.init _ _ _ _), hb2⟩
  case round =>
    obtain ⟨v, zs, found, best, hv, rfl, rfl, rfl, ow, inv, hb⟩ := hrel
    have br := b0.step hb
    have yr : wr.cell? ⟨w.heap.size, 0, none⟩ = some (.slice A n c) := br.cell 0
    have kr := k0.trans (hb.mono k0.size)
    have hrr := hr0.below (hb.mono (by have := k0.size; omega))
    by_cases hlt : v < n
    · have hzl := ow.len
      obtain ⟨z, hz⟩ : ∃ z, zs[v]? = some z := ⟨_, List.getElem?_eq_getElem (by omega)⟩
      have Hz := Lib.hid hz
      by_cases hz0 : z = 0
      · subst hz0
        have K1 := Lib.hid (back_any A n c ns a v zs gs n w1.heap.size wr hn ha hx hb.size (hrr.more k0.size) hlt ow hz)
        clear hz
        go_upto_region 8 with (first
          | ((with_reducible refine on_index (.tmp 23) ?_); refine wl_at_i rfl _ _ _ rfl el_int rfl rfl (by omega) (by omega) ow.rd ?_; intro p x hxx hc; have hxe : x = 0 := (by have e := hxx.out; rw [Int.toNat_natCast, Hz.out] at e; injection e with e; exact e.symm); subst hxe)
          | ((with_reducible refine on_load (.tmp 2) ?_); refine wb_load rfl _ (.tmp 2) rfl st_net rfl br rfl ?_)
          | (go_at_call 29; refine (K1.out).mono ?_; rintro e w5 ⟨u, ok, k, rfl, R, o5, hb5⟩))
        have bel5 := hb.trans hb5
        have br5 := br.below hb5 (by have := k0.size; omega)
        have I := inv.out
        have hls : (Nd.ls ns).length = n := by rw [Nd.ls_len]; exact hlen
        clear K1 inv
        cases ok with
        | false =>
          have I2 := Lib.hid (I.away hls hlt R)
          clear I R
          go_wp2
          go_roundw
          case rel => exact ⟨v + 1, _, found, best, by omega, by go_num, rfl, rfl, o5, I2, bel5⟩
          case measure => simp [intOf]; omega
        | true =>
          obtain ⟨L0, hL0, c0, _⟩ := I.loop hlt R
          obtain ⟨M, cM, hML, hmin⟩ := c0.least
          have hMn : M ≤ n := by omega
          have bel6 := kr.trans (hb5.mono (by have := k0.size; omega))
          have K2 := Lib.hid (cyc_round A n c ns a u w5 (by omega) ha hx (hr.step bel6).heap M (by omega) cM hmin)
          have K3 := Lib.hid (fun A' c' w' (o : RdS iv w' w'.heap.size A' M c' (sits (Nd.ls ns) a u M)) => min_any A' M c' _ w' (by omega) _ o u (sits_zero cM.pos))
          obtain ⟨lst, hlst⟩ : ∃ x, leastOf (Nd.ls ns) a u M = x := ⟨_, rfl⟩
          have elst : minOf u ((sits (Nd.ls ns) a u M).drop 1) = lst := hlst
          rw [elst] at K3
          have I2 := Lib.hid (fun b hb => I.turn hlt R cM hMn b hb)
          rw [hlst] at I2
          go_upto_region 10 with (first
            | ((with_reducible refine on_load (.tmp 2) ?_); refine wb_load rfl _ (.tmp 2) rfl st_net rfl br5 rfl ?_)
            | (go_at_call 31; refine (K2.out).mono ?_; rintro e w6 ⟨A6, c6, rfl, o6, hb6⟩)
            | (go_at_call 30; refine (K3.out A6 c6 w6 o6.rd).mono ?_; rintro e w7 ⟨rfl, hb7⟩))
          have o7 := (o5.below hb6).below hb7
          have bel7 := (bel5.trans (hb6.mono bel5.size)).trans (hb7.mono (Nat.le_trans bel5.size hb6.size))
          cases found with
          | false =>
            have I3 := Lib.hid (I2.out lst (by simp))
            go_wp2
            go_roundw
            case rel => exact ⟨v + 1, _, true, lst, by omega, by go_num, rfl, rfl, o7, I3, bel7⟩
            case measure => simp [intOf]; omega
          | true =>
            by_cases hlb : lst < best
            · have I3 := Lib.hid (I2.out lst (by simp [hlb]))
              have hd : decide (lst < best) = true := decide_eq_true hlb
              go_wp2
              go_roundw
              case rel => exact ⟨v + 1, _, true, lst, by omega, by go_num, rfl, rfl, o7, I3, bel7⟩
              case measure => simp [intOf]; omega
            · have I3 := Lib.hid (I2.out best (by simp [hlb]))
              have hd : decide (lst < best) = false := decide_eq_false hlb
              go_wp2
              go_roundw
              case rel => exact ⟨v + 1, _, true, best, by omega, by go_num, rfl, rfl, o7, I3, bel7⟩
              case measure => simp [intOf]; omega
      · have hne : (z != 0) = true := by simpa using hz0
        clear hz
        go_wp2_with ((with_reducible refine on_index (.tmp 23) ?_); refine wl_at_i rfl _ _ _ rfl el_int rfl rfl (by omega) (by omega) ow.rd ?_; intro p x hxx hc; have hxe : x = z := (by have e := hxx.out; rw [Int.toNat_natCast, Hz.out] at e; injection e with e; exact e.symm); subst hxe)
        go_roundw
        case rel => exact ⟨v + 1, zs, found, best, by omega, by go_num, rfl, rfl, ow, Lib.hid (inv.out.skip Hz.out hz0), hb⟩
        case measure => simp [intOf]; omega
    · obtain rfl : v = n := by omega
      have I := inv.out
      clear inv
      cases found with
      | false =>
        have Hno := Lib.hid (fun u L (h0 : 0 ≤ u) (h1 : u < (v : Int)) => I.hno rfl u L (I.all ⟨h0, h1⟩))
        clear I
        go_wp2
        go_ret2
        exact ⟨none, 0, 0, [], false, rfl, RdS.nil _ _, kr, .inl ⟨rfl, rfl, Hno.out⟩⟩
      | true =>
        obtain ⟨⟨L0, hL0, c0⟩, hle⟩ := I.hso rfl
        obtain ⟨M, cM, hML, hmin⟩ := c0.least
        have hbi := gof_in (cM.goes 0 cM.pos)
        rw [Nd.ls_len, hlen] at hbi
        have K2 := Lib.hid (cyc_round A v c ns a best wr (by omega) ha hx (hr.step kr).heap M (by omega) cM hmin)
        have Fin := Lib.hid (⟨hbi.1, hbi.2, (by omega : M ≤ v), cM, hmin, fun u L (h0 : 0 ≤ u) (h1 : u < (v : Int)) c => hle u L (I.all ⟨h0, h1⟩) c⟩ : 0 ≤ best ∧ best < (v : Int) ∧ M ≤ v ∧ Cyc (hof (Nd.ls ns) a) (gof (Nd.ls ns) a) best M ∧ (∀ j, 0 < j → j < M → itr (hof (Nd.ls ns) a) j best ≠ best) ∧ ∀ u L, 0 ≤ u → u < (v : Int) → Cyc (hof (Nd.ls ns) a) (gof (Nd.ls ns) a) u L → best ≤ u)
        clear I hle hmin
        go_wp2_with (first
          | ((with_reducible refine on_load (.tmp 2) ?_); refine wb_load rfl _ (.tmp 2) rfl st_net rfl br rfl ?_)
          | (go_at_call 31; refine (K2.out).mono ?_; rintro e w6 ⟨A6, c6, rfl, o6, hb6⟩))
        go_ret2
        obtain ⟨f1, f2, f3, f4, f5, f6⟩ := Fin.out
        exact ⟨A6, M, c6, _, true, rfl, o6.rd, kr.trans (hb6.mono kr.size), .inr ⟨rfl, best, M, f1, f2, f3, f4, f5, rfl, f6⟩⟩
end Go.Proofs.Ytdmkiejaejlajaa
