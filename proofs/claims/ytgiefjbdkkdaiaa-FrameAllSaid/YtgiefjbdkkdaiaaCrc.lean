/-
  The walks of crc.Step, crc.table, crc.More, crc.Sum.
-/
import Derived.Test.YtgiefjbdkkdaiaaCrcPlain
import Derived.Test.YtgiefjbdkkdaiaaMany
import Derived.Test.YtgiefjbdkkdaiaaTypes
import Derived.Laws.BitsAllLaws
namespace Go.Proofs.Ytgiefjbdkkdaiaa
open Go.RowKit Go.Th
set_option linter.unusedVariables false
theorem ctn_more (k s : Nat) : ctn (k + 1) s = ct (ctn k s) := ctn_succ' k s
theorem cstep_any (s : Nat) (c : UInt8) (w : World) (hs : s < 4294967296) (S : Int) (hS : (s : Int) = S) (C : Int) (hC : (c.toNat : Int) = C) :
    Calls Try.prog 59 #[.int .u32 S, .int .u8 C] w fun e w' => e = .returned (.int .u32 (cstep s c)) ∧ w = w' := by
  subst hS
  subst hC
  have hc := c.toNat_lt
  have hx0 := u32_xor_nat s c.toNat hs (by omega)
  obtain ⟨y, hy⟩ : ∃ y, s ^^^ c.toNat = y := ⟨_, rfl⟩
  have hy2 : y < 4294967296 := by rw [← hy]; exact xor_lt32 hs (by omega)
  rw [hy] at hx0
  have hst : cstep s c = ctn 8 y := by rw [← hy]; rfl
  rw [hst]
  clear hst hy
  go_enter Try.func59, Try.ntmps59
  go_wp2
  go_loop [0, 9] (fun v i => ∃ k x : Nat, k ≤ 8 ∧ x < 4294967296 ∧ v = .int .u32 x ∧ i = .int .i64 k ∧ Hid (ctn k y = x)) (fun _ i => 8 - (intOf i).toNat)
  case atStart => exact ⟨0, y, by omega, hy2, rfl, rfl, rfl⟩
  case round =>
    obtain ⟨k, x, hk, hx, rfl, rfl, hX⟩ := hrel
    by_cases hlt : k < 8
    · have ha := u32_and_nat x 1 hx (by omega)
      rw [Nat.and_one_is_mod] at ha
      have hn := ctn_more k y
      rw [hX.out] at hn
      unfold ct at hn
      rcases Nat.mod_two_eq_zero_or_one x with h | h
      · rw [if_neg (by omega)] at hn
        rw [h] at ha
        have ha : bits .and .u32 (x : Int) 1 = 0 := ha
        go_wp2
        go_round
        case rel => exact ⟨k + 1, x / 2, by omega, by omega, by go_num, by go_num, hn⟩
        case measure => simp [intOf]; omega
      · rw [if_pos h] at hn
        rw [h] at ha
        have ha : bits .and .u32 (x : Int) 1 = 1 := ha
        have hp : bits .xor .u32 ((x : Int) / 2) 2197175160 = ((x / 2 ^^^ poly : Nat) : Int) := u32_xor_nat (x / 2) poly (by omega) (by decide)
        have hl : x / 2 ^^^ poly < 4294967296 := xor_lt32 (by omega) (by decide)
        go_wp2
        go_round
        case rel => exact ⟨k + 1, x / 2 ^^^ poly, by omega, hl, by first | rfl | rw [hp], by go_num, hn⟩
        case measure => simp [intOf]; omega
    · have e8 : k = 8 := by omega
      subst e8
      go_wp2
      go_ret
      rw [hX.out]
      exact ⟨rfl, rfl⟩
end Go.Proofs.Ytgiefjbdkkdaiaa
namespace Go.Th
section
variable {P : Program} {ops : Array Oper} {rest : List Oper} {o : Oper} {a : Act} {Q : Exit → Act → World → Prop} {w : World}
/-- A variable is made: its cells are nought. -/
theorem wl_new (hw : Region.wanted o (yielded ops a.tmps) = true) (T : TypeId) (ho : o.op = .alloc T) {cs : Array Value} {k : Nat} (hz : (P.info? T).map (fun i => (i.zero.map Value.cells, i.size)) = some (some cs, k))
    (h : wpList P ops Q rest (a.put o.dst (.pointer (some ⟨w.heap.size, 0, none⟩))) (w.alloc (.cells cs T))) : wpList P ops Q (o :: rest) a w := by
  cases hi : P.info? T with
  | none => rw [hi] at hz; simp at hz
  | some i =>
    rw [hi] at hz
    simp only [Option.map_some, Option.some.injEq, Prod.mk.injEq, Option.map_eq_some_iff] at hz
    obtain ⟨⟨z, hz1, hz2⟩, _⟩ := hz
    refine wl_run hw (v := .pointer (some ⟨w.heap.size, 0, none⟩)) ?_ h
    simp [execOp, ho, Instr.alloc, zeroValue, typeInfo, hi, hz1, newVar, newRow, hz2]
/-- An array type: how many cells. -/
structure ArT (P : Program) (T : TypeId) (k : Nat) : Prop where
  under : ∃ n e, P.underlying T = some (.array n e)
  size : (P.info? T).map (·.size) = some k
theorem wa_load (hw : Region.wanted o (yielded ops a.tmps) = true) (T : TypeId) (x : Operand) (ho : o.op = .load T x) {k : Nat} (st : ArT P T k) {g : Nat} {t : TypeId} {cs : Array Value} (hx : a.eval x = .pointer (some ⟨g, 0, none⟩)) (hb : Box w g t cs) (hk : cs.size = k)
    (h : wpList P ops Q rest (a.put o.dst (.agg cs)) w) : wpList P ops Q (o :: rest) a w := by
  obtain ⟨n, e, hu⟩ := st.under
  subst hk
  refine wl_run hw ?_ h
  simp only [execOp, ho, hx, Instr.loadAt, Instr.sureAddr, Sem.run_bind, Sem.run_pure, Result.andThen_ok, run_loadVar_row w g t T cs (0, 0) _ hb.at_ hu rfl st.size]
theorem wa_store (hw : Region.wanted o (yielded ops a.tmps) = true) (T : TypeId) (x y : Operand) (ho : o.op = .store T x y) {k : Nat} (st : ArT P T k) {g : Nat} {t : TypeId} {cs cs' : Array Value} (hx : a.eval x = .pointer (some ⟨g, 0, none⟩)) (hy : a.eval y = .agg cs')
    (hb : Box w g t cs) (hk : cs.size = k) (hk' : cs'.size = k) (h1 : cs'.all (·.oneCell') = true)
    (h : ∀ w', Box w' g t cs' → w.grownBy w' (some g) → wpList P ops Q rest (a.put o.dst undef) w') : wpList P ops Q (o :: rest) a w := by
  subst hk'
  obtain ⟨h2, h3⟩ := hb.setRow cs'
  refine wl_run0 hw ?_ (h _ h2 h3)
  simp only [execOp, ho, hx, hy, Instr.storeAt, Instr.sureAddr, Sem.run_bind, Sem.run_pure, Result.andThen_ok, run_storeVar_row w g t T cs cs' hb.at_ st.size hk h1]
theorem on_new {T : TypeId} {d ty pos af g} (h : wpList P ops Q (⟨d, .alloc T, ty, pos, af, g⟩ :: rest) a w) : wpList P ops Q (⟨d, .alloc T, ty, pos, af, g⟩ :: rest) a w := h
theorem on_stx (x : Operand) {d T y ty pos af g} (h : wpList P ops Q (⟨d, .store T x y, ty, pos, af, g⟩ :: rest) a w) : wpList P ops Q (⟨d, .store T x y, ty, pos, af, g⟩ :: rest) a w := h
end
/-- The table, of which k entries are there. -/
def tabL (k : Nat) : List Value := (List.range 256).map fun i => .int .u32 ((if i < k then ctn 8 i else 0 : Nat) : Int)
def tab (k : Nat) : Array Value := (tabL k).toArray
theorem tab_size (k : Nat) : (tab k).size = 256 := by simp [tab, tabL]
theorem tab_one (k : Nat) : (tab k).all (·.oneCell') = true := by
  rw [Array.all_eq_true_iff_forall_mem]
  intro x hx
  simp only [tab, tabL, List.mem_toArray, List.mem_map] at hx
  obtain ⟨i, _, rfl⟩ := hx
  rfl
theorem tab_get (k i : Nat) (h : i < 256) : (tab k)[i]? = some (.int .u32 ((if i < k then ctn 8 i else 0 : Nat) : Int)) := by
  simp [tab, tabL, h]
theorem tab_zero : tab 0 = Array.replicate 256 (.int .u32 0) := by
  apply Array.ext_getElem?
  intro i
  by_cases h : i < 256
  · rw [tab_get 0 i h]; simp [h]
  · rw [Array.getElem?_eq_none (by rw [tab_size]; omega), Array.getElem?_eq_none (by simp; omega)]
theorem tab_set (k : Nat) (h : k < 256) : (tab k).setIfInBounds k (.int .u32 (ctn 8 k : Nat)) = tab (k + 1) := by
  apply Array.ext_getElem?
  intro i
  by_cases hi : i < 256
  · rw [Array.getElem?_setIfInBounds, tab_get (k + 1) i hi]
    by_cases e : k = i
    · subst e; simp [tab_size, h]
    · rw [if_neg e, tab_get k i hi]
      have : (i < k) ↔ (i < k + 1) := by omega
      simp only [this]
  · rw [Array.getElem?_eq_none (by simp [tab_size]; omega), Array.getElem?_eq_none (by rw [tab_size]; omega)]
end Go.Th
namespace Go.Proofs.Ytgiefjbdkkdaiaa
open Go.RowKit Go.Th
set_option linter.unusedVariables false
theorem z_tab : (Try.prog.info? 73).map (fun i => (i.zero.map Value.cells, i.size)) = some (some (Array.replicate 256 (.int .u32 0)), 256) := by kernel_rfl
theorem ar_tab : ArT Try.prog 73 256 := ⟨⟨_, _, Try.underlying73⟩, by kernel_rfl⟩
set_option maxRecDepth 100000 in
theorem table_any (w : World) : Calls Try.prog 57 #[] w fun e w' => e = .returned (.agg (tab 256)) ∧ Below w.heap.size w w' := by
  go_enter Try.func57, Try.ntmps57
  go_wp2_with ((with_reducible refine on_new ?_); refine wl_new rfl _ rfl z_tab ?_; rw [← tab_zero])
  go_loopw [1, 2] (fun _ i wr => ∃ k : Nat, k ≤ 256 ∧ i = .int .i64 k ∧ Box wr w.heap.size 73 (tab k) ∧ Below w.heap.size w wr) (fun _ i _ => 256 - (intOf i).toNat)
  case atStart => exact ⟨0, by omega, rfl, Box.new w _ _, below_alloc _ (Nat.le_refl _) _⟩
  case round =>
    obtain ⟨k, hk, rfl, hbx, hb⟩ := hrel
    by_cases hlt : k < 256
    · have hkb : (k : Int) < 256 := by omega
      have hce : wr.cell? ⟨w.heap.size, k, none⟩ = some (.int .u32 ((if k < k then ctn 8 k else 0 : Nat) : Int)) := (hbx.cell k).trans (tab_get k k hlt)
      have hfz := hbx.frozen k
      have hcs : cstep 0 (UInt8.ofNat k) = ctn 8 k := by
        unfold cstep
        rw [Nat.zero_xor, UInt8.toNat_ofNat', Nat.mod_eq_of_lt hlt]
      have hbx2 := (hbx.setCell k (.int .u32 (ctn 8 k : Nat))).1
      rw [tab_set k hlt] at hbx2
      have hg2 := (hbx.setCell k (.int .u32 (ctn 8 k : Nat))).2
      have hb2 := hb.trans (below_of_grown hg2 (fun j e => by injection e with e; omega) hb.size)
      go_wp2_with (go_at_call 59; refine (cstep_any 0 (UInt8.ofNat k) _ (by omega) _ rfl _ (by rw [UInt8.toNat_ofNat']; omega)).mono ?_; rintro e w1 ⟨rfl, rfl⟩; rw [hcs])
      go_roundw
      case rel => exact ⟨k + 1, by omega, by go_num, hbx2, hb2⟩
      case measure => simp [intOf]; omega
    · have e8 : k = 256 := by omega
      subst e8
      have ht1 := tab_size 256
      go_wp2_with (first
        | ((with_reducible refine on_load (.tmp 0) ?_); refine wa_load rfl _ (.tmp 0) rfl ar_tab rfl hbx ht1 ?_)
        | ((with_reducible refine on_stx (.tmp 0) ?_); refine wa_store rfl _ (.tmp 0) _ rfl ar_tab rfl rfl hbx ht1 ht1 (tab_one 256) ?_; intro w2 hb2 hg2))
      have hld := run_loadVar_row (P := Try.prog) w2 w.heap.size 73 73 (tab 256) (0, 0) _ hb2.at_ Try.underlying73 rfl (by rw [ht1]; exact ar_tab.size)
      refine bodyPost_ret (v := .agg (tab 256)) ?_ rfl ⟨rfl, hb.trans (below_of_grown hg2 (fun j e => by injection e with e; omega) hb.size)⟩
      have hres : Try.f57.results = #[.cell 0 73] := rfl
      simp only [Act.put, results, hres]
      simp [asAddr, hld]
set_option maxRecDepth 100000 in
theorem more_any (A : Option Addr) (n c : Nat) (w : World) (hm : n ≤ 9223372036854775807) (bs : List UInt8) (hr : RdS bv w w.heap.size A n c bs) :
    Calls Try.prog 55 #[.int .u32 0, .slice A n c] w fun e w' => e = .returned (.int .u32 (csum bs)) ∧ Below w.heap.size w w' := by
  have ht0 := tab_size 0
  have ht1 := tab_size 256
  have hx0 : bits .xor .u32 4294967295 0 = 4294967295 := by decide
  go_enter Try.func55, Try.ntmps55
  go_wp2_with (first
    | (go_at_call 57; refine (table_any _).mono ?_; rintro e w1 ⟨rfl, hb1⟩)
    | ((with_reducible refine on_new ?_); refine wl_new rfl _ rfl z_tab ?_; rw [← tab_zero])
    | ((with_reducible refine on_stx (.tmp 5) ?_); refine wa_store rfl _ (.tmp 5) _ rfl ar_tab rfl rfl (Box.new w1 (tab 0) 73) ht0 ht1 (tab_one 256) ?_; intro w2 hbx2 hg2))
  have hb2 : Below w.heap.size w w2 := (hb1.alloc hb1.size _).trans (below_of_grown hg2 (fun j e => by injection e with e; have := hb1.size; omega) (by have := hb1.size; simp; omega))
  have hr2 := hr.step hb2
  clear hb1 hg2 hr
  go_loop [0, 7, 13] (fun v _ i => ∃ k s : Nat, k ≤ n ∧ s < 4294967296 ∧ v = .int .u32 s ∧ i = .int .i64 k ∧ Hid (cfrom 4294967295 (bs.take k) = s)) (fun _ _ i => n - (intOf i).toNat)
  case atStart => exact ⟨0, 4294967295, by omega, by omega, by first | rfl | (rw [hx0]; rfl), rfl, rfl⟩
  case round =>
    obtain ⟨k, s, hk, hs, rfl, rfl, hS⟩ := hrel
    by_cases hlt : k < n
    · obtain ⟨x, hx⟩ : ∃ x, bs[k]? = some x := ⟨bs[k]'(by rw [hr2.len]; exact hlt), List.getElem?_eq_getElem _⟩
      have hx8 := x.toNat_lt
      obtain ⟨j, hj⟩ : ∃ j, s % 256 ^^^ x.toNat = j := ⟨_, rfl⟩
      have hj8 : bits .xor .u8 ((s : Int) % 256) (x.toNat : Int) = (j : Int) := by rw [← hj]; exact u8_xor_nat (s % 256) x.toNat (by omega) (by omega)
      have hj2 : j < 256 := by rw [← hj]; exact Nat.xor_lt_two_pow (n := 8) (by omega) (by omega)
      have hcell : w2.cell? ⟨w1.heap.size, j, none⟩ = some (.int .u32 (ctn 8 j : Nat)) := by
        have := (hbx2.cell j).trans (tab_get 256 j hj2)
        rwa [if_pos hj2] at this
      have hl : ctn 8 j < 4294967296 := ctn_lt 8 (by omega)
      have hx32 : bits .xor .u32 ((s : Int) / 256) ((ctn 8 j : Nat) : Int) = ((s / 256 ^^^ ctn 8 j : Nat) : Int) := u32_xor_nat (s / 256) (ctn 8 j) (by omega) hl
      have hl2 : s / 256 ^^^ ctn 8 j < 4294967296 := xor_lt32 (by omega) hl
      have hnext : cfrom 4294967295 (bs.take (k + 1)) = s / 256 ^^^ ctn 8 j := by
        rw [List.take_add_one, hx]
        show cfrom _ (_ ++ [x]) = _
        rw [cfrom_snoc, hS.out, cstep_table, hj]
      have Hx := Lib.hid hx
      have Hj := Lib.hid hj
      have Hn := Lib.hid hnext
      have hj2i : (j : Int) < 256 := by omega
      clear hx hj hnext
      go_wp2_with ((with_reducible refine on_index (.tmp 11) ?_); refine wl_at_b rfl _ _ _ rfl el_u8 rfl rfl (by omega) (by omega) hr2 ?_; intro p x' hx' hx5 hc; have hxx : x' = x := (Option.some.inj ((show bs[k]? = some x' from hx'.out).symm.trans Hx.out)); subst hxx)
      go_round
      case rel => exact ⟨k + 1, s / 256 ^^^ ctn 8 j, by omega, hl2, rfl, by go_num, Hn.out⟩
      case measure => simp [intOf]; omega
    · have hkn : k = n := by omega
      have hS2 := hS.out
      rw [List.take_of_length_le (by rw [hr2.len]; omega)] at hS2
      have hx9 : bits .xor .u32 4294967295 (s : Int) = ((4294967295 ^^^ s : Nat) : Int) := u32_xor_nat 4294967295 s (by omega) hs
      have hcs : csum bs = 4294967295 ^^^ s := by unfold csum; rw [hS2, Nat.xor_comm]
      have Hcs := Lib.hid hcs
      clear hkn hcs hS2
      go_wp2
      go_ret
      rw [Hcs.out]
      first
        | exact ⟨rfl, hb2⟩
        | exact ⟨congrArg (fun z => Ending.returned (Value.int .u32 z)) hx9, hb2⟩
theorem sum_any (A : Option Addr) (n c : Nat) (w : World) (hm : n ≤ 9223372036854775807) (bs : List UInt8) (hr : RdS bv w w.heap.size A n c bs) :
    Calls Try.prog 49 #[.slice A n c] w fun e w' => e = .returned (.int .u32 (csum bs)) ∧ Below w.heap.size w w' := by
  go_enter Try.func49, Try.ntmps49
  go_wp2_with (go_at_call 55; refine (more_any _ _ _ _ hm _ hr).mono ?_; rintro e w1 ⟨rfl, hb1⟩)
  go_ret
  exact ⟨rfl, hb1⟩
end Go.Proofs.Ytgiefjbdkkdaiaa
