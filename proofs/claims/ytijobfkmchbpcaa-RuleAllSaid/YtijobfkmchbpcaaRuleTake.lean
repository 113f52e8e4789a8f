/-
  The walks of the setters and of rule.Take.
-/
import Derived.Test.YtijobfkmchbpcaaRulePut
import Derived.Laws.ResultCell
import Derived.Deep.DeepCutAuto
namespace Go.Proofs.Ytijobfkmchbpcaa
open Go.RowKit Go.Th
set_option linter.unusedVariables false
theorem set0 (g : Nat) (r : Ru) (z : Int) (hz : 0 ≤ z ∧ z ≤ 4294967295) (w : World) (hb : Box w g 25 r.cs.toArray) :
    Calls Try.prog 53 #[.pointer (some ⟨g, 0, none⟩), .int .i64 z] w fun e w' => e = .returned (.tuple #[]) ∧ Box w' g 25 (Ru.cs { r with a := z }).toArray ∧ w.grownBy w' (some g) := by
  obtain ⟨hz0, hz1⟩ := hz
  obtain ⟨c0, c1, c2, c3⟩ := hb.rule
  have f0 := hb.frozen 0
  have hs := hb.setCell 0 (.int .u32 z)
  go_enter Try.func53, Try.ntmps53
  go_wp2
  go_end0
  exact ⟨rfl, hs.1, hs.2⟩
theorem set1 (g : Nat) (r : Ru) (z : Int) (w : World) (hb : Box w g 25 r.cs.toArray) :
    Calls Try.prog 55 #[.pointer (some ⟨g, 0, none⟩), .int .i64 z] w fun e w' => e = .returned (.tuple #[]) ∧ Box w' g 25 (Ru.cs { r with n := z }).toArray ∧ w.grownBy w' (some g) := by
  obtain ⟨c0, c1, c2, c3⟩ := hb.rule
  have f0 := hb.frozen 1
  have hs := hb.setCell 1 (.int .i64 z)
  go_enter Try.func55, Try.ntmps55
  go_wp2
  go_end0
  exact ⟨rfl, hs.1, hs.2⟩
theorem set2 (g : Nat) (r : Ru) (z : Int) (w : World) (hb : Box w g 25 r.cs.toArray) :
    Calls Try.prog 57 #[.pointer (some ⟨g, 0, none⟩), .int .i64 z] w fun e w' => e = .returned (.tuple #[]) ∧ Box w' g 25 (Ru.cs { r with act := z }).toArray ∧ w.grownBy w' (some g) := by
  obtain ⟨c0, c1, c2, c3⟩ := hb.rule
  have f0 := hb.frozen 2
  have hs := hb.setCell 2 (.int .i64 z)
  go_enter Try.func57, Try.ntmps57
  go_wp2
  go_end0
  exact ⟨rfl, hs.1, hs.2⟩
theorem set3 (g : Nat) (r : Ru) (z : Int) (w : World) (hb : Box w g 25 r.cs.toArray) :
    Calls Try.prog 59 #[.pointer (some ⟨g, 0, none⟩), .int .i64 z] w fun e w' => e = .returned (.tuple #[]) ∧ Box w' g 25 (Ru.cs { r with next := z }).toArray ∧ w.grownBy w' (some g) := by
  obtain ⟨c0, c1, c2, c3⟩ := hb.rule
  have f0 := hb.frozen 3
  have hs := hb.setCell 3 (.int .i64 z)
  go_enter Try.func59, Try.ntmps59
  go_wp2
  go_end0
  exact ⟨rfl, hs.1, hs.2⟩
/-- The rule of bytes. -/
def rtk (bs : List UInt8) : Ru := ⟨val (bs.take 4), val ((bs.drop 4).take 1), val ((bs.drop 5).take 1), val ((bs.drop 6).take 2)⟩
def off : Nat → Nat
  | 0 => 0
  | 1 => 4
  | 2 => 5
  | 3 => 6
  | _ => 8
def stage (bs : List UInt8) : Nat → Ru
  | 0 => ⟨0, 0, 0, 0⟩
  | 1 => ⟨val (bs.take 4), 0, 0, 0⟩
  | 2 => ⟨val (bs.take 4), val ((bs.drop 4).take 1), 0, 0⟩
  | 3 => ⟨val (bs.take 4), val ((bs.drop 4).take 1), val ((bs.drop 5).take 1), 0⟩
  | _ => rtk bs
def TakRel (bs : List UInt8) (N B b0 g gt : Nat) (w : World) (b i : Value) (wr : World) : Prop :=
  ∃ (k : Nat) (A : Option Addr) (n c : Nat), k ≤ 4 ∧ n + off k = N ∧ b = .slice A n c ∧ i = .int .i64 k ∧ RdS bv wr B A n c (bs.drop (off k)) ∧ OwM fcs 3 wr (w.heap.size + 1) 69 (some ⟨gt, 0, none⟩) 4 4 [0, 1, 2, 3] ∧ Box wr g 25 (stage bs k).cs.toArray ∧ Below b0 w wr
def RetRu (r : Ru) (er : Int) (w : World) (e : Ending) (w' : World) : Prop :=
  e = .returned (.tuple #[.agg #[.int .u32 r.a, .int .i64 r.n, .int .i64 r.act, .int .i64 r.next], .int .i64 er]) ∧ Below w.heap.size w w'
set_option maxHeartbeats 4000000 in
theorem ruleTake_short (A : Option Addr) (n c : Nat) (w : World) (h : n < 8) : Calls Try.prog 23 #[.slice A n c] w (RetRu ⟨0, 0, 0, 0⟩ 2 w) := by
  have hi : decide ((n : Int) < 8) = true := decide_eq_true (by omega)
  go_enter Try.func23, Try.ntmps23
  go_wp2_with ((with_reducible refine on_store_at (.tmp 2) ?_); refine wb_store rfl _ (.tmp 2) _ rfl st_rule rfl rfl (Box.new w _ _) rfl rfl (by simp [Value.oneCell']) ?_; intro w1 hbx1 hg1)
  have B1 : Below w.heap.size w w1 := (below_alloc w (Nat.le_refl _) _).trans (below_of_grown hg1 (fun j e => by injection e with e; omega) (by simp))
  have hld := run_loadVar_row (P := Try.prog) w1 w.heap.size 25 25 _ (0, 0) _ hbx1.at_ Try.underlying25 rfl st_rule.size
  refine bodyPost_ret (v := .tuple #[.agg #[.int .u32 0, .int .i64 0, .int .i64 0, .int .i64 0], .int .i64 2]) ?_ rfl ⟨rfl, B1⟩
  rw [results_cell_tmp rfl]
  simp [asAddr, hld]
set_option maxHeartbeats 4000000 in
theorem ruleTake (A : Option Addr) (N c : Nat) (w : World) (bs : List UInt8) (hr : RdS bv w w.heap.size A N c bs) (h8 : 8 ≤ N) (hm : N ≤ 1000000) : Calls Try.prog 23 #[.slice A N c] w (RetRu (rtk bs) 0 w) := by
  have hi : decide ((N : Int) < 8) = false := decide_eq_false (by omega)
  have hlen := hr.len
  go_enter Try.func23, Try.ntmps23
  go_wp2_with fail
  have bx := Box.new w (Ru.cs ⟨0, 0, 0, 0⟩).toArray 25
  refine (fields_any _).mono ?_
  rintro e w2 ⟨At, rfl, how2, hb2⟩
  have hk1 := heap_size_alloc w (.cells (Ru.cs ⟨0, 0, 0, 0⟩).toArray 25)
  have hb2 : Below (w.alloc (.cells (Ru.cs ⟨0, 0, 0, 0⟩).toArray 25)).heap.size (w.alloc (.cells (Ru.cs ⟨0, 0, 0, 0⟩).toArray 25)) w2 := hb2
  have bx2 := bx.step hb2
  have hr2 := (hr.step (below_alloc w (Nat.le_refl _) (.cells (Ru.cs ⟨0, 0, 0, 0⟩).toArray 25))).step hb2
  have B2 : Below w.heap.size w w2 := (below_alloc w (Nat.le_refl _) _).trans (hb2.mono (by omega))
  obtain ⟨gt, rfl, hgt1, hgt2⟩ := how2.at0 (by omega)
  have how2 := how2.base_le (base' := w.heap.size + 1) (by have : (w.alloc (.cells (Ru.cs ⟨0, 0, 0, 0⟩).toArray 25)).heap.size = w.heap.size + 1 := hk1; exact Nat.le_of_eq this.symm)
  clear hb2 bx hk1 hr
  go_wp2_with fail
  go_loopw [0, 5, 6, 7, 14] (fun b _ _ _ i wr => TakRel bs N w.heap.size w.heap.size w.heap.size gt w b i wr) (fun _ _ _ _ i _ => 4 - (intOf i).toNat)
  case atStart => exact ⟨0, A, N, c, by omega, rfl, rfl, rfl, hr2, how2, bx2, B2⟩
  case round =>
    obtain ⟨k, A, n, c, hk, hno, rfl, rfl, hrd, howt, hbx, hbr⟩ := hrel
    clear how2 bx2 B2 hr2
    have zr := hbr.size
    by_cases hlt : k < 4
    · go_upto_region 6 with (first
        | ((with_reducible refine on_index (.tmp 12) ?_); refine wm_at fcs_length rfl _ _ _ rfl el_field rfl rfl (by omega) (by omega) howt.rd ?_; intro b1 j1 x1 hx1 hbb1 hc1; have hxk : x1 = k := (by have e := hx1.out; rw [Int.toNat_natCast] at e; have : k = 0 ∨ k = 1 ∨ k = 2 ∨ k = 3 := (by omega); rcases this with h | h | h | h <;> (rw [h] at e; injection e with e; rw [h]; exact e.symm)); subst hxk)
        | ((with_reducible refine on_load (.tmp 16) ?_); refine wm_load rfl _ (.tmp 16) rfl st_field rfl (fcs_length _) hc1.out ?_)
        | ((with_reducible refine on_store_at (.tmp 5) ?_); refine wb_store rfl _ (.tmp 5) _ rfl st_field rfl rfl (Box.new _ _ _) rfl (by simp [fcs_length]) (by rw [Array.all_eq_true_iff_forall_mem]; intro u hu; exact fcs_one _ u (by simpa using hu)) ?_; intro w5 hbx5 hg5))
      have hb5 : Below w.heap.size w w5 := (hbr.alloc zr _).trans (below_of_grown hg5 (fun j e => by injection e with e; omega) (by have := zr; simp; omega))
      have z5 := hb5.size
      have howt := (howt.alloc (.cells #[.int .i64 0, .nilFunc, .nilFunc] 69)).grown hg5 (by
        intro g hg
        rcases howt.ow.form with ⟨e, _⟩ | ⟨g', e, _, hl⟩
        · cases e
        · injection e with e; injection e with e; injection hg with hg; injection hg with hg; subst e; subst hg
          intro e2; injection e2 with e2; omega)
      have hgl := hbx.lt
      have hbx := (hbx.alloc (.cells #[.int .i64 0, .nilFunc, .nilFunc] 69)).grown hg5 (fun e => by injection e with e; omega)
      have hrd := (hrd.alloc (.cells #[.int .i64 0, .nilFunc, .nilFunc] 69)).grown hg5 (fun g e => by injection e with e; omega)
      have e0 : w5.cell? ⟨wr.heap.size, 0, none⟩ = (fcs x1)[0]? := by simpa using hbx5.cell 0
      have e2 : w5.cell? ⟨wr.heap.size, 2, none⟩ = (fcs x1)[2]? := by simpa using hbx5.cell 2
      have hgt5 : gt ≠ w.heap.size := by
        rcases howt.ow.form with ⟨e, _⟩ | ⟨g', e, hb, hl⟩
        · cases e
        · injection e with e; injection e with e; omega
      have Hgt := Lib.hid hgt5
      have hne0 : w.heap.size ≠ wr.heap.size := by omega
      have Hne0 := Lib.hid hne0
      clear hbr hg5 hc1 hx1 hgt5 hne0
      have hk4 : x1 = 0 ∨ x1 = 1 ∨ x1 = 2 ∨ x1 = 3 := by omega
      rcases hk4 with rfl | rfl | rfl | rfl
      · have f0 : w5.cell? ⟨wr.heap.size, 0, none⟩ = some (.int .i64 4) := e0
        have f2 : w5.cell? ⟨wr.heap.size, 2, none⟩ = some (.func (.func 53) #[] #[]) := e2
        clear e0 e2
        have hn0 : n + 0 = N := hno
        have hrd : RdS bv w5 w.heap.size A n c (bs.drop 0) := hrd
        go_wp2_with fail
        refine (take_yes A n c 4 w5 (by omega) (by omega) (by omega) (by omega) _ _ hrd).mono ?_
        rintro e w6 ⟨rfl, rfl⟩
        obtain ⟨vz, hvz⟩ : ∃ z, val ((bs.drop 0).take 4) = z := ⟨_, rfl⟩
        have hlt4 : vz < 4294967296 := by
          have := val_lt ((bs.drop 0).take 4)
          rw [hvz] at this
          have hl : ((bs.drop 0).take 4).length = 4 := by rw [List.length_take, List.length_drop]; omega
          rw [hl] at this
          omega
        rw [hvz]
        go_wp2_with fail
        refine (set0 w.heap.size _ (vz : Int) ⟨by omega, by omega⟩ w5 hbx).mono ?_
        rintro e w8 ⟨rfl, hbx8, hg8⟩
        have f08 : w8.cell? ⟨wr.heap.size, 0, none⟩ = some (.int .i64 4) := ((hbx5.grown hg8 (fun e => by injection e with e; exact Hne0.out e)).cell 0).trans (by simp [fcs])
        have hrd8 := hrd.grown hg8 (fun g e => by injection e with e; omega)
        have howt8 := howt.grown hg8 (fun g hg e => by
          simp only [Option.some.injEq, Addr.mk.injEq, and_true] at hg e
          exact Hgt.out (by omega))
        have hb8 := hb5.trans (below_of_grown hg8 (fun j e => by injection e with e; omega) z5)
        have hst : ({ stage bs 0 with a := (vz : Int) } : Ru) = stage bs 1 := by
          rw [← hvz]; rfl
        rw [hst] at hbx8
        have hdd : (bs.drop 0).drop 4 = bs.drop 4 := by rw [List.drop_drop]
        clear howt hbx f0 f2
        go_wp2_with ((with_reducible refine on_slice (.tmp 33) ?_); refine wl_cut_l rfl _ (.tmp 33) el_u8 rfl hrd8 _ rfl rfl 4 (by omega) ?_; intro A9 r9; rw [hdd] at r9)
        go_roundw
        case rel => exact ⟨1, A9, _, _, by omega, by show _ + 4 = N; omega, rfl, by first | rfl | go_num, r9, howt8, hbx8, hb8⟩
        case measure => simp [intOf]
      · have f0 : w5.cell? ⟨wr.heap.size, 0, none⟩ = some (.int .i64 1) := e0
        have f2 : w5.cell? ⟨wr.heap.size, 2, none⟩ = some (.func (.func 55) #[] #[]) := e2
        clear e0 e2
        have hn1 : n + 4 = N := hno
        have hrd : RdS bv w5 w.heap.size A n c (bs.drop 4) := hrd
        go_wp2_with fail
        refine (take_yes A n c 1 w5 (by omega) (by omega) (by omega) (by omega) _ _ hrd).mono ?_
        rintro e w6 ⟨rfl, rfl⟩
        obtain ⟨vz, hvz⟩ : ∃ z, val ((bs.drop 4).take 1) = z := ⟨_, rfl⟩
        have hlt4 : vz < 4294967296 := by
          have := val_lt ((bs.drop 4).take 1)
          rw [hvz] at this
          have hl : ((bs.drop 4).take 1).length = 1 := by rw [List.length_take, List.length_drop]; omega
          rw [hl] at this
          omega
        rw [hvz]
        go_wp2_with fail
        refine (set1 w.heap.size _ (vz : Int) w5 hbx).mono ?_
        rintro e w8 ⟨rfl, hbx8, hg8⟩
        have f08 : w8.cell? ⟨wr.heap.size, 0, none⟩ = some (.int .i64 1) := ((hbx5.grown hg8 (fun e => by injection e with e; exact Hne0.out e)).cell 0).trans (by simp [fcs])
        have hrd8 := hrd.grown hg8 (fun g e => by injection e with e; omega)
        have howt8 := howt.grown hg8 (fun g hg e => by
          simp only [Option.some.injEq, Addr.mk.injEq, and_true] at hg e
          exact Hgt.out (by omega))
        have hb8 := hb5.trans (below_of_grown hg8 (fun j e => by injection e with e; omega) z5)
        have hst : ({ stage bs 1 with n := (vz : Int) } : Ru) = stage bs 2 := by
          rw [← hvz]; rfl
        rw [hst] at hbx8
        have hdd : (bs.drop 4).drop 1 = bs.drop 5 := by rw [List.drop_drop]
        clear howt hbx f0 f2
        go_wp2_with ((with_reducible refine on_slice (.tmp 33) ?_); refine wl_cut_l rfl _ (.tmp 33) el_u8 rfl hrd8 _ rfl rfl 1 (by omega) ?_; intro A9 r9; rw [hdd] at r9)
        go_roundw
        case rel => exact ⟨2, A9, _, _, by omega, by show _ + 5 = N; omega, rfl, by first | rfl | go_num, r9, howt8, hbx8, hb8⟩
        case measure => simp [intOf]
      · have f0 : w5.cell? ⟨wr.heap.size, 0, none⟩ = some (.int .i64 1) := e0
        have f2 : w5.cell? ⟨wr.heap.size, 2, none⟩ = some (.func (.func 57) #[] #[]) := e2
        clear e0 e2
        have hn2 : n + 5 = N := hno
        have hrd : RdS bv w5 w.heap.size A n c (bs.drop 5) := hrd
        go_wp2_with fail
        refine (take_yes A n c 1 w5 (by omega) (by omega) (by omega) (by omega) _ _ hrd).mono ?_
        rintro e w6 ⟨rfl, rfl⟩
        obtain ⟨vz, hvz⟩ : ∃ z, val ((bs.drop 5).take 1) = z := ⟨_, rfl⟩
        have hlt4 : vz < 4294967296 := by
          have := val_lt ((bs.drop 5).take 1)
          rw [hvz] at this
          have hl : ((bs.drop 5).take 1).length = 1 := by rw [List.length_take, List.length_drop]; omega
          rw [hl] at this
          omega
        rw [hvz]
        go_wp2_with fail
        refine (set2 w.heap.size _ (vz : Int) w5 hbx).mono ?_
        rintro e w8 ⟨rfl, hbx8, hg8⟩
        have f08 : w8.cell? ⟨wr.heap.size, 0, none⟩ = some (.int .i64 1) := ((hbx5.grown hg8 (fun e => by injection e with e; exact Hne0.out e)).cell 0).trans (by simp [fcs])
        have hrd8 := hrd.grown hg8 (fun g e => by injection e with e; omega)
        have howt8 := howt.grown hg8 (fun g hg e => by
          simp only [Option.some.injEq, Addr.mk.injEq, and_true] at hg e
          exact Hgt.out (by omega))
        have hb8 := hb5.trans (below_of_grown hg8 (fun j e => by injection e with e; omega) z5)
        have hst : ({ stage bs 2 with act := (vz : Int) } : Ru) = stage bs 3 := by
          rw [← hvz]; rfl
        rw [hst] at hbx8
        have hdd : (bs.drop 5).drop 1 = bs.drop 6 := by rw [List.drop_drop]
        clear howt hbx f0 f2
        go_wp2_with ((with_reducible refine on_slice (.tmp 33) ?_); refine wl_cut_l rfl _ (.tmp 33) el_u8 rfl hrd8 _ rfl rfl 1 (by omega) ?_; intro A9 r9; rw [hdd] at r9)
        go_roundw
        case rel => exact ⟨3, A9, _, _, by omega, by show _ + 6 = N; omega, rfl, by first | rfl | go_num, r9, howt8, hbx8, hb8⟩
        case measure => simp [intOf]
      · have f0 : w5.cell? ⟨wr.heap.size, 0, none⟩ = some (.int .i64 2) := e0
        have f2 : w5.cell? ⟨wr.heap.size, 2, none⟩ = some (.func (.func 59) #[] #[]) := e2
        clear e0 e2
        have hn3 : n + 6 = N := hno
        have hrd : RdS bv w5 w.heap.size A n c (bs.drop 6) := hrd
        go_wp2_with fail
        refine (take_yes A n c 2 w5 (by omega) (by omega) (by omega) (by omega) _ _ hrd).mono ?_
        rintro e w6 ⟨rfl, rfl⟩
        obtain ⟨vz, hvz⟩ : ∃ z, val ((bs.drop 6).take 2) = z := ⟨_, rfl⟩
        have hlt4 : vz < 4294967296 := by
          have := val_lt ((bs.drop 6).take 2)
          rw [hvz] at this
          have hl : ((bs.drop 6).take 2).length = 2 := by rw [List.length_take, List.length_drop]; omega
          rw [hl] at this
          omega
        rw [hvz]
        go_wp2_with fail
        refine (set3 w.heap.size _ (vz : Int) w5 hbx).mono ?_
        rintro e w8 ⟨rfl, hbx8, hg8⟩
        have f08 : w8.cell? ⟨wr.heap.size, 0, none⟩ = some (.int .i64 2) := ((hbx5.grown hg8 (fun e => by injection e with e; exact Hne0.out e)).cell 0).trans (by simp [fcs])
        have hrd8 := hrd.grown hg8 (fun g e => by injection e with e; omega)
        have howt8 := howt.grown hg8 (fun g hg e => by
          simp only [Option.some.injEq, Addr.mk.injEq, and_true] at hg e
          exact Hgt.out (by omega))
        have hb8 := hb5.trans (below_of_grown hg8 (fun j e => by injection e with e; omega) z5)
        have hst : ({ stage bs 3 with next := (vz : Int) } : Ru) = stage bs 4 := by
          rw [← hvz]; rfl
        rw [hst] at hbx8
        have hdd : (bs.drop 6).drop 2 = bs.drop 8 := by rw [List.drop_drop]
        clear howt hbx f0 f2
        go_wp2_with ((with_reducible refine on_slice (.tmp 33) ?_); refine wl_cut_l rfl _ (.tmp 33) el_u8 rfl hrd8 _ rfl rfl 2 (by omega) ?_; intro A9 r9; rw [hdd] at r9)
        go_roundw
        case rel => exact ⟨4, A9, _, _, by omega, by show _ + 8 = N; omega, rfl, by first | rfl | go_num, r9, howt8, hbx8, hb8⟩
        case measure => simp [intOf]
    · have e4 : k = 4 := by omega
      subst e4
      have hbx : Box wr w.heap.size 25 (rtk bs).cs.toArray := hbx
      go_wp2_with (first
        | ((with_reducible refine on_load (.tmp 2) ?_); refine wr_box rfl _ (.tmp 2) rfl st_rule rfl hbx ?_)
        | ((with_reducible refine on_store_at (.tmp 2) ?_); refine wr_store (s := rtk bs) rfl _ (.tmp 2) _ rfl st_rule rfl rfl hbx ?_; intro w9 hbx9 hg9))
      have hb9 := hbr.trans (below_of_grown hg9 (fun j e => by injection e with e; omega) zr)
      have hld := run_loadVar_row (P := Try.prog) w9 w.heap.size 25 25 _ (0, 0) _ hbx9.at_ Try.underlying25 rfl st_rule.size
      refine bodyPost_ret (v := .tuple #[.agg (rtk bs).cs.toArray, .int .i64 0]) ?_ rfl ⟨rfl, hb9⟩
      rw [results_cell_tmp rfl]
      simp [asAddr, hld]
end Go.Proofs.Ytijobfkmchbpcaa
