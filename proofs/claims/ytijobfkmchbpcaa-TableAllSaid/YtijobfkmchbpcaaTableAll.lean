/-
  theseuslaw08.TableAll: the walk.
-/
import Derived.Test.YtijobfkmchbpcaaRef08
import Derived.Deep.DeepCutAuto
namespace Go.Proofs.Ytijobfkmchbpcaa
open Go.RowKit Go.Th
set_option linter.unusedVariables false
theorem few8 (A : Option Addr) (n c M : Nat) (hM : min n 30 = M) (l : List Ru) (w : World) (hm : n ≤ 9223372036854775807) (B : Nat) (hr : RdM Ru.cs w B A n c l) :
    Calls Try.prog 29 #[.slice A n c] w fun e w' => ∃ A', e = .returned (.slice A' M c) ∧ RdM Ru.cs w B A' M c (l.take M) ∧ w = w' := by
  rcases (show (n < 31 ∧ n = M) ∨ (30 < n ∧ 30 = M) by omega) with ⟨h, rfl⟩ | ⟨h, rfl⟩
  · clear hM
    go_enter Try.func29, Try.ntmps29
    go_wp2_with ((with_reducible refine on_slice (.tmp 3) ?_); refine wm_cut_h Ru.cs_length rfl _ _ el_rule rfl hr _ rfl rfl n (by omega) ?_; intro A6 r6)
    go_ret
    exact ⟨A6, rfl, r6, rfl⟩
  · clear hM
    go_enter Try.func29, Try.ntmps29
    go_wp2_with ((with_reducible refine on_slice (.tmp 3) ?_); refine wm_cut_h Ru.cs_length rfl _ _ el_rule rfl hr _ rfl rfl 30 (by omega) ?_; intro A6 r6)
    go_ret
    exact ⟨A6, rfl, r6, rfl⟩
theorem rfind_is (A : Option Addr) (n c : Nat) (l : List Ru) (x : Int) (w : World) (hm : n ≤ 9223372036854775807) (B : Nat) (hr : RdM Ru.cs w B A n c l) (hok : ∀ r ∈ l, r.Ok) (hx : 0 ≤ x ∧ x ≤ 4294967295) (s : Ru) (b : Bool) (h : tfind l x = (s, b)) :
    Calls Try.prog 30 #[.slice A n c, .int .u32 x] w fun e w' => e = .returned (.tuple #[.agg #[.int .u32 s.a, .int .i64 s.n, .int .i64 s.act, .int .i64 s.next], .bool b]) ∧ Below w.heap.size w w' := by
  have := rfind_any A n c l x w hm B hr hok hx
  rw [h] at this
  exact this
theorem next_isA (A : Option Addr) (n c : Nat) (l : List Ru) (x : Int) (w : World) (hm : n ≤ 9223372036854775807) (B : Nat) (hr : RdM Ru.cs w B A n c l) (hok : ∀ r ∈ l, r.Ok) (hx : 0 ≤ x ∧ x ≤ 4294967295) (s : Int) (b : Bool) (h : tnext l x = (s, b)) :
    Calls Try.prog 20 #[.slice A n c, .int .u32 x] w fun e w' => e = .returned (.tuple #[.int .i64 s, .bool b]) ∧ Below w.heap.size w w' := by
  have := next_any A n c l x w hm B hr hok hx
  rw [h] at this
  exact this
theorem rnext_is (A : Option Addr) (n c : Nat) (l : List Ru) (x : Int) (w : World) (hm : n ≤ 9223372036854775807) (B : Nat) (hr : RdM Ru.cs w B A n c l) (hok : ∀ r ∈ l, r.Ok) (hx : 0 ≤ x ∧ x ≤ 4294967295) (s : Int) (b : Bool) (h : tnext l x = (s, b)) :
    Calls Try.prog 31 #[.slice A n c, .int .u32 x] w fun e w' => e = .returned (.tuple #[.int .i64 s, .bool b]) ∧ Below w.heap.size w w' := by
  have := rnext_any A n c l x w hm B hr hok hx
  rw [h] at this
  exact this
theorem tmay_isA (A : Option Addr) (n c : Nat) (l : List Ru) (nodes : Int) (w : World) (hm : n ≤ 9223372036854775807) (B : Nat) (hr : RdM Ru.cs w B A n c l) (hok : ∀ r ∈ l, r.Ok) (e : Int) (he : tmay l nodes = e) :
    Calls Try.prog 32 #[.slice A n c, .int .i64 nodes] w fun x w' => x = .returned (.int .i64 e) ∧ Below w.heap.size w w' := by
  have := tmay_any A n c l nodes w hm B hr hok
  rw [he] at this
  exact this
theorem rtmay_is (A : Option Addr) (n c : Nat) (l : List Ru) (nodes : Int) (w : World) (hm : n ≤ 9223372036854775807) (B : Nat) (hr : RdM Ru.cs w B A n c l) (hok : ∀ r ∈ l, r.Ok) (e : Int) (he : tmay l nodes = e) :
    Calls Try.prog 33 #[.slice A n c, .int .i64 nodes] w fun x w' => x = .returned (.int .i64 e) ∧ Below w.heap.size w w' := by
  have := rtmay_any A n c l nodes w hm B hr hok
  rw [he] at this
  exact this
set_option maxRecDepth 100000 in
set_option maxHeartbeats 4000000 in
theorem tableAll_walk (A : Option Addr) (n c : Nat) (l : List Ru) {w : World} (hr : RdM Ru.cs w w.heap.size A n c l) (hm : n ≤ 9223372036854775807) (hok : ∀ r ∈ l, r.Ok) (nodes : Int) (hnb : -9223372036854775808 ≤ nodes ∧ nodes ≤ 9223372036854775807) (x : Int) (hx : 0 ≤ x ∧ x ≤ 4294967295) :
    Calls Try.prog 8 #[.slice A n c, .int .i64 nodes, .int .u32 x] w fun e w' => e = .returned (.bool true) ∧ Below w.heap.size w w' := by
  obtain ⟨M, hM, hM1⟩ : ∃ M, min n 30 = M ∧ M ≤ 30 := ⟨_, rfl, by omega⟩
  have hokw : ∀ r ∈ l.take M, r.Ok := fun r h => hok r (List.mem_of_mem_take h)
  obtain ⟨ws, hws⟩ : ∃ ws, l.take M = ws := ⟨_, rfl⟩
  rw [hws] at hokw
  obtain ⟨s, ok, hf⟩ : ∃ s ok, tfind ws x = (s, ok) := ⟨_, _, rfl⟩
  obtain ⟨nm, ng, hn⟩ : ∃ nm ng, tnext ws x = (nm, ng) := ⟨_, _, rfl⟩
  obtain ⟨ee, he⟩ : ∃ ee, tmay ws nodes = ee := ⟨_, rfl⟩
  have HM := Lib.hid hM
  have Hws := Lib.hid hws
  have Hok := Lib.hid hokw
  have Hf := Lib.hid hf
  have Hn := Lib.hid hn
  have He := Lib.hid he
  have Hx := Lib.hid hx
  clear hM hws hokw hf hn he hok hx
  go_enter Try.func8, Try.ntmps8
  go_wp2_with fail
  refine (shown8 _).mono ?_
  rintro e w1 ⟨rfl, hb1⟩
  go_wp2_with fail
  refine (few8 A n c M HM.out l w1 hm _ (hr.step hb1)).mono ?_
  rintro e w0 ⟨A8, rfl, r8, rfl⟩
  rw [Hws.out] at r8
  go_wp2_with fail
  refine (find_is A8 M c ws x w1 (by omega) _ r8 Hok.out Hx.out s ok Hf.out).mono ?_
  rintro e w2 ⟨rfl, hb2⟩
  have B2 := hb1.trans (hb2.mono hb1.size)
  have z2 := B2.size
  have r82 := r8.step hb2
  clear hb1 hb2 r8 hr
  go_upto_region 4 with ((with_reducible refine on_store_at (.tmp 9) ?_); refine wr_store (r := ⟨0, 0, 0, 0⟩) (s := s) rfl _ (.tmp 9) _ rfl st_rule rfl rfl (Box.new w2 _ _) ?_; intro w3 bx9 hg3)
  have B3 := B2.trans ((below_alloc w2 z2 (.cells (Ru.cs ⟨0, 0, 0, 0⟩).toArray 25)).trans (below_of_grown hg3 (fun j e => by injection e with e; omega) (by simp; omega)))
  have k3 : Below w2.heap.size w2 w3 := (below_alloc w2 (Nat.le_refl _) (.cells (Ru.cs ⟨0, 0, 0, 0⟩).toArray 25)).trans (below_of_grown hg3 (fun j e => by injection e with e; omega) (by simp))
  have r83 := r82.step k3
  have z3 := B3.size
  clear hg3 k3 r82
  go_wp2_with fail
  refine (rfind_is A8 M c ws x w3 (by omega) _ r83 Hok.out Hx.out s ok Hf.out).mono ?_
  rintro e w4 ⟨rfl, hb4⟩
  have B4 := B3.trans (hb4.mono z3)
  have z4 := B4.size
  have r84 := r83.step hb4
  have bx94 := bx9.step hb4
  clear hb4 r83 bx9
  go_upto_region 5 with ((with_reducible refine on_store_at (.tmp 11) ?_); refine wr_store (r := ⟨0, 0, 0, 0⟩) (s := s) rfl _ (.tmp 11) _ rfl st_rule rfl rfl (Box.new w4 _ _) ?_; intro w5 bx11 hg5)
  have B5 := B4.trans ((below_alloc w4 z4 (.cells (Ru.cs ⟨0, 0, 0, 0⟩).toArray 25)).trans (below_of_grown hg5 (fun j e => by injection e with e; omega) (by simp; omega)))
  have k5 : Below w4.heap.size w4 w5 := (below_alloc w4 (Nat.le_refl _) (.cells (Ru.cs ⟨0, 0, 0, 0⟩).toArray 25)).trans (below_of_grown hg5 (fun j e => by injection e with e; omega) (by simp))
  have r85 := r84.step k5
  have bx95 := bx94.step k5
  have z5 := B5.size
  clear hg5 k5 r84 bx94
  go_wp2_with fail
  refine (next_isA A8 M c ws x w5 (by omega) _ r85 Hok.out Hx.out nm ng Hn.out).mono ?_
  rintro e w6 ⟨rfl, hb6⟩
  have B6 := B5.trans (hb6.mono z5)
  have z6 := B6.size
  have r86 := r85.step hb6
  have bx96 := bx95.step hb6
  have bx116 := bx11.step hb6
  clear hb6 r85 bx95 bx11
  go_wp2_with fail
  refine (rnext_is A8 M c ws x w6 (by omega) _ r86 Hok.out Hx.out nm ng Hn.out).mono ?_
  rintro e w7 ⟨rfl, hb7⟩
  have B7 := B6.trans (hb7.mono z6)
  have z7 := B7.size
  have r87 := r86.step hb7
  have bx97 := bx96.step hb7
  have bx117 := bx116.step hb7
  clear hb7 r86 bx96 bx116
  go_wp2_with fail
  refine (tmay_isA A8 M c ws nodes w7 (by omega) _ r87 Hok.out ee He.out).mono ?_
  rintro e w8 ⟨rfl, hb8⟩
  have B8 := B7.trans (hb8.mono z7)
  have z8 := B8.size
  have r88 := r87.step hb8
  have bx98 := bx97.step hb8
  have bx118 := bx117.step hb8
  clear hb8 r87 bx97 bx117
  go_wp2_with fail
  refine (rtmay_is A8 M c ws nodes w8 (by omega) _ r88 Hok.out ee He.out).mono ?_
  rintro e w9 ⟨rfl, hb9⟩
  have B9 := B8.trans (hb9.mono z8)
  have bx99 := bx98.step hb9
  have bx119 := bx118.step hb9
  clear hb9 r88 bx98 bx118
  go_wp2_with (first
    | ((with_reducible refine on_load (.tmp 9) ?_); refine wr_box rfl _ (.tmp 9) rfl st_rule rfl bx99 ?_)
    | ((with_reducible refine on_load (.tmp 11) ?_); refine wr_box rfl _ (.tmp 11) rfl st_rule rfl bx119 ?_))
  go_ret
  exact ⟨rfl, B9⟩
end Go.Proofs.Ytijobfkmchbpcaa
