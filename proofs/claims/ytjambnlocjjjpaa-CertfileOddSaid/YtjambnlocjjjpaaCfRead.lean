/-
  certfile's reader: numbers, groups, counts.
-/
import Derived.Test.YtjambnlocjjjpaaCfPut
namespace Go.Proofs.Ytjambnlocjjjpaa
open Go.RowKit Go.Th
set_option linter.unusedVariables false
/-- The reader in a variable: what is left, and the error. -/
structure Rr (w : World) (lo B g : Nat) (nodes : Int) (r : Rs) : Prop where
  ex : ∃ A n c, Box w g 74 #[.slice A n c, .int .i64 nodes, .int .i64 r.2] ∧ RdS bv w B A n c r.1 ∧ n ≤ 1000000 ∧ ∀ k, rowOf A = some k → lo ≤ k
  ge : B ≤ g
theorem Rr.lt {w : World} {lo B g : Nat} {nodes : Int} {r : Rs} (h : Rr w lo B g nodes r) : g < w.heap.size := by
  obtain ⟨⟨A, n, c, hbx, _, _, _⟩, _⟩ := h
  exact hbx.lt
theorem Rr.below {w w' : World} {lo B g : Nat} {nodes : Int} {r : Rs} (h : Rr w lo B g nodes r) (hb : Below w.heap.size w w') : Rr w' lo B g nodes r := by
  obtain ⟨⟨A, n, c, hbx, hr, hn, hlo⟩, hge⟩ := h
  exact ⟨⟨A, n, c, hbx.step hb, hr.step hb, hn, hlo⟩, hge⟩
theorem rowOf_cutA (A : Option Addr) (L M : Nat) : rowOf (cutA A L M) = rowOf A := by
  unfold cutA
  split
  · rfl
  · cases A with
    | none => rfl
    | some a =>
      show some (a.add L).block = some a.block
      unfold Addr.add
      split <;> rfl
theorem cut_l {α : Type} {f : α → Value} {w : World} {B : Nat} {A : Option Addr} {n c : Nat} {xs : List α} (h : RdS f w B A n c xs) (L : Nat) (hL : L ≤ n) : RdS f w B (cutA A L c) (n - L) (c - L) (xs.drop L) := by
  have := h.cut L n c hL h.cap (Nat.le_refl _)
  rwa [List.take_of_length_le (Nat.le_of_eq h.len)] at this
section
variable {P : Program} {ops : Array Oper} {rest : List Oper} {o : Oper} {a : Act} {Q : Exit → Act → World → Prop} {w : World}
/-- s[l:], the place told. -/
theorem wl_cut_lx (hw : Region.wanted o (yielded ops a.tmps) = true) (T : TypeId) (s : Operand) {E bytes : Nat} {z : Value} (el : El P T E z bytes)
    {A : Option Addr} {n c : Nat} (hs : a.eval s = .slice A n c) (hc : n ≤ c) (lo : Operand) (ho : o.op = .slice T s (some lo) Option.none Option.none) {k : IntKind} {I : Int} (hlo : a.eval lo = .int k I) (L : Nat) (hL : I = (L : Int) ∧ L ≤ n)
    (h : wpList P ops Q rest (a.put o.dst (.slice (cutA A L c) (n - L) (c - L))) w) : wpList P ops Q (o :: rest) a w := by
  obtain ⟨rfl, hL⟩ := hL
  refine wl_run hw (v := .slice (cutA A L c) (n - L) (c - L)) (w' := w) ?_ h
  have hb : (Instr.sliceBounds true n c (some (.int k (L : Int))) Option.none Option.none).run P w = .ok (L, n, c) w := bounds_l k hL
  simp only [execOp, ho, hs, hlo, Option.map_some, Option.map_none, Sem.run_bind, Instr.sliceAt, run_underlying el.ht, Instr.slice, hb, el.size, Result.andThen, Sem.run_pure, Nat.mul_one, cutA]
end
theorem rnum_err {s : Nat} {bs : List UInt8} {e : Int} (h : e ≠ 0) : rnum s (bs, e) = (0, (bs, e)) := if_pos h
theorem rnum_short {s : Nat} {bs : List UInt8} (h : bs.length < s) : rnum s (bs, 0) = (0, (bs, 2)) := by
  unfold rnum
  rw [if_neg (by simp), if_pos h]
theorem rnum_yes {s : Nat} {bs : List UInt8} (h : s ≤ bs.length) : rnum s (bs, 0) = ((val (bs.take s) : Int), (bs.drop s, 0)) := by
  unfold rnum
  rw [if_neg (by simp), if_neg (by simp; omega)]
theorem rgrp_err {bs : List UInt8} {e : Int} (h : e ≠ 0) : rgrp (bs, e) = (0, (bs, e)) := if_pos h
theorem rgrp_bad {bs : List UInt8} (h : (gtake bs).2.2 ≠ 0) : rgrp (bs, 0) = (0, (bs, (gtake bs).2.2)) := by
  unfold rgrp
  rw [if_neg (by simp), if_pos h]
theorem rgrp_yes {bs : List UInt8} (h : (gtake bs).2.2 = 0) : rgrp (bs, 0) = (((gtake bs).1 : Int), (bs.drop (gtake bs).2.1, 0)) := by
  unfold rgrp
  rw [if_neg (by simp), if_neg (by simpa using h)]
set_option maxRecDepth 100000 in
set_option maxHeartbeats 2000000 in
theorem rdnum_any (lo B g : Nat) (nodes : Int) (r : Rs) (s : Nat) (S : Int) (hS : (s : Int) = S) (hs : 1 ≤ s ∧ s ≤ 4) (w : World) (h : Rr w lo B g nodes r) :
    Calls Try.prog 32 #[.pointer (some ⟨g, 0, none⟩), .int .i64 S] w (fun e w' => e = .returned (.int .i64 (rnum s r).1) ∧ Rr w' lo B g nodes (rnum s r).2 ∧ w.grownBy w' (some g)) := by
  subst hS
  obtain ⟨bs, e⟩ := r
  obtain ⟨⟨A, n, c, bx, hr, hn, hlo⟩, hge⟩ := h
  have hl := hr.len
  subst hl
  have y0 : w.cell? ⟨g, 0, none⟩ = some (.slice A bs.length c) := bx.cell 0
  have y2 : w.cell? ⟨g, 2, none⟩ = some (.int .i64 e) := bx.cell 2
  by_cases he : e = 0
  · subst he
    have hcap := hr.cap
    have ht : Hid (TS bs s = if bs.length < s then (0, 2) else (val (bs.take s), 0)) := Lib.hid (by unfold TS; rw [if_pos (by omega)]; simp)
    have f0 := bx.frozen 0
    have f2 := bx.frozen 2
    by_cases hlt : bs.length < s
    · rw [rnum_short hlt]
      have bS := bx.setCell 2 (.int .i64 2)
      go_enter Try.func32, Try.ntmps32
      go_wp2_with (go_at_call 50; refine (take_any A bs.length c s w (by omega) B bs hr).mono ?_; rintro e w1 ⟨rfl, rfl⟩; rw [ht.out, if_pos hlt])
      go_ret
      exact ⟨rfl, ⟨⟨A, _, c, bS.1, hr.grown bS.2 (fun g' e => by injection e with e; omega), hn, hlo⟩, hge⟩, bS.2⟩
    · rw [rnum_yes (by omega)]
      go_enter Try.func32, Try.ntmps32
      go_wp2_with (first
        | (go_at_call 50; refine (take_any A bs.length c s w (by omega) B bs hr).mono ?_; rintro e w1 ⟨rfl, rfl⟩; rw [ht.out, if_neg hlt])
        | ((with_reducible refine on_slice (.tmp 31) ?_); refine wl_cut_lx rfl _ _ el_u8 rfl hcap _ rfl rfl s (by omega) ?_; have bS := bx.setCell 0 (.slice (cutA A s c) (bs.length - s) (c - s))))
      go_ret
      exact ⟨rfl, ⟨⟨_, _, _, bS.1, (cut_l hr s (by omega)).grown bS.2 (fun g' e => by injection e with e; omega), by omega, fun k hk => hlo k (by rw [← rowOf_cutA A s c]; exact hk)⟩, hge⟩, bS.2⟩
  · rw [rnum_err he]
    have hb : (e != 0) = true := by simpa using he
    go_enter Try.func32, Try.ntmps32
    go_wp2
    go_ret
    exact ⟨rfl, ⟨⟨A, _, c, bx, hr, hn, hlo⟩, hge⟩, grown_refl _ _⟩
set_option maxRecDepth 100000 in
set_option maxHeartbeats 2000000 in
theorem rdgrp_any (lo B g : Nat) (nodes : Int) (r : Rs) (w : World) (h : Rr w lo B g nodes r) :
    Calls Try.prog 37 #[.pointer (some ⟨g, 0, none⟩)] w (fun e w' => e = .returned (.int .i64 (rgrp r).1) ∧ Rr w' lo B g nodes (rgrp r).2 ∧ w.grownBy w' (some g)) := by
  obtain ⟨bs, e⟩ := r
  obtain ⟨⟨A, n, c, bx, hr, hn, hlo⟩, hge⟩ := h
  have hl := hr.len
  subst hl
  have y0 : w.cell? ⟨g, 0, none⟩ = some (.slice A bs.length c) := bx.cell 0
  have y2 : w.cell? ⟨g, 2, none⟩ = some (.int .i64 e) := bx.cell 2
  by_cases he : e = 0
  · subst he
    have hcap := hr.cap
    have f0 := bx.frozen 0
    have f2 := bx.frozen 2
    by_cases hlt : (gtake bs).2.2 = 0
    · rw [rgrp_yes hlt]
      obtain ⟨x, k, ht, hk⟩ : ∃ x k, gtake bs = (x, k, 0) ∧ k ≤ bs.length := by
        rcases gtake_what bs with h3 | h3 | ⟨x, k, h3, _, _, h4, _⟩
        · rw [h3.1] at hlt; cases hlt
        · rw [h3] at hlt; cases hlt
        · exact ⟨x, k, h3, h4⟩
      rw [ht]
      have Ht := Lib.hid ht
      clear ht hlt
      go_enter Try.func37, Try.ntmps37
      go_wp2_with (first
        | (go_at_call 51; refine (gtake_any A bs.length c w (by omega) B bs hr).mono ?_; rintro e w1 ⟨rfl, rfl⟩; rw [Ht.out])
        | ((with_reducible refine on_slice (.tmp 30) ?_); refine wl_cut_lx rfl _ _ el_u8 rfl hcap _ rfl rfl k (by omega) ?_; have bS := bx.setCell 0 (.slice (cutA A k c) (bs.length - k) (c - k))))
      go_ret
      exact ⟨rfl, ⟨⟨_, _, _, bS.1, (cut_l hr k (by omega)).grown bS.2 (fun g' e => by injection e with e; omega), by omega, fun j hj => hlo j (by rw [← rowOf_cutA A k c]; exact hj)⟩, hge⟩, bS.2⟩
    · rw [rgrp_bad hlt]
      obtain ⟨t, ht⟩ : ∃ t, gtake bs = t := ⟨_, rfl⟩
      rw [ht] at hlt ⊢
      have Ht := Lib.hid ht
      have hb : (t.2.2 != 0) = true := by simpa using hlt
      have bS := bx.setCell 2 (.int .i64 t.2.2)
      clear ht hlt
      go_enter Try.func37, Try.ntmps37
      go_wp2_with (go_at_call 51; refine (gtake_any A bs.length c w (by omega) B bs hr).mono ?_; rintro e w1 ⟨rfl, rfl⟩; rw [Ht.out])
      go_ret
      exact ⟨rfl, ⟨⟨A, _, c, bS.1, hr.grown bS.2 (fun g' e => by injection e with e; omega), hn, hlo⟩, hge⟩, bS.2⟩
  · rw [rgrp_err he]
    have hb : (e != 0) = true := by simpa using he
    go_enter Try.func37, Try.ntmps37
    go_wp2
    go_ret
    exact ⟨rfl, ⟨⟨A, _, c, bx, hr, hn, hlo⟩, hge⟩, grown_refl _ _⟩
set_option maxRecDepth 100000 in
set_option maxHeartbeats 2000000 in
theorem rdfail_any (lo B g : Nat) (nodes : Int) (r : Rs) (er : Int) (w : World) (h : Rr w lo B g nodes r) :
    Calls Try.prog 33 #[.pointer (some ⟨g, 0, none⟩), .int .i64 er] w (fun e w' => e = .returned (.tuple #[]) ∧ Rr w' lo B g nodes (rfail er r) ∧ w.grownBy w' (some g)) := by
  obtain ⟨bs, e⟩ := r
  obtain ⟨⟨A, n, c, bx, hr, hn, hlo⟩, hge⟩ := h
  have y2 : w.cell? ⟨g, 2, none⟩ = some (.int .i64 e) := bx.cell 2
  have f2 := bx.frozen 2
  have bS := bx.setCell 2 (.int .i64 er)
  by_cases he : e = 0
  · have e1 : rfail er (bs, e) = (bs, er) := if_pos he
    rw [e1]
    subst he
    go_enter Try.func33, Try.ntmps33
    go_wp2
    refine bodyPost_end (results_none rfl _ _ _) rfl ?_
    exact ⟨rfl, ⟨⟨A, _, c, bS.1, hr.grown bS.2 (fun g' e => by injection e with e; omega), hn, hlo⟩, hge⟩, bS.2⟩
  · have e1 : rfail er (bs, e) = (bs, e) := if_neg he
    rw [e1]
    have hb : (e == 0) = false := by simpa using he
    go_enter Try.func33, Try.ntmps33
    go_wp2
    refine bodyPost_end (results_none rfl _ _ _) rfl ?_
    exact ⟨rfl, ⟨⟨A, _, c, bx, hr, hn, hlo⟩, hge⟩, grown_refl _ _⟩
set_option maxRecDepth 100000 in
set_option maxHeartbeats 2000000 in
theorem rdcnt_any (lo B g : Nat) (nodes : Int) (r : Rs) (most : Int) (w : World) (h : Rr w lo B g nodes r) :
    Calls Try.prog 34 #[.pointer (some ⟨g, 0, none⟩), .int .i64 most] w (fun e w' => e = .returned (.int .i64 (rcnt most r).1) ∧ Rr w' lo B g nodes (rcnt most r).2 ∧ w.grownBy w' (some g)) := by
  obtain ⟨x, hx⟩ : ∃ x, rgrp r = x := ⟨_, rfl⟩
  have hg := rdgrp_any lo B g nodes r w h
  rw [hx] at hg
  have Hg := Lib.hid hg
  clear hg
  by_cases hm : most < x.1
  · have e1 : rcnt most r = (0, rfail 12 x.2) := by unfold rcnt; rw [hx, if_pos hm]
    rw [e1]
    clear e1 hx
    have h1 : decide (x.1 > most) = true := by simpa using hm
    go_enter Try.func34, Try.ntmps34
    go_wp2_with (first
      | (go_at_call 37; refine (Hg.out).mono ?_; rintro e w1 ⟨rfl, R1, g1⟩)
      | (go_at_call 33; refine (rdfail_any lo B g nodes x.2 12 w1 R1).mono ?_; rintro e w2 ⟨rfl, R2, g2⟩))
    go_ret
    exact ⟨rfl, R2, grown_trans g1 g2⟩
  · have e1 : rcnt most r = x := by unfold rcnt; rw [hx, if_neg hm]
    rw [e1]
    clear e1 hx
    have h1 : decide (x.1 > most) = false := by simpa using hm
    go_enter Try.func34, Try.ntmps34
    go_wp2_with (go_at_call 37; refine (Hg.out).mono ?_; rintro e w1 ⟨rfl, R1, g1⟩)
    go_ret
    exact ⟨rfl, R1, g1⟩
end Go.Proofs.Ytjambnlocjjjpaa
