/-
  The steps of a network as a function that is ranged over: they may go on for ever, so the number of rounds is bounded by the body's own invariant.
-/
import Derived.RangeFuncNested
import Derived.RangeFuncBound
import Derived.RangeFuncCalls
import Derived.RangeFuncLeaves
import Derived.Shelf.Abstract
import Derived.Shelf.RegionOpen
import Derived.WalkKit
import Derived.OwnWalkIn
import Derived.TacticsInMore
import Derived.LoopNIn
import Derived.LoopIn
import Derived.Test.YtdmkiejaejlajaaNhStep
namespace Go.Th
open Go.RowKit
set_option linter.unusedVariables false
/-- A loop whose relation counts the rounds, and bounds them. -/
theorem rounds_ind {F : Fence} {n : Nat} {P : Program} {c : Code} {Q : Exit → Act → World → Prop} (N : Nat) (Inv : Nat → Act → World → Prop)
    (h : ∀ k a w, Inv k a w → k ≤ N ∧ c.wpIn F n P (Exit.then (Inv (k + 1)) Q) a w) (k : Nat) (a : Act) (w : World) (h0 : Inv k a w) : (Code.loop c).wpIn F n P Q a w := by
  have key : ∀ m k a w, Inv k a w → N < k + m → Code.roundsIn F n P c Q m a w := by
    intro m
    induction m with
    | zero => intro k a w hi hk; have := (h k a w hi).1; omega
    | succ m ih =>
      intro k a w hi hk
      rw [roundsIn_succ]
      refine wpIn_mono (h k a w hi).2 fun e a' w' hq => ?_
      cases e <;> first | exact ih _ _ _ hq (by omega) | exact hq
  exact wpIn_loop_rounds (N + 1) (key _ k a w h0 (by omega))
/-- Two blocks lie as they lay: the loop's own. -/
def KeepL (B : Nat) (W W' : World) : Prop := W.heap.size ≤ W'.heap.size ∧ W'.heap[B]? = W.heap[B]? ∧ W'.heap[B + 1]? = W.heap[B + 1]?
theorem KeepL.refl (B : Nat) (W : World) : KeepL B W W := ⟨Nat.le_refl _, rfl, rfl⟩
theorem KeepL.trans {B : Nat} {X Y Z : World} (h : KeepL B X Y) (k : KeepL B Y Z) : KeepL B X Z := ⟨Nat.le_trans h.1 k.1, k.2.1.trans h.2.1, k.2.2.trans h.2.2⟩
theorem KeepL.below {B : Nat} {W W' : World} (hB : B + 1 < W.heap.size) (h : Below W.heap.size W W') : KeepL B W W' := ⟨h.size, h.block B (by omega), h.block (B + 1) hB⟩
theorem KeepL.grown {B : Nat} {W W' : World} {row : Option Nat} (hB : B + 1 < W.heap.size) (h : W.grownBy W' row) (hr : ∀ j, row = some j → j ≠ B ∧ j ≠ B + 1) : KeepL B W W' :=
  ⟨h.size, h.block B (by omega) (fun e => (hr _ e.symm).1 rfl), h.block (B + 1) hB (fun e => (hr _ e.symm).2 rfl)⟩
/-- The ways in which a round may be left. -/
def roundQ (B : Nat) (I : Nat → World → Prop) (Ix : Code → World → Prop) (k : Nat) (W : World) : Exit → Act → World → Prop
  | .normal, _, W' => KeepL B W W' ∧ I (k + 1) W'
  | .ret, _, W' => KeepL B W W' ∧ Ix .ret W'
  | .exit id, _, W' => KeepL B W W' ∧ Ix (.exit id) W'
  | .goto t, _, W' => KeepL B W W' ∧ Ix (.goto t) W'
  | .panic _, _, _ => False
  | .outgrown, _, _ => False
end Go.Th
namespace Go.Proofs.Ytdmkiejaejlajaa
open Go.RowKit Go.Th Go.Shelf
attribute [local go_sem] Oper.semAt_some
set_option linter.unusedVariables false
/-- Where so many steps lead, each whatever the one ahead led to. -/
def sit (ls : List (List Ru)) (a v : Int) : Nat → Int × Bool
  | 0 => (v, true)
  | k + 1 => nstep ls a (sit ls a v k).1
/-- What network.steps has captured. -/
structure Cap (w : World) (B g1 g2 g3 : Nat) (A : Option Addr) (n c : Nat) (ns : List Nd) (a v : Int) : Prop where
  net : Box w g1 24 #[.slice A n c]
  ca : Box w g2 25 #[.int .u32 a]
  cv : Box w g3 3 #[.int .i64 v]
  rd : NRd w B A n c ns
theorem Cap.step {w w' : World} {B g1 g2 g3 : Nat} {A : Option Addr} {n c : Nat} {ns : List Nd} {a v : Int} (h : Cap w B g1 g2 g3 A n c ns a v) (hb : Below w.heap.size w w') : Cap w' B g1 g2 g3 A n c ns a v :=
  ⟨h.net.step hb, h.ca.step hb, h.cv.step hb, h.rd.step hb⟩
theorem Cap.grown {w w' : World} {B g1 g2 g3 r : Nat} {A : Option Addr} {n c : Nat} {ns : List Nd} {a v : Int} (h : Cap w B g1 g2 g3 A n c ns a v) (hg : w.grownBy w' (some r)) (h1 : g1 ≠ r) (h2 : g2 ≠ r) (h3 : g3 ≠ r) (hB : B ≤ r) (hs : B ≤ w.heap.size) : Cap w' B g1 g2 g3 A n c ns a v :=
  ⟨h.net.grown hg (fun e => by injection e with e; exact h1 e.symm), h.ca.grown hg (fun e => by injection e with e; exact h2 e.symm), h.cv.grown hg (fun e => by injection e with e; exact h3 e.symm), h.rd.below (below_of_grown hg (fun j e => by injection e with e; omega) hs)⟩
set_option maxRecDepth 100000 in
set_option maxHeartbeats 4000000 in
theorem steps1_in (m l B0 g1 g2 g3 : Nat) (A : Option Addr) (n c : Nat) (ns : List Nd) (a v : Int) (hn : n ≤ 9223372036854775807) (ha : 0 ≤ a ∧ a ≤ 4294967295) (hx : ∀ x ∈ ns, x.n ≤ 9223372036854775807)
    (N : Nat) (J : Nat → World → Prop) (Jx : World → Prop) (hN : ∀ k W, J k W → k ≤ N) (hb : ∀ k W W', J k W → Below W.heap.size W W' → J k W')
    (hrd : ∀ k W, J k W → Cap W B0 g1 g2 g3 A n c ns a v)
    (hY : ∀ k W, J k W → (sit (Nd.ls ns) a v (k + 1)).2 = true → YieldAt Fence.wide (m - 1) Try.prog l #[.int .i64 (sit (Nd.ls ns) a v (k + 1)).1] W fun e W' => (e = .returned (.bool true) ∧ J (k + 1) W') ∨ (e = .returned (.bool false) ∧ Jx W'))
    (W : World) (h0 : J 0 W) :
    CallsIn Fence.wide m Try.prog 37 #[.func (.yield l) #[] #[], .pointer (some ⟨g1, 0, none⟩), .pointer (some ⟨g2, 0, none⟩), .pointer (some ⟨g3, 0, none⟩)] W
      (fun e W' => (∃ x, e = .returned x) ∧ ((∃ k, (sit (Nd.ls ns) a v (k + 1)).2 = false ∧ J k W') ∨ Jx W')) := by
  have hC := hrd 0 W h0
  have y1 : W.cell? ⟨g1, 0, none⟩ = some (.slice A n c) := hC.net.cell 0
  have y2 : W.cell? ⟨g2, 0, none⟩ = some (.int .u32 a) := hC.ca.cell 0
  have y3 : W.cell? ⟨g3, 0, none⟩ = some (.int .i64 v) := hC.cv.cell 0
  obtain ⟨p, hp⟩ : ∃ p, nstep (Nd.ls ns) a v = p := ⟨_, rfl⟩
  have K1 := Lib.hid (step_any A n c ns a v W hn ha hx B0 hC.rd p.1 p.2 (Lib.hid hp))
  refine callsIn_of_wp Try.func37 rfl trivial ?_ rfl
  simp only [Try.ntmps37, List.size_toArray, List.length_cons, List.length_nil, Nat.reduceAdd, Nat.reduceSub, Array.replicate_succ, Array.replicate_zero, List.push_toArray, List.append_toArray, List.nil_append, List.cons_append]
  gi_wp2_with (refine ⟨trivial, (fun h => by cases h), ?_⟩; gi_at_call 13; refine (callsIn_wide.2 K1.out).mono ?_; rintro e w1 ⟨rfl, hb1⟩)
  subst hp
  refine rounds_ind N (fun k act W => J k W ∧ ∃ u4 u7 u8 u9 u10 u11 u12 u13 u14 u15 u16 u17 u18 u19 u20 u21 u22 u23 u24 u25 u26 : Value, act = ({ tmps := #[.func (.yield l) #[] #[], .pointer (some ⟨g1, 0, none⟩), .pointer (some ⟨g2, 0, none⟩), .pointer (some ⟨g3, 0, none⟩), u4, .int .i64 (sit (Nd.ls ns) a v (k + 1)).1, .bool (sit (Nd.ls ns) a v (k + 1)).2, u7, u8, u9, u10, u11, u12, u13, u14, u15, u16, u17, u18, u19, u20, u21, u22, u23, u24, u25, u26], defers := [] } : Act)) ?_ 0 _ _ ⟨hb 0 W w1 h0 hb1, _, _, _, _, _, _, _, _, _, _, _, _, _, _, _, _, _, _, _, _, _, rfl⟩
  clear hb1 w1 K1 y1 y2 y3 hC h0 W
  rintro k act W ⟨hJ, u4, u7, u8, u9, u10, u11, u12, u13, u14, u15, u16, u17, u18, u19, u20, u21, u22, u23, u24, u25, u26, rfl⟩
  refine ⟨hN k W hJ, ?_⟩
  obtain ⟨q, hq⟩ : ∃ q, sit (Nd.ls ns) a v (k + 1) = q := ⟨_, rfl⟩
  have hq2 : sit (Nd.ls ns) a v (k + 2) = nstep (Nd.ls ns) a q.1 := by rw [← hq]; rfl
  obtain ⟨x, b⟩ := q
  cases b with
  | false =>
    rw [hq]
    gi_wp2
    refine ⟨fun _ h => (by cases h), ?_⟩
    gi_wp2
    go_end0
    exact ⟨⟨_, rfl⟩, .inl ⟨k, by rw [hq], hJ⟩⟩
  | true =>
    obtain ⟨fn, tmps, assign, body, hy, hR⟩ := hY k W hJ (by rw [hq])
    rw [hq] at hy ⊢
    dsimp only at hy
    gi_wp2
    refine ⟨(fun h => by cases h), hR.mono ?_⟩
    rintro e W3 (⟨rfl, hJ3⟩ | ⟨rfl, hJx⟩)
    · have hC := hrd (k + 1) W3 hJ3
      have y1 : W3.cell? ⟨g1, 0, none⟩ = some (.slice A n c) := hC.net.cell 0
      have y2 : W3.cell? ⟨g2, 0, none⟩ = some (.int .u32 a) := hC.ca.cell 0
      obtain ⟨p, hp⟩ : ∃ p, nstep (Nd.ls ns) a x = p := ⟨_, rfl⟩
      have K1 := Lib.hid (step_any A n c ns a x W3 hn ha hx B0 hC.rd p.1 p.2 (Lib.hid hp))
      gi_wp2_with (refine ⟨trivial, (fun h => by cases h), ?_⟩; gi_at_call 13; refine (callsIn_wide.2 K1.out).mono ?_; rintro e w1 ⟨rfl, hb1⟩)
      exact ⟨hb _ _ _ hJ3 hb1, _, _, _, _, _, _, _, _, _, _, _, _, _, _, _, _, _, _, _, _, _, by rw [hq2, hp]⟩
    · gi_wp2
      go_end0
      exact ⟨⟨_, rfl⟩, .inr hJx⟩
set_option maxRecDepth 100000 in
set_option maxHeartbeats 4000000 in
/-- 'for x := range steps(n, a, v)': the body's invariant I counts and bounds the rounds. -/
theorem range_steps {g : Operand} {ps : Array Tmp} {assign body : Code} {Q : Exit → Act → World → Prop} {act : Act} {w : World} (m B0 g1 g2 g3 : Nat) (A : Option Addr) (n c : Nat) (ns : List Nd) (a v : Int)
    (hn : n ≤ 9223372036854775807) (ha : 0 ≤ a ∧ a ≤ 4294967295) (hx : ∀ x ∈ ns, x.n ≤ 9223372036854775807)
    (hg : act.eval g = .func (.func 37) #[] #[.pointer (some ⟨g1, 0, none⟩), .pointer (some ⟨g2, 0, none⟩), .pointer (some ⟨g3, 0, none⟩)]) (hps : ps.size = 1)
    (N : Nat) (I : Nat → World → Prop) (Ix : Code → World → Prop) (hN : ∀ k W, I k W → k ≤ N) (hIb : ∀ k W W', I k W → Below W.heap.size W W' → I k W')
    (hIg : ∀ k W W' r, I k W → W.grownBy W' (some r) → w.heap.size ≤ r → r ≤ w.heap.size + 1 → (∃ o : Obj, W.heap[r]? = some o ∧ o.isCells = false) → I k W')
    (hXg : ∀ c W W' r, Ix c W → W.grownBy W' (some r) → w.heap.size ≤ r → r ≤ w.heap.size + 1 → (∃ o : Obj, W.heap[r]? = some o ∧ o.isCells = false) → Ix c W')
    (hrd : ∀ k W, I k W → Cap W B0 g1 g2 g3 A n c ns a v) (h0 : I 0 w)
    (hround : ∀ (l k : Nat) (W : World) (K : Act → World → Prop), w.heap.size + 1 < W.heap.size → I k W → (sit (Nd.ls ns) a v (k + 1)).2 = true →
      (∀ a₁, (∀ W2, W2.heap.size = W.heap.size → I k W2 → body.wpIn (Fence.wide.inRound l) (m - 1 - 1) Try.prog (roundQ w.heap.size I Ix k W2) a₁ W2) → K a₁ W) →
      assign.wpIn (Fence.wide.inRound l) (m - 1 - 1) Try.prog (Exit.then K (fun _ _ _ => False)) { tmps := (ps.zip #[.int .i64 (sit (Nd.ls ns) a v (k + 1)).1]).foldl (fun t (p, u) => t.setIfInBounds p u) act.tmps, defers := [] } W)
    (hdone : ∀ (k : Nat) (W : World), (sit (Nd.ls ns) a v (k + 1)).2 = false → I k W → W.heap[w.heap.size]? = some (.deferred (some [])) → Q .normal { act with defers := { target := .collected w.heap.size, args := #[] } :: act.defers } W)
    (hstop : ∀ (c : Code) (W : World), Ix c W → W.heap[w.heap.size]? = some (.deferred (some [])) → c.wpIn Fence.wide m Try.prog Q { act with defers := { target := .collected w.heap.size, args := #[] } :: act.defers } W) :
    (Code.rangeFunc g ps assign body).wpIn Fence.wide m Try.prog Q act w := by
  obtain ⟨B, hB⟩ : ∃ B, w.heap.size = B := ⟨_, rfl⟩
  refine wpIn_rangeFunc fun fn hfn => ?_
  rw [show Fence.wide.round = none from rfl]
  obtain ⟨rc, hrc⟩ : ∃ rc : LoopState → Option Code → Obj, rc = fun st pe => .loop { state := st, pending := pe, fn, tmps := act.tmps, params := ps, assign, body, defers := w.heap.size } := ⟨_, rfl⟩
  have nc : ∀ st pe, (rc st pe).isCells = false := fun st pe => by rw [hrc]; rfl
  obtain ⟨W1, hW1⟩ : ∃ W1, (w.alloc (.deferred (some []))).alloc (rc .ready none) = W1 := ⟨_, rfl⟩
  have hd1 : W1.heap[B]? = some (.deferred (some [])) := by
    rw [← hW1, ← hB]
    exact (Below.heap_alloc _ _ _ (by simp)).trans (World.alloc_heap_new w _)
  have hl1 : W1.heap[B + 1]? = some (rc .ready none) := by
    have := World.alloc_heap_new (w.alloc (.deferred (some []))) (rc .ready none)
    rw [World.size_alloc, hB, hW1] at this
    exact this
  have hI1 : I 0 W1 := by
    rw [← hW1]
    exact hIb _ _ _ (hIb _ _ _ h0 (below_alloc w (Nat.le_refl _) _)) (below_alloc _ (Nat.le_refl _) _)
  rw [hB] at hIg hXg hround hdone hstop
  refine ⟨B + 1, [{ target := .collected B, args := #[] }], W1, { target := .fn (.func 37) #[.pointer (some ⟨g1, 0, none⟩), .pointer (some ⟨g2, 0, none⟩), .pointer (some ⟨g3, 0, none⟩)], args := #[.func (.yield (B + 1)) #[] #[]] }, W1, 37,
    #[.func (.yield (B + 1)) #[] #[]] ++ #[.pointer (some ⟨g1, 0, none⟩), .pointer (some ⟨g2, 0, none⟩), .pointer (some ⟨g3, 0, none⟩)], W1, ?_, ?_, fun _ _ => trivial, ?_, fun h => (by cases h), ?_⟩
  · rw [← hW1, ← hB, hrc]
    exact run_enterLoop_outer _ _ _ _ _
  · simp only [resolve, hg]
    simp [go_sem]
  · simp [invoke, go_sem]
  refine (steps1_in (m - 1) (B + 1) B0 g1 g2 g3 A n c ns a v hn ha hx N
    (fun k W => I k W ∧ W.heap[B + 1]? = some (rc .ready none) ∧ W.heap[B]? = some (.deferred (some [])))
    (fun W => ∃ c, Ix c W ∧ W.heap[B + 1]? = some (rc .done (some c)) ∧ W.heap[B]? = some (.deferred (some [])))
    (fun k W h => hN k W h.1) (fun k W W' h hb => ⟨hIb k W W' h.1 hb, (hb.block _ (Array.getElem?_eq_some_iff.1 h.2.1).1).trans h.2.1, (hb.block _ (Array.getElem?_eq_some_iff.1 h.2.2).1).trans h.2.2⟩)
    (fun k W h => hrd k W h.1) ?_ W1 ⟨hI1, hl1, hd1⟩).mono ?_
  · rintro k W ⟨hi, hl, hd⟩ hgo
    have hlt : B + 1 < W.heap.size := (Array.getElem?_eq_some_iff.1 hl).1
    have hl' := hl
    rw [hrc] at hl'
    refine ⟨fn, _, assign, body, run_yield (P := Try.prog) (args := #[.int .i64 (sit (Nd.ls ns) a v (k + 1)).1]) hl' (by simp [hps]), roundIn_of_wpIn hfn (hround _ k W _ hlt hi hgo fun a₁ hbody => ⟨_, run_beginRound hl' rfl, ?_⟩)⟩
    obtain ⟨W2, hW2⟩ : ∃ W2, W.putObj (B + 1) (rc .busy none) = W2 := ⟨_, rfl⟩
    have hW2' := hW2
    rw [hrc] at hW2'
    dsimp only at hW2' ⊢
    rw [hW2']
    have hs2 : W2.heap.size = W.heap.size := by rw [← hW2]; exact World.putObj_size
    have hl2 : W2.heap[B + 1]? = some (rc .busy none) := by rw [← hW2]; exact World.putObj_heap_same hlt
    have hd2 : W2.heap[B]? = some (.deferred (some [])) := by rw [← hW2]; exact (World.putObj_heap_other (by omega)).trans hd
    have hi2 : I k W2 := by rw [← hW2]; exact hIg k W _ (B + 1) hi (grownBy_putObj' W _ _) (by omega) (by omega) ⟨_, hl, nc _ _⟩
    have fin : ∀ (j : Option Code) (W3 : World), KeepL B W2 W3 → (Instr.endRound (B + 1) j).run Try.prog W3 = .ok (.bool j.isNone) (W3.putObj (B + 1) (rc (if j.isNone then .ready else .done) j)) ∧
        (W3.putObj (B + 1) (rc (if j.isNone then .ready else .done) j)).heap[B + 1]? = some (rc (if j.isNone then .ready else .done) j) ∧
        (W3.putObj (B + 1) (rc (if j.isNone then .ready else .done) j)).heap[B]? = some (.deferred (some [])) ∧ (∃ o : Obj, W3.heap[B + 1]? = some o ∧ o.isCells = false) := fun j W3 hk => by
      have hl3 := hk.2.2.trans hl2
      have hr := run_endRound (P := Try.prog) (l := B + 1) j (by rw [hl3, hrc])
      refine ⟨?_, World.putObj_heap_same (by have := hk.1; omega), (World.putObj_heap_other (by omega)).trans (hk.2.1.trans hd2), _, hl3, nc _ _⟩
      rw [hr, hrc]
    refine wpIn_mono (hbody W2 hs2 hi2) fun e a3 W3 hp => ?_
    cases e with
    | normal =>
      obtain ⟨hk3, hi3⟩ := hp
      obtain ⟨h1, h2, h3, h4⟩ := fin none W3 hk3
      exact ⟨_, _, h1, .inl ⟨rfl, hIg _ _ _ _ hi3 (grownBy_putObj' W3 _ _) (by omega) (by omega) h4, h2, h3⟩⟩
    | ret =>
      obtain ⟨hk3, hi3⟩ := hp
      obtain ⟨h1, h2, h3, h4⟩ := fin (some .ret) W3 hk3
      exact ⟨_, _, h1, .inr ⟨rfl, _, hXg _ _ _ _ hi3 (grownBy_putObj' W3 _ _) (by omega) (by omega) h4, h2, h3⟩⟩
    | exit id =>
      obtain ⟨hk3, hi3⟩ := hp
      obtain ⟨h1, h2, h3, h4⟩ := fin (some (.exit id)) W3 hk3
      exact ⟨_, _, h1, .inr ⟨rfl, _, hXg _ _ _ _ hi3 (grownBy_putObj' W3 _ _) (by omega) (by omega) h4, h2, h3⟩⟩
    | goto t =>
      obtain ⟨hk3, hi3⟩ := hp
      obtain ⟨h1, h2, h3, h4⟩ := fin (some (.goto t)) W3 hk3
      exact ⟨_, _, h1, .inr ⟨rfl, _, hXg _ _ _ _ hi3 (grownBy_putObj' W3 _ _) (by omega) (by omega) h4, h2, h3⟩⟩
    | panic ch => exact hp.elim
    | outgrown => exact hp.elim
  · rintro e W2 ⟨⟨y, rfl⟩, ⟨k, hgo, hi, hl, hd⟩ | ⟨c, hi, hl, hd⟩⟩
    · have hl' := hl
      rw [hrc] at hl'
      exact ⟨none, _, run_endLoop (P := Try.prog) hl' (by simp), hdone k _ hgo (hIg _ _ _ _ hi (grownBy_putObj' W2 _ _) (by omega) (by omega) ⟨_, hl, nc _ _⟩) ((World.putObj_heap_other (by omega)).trans hd)⟩
    · have hl' := hl
      rw [hrc] at hl'
      exact ⟨some c, _, run_endLoop (P := Try.prog) hl' (by simp), hstop c _ (hXg _ _ _ _ hi (grownBy_putObj' W2 _ _) (by omega) (by omega) ⟨_, hl, nc _ _⟩) ((World.putObj_heap_other (by omega)).trans hd)⟩
end Go.Proofs.Ytdmkiejaejlajaa
