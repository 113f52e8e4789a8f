/-
  network.steps, network.Walk.
-/
import Derived.Test.YtdmkiejaejlajaaNhRange
namespace Go.Th
open Go.RowKit
set_option linter.unusedVariables false
theorem retM0 {F : Fence} {n : Nat} {P : Program} {fn : Func} {R : Ending → World → Prop} {tmps : Array Value} {w : World} {v : Value} (hr : (results fn tmps).run P w = .ok v w) (h : R (.returned v) w) : LeavesInM F n P fn tmps R [] .returning w := ⟨v, hr, h⟩
theorem retM1 {F : Fence} {n : Nat} {P : Program} {fn : Func} {R : Ending → World → Prop} {tmps : Array Value} {D : Nat} {w : World} {v : Value} (hK : w.heap[D]? = some (.deferred (some []))) (hr : (results fn tmps).run P (w.putObj D (.deferred none)) = .ok v (w.putObj D (.deferred none))) (h : R (.returned v) (w.putObj D (.deferred none))) :
    LeavesInM F n P fn tmps R [{ target := .collected D, args := #[] }] .returning w :=
  ⟨by simp, .inl ⟨_, _, rfl, run_takeDeferred hK, retM0 hr h⟩⟩
end Go.Th
namespace Go.Proofs.Ytdmkiejaejlajaa
open Go.RowKit Go.Th Go.Shelf
attribute [local go_sem] Oper.semAt_some
set_option linter.unusedVariables false
theorem steps_any (A : Option Addr) (n c : Nat) (ns : List Nd) (a v : Int) (w : World) (B : Nat) (hr : NRd w B A n c ns) :
    Calls Try.prog 27 #[.agg #[.slice A n c], .int .u32 a, .int .i64 v] w (fun e w' => ∃ g1 g2 g3, e = .returned (.func (.func 37) #[] #[.pointer (some ⟨g1, 0, none⟩), .pointer (some ⟨g2, 0, none⟩), .pointer (some ⟨g3, 0, none⟩)]) ∧ Cap w' B g1 g2 g3 A n c ns a v ∧ Below w.heap.size w w' ∧ w.heap.size ≤ g1 ∧ w.heap.size ≤ g2 ∧ w.heap.size ≤ g3) := by
  have hmf : ∀ (fn : Fn) (first cap : Array Value) (w : World), (Instr.makeFunc fn first cap).run Try.prog w = .ok (.func fn first cap) w := fun _ _ _ _ => rfl
  have k0 := below_alloc w (Nat.le_refl _) (.cells #[.slice A n c] 24)
  have k1 := k0.trans ((below_alloc _ (Nat.le_refl _) (.cells #[.int .u32 a] 25)).mono k0.size)
  have k2 := k1.trans ((below_alloc _ (Nat.le_refl _) (.cells #[.int .i64 v] 3)).mono k1.size)
  have b1 := ((Box.new w #[.slice A n c] 24).alloc (.cells #[.int .u32 a] 25)).alloc (.cells #[.int .i64 v] 3)
  have b2 := (Box.new (w.alloc (.cells #[.slice A n c] 24)) #[.int .u32 a] 25).alloc (.cells #[.int .i64 v] 3)
  have b3 := Box.new ((w.alloc (.cells #[.slice A n c] 24)).alloc (.cells #[.int .u32 a] 25)) #[.int .i64 v] 3
  go_enter Try.func27, Try.ntmps27
  go_wp2
  go_ret
  exact ⟨_, _, _, rfl, ⟨b1, by simpa using b2, by simpa using b3, hr.step k2⟩, k2, by omega, by omega, by omega⟩
/-- Where so many steps lead. -/
def wgo (ls : List (List Ru)) (a v : Int) : Nat → Int × Bool
  | 0 => (v, true)
  | k + 1 => if (wgo ls a v k).2 = true then nstep ls a (wgo ls a v k).1 else (0, false)
def walkT (ls : List (List Ru)) (a v K : Int) : Int × Bool := if K < 0 ∨ 256 < K ∨ ¬ (0 ≤ v ∧ v < (ls.length : Int)) then (0, false) else wgo ls a v K.toNat
theorem nstep_no {ls : List (List Ru)} {a v : Int} (h : (nstep ls a v).2 = false) : nstep ls a v = (0, false) := by
  unfold nstep tnext at *
  split
  · rename_i h1
    rw [if_pos h1] at h
    split
    · rename_i h2
      rw [if_pos h2] at h
      cases h
    · rfl
  · rfl
theorem wgo_sit {ls : List (List Ru)} {a v : Int} : ∀ {k : Nat}, (∀ j, j ≤ k → (sit ls a v j).2 = true) → wgo ls a v k = sit ls a v k
  | 0, _ => rfl
  | k + 1, h => by
    have ih := wgo_sit (k := k) (fun j hj => h j (by omega))
    rw [wgo, ih, if_pos (h k (by omega)), sit]
theorem wgo_off {ls : List (List Ru)} {a v : Int} {k : Nat} (h : (wgo ls a v k).2 = false) (hk : 0 < k) : ∀ m, wgo ls a v (k + m) = (0, false)
  | 0 => by
    obtain ⟨j, rfl⟩ : ∃ j, k = j + 1 := ⟨k - 1, by omega⟩
    rw [Nat.add_zero, wgo]
    rw [wgo] at h
    split
    · rename_i h1
      rw [if_pos h1] at h
      exact nstep_no h
    · rfl
  | m + 1 => by
    have ih := wgo_off h hk m
    rw [show k + (m + 1) = (k + m) + 1 by omega, wgo, ih]
    simp
theorem results_ib {P : Program} {fn : Func} {p u : Tmp} {ty ty2 : TypeId} (h : fn.results = #[.cell p ty, .cell u ty2]) (tmps : Array Value) (w : World) (g g2 : Nat) {k : IntKind} {z : Int} {b : Bool}
    (hp : tmps.getD p undef = .pointer (some ⟨g, 0, none⟩)) (hg : w.cell? ⟨g, 0, none⟩ = some (.int k z)) (hp2 : tmps.getD u undef = .pointer (some ⟨g2, 0, none⟩)) (hg2 : w.cell? ⟨g2, 0, none⟩ = some (.bool b))
    (hu : P.underlying ty = some (.int k)) (hu2 : P.underlying ty2 = some .bool) :
    (results fn tmps).run P w = .ok (.tuple #[.int k z, .bool b]) w := by
  have hp' : tmps[p]?.getD undef = .pointer (some ⟨g, 0, none⟩) := by simpa using hp
  have hu' : tmps[u]?.getD undef = .pointer (some ⟨g2, 0, none⟩) := by simpa using hp2
  have e1 : (loadVar ty ⟨g, 0, none⟩).run P w = .ok (.int k z) w := by
    simp [loadVar, isAgg, run_underlying hu, hg]
  have e2 : (loadVar ty2 ⟨g2, 0, none⟩).run P w = .ok (.bool b) w := by
    simp [loadVar, isAgg, run_underlying hu2, hg2]
  simp [results, h, hp', hu', asAddr, e1, e2]
/-- Two variables, one behind the other written. -/
theorem two_set {w : World} {g g2 : Nat} {t t2 : TypeId} {x y : Value} (b : Box w g t #[x]) (b2 : Box w g2 t2 #[y]) (hne : g ≠ g2) (p q : Value) :
    Box (w.setCell ⟨g, 0, none⟩ p) g2 t2 #[y] ∧ Box ((w.setCell ⟨g, 0, none⟩ p).setCell ⟨g2, 0, none⟩ q) g t #[p] ∧ Box ((w.setCell ⟨g, 0, none⟩ p).setCell ⟨g2, 0, none⟩ q) g2 t2 #[q] ∧
      w.grownBy (w.setCell ⟨g, 0, none⟩ p) (some g) ∧ (w.setCell ⟨g, 0, none⟩ p).grownBy ((w.setCell ⟨g, 0, none⟩ p).setCell ⟨g2, 0, none⟩ q) (some g2) := by
  have s1 := b.setCell 0 p
  have b3 := b2.grown s1.2 (fun e => by injection e with e; exact hne e)
  have s2 := b3.setCell 0 q
  exact ⟨b3, s1.1.grown s2.2 (fun e => by injection e with e; exact hne e.symm), s2.1, s1.2, s2.2⟩
/-- Between two rounds of Walk. -/
structure WInv (w w3 : World) (g1 g2 g3 gk g8 g9 gd : Nat) (A : Option Addr) (n c : Nat) (ns : List Nd) (a v : Int) (kn k : Nat) (W : World) : Prop where
  lt : k < kn
  goes : ∀ j, j ≤ k → (sit (Nd.ls ns) a v j).2 = true
  bel : Below w.heap.size w W
  cap : Cap W w.heap.size g1 g2 g3 A n c ns a v
  bk : Box W gk 3 #[.int .i64 kn]
  b8 : Box W g8 3 #[.int .i64 0]
  b9 : Box W g9 4 #[.bool false]
  bd : Box W gd 3 #[.int .i64 k]
theorem WInv.below {w w3 : World} {g1 g2 g3 gk g8 g9 gd : Nat} {A : Option Addr} {n c : Nat} {ns : List Nd} {a v : Int} {kn k : Nat} {W W' : World} (h : WInv w w3 g1 g2 g3 gk g8 g9 gd A n c ns a v kn k W) (hb : Below W.heap.size W W') : WInv w w3 g1 g2 g3 gk g8 g9 gd A n c ns a v kn k W' :=
  ⟨h.lt, h.goes, h.bel.trans (hb.mono h.bel.size), h.cap.step hb, h.bk.step hb, h.b8.step hb, h.b9.step hb, h.bd.step hb⟩
theorem WInv.grown {w w3 : World} {g1 g2 g3 gk g8 g9 gd r : Nat} {A : Option Addr} {n c : Nat} {ns : List Nd} {a v : Int} {kn k : Nat} {W W' : World} (h : WInv w w3 g1 g2 g3 gk g8 g9 gd A n c ns a v kn k W) (hg : W.grownBy W' (some r))
    (hr : g1 < r ∧ g2 < r ∧ g3 < r ∧ gk < r ∧ g8 < r ∧ g9 < r ∧ gd < r ∧ w.heap.size ≤ r) : WInv w w3 g1 g2 g3 gk g8 g9 gd A n c ns a v kn k W' :=
  ⟨h.lt, h.goes, h.bel.trans (below_of_grown hg (fun j e => by injection e with e; omega) h.bel.size), h.cap.grown hg (by omega) (by omega) (by omega) (by omega) h.bel.size, h.bk.grown hg (fun e => by injection e with e; omega), h.b8.grown hg (fun e => by injection e with e; omega), h.b9.grown hg (fun e => by injection e with e; omega), h.bd.grown hg (fun e => by injection e with e; omega)⟩
/-- Behind Walk's 'return' in a round. -/
structure WOut (w : World) (g8 g9 : Nat) (u : Int) (c : Code) (W : World) : Prop where
  code : c = .ret
  bel : Below w.heap.size w W
  b8 : Box W g8 3 #[.int .i64 u]
  b9 : Box W g9 4 #[.bool true]
theorem WOut.grown {w : World} {g8 g9 r : Nat} {u : Int} {c : Code} {W W' : World} (h : WOut w g8 g9 u c W) (hg : W.grownBy W' (some r)) (hr : g8 < r ∧ g9 < r ∧ w.heap.size ≤ r) : WOut w g8 g9 u c W' :=
  ⟨h.code, h.bel.trans (below_of_grown hg (fun j e => by injection e with e; omega) h.bel.size), h.b8.grown hg (fun e => by injection e with e; omega), h.b9.grown hg (fun e => by injection e with e; omega)⟩
set_option maxRecDepth 100000 in
set_option maxHeartbeats 4000000 in
theorem walk_any (A : Option Addr) (n c : Nat) (ns : List Nd) (a v K : Int) (w : World) (hn : n ≤ 9223372036854775807) (ha : 0 ≤ a ∧ a ≤ 4294967295) (hx : ∀ x ∈ ns, x.n ≤ 9223372036854775807) (hr : NRd w w.heap.size A n c ns) (u : Int) (ok : Bool) (h : Hid (walkT (Nd.ls ns) a v K = (u, ok))) :
    Calls Try.prog 12 #[.agg #[.slice A n c], .int .u32 a, .int .i64 v, .int .i64 K] w (RetIB (u, ok) w) := by
  obtain ⟨m, _⟩ : ∃ m : Nat, True := ⟨0, trivial⟩
  refine (callsIn_wide (n := m)).1 ?_
  have hlen := hr.len
  obtain ⟨W, hW⟩ : ∃ W, (((w.alloc (.cells #[.slice A n c] 24)).alloc (.cells #[.int .i64 K] 3)).alloc (.cells #[.int .i64 0] 3)).alloc (.cells #[.bool false] 4) = W := ⟨_, rfl⟩
  have hz : W.heap.size = w.heap.size + 4 := by rw [← hW]; simp
  have k4 : Below w.heap.size w W := by
    rw [← hW]
    have a1 := below_alloc w (Nat.le_refl _) (.cells #[.slice A n c] 24)
    have a2 := a1.trans ((below_alloc _ (Nat.le_refl _) (.cells #[.int .i64 K] 3)).mono a1.size)
    have a3 := a2.trans ((below_alloc _ (Nat.le_refl _) (.cells #[.int .i64 0] 3)).mono a2.size)
    exact a3.trans ((below_alloc _ (Nat.le_refl _) (.cells #[.bool false] 4)).mono a3.size)
  have b4 : Box W w.heap.size 24 #[.slice A n c] := by rw [← hW]; exact (((Box.new w #[.slice A n c] 24).alloc _).alloc _).alloc _
  have b7 : Box W (w.heap.size + 1) 3 #[.int .i64 K] := by rw [← hW]; simpa using ((Box.new (w.alloc (.cells #[.slice A n c] 24)) #[.int .i64 K] 3).alloc (.cells #[.int .i64 0] 3)).alloc (.cells #[.bool false] 4)
  have b8 : Box W (w.heap.size + 1 + 1) 3 #[.int .i64 0] := by rw [← hW]; simpa using (Box.new ((w.alloc (.cells #[.slice A n c] 24)).alloc (.cells #[.int .i64 K] 3)) #[.int .i64 0] 3).alloc (.cells #[.bool false] 4)
  have b9 : Box W (w.heap.size + 1 + 1 + 1) 4 #[.bool false] := by rw [← hW]; simpa using Box.new (((w.alloc (.cells #[.slice A n c] 24)).alloc (.cells #[.int .i64 K] 3)).alloc (.cells #[.int .i64 0] 3)) #[.bool false] 4
  have y7 : W.cell? ⟨w.heap.size + 1, 0, none⟩ = some (.int .i64 K) := b7.cell 0
  have y4 : W.cell? ⟨w.heap.size, 0, none⟩ = some (.slice A n c) := b4.cell 0
  have y8 : W.cell? ⟨w.heap.size + 1 + 1, 0, none⟩ = some (.int .i64 0) := b8.cell 0
  have fz8 := b8.frozen 0
  by_cases h1 : K < 0 ∨ 256 < K
  · have h2 := h.out
    unfold walkT at h2
    rw [if_pos (by omega)] at h2
    obtain ⟨rfl, rfl⟩ : 0 = u ∧ false = ok := by injection h2 with a b; exact ⟨a, b⟩
    obtain ⟨t1, t2, t3, t4, t5⟩ := two_set b8 b9 (by omega) (.int .i64 0) (.bool false)
    have y9 : (W.setCell ⟨w.heap.size + 1 + 1, 0, none⟩ (.int .i64 0)).cell? ⟨w.heap.size + 1 + 1 + 1, 0, none⟩ = some (.bool false) := t1.cell 0
    have fz9 := t1.frozen 0
    have B1 := k4.trans (below_of_grown t4 (fun j e => by injection e with e; omega) k4.size)
    have B2 := B1.trans (below_of_grown t5 (fun j e => by injection e with e; omega) B1.size)
    clear h h2
    by_cases h3 : K < 0
    · have hd : decide (K < (0 : Int)) = true := decide_eq_true h3
      refine callsIn_of_wp_marks Try.func12 rfl trivial ?_ rfl
      simp only [Try.ntmps12, List.size_toArray, List.length_cons, List.length_nil, Nat.reduceAdd, Nat.reduceSub, Array.replicate_succ, Array.replicate_zero, List.push_toArray, List.append_toArray, List.nil_append, List.cons_append]
      gi_wp2_with (refine ⟨trivial, ?_⟩)
      exact retM0 (v := .tuple #[.int .i64 0, .bool false]) (results_ib rfl _ _ _ _ rfl (t2.cell 0) rfl (t3.cell 0) Try.underlying3 Try.underlying4) ⟨rfl, B2⟩
    · have hd : decide (K < (0 : Int)) = false := decide_eq_false h3
      have hd2 : decide ((256 : Int) < K) = true := decide_eq_true (by omega)
      refine callsIn_of_wp_marks Try.func12 rfl trivial ?_ rfl
      simp only [Try.ntmps12, List.size_toArray, List.length_cons, List.length_nil, Nat.reduceAdd, Nat.reduceSub, Array.replicate_succ, Array.replicate_zero, List.push_toArray, List.append_toArray, List.nil_append, List.cons_append]
      gi_wp2_with (refine ⟨trivial, ?_⟩)
      exact retM0 (v := .tuple #[.int .i64 0, .bool false]) (results_ib rfl _ _ _ _ rfl (t2.cell 0) rfl (t3.cell 0) Try.underlying3 Try.underlying4) ⟨rfl, B2⟩
  have hd : decide (K < (0 : Int)) = false := decide_eq_false (by omega)
  have hd2 : decide ((256 : Int) < K) = false := decide_eq_false (by omega)
  obtain ⟨ib, hib⟩ : ∃ ib, decide (0 ≤ v ∧ v < (n : Int)) = ib := ⟨_, rfl⟩
  have K1 := Lib.hid (is_any A n c v W ib (Lib.hid hib))
  by_cases h4 : 0 ≤ v ∧ v < (n : Int)
  rotate_left
  · obtain rfl : false = ib := by rw [← hib]; exact (decide_eq_false h4).symm
    have h2 := h.out
    unfold walkT at h2
    rw [if_pos (by rw [Nd.ls_len, hlen]; exact .inr (.inr h4))] at h2
    obtain ⟨rfl, rfl⟩ : 0 = u ∧ false = ok := by injection h2 with a b; exact ⟨a, b⟩
    clear h h2 hib h4
    refine callsIn_of_wp_marks Try.func12 rfl trivial ?_ rfl
    simp only [Try.ntmps12, List.size_toArray, List.length_cons, List.length_nil, Nat.reduceAdd, Nat.reduceSub, Array.replicate_succ, Array.replicate_zero, List.push_toArray, List.append_toArray, List.nil_append, List.cons_append]
    gi_wp2_with (refine ⟨trivial, (fun h => by cases h), ?_⟩; gi_at_call 26; refine (callsIn_wide.2 K1.out).mono ?_; rintro e w1 ⟨rfl, hb1⟩; obtain ⟨t1, t2, t3, t4, t5⟩ := two_set (b8.step hb1) (b9.step hb1) (by omega) (.int .i64 0) (.bool false); have y8 : w1.cell? ⟨w.heap.size + 1 + 1, 0, none⟩ = some (.int .i64 0) := (b8.step hb1).cell 0; have fz8 := (b8.step hb1).frozen 0; have y9 : (w1.setCell ⟨w.heap.size + 1 + 1, 0, none⟩ (.int .i64 0)).cell? ⟨w.heap.size + 1 + 1 + 1, 0, none⟩ = some (.bool false) := t1.cell 0; have fz9 := t1.frozen 0)
    have k1 := k4.trans (hb1.mono k4.size)
    have B1 := k1.trans (below_of_grown t4 (fun j e => by injection e with e; omega) k1.size)
    have B2 := B1.trans (below_of_grown t5 (fun j e => by injection e with e; omega) B1.size)
    exact retM0 (v := .tuple #[.int .i64 0, .bool false]) (results_ib rfl _ _ _ _ rfl (t2.cell 0) rfl (t3.cell 0) Try.underlying3 Try.underlying4) ⟨rfl, B2⟩
  obtain rfl : true = ib := by rw [← hib]; exact (decide_eq_true h4).symm
  have h2 := h.out
  unfold walkT at h2
  rw [if_neg (by rw [Nd.ls_len, hlen]; omega)] at h2
  obtain ⟨kn, rfl⟩ := Int.eq_ofNat_of_zero_le (show 0 ≤ K by omega)
  rw [Int.toNat_natCast] at h2
  have H2 := Lib.hid h2
  clear h h2 hib
  by_cases h5 : kn = 0
  · subst h5
    have h2 := H2.out
    obtain ⟨rfl, rfl⟩ : v = u ∧ true = ok := by rw [wgo] at h2; injection h2 with a b; exact ⟨a, b⟩
    clear h2 H2
    have e0 : ((0 : Nat) : Int) = 0 := rfl
    rw [e0] at b7 y7 hW hd hd2
    refine callsIn_of_wp_marks Try.func12 rfl trivial ?_ rfl
    simp only [Try.ntmps12, List.size_toArray, List.length_cons, List.length_nil, Nat.reduceAdd, Nat.reduceSub, Array.replicate_succ, Array.replicate_zero, List.push_toArray, List.append_toArray, List.nil_append, List.cons_append]
    gi_wp2_with (refine ⟨trivial, (fun h => by cases h), ?_⟩; gi_at_call 26; refine (callsIn_wide.2 K1.out).mono ?_; rintro e w1 ⟨rfl, hb1⟩; obtain ⟨t1, t2, t3, t4, t5⟩ := two_set (b8.step hb1) (b9.step hb1) (by omega) (.int .i64 v) (.bool true); have y7 : w1.cell? ⟨w.heap.size + 1, 0, none⟩ = some (.int .i64 0) := (b7.step hb1).cell 0; have y8 : w1.cell? ⟨w.heap.size + 1 + 1, 0, none⟩ = some (.int .i64 0) := (b8.step hb1).cell 0; have fz8 := (b8.step hb1).frozen 0; have y9 : (w1.setCell ⟨w.heap.size + 1 + 1, 0, none⟩ (.int .i64 v)).cell? ⟨w.heap.size + 1 + 1 + 1, 0, none⟩ = some (.bool false) := t1.cell 0; have fz9 := t1.frozen 0)
    have k1 := k4.trans (hb1.mono k4.size)
    have B1 := k1.trans (below_of_grown t4 (fun j e => by injection e with e; omega) k1.size)
    have B2 := B1.trans (below_of_grown t5 (fun j e => by injection e with e; omega) B1.size)
    exact retM0 (v := .tuple #[.int .i64 v, .bool true]) (results_ib rfl _ _ _ _ rfl (t2.cell 0) rfl (t3.cell 0) Try.underlying3 Try.underlying4) ⟨rfl, B2⟩
  have hkne : ((kn : Int) == 0) = false := by simp; omega
  have hkn : kn ≤ 256 := by omega
  refine callsIn_of_wp_marks Try.func12 rfl trivial ?_ rfl
  simp only [Try.ntmps12, List.size_toArray, List.length_cons, List.length_nil, Nat.reduceAdd, Nat.reduceSub, Array.replicate_succ, Array.replicate_zero, List.push_toArray, List.append_toArray, List.nil_append, List.cons_append]
  gi_wp2_with (first
    | (refine ⟨trivial, (fun h => by cases h), ?_⟩; gi_at_call 26; refine (callsIn_wide.2 K1.out).mono ?_; rintro e w1 ⟨rfl, hb1⟩; have k1 := k4.trans (hb1.mono k4.size); have b4 := b4.step hb1; have b7 := b7.step hb1; have b8 := b8.step hb1; have b9 := b9.step hb1; have y7 : w1.cell? ⟨w.heap.size + 1, 0, none⟩ = some (.int .i64 (kn : Int)) := b7.cell 0; have bd := Box.new w1 #[.int .i64 0] 3; have yd : (w1.alloc (.cells #[.int .i64 0] 3)).cell? ⟨w1.heap.size, 0, none⟩ = some (.int .i64 0) := bd.cell 0; have fzd := bd.frozen 0; have kS := below_alloc w1 (Nat.le_refl _) (.cells #[.int .i64 0] 3); have b4 := b4.step kS; have b7 := b7.step kS; have b8 := b8.step kS; have b9 := b9.step kS; have y4 : (w1.alloc (.cells #[.int .i64 0] 3)).cell? ⟨w.heap.size, 0, none⟩ = some (.slice A n c) := b4.cell 0)
    | (refine ⟨trivial, (fun h => by cases h), ?_⟩; gi_at_call 27; refine (callsIn_wide.2 (steps_any A n c ns a v _ w.heap.size (hr.step (k1.trans (kS.mono k1.size))))).mono ?_; rintro e w3 ⟨g1, g2, g3, rfl, cap, hb3, hg1, hg2, hg3⟩))
  have c3 := cap
  have b7 := b7.step hb3
  have b8 := b8.step hb3
  have b9 := b9.step hb3
  have bd := bd.step hb3
  have k3 := (k1.trans (kS.mono k1.size)).trans (hb3.mono (by have := k1.size; have := kS.size; omega))
  obtain ⟨g9, hg9⟩ : ∃ g, w.heap.size + 1 + 1 + 1 = g := ⟨_, rfl⟩
  rw [hg9] at b9 ⊢
  obtain ⟨g8, hg8⟩ : ∃ g, w.heap.size + 1 + 1 = g := ⟨_, rfl⟩
  rw [hg8] at b8 ⊢
  obtain ⟨gk, hgk⟩ : ∃ g, w.heap.size + 1 = g := ⟨_, rfl⟩
  rw [hgk] at b7 ⊢
  obtain ⟨gd, hgd⟩ : ∃ g, w1.heap.size = g := ⟨_, rfl⟩
  rw [hgd] at bd ⊢
  have zz : gk < g8 ∧ g8 < g9 ∧ g9 < gd ∧ gd < g1 ∧ gd < g2 ∧ gd < g3 ∧ gd < w3.heap.size ∧ g1 < w3.heap.size ∧ g2 < w3.heap.size ∧ g3 < w3.heap.size ∧ w.heap.size ≤ w3.heap.size := by
    have := cap.net.lt
    have := cap.ca.lt
    have := cap.cv.lt
    have := bd.lt
    have := k3.size
    have e4 := k4.size
    have e5 := hb1.size
    rw [World.size_alloc] at hg1 hg2 hg3
    omega
  clear b4 kS hb3 hg1 hg2 hg3 y8 fz8 y4 y7 yd fzd K1 hd hd2 hkne hW hb1 k1
  refine range_steps m w.heap.size g1 g2 g3 A n c ns a v hn ha hx rfl rfl kn (WInv w w3 g1 g2 g3 gk g8 g9 gd A n c ns a v kn) (fun c W => ∃ val, WOut w g8 g9 val c W ∧ wgo (Nd.ls ns) a v kn = (val, true))
    (fun k W h => Nat.le_of_lt h.lt) (fun k W W' h hb => h.below hb) (fun k W W' r h hg hr _ _ => h.grown hg (by omega)) (fun c W W' r h hg hr _ _ => by obtain ⟨val, h1, h2⟩ := h; exact ⟨val, h1.grown hg (by omega), h2⟩) (fun k W h => h.cap)
    ⟨by omega, fun j hj => by obtain rfl : j = 0 := by omega
                              rfl, k3, c3, b7, b8, b9, bd⟩ ?_ ?_ ?_
  · intro l k W K' hW hI hgo hK
    have HK := Lib.hid hK
    clear hK
    gi_wp2
    refine HK.out _ ?_
    clear hI HK K'
    intro W2 hs hI
    have hkl := hI.lt
    have yd : W2.cell? ⟨gd, 0, none⟩ = some (.int .i64 (k : Int)) := hI.bd.cell 0
    have fzd := hI.bd.frozen 0
    have S := hI.bd.setCell 0 (.int .i64 ((k : Int) + 1))
    have b7 := hI.bk.grown S.2 (fun e => by injection e with e; omega)
    have b8 := hI.b8.grown S.2 (fun e => by injection e with e; omega)
    have b9 := hI.b9.grown S.2 (fun e => by injection e with e; omega)
    have cp := hI.cap.grown S.2 (by omega) (by omega) (by omega) (by omega) hI.bel.size
    have B3 := hI.bel.trans (below_of_grown S.2 (fun j e => by injection e with e; omega) hI.bel.size)
    have y7 : (W2.setCell ⟨gd, 0, none⟩ (.int .i64 ((k : Int) + 1))).cell? ⟨gk, 0, none⟩ = some (.int .i64 (kn : Int)) := b7.cell 0
    have ydd : (W2.setCell ⟨gd, 0, none⟩ (.int .i64 ((k : Int) + 1))).cell? ⟨gd, 0, none⟩ = some (.int .i64 ((k : Int) + 1)) := S.1.cell 0
    have kl := KeepL.grown (B := w3.heap.size) (by omega) S.2 (fun j e => by injection e with e; omega)
    have hgoes := hI.goes
    have hall : ∀ j, j ≤ k + 1 → (sit (Nd.ls ns) a v j).2 = true := fun j hj => by
      by_cases e : j = k + 1
      · rw [e]; exact hgo
      · exact hgoes j (by omega)
    have Hall := Lib.hid hall
    have hwq := wgo_sit hall
    obtain ⟨q, hq⟩ : ∃ q, sit (Nd.ls ns) a v (k + 1) = q := ⟨_, rfl⟩
    rw [hq] at hwq hgo ⊢
    obtain ⟨q, qb⟩ := q
    simp only at hgo ⊢
    subst hgo
    have Hwq := Lib.hid hwq
    clear hall hq hgoes hwq
    by_cases hlast : k + 1 = kn
    · have hd : ((k : Int) + 1 == (kn : Int)) = true := by simp; omega
      have Hlast := Lib.hid hlast
      clear hlast
      obtain ⟨t1, t2, t3, t4, t5⟩ := two_set b8 b9 (by omega) (.int .i64 q) (.bool true)
      have y8 : (W2.setCell ⟨gd, 0, none⟩ (.int .i64 ((k : Int) + 1))).cell? ⟨g8, 0, none⟩ = some (.int .i64 0) := b8.cell 0
      have fz8 := b8.frozen 0
      have y9 : ((W2.setCell ⟨gd, 0, none⟩ (.int .i64 ((k : Int) + 1))).setCell ⟨g8, 0, none⟩ (.int .i64 q)).cell? ⟨g9, 0, none⟩ = some (.bool false) := t1.cell 0
      have fz9 := t1.frozen 0
      have s1 := S.2.size
      have kl2 := (kl.trans (KeepL.grown (by omega) t4 (fun j e => by injection e with e; omega))).trans (KeepL.grown (by have := t4.size; omega) t5 (fun j e => by injection e with e; omega))
      have B4 := B3.trans (below_of_grown t4 (fun j e => by injection e with e; omega) B3.size)
      have B5 := B4.trans (below_of_grown t5 (fun j e => by injection e with e; omega) B4.size)
      gi_wp2
      exact ⟨kl2, q, ⟨rfl, B5, t2, t3⟩, by rw [← Hlast.out]; exact Hwq.out⟩
    · have hd : ((k : Int) + 1 == (kn : Int)) = false := by simp; omega
      have Hlast := Lib.hid hlast
      clear hlast
      gi_wp2
      exact ⟨kl, by have := Hlast.out; omega, Hall.out, B3, cp, b7, b8, b9, S.1⟩
  · intro k W hno hI hD
    have hkl := hI.lt
    have hw1 := wgo_sit hI.goes
    have hwn : (wgo (Nd.ls ns) a v (k + 1)).2 = false := by rw [wgo, hw1, if_pos (hI.goes k (Nat.le_refl _))]; exact hno
    have hoff := wgo_off hwn (by omega) (kn - (k + 1))
    rw [show k + 1 + (kn - (k + 1)) = kn by omega, H2.out] at hoff
    obtain ⟨rfl, rfl⟩ : u = 0 ∧ ok = false := by injection hoff with a b; exact ⟨a, b⟩
    obtain ⟨t1, t2, t3, t4, t5⟩ := two_set hI.b8 hI.b9 (by omega) (.int .i64 0) (.bool false)
    have y8 : W.cell? ⟨g8, 0, none⟩ = some (.int .i64 0) := hI.b8.cell 0
    have fz8 := hI.b8.frozen 0
    have y9 : (W.setCell ⟨g8, 0, none⟩ (.int .i64 0)).cell? ⟨g9, 0, none⟩ = some (.bool false) := t1.cell 0
    have fz9 := t1.frozen 0
    have hD2 := (t5.block w3.heap.size (by have := t4.size; have := (Array.getElem?_eq_some_iff.1 hD).1; omega) (fun e => by injection e with e; omega)).trans ((t4.block w3.heap.size (Array.getElem?_eq_some_iff.1 hD).1 (fun e => by injection e with e; omega)).trans hD)
    have B4 := hI.bel.trans (below_of_grown t4 (fun j e => by injection e with e; omega) hI.bel.size)
    have B5 := B4.trans (below_of_grown t5 (fun j e => by injection e with e; omega) B4.size)
    have gp := grownBy_putObj' ((W.setCell ⟨g8, 0, none⟩ (.int .i64 0)).setCell ⟨g9, 0, none⟩ (.bool false)) w3.heap.size (.deferred none)
    have B6 := B5.trans (below_of_grown gp (fun j e => by injection e with e; omega) B5.size)
    have t2 := t2.grown gp (fun e => by injection e with e; omega)
    have t3 := t3.grown gp (fun e => by injection e with e; omega)
    clear hno hw1 hwn hoff
    gi_wp2
    exact retM1 (v := .tuple #[.int .i64 0, .bool false]) hD2 (results_ib rfl _ _ _ _ rfl (t2.cell 0) rfl (t3.cell 0) Try.underlying3 Try.underlying4) ⟨rfl, B6⟩
  · rintro c W ⟨val, hI, hv⟩ hD
    obtain rfl := hI.code
    have gp := grownBy_putObj' W w3.heap.size (.deferred none)
    have B6 := hI.bel.trans (below_of_grown gp (fun j e => by injection e with e; omega) hI.bel.size)
    have t2 := hI.b8.grown gp (fun e => by injection e with e; omega)
    have t3 := hI.b9.grown gp (fun e => by injection e with e; omega)
    rw [H2.out] at hv
    obtain ⟨rfl, rfl⟩ : u = val ∧ ok = true := by injection hv with a b; exact ⟨a, b⟩
    dsimp only
    gi_wp2
    exact retM1 (v := .tuple #[.int .i64 u, .bool true]) hD (results_ib rfl _ _ _ _ rfl (t2.cell 0) rfl (t3.cell 0) Try.underlying3 Try.underlying4) ⟨rfl, B6⟩
end Go.Proofs.Ytdmkiejaejlajaa
