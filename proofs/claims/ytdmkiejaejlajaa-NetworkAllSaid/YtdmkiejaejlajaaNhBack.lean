/-
  network.back.
-/
import Derived.Test.YtdmkiejaejlajaaNhRound
import Derived.Test.YtdmkiejaejlajaaNhTree
namespace Go.Th
open Go.RowKit
set_option linter.unusedVariables false
section
variable {F : Fence} {m : Nat} {P : Program} {w : World} {ops : Array Oper} {rest : List Oper} {o : Oper} {a : Act} {Q : Exit → Act → World → Prop}
theorem ni_index (s : Operand) {d T i ty pos af g} (h : wpListIn F m P ops Q (⟨d, .indexAddr T s i, ty, pos, af, g⟩ :: rest) a w) : wpListIn F m P ops Q (⟨d, .indexAddr T s i, ty, pos, af, g⟩ :: rest) a w := h
/-- &s[i] of a row of one-cell elements, in a fenced walk. -/
theorem wi_place (hg : o.guard = none) (T : TypeId) (s i : Operand) (ho : o.op = .indexAddr T s i) {E bytes : Nat} {z : Value} (el : El P T E z bytes)
    {g n c : Nat} {kk : IntKind} {I : Int} (hs : a.eval s = .slice (some ⟨g, 0, none⟩) n c) (hi : a.eval i = .int kk I) (j : Nat) (hj : I = (j : Int) ∧ j < n)
    (h : wpListIn F m P ops Q rest (a.put o.dst (.pointer (some ⟨g, j, none⟩))) w) : wpListIn F m P ops Q (o :: rest) a w := by
  obtain ⟨rfl, hj⟩ := hj
  refine wpListIn_plain hg fun K hK => ?_
  have fin := hK _ _ h
  have hrun := run_indexAt (P := P) (w := w) T el.ht (el.size w) ⟨g, 0, none⟩ n c kk (j : Int) (by omega) (by omega)
  rw [Addr.add_lit, Nat.zero_add, Int.toNat_natCast, Nat.mul_one] at hrun
  unfold Oper.wpIn
  refine ⟨by simp [Oper.about, ho], ?_⟩
  rw [Oper.semAt_plain F _ _ (by rw [ho]; intro c hc; cases hc)]
  simp only [execOp, ho, hs, hi, Sem.run_bind, hrun, Result.andThen, Sem.run_pure]
  exact fin
end
/-- One cell of a row of the call's own. -/
theorem OwS.put {α : Type} {f : α → Value} {w : World} {base e n c g : Nat} {xs : List α} (h : OwS f w base e (some ⟨g, 0, none⟩) n c xs) (i : Nat) (y : α) :
    OwS f (w.setCell ⟨g, i, none⟩ (f y)) base e (some ⟨g, 0, none⟩) n c (xs.set i y) ∧ w.grownBy (w.setCell ⟨g, i, none⟩ (f y)) (some g) := by
  obtain ⟨h1, h2⟩ := h.ow.own.stored i (f y)
  exact ⟨⟨⟨by rw [List.map_set]; exact h1⟩⟩, h2⟩
theorem OwS.read {α : Type} {f : α → Value} {w : World} {base e n c g : Nat} {xs : List α} (h : OwS f w base e (some ⟨g, 0, none⟩) n c xs) {i : Nat} {y : α} (hi : xs[i]? = some y) :
    w.cell? ⟨g, i, none⟩ = some (f y) ∧ w.frozen? ⟨g, i, none⟩ = false := by
  refine ⟨?_, h.ow.own.frozenAt i⟩
  have := h.ow.own.cells (g := g) rfl i (f y) (by rw [List.getElem?_map, hi]; rfl)
  rw [Addr.add_lit, Nat.zero_add] at this
  exact this
end Go.Th
namespace Go.Proofs.Ytdmkiejaejlajaa
open Go.RowKit Go.Th Go.Shelf
attribute [local go_sem] Oper.semAt_some
set_option linter.unusedVariables false
/-- The marks of a way: the node where it began, and one more. -/
def marks (ls : List (List Ru)) (a : Int) (v : Nat) (zs : List Int) : Nat → List Int
  | 0 => zs.set v ((v : Int) + 1)
  | k + 1 => (marks ls a v zs k).set (sit ls a v (k + 1)).1.toNat ((v : Int) + 1)
theorem marks_len (ls : List (List Ru)) (a : Int) (v : Nat) (zs : List Int) : ∀ k, (marks ls a v zs k).length = zs.length
  | 0 => by simp [marks]
  | k + 1 => by simp [marks, marks_len ls a v zs k]
theorem count_set_zero : ∀ (zs : List Int) (i : Nat) (x : Int), zs[i]? = some 0 → x ≠ 0 → (zs.set i x).count 0 + 1 = zs.count 0
  | [], i, x, h, _ => by cases h
  | z :: zs, 0, x, h, hx => by
    obtain rfl : z = 0 := by simpa using h
    simp [hx]
  | z :: zs, i + 1, x, h, hx => by
    have := count_set_zero zs i x (by simpa using h) hx
    simp only [List.set_cons_succ, List.count_cons]
    omega
/-- What back finds: it went k steps on, over nodes that were not seen. -/
structure BackR (ls : List (List Ru)) (a : Int) (n v : Nat) (zs zs' : List Int) (u : Int) (ok : Bool) (k : Nat) : Prop where
  lt : k < n
  goes : ∀ j, j ≤ k → (sit ls a v j).2 = true
  inn : ∀ j, j ≤ k → 0 ≤ (sit ls a v j).1 ∧ (sit ls a v j).1 < n
  fresh : ∀ j, j < k → (marks ls a v zs j)[(sit ls a v (j + 1)).1.toNat]? = some 0
  got : zs' = marks ls a v zs k
  fin : (ok = false ∧ ((sit ls a v (k + 1)).2 = false ∨ ¬ (0 ≤ (sit ls a v (k + 1)).1 ∧ (sit ls a v (k + 1)).1 < n))) ∨
    ((sit ls a v (k + 1)).2 = true ∧ (0 ≤ (sit ls a v (k + 1)).1 ∧ (sit ls a v (k + 1)).1 < n) ∧ u = (sit ls a v (k + 1)).1 ∧ ∃ z, zs'[(sit ls a v (k + 1)).1.toNat]? = some z ∧ z ≠ 0 ∧ ok = (z == (v : Int) + 1))
/-- Between two rounds of network.back. -/
structure BInv (base gs g1 g2 g3 g4 g6 g7 g8 g9 : Nat) (w : World) (A : Option Addr) (n c : Nat) (ns : List Nd) (a : Int) (v : Nat) (zs : List Int) (cs k : Nat) (W : World) : Prop where
  goes : ∀ j, j ≤ k → (sit (Nd.ls ns) a v j).2 = true
  inn : ∀ j, j ≤ k → 0 ≤ (sit (Nd.ls ns) a v j).1 ∧ (sit (Nd.ls ns) a v j).1 < n
  fresh : ∀ j, j < k → (marks (Nd.ls ns) a v zs j)[(sit (Nd.ls ns) a v (j + 1)).1.toNat]? = some 0
  cnt : (marks (Nd.ls ns) a v zs k).count 0 + k + 1 ≤ n
  bel : Below base w W
  cap : Cap W base g1 g2 g3 A n c ns a v
  b4 : Box W g4 24 #[.slice A n c]
  b6 : Box W g6 3 #[.int .i64 v]
  b7 : Box W g7 35 #[.slice (some ⟨gs, 0, none⟩) n cs]
  b8 : Box W g8 3 #[.int .i64 0]
  b9 : Box W g9 4 #[.bool false]
  row : OwS iv W base 3 (some ⟨gs, 0, none⟩) n cs (marks (Nd.ls ns) a v zs k)
section
variable {base gs g1 g2 g3 g4 g6 g7 g8 g9 r : Nat} {w : World} {A : Option Addr} {n c : Nat} {ns : List Nd} {a : Int} {v : Nat} {zs : List Int} {cs k : Nat} {W W' : World}
theorem BInv.below (h : BInv base gs g1 g2 g3 g4 g6 g7 g8 g9 w A n c ns a v zs cs k W) (hw : base ≤ w.heap.size) (hb : Below W.heap.size W W') : BInv base gs g1 g2 g3 g4 g6 g7 g8 g9 w A n c ns a v zs cs k W' :=
  ⟨h.goes, h.inn, h.fresh, h.cnt, h.bel.trans (hb.mono (Nat.le_trans hw h.bel.size)), h.cap.step hb, h.b4.step hb, h.b6.step hb, h.b7.step hb, h.b8.step hb, h.b9.step hb, h.row.below hb⟩
theorem BInv.grown (h : BInv base gs g1 g2 g3 g4 g6 g7 g8 g9 w A n c ns a v zs cs k W) (hg : W.grownBy W' (some r)) (hw : base ≤ w.heap.size)
    (hr : g1 < r ∧ g2 < r ∧ g3 < r ∧ g4 < r ∧ g6 < r ∧ g7 < r ∧ g8 < r ∧ g9 < r ∧ gs < r ∧ base ≤ r) : BInv base gs g1 g2 g3 g4 g6 g7 g8 g9 w A n c ns a v zs cs k W' :=
  have hz := Nat.le_trans hw h.bel.size
  ⟨h.goes, h.inn, h.fresh, h.cnt, h.bel.trans (below_of_grown hg (fun j e => by injection e with e; omega) hz), h.cap.grown hg (by omega) (by omega) (by omega) (by omega) hz, h.b4.grown hg (fun e => by injection e with e; omega), h.b6.grown hg (fun e => by injection e with e; omega), h.b7.grown hg (fun e => by injection e with e; omega), h.b8.grown hg (fun e => by injection e with e; omega), h.b9.grown hg (fun e => by injection e with e; omega), h.row.grown hg (fun g' hA e => by injection hA with hA; injection hA with hA; injection e with e; omega)⟩
end
/-- Behind back's 'return' in a round. -/
structure BOut (base gs g8 g9 : Nat) (w : World) (ls : List (List Ru)) (a : Int) (n v : Nat) (zs : List Int) (cs : Nat) (cd : Code) (W : World) : Prop where
  code : cd = .ret
  out : ∃ u ok k, BackR ls a n v zs (marks ls a v zs k) u ok k ∧ Box W g8 3 #[.int .i64 u] ∧ Box W g9 4 #[.bool ok] ∧ OwS iv W base 3 (some ⟨gs, 0, none⟩) n cs (marks ls a v zs k)
  bel : Below base w W
theorem BOut.grown {base gs g8 g9 r : Nat} {w : World} {ls : List (List Ru)} {a : Int} {n v : Nat} {zs : List Int} {cs : Nat} {cd : Code} {W W' : World} (h : BOut base gs g8 g9 w ls a n v zs cs cd W) (hg : W.grownBy W' (some r)) (hw : base ≤ w.heap.size) (hr : g8 < r ∧ g9 < r ∧ gs < r ∧ base ≤ r) : BOut base gs g8 g9 w ls a n v zs cs cd W' := by
  obtain ⟨u, ok, k, h1, h2, h3, h4⟩ := h.out
  exact ⟨h.code, ⟨u, ok, k, h1, h2.grown hg (fun e => by injection e with e; omega), h3.grown hg (fun e => by injection e with e; omega), h4.grown hg (fun g' hA e => by injection hA with hA; injection hA with hA; injection e with e; omega)⟩, h.bel.trans (below_of_grown hg (fun j e => by injection e with e; omega) (Nat.le_trans hw h.bel.size))⟩
def BkS (g6 g7 gs : Nat) (a : Addr) : Prop := a.block = g6 ∨ a.block = g7 ∨ a.block = gs
theorem bkS_of {w w' : World} {g6 g7 gs r : Nat} (hg : w.grownBy w' (some r)) (hl : g6 < w.heap.size ∧ g7 < w.heap.size ∧ gs < w.heap.size) (h : g6 ≠ r ∧ g7 ≠ r ∧ gs ≠ r) : ∀ a, BkS g6 g7 gs a → w'.cell? a = w.cell? a := by
  intro a ha
  have hb : a.block < w.heap.size ∧ a.block ≠ r := by rcases ha with e | e | e <;> omega
  have := hg.block a.block hb.1 (fun e => by injection e with e; exact hb.2 e)
  unfold World.cell?
  rw [this]
set_option maxRecDepth 100000 in
set_option maxHeartbeats 8000000 in
theorem back_any (A : Option Addr) (n c : Nat) (ns : List Nd) (a : Int) (v : Nat) (zs : List Int) (gs cs base : Nat) (w : World) (hn : n ≤ 1000000) (ha : 0 ≤ a ∧ a ≤ 4294967295) (hx : ∀ x ∈ ns, x.n ≤ 9223372036854775807) (hbase : base ≤ w.heap.size) (hr : NRd w base A n c ns)
    (hv : v < n) (hrow : OwS iv w base 3 (some ⟨gs, 0, none⟩) n cs zs) (hz0 : zs[v]? = some 0) :
    Calls Try.prog 29 #[.agg #[.slice A n c], .int .u32 a, .int .i64 (v : Int), .slice (some ⟨gs, 0, none⟩) n cs] w (fun e w' => ∃ u ok k, e = .returned (.tuple #[.int .i64 u, .bool ok]) ∧ BackR (Nd.ls ns) a n v zs (marks (Nd.ls ns) a v zs k) u ok k ∧ OwS iv w' base 3 (some ⟨gs, 0, none⟩) n cs (marks (Nd.ls ns) a v zs k) ∧ Below base w w') := by
  obtain ⟨m, _⟩ : ∃ m : Nat, True := ⟨0, trivial⟩
  refine (callsIn_wide (n := m)).1 ?_
  have hlen := hr.len
  have hgs := hrow.lt
  obtain ⟨W, hW⟩ : ∃ W, ((((w.alloc (.cells #[.slice A n c] 24)).alloc (.cells #[.int .i64 (v : Int)] 3)).alloc (.cells #[.slice (some ⟨gs, 0, none⟩) n cs] 35)).alloc (.cells #[.int .i64 0] 3)).alloc (.cells #[.bool false] 4) = W := ⟨_, rfl⟩
  have hz : W.heap.size = w.heap.size + 5 := by rw [← hW]; simp
  have k4 : Below w.heap.size w W := by
    rw [← hW]
    have a1 := below_alloc w (Nat.le_refl _) (.cells #[.slice A n c] 24)
    have a2 := a1.trans ((below_alloc _ (Nat.le_refl _) (.cells #[.int .i64 (v : Int)] 3)).mono a1.size)
    have a3 := a2.trans ((below_alloc _ (Nat.le_refl _) (.cells #[.slice (some ⟨gs, 0, none⟩) n cs] 35)).mono a2.size)
    have a4 := a3.trans ((below_alloc _ (Nat.le_refl _) (.cells #[.int .i64 0] 3)).mono a3.size)
    exact a4.trans ((below_alloc _ (Nat.le_refl _) (.cells #[.bool false] 4)).mono a4.size)
  have b4 : Box W w.heap.size 24 #[.slice A n c] := by rw [← hW]; exact ((((Box.new w #[.slice A n c] 24).alloc _).alloc _).alloc _).alloc _
  have b6 : Box W (w.heap.size + 1) 3 #[.int .i64 (v : Int)] := by rw [← hW]; simpa using (((Box.new (w.alloc (.cells #[.slice A n c] 24)) #[.int .i64 (v : Int)] 3).alloc (.cells #[.slice (some ⟨gs, 0, none⟩) n cs] 35)).alloc (.cells #[.int .i64 0] 3)).alloc (.cells #[.bool false] 4)
  have b7 : Box W (w.heap.size + 1 + 1) 35 #[.slice (some ⟨gs, 0, none⟩) n cs] := by rw [← hW]; simpa using ((Box.new ((w.alloc (.cells #[.slice A n c] 24)).alloc (.cells #[.int .i64 (v : Int)] 3)) #[.slice (some ⟨gs, 0, none⟩) n cs] 35).alloc (.cells #[.int .i64 0] 3)).alloc (.cells #[.bool false] 4)
  have b8 : Box W (w.heap.size + 1 + 1 + 1) 3 #[.int .i64 0] := by rw [← hW]; simpa using (Box.new (((w.alloc (.cells #[.slice A n c] 24)).alloc (.cells #[.int .i64 (v : Int)] 3)).alloc (.cells #[.slice (some ⟨gs, 0, none⟩) n cs] 35)) #[.int .i64 0] 3).alloc (.cells #[.bool false] 4)
  have b9 : Box W (w.heap.size + 1 + 1 + 1 + 1) 4 #[.bool false] := by rw [← hW]; simpa using Box.new ((((w.alloc (.cells #[.slice A n c] 24)).alloc (.cells #[.int .i64 (v : Int)] 3)).alloc (.cells #[.slice (some ⟨gs, 0, none⟩) n cs] 35)).alloc (.cells #[.int .i64 0] 3)) #[.bool false] 4
  have hrowW := hrow.below k4
  have y6 : W.cell? ⟨w.heap.size + 1, 0, none⟩ = some (.int .i64 (v : Int)) := b6.cell 0
  have y7 : W.cell? ⟨w.heap.size + 1 + 1, 0, none⟩ = some (.slice (some ⟨gs, 0, none⟩) n cs) := b7.cell 0
  obtain ⟨yv, fzv⟩ := hrowW.read hz0
  obtain ⟨o1, S⟩ := hrowW.put v ((v : Int) + 1)
  have b4 := b4.grown S (fun e => by injection e with e; omega)
  have b6 := b6.grown S (fun e => by injection e with e; omega)
  have b7 := b7.grown S (fun e => by injection e with e; omega)
  have b8 := b8.grown S (fun e => by injection e with e; omega)
  have b9 := b9.grown S (fun e => by injection e with e; omega)
  have k5 : Below base w (W.setCell ⟨gs, v, none⟩ (iv ((v : Int) + 1))) := (k4.mono hbase).trans (below_of_grown S (fun j e => by injection e with e; omega) (by have := k4.size; omega))
  have y4 : (W.setCell ⟨gs, v, none⟩ (.int .i64 ((v : Int) + 1))).cell? ⟨w.heap.size, 0, none⟩ = some (.slice A n c) := b4.cell 0
  have y6' : (W.setCell ⟨gs, v, none⟩ (.int .i64 ((v : Int) + 1))).cell? ⟨w.heap.size + 1, 0, none⟩ = some (.int .i64 (v : Int)) := b6.cell 0
  have hrS := hr.below k5
  have hzS := S.size
  have yv : W.cell? ⟨gs, v, none⟩ = some (.int .i64 0) := yv
  have Hz := Lib.hid hz
  clear hz
  refine callsIn_of_wp_marks Try.func29 rfl trivial ?_ rfl
  simp only [Try.ntmps29, List.size_toArray, List.length_cons, List.length_nil, Nat.reduceAdd, Nat.reduceSub, Array.replicate_succ, Array.replicate_zero, List.push_toArray, List.append_toArray, List.nil_append, List.cons_append]
  gi_wp2_with (first
    | ((with_reducible refine ni_index (.tmp 11) ?_); refine wi_place rfl _ _ _ rfl el_int rfl rfl v ⟨rfl, hv⟩ ?_)
    | (refine ⟨trivial, (fun h => by cases h), ?_⟩; gi_at_call 27; refine (callsIn_wide.2 (steps_any A n c ns a v _ base hrS)).mono ?_; rintro e w3 ⟨g1, g2, g3, rfl, cap, hb3, hg1, hg2, hg3⟩))
  have hz3 := hb3.size
  have K3 : Below base w w3 := k5.trans (hb3.mono (by have := k4.size; omega))
  have b4 := b4.step hb3
  have b6 := b6.step hb3
  have b7 := b7.step hb3
  have b8 := b8.step hb3
  have b9 := b9.step hb3
  have o3 := o1.below hb3
  obtain ⟨g9, hg9⟩ : ∃ g, w.heap.size + 1 + 1 + 1 + 1 = g := ⟨_, rfl⟩
  rw [hg9] at b9 ⊢
  obtain ⟨g8, hg8⟩ : ∃ g, w.heap.size + 1 + 1 + 1 = g := ⟨_, rfl⟩
  rw [hg8] at b8 ⊢
  obtain ⟨g7, hg7⟩ : ∃ g, w.heap.size + 1 + 1 = g := ⟨_, rfl⟩
  rw [hg7] at b7 ⊢
  obtain ⟨g6, hg6⟩ : ∃ g, w.heap.size + 1 = g := ⟨_, rfl⟩
  rw [hg6] at b6 ⊢
  obtain ⟨g4, hg4⟩ : ∃ g, w.heap.size = g := ⟨_, rfl⟩
  rw [hg4] at b4 ⊢
  have zz : gs < g4 ∧ g4 < g6 ∧ g6 < g7 ∧ g7 < g8 ∧ g8 < g9 ∧ g9 < g1 ∧ g9 < g2 ∧ g9 < g3 ∧ g1 < w3.heap.size ∧ g2 < w3.heap.size ∧ g3 < w3.heap.size ∧ base ≤ gs := by
    have := cap.net.lt
    have := cap.ca.lt
    have := cap.cv.lt
    have := Hz.out
    omega
  clear y4 y6 y7 y6' yv fzv hrS hzS hb3 hg1 hg2 hg3 hW k5 o1 S hrowW k4 Hz
  refine range_steps m base g1 g2 g3 A n c ns a (v : Int) (by omega) ha hx rfl rfl n (BInv base gs g1 g2 g3 g4 g6 g7 g8 g9 w A n c ns a v zs cs) (BOut base gs g8 g9 w (Nd.ls ns) a n v zs cs)
    (fun k W h => by have := h.cnt; omega) (fun k W W' h hb => h.below hbase hb) (fun k W W' r h hg hr hr2 _ => h.grown hg hbase (by omega)) (fun cd W W' r h hg hr hr2 _ => h.grown hg hbase (by omega)) (fun k W h => h.cap)
    ⟨fun j hj => (by obtain rfl : j = 0 := by omega
                     rfl), fun j hj => (by obtain rfl : j = 0 := by omega
                                           exact ⟨by simp [sit], by simp only [sit]; omega⟩), fun j hj => absurd hj (by omega),
      (by have h1 := count_set_zero zs v ((v : Int) + 1) hz0 (by omega)
          have h2 := List.count_le_length (a := (0 : Int)) (l := zs)
          have h3 := hrow.len
          simp only [marks]
          omega), K3, cap, b4, b6, b7, b8, b9, o3⟩ ?_ ?_ ?_
  · intro l k W4 K' hW hI hgo hK
    have HK := Lib.hid hK
    clear hK
    gi_wp2
    refine HK.out _ ?_
    clear hI HK K'
    intro W2 hs hI
    have hB2 : w3.heap.size + 1 < W2.heap.size := by omega
    clear hs hW W4
    obtain ⟨q, hq⟩ : ∃ q, (sit (Nd.ls ns) a (v : Int) (k + 1)).1 = q := ⟨_, rfl⟩
    rw [hq] at ⊢
    have Hgo := Lib.hid hgo
    have Hq := Lib.hid hq
    clear hgo hq
    have y4 : W2.cell? ⟨g4, 0, none⟩ = some (.slice A n c) := hI.b4.cell 0
    obtain ⟨ib, hib⟩ : ∃ ib, decide (0 ≤ q ∧ q < (n : Int)) = ib := ⟨_, rfl⟩
    have K1 := Lib.hid (is_any A n c q W2 ib (Lib.hid hib))
    by_cases hin : 0 ≤ q ∧ q < (n : Int)
    rotate_left
    · obtain rfl : false = ib := by rw [← hib]; exact (decide_eq_false hin).symm
      have Hin := Lib.hid hin
      clear hin hib
      gi_wp2_with (refine ⟨trivial, (fun h => by cases h), ?_⟩; gi_at_call 26; refine (CallsIn.inRound l (callsIn_wide.2 K1.out)).mono ?_; rintro e w5 ⟨rfl, hb5⟩; have hI5 := hI.below hbase hb5; obtain ⟨t1, t2, t3, t4, t5⟩ := two_set hI5.b8 hI5.b9 (by omega) (.int .i64 0) (.bool false); have y8 : w5.cell? ⟨g8, 0, none⟩ = some (.int .i64 0) := hI5.b8.cell 0; have fz8 := hI5.b8.frozen 0; have y9 : (w5.setCell ⟨g8, 0, none⟩ (.int .i64 0)).cell? ⟨g9, 0, none⟩ = some (.bool false) := t1.cell 0; have fz9 := t1.frozen 0)
      have z5 := hb5.size
      have kl := (KeepL.below hB2 hb5).trans ((KeepL.grown (B := w3.heap.size) (by omega) t4 (fun j e => by injection e with e; omega)).trans (KeepL.grown (by have := t4.size; omega) t5 (fun j e => by injection e with e; omega)))
      have zb := Nat.le_trans hbase hI5.bel.size
      have B4 := hI5.bel.trans (below_of_grown t4 (fun j e => by injection e with e; omega) zb)
      have B5 := B4.trans (below_of_grown t5 (fun j e => by injection e with e; omega) (by have := t4.size; omega))
      have o5 := (hI5.row.grown t4 (fun g' hA e => by injection hA with hA; injection hA with hA; injection e with e; omega)).grown t5 (fun g' hA e => by injection hA with hA; injection hA with hA; injection e with e; omega)
      exact ⟨kl, rfl, ⟨0, false, k, ⟨by have := hI.cnt; omega, hI.goes, hI.inn, hI.fresh, rfl, .inl ⟨rfl, .inr (by rw [Hq.out]; exact Hin.out)⟩⟩, t2, t3, o5⟩, B5⟩
    · obtain rfl : true = ib := by rw [← hib]; exact (decide_eq_true hin).symm
      obtain ⟨qn, rfl⟩ := Int.eq_ofNat_of_zero_le hin.1
      have hqn : qn < n := by omega
      clear hin hib
      have hml : (marks (Nd.ls ns) a v zs k).length = n := hI.row.len
      obtain ⟨z, hzq⟩ : ∃ z, (marks (Nd.ls ns) a v zs k)[qn]? = some z := ⟨_, List.getElem?_eq_getElem (by omega)⟩
      have Hzq := Lib.hid hzq
      clear hml hzq
      by_cases hz0 : z = 0
      · subst hz0
        gi_wp2_with (first
          | (refine ⟨trivial, (fun h => by cases h), ?_⟩; gi_at_call 26; refine (CallsIn.inRound l (callsIn_wide.2 K1.out)).mono ?_; rintro e w5 ⟨rfl, hb5⟩; have hI5 := hI.below hbase hb5; have y6 : w5.cell? ⟨g6, 0, none⟩ = some (.int .i64 (v : Int)) := hI5.b6.cell 0; have y7 : w5.cell? ⟨g7, 0, none⟩ = some (.slice (some ⟨gs, 0, none⟩) n cs) := hI5.b7.cell 0; have yz : w5.cell? ⟨gs, qn, none⟩ = some (.int .i64 0) := (hI5.row.read Hzq.out).1; have fzz := (hI5.row.read Hzq.out).2)
          | ((with_reducible refine ni_index (.tmp 25) ?_); refine wi_place rfl _ _ _ rfl el_int rfl rfl qn ⟨rfl, hqn⟩ ?_)
          | ((with_reducible refine ni_index (.tmp 38) ?_); refine wi_place rfl _ _ _ rfl el_int rfl rfl qn ⟨rfl, hqn⟩ ?_))
        have z5 := hb5.size
        obtain ⟨o9, S⟩ := hI5.row.put qn ((v : Int) + 1)
        have kl := (KeepL.below hB2 hb5).trans (KeepL.grown (B := w3.heap.size) (by omega) S (fun j e => by injection e with e; omega))
        have zb := Nat.le_trans hbase hI5.bel.size
        have B5 := hI5.bel.trans (below_of_grown S (fun j e => by injection e with e; omega) zb)
        have hcnt := count_set_zero _ qn ((v : Int) + 1) Hzq.out (by omega)
        have hcn := hI.cnt
        have em : marks (Nd.ls ns) a v zs (k + 1) = (marks (Nd.ls ns) a v zs k).set qn ((v : Int) + 1) := by simp only [marks]; rw [Hq.out, Int.toNat_natCast]
        have inv : BInv base gs g1 g2 g3 g4 g6 g7 g8 g9 w A n c ns a v zs cs (k + 1) (w5.setCell ⟨gs, qn, none⟩ (iv ((v : Int) + 1))) :=
          ⟨fun j hj => (by by_cases e : j = k + 1
                           · rw [e]; exact Hgo.out
                           · exact hI.goes j (by omega)),
           fun j hj => (by by_cases e : j = k + 1
                           · rw [e, Hq.out]; omega
                           · exact hI.inn j (by omega)),
           fun j hj => (by by_cases e : j = k
                           · rw [e, Hq.out, Int.toNat_natCast]; exact Hzq.out
                           · exact hI.fresh j (by omega)),
           by rw [em]; omega, B5, hI5.cap.grown S (by omega) (by omega) (by omega) (by omega) zb, hI5.b4.grown S (fun e => by injection e with e; omega), hI5.b6.grown S (fun e => by injection e with e; omega), hI5.b7.grown S (fun e => by injection e with e; omega), hI5.b8.grown S (fun e => by injection e with e; omega), hI5.b9.grown S (fun e => by injection e with e; omega), by rw [em]; exact o9⟩
        exact ⟨kl, inv⟩
      · have hne : (z != 0) = true := by simpa using hz0
        gi_wp2_with (first
          | (refine ⟨trivial, (fun h => by cases h), ?_⟩; gi_at_call 26; refine (CallsIn.inRound l (callsIn_wide.2 K1.out)).mono ?_; rintro e w5 ⟨rfl, hb5⟩; have hI5 := hI.below hbase hb5; have y6 : w5.cell? ⟨g6, 0, none⟩ = some (.int .i64 (v : Int)) := hI5.b6.cell 0; have y7 : w5.cell? ⟨g7, 0, none⟩ = some (.slice (some ⟨gs, 0, none⟩) n cs) := hI5.b7.cell 0; have yz : w5.cell? ⟨gs, qn, none⟩ = some (.int .i64 z) := (hI5.row.read Hzq.out).1)
          | ((with_reducible refine ni_index (.tmp 25) ?_); refine wi_place rfl _ _ _ rfl el_int rfl rfl qn ⟨rfl, hqn⟩ ?_))
        obtain ⟨t1, t2, t3, t4, t5⟩ := two_set hI5.b8.drew hI5.b9.drew (by omega) (.int .i64 (qn : Int)) (.bool (z == (v : Int) + 1))
        obtain ⟨s1, s2, s3, s4, s5⟩ := two_set hI5.b9.drew hI5.b8.drew (by omega) (.bool (z == (v : Int) + 1)) (.int .i64 (qn : Int))
        have y6 : w5.drew.cell? ⟨g6, 0, none⟩ = some (.int .i64 (v : Int)) := y6
        have y7 : w5.drew.cell? ⟨g7, 0, none⟩ = some (.slice (some ⟨gs, 0, none⟩) n cs) := y7
        have yz : w5.drew.cell? ⟨gs, qn, none⟩ = some (.int .i64 z) := yz
        have y8 : w5.drew.cell? ⟨g8, 0, none⟩ = some (.int .i64 0) := hI5.b8.drew.cell 0
        have fz8 := hI5.b8.drew.frozen 0
        have y9 : w5.drew.cell? ⟨g9, 0, none⟩ = some (.bool false) := hI5.b9.drew.cell 0
        have fz9 := hI5.b9.drew.frozen 0
        have y98 : (w5.drew.setCell ⟨g8, 0, none⟩ (.int .i64 (qn : Int))).cell? ⟨g9, 0, none⟩ = some (.bool false) := t1.cell 0
        have fz98 := t1.frozen 0
        have y89 : (w5.drew.setCell ⟨g9, 0, none⟩ (.bool (z == (v : Int) + 1))).cell? ⟨g8, 0, none⟩ = some (.int .i64 0) := s1.cell 0
        have fz89 := s1.frozen 0
        have c6 : ∀ q : KSStep (BkS g6 g7 gs) w5.drew, q.w.cell? ⟨g6, 0, none⟩ = some (.int .i64 (v : Int)) := fun q => (q.h ⟨g6, 0, none⟩ (.inl rfl)).trans y6
        have c7 : ∀ q : KSStep (BkS g6 g7 gs) w5.drew, q.w.cell? ⟨g7, 0, none⟩ = some (.slice (some ⟨gs, 0, none⟩) n cs) := fun q => (q.h ⟨g7, 0, none⟩ (.inr (.inl rfl))).trans y7
        have cz : ∀ q : KSStep (BkS g6 g7 gs) w5.drew, q.w.cell? ⟨gs, qn, none⟩ = some (.int .i64 z) := fun q => (q.h ⟨gs, qn, none⟩ (.inr (.inr rfl))).trans yz
        have ks8 : ∀ ad, BkS g6 g7 gs ad → (w5.drew.setCell ⟨g8, 0, none⟩ (.int .i64 (qn : Int))).cell? ad = w5.drew.cell? ad := bkS_of t4 (by have := hI5.b8.drew.lt; omega) (by omega)
        have ks9 : ∀ ad, BkS g6 g7 gs ad → ((w5.drew.setCell ⟨g8, 0, none⟩ (.int .i64 (qn : Int))).setCell ⟨g9, 0, none⟩ (.bool (z == (v : Int) + 1))).cell? ad = (w5.drew.setCell ⟨g8, 0, none⟩ (.int .i64 (qn : Int))).cell? ad := bkS_of t5 (by have := t1.lt; omega) (by omega)
        obtain ⟨u1, u2, u3, u4, u5⟩ := two_set hI5.b8 hI5.b9 (by omega) (.int .i64 (qn : Int)) (.bool (z == (v : Int) + 1))
        have y98b : (w5.setCell ⟨g8, 0, none⟩ (.int .i64 (qn : Int))).cell? ⟨g9, 0, none⟩ = some (.bool false) := u1.cell 0
        have fz98b : (w5.setCell ⟨g8, 0, none⟩ (.int .i64 (qn : Int))).frozen? ⟨g9, 0, none⟩ = false := u1.frozen 0
        have y98c : (w5.setCell ⟨g8, 0, none⟩ (.int .i64 (qn : Int))).drew.cell? ⟨g9, 0, none⟩ = some (.bool false) := u1.cell 0
        have fz98c : (w5.setCell ⟨g8, 0, none⟩ (.int .i64 (qn : Int))).drew.frozen? ⟨g9, 0, none⟩ = false := u1.frozen 0
        have ks9b : ∀ ad, BkS g6 g7 gs ad → ((w5.setCell ⟨g8, 0, none⟩ (.int .i64 (qn : Int))).setCell ⟨g9, 0, none⟩ (.bool (z == (v : Int) + 1))).cell? ad = (w5.setCell ⟨g8, 0, none⟩ (.int .i64 (qn : Int))).cell? ad := ks9
        have ks9c : ∀ ad, BkS g6 g7 gs ad → ((w5.setCell ⟨g8, 0, none⟩ (.int .i64 (qn : Int))).setCell ⟨g9, 0, none⟩ (.bool (z == (v : Int) + 1))).drew.cell? ad = (w5.setCell ⟨g8, 0, none⟩ (.int .i64 (qn : Int))).drew.cell? ad := ks9
        have ks9d : ∀ ad, BkS g6 g7 gs ad → ((w5.setCell ⟨g8, 0, none⟩ (.int .i64 (qn : Int))).drew.setCell ⟨g9, 0, none⟩ (.bool (z == (v : Int) + 1))).cell? ad = (w5.setCell ⟨g8, 0, none⟩ (.int .i64 (qn : Int))).drew.cell? ad := ks9
        refine wpIn_region_tree (fun _ => trivial) (.float 0 8 (.one 8 (.one 9 .done))) (Th.KSReach (BkS g6 g7 gs)) (Th.KSReach.trans _) (Th.KSReach.refl _) (by kernel_rfl) (by kernel_rfl) (by kernel_rfl) (fun KT hKT => ?_)
        refine wpTree_float (fun KF hKF => ?_)
        simp only [List.drop, List.take]
        repeat (first | go_big_quiet_skip | ((with_reducible refine onq_index (.tmp 31) ?_); refine wqm_place rfl _ (.tmp 31) _ rfl el_int.m rfl rfl qn ⟨rfl, hqn⟩ ?_) | go_big_quiet_step (fail) | quiet_step (fail))
        refine wpQuiet_nil ?_
        refine hKF _ ?_
        clear hKF KF
        refine wpTree_one (fun KO hKO => ?_)
        simp only [List.drop, List.take]
        go_wp2_with (first | fail)
        refine anch_end (Th.KSReach.of (by first | exact fun _ _ => rfl | assumption | (exact ks_alloc _ _ (by assumption)))) (hKO _ _ ?_)
        clear hKO KO
        refine wpTree_one (fun KO hKO => ?_)
        simp only [List.drop, List.take]
        go_wp2_with (first | fail)
        refine anch_end (Th.KSReach.of (by first | exact fun _ _ => rfl | assumption | (exact ks_alloc _ _ (by assumption)))) (hKO _ _ ?_)
        clear hKO KO
        refine wpTree_done ?_
        refine hKT _ _ ?_
        clear hKT KT
        have z5 := hb5.size
        have kl := (KeepL.below hB2 hb5).trans ((KeepL.grown (B := w3.heap.size) (by omega) u4 (fun j e => by injection e with e; omega)).trans (KeepL.grown (by have := u4.size; omega) u5 (fun j e => by injection e with e; omega)))
        have zb := Nat.le_trans hbase hI5.bel.size
        have B4 := hI5.bel.trans (below_of_grown u4 (fun j e => by injection e with e; omega) zb)
        have B5 := B4.trans (below_of_grown u5 (fun j e => by injection e with e; omega) (by have := u4.size; omega))
        have o5 := (hI5.row.grown u4 (fun g' hA e => by injection hA with hA; injection hA with hA; injection e with e; omega)).grown u5 (fun g' hA e => by injection hA with hA; injection hA with hA; injection e with e; omega)
        clear ks8 ks9 ks9b ks9c ks9d c6 c7 cz
        gi_wp2
        exact ⟨⟨kl.1, kl.2.1, kl.2.2⟩, rfl, ⟨(qn : Int), (z == (v : Int) + 1), k, ⟨by have := hI.cnt; omega, hI.goes, hI.inn, hI.fresh, rfl, .inr ⟨Hgo.out, by rw [Hq.out]; omega, Hq.out.symm, z, by rw [Hq.out, Int.toNat_natCast]; exact Hzq.out, hz0, rfl⟩⟩, u2.drew, u3.drew, o5.below (bdrew1 _)⟩, B5.trans (bdrew _ _)⟩
  · intro k W hno hI hD
    obtain ⟨t1, t2, t3, t4, t5⟩ := two_set hI.b8 hI.b9 (by omega) (.int .i64 0) (.bool false)
    have y8 : W.cell? ⟨g8, 0, none⟩ = some (.int .i64 0) := hI.b8.cell 0
    have fz8 := hI.b8.frozen 0
    have y9 : (W.setCell ⟨g8, 0, none⟩ (.int .i64 0)).cell? ⟨g9, 0, none⟩ = some (.bool false) := t1.cell 0
    have fz9 := t1.frozen 0
    have hD1 := (Array.getElem?_eq_some_iff.1 hD).1
    have hD2 := (t5.block w3.heap.size (by have := t4.size; omega) (fun e => by injection e with e; omega)).trans ((t4.block w3.heap.size hD1 (fun e => by injection e with e; omega)).trans hD)
    have zb := Nat.le_trans hbase hI.bel.size
    have B4 := hI.bel.trans (below_of_grown t4 (fun j e => by injection e with e; omega) zb)
    have B5 := B4.trans (below_of_grown t5 (fun j e => by injection e with e; omega) (by have := t4.size; omega))
    have gp := grownBy_putObj' ((W.setCell ⟨g8, 0, none⟩ (.int .i64 0)).setCell ⟨g9, 0, none⟩ (.bool false)) w3.heap.size (.deferred none)
    have B6 := B5.trans (below_of_grown gp (fun j e => by injection e with e; omega) (by have := t4.size; have := t5.size; omega))
    have t2 := t2.grown gp (fun e => by injection e with e; omega)
    have t3 := t3.grown gp (fun e => by injection e with e; omega)
    have o5 := ((hI.row.grown t4 (fun g' hA e => by injection hA with hA; injection hA with hA; injection e with e; omega)).grown t5 (fun g' hA e => by injection hA with hA; injection hA with hA; injection e with e; omega)).grown gp (fun g' hA e => by injection hA with hA; injection hA with hA; injection e with e; omega)
    have Hno := Lib.hid hno
    clear hno
    dsimp only
    gi_wp2
    exact retM1 (v := .tuple #[.int .i64 0, .bool false]) hD2 (results_ib rfl _ _ _ _ rfl (t2.cell 0) rfl (t3.cell 0) Try.underlying3 Try.underlying4) ⟨0, false, k, rfl, ⟨by have := hI.cnt; omega, hI.goes, hI.inn, hI.fresh, rfl, .inl ⟨rfl, .inl Hno.out⟩⟩, o5, B6⟩
  · rintro cd W hI hD
    obtain rfl := hI.code
    obtain ⟨u, ok, k, h1, b8, b9, o9⟩ := hI.out
    have gp := grownBy_putObj' W w3.heap.size (.deferred none)
    have B6 := hI.bel.trans (below_of_grown gp (fun j e => by injection e with e; omega) (Nat.le_trans hbase hI.bel.size))
    have b8 := b8.grown gp (fun e => by injection e with e; omega)
    have b9 := b9.grown gp (fun e => by injection e with e; omega)
    have o9 := o9.grown gp (fun g' hA e => by injection hA with hA; injection hA with hA; injection e with e; omega)
    dsimp only
    gi_wp2
    exact retM1 (v := .tuple #[.int .i64 u, .bool ok]) hD (results_ib rfl _ _ _ _ rfl (b8.cell 0) rfl (b9.cell 0) Try.underlying3 Try.underlying4) ⟨u, ok, k, rfl, h1, o9, B6⟩
end Go.Proofs.Ytdmkiejaejlajaa
