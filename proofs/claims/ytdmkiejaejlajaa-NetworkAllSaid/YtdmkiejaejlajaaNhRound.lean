/-
  network.round; slices.Min of a row of ints.
-/
import Derived.Test.YtdmkiejaejlajaaNhWalk
import Derived.Maps.AppendAt
namespace Go.Th
open Go.RowKit
set_option linter.unusedVariables false
/-- append of one element to a row of the call's own, in a fenced walk. -/
theorem wi_append1 {F : Fence} {n : Nat} {P : Program} {w : World} {ops : Array Oper} {rest : List Oper} {o : Oper} {a : Act} {Q : Exit → Act → World → Prop}
    (hg : o.guard = none) (s x : Operand) (t : TypeId) (ho : o.op = .call { callee := .builtin .append, args := #[s, x], argTypes := #[t, t] })
    {base E : Nat} {z : Value} {bytes : Nat} (el : El P t E z bytes) {α : Type} {f : α → Value} (hf : ∀ x, (f x).oneCell' = true)
    {A : Option Addr} {k c : Nat} (hs : a.eval s = .slice A k c) {xs : List α} (hown : OwS f w base E A k c xs)
    {ad : Addr} {c' B : Nat} (hx : a.eval x = .slice (some ad) 1 c') {y : α} (hr : RdS f w B (some ad) 1 c' [y])
    (hbytes : (k + 1) * bytes ≤ 140737488355328) (hpos : 0 < bytes) (hbase : base ≤ w.heap.size)
    (h : ∀ A'' c'' w', OwS f w' base E A'' (k + 1) c'' (xs ++ [y]) → w.grownBy w' (rowOf A) → Below base w w' → (A'' = A ∨ A'' = some ⟨w.heap.size, 0, Option.none⟩) → wpListIn F n P ops Q rest (a.put o.dst (.slice A'' (k + 1) c'')) w') : wpListIn F n P ops Q (o :: rest) a w := by
  obtain ⟨i, hi, hz, hsize, hby⟩ := el.info
  have h63 : k + 1 ≤ maxLen := by
    have := Nat.le_mul_of_pos_right (k + 1) hpos
    simp only [maxLen]; omega
  obtain ⟨A'', c'', w', hrun, h2, h3, h4⟩ := run_append (P := P) (ty := o.type) (c' := c') el.ht hi hz hsize hby (by rw [el.cells]; rfl) (by omega) hown.ow (m := 1) (news := [f y]) rfl hr.rd (by intro u hu; rw [List.mem_singleton.1 hu]; exact hf y) h63 hbytes hbase
  refine wpListIn_plain hg fun K hK => ?_
  have fin := hK _ _ (h A'' c'' w' ⟨by simpa using h2⟩ h3 ((Below.refl _ _).grown h3 hbase hown.ow.row_ge) h4)
  unfold Oper.wpIn
  refine ⟨by simp [Oper.about, ho, resolve, Target.leads, Sem.run_pure], ?_⟩
  rw [Oper.semAt_plain F _ _ (by rw [ho]; intro c hc; cases hc)]
  simp only [execOp, ho, resolve, invoke, builtin, Sem.run_bind, Sem.run_pure, Result.andThen, List.map_toArray, List.map_cons, List.map_nil, hs, hx, hrun]
  exact fin
end Go.Th
namespace Go.Proofs.Ytdmkiejaejlajaa
open Go.RowKit Go.Th Go.Shelf
attribute [local go_sem] Oper.semAt_some
set_option linter.unusedVariables false
/-- The nodes of a loop of so many steps. -/
def sits (ls : List (List Ru)) (a v : Int) (k : Nat) : List Int := (List.range k).map fun j => (sit ls a v j).1
theorem sits_snoc (ls : List (List Ru)) (a v : Int) (k : Nat) : sits ls a v (k + 1) = sits ls a v k ++ [(sit ls a v k).1] := by
  unfold sits
  rw [List.range_succ, List.map_append]
  rfl
/-- Between two rounds of network.round: r0 is the row's first block, B the first of the loop's own. -/
structure RInv (w : World) (B r0 g1 g2 g3 g5 g7 : Nat) (A : Option Addr) (n c : Nat) (ns : List Nd) (a v : Int) (L k : Nat) (W : World) : Prop where
  lt : k < L
  bel : Below w.heap.size w W
  cap : Cap W w.heap.size g1 g2 g3 A n c ns a v
  b5 : Box W g5 3 #[.int .i64 v]
  row : ∃ (j cj : Nat), (j = r0 ∨ B + 1 < j) ∧ Box W g7 35 #[.slice (some ⟨j, 0, none⟩) (k + 1) cj] ∧ OwS iv W r0 3 (some ⟨j, 0, none⟩) (k + 1) cj (sits (Nd.ls ns) a v (k + 1))
theorem RInv.below {w : World} {B r0 g1 g2 g3 g5 g7 : Nat} {A : Option Addr} {n c : Nat} {ns : List Nd} {a v : Int} {L k : Nat} {W W' : World} (h : RInv w B r0 g1 g2 g3 g5 g7 A n c ns a v L k W) (hb : Below W.heap.size W W') : RInv w B r0 g1 g2 g3 g5 g7 A n c ns a v L k W' := by
  obtain ⟨j, cj, h1, h2, h3⟩ := h.row
  exact ⟨h.lt, h.bel.trans (hb.mono h.bel.size), h.cap.step hb, h.b5.step hb, j, cj, h1, h2.step hb, h3.below hb⟩
theorem RInv.grown {w : World} {B r0 g1 g2 g3 g5 g7 r : Nat} {A : Option Addr} {n c : Nat} {ns : List Nd} {a v : Int} {L k : Nat} {W W' : World} (h : RInv w B r0 g1 g2 g3 g5 g7 A n c ns a v L k W) (hg : W.grownBy W' (some r)) (h1 : B ≤ r) (h2 : r ≤ B + 1)
    (hr : g1 < B ∧ g2 < B ∧ g3 < B ∧ g5 < B ∧ g7 < B ∧ r0 < B ∧ w.heap.size ≤ B) : RInv w B r0 g1 g2 g3 g5 g7 A n c ns a v L k W' := by
  obtain ⟨j, cj, h3, h4, h5⟩ := h.row
  exact ⟨h.lt, h.bel.trans (below_of_grown hg (fun j e => by injection e with e; omega) h.bel.size), h.cap.grown hg (by omega) (by omega) (by omega) (by omega) h.bel.size, h.b5.grown hg (fun e => by injection e with e; omega), j, cj, h3, h4.grown hg (fun e => by injection e with e; omega), h5.grown hg (fun g' hA e => by injection hA with hA; injection hA with hA; injection e with e; omega)⟩
set_option maxRecDepth 100000 in
set_option maxHeartbeats 4000000 in
theorem round_any (A : Option Addr) (n c : Nat) (ns : List Nd) (a v : Int) (w : World) (hn : n ≤ 9223372036854775807) (ha : 0 ≤ a ∧ a ≤ 4294967295) (hx : ∀ x ∈ ns, x.n ≤ 9223372036854775807) (hr : NRd w w.heap.size A n c ns)
    (L : Nat) (hL0 : 1 ≤ L) (hL1 : L ≤ 1000000) (hgo : ∀ j, j ≤ L → (sit (Nd.ls ns) a v j).2 = true) (hback : (sit (Nd.ls ns) a v L).1 = v) (hmin : ∀ j, 0 < j → j < L → (sit (Nd.ls ns) a v j).1 ≠ v) :
    Calls Try.prog 31 #[.agg #[.slice A n c], .int .u32 a, .int .i64 v] w (fun e w' => ∃ A' c', e = .returned (.slice A' L c') ∧ OwS iv w' w.heap.size 3 A' L c' (sits (Nd.ls ns) a v L) ∧ Below w.heap.size w w') := by
  obtain ⟨m, _⟩ : ∃ m : Nat, True := ⟨0, trivial⟩
  refine (callsIn_wide (n := m)).1 ?_
  obtain ⟨W, hW⟩ : ∃ W, (w.alloc (.cells #[.slice A n c] 24)).alloc (.cells #[.int .i64 v] 3) = W := ⟨_, rfl⟩
  have hz : W.heap.size = w.heap.size + 2 := by rw [← hW]; simp
  have k0 : Below w.heap.size w W := by
    rw [← hW]
    have a1 := below_alloc w (Nat.le_refl _) (.cells #[.slice A n c] 24)
    exact a1.trans ((below_alloc _ (Nat.le_refl _) (.cells #[.int .i64 v] 3)).mono a1.size)
  have b3 : Box W w.heap.size 24 #[.slice A n c] := by rw [← hW]; exact (Box.new w #[.slice A n c] 24).alloc _
  have b5 : Box W (w.heap.size + 1) 3 #[.int .i64 v] := by rw [← hW]; simpa using Box.new (w.alloc (.cells #[.slice A n c] 24)) #[.int .i64 v] 3
  have y5 : W.cell? ⟨w.heap.size + 1, 0, none⟩ = some (.int .i64 v) := b5.cell 0
  obtain ⟨U, hU⟩ : ∃ U, (W.alloc (.cells #[.int .i64 v] 3)).alloc (.cells #[.slice (some ⟨W.heap.size, 0, none⟩) 1 1] 35) = U := ⟨_, rfl⟩
  have hzU : U.heap.size = W.heap.size + 2 := by rw [← hU]; simp
  have kU : Below W.heap.size W U := by
    rw [← hU]
    have a1 := below_alloc W (Nat.le_refl _) (.cells #[.int .i64 v] 3)
    exact a1.trans ((below_alloc _ (Nat.le_refl _) (.cells #[.slice (some ⟨W.heap.size, 0, none⟩) 1 1] 35)).mono a1.size)
  have b3 := b3.step kU
  have b5 := b5.step kU
  have b7 : Box U (W.heap.size + 1) 35 #[.slice (some ⟨W.heap.size, 0, none⟩) 1 1] := by rw [← hU]; simpa using Box.new (W.alloc (.cells #[.int .i64 v] 3)) #[.slice (some ⟨W.heap.size, 0, none⟩) 1 1] 35
  have o7 : OwS iv U W.heap.size 3 (some ⟨W.heap.size, 0, none⟩) 1 1 [v] := by rw [← hU]; exact (OwS.lit (f := iv) (base := W.heap.size) (e := 3) (xs := [v]) W #[.int .i64 v] 1 (Nat.le_refl _) (by simp [maxLen]) rfl rfl).alloc _
  have y3 : U.cell? ⟨w.heap.size, 0, none⟩ = some (.slice A n c) := b3.cell 0
  have y5' : U.cell? ⟨w.heap.size + 1, 0, none⟩ = some (.int .i64 v) := b5.cell 0
  have B1 := k0.trans (kU.mono k0.size)
  have hrU := hr.step B1
  have Hz := Lib.hid hz
  have HzU := Lib.hid hzU
  have Hgo := Lib.hid hgo
  have Hback := Lib.hid hback
  have Hmin := Lib.hid hmin
  clear hgo hback hmin hz hzU
  refine callsIn_of_wp_marks Try.func31 rfl trivial ?_ rfl
  simp only [Try.ntmps31, List.size_toArray, List.length_cons, List.length_nil, Nat.reduceAdd, Nat.reduceSub, Array.replicate_succ, Array.replicate_zero, List.push_toArray, List.append_toArray, List.nil_append, List.cons_append]
  gi_wp2_with (refine ⟨trivial, (fun h => by cases h), ?_⟩; gi_at_call 27; refine (callsIn_wide.2 (steps_any A n c ns a v _ w.heap.size hrU)).mono ?_; rintro e w3 ⟨g1, g2, g3, rfl, cap, hb3, hg1, hg2, hg3⟩)
  have zz : w.heap.size + 1 < W.heap.size ∧ W.heap.size + 1 < g1 ∧ W.heap.size + 1 < g2 ∧ W.heap.size + 1 < g3 ∧ W.heap.size + 1 < w3.heap.size ∧ g1 < w3.heap.size ∧ g2 < w3.heap.size ∧ g3 < w3.heap.size := by
    have := cap.net.lt
    have := cap.ca.lt
    have := cap.cv.lt
    have := Hz.out
    have := HzU.out
    omega
  have zU := HzU.out
  obtain ⟨r0, hr0⟩ : ∃ g, W.heap.size = g := ⟨_, rfl⟩
  have b5 := b5.step hb3
  have b7 := b7.step hb3
  have o7 := o7.below hb3
  have k3 := B1.trans (hb3.mono B1.size)
  rw [hr0] at b7 o7 zz ⊢
  obtain ⟨B, hB⟩ : ∃ g, w3.heap.size = g := ⟨_, rfl⟩
  have hBlt : r0 + 1 < B := by omega
  clear y3 y5 y5' hU hW b3 kU hb3 hrU hg1 hg2 hg3 zU Hz HzU
  refine range_steps m w.heap.size g1 g2 g3 A n c ns a v hn ha hx rfl rfl L (RInv w B r0 g1 g2 g3 (w.heap.size + 1) (r0 + 1) A n c ns a v L) (fun cd W => cd = .exit 0 ∧ ∃ k, k + 1 = L ∧ RInv w B r0 g1 g2 g3 (w.heap.size + 1) (r0 + 1) A n c ns a v L k W)
    (fun k W h => Nat.le_of_lt h.lt) (fun k W W' h hb => h.below hb) (fun k W W' r h hg hr hr2 _ => h.grown hg (by omega) (by omega) (by omega)) (fun cd W W' r h hg hr hr2 _ => by obtain ⟨h1, k, h2, h3⟩ := h; exact ⟨h1, k, h2, h3.grown hg (by omega) (by omega) (by omega)⟩) (fun k W h => h.cap)
    ⟨by omega, k3, cap, b5, r0, 1, .inl rfl, b7, o7⟩ ?_ ?_ ?_
  · intro l k W4 K' hW hI hgo hK
    have HK := Lib.hid hK
    clear hK
    gi_wp2
    refine HK.out _ ?_
    clear hI HK K'
    intro W2 hs hI
    have hB2 : B + 1 < W2.heap.size := by omega
    clear hs hW W4
    have hkl := hI.lt
    obtain ⟨j, cj, hj, bj, oj⟩ := hI.row
    have y5 : W2.cell? ⟨w.heap.size + 1, 0, none⟩ = some (.int .i64 v) := hI.b5.cell 0
    have hsn := sits_snoc (Nd.ls ns) a v (k + 1)
    obtain ⟨q, hq⟩ : ∃ q, (sit (Nd.ls ns) a v (k + 1)).1 = q := ⟨_, rfl⟩
    rw [hq] at hsn ⊢
    have Hsn := Lib.hid hsn
    have Hq := Lib.hid hq
    clear hsn hq hgo
    by_cases hv : q = v
    · have hlast : k + 1 = L := by
        by_cases e : k + 1 = L
        · exact e
        · exact absurd (Hq.out.trans hv) (Hmin.out (k + 1) (by omega) (by omega))
      have Hlast := Lib.hid hlast
      subst hv
      clear hlast
      gi_wp2
      exact ⟨KeepL.refl _ _, rfl, k, Hlast.out, hI⟩
    · have hlast : k + 1 < L := by
        by_cases e : k + 1 = L
        · exact absurd (Hq.out.symm.trans (by rw [e]; exact Hback.out)) hv
        · omega
      have hd : (q == v) = false := by simpa using hv
      have y7 : W2.cell? ⟨r0 + 1, 0, none⟩ = some (.slice (some ⟨j, 0, none⟩) (k + 1) cj) := bj.cell 0
      gi_wp2_with (gi_at_builtin; refine wi_append1 rfl _ _ _ rfl el_int (f := iv) (fun _ => rfl) rfl (oj.alloc (.cells #[.int .i64 q] 3)) rfl (OwS.lit (base := W2.heap.size) (e := 3) (xs := [q]) W2 #[.int .i64 q] 1 (Nat.le_refl _) (by simp [maxLen]) rfl rfl).rd (by omega) (by omega) (by have := hI.bel.size; simp; omega) ?_; intro A9 c9 w9 ow9 hg9 hb9 hA9; have b9 := (bj.alloc (.cells #[.int .i64 q] 3)).grown hg9 (fun e => by simp [rowOf] at e; omega); have y9 : w9.cell? ⟨r0 + 1, 0, none⟩ = some (.slice (some ⟨j, 0, none⟩) (k + 1) cj) := b9.cell 0; have fz9 := b9.frozen 0; have S := b9.setCell 0 (.slice A9 (k + 1 + 1) c9))
      have k6 := below_alloc W2 (Nat.le_refl _) (.cells #[.int .i64 q] 3)
      have hrow : rowOf (some ⟨j, 0, none⟩) = some j := rfl
      have kl : KeepL B W2 _ := ((KeepL.below hB2 k6).trans (KeepL.grown (by have := k6.size; omega) hg9 (fun i e => by rw [hrow] at e; injection e with e; omega))).trans (KeepL.grown (by have := k6.size; have := hg9.size; omega) S.2 (fun i e => by injection e with e; omega))
      have B7 := hI.bel.trans (k6.mono hI.bel.size)
      have B8 := B7.trans (below_of_grown hg9 (fun i e => by rw [hrow] at e; injection e with e; omega) B7.size)
      have B9 := B8.trans (below_of_grown S.2 (fun i e => by injection e with e; omega) B8.size)
      have cp := ((hI.cap.step k6).grown (r := j) (by rw [hrow] at hg9; exact hg9) (by omega) (by omega) (by omega) (by omega) B7.size).grown S.2 (by omega) (by omega) (by omega) (by omega) B8.size
      have b5 := ((hI.b5.step k6).grown hg9 (fun e => by rw [hrow] at e; injection e with e; omega)).grown S.2 (fun e => by injection e with e; omega)
      have hA : ∃ j', (j' = r0 ∨ B + 1 < j') ∧ A9 = some ⟨j', 0, none⟩ := by
        rcases hA9 with rfl | rfl
        · exact ⟨j, hj, rfl⟩
        · exact ⟨_, .inr (by have := k6.size; omega), rfl⟩
      obtain ⟨j', hj', rfl⟩ := hA
      have o9 := ow9.grown S.2 (fun g' hA e => by injection hA with hA; injection hA with hA; injection e with e; omega)
      exact ⟨by rw [hB]; exact kl, hlast, B9, cp, b5, j', c9, hj', S.1, by rw [Hsn.out]; exact o9⟩
  · intro k W hno hI hD
    have hkl := hI.lt
    have := Hgo.out (k + 1) (by omega)
    rw [this] at hno
    cases hno
  · rintro cd W ⟨rfl, k, hk, hI⟩ hD
    obtain ⟨j, cj, hj, bj, oj⟩ := hI.row
    have y7 : W.cell? ⟨r0 + 1, 0, none⟩ = some (.slice (some ⟨j, 0, none⟩) (k + 1) cj) := bj.cell 0
    have gp := grownBy_putObj' W w3.heap.size (.deferred none)
    have B6 := hI.bel.trans (below_of_grown gp (fun j e => by injection e with e; omega) hI.bel.size)
    have o6 := oj.grown gp (fun g' hA e => by injection hA with hA; injection hA with hA; injection e with e; omega)
    subst hk
    dsimp only
    gi_wp2
    exact retM1 hD (results_tmp rfl _ _ _) ⟨_, _, rfl, o6.base_le (by omega), B6⟩
end Go.Proofs.Ytdmkiejaejlajaa
