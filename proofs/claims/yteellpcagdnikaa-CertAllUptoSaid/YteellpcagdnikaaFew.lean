/-
  The walk of law17.few.
-/
import Derived.Test.YteellpcagdnikaaCertFirst
namespace Go.Th
open Go.RowKit
theorem cutA_zero (A : Option Addr) (c : Nat) : cutA A 0 c = A := by
  unfold cutA
  split
  · rfl
  · cases A with
    | none => rfl
    | some a => simp [Addr.add]
theorem RdS.few {α : Type} {f : α → Value} {A : Option Addr} {n c : Nat} (m N : Nat) (hN : min n m = N) {w : World} {B : Nat} {bs : List α} (hr : RdS f w B A n c bs) : RdS f w B A N c (bs.take m) := by
  have hc := hr.cap
  have h := hr.cut 0 N c (by omega) (by omega) (by omega)
  rw [cutA_zero] at h
  have e : bs.take m = bs.take N := by
    by_cases hm : m ≤ n
    · rw [show N = m by omega]
    · rw [show N = n by omega, List.take_of_length_le (by rw [hr.len]; omega), List.take_of_length_le (by rw [hr.len]; omega)]
  rw [e]
  exact h
def Pt.few (p : Pt) : Pt := ⟨p.fr, p.to, p.A, min p.n 20, p.c, p.rk.take 20⟩
theorem PRd.few {w : World} {B : Nat} {A : Option Addr} {n c : Nat} {ps : List Pt} (h : PRd w B A n c ps) {w' : World} {base : Nat} {e : TypeId} {A' : Option Addr} {n' c' : Nat} (ho : OwM Pt.cs 3 w' base e A' n' c' ((ps.take 20).map Pt.few)) (hb : Below w.heap.size w w') :
    PRd w' w'.heap.size A' n' c' ((ps.take 20).map Pt.few) := by
  refine ⟨ho.rd, fun p hp => ?_, fun p hp => ?_⟩
  · obtain ⟨q, hq, rfl⟩ := List.mem_map.1 hp
    have := (h.step hb).rk q (List.mem_of_mem_take hq)
    exact (this.few 20 _ rfl).heap
  · obtain ⟨q, hq, rfl⟩ := List.mem_map.1 hp
    exact ⟨(h.ok q (List.mem_of_mem_take hq)).fr, (h.ok q (List.mem_of_mem_take hq)).to⟩
theorem PRd.heap {w : World} {B : Nat} {A : Option Addr} {n c : Nat} {ps : List Pt} (h : PRd w B A n c ps) : PRd w w.heap.size A n c ps := ⟨h.rd.heap, fun p hp => (h.rk p hp).heap, h.ok⟩
theorem PRd.below {w w' : World} {B : Nat} {A : Option Addr} {n c : Nat} {ps : List Pt} (h : PRd w B A n c ps) (hb : Below B w w') : PRd w' B A n c ps := ⟨h.rd.below hb, fun p hp => (h.rk p hp).below hb, h.ok⟩
section
variable {P : Program} {ops : Array Oper} {rest : List Oper} {o : Oper} {a : Act} {Q : Exit → Act → World → Prop} {w : World}
/-- s[:h], the place stays. -/
theorem wl_cut_hz (hw : Region.wanted o (yielded ops a.tmps) = true) (T : TypeId) (s : Operand) {E bytes : Nat} {z : Value} (el : El P T E z bytes)
    {A : Option Addr} {n c : Nat} (hs : a.eval s = .slice A n c) (hi : Operand) (ho : o.op = .slice T s Option.none (some hi) Option.none) {k : IntKind} {I : Int} (hhi : a.eval hi = .int k I) (H : Nat) (hH : I = (H : Int) ∧ H ≤ n) (hc : n ≤ c)
    (h : wpList P ops Q rest (a.put o.dst (.slice A H c)) w) : wpList P ops Q (o :: rest) a w :=
  wl_cut_hx hw T s el hs hi ho hhi H hH hc (by rw [cutA_zero]; exact h)
end
section
variable {P : Program} {ops : Array Oper} {C : World → Prop} {Q : Act → Prop} {rest : List Oper} {o : Oper} {a : Act}
theorem wq_cut_hz (hw : Region.wanted o (yielded ops a.tmps) = true) (T : TypeId) (s : Operand) {E bytes : Nat} {z : Value} (el : El P T E z bytes)
    {A : Option Addr} {n c : Nat} (hs : a.eval s = .slice A n c) (hi : Operand) (ho : o.op = .slice T s Option.none (some hi) Option.none) {k : IntKind} {I : Int} (hhi : a.eval hi = .int k I) (H : Nat) (hH : I = (H : Int) ∧ H ≤ n) (hc : n ≤ c)
    (h : wpQuiet P ops C Q rest (a.put o.dst (.slice A H c))) : wpQuiet P ops C Q (o :: rest) a := by
  obtain ⟨rfl, hH⟩ := hH
  refine wq_run hw (v := .slice (cutA A 0 c) (H - 0) (c - 0)) (fun w hC => ?_) (by rw [cutA_zero]; exact h)
  have hb : (Instr.sliceBounds true n c Option.none (some (.int k (H : Int))) Option.none).run P w = .ok (0, H, c) w := bounds_h k (by omega)
  simp only [execOp, ho, hs, hhi, Option.map_some, Option.map_none, Sem.run_bind, Instr.sliceAt, run_underlying el.ht, Instr.slice, hb, el.size, Result.andThen, Sem.run_pure, Nat.mul_one, cutA]
end
end Go.Th
namespace Go.Proofs.Yteellpcagdnikaa
open Go.RowKit Go.Th
set_option linter.unusedVariables false
theorem z_part : (Try.prog.info? 26).map (fun i => (i.zero.map Value.cells, i.size)) = some (some Pt.zero.cs.toArray, 3) := by kernel_rfl
theorem setFew {w : World} {g : Nat} {t : TypeId} {p : Pt} (m : Nat) (h : Hid (p.few = ⟨p.fr, p.to, p.A, m, p.c, p.rk.take 20⟩)) (hb : Box w g t p.cs.toArray) :
    Box (w.setCell ⟨g, 2, none⟩ (.slice p.A m p.c)) g t (Pt.cs ⟨p.fr, p.to, p.A, m, p.c, p.rk.take 20⟩).toArray ∧ w.grownBy (w.setCell ⟨g, 2, none⟩ (.slice p.A m p.c)) (some g) := hb.setCell 2 (.slice p.A m p.c)
theorem few_row {w : World} {A : Option Addr} {n c b g : Nat} {e : TypeId} {ps : List Pt} (h : OwM Pt.cs 3 w b e A n c ps) (hg : g < b) : rowOf A ≠ some g := fun e => by
  rcases h.ow.form with ⟨e2, _⟩ | ⟨g', e2, hb, _⟩
  · subst e2; simp [rowOf] at e
  · subst e2; simp [rowOf] at e; omega
section
variable {ops : Array Oper} {rest : List Oper} {o : Oper} {a : Act} {Q : Exit → Act → World → Prop} {w : World}
theorem few_app (s x : Operand) (hw : Region.wanted o (yielded ops a.tmps) = true) (ho : o.op = .call { callee := .builtin .append, args := #[s, x], argTypes := #[27, 27] })
    {p : Pt} {m k c g N : Nat} {A : Option Addr} {ps : List Pt} (Hfew : Hid (p.few = ⟨p.fr, p.to, p.A, m, p.c, p.rk.take 20⟩)) (ow : OwM Pt.cs 3 w (g + 1) 26 A k c ((ps.take k).map Pt.few))
    (hs : a.eval s = .slice A k c) {G : Nat} (hx : a.eval x = .slice (some ⟨G, 0, none⟩) 1 1) (hG : G = w.heap.size) (hk : k < N) (hN : N ≤ 20) (hg : g + 1 ≤ w.heap.size)
    (h : ∀ A8 c8 w8, OwM Pt.cs 3 w8 (g + 1) 26 A8 (k + 1) c8 ((ps.take k).map Pt.few ++ [p.few]) → (w.alloc (.cells #[.int .u32 p.fr, .int .u32 p.to, .slice p.A m p.c] 26)).grownBy w8 (rowOf A) → Below (g + 1) (w.alloc (.cells #[.int .u32 p.fr, .int .u32 p.to, .slice p.A m p.c] 26)) w8 → wpList Try.prog ops Q rest (a.put o.dst (.slice A8 (k + 1) c8)) w8) :
    wpList Try.prog ops Q (o :: rest) a (w.alloc (.cells #[.int .u32 p.fr, .int .u32 p.to, .slice p.A m p.c] 26)) :=
  wm_append Pt.cs_length hw s x _ ho el_part Pt.one hs (ow.alloc _) hx (OwM.lit' (base := w.heap.size) (e := 26) (xs := [p.few]) Pt.cs_length w _ 1 G hG (Nat.le_refl _) (by simp [maxLen]) rfl (by rw [Hfew.out]; rfl)).rd (by omega) (by omega) (by simp; omega) h
end
def FewRel (g N : Nat) (v d : Int) (At : Option Addr) (M ct : Nat) (ps : List Pt) (wb : World) (i : Value) (wr : World) : Prop :=
  ∃ (k c : Nat) (A : Option Addr), k ≤ N ∧ i = .int .i64 k ∧ Box wr g 29 (Cv v A k c d At M ct) ∧ OwM Pt.cs 3 wr (g + 1) 26 A k c ((ps.take k).map Pt.few) ∧ Below g wb wr
set_option maxRecDepth 100000 in
set_option maxHeartbeats 4000000 in
theorem few17_any (v : Int) (Ap : Option Addr) (np cp : Nat) (d : Int) (At : Option Addr) (nt ct : Nat) (w : World) (hnp : np ≤ 9223372036854775807) (hnt : nt ≤ 9223372036854775807) (ps : List Pt) (tr : List Int) (B : Nat) (hp : PRd w B Ap np cp ps) (ht : RdS iv w B At nt ct tr) (hsm : ∀ p ∈ ps, p.n ≤ 9223372036854775807) (N M : Nat) (hN : min np 20 = N) (hM : min nt 20 = M) :
    Calls Try.prog 14 #[.agg #[.int .i64 v, .slice Ap np cp, .int .u32 d, .slice At nt ct]] w (fun e w' => ∃ A' c', e = .returned (.agg #[.int .i64 v, .slice A' N c', .int .u32 d, .slice At M ct]) ∧ OwM Pt.cs 3 w' w.heap.size 26 A' N c' ((ps.take 20).map Pt.few) ∧ Below w.heap.size w w') := by
  have hlen := hp.rd.len
  have HN := Lib.hid hN
  have Hsm := Lib.hid hsm
  have hN1 : N ≤ 20 ∧ N ≤ np := by omega
  obtain ⟨hN2, hN3⟩ := hN1
  have htc := ht.cap
  have htl := Lib.hid ht.len
  clear hsm hN
  have HM := Lib.hid hM
  have hways : (nt ≤ 20 ∧ Hid (M = nt)) ∨ (20 < nt ∧ Hid (M = 20)) := by
    rcases Nat.lt_or_ge 20 nt with h | h
    · exact .inr ⟨h, Lib.hid (by omega)⟩
    · exact .inl ⟨h, Lib.hid (by omega)⟩
  clear hM
  have bx := (Box.new w (Cv v Ap np cp d At nt ct) 29).alloc (.cells (Cv 0 none 0 0 0 none 0 0) 29)
  have b2 := Box.new (w.alloc (.cells (Cv v Ap np cp d At nt ct) 29)) (Cv 0 none 0 0 0 none 0 0) 29
  rw [heap_size_alloc] at b2
  have k1 : Below w.heap.size w _ := (below_alloc w (Nat.le_refl _) (.cells (Cv v Ap np cp d At nt ct) 29)).alloc (by simp) (.cells (Cv 0 none 0 0 0 none 0 0) 29)
  have hs2 : (((w.alloc (.cells (Cv v Ap np cp d At nt ct) 29)).alloc (.cells (Cv 0 none 0 0 0 none 0 0) 29))).heap.size = w.heap.size + 2 := by simp
  rcases hways with ⟨hn, hMM⟩ | ⟨hn, hMM⟩
  all_goals
    go_enter Try.func14, Try.ntmps14
    go_upto_region 1 with fail
    obtain ⟨w1, hw1⟩ : ∃ W, ((w.alloc (.cells (Cv v Ap np cp d At nt ct) 29)).alloc (.cells (Cv 0 none 0 0 0 none 0 0) 29)) = W := ⟨_, rfl⟩
    have hg : (w.alloc (.cells #[.int .i64 v, .slice Ap np cp, .int .u32 d, .slice At nt ct] 29)).alloc (.cells #[.int .i64 0, .slice none 0 0, .int .u32 0, .slice none 0 0] 29) = w1 := hw1
    rw [hw1] at bx b2 k1 hs2
    first | rw [hg] | rw [hw1]
    clear hg hw1
    have y0 : ∀ q : Step (w.heap.size + 2) w1.drew, q.w.cell? ⟨w.heap.size, 0, none⟩ = some (.int .i64 v) := fun q => (bx.drew.below q.h (by omega)).cell 0
    have y2 : ∀ q : Step (w.heap.size + 2) w1.drew, q.w.cell? ⟨w.heap.size, 2, none⟩ = some (.int .u32 d) := fun q => (bx.drew.below q.h (by omega)).cell 2
    have y3 : ∀ q : Step (w.heap.size + 2) w1.drew, q.w.cell? ⟨w.heap.size, 3, none⟩ = some (.slice At nt ct) := fun q => (bx.drew.below q.h (by omega)).cell 3
    refine wp_region_tree (.float 0 12 (.one 12 (.one 13 .done))) (Th.Reach (w.heap.size + 2)) (Th.Reach.trans _) (Th.Reach.refl _) (by kernel_rfl) (by kernel_rfl) (fun KT hKT => ?_)
    refine wpTree_float (fun KF hKF => ?_)
    simp only [List.drop, List.take]
    repeat (first | go_big_quiet_skip | ((with_reducible refine onq_slice (.tmp 11) ?_); refine wq_cut_hz rfl _ (.tmp 11) el_int rfl _ rfl rfl M (by have := hMM.out; omega) htc ?_) | go_big_quiet_step (fail) | quiet_step (fail))
    refine wpQuiet_nil ?_
    refine hKF _ ?_
    clear hKF KF
    refine wpTree_one (fun KO hKO => ?_)
    simp only [List.drop, List.take]
    go_wp2_with (first | ((with_reducible refine on_alloc ?_); refine wl_newBox rfl _ rfl z_cert ?_; intro g w3 hg3 hl3 bg hb3; have z3 : w1.heap.size ≤ w3.heap.size := hb3.size; have zg : w1.heap.size ≤ g := hg3; have u3 : Below (w.heap.size + 2) _ _ := hb3.mono (by show _ ≤ w1.heap.size; omega)) | ((with_reducible refine on_store_at (.tmp 3) ?_); refine wb_store (cs := Cv 0 none 0 0 0 none 0 0) (cs' := Cv v none 0 0 d At M ct) rfl _ (.tmp 3) _ rfl st_cert rfl rfl bg rfl rfl (by simp [Cv, Value.oneCell']) ?_; intro w4 bx4 hg4; have u4 := below_of_grown hg4 (B := w.heap.size + 2) (fun j e => by injection e with e; omega) (by omega)))
    refine anch_end (Th.Reach.of (by first | exact Below.refl _ _ | exact below_alloc _ (by first | omega | (simp; done) | (simp; omega)) _ | exact below_alloc2 _ (by first | omega | (simp; done) | (simp; omega)) _ _ | exact below_alloc2d _ (by simp) _ _ | exact bdrew _ _ | assumption | (exact Below.mono (by assumption) (by first | (simp; done) | (simp; omega) | omega | assumption)))) (hKO _ _ ?_)
    clear hKO KO
    refine wpTree_one (fun KO hKO => ?_)
    simp only [List.drop, List.take]
    go_wp2_with (first | ((with_reducible refine on_alloc ?_); refine wl_newBox rfl _ rfl z_cert ?_; intro g w3 hg3 hl3 bg hb3; have z3 : w1.heap.size ≤ w3.heap.size := hb3.size; have zg : w1.heap.size ≤ g := hg3; have u3 : Below (w.heap.size + 2) _ _ := hb3.mono (by show _ ≤ w1.heap.size; omega)) | ((with_reducible refine on_store_at (.tmp 3) ?_); refine wb_store (cs := Cv 0 none 0 0 0 none 0 0) (cs' := Cv v none 0 0 d At M ct) rfl _ (.tmp 3) _ rfl st_cert rfl rfl bg rfl rfl (by simp [Cv, Value.oneCell']) ?_; intro w4 bx4 hg4; have u4 := below_of_grown hg4 (B := w.heap.size + 2) (fun j e => by injection e with e; omega) (by omega)))
    refine anch_end (Th.Reach.of (by first | exact Below.refl _ _ | exact below_alloc _ (by first | omega | (simp; done) | (simp; omega)) _ | exact below_alloc2 _ (by first | omega | (simp; done) | (simp; omega)) _ _ | exact below_alloc2d _ (by simp) _ _ | exact bdrew _ _ | assumption | (exact Below.mono (by assumption) (by first | (simp; done) | (simp; omega) | omega | assumption)))) (hKO _ _ ?_)
    clear hKO KO
    refine wpTree_done ?_
    refine hKT _ _ ?_
    clear hKT KT
    have B4 : Below (w.heap.size + 2) w1 w4 := ((bdrew _ _ : Below (w.heap.size + 2) w1 w1.drew).trans u3).trans u4
    have z4 : w1.heap.size ≤ w4.heap.size := Nat.le_trans z3 hg4.size
    have bxa := bx.below B4 (by omega)
    have b2a := b2.below B4 (by omega)
    have B4' : Below w.heap.size w w4 := k1.trans (B4.mono (by omega))
    have hp4 := hp.heap.below B4'
    have gl := bx4.lt
    clear u3 u4 hb3 hg4 bg y0 y2 y3 B4 bx b2 k1 hl3 z3 hg3 hp ht
    clear w3
    go_wp2
    go_loopw [4] (fun i wr => FewRel g N v d At M ct ps w4 i wr) (fun i _ => N - (intOf i).toNat)
    case atStart => exact ⟨0, 0, none, by omega, rfl, bx4, OwM.nil_ _ _ _, Below.refl _ _⟩
    case round =>
      obtain ⟨k, c, A, hk, rfl, bx, ow, hb⟩ := hrel
      have bxr := bxa.below hb (by omega)
      have b2r := b2a.below hb (by omega)
      have c1 : wr.cell? ⟨w.heap.size, 1, none⟩ = some (.slice Ap np cp) := bxr.cell 1
      by_cases hlt : k < N
      · obtain ⟨p, hpk⟩ : ∃ p, ps[k]? = some p := ⟨ps[k]'(by omega), List.getElem?_eq_getElem _⟩
        have hpr := hp4.below (hb.mono (by omega))
        have hcap := (hpr.rk p (List.mem_of_getElem? hpk)).cap
        have hpn := Hsm.out p (List.mem_of_getElem? hpk)
        have Hst : Hid ((ps.take (k + 1)).map Pt.few = (ps.take k).map Pt.few ++ [p.few]) := Lib.hid (by rw [List.take_add_one, hpk]; simp)
        have Hpk := Lib.hid hpk
        clear hpk
        have hways : (p.n ≤ 20 ∧ Hid (min p.n 20 = p.n)) ∨ (20 < p.n ∧ Hid (min p.n 20 = 20)) := by
          rcases Nat.lt_or_ge 20 p.n with h | h
          · exact .inr ⟨h, Lib.hid (by omega)⟩
          · exact .inl ⟨h, Lib.hid (by omega)⟩
        have zr := bx.lt
        have hways : ∃ m, m ≤ 20 ∧ Hid (p.few = ⟨p.fr, p.to, p.A, m, p.c, p.rk.take 20⟩) ∧ ((p.n ≤ 20 ∧ m = p.n) ∨ (20 < p.n ∧ m = 20)) := by
          rcases hways with ⟨h, hh⟩ | ⟨h, hh⟩
          · exact ⟨p.n, h, Lib.hid (by unfold Pt.few; rw [hh.out]), .inl ⟨h, rfl⟩⟩
          · exact ⟨20, by omega, Lib.hid (by unfold Pt.few; rw [hh.out]), .inr ⟨h, rfl⟩⟩
        have hAlt : ∀ g', A = some ⟨g', 0, none⟩ → g < g' ∧ g' < wr.heap.size := fun g' hA => by subst hA; have := ow.lt; omega
        have HAlt := Lib.hid hAlt
        clear hAlt
        obtain ⟨m, hm20, Hfew, hways⟩ := hways
        rcases hways with ⟨hq, rfl⟩ | ⟨hq, rfl⟩
        all_goals
          go_wp2_with (first
            | ((with_reducible refine on_index (.tmp 30) ?_); refine wm_at Pt.cs_length rfl _ (.tmp 30) _ rfl el_part rfl rfl (by omega) (by omega) hpr.rd ?_; intro b1 j1 r1 hr1 hb1 hc1; have hxx : p = r1 := get_eq Hpk.out hr1.out (by omega); subst hxx)
            | ((with_reducible refine on_load (.tmp 32) ?_); refine wpt_load rfl _ (.tmp 32) rfl st_part rfl hc1 ?_)
            | ((with_reducible refine on_alloc ?_); refine wl_newBox rfl _ rfl z_part ?_; intro g5 w5 hg5 hl5 bp5 hb5)
            | ((with_reducible refine on_store_at (.tmp 5) ?_); refine wpt_store (r := Pt.zero) (s := p) rfl _ (.tmp 5) _ rfl st_part rfl rfl bp5 ?_; intro w6 bp6 hg6; have q2 : w6.cell? ⟨g5, 2, none⟩ = some (.slice p.A p.n p.c) := bp6.cell 2; have fz2 := bp6.frozen 2; have bS := setFew _ Hfew bp6; have bx6 := (bx.step hb5).grown hg6 (box_ne (by omega)); have c6 : w6.cell? ⟨g, 1, none⟩ = some (.slice A k c) := bx6.cell 1; have bx7 := bx6.grown bS.2 (box_ne (by omega)); have ow7 := ((ow.below hb5).grown hg6 (fun g' hA e => by have := HAlt.out g' hA; injection e with e; omega)).grown bS.2 (fun g' hA e => by have := HAlt.out g' hA; injection e with e; omega); have B6 := (hb5.mono (show g ≤ wr.heap.size by omega)).trans ((below_of_grown (B := g) hg6 (fun j e => by injection e with e; omega) (by omega)).trans (below_of_grown (B := g) bS.2 (fun j e => by injection e with e; omega) (by have := hg6.size; omega))))
            | ((with_reducible refine on_slice (.tmp 35) ?_); refine wl_cut_hz rfl _ (.tmp 35) el_int rfl _ rfl rfl 20 (by omega) hcap ?_)
            | ((with_reducible refine on_load (.tmp 5) ?_); refine wpt_box rfl _ (.tmp 5) rfl st_part rfl bS.1 ?_)
            | ((with_reducible refine on_append (.tmp 43) (.tmp 45) ?_); refine few_app (.tmp 43) (.tmp 45) rfl rfl Hfew ow7 rfl rfl (by simp) hlt hN2 (by have := B6.size; omega) ?_; intro A8 c8 w8 ow8 hg8 hb8; have bx8 := (bx7.alloc _).grown hg8 (few_row ow7 (Nat.lt_succ_self g)); have d8 : w8.cell? ⟨g, 1, none⟩ = some (.slice A k c) := bx8.cell 1; have f8 := bx8.frozen 1; have B8 := B6.trans ((below_alloc _ (by have := B6.size; omega) _).trans (hb8.mono (by omega))); have bS8 := bx8.setCell 1 (.slice A8 (k + 1) c8)))
          go_roundw
          case rel => exact ⟨k + 1, c8, A8, by omega, by go_num, bS8.1, by rw [Hst.out]; exact ow8.grown bS8.2 (fun g' hA e => by injection e with e; subst hA; have := ow8.lt; omega), hb.trans (B8.trans (below_of_grown bS8.2 (fun j e => by injection e with e; omega) (by have := B8.size; omega)))⟩
          case measure => simp [intOf] <;> omega
      · have hkn : k = N := by omega
        subst hkn
        have hend : np ≤ k ∨ 20 ≤ k := by have := HN.out; omega
        rcases hend with he | he
        all_goals go_wp2_with (first
          | ((with_reducible refine on_load (.tmp 3) ?_); refine wcv_box rfl (.tmp 3) rfl rfl bx ?_)
          | ((with_reducible refine on_store_at (.tmp 2) ?_); refine wb_store (cs := Cv 0 none 0 0 0 none 0 0) (cs' := Cv v A k c d At M ct) rfl _ (.tmp 2) _ rfl st_cert rfl rfl b2r rfl rfl (by simp [Cv, Value.oneCell']) ?_; intro w9 b9 hg9))
        all_goals
          have hst : (ps.take k).map Pt.few = (ps.take 20).map Pt.few := by
            rcases Nat.lt_or_ge np 20 with h | h
            · rw [List.take_of_length_le (by have := HN.out; omega), List.take_of_length_le (by omega)]
            · rw [show k = 20 by have := HN.out; omega]
          have HST := Lib.hid hst
          clear hst
          refine bodyPost_ret (v := .agg #[.int .i64 v, .slice A k c, .int .u32 d, .slice At M ct]) ?_ rfl ⟨A, c, rfl, ?_, ?_⟩
          · exact results_cell_row rfl _ w9 (w.heap.size + 1) 29 _ (0, 0) _ rfl b9.at_ Try.underlying29 rfl st_cert.size
          · rw [← HST.out]
            exact (ow.grown hg9 (fun g' hA e => by injection e with e; subst hA; have := ow.lt; omega)).base_le (by omega)
          · exact (B4'.trans (hb.mono (by omega))).trans (below_of_grown hg9 (fun j e => by injection e with e; omega) (by have := b2r.lt; omega))
end Go.Proofs.Yteellpcagdnikaa
