/-
  Laid together by wip/tools/merge.py out of: Few, CertRef, CertRefMay, Cuts, Put, Fit12, FitLoops, RegionL, FitFree, CertSame.
-/
import Derived.Deep.CutBlock
import Derived.Test.YtjambnlocjjjpaaCfMa
import Derived.Test.YtjambnlocjjjpaaCfMb

/-! ### Few -/
namespace Go.Th
open Go.RowKit
theorem cutA_zero (A : Option Addr) (c : Nat) : cutA A 0 c = A := by
  unfold cutA
  split
  · rfl
  · cases A with
    | none => rfl
    | some a => simp [Addr.add]
theorem RdS.few {α : Type} {f : α → Value} {A : Option Addr} {n c : Nat} (m N : Nat) (hN : min n m = N) {w : World} {B : Nat} {bs : List α} (hr : RdS f w B A n c bs) : RdS f w B A N c (bs.take m) := by
  have hc := hr.cap
  have h := hr.cut 0 N c (by omega) (by omega) (by omega)
  rw [cutA_zero] at h
  have e : bs.take m = bs.take N := by
    by_cases hm : m ≤ n
    · rw [show N = m by omega]
    · rw [show N = n by omega, List.take_of_length_le (by rw [hr.len]; omega), List.take_of_length_le (by rw [hr.len]; omega)]
  rw [e]
  exact h
def Pt.few (p : Pt) : Pt := ⟨p.fr, p.to, p.A, min p.n 20, p.c, p.rk.take 20⟩
theorem PRd.few {w : World} {B : Nat} {A : Option Addr} {n c : Nat} {ps : List Pt} (h : PRd w B A n c ps) {w' : World} {base : Nat} {e : TypeId} {A' : Option Addr} {n' c' : Nat} (ho : OwM Pt.cs 3 w' base e A' n' c' ((ps.take 20).map Pt.few)) (hb : Below w.heap.size w w') :
    PRd w' w'.heap.size A' n' c' ((ps.take 20).map Pt.few) := by
  refine ⟨ho.rd, fun p hp => ?_, fun p hp => ?_⟩
  · obtain ⟨q, hq, rfl⟩ := List.mem_map.1 hp
    have := (h.step hb).rk q (List.mem_of_mem_take hq)
    exact (this.few 20 _ rfl).heap
  · obtain ⟨q, hq, rfl⟩ := List.mem_map.1 hp
    exact ⟨(h.ok q (List.mem_of_mem_take hq)).fr, (h.ok q (List.mem_of_mem_take hq)).to⟩
theorem PRd.heap {w : World} {B : Nat} {A : Option Addr} {n c : Nat} {ps : List Pt} (h : PRd w B A n c ps) : PRd w w.heap.size A n c ps := ⟨h.rd.heap, fun p hp => (h.rk p hp).heap, h.ok⟩
theorem PRd.below {w w' : World} {B : Nat} {A : Option Addr} {n c : Nat} {ps : List Pt} (h : PRd w B A n c ps) (hb : Below B w w') : PRd w' B A n c ps := ⟨h.rd.below hb, fun p hp => (h.rk p hp).below hb, h.ok⟩
section
variable {P : Program} {ops : Array Oper} {rest : List Oper} {o : Oper} {a : Act} {Q : Exit → Act → World → Prop} {w : World}
/-- s[:h], the place stays. -/
theorem wl_cut_hz (hw : Region.wanted o (yielded ops a.tmps) = true) (T : TypeId) (s : Operand) {E bytes : Nat} {z : Value} (el : El P T E z bytes)
    {A : Option Addr} {n c : Nat} (hs : a.eval s = .slice A n c) (hi : Operand) (ho : o.op = .slice T s Option.none (some hi) Option.none) {k : IntKind} {I : Int} (hhi : a.eval hi = .int k I) (H : Nat) (hH : I = (H : Int) ∧ H ≤ n) (hc : n ≤ c)
    (h : wpList P ops Q rest (a.put o.dst (.slice A H c)) w) : wpList P ops Q (o :: rest) a w :=
  wl_cut_hx hw T s el hs hi ho hhi H hH hc (by rw [cutA_zero]; exact h)
end
section
variable {P : Program} {ops : Array Oper} {C : World → Prop} {Q : Act → Prop} {rest : List Oper} {o : Oper} {a : Act}
theorem wq_cut_hz (hw : Region.wanted o (yielded ops a.tmps) = true) (T : TypeId) (s : Operand) {E bytes : Nat} {z : Value} (el : El P T E z bytes)
    {A : Option Addr} {n c : Nat} (hs : a.eval s = .slice A n c) (hi : Operand) (ho : o.op = .slice T s Option.none (some hi) Option.none) {k : IntKind} {I : Int} (hhi : a.eval hi = .int k I) (H : Nat) (hH : I = (H : Int) ∧ H ≤ n) (hc : n ≤ c)
    (h : wpQuiet P ops C Q rest (a.put o.dst (.slice A H c))) : wpQuiet P ops C Q (o :: rest) a := by
  obtain ⟨rfl, hH⟩ := hH
  refine wq_run hw (v := .slice (cutA A 0 c) (H - 0) (c - 0)) (fun w hC => ?_) (by rw [cutA_zero]; exact h)
  have hb : (Instr.sliceBounds true n c Option.none (some (.int k (H : Int))) Option.none).run P w = .ok (0, H, c) w := bounds_h k (by omega)
  simp only [execOp, ho, hs, hhi, Option.map_some, Option.map_none, Sem.run_bind, Instr.sliceAt, run_underlying el.ht, Instr.slice, hb, el.size, Result.andThen, Sem.run_pure, Nat.mul_one, cutA]
end
end Go.Th
namespace Go.Proofs.Ytjambnlocjjjpaa
open Go.RowKit Go.Th
set_option linter.unusedVariables false
theorem z_part : (Try.prog.info? 38).map (fun i => (i.zero.map Value.cells, i.size)) = some (some Pt.zero.cs.toArray, 3) := by kernel_rfl
theorem setFew {w : World} {g : Nat} {t : TypeId} {p : Pt} (m : Nat) (h : Hid (p.few = ⟨p.fr, p.to, p.A, m, p.c, p.rk.take 20⟩)) (hb : Box w g t p.cs.toArray) :
    Box (w.setCell ⟨g, 2, none⟩ (.slice p.A m p.c)) g t (Pt.cs ⟨p.fr, p.to, p.A, m, p.c, p.rk.take 20⟩).toArray ∧ w.grownBy (w.setCell ⟨g, 2, none⟩ (.slice p.A m p.c)) (some g) := hb.setCell 2 (.slice p.A m p.c)
theorem few_row {w : World} {A : Option Addr} {n c b g : Nat} {e : TypeId} {ps : List Pt} (h : OwM Pt.cs 3 w b e A n c ps) (hg : g < b) : rowOf A ≠ some g := fun e => by
  rcases h.ow.form with ⟨e2, _⟩ | ⟨g', e2, hb, _⟩
  · subst e2; simp [rowOf] at e
  · subst e2; simp [rowOf] at e; omega
section
variable {ops : Array Oper} {rest : List Oper} {o : Oper} {a : Act} {Q : Exit → Act → World → Prop} {w : World}
theorem few_app (s x : Operand) (hw : Region.wanted o (yielded ops a.tmps) = true) (ho : o.op = .call { callee := .builtin .append, args := #[s, x], argTypes := #[22, 22] })
    {p : Pt} {m k c g N : Nat} {A : Option Addr} {ps : List Pt} (Hfew : Hid (p.few = ⟨p.fr, p.to, p.A, m, p.c, p.rk.take 20⟩)) (ow : OwM Pt.cs 3 w (g + 1) 38 A k c ((ps.take k).map Pt.few))
    (hs : a.eval s = .slice A k c) {G : Nat} (hx : a.eval x = .slice (some ⟨G, 0, none⟩) 1 1) (hG : G = w.heap.size) (hk : k < N) (hN : N ≤ 20) (hg : g + 1 ≤ w.heap.size)
    (h : ∀ A8 c8 w8, OwM Pt.cs 3 w8 (g + 1) 38 A8 (k + 1) c8 ((ps.take k).map Pt.few ++ [p.few]) → (w.alloc (.cells #[.int .u32 p.fr, .int .u32 p.to, .slice p.A m p.c] 38)).grownBy w8 (rowOf A) → Below (g + 1) (w.alloc (.cells #[.int .u32 p.fr, .int .u32 p.to, .slice p.A m p.c] 38)) w8 → wpList Try.prog ops Q rest (a.put o.dst (.slice A8 (k + 1) c8)) w8) :
    wpList Try.prog ops Q (o :: rest) a (w.alloc (.cells #[.int .u32 p.fr, .int .u32 p.to, .slice p.A m p.c] 38)) :=
  wm_append Pt.cs_length hw s x _ ho el_part Pt.one hs (ow.alloc _) hx (OwM.lit' (base := w.heap.size) (e := 38) (xs := [p.few]) Pt.cs_length w _ 1 G hG (Nat.le_refl _) (by simp [maxLen]) rfl (by rw [Hfew.out]; rfl)).rd (by omega) (by omega) (by simp; omega) h
end
def FewRel (g N : Nat) (v d : Int) (At : Option Addr) (M ct : Nat) (ps : List Pt) (wb : World) (i : Value) (wr : World) : Prop :=
  ∃ (k c : Nat) (A : Option Addr), k ≤ N ∧ i = .int .i64 k ∧ Box wr g 26 (Cv v A k c d At M ct) ∧ OwM Pt.cs 3 wr (g + 1) 38 A k c ((ps.take k).map Pt.few) ∧ Below g wb wr
set_option maxRecDepth 100000 in
set_option maxHeartbeats 4000000 in
theorem few17_any (v : Int) (Ap : Option Addr) (np cp : Nat) (d : Int) (At : Option Addr) (nt ct : Nat) (w : World) (hnp : np ≤ 9223372036854775807) (hnt : nt ≤ 9223372036854775807) (ps : List Pt) (tr : List Int) (B : Nat) (hp : PRd w B Ap np cp ps) (ht : RdS iv w B At nt ct tr) (hsm : ∀ p ∈ ps, p.n ≤ 9223372036854775807) (N M : Nat) (hN : min np 20 = N) (hM : min nt 20 = M) :
    Calls Try.prog 10 #[.agg #[.int .i64 v, .slice Ap np cp, .int .u32 d, .slice At nt ct]] w (fun e w' => ∃ A' c', e = .returned (.agg #[.int .i64 v, .slice A' N c', .int .u32 d, .slice At M ct]) ∧ OwM Pt.cs 3 w' w.heap.size 38 A' N c' ((ps.take 20).map Pt.few) ∧ Below w.heap.size w w') := by
  have hlen := hp.rd.len
  have HN := Lib.hid hN
  have Hsm := Lib.hid hsm
  have hN1 : N ≤ 20 ∧ N ≤ np := by omega
  obtain ⟨hN2, hN3⟩ := hN1
  have htc := ht.cap
  have htl := Lib.hid ht.len
  clear hsm hN
  have HM := Lib.hid hM
  have hways : (nt ≤ 20 ∧ Hid (M = nt)) ∨ (20 < nt ∧ Hid (M = 20)) := by
    rcases Nat.lt_or_ge 20 nt with h | h
    · exact .inr ⟨h, Lib.hid (by omega)⟩
    · exact .inl ⟨h, Lib.hid (by omega)⟩
  clear hM
  have bx := (Box.new w (Cv v Ap np cp d At nt ct) 26).alloc (.cells (Cv 0 none 0 0 0 none 0 0) 26)
  have b2 := Box.new (w.alloc (.cells (Cv v Ap np cp d At nt ct) 26)) (Cv 0 none 0 0 0 none 0 0) 26
  rw [heap_size_alloc] at b2
  have k1 : Below w.heap.size w _ := (below_alloc w (Nat.le_refl _) (.cells (Cv v Ap np cp d At nt ct) 26)).alloc (by simp) (.cells (Cv 0 none 0 0 0 none 0 0) 26)
  have hs2 : (((w.alloc (.cells (Cv v Ap np cp d At nt ct) 26)).alloc (.cells (Cv 0 none 0 0 0 none 0 0) 26))).heap.size = w.heap.size + 2 := by simp
  rcases hways with ⟨hn, hMM⟩ | ⟨hn, hMM⟩
  all_goals
    go_enter Try.func10, Try.ntmps10
    go_upto_region 1 with fail
    obtain ⟨w1, hw1⟩ : ∃ W, ((w.alloc (.cells (Cv v Ap np cp d At nt ct) 26)).alloc (.cells (Cv 0 none 0 0 0 none 0 0) 26)) = W := ⟨_, rfl⟩
    have hg : (w.alloc (.cells #[.int .i64 v, .slice Ap np cp, .int .u32 d, .slice At nt ct] 26)).alloc (.cells #[.int .i64 0, .slice none 0 0, .int .u32 0, .slice none 0 0] 26) = w1 := hw1
    rw [hw1] at bx b2 k1 hs2
    first | rw [hg] | rw [hw1]
    clear hg hw1
    have y0 : ∀ q : Step (w.heap.size + 2) w1.drew, q.w.cell? ⟨w.heap.size, 0, none⟩ = some (.int .i64 v) := fun q => (bx.drew.below q.h (by omega)).cell 0
    have y2 : ∀ q : Step (w.heap.size + 2) w1.drew, q.w.cell? ⟨w.heap.size, 2, none⟩ = some (.int .u32 d) := fun q => (bx.drew.below q.h (by omega)).cell 2
    have y3 : ∀ q : Step (w.heap.size + 2) w1.drew, q.w.cell? ⟨w.heap.size, 3, none⟩ = some (.slice At nt ct) := fun q => (bx.drew.below q.h (by omega)).cell 3
    refine wp_region_tree (.float 0 12 (.one 12 (.one 13 .done))) (Th.Reach (w.heap.size + 2)) (Th.Reach.trans _) (Th.Reach.refl _) (by kernel_rfl) (by kernel_rfl) (fun KT hKT => ?_)
    refine wpTree_float (fun KF hKF => ?_)
    simp only [List.drop, List.take]
    repeat (first | go_big_quiet_skip | ((with_reducible refine onq_slice (.tmp 11) ?_); refine wq_cut_hz rfl _ (.tmp 11) el_int rfl _ rfl rfl M (by have := hMM.out; omega) htc ?_) | go_big_quiet_step (fail) | quiet_step (fail))
    refine wpQuiet_nil ?_
    refine hKF _ ?_
    clear hKF KF
    refine wpTree_one (fun KO hKO => ?_)
    simp only [List.drop, List.take]
    go_wp2_with (first | ((with_reducible refine on_alloc ?_); refine wl_newBox rfl _ rfl z_cert ?_; intro g w3 hg3 hl3 bg hb3; have z3 : w1.heap.size ≤ w3.heap.size := hb3.size; have zg : w1.heap.size ≤ g := hg3; have u3 : Below (w.heap.size + 2) _ _ := hb3.mono (by show _ ≤ w1.heap.size; omega)) | ((with_reducible refine on_store_at (.tmp 3) ?_); refine wb_store (cs := Cv 0 none 0 0 0 none 0 0) (cs' := Cv v none 0 0 d At M ct) rfl _ (.tmp 3) _ rfl st_cert rfl rfl bg rfl rfl (by simp [Cv, Value.oneCell']) ?_; intro w4 bx4 hg4; have u4 := below_of_grown hg4 (B := w.heap.size + 2) (fun j e => by injection e with e; omega) (by omega)))
    refine anch_end (Th.Reach.of (by first | exact Below.refl _ _ | exact below_alloc _ (by first | omega | (simp; done) | (simp; omega)) _ | exact below_alloc2 _ (by first | omega | (simp; done) | (simp; omega)) _ _ | exact below_alloc2d _ (by simp) _ _ | exact bdrew _ _ | assumption | (exact Below.mono (by assumption) (by first | (simp; done) | (simp; omega) | omega | assumption)))) (hKO _ _ ?_)
    clear hKO KO
    refine wpTree_one (fun KO hKO => ?_)
    simp only [List.drop, List.take]
    go_wp2_with (first | ((with_reducible refine on_alloc ?_); refine wl_newBox rfl _ rfl z_cert ?_; intro g w3 hg3 hl3 bg hb3; have z3 : w1.heap.size ≤ w3.heap.size := hb3.size; have zg : w1.heap.size ≤ g := hg3; have u3 : Below (w.heap.size + 2) _ _ := hb3.mono (by show _ ≤ w1.heap.size; omega)) | ((with_reducible refine on_store_at (.tmp 3) ?_); refine wb_store (cs := Cv 0 none 0 0 0 none 0 0) (cs' := Cv v none 0 0 d At M ct) rfl _ (.tmp 3) _ rfl st_cert rfl rfl bg rfl rfl (by simp [Cv, Value.oneCell']) ?_; intro w4 bx4 hg4; have u4 := below_of_grown hg4 (B := w.heap.size + 2) (fun j e => by injection e with e; omega) (by omega)))
    refine anch_end (Th.Reach.of (by first | exact Below.refl _ _ | exact below_alloc _ (by first | omega | (simp; done) | (simp; omega)) _ | exact below_alloc2 _ (by first | omega | (simp; done) | (simp; omega)) _ _ | exact below_alloc2d _ (by simp) _ _ | exact bdrew _ _ | assumption | (exact Below.mono (by assumption) (by first | (simp; done) | (simp; omega) | omega | assumption)))) (hKO _ _ ?_)
    clear hKO KO
    refine wpTree_done ?_
    refine hKT _ _ ?_
    clear hKT KT
    have B4 : Below (w.heap.size + 2) w1 w4 := ((bdrew _ _ : Below (w.heap.size + 2) w1 w1.drew).trans u3).trans u4
    have z4 : w1.heap.size ≤ w4.heap.size := Nat.le_trans z3 hg4.size
    have bxa := bx.below B4 (by omega)
    have b2a := b2.below B4 (by omega)
    have B4' : Below w.heap.size w w4 := k1.trans (B4.mono (by omega))
    have hp4 := hp.heap.below B4'
    have gl := bx4.lt
    clear u3 u4 hb3 hg4 bg y0 y2 y3 B4 bx b2 k1 hl3 z3 hg3 hp ht
    clear w3
    go_wp2
    go_loopw [4] (fun i wr => FewRel g N v d At M ct ps w4 i wr) (fun i _ => N - (intOf i).toNat)
    case atStart => exact ⟨0, 0, none, by omega, rfl, bx4, OwM.nil_ _ _ _, Below.refl _ _⟩
    case round =>
      obtain ⟨k, c, A, hk, rfl, bx, ow, hb⟩ := hrel
      have bxr := bxa.below hb (by omega)
      have b2r := b2a.below hb (by omega)
      have c1 : wr.cell? ⟨w.heap.size, 1, none⟩ = some (.slice Ap np cp) := bxr.cell 1
      by_cases hlt : k < N
      · obtain ⟨p, hpk⟩ : ∃ p, ps[k]? = some p := ⟨ps[k]'(by omega), List.getElem?_eq_getElem _⟩
        have hpr := hp4.below (hb.mono (by omega))
        have hcap := (hpr.rk p (List.mem_of_getElem? hpk)).cap
        have hpn := Hsm.out p (List.mem_of_getElem? hpk)
        have Hst : Hid ((ps.take (k + 1)).map Pt.few = (ps.take k).map Pt.few ++ [p.few]) := Lib.hid (by rw [List.take_add_one, hpk]; simp)
        have Hpk := Lib.hid hpk
        clear hpk
        have hways : (p.n ≤ 20 ∧ Hid (min p.n 20 = p.n)) ∨ (20 < p.n ∧ Hid (min p.n 20 = 20)) := by
          rcases Nat.lt_or_ge 20 p.n with h | h
          · exact .inr ⟨h, Lib.hid (by omega)⟩
          · exact .inl ⟨h, Lib.hid (by omega)⟩
        have zr := bx.lt
        have hways : ∃ m, m ≤ 20 ∧ Hid (p.few = ⟨p.fr, p.to, p.A, m, p.c, p.rk.take 20⟩) ∧ ((p.n ≤ 20 ∧ m = p.n) ∨ (20 < p.n ∧ m = 20)) := by
          rcases hways with ⟨h, hh⟩ | ⟨h, hh⟩
          · exact ⟨p.n, h, Lib.hid (by unfold Pt.few; rw [hh.out]), .inl ⟨h, rfl⟩⟩
          · exact ⟨20, by omega, Lib.hid (by unfold Pt.few; rw [hh.out]), .inr ⟨h, rfl⟩⟩
        have hAlt : ∀ g', A = some ⟨g', 0, none⟩ → g < g' ∧ g' < wr.heap.size := fun g' hA => by subst hA; have := ow.lt; omega
        have HAlt := Lib.hid hAlt
        clear hAlt
        obtain ⟨m, hm20, Hfew, hways⟩ := hways
        rcases hways with ⟨hq, rfl⟩ | ⟨hq, rfl⟩
        all_goals
          go_wp2_with (first
            | ((with_reducible refine on_index (.tmp 30) ?_); refine wm_at Pt.cs_length rfl _ (.tmp 30) _ rfl el_part rfl rfl (by omega) (by omega) hpr.rd ?_; intro b1 j1 r1 hr1 hb1 hc1; have hxx : p = r1 := get_eq Hpk.out hr1.out (by omega); subst hxx)
            | ((with_reducible refine on_load (.tmp 32) ?_); refine wpt_load rfl _ (.tmp 32) rfl st_part rfl hc1 ?_)
            | ((with_reducible refine on_alloc ?_); refine wl_newBox rfl _ rfl z_part ?_; intro g5 w5 hg5 hl5 bp5 hb5)
            | ((with_reducible refine on_store_at (.tmp 5) ?_); refine wpt_store (r := Pt.zero) (s := p) rfl _ (.tmp 5) _ rfl st_part rfl rfl bp5 ?_; intro w6 bp6 hg6; have q2 : w6.cell? ⟨g5, 2, none⟩ = some (.slice p.A p.n p.c) := bp6.cell 2; have fz2 := bp6.frozen 2; have bS := setFew _ Hfew bp6; have bx6 := (bx.step hb5).grown hg6 (box_ne (by omega)); have c6 : w6.cell? ⟨g, 1, none⟩ = some (.slice A k c) := bx6.cell 1; have bx7 := bx6.grown bS.2 (box_ne (by omega)); have ow7 := ((ow.below hb5).grown hg6 (fun g' hA e => by have := HAlt.out g' hA; injection e with e; omega)).grown bS.2 (fun g' hA e => by have := HAlt.out g' hA; injection e with e; omega); have B6 := (hb5.mono (show g ≤ wr.heap.size by omega)).trans ((below_of_grown (B := g) hg6 (fun j e => by injection e with e; omega) (by omega)).trans (below_of_grown (B := g) bS.2 (fun j e => by injection e with e; omega) (by have := hg6.size; omega))))
            | ((with_reducible refine on_slice (.tmp 35) ?_); refine wl_cut_hz rfl _ (.tmp 35) el_int rfl _ rfl rfl 20 (by omega) hcap ?_)
            | ((with_reducible refine on_load (.tmp 5) ?_); refine wpt_box rfl _ (.tmp 5) rfl st_part rfl bS.1 ?_)
            | ((with_reducible refine on_append (.tmp 43) (.tmp 45) ?_); refine few_app (.tmp 43) (.tmp 45) rfl rfl Hfew ow7 rfl rfl (by simp) hlt hN2 (by have := B6.size; omega) ?_; intro A8 c8 w8 ow8 hg8 hb8; have bx8 := (bx7.alloc _).grown hg8 (few_row ow7 (Nat.lt_succ_self g)); have d8 : w8.cell? ⟨g, 1, none⟩ = some (.slice A k c) := bx8.cell 1; have f8 := bx8.frozen 1; have B8 := B6.trans ((below_alloc _ (by have := B6.size; omega) _).trans (hb8.mono (by omega))); have bS8 := bx8.setCell 1 (.slice A8 (k + 1) c8)))
          go_roundw
          case rel => exact ⟨k + 1, c8, A8, by omega, by go_num, bS8.1, by rw [Hst.out]; exact ow8.grown bS8.2 (fun g' hA e => by injection e with e; subst hA; have := ow8.lt; omega), hb.trans (B8.trans (below_of_grown bS8.2 (fun j e => by injection e with e; omega) (by have := B8.size; omega)))⟩
          case measure => simp [intOf] <;> omega
      · have hkn : k = N := by omega
        subst hkn
        have hend : np ≤ k ∨ 20 ≤ k := by have := HN.out; omega
        rcases hend with he | he
        all_goals go_wp2_with (first
          | ((with_reducible refine on_load (.tmp 3) ?_); refine wcv_box rfl (.tmp 3) rfl rfl bx ?_)
          | ((with_reducible refine on_store_at (.tmp 2) ?_); refine wb_store (cs := Cv 0 none 0 0 0 none 0 0) (cs' := Cv v A k c d At M ct) rfl _ (.tmp 2) _ rfl st_cert rfl rfl b2r rfl rfl (by simp [Cv, Value.oneCell']) ?_; intro w9 b9 hg9))
        all_goals
          have hst : (ps.take k).map Pt.few = (ps.take 20).map Pt.few := by
            rcases Nat.lt_or_ge np 20 with h | h
            · rw [List.take_of_length_le (by have := HN.out; omega), List.take_of_length_le (by omega)]
            · rw [show k = 20 by have := HN.out; omega]
          have HST := Lib.hid hst
          clear hst
          refine bodyPost_ret (v := .agg #[.int .i64 v, .slice A k c, .int .u32 d, .slice At M ct]) ?_ rfl ⟨A, c, rfl, ?_, ?_⟩
          · exact results_cell_row rfl _ w9 (w.heap.size + 1) 26 _ (0, 0) _ rfl b9.at_ Try.underlying26 rfl st_cert.size
          · rw [← HST.out]
            exact (ow.grown hg9 (fun g' hA e => by injection e with e; subst hA; have := ow.lt; omega)).base_le (by omega)
          · exact (B4'.trans (hb.mono (by omega))).trans (below_of_grown hg9 (fun j e => by injection e with e; omega) (by have := b2r.lt; omega))
end Go.Proofs.Ytjambnlocjjjpaa

/-! ### CertRef -/
namespace Go.Th
theorem nextOf_bd {ps : List Pt} (hok : ∀ p ∈ ps, p.Ok) : ∀ k, 0 ≤ nextOf ps k ∧ nextOf ps k ≤ 4294967296
  | 0 => by simp [nextOf]
  | k + 1 => by
    cases h : ps[k]? with
    | none => simp [nextOf, h]
    | some p =>
      have := (hok p (List.mem_of_getElem? h)).to
      rw [nextOf_succ h]
      omega
end Go.Th
namespace Go.Proofs.Ytjambnlocjjjpaa
open Go.RowKit Go.Th
set_option linter.unusedVariables false
def RMeetRel (ps : List Pt) (n : Nat) (w : World) (nx i : Value) (wr : World) : Prop :=
  ∃ (k : Nat) (x : Int), k ≤ n ∧ i = .int .i64 k ∧ nx = .int .i64 x ∧ Hid (x = nextOf ps k) ∧ Hid (meetF 0 ps = meetF x (ps.drop k)) ∧ Below w.heap.size w wr
def RFreeRel (ps : List Pt) (nodes : Int) (n : Nat) (w : World) (i : Value) (wr : World) : Prop :=
  ∃ k : Nat, k ≤ n ∧ i = .int .i64 k ∧ Hid (ranks nodes ps = ranks nodes (ps.drop k)) ∧ w = wr
end Go.Proofs.Ytjambnlocjjjpaa

/-! ### CertRefMay -/
namespace Go.Th
open Go.RowKit
section
variable {P : Program} {ops : Array Oper} {rest : List Oper} {o : Oper} {a : Act} {C : World → Prop} {Q : Act → Prop}
theorem wq_at_i (hw : Region.wanted o (yielded ops a.tmps) = true) (T : TypeId) (s i : Operand) (ho : o.op = .indexAddr T s i) {E bytes : Nat} {z : Value} (el : El P T E z bytes)
    {A : Option Addr} {n c : Nat} {k : IntKind} {I : Int} (hs : a.eval s = .slice A n c) (hi : a.eval i = .int k I) (h0 : 0 ≤ I) (h1 : I < n) {w0 : World} (hC0 : C w0)
    {B : Nat} {zs : List Int} (hr : RdC iv C B A n c zs)
    (h : ∀ (p : Addr) (x : Int), Hid (zs[I.toNat]? = some x) → (∀ w, C w → w.cell? p = some (.int .i64 x)) → wpQuiet P ops C Q rest (a.put o.dst (.pointer (some p)))) :
    wpQuiet P ops C Q (o :: rest) a := by
  have hl : I.toNat < zs.length := by have := (hr.rd w0 hC0).len; omega
  obtain ⟨b, off, hA, hb, hc⟩ := (hr.rd w0 hC0).rd.at_ I.toNat (iv zs[I.toNat]) (by rw [List.getElem?_map, List.getElem?_eq_getElem hl]; rfl)
  subst hA
  refine wq_run hw (v := .pointer (some ((⟨b, off, none⟩ : Addr).add (I.toNat * 1)))) (fun w hC => ?_) ?_
  · simp only [execOp, ho, hs, hi, Sem.run_bind, run_indexAt T el.ht (el.size w) _ n c k I h0 h1, Result.andThen, Sem.run_pure]
  · refine h _ zs[I.toNat] (List.getElem?_eq_getElem hl) fun w hC => ?_
    obtain ⟨b', off', hA', _, hc'⟩ := (hr.rd w hC).rd.at_ I.toNat (iv zs[I.toNat]) (by rw [List.getElem?_map, List.getElem?_eq_getElem hl]; rfl)
    injection hA' with hA'
    injection hA' with e1 e2
    subst e1 e2
    rw [Nat.mul_one, Addr.add_lit]
    exact hc'
end
end Go.Th
namespace Go.Proofs.Ytjambnlocjjjpaa
open Go.RowKit Go.Th
set_option linter.unusedVariables false
def RTrRel (tr : List Int) (x0 : Int) (n : Nat) (wb : World) (i : Value) (wr : World) : Prop :=
  ∃ k : Nat, k ≤ n ∧ i = .int .i64 k ∧ Hid (trgo [] x0 tr = trgo (tr.take k) x0 (tr.drop k)) ∧ Below wb.heap.size wb wr
def RInRel (tr : List Int) (x0 x : Int) (i : Nat) (wr : World) (kk : Value) (wq : World) : Prop :=
  ∃ j : Nat, j ≤ i ∧ kk = .int .i64 j ∧ Hid (x ∉ tr.take j) ∧ Hid (0 < j → x0 ≤ x) ∧ Below wr.heap.size wr wq
end Go.Proofs.Ytjambnlocjjjpaa

/-! ### Cuts -/
namespace Go.Th
open Go.RowKit
/-- The i-th interval's upper end. -/
def EndOf (l : List Int) (n i : Nat) (h : Int) : Prop := (i + 1 = n ∧ h = 4294967295) ∨ (i + 1 < n ∧ ∃ y, l[i + 1]? = some y ∧ 1 ≤ y ∧ y ≤ 4294967295 ∧ h = y - 1)
section
variable {P : Program} {ops : Array Oper} {rest : List Oper} {o : Oper} {a : Act} {C : World → Prop} {Q : Act → Prop}
theorem wq_at_u (hw : Region.wanted o (yielded ops a.tmps) = true) (T : TypeId) (s i : Operand) (ho : o.op = .indexAddr T s i) {E bytes : Nat} {z : Value} (el : El P T E z bytes)
    {A : Option Addr} {n c : Nat} {k : IntKind} {I : Int} (hs : a.eval s = .slice A n c) (hi : a.eval i = .int k I) (h0 : 0 ≤ I) (h1 : I < n) {w0 : World} (hC0 : C w0)
    {B : Nat} {zs : List Int} (hr : RdC uv C B A n c zs)
    (h : ∀ (p : Addr) (x : Int), Hid (zs[I.toNat]? = some x) → (∀ w, C w → w.cell? p = some (.int .u32 x)) → wpQuiet P ops C Q rest (a.put o.dst (.pointer (some p)))) :
    wpQuiet P ops C Q (o :: rest) a := by
  have hl : I.toNat < zs.length := by have := (hr.rd w0 hC0).len; omega
  obtain ⟨b, off, hA, hb, hc⟩ := (hr.rd w0 hC0).rd.at_ I.toNat (uv zs[I.toNat]) (by rw [List.getElem?_map, List.getElem?_eq_getElem hl]; rfl)
  subst hA
  refine wq_run hw (v := .pointer (some ((⟨b, off, none⟩ : Addr).add (I.toNat * 1)))) (fun w hC => ?_) ?_
  · simp only [execOp, ho, hs, hi, Sem.run_bind, run_indexAt T el.ht (el.size w) _ n c k I h0 h1, Result.andThen, Sem.run_pure]
  · refine h _ zs[I.toNat] (List.getElem?_eq_getElem hl) fun w hC => ?_
    obtain ⟨b', off', hA', _, hc'⟩ := (hr.rd w hC).rd.at_ I.toNat (uv zs[I.toNat]) (by rw [List.getElem?_map, List.getElem?_eq_getElem hl]; rfl)
    injection hA' with hA'
    injection hA' with e1 e2
    subst e1 e2
    rw [Nat.mul_one, Addr.add_lit]
    exact hc'
end
end Go.Th
namespace Go.Proofs.Ytjambnlocjjjpaa
open Go.RowKit Go.Th
set_option linter.unusedVariables false
set_option maxRecDepth 100000 in
theorem rcends_any (A : Option Addr) (n c : Nat) (l : List Int) (w : World) (hm : n ≤ 9223372036854775807) (B : Nat) (hr : RdS uv w B A n c l) (i : Nat) (hi : i < n) (x h : Int) (hx : Hid (l[i]? = some x)) (hh : EndOf l n i h) :
    Calls Try.prog 23 #[.slice A n c, .int .i64 i] w (RetB (.tuple #[.int .u32 x, .int .u32 h, .bool true]) w) := by
  rcases hh with ⟨h1, rfl⟩ | ⟨h1, y, h2, h3, h4, rfl⟩
  · have n1 : ((i : Int) == (n : Int) - 1) = true := by simp; omega
    go_enter Try.func23, Try.ntmps23
    go_wp2_with ((with_reducible refine on_index (.tmp 20) ?_); refine wl_at_u rfl _ (.tmp 20) _ rfl el_u32 rfl rfl (by omega) (by omega) hr ?_; intro p x' hx' hc1; have hxx := get_eq hx.out hx'.out (by omega); subst hxx)
    (try simp only [Exit.inBlock, Exit.then])
    refine bodyPost_ret (v := .tuple #[.int .u32 x, .int .u32 (4294967295), .bool true]) (by simp [results, Try.results23, go_sem]) rfl ⟨rfl, Below.refl _ _⟩
  · have Hy := Lib.hid h2
    have n1 : ((i : Int) == (n : Int) - 1) = false := by simp; omega
    have x1 := hr.reach
    clear h2
    go_enter Try.func23, Try.ntmps23
    go_upto_region 5 with fail
    refine wp_region_reach (by kernel_rfl) (by kernel_rfl) ?_
    repeat (first | go_big_quiet_skip | ((with_reducible refine onq_index (.tmp 24) ?_); refine wq_at_u rfl _ (.tmp 24) _ rfl el_u32 rfl rfl (by omega) (by omega) (Th.Reach.refl _ _) x1 ?_; intro p1 z1 hz1 hc1; have hxx := get_eq hx.out hz1.out (by omega); subst hxx; have f1 : ∀ q : Step _ _, q.w.cell? p1 = some (.int .u32 x) := fun q => hc1 q.w ⟨q, rfl⟩) | ((with_reducible refine onq_index (.tmp 28) ?_); refine wq_at_u rfl _ (.tmp 28) _ rfl el_u32 rfl rfl (by omega) (by omega) (Th.Reach.refl _ _) x1 ?_; intro p2 z2 hz2 hc2; have hxx := get_eq Hy.out hz2.out (by omega); subst hxx; have f2 : ∀ q : Step _ _, q.w.cell? p2 = some (.int .u32 y) := fun q => hc2 q.w ⟨q, rfl⟩) | go_big_quiet_step (fail) | quiet_step (fail))
    refine wpQuiet_nil ?_
    rintro _ ⟨q, rfl⟩
    have hqw5 := q.h
    obtain ⟨w5, hw5'⟩ : ∃ W, q.w = W := ⟨_, rfl⟩
    rw [hw5'] at hqw5 ⊢
    clear hw5' q
    go_wp2
    (try simp only [Exit.inBlock, Exit.then])
    refine bodyPost_ret (v := .tuple #[.int .u32 x, .int .u32 (y - 1), .bool true]) (by simp [results, Try.results23, go_sem]) rfl ⟨rfl, hqw5⟩
end Go.Proofs.Ytjambnlocjjjpaa

/-! ### Put -/
namespace Go.Proofs.Ytjambnlocjjjpaa
open Go.RowKit Go.Th
set_option linter.unusedVariables false
set_option maxRecDepth 100000 in
theorem rput_any (A : Option Addr) (n c : Nat) (l : List Int) (w : World) (hm : n ≤ 1000000) (B : Nat) (hr : RdS uv w B A n c l) (a : Int) (ha : 0 ≤ a ∧ a ≤ 4294967295) (hs : l.Pairwise (· < ·)) :
    Calls Try.prog 45 #[.slice A n c, .int .u32 a] w (fun e w' => ∃ A' c', e = .returned (.slice A' (pput a l).length c') ∧ RdS uv w' w'.heap.size A' (pput a l).length c' (pput a l) ∧ Below w.heap.size w w') := by
  have HS := Lib.hid hs
  have Hlen := Lib.hid hr.len
  clear hs
  go_enter Try.func45, Try.ntmps45
  go_wp2
  go_loop [5] (fun i => ∃ k : Nat, k ≤ n ∧ i = .int .i64 k ∧ Hid (∀ x ∈ l.take k, x < a)) (fun i => n - (intOf i).toNat)
  case atStart => exact ⟨0, by omega, rfl, Lib.hid (by simp)⟩
  case round =>
    obtain ⟨k, hk, rfl, hf⟩ := hrel
    by_cases hlt : k < n
    · obtain ⟨x, hx⟩ : ∃ x, l[k]? = some x := ⟨l[k]'(by have := Hlen.out; omega), List.getElem?_eq_getElem _⟩
      have Hx := Lib.hid hx
      have hst : l.take (k + 1) = l.take k ++ [x] := by rw [List.take_add_one, hx]; rfl
      have Hst := Lib.hid hst
      clear hx hst
      by_cases hxa : x < a
      · go_wp2_with ((with_reducible refine on_index (.tmp 12) ?_); refine wl_at_u rfl _ (.tmp 12) _ rfl el_u32 rfl rfl (by omega) (by omega) hr ?_; intro p x' hx' hc1; have hxx := get_eq Hx.out hx'.out (by omega); subst hxx)
        go_round
        case rel => exact ⟨k + 1, by omega, by go_num, Lib.hid (by rw [Hst.out]; intro y hy; rcases List.mem_append.1 hy with hy | hy; exact hf.out y hy; rw [List.mem_singleton.1 hy]; exact hxa)⟩
        case measure => simp [intOf]; omega
      · have hway : ((x == a) = true ∧ pput a l = l) ∨ ((x == a) = false ∧ pput a l = l.take k ++ (a :: l.drop k)) := by
          have := pput_at (a := a) hf.out (fun y hy => by have := Hx.out; rw [this] at hy; injection hy with hy; omega)
          rw [Hx.out] at this
          by_cases e : x = a
          · subst e; exact .inl ⟨by simp, by simpa using this⟩
          · exact .inr ⟨by simpa using e, by simpa [e] using this⟩
        rcases hway with ⟨e1, e2⟩ | ⟨e1, e2⟩
        · go_wp2_with (first | ((with_reducible refine on_index (.tmp 12) ?_); refine wl_at_u rfl _ (.tmp 12) _ rfl el_u32 rfl rfl (by omega) (by omega) hr ?_; intro p1 x1 hx1 hc1; have hxx := get_eq Hx.out hx1.out (by omega); subst hxx) | ((with_reducible refine on_index (.tmp 26) ?_); refine wl_at_u rfl _ (.tmp 26) _ rfl el_u32 rfl rfl (by omega) (by omega) hr ?_; intro p2 x2 hx2 hc2; have hxx := get_eq Hx.out hx2.out (by omega); subst hxx))
          go_ret
          exact ⟨A, c, by rw [Hlen.out]; rfl, by rw [Hlen.out]; exact hr.heap, Below.refl _ _⟩
        · go_wp2_with (first | ((with_reducible refine on_index (.tmp 12) ?_); refine wl_at_u rfl _ (.tmp 12) _ rfl el_u32 rfl rfl (by omega) (by omega) hr ?_; intro p1 x1 hx1 hc1; have hxx := get_eq Hx.out hx1.out (by omega); subst hxx) | ((with_reducible refine on_index (.tmp 26) ?_); refine wl_at_u rfl _ (.tmp 26) _ rfl el_u32 rfl rfl (by omega) (by omega) hr ?_; intro p2 x2 hx2 hc2; have hxx := get_eq Hx.out hx2.out (by omega); subst hxx) | ((with_reducible refine on_slice (.tmp 36) ?_); refine wl_cut_l rfl _ (.tmp 36) el_u32 rfl (hr.alloc _) _ rfl rfl k (by omega) ?_; intro A36 r36) | ((with_reducible refine on_append (.tmp 35) (.tmp 38) ?_); refine wl_appendS rfl (.tmp 35) (.tmp 38) _ rfl el_u32 (f := uv) (fun _ => rfl) rfl (OwS.lit (base := w.heap.size) (e := 23) (xs := [a]) w #[.int .u32 a] 1 (Nat.le_refl _) (by simp [maxLen]) rfl rfl) rfl r36 (by omega) (by omega) (by simp) ?_; intro A3 c3 w3 ow3 hg3 hb3; have hrr := (hr.heap.alloc (.cells #[.int .u32 a] 23)).below hb3) | ((with_reducible refine on_slice (.tmp 41) ?_); refine wl_cut_h rfl _ (.tmp 41) el_u32 rfl (by first | exact hrr | exact hrr.alloc _) _ rfl rfl k (by omega) ?_; intro A43 r43) | ((with_reducible refine on_append (.tmp 40) (.tmp 43) ?_); refine wl_appendS rfl (.tmp 40) (.tmp 43) _ rfl el_u32 (f := uv) (fun _ => rfl) rfl (OwS.lit (base := w3.heap.size) (e := 23) (xs := []) w3 #[] 0 (Nat.le_refl _) (by simp [maxLen]) rfl rfl) rfl r43 (by omega) (by omega) (by simp) ?_; intro A4 c4 w4 ow4 hg4 hb4; have ow5 := ow4; rw [Nat.zero_add, List.nil_append] at ow5) | ((with_reducible refine on_append (.tmp 44) (.tmp 45) ?_); refine wl_appendS rfl (.tmp 44) (.tmp 45) _ rfl el_u32 (f := uv) (fun _ => rfl) rfl ow5 rfl ((ow3.rd.alloc (.cells #[] 23)).below hb4) (by omega) (by omega) (by have := hb4.size; simp at this; omega) ?_; intro A6 c6 w6 ow6 hg6 hb6))
          go_ret
          have L : min k l.length + (l.length - k + 1) = k + (1 + (n - k)) := by have := Hlen.out; omega
          rw [L]
          have z3 : w.heap.size ≤ w3.heap.size := by have := hb3.size; simp at this; omega
          exact ⟨A6, c6, rfl, ow6.rd, (((below_alloc w (Nat.le_refl _) _).trans hb3).trans (((below_alloc w3 (Nat.le_refl _) _).trans hb4).mono z3)).trans (hb6.mono z3)⟩
    · have e2 : pput a l = l.take k ++ (a :: l.drop k) := by
        have hn : l[k]? = none := List.getElem?_eq_none (by have := Hlen.out; omega)
        have := pput_at (a := a) hf.out (fun y hy => by rw [hn] at hy; cases hy)
        rw [hn] at this
        simpa using this
      go_wp2_with (first | ((with_reducible refine on_slice (.tmp 36) ?_); refine wl_cut_l rfl _ (.tmp 36) el_u32 rfl (hr.alloc _) _ rfl rfl k (by omega) ?_; intro A36 r36) | ((with_reducible refine on_append (.tmp 35) (.tmp 38) ?_); refine wl_appendS rfl (.tmp 35) (.tmp 38) _ rfl el_u32 (f := uv) (fun _ => rfl) rfl (OwS.lit (base := w.heap.size) (e := 23) (xs := [a]) w #[.int .u32 a] 1 (Nat.le_refl _) (by simp [maxLen]) rfl rfl) rfl r36 (by omega) (by omega) (by simp) ?_; intro A3 c3 w3 ow3 hg3 hb3; have hrr := (hr.heap.alloc (.cells #[.int .u32 a] 23)).below hb3) | ((with_reducible refine on_slice (.tmp 41) ?_); refine wl_cut_h rfl _ (.tmp 41) el_u32 rfl (by first | exact hrr | exact hrr.alloc _) _ rfl rfl k (by omega) ?_; intro A43 r43) | ((with_reducible refine on_append (.tmp 40) (.tmp 43) ?_); refine wl_appendS rfl (.tmp 40) (.tmp 43) _ rfl el_u32 (f := uv) (fun _ => rfl) rfl (OwS.lit (base := w3.heap.size) (e := 23) (xs := []) w3 #[] 0 (Nat.le_refl _) (by simp [maxLen]) rfl rfl) rfl r43 (by omega) (by omega) (by simp) ?_; intro A4 c4 w4 ow4 hg4 hb4; have ow5 := ow4; rw [Nat.zero_add, List.nil_append] at ow5) | ((with_reducible refine on_append (.tmp 44) (.tmp 45) ?_); refine wl_appendS rfl (.tmp 44) (.tmp 45) _ rfl el_u32 (f := uv) (fun _ => rfl) rfl ow5 rfl ((ow3.rd.alloc (.cells #[] 23)).below hb4) (by omega) (by omega) (by have := hb4.size; simp at this; omega) ?_; intro A6 c6 w6 ow6 hg6 hb6))
      go_ret
      have L : min k l.length + (l.length - k + 1) = k + (1 + (n - k)) := by have := Hlen.out; omega
      rw [L]
      have z3 : w.heap.size ≤ w3.heap.size := by have := hb3.size; simp at this; omega
      exact ⟨A6, c6, rfl, ow6.rd, (((below_alloc w (Nat.le_refl _) _).trans hb3).trans (((below_alloc w3 (Nat.le_refl _) _).trans hb4).mono z3)).trans (hb6.mono z3)⟩
end Go.Proofs.Ytjambnlocjjjpaa

/-! ### Fit12 -/
namespace Go.Proofs.Ytjambnlocjjjpaa
open Go.RowKit Go.Th
set_option linter.unusedVariables false
/-- The first k are put. -/
def FitRel (l : List Int) (n : Nat) (w : World) (s i : Value) (wr : World) : Prop := ∃ (k : Nat) (o : List Int) (A : Option Addr) (c : Nat), k ≤ n ∧ k ≤ 30 ∧ i = .int .i64 k ∧ s = .slice A o.length c ∧ Hid ((l.take k).foldl (fun o x => pput x o) [0] = o) ∧ Hid (Row0 o) ∧ o.length ≤ k + 1 ∧ RdS uv wr wr.heap.size A o.length c o ∧ Below w.heap.size w wr
set_option maxRecDepth 100000 in
theorem rfit_any (A : Option Addr) (n c : Nat) (l : List Int) (w : World) (hm : n ≤ 9223372036854775807) (B : Nat) (hr : RdS uv w B A n c l) (hl : ∀ x ∈ l, 0 ≤ x ∧ x ≤ 4294967295) :
    Calls Try.prog 22 #[.slice A n c] w (fun e w' => ∃ A' c', e = .returned (.slice A' (pfit l).length c') ∧ RdS uv w' w'.heap.size A' (pfit l).length c' (pfit l) ∧ Below w.heap.size w w') := by
  have HL := Lib.hid hl
  have Hlen := Lib.hid hr.len
  clear hl
  go_enter Try.func22, Try.ntmps22
  go_wp2
  go_loopw [3, 4] (fun s i wr => FitRel l n w s i wr) (fun _ i _ => n - (intOf i).toNat)
  case atStart => exact ⟨0, [0], _, 1, by omega, by omega, rfl, rfl, Lib.hid rfl, Lib.hid row0_one, by simp, (OwS.lit (base := w.heap.size) (e := 23) (xs := [0]) w #[.int .u32 0] 1 (Nat.le_refl _) (by simp [maxLen]) rfl rfl).rd, below_alloc w (Nat.le_refl _) _⟩
  case round =>
    obtain ⟨k, o, A1, c1, hk, hk30, rfl, rfl, hf, h0, hol, r1, hb⟩ := hrel
    have hrr := hr.step hb
    by_cases hlt : k < n
    · by_cases h30 : k < 30
      · obtain ⟨x, hx⟩ : ∃ x, l[k]? = some x := ⟨l[k]'(by have := Hlen.out; omega), List.getElem?_eq_getElem _⟩
        have Hx := Lib.hid hx
        have hxm := HL.out x (List.mem_of_getElem? hx)
        have Hst : Hid ((l.take (k + 1)).foldl (fun o x => pput x o) [0] = pput x o) := Lib.hid (by rw [List.take_add_one, hx, List.foldl_append, hf.out]; rfl)
        have hln := @pput_len x o
        clear hx
        go_wp2_with (first
          | ((with_reducible refine on_index (.tmp 17) ?_); refine wl_at_u rfl _ (.tmp 17) _ rfl el_u32 rfl rfl (by omega) (by omega) hrr ?_; intro p x' hx' hc1; have hxx := get_eq Hx.out hx'.out (by omega); subst hxx)
          | (go_at_call 45; refine (rput_any A1 _ c1 o _ (by omega) _ r1 x hxm h0.out.up).mono ?_; rintro e w1 ⟨A2, c2, rfl, r2, hb2⟩))
        go_roundw
        case rel => exact ⟨k + 1, pput x o, A2, c2, by omega, by omega, by go_num, rfl, Hst, Lib.hid (h0.out.put hxm), by omega, r2, hb.trans (hb2.mono hb.size)⟩
        case measure => simp [intOf]; omega
      · have e : pfit l = o := by rw [pfit, ← hf.out, show k = 30 by omega]
        go_wp2
        go_ret
        exact ⟨A1, c1, by rw [e]; rfl, by rw [e]; exact r1, hb⟩
    · have e : pfit l = o := by rw [pfit, ← hf.out, List.take_of_length_le (by have := Hlen.out; omega), List.take_of_length_le (by have := Hlen.out; omega)]
      go_wp2
      go_ret
      exact ⟨A1, c1, by rw [e]; rfl, by rw [e]; exact r1, hb⟩
end Go.Proofs.Ytjambnlocjjjpaa

/-! ### FitLoops -/
namespace Go.Th
open Go.RowKit
set_option linter.unusedVariables false
def tv (b : Bool) : Value := .bool b
section
variable {P : Program} {ops : Array Oper} {rest : List Oper} {o : Oper} {a : Act} {Q : Exit → Act → World → Prop} {w : World}
/-- s[i] of a slice of bools. -/
theorem wl_at_t (hw : Region.wanted o (yielded ops a.tmps) = true) (T : TypeId) (s i : Operand) (ho : o.op = .indexAddr T s i) {E bytes : Nat} {z : Value} (el : El P T E z bytes)
    {A : Option Addr} {n c : Nat} {k : IntKind} {I : Int} (hs : a.eval s = .slice A n c) (hi : a.eval i = .int k I) (h0 : 0 ≤ I) (h1 : I < n)
    {B : Nat} {bs : List Bool} (hr : RdS tv w B A n c bs)
    (h : ∀ (p : Addr) (x : Bool), Hid (bs[I.toNat]? = some x) → w.cell? p = some (.bool x) → wpList P ops Q rest (a.put o.dst (.pointer (some p))) w) :
    wpList P ops Q (o :: rest) a w := by
  have hl : I.toNat < bs.length := by have := hr.len; omega
  obtain ⟨b, off, hA, hb, hc⟩ := hr.rd.at_ I.toNat (tv bs[I.toNat]) (by rw [List.getElem?_map, List.getElem?_eq_getElem hl]; rfl)
  subst hA
  refine wl_run hw (v := .pointer (some ((⟨b, off, none⟩ : Addr).add (I.toNat * 1)))) (w' := w) ?_ ?_
  · simp only [execOp, ho, hs, hi, Sem.run_bind, run_indexAt T el.ht (el.size w) _ n c k I h0 h1, Result.andThen, Sem.run_pure]
  · refine h _ bs[I.toNat] (List.getElem?_eq_getElem hl) ?_
    rw [Nat.mul_one, Addr.add_lit]
    exact hc
/-- s[i] = true -/
theorem wl_set_t (hw : Region.wanted o (yielded ops a.tmps) = true) (T : TypeId) (x y : Operand) (ho : o.op = .store T x y) (hsz : ∀ w, (sizeOf T).run P w = .ok 1 w)
    {g j n c base e : Nat} {xs : List Bool} (hx : a.eval x = .pointer (some ⟨g, j, none⟩)) {z : Bool} (hy : a.eval y = .bool z)
    (hown : OwS tv w base e (some ⟨g, 0, none⟩) n c xs) (hj : j < n)
    (h : ∀ w', OwS tv w' base e (some ⟨g, 0, none⟩) n c (xs.set j z) → w.grownBy w' (some g) → Below base w w' → wpList P ops Q rest (a.put o.dst undef) w') : wpList P ops Q (o :: rest) a w :=
  wl_store1 hw T x y ho hsz hx hy rfl rfl hown.ow hj fun w' h1 h2 h3 => h w' ⟨by rw [List.map_set]; exact h1⟩ h2 h3
end
end Go.Th
namespace Go.Proofs.Ytjambnlocjjjpaa
open Go.RowKit Go.Th
set_option linter.unusedVariables false
theorem info_bool : (Try.prog.info? 4).map (fun i => (i.zero, i.size, i.bytes)) = some (some (.bool false), 1, 1) := by kernel_rfl
theorem size_bool (w : World) : (sizeOf 4).run Try.prog w = .ok 1 w := by kernel_rfl
theorem el_bool : El Try.prog 56 4 (.bool false) 1 := ⟨Try.underlying56, info_parts info_bool, rfl, size_bool⟩
theorem ne_of_app {A A8 : Option Addr} {g gu S : Nat} (h : A8 = A ∨ A8 = some ⟨S, 0, none⟩) (hr : rowOf A ≠ some g) (hn : ∀ g', A = some ⟨g', 0, none⟩ → g' ≠ gu) (h1 : g < S) (h2 : gu < S) : ∀ g', A8 = some ⟨g', 0, none⟩ → g' ≠ g ∧ g' ≠ gu := by
  intro g' hA
  rcases h with e | e
  · refine ⟨fun e2 => hr ?_, hn g' (by rw [← e, hA])⟩
    rw [← e, hA, e2]
    rfl
  · rw [hA] at e
    injection e with e
    injection e with e
    omega
def FitTRel (g gu : Nat) (nodes m : Nat) (d : Int) (l : List Int) (wb : World) (i : Value) (wr : World) : Prop :=
  ∃ (k : Nat) (o : List Int) (A : Option Addr) (c : Nat), k ≤ m ∧ i = .int .i64 k ∧ Hid ((l.take k).foldl (fstep nodes) [] = o) ∧ Hid (FTr nodes o) ∧ o.length ≤ nodes ∧ Box wr g 26 (Cv 2 none 0 0 d A o.length c) ∧ OwS iv wr (g + 1) 3 A o.length c o ∧ OwS tv wr (g + 1) 4 (some ⟨gu, 0, none⟩) nodes nodes (marks nodes o) ∧ (∀ g', A = some ⟨g', 0, none⟩ → g' ≠ gu) ∧ Below g wb wr
set_option maxRecDepth 100000 in
set_option maxHeartbeats 4000000 in
theorem rcfit_loops (v : Int) (hv : bits .and .i64 v 1 = 0) (Ap : Option Addr) (np cp : Nat) (d : Int) (At : Option Addr) (nt ct : Nat) (nodes : Nat) (hno : 1 ≤ nodes ∧ nodes ≤ 1000) (w : World) (hnt : nt ≤ 9223372036854775807) (tr : List Int) (B : Nat) (ht : RdS iv w B At nt ct tr) :
    Calls Try.prog 9 #[.agg #[.int .i64 v, .slice Ap np cp, .int .u32 d, .slice At nt ct], .int .i64 nodes] w (fun e w' => ∃ A' c', e = .returned (.agg #[.int .i64 2, .slice none 0 0, .int .u32 d, .slice A' (ftrace nodes tr).length c']) ∧ OwS iv w' w.heap.size 3 A' (ftrace nodes tr).length c' (ftrace nodes tr) ∧ Below w.heap.size w w') := by
  have hv1 : (bits .and .i64 v 1 == 0) = true := by rw [hv]; rfl
  have Hlen := Lib.hid ht.len
  obtain ⟨hno1, hno2⟩ := hno
  obtain ⟨V, hV⟩ : ∃ V, bits .and .i64 v 1 = V := ⟨_, rfl⟩
  have bx := (Box.new w (Cv v Ap np cp d At nt ct) 26).alloc (.cells (Cv 0 none 0 0 0 none 0 0) 26)
  have b2 := Box.new (w.alloc (.cells (Cv v Ap np cp d At nt ct) 26)) (Cv 0 none 0 0 0 none 0 0) 26
  rw [heap_size_alloc] at b2
  have k1 : Below w.heap.size w _ := (below_alloc w (Nat.le_refl _) (.cells (Cv v Ap np cp d At nt ct) 26)).alloc (by simp) (.cells (Cv 0 none 0 0 0 none 0 0) 26)
  have hs2 : (((w.alloc (.cells (Cv v Ap np cp d At nt ct) 26)).alloc (.cells (Cv 0 none 0 0 0 none 0 0) 26))).heap.size = w.heap.size + 2 := by simp
  have HV := Lib.hid hv
  clear hv hV
  go_enter Try.func9, Try.ntmps9
  go_upto_region 2 with fail
  obtain ⟨w1, hw1⟩ : ∃ W, ((w.alloc (.cells (Cv v Ap np cp d At nt ct) 26)).alloc (.cells (Cv 0 none 0 0 0 none 0 0) 26)) = W := ⟨_, rfl⟩
  have hg : (w.alloc (.cells #[.int .i64 v, .slice Ap np cp, .int .u32 d, .slice At nt ct] 26)).alloc (.cells #[.int .i64 0, .slice none 0 0, .int .u32 0, .slice none 0 0] 26) = w1 := hw1
  have ht0 := ht.heap
  rw [hw1] at bx b2 k1 hs2
  first | rw [hg] | rw [hw1]
  clear hg hw1 ht
  have y2 : w1.cell? ⟨w.heap.size, 2, none⟩ = some (.int .u32 d) := bx.cell 2
  go_wp2_with (first
    | ((with_reducible refine on_alloc ?_); refine wl_newBox rfl _ rfl z_cert ?_; intro g w3 hg3 hl3 bg hb3)
    | ((with_reducible refine on_store_at (.tmp 5) ?_); refine wb_store (cs := Cv 0 none 0 0 0 none 0 0) (cs' := Cv 2 none 0 0 d none 0 0) rfl _ (.tmp 5) _ rfl st_cert rfl rfl bg rfl rfl (by simp [Cv, Value.oneCell']) ?_; intro w4 bx4 hg4; have B4 : Below w1.heap.size w1 w4 := hb3.trans (below_of_grown hg4 (fun j e => by injection e with e; omega) hb3.size))
    | ((with_reducible refine on_makeL (.tmp 28) ?_); refine wl_makeS (base := g + 1) rfl _ _ _ rfl el_bool (f := tv) false rfl nodes rfl rfl rfl rfl (by omega) (by omega) (by have := bx4.lt; omega) ?_; intro gu w5 hgu ow5 hb5))
  have bx5 := bx4.step hb5
  have B5 := B4.trans (hb5.mono B4.size)
  have gl := bx4.lt
  have hgg : g < gu := Nat.lt_of_lt_of_le gl hgu
  have gul : gu < w5.heap.size := ow5.lt.2
  rw [← marks_nil] at ow5
  have bxa := bx.below B5 (by omega)
  have b2a := b2.below B5 (by omega)
  have k5 := k1.trans (B5.mono (by omega))
  clear hb5 bx4 B4 hg4 bg hb3 y2 bx b2 k1 B5 hl3 hgu gl
  clear w4
  clear w3
  obtain ⟨m, hm, hl⟩ : ∃ m, (ftin tr).length = m ∧ ((nt = 0 ∧ m = 1 ∧ Hid (ftin tr = [0])) ∨ (0 < nt ∧ m = nt ∧ Hid (ftin tr = tr))) := by
    refine ⟨_, rfl, ?_⟩
    rcases Nat.eq_zero_or_pos nt with h | h
    · have : tr = [] := List.eq_nil_of_length_eq_zero (by rw [Hlen.out]; exact h)
      subst this
      exact .inl ⟨h, rfl, Lib.hid rfl⟩
    · have : tr ≠ [] := fun e => by subst e; have := Hlen.out; simp at this; omega
      have e : ftin tr = tr := if_neg this
      exact .inr ⟨h, by rw [e]; exact Hlen.out, Lib.hid e⟩
  have Hm := Lib.hid hm
  clear hm
  go_loopw [7] (fun i wr => FitTRel g gu nodes m d (ftin tr) w5 i wr) (fun i _ => m - (intOf i).toNat)
  case atStart => exact ⟨0, [], none, 0, by omega, rfl, Lib.hid rfl, Lib.hid (FTr.nil _), by simp, bx5, OwS.nil_ _ _ _, ow5, (fun g' h => by cases h), Below.refl _ _⟩
  case round =>
    obtain ⟨k, out, A, c, hk, rfl, hf, hF, hol, bxr, ow, owu, hne, hb⟩ := hrel
    have bxar := bxa.below hb (by omega)
    have b2r := b2a.below hb (by omega)
    have htr := ht0.below (k5.trans (hb.mono (by omega)))
    have c3 : wr.cell? ⟨w.heap.size, 3, none⟩ = some (.slice At nt ct) := bxar.cell 3
    have d3 : wr.cell? ⟨g, 3, none⟩ = some (.slice A out.length c) := bxr.cell 3
    have zr := bxr.lt
    by_cases hlt : k < m
    · obtain ⟨x, hx⟩ : ∃ x, (ftin tr)[k]? = some x := ⟨(ftin tr)[k]'(by have := Hm.out; omega), List.getElem?_eq_getElem _⟩
      have hst : ((ftin tr).take (k + 1)).foldl (fstep nodes) [] = fstep nodes out x := by rw [List.take_add_one, hx, List.foldl_append, hf.out]; rfl
      have Hst := Lib.hid hst
      have hF' := Lib.hid (hF.out.step (by omega) x)
      obtain ⟨V, hV⟩ : ∃ V : Nat, x % (nodes : Int) = V := ⟨(x % (nodes : Int)).toNat, by have := Int.emod_nonneg x (show (nodes : Int) ≠ 0 by omega); omega⟩
      have hVn : V < nodes := by have := Int.emod_lt_of_pos x (show (0 : Int) < nodes by omega); omega
      have HV := Lib.hid hV
      have Hx := Lib.hid hx
      clear hst hx hV
      have hlim := tmod_lim x nodes (by omega)
      have hT : (x.tmod nodes + nodes) % nodes = (V : Int) := by rw [← Int.tmod_eq_emod_of_nonneg (by omega), tmod_fit x nodes (by omega)]; exact HV.out
      have HT := Lib.hid hT
      clear hT
      have hfs : fstep nodes out x = if (V : Int) ∈ out ∨ (out ≠ [] ∧ (V : Int) ≤ trfirst out) then out else out ++ [(V : Int)] := by unfold fstep; rw [HV.out]
      have hnode : out = [] ∨ ∃ y r, out = y :: r := by cases out with
        | nil => exact .inl rfl
        | cons y r => exact .inr ⟨y, r, rfl⟩
      have hways : (decide ((V : Int) ∈ out) = true ∧ Hid (fstep nodes out x = out)) ∨ (decide ((V : Int) ∈ out) = false ∧ ((out.length : Int) == 0) = true ∧ Hid (fstep nodes out x = out ++ [(V : Int)])) ∨
          (∃ y, decide ((V : Int) ∈ out) = false ∧ ((out.length : Int) == 0) = false ∧ 0 < out.length ∧ Hid (out[0]? = some y) ∧ ((decide ((V : Int) > y) = true ∧ Hid (fstep nodes out x = out ++ [(V : Int)])) ∨ (decide ((V : Int) > y) = false ∧ Hid (fstep nodes out x = out)))) := by
        rw [hfs]
        by_cases h1 : (V : Int) ∈ out
        · exact .inl ⟨decide_eq_true h1, Lib.hid (if_pos (.inl h1))⟩
        · rcases hnode with rfl | ⟨y, r, rfl⟩
          · exact .inr (.inl ⟨decide_eq_false h1, rfl, Lib.hid (if_neg (by simp))⟩)
          · refine .inr (.inr ⟨y, decide_eq_false h1, by simp; omega, by simp, Lib.hid rfl, ?_⟩)
            by_cases h2 : (V : Int) > y
            · refine .inl ⟨decide_eq_true h2, Lib.hid (if_neg ?_)⟩
              rintro (h | ⟨_, h⟩)
              · exact h1 h
              · have : (V : Int) ≤ y := h
                omega
            · exact .inr ⟨decide_eq_false h2, Lib.hid (if_pos (.inr ⟨by simp, by show (V : Int) ≤ y; omega⟩))⟩
      have hmk := Lib.hid (marks_get (out := out) hVn)
      have hrow : rowOf A ≠ some g := fun e => by
        rcases ow.ow.form with ⟨e2, _⟩ | ⟨g', e2, hb', _⟩
        · subst e2; simp [rowOf] at e
        · subst e2; simp [rowOf] at e; omega
      have hrowu : rowOf A ≠ some gu := fun e => by
        rcases ow.ow.form with ⟨e2, _⟩ | ⟨g', e2, hb', _⟩
        · subst e2; simp [rowOf] at e
        · subst e2; simp [rowOf] at e; exact hne _ rfl e
      have hgulr := owu.lt.2
      have Hne := Lib.hid hne
      have Hrow := Lib.hid hrow
      have Hrowu := Lib.hid hrowu
      clear hne hrow hrowu hnode hfs
      obtain ⟨bm, hbm⟩ : ∃ b, decide ((V : Int) ∈ out) = b := ⟨_, rfl⟩
      rw [hbm] at hways hmk
      clear hbm
      rcases hl with ⟨rfl, rfl, h3⟩ | ⟨h1, rfl, h3⟩
      · obtain rfl : k = 0 := by omega
        obtain rfl : x = 0 := by have := Hx.out; rw [h3.out] at this; simpa using this.symm
        obtain rfl : out = [] := hf.out.symm
        have hN : Hid (fstep nodes [] 0 = [0]) := Lib.hid (by unfold fstep; simp)
        have hmk0 := Lib.hid (marks_get (out := []) (show 0 < nodes by omega))
        clear hways hmk hf
        go_wp2_with (first
          | ((with_reducible refine on_index (.tmp 57) ?_); refine wl_at_t rfl _ (.tmp 57) _ rfl el_bool rfl rfl (by omega) (by omega) owu.rd ?_; intro p2 x2 hx2 hc2; have hxx2 := get_eq hmk0.out hx2.out (by omega); rw [← hxx2] at hc2; simp only [List.not_mem_nil, decide_false] at hc2)
          | ((with_reducible refine on_append (.tmp 77) (.tmp 79) ?_); refine wl_appendA rfl (.tmp 77) (.tmp 79) _ rfl el_int (f := iv) (fun _ => rfl) rfl (ow.alloc (.cells #[.int .i64 0] 3)) rfl (OwS.lit (base := wr.heap.size) (e := 3) (xs := [(0 : Int)]) wr #[.int .i64 0] 1 (Nat.le_refl _) (by simp [maxLen]) rfl rfl).rd (by simp) (by omega) (by simp; omega) ?_; intro A8 c8 w8 ow8 hg8 hb8 hA8; have bx8 := (bxr.alloc (.cells #[.int .i64 0] 3)).grown hg8 Hrow.out; have d8 : w8.cell? ⟨g, 3, none⟩ = some (.slice A 0 c) := bx8.cell 3; have f8 := bx8.frozen 3; have B8 := (below_alloc wr (by omega) (.cells #[.int .i64 0] 3)).trans (hb8.mono (show g ≤ g + 1 by omega)); have bS8 := bx8.setCell 3 (.slice A8 (0 + 1) c8); have hne8 := ne_of_app hA8 Hrow.out Hne.out (show g < (wr.alloc (.cells #[.int .i64 0] 3)).heap.size by simp; omega) (show gu < (wr.alloc (.cells #[.int .i64 0] 3)).heap.size by simp; omega); have ow9 := ow8.grown bS8.2 (fun g' hA e => by have := hne8 g' hA; injection e with e; omega); have ou9 := ((owu.alloc (.cells #[.int .i64 0] 3)).grown hg8 (fun g' hA e => Hrowu.out (by rw [e]; injection hA with hA; injection hA with hA; rw [hA]))).grown bS8.2 (fun g' hA e => by injection e with e; injection hA with hA; injection hA with hA; omega); have B9 := B8.trans (below_of_grown bS8.2 (fun j e => by injection e with e; omega) (by have := B8.size; omega)))
          | ((with_reducible refine on_index (.tmp 82) ?_); refine wl_placeS rfl _ (.tmp 82) _ rfl el_bool rfl rfl 0 (by omega) ?_)
          | ((with_reducible refine on_store_at (.tmp 84) ?_); refine wl_set_t rfl _ (.tmp 84) _ rfl size_bool (g := gu) (j := 0) rfl (z := true) rfl ou9 (by omega) ?_; intro w10 ou10 hg10 hb10))
        go_roundw
        case rel =>
          have hF2 := hF'
          rw [hN.out] at hF2
          rw [marks_set (by omega)] at ou10
          exact ⟨1, [0], A8, c8, by omega, by go_num, by rw [Hst.out]; exact hN, hF2, by simp; omega, bS8.1.grown hg10 (fun e => by injection e with e; omega), ow9.grown hg10 (fun g' hA e => (hne8 g' hA).2 (by injection e with e; omega)), ou10, fun g' hA => (hne8 g' hA).2, hb.trans (B9.trans (below_of_grown hg10 (fun j e => by injection e with e; omega) (by have := B9.size; omega)))⟩
        case measure => simp [intOf]
      · have hxt : tr[k]? = some x := by have := Hx.out; rwa [h3.out] at this
        have Hxt := Lib.hid hxt
        clear hxt
        go_upto_region 10 with ((with_reducible refine on_index (.tmp 47) ?_); refine wl_at_i rfl _ (.tmp 47) _ rfl el_int rfl rfl (by omega) (by omega) htr ?_; intro p1 x1 hx1 hc1; have hxx := get_eq Hxt.out hx1.out (by omega); subst hxx)
        rw [HT.out]
        rcases hways with ⟨rfl, hN⟩ | ⟨rfl, h0, hN⟩ | ⟨y, rfl, h0, h0', hy, ⟨hc, hN⟩ | ⟨hc, hN⟩⟩
        · go_wp2_with ((with_reducible refine on_index (.tmp 57) ?_); refine wl_at_t rfl _ (.tmp 57) _ rfl el_bool rfl rfl (by omega) (by omega) owu.rd ?_; intro p2 x2 hx2 hc2; have hxx2 := get_eq hmk.out hx2.out (by omega); subst hxx2)
          go_roundw
          case rel => exact ⟨k + 1, out, A, c, by omega, by go_num, by rw [Hst.out]; exact hN, hF, hol, bxr, ow, owu, Hne.out, hb⟩
          case measure => simp [intOf]; omega
        · go_wp2_with (first
            | ((with_reducible refine on_index (.tmp 57) ?_); refine wl_at_t rfl _ (.tmp 57) _ rfl el_bool rfl rfl (by omega) (by omega) owu.rd ?_; intro p2 x2 hx2 hc2; have hxx2 := get_eq hmk.out hx2.out (by omega); subst hxx2)
            | ((with_reducible refine on_index (.tmp 70) ?_); refine wl_at_i rfl _ (.tmp 70) _ rfl el_int rfl rfl (by omega) (by omega) ow.rd ?_; intro p3 x3 hx3 hc3; have hxx3 := get_eq hy.out hx3.out (by omega); subst hxx3)
            | ((with_reducible refine on_append (.tmp 77) (.tmp 79) ?_); refine wl_appendA rfl (.tmp 77) (.tmp 79) _ rfl el_int (f := iv) (fun _ => rfl) rfl (ow.alloc (.cells #[.int .i64 V] 3)) rfl (OwS.lit (base := wr.heap.size) (e := 3) (xs := [(V : Int)]) wr #[.int .i64 V] 1 (Nat.le_refl _) (by simp [maxLen]) rfl rfl).rd (by omega) (by omega) (by simp; omega) ?_; intro A8 c8 w8 ow8 hg8 hb8 hA8; have bx8 := (bxr.alloc (.cells #[.int .i64 V] 3)).grown hg8 Hrow.out; have d8 : w8.cell? ⟨g, 3, none⟩ = some (.slice A out.length c) := bx8.cell 3; have f8 := bx8.frozen 3; have B8 := (below_alloc wr (by omega) (.cells #[.int .i64 V] 3)).trans (hb8.mono (show g ≤ g + 1 by omega)); have bS8 := bx8.setCell 3 (.slice A8 (out.length + 1) c8); have hne8 := ne_of_app hA8 Hrow.out Hne.out (show g < (wr.alloc (.cells #[.int .i64 V] 3)).heap.size by simp; omega) (show gu < (wr.alloc (.cells #[.int .i64 V] 3)).heap.size by simp; omega); have ow9 := ow8.grown bS8.2 (fun g' hA e => by have := hne8 g' hA; injection e with e; omega); have ou9 := ((owu.alloc (.cells #[.int .i64 V] 3)).grown hg8 (fun g' hA e => Hrowu.out (by rw [e]; injection hA with hA; injection hA with hA; rw [hA]))).grown bS8.2 (fun g' hA e => by injection e with e; injection hA with hA; injection hA with hA; omega); have B9 := B8.trans (below_of_grown bS8.2 (fun j e => by injection e with e; omega) (by have := B8.size; omega)))
            | ((with_reducible refine on_index (.tmp 82) ?_); refine wl_placeS rfl _ (.tmp 82) _ rfl el_bool rfl rfl V (by omega) ?_)
            | ((with_reducible refine on_store_at (.tmp 84) ?_); refine wl_set_t rfl _ (.tmp 84) _ rfl size_bool (g := gu) (j := V) rfl (z := true) rfl ou9 (by omega) ?_; intro w10 ou10 hg10 hb10))
          go_roundw
          case rel =>
            have hH := hN.out
            have hlen : (fstep nodes out x).length = out.length + 1 := by rw [hH]; simp
            have hF2 := hF'
            rw [hH] at hF2
            have hl2 := hF2.out.len
            rw [marks_set hVn] at ou10
            have e2 : (out ++ [(V : Int)]).length = out.length + 1 := by simp
            exact ⟨k + 1, out ++ [(V : Int)], A8, c8, by omega, by go_num, by rw [Hst.out]; exact hN, hF2, by omega, by rw [e2]; exact bS8.1.grown hg10 (fun e => by injection e with e; omega), by rw [e2]; exact ow9.grown hg10 (fun g' hA e => (hne8 g' hA).2 (by injection e with e; omega)), ou10, fun g' hA => (hne8 g' hA).2, hb.trans (B9.trans (below_of_grown hg10 (fun j e => by injection e with e; omega) (by have := B9.size; omega)))⟩
          case measure => simp [intOf]; omega
        · go_wp2_with (first
            | ((with_reducible refine on_index (.tmp 57) ?_); refine wl_at_t rfl _ (.tmp 57) _ rfl el_bool rfl rfl (by omega) (by omega) owu.rd ?_; intro p2 x2 hx2 hc2; have hxx2 := get_eq hmk.out hx2.out (by omega); subst hxx2)
            | ((with_reducible refine on_index (.tmp 70) ?_); refine wl_at_i rfl _ (.tmp 70) _ rfl el_int rfl rfl (by omega) (by omega) ow.rd ?_; intro p3 x3 hx3 hc3; have hxx3 := get_eq hy.out hx3.out (by omega); subst hxx3)
            | ((with_reducible refine on_append (.tmp 77) (.tmp 79) ?_); refine wl_appendA rfl (.tmp 77) (.tmp 79) _ rfl el_int (f := iv) (fun _ => rfl) rfl (ow.alloc (.cells #[.int .i64 V] 3)) rfl (OwS.lit (base := wr.heap.size) (e := 3) (xs := [(V : Int)]) wr #[.int .i64 V] 1 (Nat.le_refl _) (by simp [maxLen]) rfl rfl).rd (by omega) (by omega) (by simp; omega) ?_; intro A8 c8 w8 ow8 hg8 hb8 hA8; have bx8 := (bxr.alloc (.cells #[.int .i64 V] 3)).grown hg8 Hrow.out; have d8 : w8.cell? ⟨g, 3, none⟩ = some (.slice A out.length c) := bx8.cell 3; have f8 := bx8.frozen 3; have B8 := (below_alloc wr (by omega) (.cells #[.int .i64 V] 3)).trans (hb8.mono (show g ≤ g + 1 by omega)); have bS8 := bx8.setCell 3 (.slice A8 (out.length + 1) c8); have hne8 := ne_of_app hA8 Hrow.out Hne.out (show g < (wr.alloc (.cells #[.int .i64 V] 3)).heap.size by simp; omega) (show gu < (wr.alloc (.cells #[.int .i64 V] 3)).heap.size by simp; omega); have ow9 := ow8.grown bS8.2 (fun g' hA e => by have := hne8 g' hA; injection e with e; omega); have ou9 := ((owu.alloc (.cells #[.int .i64 V] 3)).grown hg8 (fun g' hA e => Hrowu.out (by rw [e]; injection hA with hA; injection hA with hA; rw [hA]))).grown bS8.2 (fun g' hA e => by injection e with e; injection hA with hA; injection hA with hA; omega); have B9 := B8.trans (below_of_grown bS8.2 (fun j e => by injection e with e; omega) (by have := B8.size; omega)))
            | ((with_reducible refine on_index (.tmp 82) ?_); refine wl_placeS rfl _ (.tmp 82) _ rfl el_bool rfl rfl V (by omega) ?_)
            | ((with_reducible refine on_store_at (.tmp 84) ?_); refine wl_set_t rfl _ (.tmp 84) _ rfl size_bool (g := gu) (j := V) rfl (z := true) rfl ou9 (by omega) ?_; intro w10 ou10 hg10 hb10))
          go_roundw
          case rel =>
            have hH := hN.out
            have hlen : (fstep nodes out x).length = out.length + 1 := by rw [hH]; simp
            have hF2 := hF'
            rw [hH] at hF2
            have hl2 := hF2.out.len
            rw [marks_set hVn] at ou10
            have e2 : (out ++ [(V : Int)]).length = out.length + 1 := by simp
            exact ⟨k + 1, out ++ [(V : Int)], A8, c8, by omega, by go_num, by rw [Hst.out]; exact hN, hF2, by omega, by rw [e2]; exact bS8.1.grown hg10 (fun e => by injection e with e; omega), by rw [e2]; exact ow9.grown hg10 (fun g' hA e => (hne8 g' hA).2 (by injection e with e; omega)), ou10, fun g' hA => (hne8 g' hA).2, hb.trans (B9.trans (below_of_grown hg10 (fun j e => by injection e with e; omega) (by have := B9.size; omega)))⟩
          case measure => simp [intOf]; omega
        · go_wp2_with (first
            | ((with_reducible refine on_index (.tmp 57) ?_); refine wl_at_t rfl _ (.tmp 57) _ rfl el_bool rfl rfl (by omega) (by omega) owu.rd ?_; intro p2 x2 hx2 hc2; have hxx2 := get_eq hmk.out hx2.out (by omega); subst hxx2)
            | ((with_reducible refine on_index (.tmp 70) ?_); refine wl_at_i rfl _ (.tmp 70) _ rfl el_int rfl rfl (by omega) (by omega) ow.rd ?_; intro p3 x3 hx3 hc3; have hxx3 := get_eq hy.out hx3.out (by omega); subst hxx3))
          go_roundw
          case rel => exact ⟨k + 1, out, A, c, by omega, by go_num, by rw [Hst.out]; exact hN, hF, hol, bxr, ow, owu, Hne.out, hb⟩
          case measure => simp [intOf]; omega
    · have hkm : k = m := by omega
      subst hkm
      have hfin : ftrace nodes tr = out := by
        unfold ftrace ftr
        rw [← hf.out, List.take_of_length_le (by have := Hm.out; omega)]
      have Hfin := Lib.hid hfin
      have hend : nt ≤ k ∧ 0 < k := by omega
      obtain ⟨he1, he2⟩ := hend
      have hk0 : ((k : Int) == 0) = false := by simp; omega
      have Hne := Lib.hid hne
      clear hfin hf hl hne
      go_wp2_with (first
        | ((with_reducible refine on_load (.tmp 5) ?_); refine wcv_box rfl (.tmp 5) rfl rfl bxr ?_)
        | ((with_reducible refine on_store_at (.tmp 4) ?_); refine wb_store (cs := Cv 0 none 0 0 0 none 0 0) (cs' := Cv 2 none 0 0 d A out.length c) rfl _ (.tmp 4) _ rfl st_cert rfl rfl b2r rfl rfl (by simp [Cv, Value.oneCell']) ?_; intro w9 b9 hg9))
      refine bodyPost_ret (v := .agg #[.int .i64 2, .slice none 0 0, .int .u32 d, .slice A out.length c]) ?_ rfl ⟨A, c, by rw [Hfin.out], ?_, ?_⟩
      · exact results_cell_row rfl _ w9 (w.heap.size + 1) 26 _ (0, 0) _ rfl b9.at_ Try.underlying26 rfl st_cert.size
      · rw [Hfin.out]
        exact (ow.grown hg9 (fun g' hA e => by injection e with e; subst hA; have := ow.lt; omega)).base_le (by omega)
      · exact (k5.trans (hb.mono (by omega))).trans (below_of_grown hg9 (fun j e => by injection e with e; omega) (by have := b2r.lt; omega))
end Go.Proofs.Ytjambnlocjjjpaa

/-! ### RegionL -/
namespace Go.Th
open Go.RowKit
set_option linter.unusedVariables false
section
variable {P : Program} {ops : Array Oper} {G : World → World → Prop} {md : Region.Mode} {L : Nat}
/-- No class is asked of operation L. -/
def Gof (L : Nat) (G : World → World → Prop) (i : Nat) : World → World → Prop := fun w w' => i = L ∨ G w w'
def anyL (P : Program) (md : Region.Mode) (ops : Array Oper) (L : Nat) (G : World → World → Prop) (Q : Act → World → Prop) : Nat → Array Bool → Act → World → Prop
  | 0, listed, a, w => Region.ready md ops listed = [] ∧ Q a w
  | fuel + 1, listed, a, w =>
    (Region.ready md ops listed = [] → Q a w) ∧
    ∀ i ∈ Region.ready md ops listed, opG P ops (Gof L G i) i (anyL P md ops L G Q fuel (listed.setIfInBounds i true)) a w
theorem wpAny_of_anyL {Q : Act → World → Prop} {Q' : Exit → Act → World → Prop} (hQ : ∀ a w, Q a w → Q' .normal a w) : ∀ (fuel : Nat) (listed : Array Bool) (a : Act) (w : World), anyL P md ops L G Q fuel listed a w → wpAny P md ops Q' fuel listed a w
  | 0, _, _, _, h => ⟨h.1, hQ _ _ h.2⟩
  | fuel + 1, listed, a, w, h => by
    refine ⟨fun h0 => hQ _ _ (h.1 h0), fun i hi => ?_⟩
    have h1 := h.2 i hi
    unfold opG at h1
    unfold wpOp
    split
    · rename_i ho
      simp only [ho] at h1
      exact wpAny_of_anyL hQ fuel _ _ _ h1
    · rename_i o ho
      simp only [ho] at h1
      split
      · rename_i hw
        simp only [hw, if_true] at h1
        exact .inl (wp_weak (fun a' w' hh => wpAny_of_anyL hQ fuel _ _ _ hh.2) h1)
      · rename_i hw
        simp only [hw] at h1
        exact wpAny_of_anyL hQ fuel _ _ _ h1
theorem yields_opGof {i : Nat} {o : Oper} {v : Value} {a : Act} {w : World} (hr : ∀ x, G x x) (hi : ops[i]? = some o) (hy : YieldsG P ops G o v a w) {K : Act → World → Prop} (h : K (a.put o.dst v) w) : opG P ops (Gof L G i) i K a w := by
  have := hy.opG hr hi h
  unfold Go.Th.opG at *
  simp only [hi] at *
  split
  · rename_i hw
    simp only [hw, if_true] at this
    exact wp_weak (fun a' w' q => ⟨.inr q.1, q.2⟩) this
  · rename_i hw
    simp only [hw] at this
    exact this
/-- Operation j hangs on operation i, in so many steps. -/
def hangs (md : Region.Mode) (ops : Array Oper) : Nat → Nat → Nat → Bool
  | 0, _, _ => false
  | n + 1, j, i => match ops[j]? with
    | none => false
    | some o => o.after.any fun e => Region.binds md e && (e.on == i || hangs md ops n e.on i)
/-- Operation L hangs on all the others. -/
def lastB (md : Region.Mode) (ops : Array Oper) (L : Nat) : Bool := (List.range ops.size).all fun i => i == L || hangs md ops 4 L i
/-- What is listed has what it hangs on listed. -/
def ClosedL (md : Region.Mode) (ops : Array Oper) (listed : Array Bool) : Prop := ∀ k o, ops[k]? = some o → listed.getD k true = true → ∀ e ∈ o.after, Region.binds md e = true → listed.getD e.on true = true
theorem hangs_listed {listed : Array Bool} (hc : ClosedL md ops listed) {i : Nat} : ∀ (n j : Nat) (oj : Oper), ops[j]? = some oj → (∀ e ∈ oj.after, Region.binds md e = true → listed.getD e.on true = true) → hangs md ops n j i = true → listed.getD i true = true
  | 0, _, _, _, _, h => by cases h
  | n + 1, j, oj, hj, hl, h => by
    unfold hangs at h
    rw [hj] at h
    simp only [Array.any_eq_true', Bool.and_eq_true, Bool.or_eq_true, beq_iff_eq] at h
    obtain ⟨e, he, hb, h2⟩ := h
    have h3 := hl e he hb
    rcases h2 with h2 | h2
    · rw [← h2]; exact h3
    · cases ho : ops[e.on]? with
      | none => cases n <;> simp [hangs, ho] at h2
      | some o => exact hangs_listed hc n e.on o ho (hc _ _ ho h3) h2
theorem lastB_spec (h : lastB md ops L = true) {listed : Array Bool} (hc : ClosedL md ops listed) {i j : Nat} {oi oj : Oper} (hi : ops[i]? = some oi) (hj : ops[j]? = some oj) (hji : j ≠ i) (hun : listed.getD i true = false) (hall : ∀ e ∈ oj.after, Region.binds md e = true → listed.getD e.on true = true) : j ≠ L := by
  intro e
  subst e
  unfold lastB at h
  simp only [List.all_eq_true, List.mem_range, Bool.or_eq_true, beq_iff_eq] at h
  rcases h i (Array.getElem?_eq_some_iff.1 hi).1 with h | h
  · exact hji h.symm
  · have := hangs_listed hc 4 j oj hj hall h
    rw [hun] at this
    cases this
theorem getD_up {listed : Array Bool} {k : Nat} (h : listed.getD k false = true) : listed.getD k true = true := by
  unfold Array.getD at *
  split
  · rename_i hk; simpa [hk] using h
  · rfl
theorem ClosedL.set {listed : Array Bool} (hc : ClosedL md ops listed) {j : Nat} (hj : j ∈ Region.ready md ops listed) : ClosedL md ops (listed.setIfInBounds j true) := by
  obtain ⟨hjun, oj, hoj, hall⟩ := mem_ready.1 hj
  have up : ∀ k, listed.getD k true = true → (listed.setIfInBounds j true).getD k true = true := by
    intro k hk
    by_cases e : j = k
    · subst e
      simp [Array.getD]
    · rw [getD_set_ne true e]; exact hk
  intro k o hk hl e he hb
  by_cases ek : j = k
  · subst ek
    rw [hoj] at hk
    injection hk with hk
    subst hk
    exact up _ (getD_up (hall e he hb))
  · rw [getD_set_ne true ek] at hl
    exact up _ (hc k o hk hl e he hb)
theorem ClosedL.start : ClosedL md ops (Array.replicate ops.size false) := by
  intro k o hk hl
  have := (Array.getElem?_eq_some_iff.1 hk).1
  simp [Array.getD, this] at hl
theorem anyL_first {Q : Act → World → Prop} {i : Nat} {oi : Oper} {v : Value} (hG : ∀ x y z, G x y → G y z → G x z) (hr0 : ∀ x, G x x) (hLB : lastB md ops L = true) (hi : ops[i]? = some oi) (hsel : ∀ (j : Nat) (o : Oper) cs b, ops[j]? = some o → o.op ≠ .select cs b) :
    ∀ (fuel : Nat) (listed : Array Bool) (a : Act) (w : World), ClosedL md ops listed →
      (∀ j oj, ops[j]? = some oj → j ≠ i → listed.getD j true = false → (∀ e ∈ oj.after, Region.binds md e = true → e.on ≠ i) → oi.apart ops oj = true) →
      i ∈ Region.ready md ops listed → YieldsG P ops G oi v a w →
      anyL P md ops L G Q fuel (listed.setIfInBounds i true) (a.put oi.dst v) w → anyL P md ops L G Q (fuel + 1) listed a w := by
  intro fuel
  induction fuel with
  | zero =>
    intro listed a w hcl _ hr hy H
    refine ⟨fun h => (by rw [h] at hr; cases hr), fun j hj => ?_⟩
    by_cases hji : j = i
    · subst hji; exact yields_opGof hr0 hi hy H
    · have := ready_mono hj hji
      rw [H.1] at this
      cases this
  | succ fuel ih =>
    intro listed a w hcl hfree hr hy H
    refine ⟨fun h => (by rw [h] at hr; cases hr), fun j hj => ?_⟩
    by_cases hji : j = i
    · subst hji; exact yields_opGof hr0 hi hy H
    · have h1 := H.2 j (ready_mono hj hji)
      obtain ⟨hjun, oj, hoj, hall⟩ := mem_ready.1 hj
      have hnot : ∀ e ∈ oj.after, Region.binds md e = true → e.on ≠ i := fun e he hb heq => by
        have h1 := hall e he hb
        have h0 := (mem_ready.1 hr).1
        rw [heq] at h1
        rcases Nat.lt_or_ge i listed.size with h' | h'
        · simp [h'] at h0 h1; rw [h0] at h1; cases h1
        · simp [Array.getElem?_eq_none h'] at h1
      have hjL : j ≠ L := lastB_spec hLB hcl hi hoj hji (mem_ready.1 hr).1 (fun e he hb => getD_up (hall e he hb))
      have eG : Gof L G j = G := by funext x y; simp [Gof, hjL]
      rw [eG] at h1 ⊢
      have h2 := opG_put hG hoj (hfree j oj hoj hji hjun hnot) (fun cs b => hsel i oi cs b hi) (fun cs b => hsel j oj cs b hoj) hy h1
      have hfree' : ∀ k ok, ops[k]? = some ok → k ≠ i → (listed.setIfInBounds j true).getD k true = false →
          (∀ e ∈ ok.after, Region.binds md e = true → e.on ≠ i) → oi.apart ops ok = true := fun k ok hk hki hun hno => by
        refine hfree k ok hk hki ?_ hno
        by_cases hjk : j = k
        · subst hjk; exact hjun
        · rw [getD_set_ne true hjk] at hun; exact hun
      refine opG_mono (fun a' w' _ h3 => ih (listed.setIfInBounds j true) a' w' (hcl.set hj) hfree' (ready_mono hr (Ne.symm hji)) h3.1 ?_) h2
      rw [Array.setIfInBounds_comm _ _ hji]
      exact h3.2
def wpTreeL (P : Program) (ops : Array Oper) (L : Nat) (G : World → World → Prop) (Q : Act → World → Prop) (l : List Oper) : Tree → Act → World → Prop
  | .done, a, w => Q a w
  | .float s n t, a, w => wpQuiet P ops (G w) (fun a' => wpTreeL P ops L G Q l t a' w) ((l.drop s).take n) a
  | .one i t, a, w => wpList P ops (Anch (Gof L G i) w (wpTreeL P ops L G Q l t)) ((l.drop i).take 1) a w
  | .two i t j u, a, w => wpList P ops (Anch (Gof L G i) w (wpTreeL P ops L G Q l t)) ((l.drop i).take 1) a w ∧ wpList P ops (Anch (Gof L G j) w (wpTreeL P ops L G Q l u)) ((l.drop j).take 1) a w
  | .three i t j u k v, a, w => wpList P ops (Anch (Gof L G i) w (wpTreeL P ops L G Q l t)) ((l.drop i).take 1) a w ∧ wpList P ops (Anch (Gof L G j) w (wpTreeL P ops L G Q l u)) ((l.drop j).take 1) a w ∧ wpList P ops (Anch (Gof L G k) w (wpTreeL P ops L G Q l v)) ((l.drop k).take 1) a w
theorem anyL_floats {Q : Act → World → Prop} (hG : ∀ x y z, G x y → G y z → G x z) (hr0 : ∀ x, G x x) (hLB : lastB .any ops L = true) (hs : Region.noSelect ops = true) (l : List Oper) (hl : l.toArray = ops) (K : Act → World → Prop) (fuel : Nat) (w : World) :
    ∀ (n s : Nat) (listed : Array Bool) (a : Act), ClosedL .any ops listed → floatsB ops n s listed = true → (∀ a', K a' w → ClosedL .any ops (listAll n s listed) → anyL P .any ops L G Q fuel (listAll n s listed) a' w) →
      wpQuiet P ops (G w) (fun a' => K a' w) ((l.drop s).take n) a → anyL P .any ops L G Q (n + fuel) listed a w := by
  intro n
  induction n with
  | zero => intro s listed a hcl _ hK h; rw [Nat.zero_add]; rw [List.take_zero] at h; exact hK a h hcl
  | succ n ih =>
    intro s listed a hcl hB hK h
    simp only [floatsB, Bool.and_eq_true] at hB
    obtain ⟨⟨⟨hr, hf⟩, hc⟩, hB'⟩ := hB
    unfold calmAt at hc
    cases ho : ops[s]? with
    | none => rw [ho] at hc; simp at hc
    | some o =>
      rw [ho] at hc
      have hlt : s < l.length := by
        have := (Array.getElem?_eq_some_iff.1 ho).1
        rw [← hl] at this; simpa using this
      have hlo : l[s] = o := by
        have h1 := (Array.getElem?_eq_some_iff.1 ho).2
        subst hl
        simpa using h1
      rw [List.drop_eq_getElem_cons hlt, List.take_succ_cons, hlo] at h
      have hst : qOp P ops (G w) s (wpQuiet P ops (G w) (fun a' => K a' w) ((l.drop (s + 1)).take n)) a := by unfold qOp; simp only [ho]; exact h
      obtain ⟨v, hy, hK1⟩ := yieldsIn_of_qOp ho hst
      rw [show n + 1 + fuel = (n + fuel) + 1 by omega]
      exact anyL_first hG hr0 hLB ho (Region.noSelect_spec hs) (n + fuel) listed a w hcl (Region.free_spec ho hf) (by simpa using hr) (yieldsG_of_in hc hy)
        (ih (s + 1) _ _ (hcl.set (by simpa using hr)) hB' hK hK1)
theorem anyL_tree {Q : Act → World → Prop} (hG : ∀ x y z, G x y → G y z → G x z) (hr0 : ∀ x, G x x) (hLB : lastB .any ops L = true) (hs : Region.noSelect ops = true) (l : List Oper) (hl : l.toArray = ops) :
    ∀ (t : Tree) (listed : Array Bool) (a : Act) (w : World), ClosedL .any ops listed → t.okB ops listed = true → wpTreeL P ops L G Q l t a w → anyL P .any ops L G Q t.len listed a w
  | .done, listed, a, w, hcl, hB, h => ⟨by simpa [Tree.okB] using hB, h⟩
  | .float s n t, listed, a, w, hcl, hB, h => by
    simp only [Tree.okB, Bool.and_eq_true] at hB
    exact anyL_floats hG hr0 hLB hs l hl (wpTreeL P ops L G Q l t) t.len w n s listed a hcl hB.1 (fun a' h' hc' => anyL_tree hG hr0 hLB hs l hl t _ a' w hc' hB.2 h') h
  | .one i t, listed, a, w, hcl, hB, h => by
    simp only [Tree.okB, Bool.and_eq_true, decide_eq_true_eq] at hB
    refine ⟨fun h0 => absurd (hB.1 ▸ h0) (by simp), fun k hk => ?_⟩
    have hk' := hk
    rw [hB.1] at hk'
    have hk' := List.mem_singleton.1 hk'
    subst hk'
    exact opG_anch l hl hk (fun a w h => anyL_tree hG hr0 hLB hs l hl t _ a w (hcl.set hk) hB.2 h) h
  | .two i t j u, listed, a, w, hcl, hB, h => by
    simp only [Tree.okB, Bool.and_eq_true, decide_eq_true_eq, beq_iff_eq] at hB
    obtain ⟨⟨⟨h1, h2⟩, h3⟩, h4⟩ := hB
    refine ⟨fun h0 => absurd (h1 ▸ h0) (by simp), fun k hk => ?_⟩
    have hk' := hk
    rw [h1] at hk'
    simp at hk'
    rcases hk' with hk' | hk'
    · subst hk'
      exact opG_anch l hl hk (fun a w h => anyL_tree hG hr0 hLB hs l hl t _ a w (hcl.set hk) h3 h) h.1
    · subst hk'
      exact opG_anch l hl hk (fun a w h => by have := anyL_tree hG hr0 hLB hs l hl u _ a w (hcl.set hk) h4 h; rw [← h2] at this; exact this) h.2
  | .three i t j u m v, listed, a, w, hcl, hB, h => by
    simp only [Tree.okB, Bool.and_eq_true, decide_eq_true_eq, beq_iff_eq] at hB
    obtain ⟨⟨⟨⟨⟨h1, h2⟩, h2'⟩, h3⟩, h4⟩, h5⟩ := hB
    refine ⟨fun h0 => absurd (h1 ▸ h0) (by simp), fun k hk => ?_⟩
    have hk' := hk
    rw [h1] at hk'
    simp at hk'
    rcases hk' with hk' | hk' | hk'
    · subst hk'
      exact opG_anch l hl hk (fun a w h => anyL_tree hG hr0 hLB hs l hl t _ a w (hcl.set hk) h3 h) h.1
    · subst hk'
      exact opG_anch l hl hk (fun a w h => by have := anyL_tree hG hr0 hLB hs l hl u _ a w (hcl.set hk) h4 h; rw [← h2] at this; exact this) h.2.1
    · subst hk'
      exact opG_anch l hl hk (fun a w h => by have := anyL_tree hG hr0 hLB hs l hl v _ a w (hcl.set hk) h5 h; rw [← h2'] at this; exact this) h.2.2
/-- **A region that draws its order, walked by a plan of our own; the last operation is free.** -/
theorem wp_region_treeL (L : Nat) (t : Tree) (G : World → World → Prop) (hG : ∀ x y z, G x y → G y z → G x z) (hr0 : ∀ x, G x x) {id : Nat} {Q : Exit → Act → World → Prop} {a : Act} {w : World} {l : List Oper} (hm : P.follows .mixedOrders = true) (hLB : lastB .any l.toArray L = true) (hB : treeB l.toArray t = true)
    (h : ∀ K : Act → World → Prop, (∀ a w', Q .normal a w' → K a w') → wpTreeL P l.toArray L G K l t a w.drew) : (Code.region id l.toArray true).wp P Q a w := by
  simp only [treeB, Bool.and_eq_true, beq_iff_eq] at hB
  obtain ⟨⟨h1, h2⟩, h3⟩ := hB
  refine wp_region_any hm (wpAny_of_anyL (Q := Q .normal) (G := G) (L := L) (fun _ _ h => h) _ _ _ _ ?_)
  have := anyL_tree hG hr0 hLB h1 l rfl t _ a _ ClosedL.start h3 (h _ (fun _ _ h => h))
  rw [h2] at this
  exact this
theorem wpTreeL_done {Q : Act → World → Prop} {l : List Oper} {a : Act} {w : World} (h : Q a w) : wpTreeL P ops L G Q l .done a w := h
theorem wpTreeL_float {Q : Act → World → Prop} {l : List Oper} {a : Act} {w : World} {s n : Nat} {t : Tree}
    (h : ∀ K : Act → Prop, (∀ a', wpTreeL P ops L G Q l t a' w → K a') → wpQuiet P ops (G w) K ((l.drop s).take n) a) : wpTreeL P ops L G Q l (.float s n t) a w := h _ (fun _ h => h)
theorem wpTreeL_one {Q : Act → World → Prop} {l : List Oper} {a : Act} {w : World} {i : Nat} {t : Tree}
    (h : ∀ K : Act → World → Prop, (∀ a' w', wpTreeL P ops L G Q l t a' w' → K a' w') → wpList P ops (Anch (Gof L G i) w K) ((l.drop i).take 1) a w) : wpTreeL P ops L G Q l (.one i t) a w := h _ (fun _ _ h => h)
theorem wpTreeL_two {Q : Act → World → Prop} {l : List Oper} {a : Act} {w : World} {i j : Nat} {t u : Tree}
    (h1 : wpTreeL P ops L G Q l (.one i t) a w) (h2 : wpTreeL P ops L G Q l (.one j u) a w) : wpTreeL P ops L G Q l (.two i t j u) a w := ⟨h1, h2⟩
end
theorem anch_last {L : Nat} {G : World → World → Prop} {w w' : World} {K : Act → World → Prop} {a : Act} (h : K a w') : Anch (Gof L G L) w K .normal a w' := ⟨rfl, .inl rfl, h⟩
theorem anch_endL {L i : Nat} {G : World → World → Prop} {w w' : World} {K : Act → World → Prop} {a : Act} (hG : G w w') (h : K a w') : Anch (Gof L G i) w K .normal a w' := ⟨rfl, .inr hG, h⟩
end Go.Th

/-! ### FitFree -/
namespace Go.Th
open Go.RowKit
set_option linter.unusedVariables false
theorem Ow.type {w : World} {b e k n c g : Nat} {A : Option Addr} {xs : List Value} (h : Ow w b e k A n c xs) (hA : A = some ⟨g, 0, none⟩) : ∃ cur fz, w.heap[g]? = some (.cells cur e fz) := by
  rcases h.own.2 with ⟨hv, _⟩ | ⟨g', cap, cur, hv, _, hg, _⟩
  · subst hA; cases hv
  · subst hA
    injection hv with hv
    injection hv with hv
    injection hv with hv
    subst hv
    exact ⟨_, _, hg⟩
/-- Rows of unlike types share no block. -/
theorem Ow.apart {w : World} {b e k n c b' e' k' n' c' : Nat} {A A' : Option Addr} {xs xs' : List Value} (h : Ow w b e k A n c xs) (h' : Ow w b' e' k' A' n' c' xs') (hne : e ≠ e') : ∀ g, A = some ⟨g, 0, none⟩ → rowOf A' ≠ some g := by
  intro g hA hr
  obtain ⟨cur, fz, h1⟩ := h.type hA
  rcases h'.form with ⟨e2, _⟩ | ⟨g', e2, _⟩
  · subst e2; cases hr
  · have : g' = g := by subst e2; simpa [rowOf] using hr
    subst this
    obtain ⟨cur', fz', h2⟩ := h'.type e2
    rw [h1] at h2
    injection h2 with h2
    injection h2 with _ h2
    exact hne h2
end Go.Th
namespace Go.Proofs.Ytjambnlocjjjpaa
open Go.RowKit Go.Th
set_option linter.unusedVariables false
/-- Parts of the call's own, and ranks of its own, each in its own row. -/
structure POw (w : World) (base : Nat) (A : Option Addr) (n c : Nat) (ps : List Pt) (N : Nat) : Prop where
  parts : OwM Pt.cs 3 w base 38 A n c ps
  rk : ∀ p ∈ ps, OwS iv w base 3 p.A p.n p.c p.rk ∧ p.n = N
  dis : ps.Pairwise fun p q => rowOf p.A ≠ rowOf q.A
theorem ty_ne : 38 ≠ 3 := by decide
theorem ty_ne2 : 23 ≠ 3 := by decide
theorem POw.below {w w' : World} {base n c N : Nat} {A : Option Addr} {ps : List Pt} (h : POw w base A n c ps N) (hb : Below w.heap.size w w') : POw w' base A n c ps N :=
  ⟨h.parts.below hb, fun p hp => ⟨(h.rk p hp).1.below hb, (h.rk p hp).2⟩, h.dis⟩
theorem POw.base_le {w : World} {base base' n c N : Nat} {A : Option Addr} {ps : List Pt} (h : POw w base A n c ps N) (hb : base' ≤ base) : POw w base' A n c ps N :=
  ⟨h.parts.base_le hb, fun p hp => ⟨(h.rk p hp).1.base_le hb, (h.rk p hp).2⟩, h.dis⟩
theorem POw.box {w w' : World} {base n c N g : Nat} {A : Option Addr} {ps : List Pt} (h : POw w base A n c ps N) (hg : w.grownBy w' (some g)) (hb : g < base) : POw w' base A n c ps N :=
  ⟨h.parts.grown hg (fun g' hA e => by subst hA; have := h.parts.lt; injection e with e; omega), fun p hp => ⟨(h.rk p hp).1.grown hg (fun g' hA e => by have h1 := (h.rk p hp).1; rw [hA] at h1; have := h1.lt; injection e with e; omega), (h.rk p hp).2⟩, h.dis⟩
/-- One part more: the row may have moved. -/
theorem POw.more {w w' : World} {base n c c' N : Nat} {A A' : Option Addr} {ps : List Pt} {p : Pt} (h : POw w base A n c ps N) (hp : OwS iv w base 3 p.A p.n p.c p.rk ∧ p.n = N) (hd : ∀ q ∈ ps, rowOf q.A ≠ rowOf p.A) (hg : w.grownBy w' (rowOf A)) (ho : OwM Pt.cs 3 w' base 38 A' (n + 1) c' (ps ++ [p])) :
    POw w' base A' (n + 1) c' (ps ++ [p]) N := by
  have key : ∀ q : Pt, OwS iv w base 3 q.A q.n q.c q.rk ∧ q.n = N → OwS iv w' base 3 q.A q.n q.c q.rk ∧ q.n = N := fun q hq =>
    ⟨hq.1.grown hg (fun g hA e => hq.1.ow.apart h.parts.ow ty_ne.symm g hA e), hq.2⟩
  refine ⟨ho, fun q hq => ?_, ?_⟩
  · rcases List.mem_append.1 hq with hq | hq
    · exact key q (h.rk q hq)
    · rw [List.mem_singleton.1 hq]; exact key p hp
  · rw [List.pairwise_append]
    refine ⟨h.dis, by simp, fun a ha b hb => ?_⟩
    rw [List.mem_singleton.1 hb]
    exact hd a ha
theorem POw.nil (w : World) (base N : Nat) : POw w base none 0 0 [] N := ⟨OwM.nil_ _ _ _, by simp, by simp⟩
theorem POw.rd {w : World} {base n c N : Nat} {A : Option Addr} {ps : List Pt} (h : POw w base A n c ps N) (hok : ∀ p ∈ ps, p.Ok) : PRd w w.heap.size A n c ps :=
  ⟨h.parts.rd, fun p hp => (h.rk p hp).1.rd, hok⟩
def FitCut (M b : Nat) (ps : List Pt) (wb : World) (s9 s10 s11 : Value) (wr : World) : Prop :=
  ∃ (k : Nat) (A : Option Addr) (c : Nat) (A2 : Option Addr) (m c2 : Nat), k ≤ M ∧ s11 = .int .i64 k ∧ s9 = .slice A k c ∧ s10 = .slice A2 m c2 ∧ OwS uv wr b 23 A k c ((ps.take k).map (·.fr)) ∧ OwS iv wr b 3 A2 m c2 ((ps.take k).flatMap (·.rk)) ∧ m ≤ k * 1048576 ∧ Below b wb wr
def FitKRel (gp a nodes : Nat) (lo hi : Int) (rs : List Int) (wb : World) (s13 s19 : Value) (wr : World) : Prop :=
  ∃ (j T : Nat) (A : Option Addr) (c : Nat), j ≤ nodes ∧ s19 = .int .i64 j ∧ s13 = .int .i64 T ∧ T ≤ a + j ∧ a + j ≤ T ∧ Box wr gp 38 (Pt.cs ⟨lo, hi, A, j, c, []⟩).toArray ∧ OwS iv wr (gp + 1) 3 A j c ((List.range j).map fun t => frk rs nodes (a + t)) ∧ Below gp wb wr
def FitFRel (g L nodes : Nat) (l rs : List Int) (wb : World) (s13 s14 : Value) (wr : World) : Prop :=
  ∃ (k : Nat) (A : Option Addr) (c : Nat) (qs : List Pt), k ≤ L ∧ s14 = .int .i64 k ∧ s13 = .int .i64 (k * nodes : Nat) ∧ Box wr g 26 (Cv 1 A k c 0 none 0 0) ∧ POw wr (g + 1) A k c qs nodes ∧ Hid (qs.map pkey = (fparts l rs nodes).take k) ∧ Below g wb wr
set_option maxRecDepth 100000 in
set_option maxHeartbeats 4000000 in
theorem rcfit_free (v : Int) (hv : bits .and .i64 v 1 ≠ 0) (Ap : Option Addr) (np cp : Nat) (d : Int) (At : Option Addr) (nt ct : Nat) (nodes : Nat) (hno : 1 ≤ nodes ∧ nodes ≤ 1000) (w : World) (hnp : np ≤ 9223372036854775807) (ps : List Pt) (B : Nat) (hp : PRd w B Ap np cp ps) (hsm : ∀ p ∈ ps, p.n ≤ 1048576) :
    Calls Try.prog 9 #[.agg #[.int .i64 v, .slice Ap np cp, .int .u32 d, .slice At nt ct], .int .i64 nodes] w (fun e w' => ∃ A' c' ps', e = .returned (.agg #[.int .i64 1, .slice A' ps'.length c', .int .u32 0, .slice none 0 0]) ∧ POw w' w.heap.size A' ps'.length c' ps' nodes ∧ FPs (fcuts ps) (franksIn ps) nodes ps' ∧ Below w.heap.size w w') := by
  have hv1 : (bits .and .i64 v 1 == 0) = false := by simpa using hv
  have Hlen := Lib.hid hp.rd.len
  obtain ⟨hno1, hno2⟩ := hno
  have bx := (Box.new w (Cv v Ap np cp d At nt ct) 26).alloc (.cells (Cv 0 none 0 0 0 none 0 0) 26)
  have b2 := Box.new (w.alloc (.cells (Cv v Ap np cp d At nt ct) 26)) (Cv 0 none 0 0 0 none 0 0) 26
  rw [heap_size_alloc] at b2
  have k1 : Below w.heap.size w _ := (below_alloc w (Nat.le_refl _) (.cells (Cv v Ap np cp d At nt ct) 26)).alloc (by simp) (.cells (Cv 0 none 0 0 0 none 0 0) 26)
  have hs2 : (((w.alloc (.cells (Cv v Ap np cp d At nt ct) 26)).alloc (.cells (Cv 0 none 0 0 0 none 0 0) 26))).heap.size = w.heap.size + 2 := by simp
  have HV := Lib.hid hv
  have Hsm := Lib.hid hsm
  have Hok := Lib.hid hp.ok
  clear hv hsm
  go_enter Try.func9, Try.ntmps9
  go_upto_region 14 with fail
  obtain ⟨w1, hw1⟩ : ∃ W, ((w.alloc (.cells (Cv v Ap np cp d At nt ct) 26)).alloc (.cells (Cv 0 none 0 0 0 none 0 0) 26)) = W := ⟨_, rfl⟩
  have hg : (w.alloc (.cells #[.int .i64 v, .slice Ap np cp, .int .u32 d, .slice At nt ct] 26)).alloc (.cells #[.int .i64 0, .slice none 0 0, .int .u32 0, .slice none 0 0] 26) = w1 := hw1
  have hp0 := hp.heap
  rw [hw1] at bx b2 k1 hs2
  first | rw [hg] | rw [hw1]
  have hs3 : w.heap.size + 2 ≤ w1.heap.size := Nat.le_of_eq hs2.symm
  clear hg hw1 hp hs2
  obtain ⟨M, hM⟩ : ∃ M, min np 12 = M := ⟨_, rfl⟩
  have HM := Lib.hid hM
  have hM1 : M ≤ 12 ∧ M ≤ np := by omega
  obtain ⟨hM1, hM2⟩ := hM1
  clear hM
  go_upto_block 2 with fail
  go_cut [9, 10] (fun s9 s10 wx => FitCut M w1.heap.size ps w1 s9 s10 (.int .i64 M) wx)
  case first =>
    go_wp2
    go_loopw [9, 10, 11] (fun s9 s10 s11 wr => FitCut M w1.heap.size ps w1 s9 s10 s11 wr) (fun _ _ i _ => M - (intOf i).toNat)
    case atStart => exact ⟨0, _, 0, _, 0, 0, by omega, rfl, rfl, rfl, (OwS.lit (base := w1.heap.size) (e := 23) (xs := []) w1 #[] 0 (Nat.le_refl _) (by simp [maxLen]) rfl rfl).alloc _, OwS.lit' (base := w1.heap.size) (e := 3) (xs := []) (w1.alloc (.cells #[] 23)) #[] 0 _ (by simp) (by simp) (by simp [maxLen]) rfl rfl, by omega, (below_alloc w1 (Nat.le_refl _) _).alloc (by simp) _⟩
    case round =>
      obtain ⟨k, A, c, A2, m, c2, hk, rfl, rfl, rfl, ow, ow2, hm, hb⟩ := hrel
      have bxr := bx.below hb (by omega)
      have b2r := b2.below hb (by omega)
      have hpr := hp0.below (k1.trans (hb.mono (by omega)))
      have c1 : wr.cell? ⟨w.heap.size, 1, none⟩ = some (.slice Ap np cp) := bxr.cell 1
      have hbs := hb.size
      by_cases hlt : k < M
      · obtain ⟨p, hpk⟩ : ∃ p, ps[k]? = some p := ⟨ps[k]'(by have := Hlen.out; omega), List.getElem?_eq_getElem _⟩
        have hrk := (hpr.rk p (List.mem_of_getElem? hpk))
        have hpn := Hsm.out p (List.mem_of_getElem? hpk)
        have Hst1 : Hid ((ps.take (k + 1)).map (·.fr) = (ps.take k).map (·.fr) ++ [p.fr]) := Lib.hid (by rw [List.take_add_one, hpk]; simp)
        have Hst2 : Hid ((ps.take (k + 1)).flatMap (·.rk) = (ps.take k).flatMap (·.rk) ++ p.rk) := Lib.hid (by rw [List.take_add_one, hpk]; simp)
        have Hpk := Lib.hid hpk
        have Hap := Lib.hid (ow2.ow.apart ow.ow ty_ne2.symm)
        have hm2 : m ≤ 12582912 := by omega
        clear hpk
        go_wp2_with (first
          | ((with_reducible refine on_index (.tmp 101) ?_); refine wm_at Pt.cs_length rfl _ (.tmp 101) _ rfl el_part rfl rfl (by omega) (by omega) hpr.rd ?_; intro b1 j1 r1 hr1 hb1 hc1; have hxx : p = r1 := get_eq Hpk.out hr1.out (by omega); subst hxx; have e1 : wr.cell? ⟨b1, j1, none⟩ = some (.int .u32 p.fr) := hc1.out 0 _ rfl)
          | ((with_reducible refine on_append (.tmp 99) (.tmp 106) ?_); refine wl_appendS rfl (.tmp 99) (.tmp 106) _ rfl el_u32 (f := uv) (fun _ => rfl) rfl (ow.alloc (.cells #[.int .u32 p.fr] 23)) rfl (OwS.lit (base := wr.heap.size) (e := 23) (xs := [p.fr]) wr #[.int .u32 p.fr] 1 (Nat.le_refl _) (by simp [maxLen]) rfl rfl).rd (by omega) (by omega) (by simp; omega) ?_; intro A8 c8 w8 ow8 hg8 hb8; have B8 := (below_alloc wr (by omega) (.cells #[.int .u32 p.fr] 23)).trans hb8; have bx8 := bxr.below B8 (by omega); have c8 : w8.cell? ⟨w.heap.size, 1, none⟩ = some (.slice Ap np cp) := bx8.cell 1; have hp8 := hpr.below (B8.mono (by omega)); have ow28 := (ow2.alloc (.cells #[.int .u32 p.fr] 23)).grown hg8 Hap.out)
          | ((with_reducible refine on_index (.tmp 110) ?_); refine wm_at Pt.cs_length rfl _ (.tmp 110) _ rfl el_part rfl rfl (by omega) (by omega) hp8.rd ?_; intro b2 j2 r2 hr2 hb2 hc2; have hxx : p = r2 := get_eq Hpk.out hr2.out (by omega); subst hxx; have e2 : w8.cell? ⟨b2, j2 + 2, none⟩ = some (.slice p.A p.n p.c) := hc2.out 2 _ rfl)
          | ((with_reducible refine on_append (.tmp 108) (.tmp 114) ?_); refine wl_appendS rfl (.tmp 108) (.tmp 114) _ rfl el_int (f := iv) (fun _ => rfl) rfl ow28 rfl (hp8.rk p (List.mem_of_getElem? Hpk.out)) (by omega) (by omega) (by have := B8.size; omega) ?_; intro A9 c9 w9 ow9 hg9 hb9))
        go_roundw
        case rel => exact ⟨k + 1, A8, _, A9, _, c9, by omega, by go_num, rfl, rfl, by rw [Hst1.out]; exact ow8.grown hg9 (ow8.ow.apart ow28.ow ty_ne2), by rw [Hst2.out]; exact ow9, by omega, hb.trans (B8.trans hb9)⟩
        case measure => simp [intOf]; omega
      · have hkm : k = M := by omega
        subst hkm
        have hend : np ≤ k ∨ (k < np ∧ 12 ≤ k) := by have := HM.out; omega
        rcases hend with he | ⟨he, he2⟩
        all_goals
          go_wp2
          go_meet
          case rel => exact ⟨k, A, c, A2, m, c2, by omega, rfl, rfl, rfl, ow, ow2, hm, hb⟩
  case rest =>
    obtain ⟨k, A, c, A2, m, c2, hk, hkM, rfl, rfl, ow, ow2, hm, hb⟩ := hcut
    obtain rfl : M = k := by injection hkM with _ h; omega
    clear hkM
    have bxr := bx.below hb (by omega)
    have b2r := b2.below hb (by omega)
    have hpr := hp0.below (k1.trans (hb.mono (by omega)))
    have hbs := hb.size
    have htk : ps.take M = ps.take 12 := by
      rcases Nat.lt_or_ge np 12 with h | h
      · rw [List.take_of_length_le (by have := HM.out; have := Hlen.out; omega), List.take_of_length_le (by have := Hlen.out; omega)]
      · rw [show M = 12 by have := HM.out; omega]
    rw [htk] at ow ow2
    have hcb : ∀ x ∈ (ps.take 12).map (·.fr), 0 ≤ x ∧ x ≤ 4294967295 := fun x hx => by
      obtain ⟨p, hp, rfl⟩ := List.mem_map.1 hx
      exact (Hok.out p (List.mem_of_mem_take hp)).fr
    obtain ⟨hrow, hrl⟩ := pfit_row hcb
    obtain ⟨l, hl⟩ : ∃ l, pfit ((ps.take 12).map (·.fr)) = l := ⟨_, rfl⟩
    obtain ⟨rs, hrs⟩ : ∃ rs, (ps.take 12).flatMap (·.rk) = rs := ⟨_, rfl⟩
    obtain ⟨L, hL⟩ : ∃ L, l.length = L := ⟨_, rfl⟩
    have hfit := rfit_any A M c _ wc (by omega) _ ow.rd hcb
    rw [hl] at hrow hrl hfit
    rw [hL] at hfit hrl
    rw [hrs] at ow2
    have Hrow := Lib.hid hrow
    have Hl := Lib.hid hl
    have HL := Lib.hid hL
    have Hrs := Lib.hid hrs
    have Hfit := Lib.hid hfit
    have k5 := k1.trans (hb.mono (by omega))
    have hm9 : m ≤ 12582912 := by omega
    clear htk hrow hl hrs hcb hfit hL hpr ow hp0 bx b2 bxr k1 hb hm hk
    go_wp2_with (first
      | (go_at_call 22; refine Hfit.out.mono ?_; rintro e w2 ⟨A5, c5, rfl, r5, hb5⟩)
      | ((with_reducible refine on_alloc ?_); refine wl_newBox rfl _ rfl z_cert ?_; intro g w3 hg3 hl3 bg hb3)
      | ((with_reducible refine on_store_at (.tmp 12) ?_); refine wb_store (cs := Cv 0 none 0 0 0 none 0 0) (cs' := Cv 1 none 0 0 0 none 0 0) rfl _ (.tmp 12) _ rfl st_cert rfl rfl bg rfl rfl (by simp [Cv, Value.oneCell']) ?_; intro w4 bx4 hg4))
    have r4' := (r5.step hb3).grown hg4 (fun j e => by injection e with e; omega)
    have B3 := hb5.trans (hb3.mono hb5.size)
    have q4' := ((ow2.rd.step B3).grown hg4 (fun j e => by injection e with e; have := hb5.size; omega))
    have b24 := (b2r.step B3).grown hg4 (fun e => by injection e with e; have := hb5.size; have := b2r.lt; omega)
    have B4 := k5.trans ((B3.mono (by have := k5.size; omega)).trans (below_of_grown (B := w.heap.size) hg4 (fun j e => by injection e with e; have := hb5.size; have := k5.size; omega) (by have := B3.size; have := k5.size; omega)))
    have hgw : w.heap.size + 2 ≤ g := by have := hb5.size; have := k5.size; omega
    have q4 := q4'.more (show wc.heap.size ≤ g by have := hb5.size; omega)
    have r4 := r4'.more (show w2.heap.size ≤ g from hg3)
    have gl := bx4.lt
    clear r4' q4' hb5 hb3 hg4 bg r5 B3 b2r ow2 k5 hg3 hl3 Hfit hbs hs3
    clear w3
    clear w2
    clear wc
    go_wp2
    go_loopw [13, 14] (fun s13 s14 wr => FitFRel g L nodes l rs w4 s13 s14 wr) (fun _ i _ => L - (intOf i).toNat)
    case atStart => exact ⟨0, none, 0, [], by omega, by first | rfl | go_num, by simp, bx4, POw.nil _ _ _, Lib.hid rfl, Below.refl _ _⟩
    case round =>
      obtain ⟨k, A6, c6, qs, hk, rfl, rfl, bx, ow, hkey, hb⟩ := hrel
      rename World => wo
      have rr := r4.below hb
      have qr := q4.below hb
      by_cases hlt : k < L
      · have hll : k < l.length := by rw [HL.out]; exact hlt
        obtain ⟨lo, hlo⟩ : ∃ lo, l.getD k 0 = lo := ⟨_, rfl⟩
        obtain ⟨hi, hhi⟩ : ∃ hi, endOf l k = hi := ⟨_, rfl⟩
        obtain ⟨a, ha⟩ : ∃ a, k * nodes = a := ⟨_, rfl⟩
        have ha1 : a ≤ 31000 := by rw [← ha]; exact Nat.le_trans (Nat.mul_le_mul (show k ≤ 31 by omega) hno2) (by omega)
        have hlk : l[k]? = some lo := by rw [← hlo]; exact (row_at Hrow.out hll).1
        have hEnd : EndOf l L k hi := by
          rw [← hhi, ← HL.out]
          unfold endOf
          split
          · rename_i h
            have h1 := row_at Hrow.out h
            have h2 : l.getD k 0 < l.getD (k + 1) 0 := row_lt Hrow.out (by omega) h
            have h3 := row_at Hrow.out hll
            exact .inr ⟨h, _, h1.1, by omega, h1.2.2, rfl⟩
          · rename_i h
            exact .inl ⟨by omega, rfl⟩
        have hb1 := row_at Hrow.out hll
        have hb2 := endOf_bd Hrow.out hll
        rw [hlo] at hb1
        rw [hlo, hhi] at hb2
        have hlo0 := hb1.2
        have hhi0 := hb2
        have hcall := Lib.hid (rcends_any A5 L c5 l wo (by omega) g rr k hlt lo hi (Lib.hid hlk) hEnd)
        have HA := Lib.hid ha
        have Hkey : Hid (fpart l rs nodes k = (lo, hi, (List.range nodes).map fun t => frk rs nodes (a + t))) := Lib.hid (by unfold fpart franks; rw [hlo, hhi, ha])
        rw [ha]
        clear hb1 hb2 hEnd hlk ha hlo hhi hll
        have hrlen := qr.len
        have Hrlen := Lib.hid hrlen
        clear hrlen
        go_wp2_with (first
          | (go_at_call 23; refine hcall.out.mono ?_; rintro e w2 ⟨rfl, hb5⟩)
          | ((with_reducible refine on_alloc ?_); refine wl_newBox rfl _ rfl z_part ?_; intro gp w3 hg3 hl3 bp hb3)
          | ((with_reducible refine on_store_at (.tmp 18) ?_); refine wpt_store (r := Pt.zero) (s := ⟨lo, hi, none, 0, 0, []⟩) rfl _ (.tmp 18) _ rfl st_part rfl rfl bp ?_; intro w5 bp5 hg5))
        have B3 := hb5.trans (hb3.mono hb5.size)
        have hgp : wo.heap.size ≤ gp := by have := hb5.size; omega
        have B5 : Below wo.heap.size wo w5 := B3.trans (below_of_grown hg5 (fun j e => by injection e with e; omega) B3.size)
        have lgp := bp5.lt
        have bx5 := bx.step B5
        have ow5 := ow.parts.below B5
        have owp5 := ow.below B5
        have qr5 := (qr.below (B5.mono (by have := bx.lt; omega))).more (show g ≤ gp by have := bx.lt; omega)
        clear hb5 hb3 hg5 bp hcall B3 hg3 hl3
        clear w3
        clear w2
        go_wp2
        go_loopw [13, 19] (fun s13 s19 wt => FitKRel gp a nodes lo hi rs w5 s13 s19 wt) (fun _ i _ => nodes - (intOf i).toNat)
        case atStart => exact ⟨0, a, none, 0, by omega, rfl, rfl, by omega, by omega, bp5, OwS.nil_ _ _ _, Below.refl _ _⟩
        case round =>
          obtain ⟨j, T, A7, c7, hj, rfl, rfl, hT1, hT2, bp7, ow7, hb7⟩ := hrel
          have qr7 := qr5.below hb7
          by_cases hjn : j < nodes
          · obtain ⟨X, hX⟩ : ∃ X, (if rs = [] then 0 else rs.getD (T % rs.length) 0) = X := ⟨_, rfl⟩
            have hfrk : frk rs nodes (a + j) = X % nodes := by
              rw [show a + j = T by omega, ← hX]
              unfold frk
              split
              · simp
              · rfl
            have HX := Lib.hid hX
            have Hst : Hid ((List.range (j + 1)).map (fun t => frk rs nodes (a + t)) = (List.range j).map (fun t => frk rs nodes (a + t)) ++ [X % nodes]) := Lib.hid (by rw [List.range_succ, List.map_append, ← hfrk]; rfl)
            clear hX hfrk
            go_upto_if 142 with fail
            go_cut [20] (fun s20 wx => s20 = .int .i64 X ∧ wx = wr)
            case first =>
              rcases Nat.eq_zero_or_pos m with hm0 | hm0
              · have e : X = 0 := by rw [← HX.out]; exact if_pos (List.eq_nil_of_length_eq_zero (by rw [Hrlen.out]; exact hm0))
                have Hm0 := Lib.hid e
                have hm1 : ¬ 0 < m := by omega
                clear e hm0
                go_wp2
                go_meet
                case rel => exact ⟨by rw [Hm0.out], rfl⟩
              · have hne : rs ≠ [] := fun e => by subst e; have := Hrlen.out; simp at this; omega
                have h1 : 0 ≤ (T : Int) % (m : Int) := Int.emod_nonneg _ (by omega)
                have h2 : (T : Int) % (m : Int) < m := Int.emod_lt_of_pos _ (by omega)
                have h3 : ((T : Int) % (m : Int)).toNat = T % m := by rw [← Int.natCast_emod]; rfl
                have H3 := Lib.hid h3
                have hrx : rs[T % m]? = some X := by
                  have hlt : T % m < rs.length := by rw [Hrlen.out]; exact Nat.mod_lt _ hm0
                  rw [← HX.out, if_neg hne, Hrlen.out]
                  simp [List.getElem?_eq_getElem hlt]
                have Hrx := Lib.hid hrx
                clear h3 hrx hne
                go_wp2_with ((with_reducible refine on_index (.tmp 143) ?_); refine wl_at_i rfl _ (.tmp 143) _ rfl el_int rfl rfl (by omega) (by omega) qr7 ?_; intro p1 x1 hx1 hc1; have hxx := get_eq Hrx.out hx1.out H3.out.symm; subst hxx)
                go_meet
                case rel => exact ⟨rfl, rfl⟩
            case rest =>
              obtain ⟨rfl, rfl⟩ := hcut
              go_upto_region 35 with fail
              have zg := bp7.lt
              have y2 : ∀ q : KStep gp wc.drew, q.w.cell? ⟨gp, 2, none⟩ = some (.slice A7 j c7) := fun q => (bp7.drew.keep q).cell 2
              have hlim := tmod_lim X nodes (by omega)
              have e1 : IntKind.i64.wrap (X.tmod nodes + nodes) = X.tmod nodes + nodes := IntWalk.i64_in _ (by omega)
              have e2 : (X.tmod nodes + nodes).tmod nodes = X % nodes := tmod_fit X nodes (by omega)
              have zd : gp < wc.drew.heap.size := zg
              have hrow : Hid (rowOf A7 ≠ some gp) := Lib.hid (fun e => by have := ow7.ow.row_ge _ e; omega)
              refine wp_region_treeL 12 (.float 0 9 (.one 9 (.one 10 (.float 11 1 (.one 12 .done))))) (Th.KReach gp) (Th.KReach.trans _) (Th.KReach.refl _) (by kernel_rfl) (by kernel_rfl) (by kernel_rfl) (fun KT hKT => ?_)
              refine wpTreeL_float (fun KF hKF => ?_)
              simp only [List.drop, List.take]
              repeat (first | go_big_quiet_skip | go_big_quiet_step (fail) | quiet_step (fail))
              refine wpQuiet_nil ?_
              refine hKF _ ?_
              clear hKF KF
              refine wpTreeL_one (fun KO hKO => ?_)
              simp only [List.drop, List.take]
              go_wp2_with (first | ((with_reducible refine on_append (.tmp 151) (.tmp 159) ?_); refine wl_appendA rfl (.tmp 151) (.tmp 159) _ rfl el_int (f := iv) (fun _ => rfl) rfl ((ow7.below (bdrew1 wc)).alloc (.cells #[.int .i64 (X % nodes)] 3)) rfl (OwS.lit (base := wc.heap.size) (e := 3) (xs := [X % (nodes : Int)]) wc.drew #[.int .i64 (X % nodes)] 1 (Nat.le_refl _) (by simp [maxLen]) rfl rfl).rd (by omega) (by omega) (by simp; omega) ?_; intro A8 c8 w8 ow8 hg8 hb8 hA8; have kg : w8.heap[gp]? = (wc.drew.alloc (.cells #[.int .i64 (X % nodes)] 3)).heap[gp]? := keep_grown hg8 (by simp; omega) hrow.out; have bp8 := (bp7.drew.alloc (.cells #[.int .i64 (X % nodes)] 3)).grown hg8 hrow.out; have k2 : w8.cell? ⟨gp, 2, none⟩ = some (.slice A7 j c7) := bp8.cell 2; have fz2 := bp8.frozen 2; have bS := bp8.setCell 2 (.slice A8 (j + 1) c8); have ow9 := ow8.grown bS.2 (fun g' hA e => by injection e with e; subst hA; have := ow8.lt; omega); have B8 := ((bdrew _ _ : Below gp wc wc.drew).trans (below_alloc wc.drew (by omega) (.cells #[.int .i64 (X % nodes)] 3))).trans ((hb8.mono (by omega)).trans (below_of_grown (B := gp) bS.2 (fun j e => by injection e with e; omega) (by have := bp8.lt; omega)))))
              refine anch_endL (Th.KReach.of (by first | exact rfl | assumption | (simp; done) | (exact keep_alloc _ _ (by assumption)))) (hKO _ _ ?_)
              clear hKO KO
              refine wpTreeL_one (fun KO hKO => ?_)
              simp only [List.drop, List.take]
              go_wp2_with (first | ((with_reducible refine on_append (.tmp 151) (.tmp 159) ?_); refine wl_appendA rfl (.tmp 151) (.tmp 159) _ rfl el_int (f := iv) (fun _ => rfl) rfl ((ow7.below (bdrew1 wc)).alloc (.cells #[.int .i64 (X % nodes)] 3)) rfl (OwS.lit (base := wc.heap.size) (e := 3) (xs := [X % (nodes : Int)]) wc.drew #[.int .i64 (X % nodes)] 1 (Nat.le_refl _) (by simp [maxLen]) rfl rfl).rd (by omega) (by omega) (by simp; omega) ?_; intro A8 c8 w8 ow8 hg8 hb8 hA8; have kg : w8.heap[gp]? = (wc.drew.alloc (.cells #[.int .i64 (X % nodes)] 3)).heap[gp]? := keep_grown hg8 (by simp; omega) hrow.out; have bp8 := (bp7.drew.alloc (.cells #[.int .i64 (X % nodes)] 3)).grown hg8 hrow.out; have k2 : w8.cell? ⟨gp, 2, none⟩ = some (.slice A7 j c7) := bp8.cell 2; have fz2 := bp8.frozen 2; have bS := bp8.setCell 2 (.slice A8 (j + 1) c8); have ow9 := ow8.grown bS.2 (fun g' hA e => by injection e with e; subst hA; have := ow8.lt; omega); have B8 := ((bdrew _ _ : Below gp wc wc.drew).trans (below_alloc wc.drew (by omega) (.cells #[.int .i64 (X % nodes)] 3))).trans ((hb8.mono (by omega)).trans (below_of_grown (B := gp) bS.2 (fun j e => by injection e with e; omega) (by have := bp8.lt; omega)))))
              refine anch_endL (Th.KReach.of (by first | exact rfl | assumption | (simp; done) | (exact keep_alloc _ _ (by assumption)))) (hKO _ _ ?_)
              clear hKO KO
              refine wpTreeL_float (fun KF hKF => ?_)
              simp only [List.drop, List.take]
              repeat (first | go_big_quiet_skip | go_big_quiet_step (fail) | quiet_step (fail))
              refine wpQuiet_nil ?_
              refine hKF _ ?_
              clear hKF KF
              refine wpTreeL_one (fun KO hKO => ?_)
              simp only [List.drop, List.take]
              go_wp2_with (first | ((with_reducible refine on_append (.tmp 151) (.tmp 159) ?_); refine wl_appendA rfl (.tmp 151) (.tmp 159) _ rfl el_int (f := iv) (fun _ => rfl) rfl ((ow7.below (bdrew1 wc)).alloc (.cells #[.int .i64 (X % nodes)] 3)) rfl (OwS.lit (base := wc.heap.size) (e := 3) (xs := [X % (nodes : Int)]) wc.drew #[.int .i64 (X % nodes)] 1 (Nat.le_refl _) (by simp [maxLen]) rfl rfl).rd (by omega) (by omega) (by simp; omega) ?_; intro A8 c8 w8 ow8 hg8 hb8 hA8; have kg : w8.heap[gp]? = (wc.drew.alloc (.cells #[.int .i64 (X % nodes)] 3)).heap[gp]? := keep_grown hg8 (by simp; omega) hrow.out; have bp8 := (bp7.drew.alloc (.cells #[.int .i64 (X % nodes)] 3)).grown hg8 hrow.out; have k2 : w8.cell? ⟨gp, 2, none⟩ = some (.slice A7 j c7) := bp8.cell 2; have fz2 := bp8.frozen 2; have bS := bp8.setCell 2 (.slice A8 (j + 1) c8); have ow9 := ow8.grown bS.2 (fun g' hA e => by injection e with e; subst hA; have := ow8.lt; omega); have B8 := ((bdrew _ _ : Below gp wc wc.drew).trans (below_alloc wc.drew (by omega) (.cells #[.int .i64 (X % nodes)] 3))).trans ((hb8.mono (by omega)).trans (below_of_grown (B := gp) bS.2 (fun j e => by injection e with e; omega) (by have := bp8.lt; omega)))))
              refine anch_last (hKO _ _ ?_)
              clear hKO KO
              refine wpTreeL_done ?_
              refine hKT _ _ ?_
              clear hKT KT
              clear e1 e2 y2
              go_wp2
              go_roundw
              case rel => exact ⟨j + 1, T + 1, A8, c8, by omega, by go_num, by go_num, by omega, by omega, bS.1, by rw [Hst.out]; exact ow9, hb7.trans B8⟩
              case measure => simp [intOf]; omega
          · have hjn2 : j = nodes := by omega
            subst hjn2
            have bx7 := bx5.below hb7 (by have := bx.lt; omega)
            have c1 : wr.cell? ⟨g, 1, none⟩ = some (.slice A6 k c6) := bx7.cell 1
            have B7 := B5.trans (hb7.mono hgp)
            have owp7 := ow.below B7
            have hd : ∀ q' ∈ qs, rowOf q'.A ≠ rowOf A7 := by
              intro q' hq e
              obtain ⟨g7, hA7, h7⟩ := ow7.at0 (by omega)
              rw [hA7] at e
              rcases (ow.rk q' hq).1.ow.form with ⟨e2, _⟩ | ⟨g'', e2, _, hlt2⟩
              · rw [e2] at e; cases e
              · rw [e2] at e
                have : g'' = g7 := by simpa [rowOf] using e
                omega
            have Hd := Lib.hid hd
            have hqs : qs.length = k := owp7.parts.len
            have Hqs := Lib.hid hqs
            have hrow := Lib.hid (few_row owp7.parts (Nat.lt_succ_self g))
            clear hd hqs qr7 bp5 bx5 ow5 owp5 qr5 hb7 rr qr
            have zB := B7.size
            have zg := bx.lt
            go_wp2_with (first
              | ((with_reducible refine on_load (.tmp 18) ?_); refine wpt_box rfl _ (.tmp 18) rfl st_part rfl bp7 ?_)
              | ((with_reducible refine on_append (.tmp 165) (.tmp 167) ?_); refine wm_append Pt.cs_length rfl (.tmp 165) (.tmp 167) _ rfl el_part Pt.one rfl (owp7.parts.alloc (.cells #[.int .u32 lo, .int .u32 hi, .slice A7 j c7] 38)) rfl (OwM.lit (base := wr.heap.size) (e := 38) (xs := [⟨lo, hi, A7, j, c7, (List.range j).map fun t => frk rs j (a + t)⟩]) Pt.cs_length wr #[.int .u32 lo, .int .u32 hi, .slice A7 j c7] 1 (Nat.le_refl _) (by simp [maxLen]) rfl rfl).rd (by omega) (by omega) (by simp; omega) ?_; intro A8 c8 w8 ow8 hg8 hb8; have bx8 := (bx7.alloc (.cells #[.int .u32 lo, .int .u32 hi, .slice A7 j c7] 38)).grown hg8 hrow.out; have k1 : w8.cell? ⟨g, 1, none⟩ = some (.slice A6 k c6) := bx8.cell 1; have fz1 := bx8.frozen 1; have bS := bx8.setCell 1 (.slice A8 (k + 1) c8); have P8 := (owp7.below (below_alloc wr (Nat.le_refl _) (.cells #[.int .u32 lo, .int .u32 hi, .slice A7 j c7] 38))).more (p := ⟨lo, hi, A7, j, c7, (List.range j).map fun t => frk rs j (a + t)⟩) ⟨(ow7.alloc (.cells #[.int .u32 lo, .int .u32 hi, .slice A7 j c7] 38)).base_le (by omega), rfl⟩ Hd.out hg8 ow8; have P9 := P8.box bS.2 (by omega); have B8 := (below_alloc wr (show g ≤ wr.heap.size by omega) (.cells #[.int .u32 lo, .int .u32 hi, .slice A7 j c7] 38)).trans ((hb8.mono (by omega)).trans (below_of_grown (B := g) bS.2 (fun j e => by injection e with e; omega) (by have := bx8.lt; omega)))))
            go_roundw
            case rel =>
              refine ⟨k + 1, A8, c8, _, by omega, by go_num, ?_, bS.1, P9, Lib.hid ?_, hb.trans ((B7.mono (by omega)).trans B8)⟩
              · rw [show (k + 1) * j = T by rw [Nat.succ_mul, HA.out]; omega]
              · have hf : (fparts l rs j)[k]? = some (fpart l rs j k) := by simp [fparts, HL.out, hlt]
                rw [List.map_append, hkey.out, List.take_add_one, hf, Hkey.out]
                rfl
            case measure => simp [intOf]; omega
      · have hkL : k = L := by omega
        subst hkL
        have b2r := b24.below hb (by omega)
        have zg := bx.lt
        go_wp2_with (first
          | ((with_reducible refine on_load (.tmp 12) ?_); refine wcv_box rfl (.tmp 12) rfl rfl bx ?_)
          | ((with_reducible refine on_store_at (.tmp 4) ?_); refine wb_store (cs := Cv 0 none 0 0 0 none 0 0) (cs' := Cv 1 A6 k c6 0 none 0 0) rfl _ (.tmp 4) _ rfl st_cert rfl rfl b2r rfl rfl (by simp [Cv, Value.oneCell']) ?_; intro w9 b9 hg9))
        have hql : qs.length = k := ow.parts.len
        have hkey2 : qs.map pkey = fparts l rs nodes := by
          rw [hkey.out, List.take_of_length_le (by simp [fparts, HL.out])]
        have P9 : POw w9 (g + 1) A6 qs.length c6 qs nodes := by rw [hql]; exact ow.box hg9 (by omega)
        refine bodyPost_ret (v := .agg #[.int .i64 1, .slice A6 k c6, .int .u32 0, .slice none 0 0]) ?_ rfl ⟨A6, c6, qs, by rw [hql], P9.base_le (by omega), ⟨by unfold fcuts franksIn; rw [Hl.out, Hrs.out]; exact hkey2, by unfold fcuts; rw [Hl.out]; exact Hrow.out, by omega⟩, ?_⟩
        · exact results_cell_row rfl _ w9 (w.heap.size + 1) 26 _ (0, 0) _ rfl b9.at_ Try.underlying26 rfl st_cert.size
        · exact (B4.trans (hb.mono (by omega))).trans (below_of_grown hg9 (fun j e => by injection e with e; omega) (by have := b2r.lt; omega))
end Go.Proofs.Ytjambnlocjjjpaa

/-! ### CertSame -/
namespace Go.Th
open Go.RowKit
/-- Two rows of parts are the same: their ends, and their ranks. -/
def psame : List Pt → List Pt → Bool
  | [], [] => true
  | p :: ps, q :: qs => (decide (p.fr = q.fr) && decide (p.to = q.to) && decide (p.rk = q.rk)) && psame ps qs
  | [], _ :: _ => false
  | _ :: _, [] => false
def csame (v : Int) (ps : List Pt) (d : Int) (tr : List Int) (v' : Int) (qs : List Pt) (d' : Int) (tr' : List Int) : Bool :=
  decide (v = v') && decide (d = d') && decide (tr = tr') && psame ps qs
theorem psame_len : ∀ (ps qs : List Pt), psame ps qs = true → ps.length = qs.length
  | [], [], _ => rfl
  | p :: ps, q :: qs, h => by
    simp only [psame, Bool.and_eq_true] at h
    simp [psame_len ps qs h.2]
  | [], _ :: _, h => by simp [psame] at h
  | _ :: _, [], h => by simp [psame] at h
theorem take_eq_snoc {α : Type} {xs ys : List α} {k : Nat} {x y : α} (hx : xs[k]? = some x) (hy : ys[k]? = some y) (h : xs.take k = ys.take k) (hxy : x = y) : xs.take (k + 1) = ys.take (k + 1) := by
  rw [List.take_add_one, List.take_add_one, hx, hy, h, hxy]
theorem ne_at {α : Type} {xs ys : List α} {k : Nat} {x y : α} (hx : xs[k]? = some x) (hy : ys[k]? = some y) (hxy : x ≠ y) : xs ≠ ys := fun e => by
  subst e
  rw [hx] at hy
  injection hy with hy
  exact hxy hy
theorem psame_on {ps qs : List Pt} {k : Nat} {p q : Pt} (hp : ps[k]? = some p) (hq : qs[k]? = some q) (h : p.fr = q.fr ∧ p.to = q.to ∧ p.rk = q.rk) : psame (ps.drop k) (qs.drop k) = psame (ps.drop (k + 1)) (qs.drop (k + 1)) := by
  rw [drop_cons hp, drop_cons hq]
  simp [psame, h.1, h.2.1, h.2.2]
theorem psame_no {ps qs : List Pt} {k : Nat} {p q : Pt} (hp : ps[k]? = some p) (hq : qs[k]? = some q) (h : ¬ (p.fr = q.fr ∧ p.to = q.to ∧ p.rk = q.rk)) : psame (ps.drop k) (qs.drop k) = false := by
  rw [drop_cons hp, drop_cons hq]
  simp only [psame]
  by_cases h1 : p.fr = q.fr
  · by_cases h2 : p.to = q.to
    · have h3 : ¬ p.rk = q.rk := fun h3 => h ⟨h1, h2, h3⟩
      simp [h3]
    · simp [h2]
  · simp [h1]
end Go.Th
namespace Go.Proofs.Ytjambnlocjjjpaa
open Go.RowKit Go.Th
set_option linter.unusedVariables false
def RowRel (xs ys : List Int) (n : Nat) (w : World) (i : Value) (wr : World) : Prop :=
  ∃ k : Nat, k ≤ n ∧ i = .int .i64 k ∧ Hid (xs.take k = ys.take k) ∧ Below w.heap.size w wr
set_option maxRecDepth 100000 in
theorem row_any (A : Option Addr) (n c : Nat) (A2 : Option Addr) (n2 c2 : Nat) (xs ys : List Int) (w : World) (hm : n ≤ 9223372036854775807) (hm2 : n2 ≤ 9223372036854775807) (B B2 : Nat) (hr : RdS iv w B A n c xs) (hr2 : RdS iv w B2 A2 n2 c2 ys) (b : Bool) (hb : Hid (decide (xs = ys) = b)) :
    Calls Try.prog 30 #[.slice A n c, .slice A2 n2 c2] w (RetB (.bool b) w) := by
  have Hlen := Lib.hid hr.len
  have Hlen2 := Lib.hid hr2.len
  by_cases hnn : n = n2
  rotate_left
  · have n1 : ((n : Int) != (n2 : Int)) = true := by simp; omega
    have Hb : Hid (b = false) := Lib.hid (by rw [← hb.out]; exact decide_eq_false fun e => by subst e; exact hnn (Hlen.out.symm.trans Hlen2.out))
    go_enter Try.func30, Try.ntmps30
    go_wp2
    go_ret
    exact ⟨by rw [Hb.out]; try rfl, Below.refl _ _⟩
  · subst hnn
    have n1 : ((n : Int) != (n : Int)) = false := by simp
    go_enter Try.func30, Try.ntmps30
    go_wp2
    go_loopw [5] (fun i wr => RowRel xs ys n w i wr) (fun i _ => n - (intOf i).toNat)
    case atStart => exact ⟨0, by omega, rfl, Lib.hid rfl, Below.refl _ _⟩
    case round =>
      obtain ⟨k, hk, rfl, hf, hbw⟩ := hrel
      have hrk := hr.step hbw
      have hrk2 := hr2.step hbw
      have hbs := hbw.size
      by_cases hlt : k < n
      · obtain ⟨x, hx⟩ : ∃ x, xs[k]? = some x := ⟨xs[k]'(by have := Hlen.out; omega), List.getElem?_eq_getElem _⟩
        obtain ⟨y, hy⟩ : ∃ y, ys[k]? = some y := ⟨ys[k]'(by have := Hlen2.out; omega), List.getElem?_eq_getElem _⟩
        have hways : ((x != y) = true ∧ b = false) ∨ ((x != y) = false ∧ xs.take (k + 1) = ys.take (k + 1)) := by
          by_cases h : x = y
          · exact .inr ⟨by simp [h], take_eq_snoc hx hy hf.out h⟩
          · exact .inl ⟨by simp [h], by rw [← hb.out]; exact decide_eq_false (ne_at hx hy h)⟩
        have Hx := Lib.hid hx
        have Hy := Lib.hid hy
        have x1 := hrk.reach
        have x2 := hrk2.reach
        clear hx hy hf
        rcases hways with ⟨e1, e2⟩ | ⟨e1, e2⟩
        all_goals
          have He := Lib.hid e2
          clear e2
          go_upto_region 6 with fail
          refine wp_region_reach (by kernel_rfl) (by kernel_rfl) ?_
          repeat (first | go_big_quiet_skip | ((with_reducible refine onq_index (.tmp 17) ?_); refine wq_at_i rfl _ (.tmp 17) _ rfl el_int rfl rfl (by omega) (by omega) (Th.Reach.refl _ _) x1 ?_; intro p1 z1 hz1 hc1; have hxx := get_eq Hx.out hz1.out (by omega); subst hxx; have f1 : ∀ q : Step _ _, q.w.cell? p1 = some (.int .i64 x) := fun q => hc1 q.w ⟨q, rfl⟩) | ((with_reducible refine onq_index (.tmp 21) ?_); refine wq_at_i rfl _ (.tmp 21) _ rfl el_int rfl rfl (by omega) (by omega) (Th.Reach.refl _ _) x2 ?_; intro p2 z2 hz2 hc2; have hxx := get_eq Hy.out hz2.out (by omega); subst hxx; have f2 : ∀ q : Step _ _, q.w.cell? p2 = some (.int .i64 y) := fun q => hc2 q.w ⟨q, rfl⟩) | go_big_quiet_step (fail) | quiet_step (fail))
          refine wpQuiet_nil ?_
          rintro _ ⟨q, rfl⟩
          have hqw5 := q.h
          obtain ⟨w5, hw5'⟩ : ∃ W, q.w = W := ⟨_, rfl⟩
          rw [hw5'] at hqw5 ⊢
          clear hw5' q
          go_wp2
        · go_ret
          exact ⟨by rw [He.out]; try rfl, hbw.trans (hqw5.mono hbs)⟩
        · go_roundw
          case rel => first | exact ⟨k + 1, by omega, by go_num, He, hbw.trans (hqw5.mono hbs)⟩ | exact ⟨_, _, ⟨k + 1, by omega, by go_num, He, hbw.trans (hqw5.mono hbs)⟩, rfl, rfl⟩ | exact ⟨_, _, _, ⟨k + 1, by omega, by go_num, He, hbw.trans (hqw5.mono hbs)⟩, rfl, rfl, rfl⟩
          case measure => simp [intOf] <;> omega
      · have hkn : k = n := by omega
        have Hb : Hid (b = true) := Lib.hid (by
          have h := hf.out
          rw [List.take_of_length_le (by have := Hlen.out; omega), List.take_of_length_le (by have := Hlen2.out; omega)] at h
          rw [← hb.out]; exact decide_eq_true h)
        clear hf
        go_wp2
        go_ret
        exact ⟨by rw [Hb.out]; try rfl, hbw⟩
set_option maxRecDepth 100000 in
theorem equal_any (A : Option Addr) (n c : Nat) (A2 : Option Addr) (n2 c2 : Nat) (xs ys : List Int) (w : World) (hm : n ≤ 9223372036854775807) (hm2 : n2 ≤ 9223372036854775807) (B B2 : Nat) (hr : RdS iv w B A n c xs) (hr2 : RdS iv w B2 A2 n2 c2 ys) (b : Bool) (hb : Hid (decide (xs = ys) = b)) :
    Calls Try.prog 39 #[.slice A n c, .slice A2 n2 c2] w (RetB (.bool b) w) := by
  have Hlen := Lib.hid hr.len
  have Hlen2 := Lib.hid hr2.len
  by_cases hnn : n = n2
  rotate_left
  · have n1 : ((n : Int) != (n2 : Int)) = true := by simp; omega
    have Hb : Hid (b = false) := Lib.hid (by rw [← hb.out]; exact decide_eq_false fun e => by subst e; exact hnn (Hlen.out.symm.trans Hlen2.out))
    go_enter Try.func39, Try.ntmps39
    go_wp2
    go_ret
    exact ⟨by rw [Hb.out]; try rfl, Below.refl _ _⟩
  · subst hnn
    have n1 : ((n : Int) != (n : Int)) = false := by simp
    go_enter Try.func39, Try.ntmps39
    go_wp2
    go_loopw [5, 13] (fun _ i wr => RowRel xs ys n w i wr) (fun _ i _ => n - (intOf i).toNat)
    case atStart => exact ⟨0, by omega, rfl, Lib.hid rfl, Below.refl _ _⟩
    case round =>
      obtain ⟨k, hk, rfl, hf, hbw⟩ := hrel
      have hrk := hr.step hbw
      have hrk2 := hr2.step hbw
      have hbs := hbw.size
      by_cases hlt : k < n
      · obtain ⟨x, hx⟩ : ∃ x, xs[k]? = some x := ⟨xs[k]'(by have := Hlen.out; omega), List.getElem?_eq_getElem _⟩
        obtain ⟨y, hy⟩ : ∃ y, ys[k]? = some y := ⟨ys[k]'(by have := Hlen2.out; omega), List.getElem?_eq_getElem _⟩
        have hways : ((x != y) = true ∧ b = false) ∨ ((x != y) = false ∧ xs.take (k + 1) = ys.take (k + 1)) := by
          by_cases h : x = y
          · exact .inr ⟨by simp [h], take_eq_snoc hx hy hf.out h⟩
          · exact .inl ⟨by simp [h], by rw [← hb.out]; exact decide_eq_false (ne_at hx hy h)⟩
        have Hx := Lib.hid hx
        have Hy := Lib.hid hy
        have x1 := hrk.reach
        have x2 := hrk2.reach
        clear hx hy hf
        rcases hways with ⟨e1, e2⟩ | ⟨e1, e2⟩
        all_goals
          have He := Lib.hid e2
          clear e2
          go_upto_region 6 with fail
          refine wp_region_reach (by kernel_rfl) (by kernel_rfl) ?_
          repeat (first | go_big_quiet_skip | ((with_reducible refine onq_index (.tmp 16) ?_); refine wq_at_i rfl _ (.tmp 16) _ rfl el_int rfl rfl (by omega) (by omega) (Th.Reach.refl _ _) x1 ?_; intro p1 z1 hz1 hc1; have hxx := get_eq Hx.out hz1.out (by omega); subst hxx; have f1 : ∀ q : Step _ _, q.w.cell? p1 = some (.int .i64 x) := fun q => hc1 q.w ⟨q, rfl⟩) | ((with_reducible refine onq_index (.tmp 20) ?_); refine wq_at_i rfl _ (.tmp 20) _ rfl el_int rfl rfl (by omega) (by omega) (Th.Reach.refl _ _) x2 ?_; intro p2 z2 hz2 hc2; have hxx := get_eq Hy.out hz2.out (by omega); subst hxx; have f2 : ∀ q : Step _ _, q.w.cell? p2 = some (.int .i64 y) := fun q => hc2 q.w ⟨q, rfl⟩) | go_big_quiet_step (fail) | quiet_step (fail))
          refine wpQuiet_nil ?_
          rintro _ ⟨q, rfl⟩
          have hqw5 := q.h
          obtain ⟨w5, hw5'⟩ : ∃ W, q.w = W := ⟨_, rfl⟩
          rw [hw5'] at hqw5 ⊢
          clear hw5' q
          go_wp2
        · go_ret
          exact ⟨by rw [He.out]; try rfl, hbw.trans (hqw5.mono hbs)⟩
        · go_roundw
          case rel => first | exact ⟨k + 1, by omega, by go_num, He, hbw.trans (hqw5.mono hbs)⟩ | exact ⟨_, _, ⟨k + 1, by omega, by go_num, He, hbw.trans (hqw5.mono hbs)⟩, rfl, rfl⟩ | exact ⟨_, _, _, ⟨k + 1, by omega, by go_num, He, hbw.trans (hqw5.mono hbs)⟩, rfl, rfl, rfl⟩
          case measure => simp [intOf] <;> omega
      · have hkn : k = n := by omega
        have Hb : Hid (b = true) := Lib.hid (by
          have h := hf.out
          rw [List.take_of_length_le (by have := Hlen.out; omega), List.take_of_length_le (by have := Hlen2.out; omega)] at h
          rw [← hb.out]; exact decide_eq_true h)
        clear hf
        go_wp2
        go_ret
        exact ⟨by rw [Hb.out]; try rfl, hbw⟩
end Go.Proofs.Ytjambnlocjjjpaa
