/-
  theseuslaw17.CertSpoilt: the walk, where no loop is told; and both.
-/
import Derived.Test.YteellpcagdnikaaCertSpoiltL
namespace Go.Th
open Go.RowKit
set_option linter.unusedVariables false
theorem RdM.takeN {α : Type} {f : α → List Value} {k : Nat} (hf : ∀ x, (f x).length = k) {w : World} {B : Nat} {A : Option Addr} {n c : Nat} {xs : List α} (h : RdM f w B A n c xs) (m : Nat) (hm : m ≤ n) : RdM f w B A m c (xs.take m) := by
  refine ⟨?_, by rw [List.length_take, h.len]; omega, by have := h.cap; omega⟩
  have := h.rd.take (m * k)
  rwa [flat_take hf] at this
section
variable {P : Program} {ops : Array Oper} {rest : List Oper} {o : Oper} {a : Act} {Q : Exit → Act → World → Prop} {w : World}
theorem wm_cut_hz (hw : Region.wanted o (yielded ops a.tmps) = true) (T : TypeId) (s : Operand) {E bytes k : Nat} {z : Value} (el : ElM P T E z bytes k)
    {A : Option Addr} {n c : Nat} (hs : a.eval s = .slice A n c) (hi : Operand) (ho : o.op = .slice T s Option.none (some hi) Option.none) {kk : IntKind} {I : Int} (hhi : a.eval hi = .int kk I) (H : Nat) (hH : I = (H : Int) ∧ H ≤ n) (hc : n ≤ c)
    (h : wpList P ops Q rest (a.put o.dst (.slice A H c)) w) : wpList P ops Q (o :: rest) a w := by
  obtain ⟨rfl, hH⟩ := hH
  have e : (if c = 0 then A else A.map (·.add (0 * k))) = A := by
    rw [Nat.zero_mul]
    exact cutA_zero A c
  refine wl_run hw (v := .slice (if c = 0 then A else A.map (·.add (0 * k))) (H - 0) (c - 0)) (w' := w) ?_ (by rw [e]; exact h)
  have hb : (Instr.sliceBounds true n c Option.none (some (.int kk (H : Int))) Option.none).run P w = .ok (0, H, c) w := bounds_h kk (by omega)
  simp only [execOp, ho, hs, hhi, Option.map_some, Option.map_none, Sem.run_bind, Instr.sliceAt, run_underlying el.ht, Instr.slice, hb, el.size, Result.andThen, Sem.run_pure]
end
end Go.Th
namespace Go.Proofs.Yteellpcagdnikaa
open Go.RowKit Go.Th
set_option linter.unusedVariables false
/-- A part's ranks have grown: what is read then. -/
theorem POw.grew {w w8 : World} {base n c N i gp gr : Nat} {ps : List Pt} {p : Pt} (h : POw w base (some ⟨gp, 0, none⟩) n c ps N) (hok : ∀ p ∈ ps, p.Ok) (hp : ps[i]? = some p) (hA : p.A = some ⟨gr, 0, none⟩) {A8 : Option Addr} {n8 c8 : Nat} {rk : List Int} (hg : w.grownBy w8 (some gr)) (ho : OwS iv w8 base 3 A8 n8 c8 rk) :
    PRd (w8.setCell ⟨gp, i * 3 + 2, none⟩ (.slice A8 n8 c8)) (w8.setCell ⟨gp, i * 3 + 2, none⟩ (.slice A8 n8 c8)).heap.size (some ⟨gp, 0, none⟩) n c (ps.set i ⟨p.fr, p.to, A8, n8, c8, rk⟩) ∧ w8.grownBy (w8.setCell ⟨gp, i * 3 + 2, none⟩ (.slice A8 n8 c8)) (some gp) := by
  have hpm := List.mem_of_getElem? hp
  have hil := (List.getElem?_eq_some_iff.1 hp).1
  have hpi : ps[i] = p := (List.getElem?_eq_some_iff.1 hp).2
  have hpar := h.parts.grown hg (fun g' hA' e => by
    injection e with e
    subst e
    exact (h.rk p hpm).1.ow.apart h.parts.ow ty_ne.symm _ hA (by rw [hA']; rfl))
  have hS := hpar.setAt Pt.cs_length (x' := ⟨p.fr, p.to, A8, n8, c8, rk⟩) (v := .slice A8 n8 c8) hp (j := 2) (by omega) rfl
  refine ⟨⟨hS.1.rd, fun q hq => ?_, ok_set hok ⟨(hok p hpm).fr, (hok p hpm).to⟩⟩, hS.2⟩
  obtain ⟨j, hj⟩ := List.getElem?_of_mem hq
  rw [List.getElem?_set] at hj
  by_cases e : i = j
  · subst e
    rw [if_pos rfl, if_pos hil] at hj
    injection hj with hj
    subst hj
    exact (ho.grown hS.2 (ho.ow.apart hpar.ow ty_ne.symm)).rd
  · rw [if_neg e] at hj
    have hq2 := h.rk q (List.mem_of_getElem? hj)
    have hjl := (List.getElem?_eq_some_iff.1 hj).1
    have hqj : ps[j] = q := (List.getElem?_eq_some_iff.1 hj).2
    have hne : rowOf q.A ≠ rowOf p.A := by
      rcases Nat.lt_or_gt_of_ne e with hlt | hlt
      · have := List.pairwise_iff_getElem.1 h.dis i j hil hjl hlt
        rw [hpi, hqj] at this
        exact this.symm
      · have := List.pairwise_iff_getElem.1 h.dis j i hjl hil hlt
        rw [hpi, hqj] at this
        exact this
    have q8 := hq2.1.grown hg (fun g' h' e' => hne (by rw [hA, h']; injection e' with e'; rw [e']))
    exact (q8.grown hS.2 (q8.ow.apart hpar.ow ty_ne.symm)).rd
/-- The cells that a region reads. -/
def SpSet (g9 gp : Nat) (a : Addr) : Prop := a = ⟨g9, 1, none⟩ ∨ (a.block = gp ∧ a.spot = none ∧ a.off < 3)
theorem spKeep {w w8 : World} {g9 gp : Nat} {v : Value} (h1 : w8.cell? ⟨g9, 1, none⟩ = some v) (h2 : w.cell? ⟨g9, 1, none⟩ = some v) (h3 : ∀ t, t < 3 → w8.cell? ⟨gp, t, none⟩ = w.cell? ⟨gp, t, none⟩) : ∀ a : Addr, SpSet g9 gp a → w8.cell? a = w.cell? a := by
  intro a ha
  rcases ha with rfl | ⟨hb, hs, ho⟩
  · rw [h1, h2]
  · obtain ⟨b, o, s⟩ := a
    simp only at hb hs ho
    subst hb hs
    exact h3 o ho
/-- A part is there twice: what is read then. -/
theorem POw.doubled {w w8 w9 : World} {base n c c8 N gp g9 : Nat} {A8 : Option Addr} {ps : List Pt} {p0 : Pt} (h : POw w base (some ⟨gp, 0, none⟩) n c ps N) (hok : ∀ p ∈ ps, p.Ok) (hp : ps[0]? = some p0) (hg : w.grownBy w8 (some gp)) (ho : OwM Pt.cs 3 w8 base 26 A8 (n + 1) c8 (ps ++ [p0])) {cs : Array Value} (hb : Box w8 g9 29 cs) (hg9 : w8.grownBy w9 (some g9)) :
    PRd w9 w9.heap.size A8 (n + 1) c8 (ps ++ [p0]) := by
  have key : ∀ q ∈ ps, RdS iv w9 w9.heap.size q.A q.n q.c q.rk := fun q hq => by
    have h1 := (h.rk q hq).1
    have h2 := h1.grown hg (fun g hA e => h1.ow.apart h.parts.ow ty_ne.symm g hA e)
    exact (h2.grown hg9 (h2.ow.box_ne hb ty_ic)).rd
  have hpm := List.mem_of_getElem? hp
  refine ⟨(ho.grown hg9 (ho.ow.box_ne hb ty_pc)).rd, fun q hq => ?_, fun q hq => ?_⟩
  · rcases List.mem_append.1 hq with h1 | h1
    · exact key q h1
    · rw [List.mem_singleton.1 h1]; exact key p0 hpm
  · rcases List.mem_append.1 hq with h1 | h1
    · exact hok q h1
    · rw [List.mem_singleton.1 h1]; exact hok p0 hpm
set_option maxRecDepth 100000 in
set_option maxHeartbeats 8000000 in
theorem certSpoilt_free (v : Int) (hv : bits .and .i64 v 1 ≠ 0) (Ap : Option Addr) (np cp : Nat) (d : Int) (At : Option Addr) (nt ct : Nat) (ps : List Pt) (tr : List Int) {w : World} (ci : CertIn w v Ap np cp d At nt ct ps tr) (m0 k0 kb : Nat) (hm0 : m0 ≤ 255) (hk0 : k0 ≤ 255) (hkb : kb ≤ 255) :
    Calls Try.prog 8 #[.agg #[.int .i64 v, .slice Ap np cp, .int .u32 d, .slice At nt ct], .int .u8 m0, .agg #[.int .u8 k0, .int .u8 kb]] w fun e w' => e = .returned (.bool true) ∧ Below w.heap.size w w' := by
  obtain ⟨N, hN⟩ : ∃ N, min np 20 = N := ⟨_, rfl⟩
  obtain ⟨M, hM⟩ : ∃ M, min nt 20 = M := ⟨_, rfl⟩
  have HN := Lib.hid hN
  have HM := Lib.hid hM
  have hN1 : N ≤ 20 := by omega
  clear hN hM
  have bx := (Box.new w (Cv v Ap np cp d At nt ct) 29).alloc (.cells #[.int .u8 k0, .int .u8 kb] 45)
  have bk := Box.new (w.alloc (.cells (Cv v Ap np cp d At nt ct) 29)) #[.int .u8 k0, .int .u8 kb] 45
  rw [heap_size_alloc] at bk
  have k1 := (below_alloc w (Nat.le_refl _) (.cells (Cv v Ap np cp d At nt ct) 29)).alloc (by simp) (.cells #[.int .u8 k0, .int .u8 kb] 45)
  obtain ⟨K, hK, hK4⟩ : ∃ K, k0 % 8 = K ∧ K < 8 := ⟨_, rfl, Nat.mod_lt _ (by omega)⟩
  have HK : Hid ((k0 : Int) % 8 = (K : Int)) := Lib.hid (by omega)
  obtain ⟨D, hD⟩ : ∃ D, 1 + m0 % 8 = D := ⟨_, rfl⟩
  have hD1 : 1 ≤ D ∧ D ≤ 8 := by omega
  obtain ⟨hD2, hD3⟩ := hD1
  have HD : Hid (1 + (m0 : Int) % 8 = (D : Int)) := Lib.hid (by omega)
  obtain ⟨fps, hfps⟩ : ∃ fps, (ps.take 20).map Pt.few = fps := ⟨_, rfl⟩
  have hfo : ∀ p ∈ fps, p.Ok ∧ p.n ≤ 20 := by rw [← hfps]; exact few_ok ci.parts.ok
  obtain ⟨hl0, hl31⟩ := fcuts_len (fun p hp => (hfo p hp).1)
  obtain ⟨l, hl⟩ : ∃ l, fcuts fps = l := ⟨_, rfl⟩
  obtain ⟨rs, hrs⟩ : ∃ rs, franksIn fps = rs := ⟨_, rfl⟩
  rw [hl] at hl31 hl0
  obtain ⟨L, hL⟩ : ∃ L, l.length = L := ⟨_, rfl⟩
  have Hll := Lib.hid hL
  rw [hL] at hl31 hl0
  have few := Lib.hid (fun W (h : Below w.heap.size w W) => few17_any v Ap np cp d At nt ct W ci.npb ci.ntb ps tr _ (ci.parts.below h) (ci.trd.below h) (fun p hp => (ci.each p hp).1) N M HN.out HM.out)
  have hprd := Lib.hid (fun W W' A c (h : Below w.heap.size w W) (ho : OwM Pt.cs 3 W' W.heap.size 26 A N c ((ps.take 20).map Pt.few)) (hb : Below W.heap.size W W') => by
    have := (ci.parts.below h).few ho hb
    rw [hfps] at this
    exact this)
  have fit := Lib.hid (fun (W : World) A c (hp : PRd W W.heap.size A N c fps) => fitfree_is v hv A N c d At M ct D (by omega) W (by omega) fps _ hp (fun p hp => by have := (hfo p hp).2; omega) l rs L hl hrs hL)
  have Hci := Lib.hid ci
  clear hK hfps hl hrs ci hfo hL hD
  go_enter Try.func8, Try.ntmps8
  go_wp2_with fail
  refine (shown17 _).mono ?_
  rintro e w1 ⟨rfl, hb1⟩
  have bx1 := bx.step hb1
  have bk1 := bk.step hb1
  have B1 := k1.trans (hb1.mono k1.size)
  go_upto_region 3 with fail
  rw [HD.out]
  go_upto_region 4 with (first
    | ((with_reducible refine on_load (.tmp 3) ?_); refine wcv_box rfl (.tmp 3) rfl rfl bx1 ?_)
    | (go_at_call 14; refine (few.out _ B1).mono ?_; rintro e w2 ⟨A2, c2, rfl, ow2, hb2⟩; have hp2 := hprd.out _ _ _ _ B1 ow2 hb2)
    | (go_at_call 13; refine (fit.out _ A2 c2 hp2).mono ?_; rintro e w3 ⟨A3, c3, ps3, rfl, ow3, F3, hb3⟩)
    | ((with_reducible refine on_alloc ?_); refine wl_newBox rfl _ rfl z_cert ?_; intro g8 w4 hg4 hl4 bg4 hb4)
    | ((with_reducible refine on_store_at (.tmp 9) ?_); refine wb_store (cs := Cv 0 none 0 0 0 none 0 0) (cs' := Cv 1 A3 L c3 0 none 0 0) rfl _ (.tmp 9) _ rfl st_cert rfl rfl bg4 rfl rfl (by simp [Cv, Value.oneCell']) ?_; intro w5 bx5 hg5))
  have C8 : CBox w5 g8 1 A3 L c3 0 none 0 0 ps3 [] := XF.c ⟨bx5, (ow3.below hb4).cert bg4 hg5⟩ F3.ok (by omega) (by omega)
  have HF3 := Lib.hid F3
  have B25 := hb2.trans ((hb3.trans ((hb4.trans (below_of_grown (B := w3.heap.size) hg5 (fun j e => by injection e with e; omega) hb4.size)).mono hb3.size)).mono hb2.size)
  have B5 := B1.trans (B25.mono B1.size)
  have bx25 := bx1.step B25
  have bk25 := bk1.step B25
  clear hb2 hb3 hb4 hg5 bg4 bx5 ow3 ow2 bx1 B1 hb1 k1 bx B25 hg4 hl4 bk bk1 hp2 F3
  clear w4
  clear w3
  clear w2
  clear w1
  rename World => w1
  go_upto_region 5 with (first
    | ((with_reducible refine on_load (.tmp 3) ?_); refine wcv_box rfl (.tmp 3) rfl rfl bx25 ?_)
    | (go_at_call 14; refine (few.out _ B5).mono ?_; rintro e w2 ⟨A5, c5, rfl, ow2, hb2⟩; have hp5 := hprd.out _ _ _ _ B5 ow2 hb2)
    | (go_at_call 13; refine (fit.out _ A5 c5 hp5).mono ?_; rintro e w3 ⟨A6, c6, ps6, rfl, ow3, F6, hb3⟩)
    | ((with_reducible refine on_alloc ?_); refine wl_newBox rfl _ rfl z_cert ?_; intro g9 w4 hg4 hl4 bg4 hb4)
    | ((with_reducible refine on_store_at (.tmp 10) ?_); refine wb_store (cs := Cv 0 none 0 0 0 none 0 0) (cs' := Cv 1 A6 L c6 0 none 0 0) rfl _ (.tmp 10) _ rfl st_cert rfl rfl bg4 rfl rfl (by simp [Cv, Value.oneCell']) ?_; intro w5 bx5 hg5))
  have B15 := hb2.trans ((hb3.trans ((hb4.trans (below_of_grown (B := w3.heap.size) hg5 (fun j e => by injection e with e; omega) hb4.size)).mono hb3.size)).mono hb2.size)
  have X9 : XF w5 w1.heap.size g9 1 A6 L c6 0 ps6 D := ⟨bx5, ((ow3.below hb4).cert bg4 hg5).base_le hb2.size⟩
  have HF6 := Lib.hid F6
  have hks : ps3.map pkey = ps6.map pkey := by rw [HF3.out.key, F6.key]
  have Hks := Lib.hid hks
  have hm8 := Lib.hid (HF3.out.may (by rw [Hll.out]; exact hl31))
  have hm6 := Lib.hid (F6.may (by rw [Hll.out]; exact hl31))
  have hgB : w1.heap.size ≤ g9 := Nat.le_trans hb2.size (Nat.le_trans hb3.size hg4)
  have bk5 := bk25.step B15
  clear hb2 hb3 hb4 hg5 bg4 bx5 ow3 ow2 hg4 hl4 bk25 bx25 hp5 F6 hks
  clear w4
  clear w3
  clear w2
  rename World => w5
  have C5 := C8.step B15
  have X5 := X9.c HF6.out.ok (by omega) (by omega)
  go_wp2_with ((with_reducible refine on_load (.tmp 9) ?_); refine wl_cbox rfl (.tmp 9) rfl rfl C5 ?_)
  refine (may_box C5 D 0 hm8.out).mono ?_
  rintro e wd ⟨rfl, hbd⟩
  have C6 := C5.step hbd
  have X6 := X5.step hbd
  go_wp2_with (first | ((with_reducible refine on_load (.tmp 9) ?_); refine wl_cbox rfl (.tmp 9) rfl rfl C6 ?_) | ((with_reducible refine on_load (.tmp 10) ?_); refine wl_cbox rfl (.tmp 10) rfl rfl X6 ?_))
  refine (same_box C6 X6 true (csame_yes rfl rfl rfl Hks.out)).mono ?_
  rintro e we ⟨rfl, hbe⟩
  have B56 := hbd.trans (hbe.mono hbd.size)
  have B16 := B15.trans (B56.mono B15.size)
  have X7 : XF we w1.heap.size g9 1 A6 L c6 0 ps6 D := ⟨X9.box.step B56, X9.P.below B56⟩
  have bk7 := bk5.step B56
  have y8 : we.cell? ⟨g8, 0, none⟩ = some (.int .i64 1) := (C8.step B16).box.cell 0
  have yk0 : we.cell? ⟨w.heap.size + 1, 0, none⟩ = some (.int .u8 k0) := bk7.cell 0
  have yk1 : we.cell? ⟨w.heap.size + 1, 1, none⟩ = some (.int .u8 kb) := bk7.cell 1
  clear C5 X5 C6 X6 hbd hbe X9 bk5 B15 B56
  clear wd
  clear w5
  rename World => w6
  go_upto_block 0 with fail
  rw [HK.out]
  go_cut [11] (fun s11 wx => SpRel w1.heap.size g9 1 0 ps3 [] D w6 s11 wx)
  case first =>
    have zB := B16.size
    have d0 : w6.cell? ⟨g9, 0, none⟩ = some (.int .i64 1) := X7.box.cell 0
    have d1 : w6.cell? ⟨g9, 1, none⟩ = some (.slice A6 L c6) := X7.box.cell 1
    have d2 : w6.cell? ⟨g9, 2, none⟩ = some (.int .u32 0) := X7.box.cell 2
    have d3 : w6.cell? ⟨g9, 3, none⟩ = some (.slice none 0 0) := X7.box.cell 3
    have f0 := X7.box.frozen 0
    have f1 := X7.box.frozen 1
    have f2 := X7.box.frozen 2
    have f3 := X7.box.frozen 3
    have zg := X7.box.lt
    have hL1000 : L ≤ 1000000 := by omega
    have hLl : l.length ≤ 31 := by rw [Hll.out]; exact hl31
    have HLl := Lib.hid hLl
    have hq1 : (kb : Int) % (L : Int) = ((kb % L : Nat) : Int) := by rw [← Int.natCast_emod]
    have hq2 : (kb : Int).tmod (L : Int) = ((kb % L : Nat) : Int) := by rw [Int.tmod_eq_emod_of_nonneg (by omega), hq1]
    have hq3 : kb % L < L := Nat.mod_lt _ hl0
    obtain ⟨i, hi⟩ : ∃ i, kb % L = i := ⟨_, rfl⟩
    rw [hi] at hq1 hq2 hq3
    have H1 := Lib.hid hq1
    have H2 := Lib.hid hq2
    have hpl : ps6.length = L := X7.P.parts.len
    obtain ⟨p, hpi⟩ : ∃ p, ps6[i]? = some p := ⟨ps6[i]'(by omega), List.getElem?_eq_getElem _⟩
    obtain ⟨p0, hp0⟩ : ∃ p, ps6[0]? = some p := ⟨ps6[0]'(by omega), List.getElem?_eq_getElem _⟩
    have Hpi := Lib.hid hpi
    have Hp0 := Lib.hid hp0
    have Hpl := Lib.hid hpl
    have hpm := List.mem_of_getElem? hpi
    obtain ⟨gp, hgp, hgp2, hgp3⟩ := X7.P.parts.at0 hl0
    have hrk := X7.P.rk p hpm
    obtain ⟨hrk1, hrk2⟩ := hrk
    obtain ⟨gr, hgr, hgr2⟩ := hrk1.at0 (by omega)
    have hgr3 : gr < w6.heap.size := by rw [hgr] at hrk1; exact hrk1.lt.2
    have hpo := HF6.out.ok p hpm
    obtain ⟨⟨po1, po2⟩, po3, po4⟩ := hpo
    clear hi hq1 hq2 hpl hLl
    subst hgp
    have e0 := (X7.P.parts.cellAt Pt.cs_length hp0 (j := 0) (v := .int .u32 p0.fr) rfl).1
    have e1 := (X7.P.parts.cellAt Pt.cs_length hpi (j := 1) (v := .int .u32 p.to) rfl).1
    have e2 := (X7.P.parts.cellAt Pt.cs_length hpi (j := 2) (v := .slice p.A p.n p.c) rfl).1
    rw [hgr, hrk2] at e2
    rw [hgr, hrk2] at hrk1
    have Hgr := Lib.hid hgr
    have Hrk2 := Lib.hid hrk2
    have hgpr := Lib.hid (fun e : gp = gr => hrk1.ow.apart X7.P.parts.ow ty_ne.symm gr rfl (by rw [e]; rfl))
    have hgg := Lib.hid (part_box X7.P.parts.ow X7.box)
    have hgr9 := Lib.hid (own_cert_row hrk1.ow X7.box)
    clear hpi hp0 hgr hrk2 hpm
    have hways : K = 0 ∨ K = 1 ∨ K = 2 ∨ K = 3 ∨ K = 4 ∨ K = 5 ∨ K = 6 ∨ K = 7 := by omega
    rcases hways with rfl | rfl | rfl | rfl | rfl | rfl | rfl | rfl
    · -- another verdict
      have bS := X7.box.setCell 0 (.int .i64 (3 + (kb : Int)))
      go_wp2
      go_meet
      case rel => exact ⟨9, false, 3 + (kb : Int), _, L, c6, 0, none, 0, 0, ps6, [], rfl, XF.c ⟨bS.1, X7.P.cert X7.box bS.2⟩ HF6.out.ok hL1000 (by omega), Lib.hid (spoil_act _ (by omega) _ _ _ _), Lib.hid (csame_no (.inl (by omega))), rfl, below_of_grown bS.2 (fun j e => by injection e with e; omega) zB⟩
    · -- a trace
      have k3 : (w6.alloc (.cells #[.int .i64 0] 3)).cell? ⟨g9, 3, none⟩ = some (.slice none 0 0) := (X7.box.alloc (.cells #[.int .i64 0] 3)).cell 3
      have fz3 : (w6.alloc (.cells #[.int .i64 0] 3)).frozen? ⟨g9, 3, none⟩ = false := (X7.box.alloc (.cells #[.int .i64 0] 3)).frozen 3
      have bS := X7.box.setCell 3 (.slice (some ⟨w6.heap.size, 0, none⟩) 1 1)
      have hsz : w6.heap.size = (w6.setCell ⟨g9, 3, none⟩ (.slice (some ⟨w6.heap.size, 0, none⟩) 1 1)).heap.size := by simp
      have trn := OwS.lit' (f := iv) (base := w1.heap.size) (e := 3) (xs := [(0 : Int)]) (w6.setCell ⟨g9, 3, none⟩ (.slice (some ⟨w6.heap.size, 0, none⟩) 1 1)) #[.int .i64 0] 1 w6.heap.size hsz (by rw [← hsz]; exact zB) (by simp [maxLen]) rfl rfl
      have hB : Below w1.heap.size w6 ((w6.setCell ⟨g9, 3, none⟩ (.slice (some ⟨w6.heap.size, 0, none⟩) 1 1)).alloc (.cells #[.int .i64 0] 3)) := (below_of_grown bS.2 (fun j e => by injection e with e; omega) zB).trans (below_alloc _ (by rw [← hsz]; exact zB) _)
      have P8 := (X7.P.cert X7.box bS.2).below (below_alloc _ (Nat.le_refl _) (.cells #[.int .i64 0] 3))
      have bB := bS.1.alloc (.cells #[.int .i64 0] 3)
      clear hsz bS
      go_wp2
      go_meet
      case rel => exact ⟨3, false, 1, _, L, c6, 0, _, 1, 1, ps6, [0], rfl, ⟨bB, P8.rd HF6.out.ok, trn.rd, hL1000, by omega, (fun q hq => by rw [(P8.rk q hq).2]; omega), by simp⟩, Lib.hid (spoil_form _ _ _ _ (.inr (by simp))), Lib.hid (csame_no (.inr (.inr (.inl (by simp))))), rfl, hB⟩
    · -- a rank more
      have q1 : ∀ q : KSStep (fun a => a = ⟨g9, 1, none⟩ ∨ a = ⟨gp, i * 3 + 2, none⟩) w6.drew, q.w.cell? ⟨g9, 1, none⟩ = some (.slice (some ⟨gp, 0, none⟩) L c6) := fun q => (q.h _ (.inl rfl)).trans d1
      have q2 : ∀ q : KSStep (fun a => a = ⟨g9, 1, none⟩ ∨ a = ⟨gp, i * 3 + 2, none⟩) w6.drew, q.w.cell? ⟨gp, i * 3 + 2, none⟩ = some (.slice (some ⟨gr, 0, none⟩) D p.c) := fun q => (q.h _ (.inr rfl)).trans e2
      have hS : ∀ a : Addr, (a = ⟨g9, 1, none⟩ ∨ a = ⟨gp, i * 3 + 2, none⟩) → a.block < w6.drew.heap.size := fun a ha => by rcases ha with rfl | rfl; exact zg; exact hgp3
      go_upto_region 24 with fail
      first | rw [H1.out] | rw [H2.out]
      refine wp_region_treeL 13 (.float 0 9 (.one 9 (.one 10 (.float 11 2 (.one 13 .done))))) (Th.KSReach (fun a => a = ⟨g9, 1, none⟩ ∨ a = ⟨gp, i * 3 + 2, none⟩)) (Th.KSReach.trans _) (Th.KSReach.refl _) (by kernel_rfl) (by kernel_rfl) (by kernel_rfl) (fun KT hKT => ?_)
      refine wpTreeL_float (fun KF hKF => ?_)
      simp only [List.drop, List.take]
      repeat (first | go_big_quiet_skip | ((with_reducible refine onq_index (.tmp 80) ?_); refine wqm_place rfl _ (.tmp 80) _ rfl el_part rfl rfl i ⟨rfl, hq3⟩ ?_) | ((with_reducible refine onq_index (.tmp 77) ?_); refine wqm_place rfl _ (.tmp 77) _ rfl el_part rfl rfl i ⟨rfl, hq3⟩ ?_) | go_big_quiet_step (fail) | quiet_step (fail))
      refine wpQuiet_nil ?_
      refine hKF _ ?_
      clear hKF KF
      refine wpTreeL_one (fun KO hKO => ?_)
      simp only [List.drop, List.take]
      go_wp2_with (first | ((with_reducible refine on_append (.tmp 84) (.tmp 85) ?_); refine wl_appendA rfl (.tmp 84) (.tmp 85) _ rfl el_int (f := iv) (fun _ => rfl) rfl ((hrk1.below (bdrew1 w6)).alloc (.cells #[.int .i64 0] 3)) rfl (OwS.lit (base := w6.heap.size) (e := 3) (xs := [(0 : Int)]) w6.drew #[.int .i64 0] 1 (Nat.le_refl _) (by simp [maxLen]) rfl rfl).rd (by omega) (by omega) (by simp; omega) ?_; intro A8 c8 w8 ow8 hg8 hb8 hA8; have G8 := ((X7.P.below (bdrew1 w6)).below (below_alloc w6.drew (Nat.le_refl _) (.cells #[.int .i64 0] 3))).grew HF6.out.ok Hpi.out Hgr.out hg8 ow8; have bx8 := (X7.box.drew.alloc (.cells #[.int .i64 0] 3)).grown hg8 (fun e => by injection e with e; exact hgr9.out (by rw [← e]; rfl)); have par8 := (((X7.P.parts.below (bdrew1 w6)).alloc (.cells #[.int .i64 0] 3)).grown hg8 (fun g' hA e => by injection hA with hA; injection hA with hA; have e' : gr = g' := (by injection e); exact hgpr.out (by omega))); have k2 : w8.cell? ⟨gp, i * 3 + 2, none⟩ = some (.slice (some ⟨gr, 0, none⟩) D p.c) := (by have h := (par8.cellAt Pt.cs_length Hpi.out (j := 2) rfl).1; rw [Hgr.out, Hrk2.out] at h; exact h); have fz2 : w8.frozen? ⟨gp, i * 3 + 2, none⟩ = false := (par8.cellAt Pt.cs_length Hpi.out (j := 2) (v := .slice p.A p.n p.c) rfl).2; have ks : ∀ a : Addr, (a = ⟨g9, 1, none⟩ ∨ a = ⟨gp, i * 3 + 2, none⟩) → w8.cell? a = (w6.drew.alloc (.cells #[.int .i64 0] 3)).cell? a := (fun a ha => by rcases ha with rfl | rfl; exact (bx8.cell 1).trans ((X7.box.drew.alloc (.cells #[.int .i64 0] 3)).cell 1).symm; exact k2.trans ((World.cell?_alloc_lt w6.drew _ ⟨gp, i * 3 + 2, none⟩ hgp3).trans e2).symm); have bS := bx8.grown G8.2 hgg.out; have B8 := ((bdrew1' w6 : Below w1.heap.size w6 w6.drew).trans (below_alloc w6.drew zB (.cells #[.int .i64 0] 3))).trans (hb8.trans (below_of_grown (B := w1.heap.size) G8.2 (fun j e => by injection e with e; omega) (by have := bx8.lt; omega)))))
      refine anch_endL (Th.KSReach.of (by first | exact fun _ _ => rfl | assumption | (exact ks_alloc _ _ (by assumption)))) (hKO _ _ ?_)
      clear hKO KO
      refine wpTreeL_one (fun KO hKO => ?_)
      simp only [List.drop, List.take]
      go_wp2_with (first | ((with_reducible refine on_append (.tmp 84) (.tmp 85) ?_); refine wl_appendA rfl (.tmp 84) (.tmp 85) _ rfl el_int (f := iv) (fun _ => rfl) rfl ((hrk1.below (bdrew1 w6)).alloc (.cells #[.int .i64 0] 3)) rfl (OwS.lit (base := w6.heap.size) (e := 3) (xs := [(0 : Int)]) w6.drew #[.int .i64 0] 1 (Nat.le_refl _) (by simp [maxLen]) rfl rfl).rd (by omega) (by omega) (by simp; omega) ?_; intro A8 c8 w8 ow8 hg8 hb8 hA8; have G8 := ((X7.P.below (bdrew1 w6)).below (below_alloc w6.drew (Nat.le_refl _) (.cells #[.int .i64 0] 3))).grew HF6.out.ok Hpi.out Hgr.out hg8 ow8; have bx8 := (X7.box.drew.alloc (.cells #[.int .i64 0] 3)).grown hg8 (fun e => by injection e with e; exact hgr9.out (by rw [← e]; rfl)); have par8 := (((X7.P.parts.below (bdrew1 w6)).alloc (.cells #[.int .i64 0] 3)).grown hg8 (fun g' hA e => by injection hA with hA; injection hA with hA; have e' : gr = g' := (by injection e); exact hgpr.out (by omega))); have k2 : w8.cell? ⟨gp, i * 3 + 2, none⟩ = some (.slice (some ⟨gr, 0, none⟩) D p.c) := (by have h := (par8.cellAt Pt.cs_length Hpi.out (j := 2) rfl).1; rw [Hgr.out, Hrk2.out] at h; exact h); have fz2 : w8.frozen? ⟨gp, i * 3 + 2, none⟩ = false := (par8.cellAt Pt.cs_length Hpi.out (j := 2) (v := .slice p.A p.n p.c) rfl).2; have ks : ∀ a : Addr, (a = ⟨g9, 1, none⟩ ∨ a = ⟨gp, i * 3 + 2, none⟩) → w8.cell? a = (w6.drew.alloc (.cells #[.int .i64 0] 3)).cell? a := (fun a ha => by rcases ha with rfl | rfl; exact (bx8.cell 1).trans ((X7.box.drew.alloc (.cells #[.int .i64 0] 3)).cell 1).symm; exact k2.trans ((World.cell?_alloc_lt w6.drew _ ⟨gp, i * 3 + 2, none⟩ hgp3).trans e2).symm); have bS := bx8.grown G8.2 hgg.out; have B8 := ((bdrew1' w6 : Below w1.heap.size w6 w6.drew).trans (below_alloc w6.drew zB (.cells #[.int .i64 0] 3))).trans (hb8.trans (below_of_grown (B := w1.heap.size) G8.2 (fun j e => by injection e with e; omega) (by have := bx8.lt; omega)))))
      refine anch_endL (Th.KSReach.of (by first | exact fun _ _ => rfl | assumption | (exact ks_alloc _ _ (by assumption)))) (hKO _ _ ?_)
      clear hKO KO
      refine wpTreeL_float (fun KF hKF => ?_)
      simp only [List.drop, List.take]
      repeat (first | go_big_quiet_skip | ((with_reducible refine onq_index (.tmp 80) ?_); refine wqm_place rfl _ (.tmp 80) _ rfl el_part rfl rfl i ⟨rfl, hq3⟩ ?_) | ((with_reducible refine onq_index (.tmp 77) ?_); refine wqm_place rfl _ (.tmp 77) _ rfl el_part rfl rfl i ⟨rfl, hq3⟩ ?_) | go_big_quiet_step (fail) | quiet_step (fail))
      refine wpQuiet_nil ?_
      refine hKF _ ?_
      clear hKF KF
      refine wpTreeL_one (fun KO hKO => ?_)
      simp only [List.drop, List.take]
      go_wp2_with (first | ((with_reducible refine on_append (.tmp 84) (.tmp 85) ?_); refine wl_appendA rfl (.tmp 84) (.tmp 85) _ rfl el_int (f := iv) (fun _ => rfl) rfl ((hrk1.below (bdrew1 w6)).alloc (.cells #[.int .i64 0] 3)) rfl (OwS.lit (base := w6.heap.size) (e := 3) (xs := [(0 : Int)]) w6.drew #[.int .i64 0] 1 (Nat.le_refl _) (by simp [maxLen]) rfl rfl).rd (by omega) (by omega) (by simp; omega) ?_; intro A8 c8 w8 ow8 hg8 hb8 hA8; have G8 := ((X7.P.below (bdrew1 w6)).below (below_alloc w6.drew (Nat.le_refl _) (.cells #[.int .i64 0] 3))).grew HF6.out.ok Hpi.out Hgr.out hg8 ow8; have bx8 := (X7.box.drew.alloc (.cells #[.int .i64 0] 3)).grown hg8 (fun e => by injection e with e; exact hgr9.out (by rw [← e]; rfl)); have par8 := (((X7.P.parts.below (bdrew1 w6)).alloc (.cells #[.int .i64 0] 3)).grown hg8 (fun g' hA e => by injection hA with hA; injection hA with hA; have e' : gr = g' := (by injection e); exact hgpr.out (by omega))); have k2 : w8.cell? ⟨gp, i * 3 + 2, none⟩ = some (.slice (some ⟨gr, 0, none⟩) D p.c) := (by have h := (par8.cellAt Pt.cs_length Hpi.out (j := 2) rfl).1; rw [Hgr.out, Hrk2.out] at h; exact h); have fz2 : w8.frozen? ⟨gp, i * 3 + 2, none⟩ = false := (par8.cellAt Pt.cs_length Hpi.out (j := 2) (v := .slice p.A p.n p.c) rfl).2; have ks : ∀ a : Addr, (a = ⟨g9, 1, none⟩ ∨ a = ⟨gp, i * 3 + 2, none⟩) → w8.cell? a = (w6.drew.alloc (.cells #[.int .i64 0] 3)).cell? a := (fun a ha => by rcases ha with rfl | rfl; exact (bx8.cell 1).trans ((X7.box.drew.alloc (.cells #[.int .i64 0] 3)).cell 1).symm; exact k2.trans ((World.cell?_alloc_lt w6.drew _ ⟨gp, i * 3 + 2, none⟩ hgp3).trans e2).symm); have bS := bx8.grown G8.2 hgg.out; have B8 := ((bdrew1' w6 : Below w1.heap.size w6 w6.drew).trans (below_alloc w6.drew zB (.cells #[.int .i64 0] 3))).trans (hb8.trans (below_of_grown (B := w1.heap.size) G8.2 (fun j e => by injection e with e; omega) (by have := bx8.lt; omega)))))
      refine anch_last (hKO _ _ ?_)
      clear hKO KO
      refine wpTreeL_done ?_
      refine hKT _ _ ?_
      clear hKT KT
      clear q1 q2 hS
      go_wp2
      go_meet
      case rel => exact ⟨1, false, 1, _, L, c6, 0, none, 0, 0, _, [], rfl, ⟨bS, G8.1, RdS.nil _ _, hL1000, by omega, (fun q hq => by
        rcases List.mem_or_eq_of_mem_set hq with h | rfl
        · rw [(X7.P.rk q h).2]; omega
        · show D + 1 ≤ 1000000; omega), by simp⟩, Lib.hid (spoil_size HF6.out HLl.out Hpi.out _ _ _), Lib.hid (csame_no (.inr (.inr (.inr (key_set Hks.out Hpi.out (fun e => by have e3 : p.rk ++ [0] = p.rk := congrArg (fun x => x.2.2) e; simp at e3)))))), rfl, B8⟩
    · -- a rank that there is not
      go_upto_region 31 with fail
      first | rw [H1.out] | rw [H2.out]
      go_wp2_with (first
        | ((with_reducible refine on_index (.tmp 101) ?_); refine wm_place rfl _ (.tmp 101) _ rfl el_part rfl rfl i ⟨rfl, hq3⟩ ?_)
        | ((with_reducible refine on_index (.tmp 105) ?_); refine wl_placeS rfl _ (.tmp 105) _ rfl el_int rfl rfl 0 (by omega) ?_)
        | ((with_reducible refine on_store_at (.tmp 107) ?_); refine wl_setS rfl _ (.tmp 107) _ rfl size_int (f := iv) (g := gr) (j := 0) rfl rfl (D : Int) rfl hrk1 (by omega) ?_; intro w8 ow8 hg8 hb8))
      go_meet
      case rel =>
        have hpi := Hpi.out
        have P8 := X7.P.setRank hpi Hgr.out (p.rk.set 0 (D : Int)) (by rw [Hgr.out, Hrk2.out]; exact ow8) hg8
        have hpm := List.mem_of_getElem? hpi
        refine ⟨16, false, 1, _, L, c6, 0, none, 0, 0, _, [], rfl, XF.c ⟨X7.box.grown hg8 (fun e => by injection e with e; exact hgr9.out (by rw [e]; rfl)), P8⟩ (ok_set HF6.out.ok ⟨(HF6.out.ok p hpm).fr, (HF6.out.ok p hpm).to⟩) hL1000 (by omega), Lib.hid (spoil_rank0 HF6.out HLl.out hpi _ _ _), Lib.hid (csame_no (.inr (.inr (.inr (key_set Hks.out hpi ?_))))), rfl, hb8⟩
        intro e
        have e3 : p.rk.set 0 (D : Int) = p.rk := congrArg (fun x => x.2.2) e
        have e4 : (p.rk.set 0 (D : Int))[0]? = some (D : Int) := List.getElem?_set_self (by rw [HF6.out.rkLen p hpm]; omega)
        rw [e3] at e4
        have := HF6.out.rkIn p hpm D (List.mem_of_getElem? e4)
        omega
    · -- a part less
      have bS := X7.box.setCell 1 (.slice (some ⟨gp, 0, none⟩) (L - 1) c6)
      have P8 := X7.P.cert X7.box bS.2
      have hcap := X7.P.parts.cap
      have hm1 : ((L - 1 : Nat) : Int) = (L : Int) - 1 := by omega
      have Hm1 := Lib.hid hm1
      clear hm1
      go_wp2_with ((with_reducible refine on_slice (.tmp 116) ?_); refine wm_cut_hz rfl _ (.tmp 116) el_part rfl _ rfl rfl (L - 1) ⟨by first | exact Hm1.out.symm | rfl, by omega⟩ hcap ?_)
      go_meet
      case rel =>
        have R8 := P8.rd HF6.out.ok
        refine ⟨15, false, 1, _, L - 1, c6, 0, none, 0, 0, ps6.take (L - 1), [], rfl, ⟨bS.1, ⟨R8.rd.takeN Pt.cs_length (L - 1) (by omega), fun q hq => R8.rk q (List.mem_of_mem_take hq), fun q hq => R8.ok q (List.mem_of_mem_take hq)⟩, RdS.nil _ _, by omega, by omega, (fun q hq => by rw [(P8.rk q (List.mem_of_mem_take hq)).2]; omega), by simp⟩, Lib.hid (spoil_less HF6.out HLl.out L Hll.out), Lib.hid (csame_no (.inr (.inr (.inr ?_)))), rfl, below_of_grown bS.2 (fun j e => by injection e with e; omega) zB⟩
        intro e
        have e3 := congrArg List.length e
        have e4 := congrArg List.length Hks.out
        simp at e3 e4
        have := Hpl.out
        omega
    · -- an end
      have fz1 : w6.drew.frozen? ⟨gp, i * 3 + 1, none⟩ = false := (X7.P.parts.cellAt Pt.cs_length Hpi.out (j := 1) (v := .int .u32 p.to) rfl).2
      have e1d : w6.drew.cell? ⟨gp, i * 3 + 1, none⟩ = some (.int .u32 p.to) := e1
      have q1 : ∀ q : Step w6.heap.size w6.drew, q.w.cell? ⟨g9, 1, none⟩ = some (.slice (some ⟨gp, 0, none⟩) L c6) := fun q => (X7.box.drew.step q.h).cell 1
      have q2 : ∀ q : Step w6.heap.size w6.drew, q.w.cell? ⟨gp, i * 3 + 1, none⟩ = some (.int .u32 p.to) := fun q => (q.h.cell (p := ⟨gp, i * 3 + 1, none⟩) hgp3).trans e1
      have hsum : IntKind.u32.wrap (p.to - 1) = (p.to - 1) % 4294967296 := by rw [IntKind.wrap_u32]
      go_upto_region 45 with fail
      first | rw [H1.out] | rw [H2.out]
      refine wp_region_treeL 12 (.float 0 12 (.one 12 .done)) (Th.Reach (w6.heap.size)) (Th.Reach.trans _) (Th.Reach.refl _) (by kernel_rfl) (by kernel_rfl) (by kernel_rfl) (fun KT hKT => ?_)
      refine wpTreeL_float (fun KF hKF => ?_)
      simp only [List.drop, List.take]
      repeat (first | go_big_quiet_skip | ((with_reducible refine onq_index (.tmp 151) ?_); refine wqm_place rfl _ (.tmp 151) _ rfl el_part rfl rfl i ⟨rfl, hq3⟩ ?_) | ((with_reducible refine onq_index (.tmp 148) ?_); refine wqm_place rfl _ (.tmp 148) _ rfl el_part rfl rfl i ⟨rfl, hq3⟩ ?_) | go_big_quiet_step (fail) | quiet_step (fail))
      refine wpQuiet_nil ?_
      refine hKF _ ?_
      clear hKF KF
      refine wpTreeL_one (fun KO hKO => ?_)
      simp only [List.drop, List.take]
      go_wp2_with (first | fail)
      refine anch_last (hKO _ _ ?_)
      clear hKO KO
      refine wpTreeL_done ?_
      refine hKT _ _ ?_
      clear hKT KT
      go_wp2
      go_meet
      case rel =>
        have hpi := Hpi.out
        have P8 := X7.P.setTo hpi ((p.to - 1) % 4294967296)
        have bx8 := (X7.box.grown P8.2 hgg.out).drew
        have hpm := List.mem_of_getElem? hpi
        refine ⟨15, false, 1, _, L, c6, 0, none, 0, 0, _, [], rfl, XF.c ⟨bx8, P8.1.below (bdrew1' _)⟩ (ok_set HF6.out.ok ⟨(HF6.out.ok p hpm).fr, by show 0 ≤ (p.to - 1) % 4294967296; omega, by show (p.to - 1) % 4294967296 ≤ 4294967295; omega⟩) hL1000 (by omega), Lib.hid (spoil_end HF6.out HLl.out hpi), Lib.hid (csame_no (.inr (.inr (.inr (key_set Hks.out hpi ?_))))), rfl, (below_of_grown P8.2 (fun j e => by injection e with e; omega) zB).trans (bdrew1' _)⟩
        intro e
        have e3 : (p.to - 1) % 4294967296 = p.to := congrArg (fun x => x.2.1) e
        omega
    · -- a part more
      have q1 : ∀ q : KSStep (SpSet g9 gp) w6.drew, q.w.cell? ⟨g9, 1, none⟩ = some (.slice (some ⟨gp, 0, none⟩) L c6) := fun q => (q.h _ (.inl rfl)).trans d1
      have hS : ∀ a : Addr, SpSet g9 gp a → a.block < w6.drew.heap.size := fun a ha => by rcases ha with rfl | ⟨h, _⟩; exact zg; rw [h]; exact hgp3
      have hc0 : Hid (∀ v, KSReach (SpSet g9 gp) w6.drew v → ∀ t u, p0.cs[t]? = some u → v.cell? ⟨gp, 0 * 3 + t, none⟩ = some u) := Lib.hid (fun v hv t u hu => by
        obtain ⟨q, rfl⟩ := hv
        have ht : t < 3 := (List.getElem?_eq_some_iff.1 hu).1
        rw [q.h ⟨gp, 0 * 3 + t, none⟩ (.inr ⟨rfl, rfl, by show 0 * 3 + t < 3; omega⟩)]
        exact (X7.P.parts.cellAt Pt.cs_length Hp0.out hu).1)
      go_upto_region 53 with fail
      refine wp_region_treeL 9 (.float 0 6 (.one 6 (.one 7 (.float 8 1 (.one 9 .done))))) (Th.KSReach (SpSet g9 gp)) (Th.KSReach.trans _) (Th.KSReach.refl _) (by kernel_rfl) (by kernel_rfl) (by kernel_rfl) (fun KT hKT => ?_)
      refine wpTreeL_float (fun KF hKF => ?_)
      simp only [List.drop, List.take]
      repeat (first | go_big_quiet_skip | ((with_reducible refine onq_index (.tmp 183) ?_); refine wqm_place rfl _ (.tmp 183) _ rfl el_part rfl rfl 0 ⟨rfl, hl0⟩ ?_) | ((with_reducible refine onq_load (.tmp 184) ?_); refine wqpt_load rfl _ (.tmp 184) rfl st_part rfl hc0 ?_) | go_big_quiet_step (fail) | quiet_step (fail))
      refine wpQuiet_nil ?_
      refine hKF _ ?_
      clear hKF KF
      refine wpTreeL_one (fun KO hKO => ?_)
      simp only [List.drop, List.take]
      go_wp2_with (first | ((with_reducible refine on_append (.tmp 181) (.tmp 186) ?_); refine wm_appendK Pt.cs_length rfl (.tmp 181) (.tmp 186) _ rfl el_part Pt.one rfl ((X7.P.parts.below (bdrew1 w6)).alloc (.cells #[.int .u32 p0.fr, .int .u32 p0.to, .slice p0.A p0.n p0.c] 26)) rfl (OwM.lit (base := w6.heap.size) (e := 26) (xs := [p0]) Pt.cs_length w6.drew #[.int .u32 p0.fr, .int .u32 p0.to, .slice p0.A p0.n p0.c] 1 (Nat.le_refl _) (by simp [maxLen]) rfl rfl).rd (by omega) (by omega) (by simp; omega) ?_; intro A8 c8 w8 ow8 hg8 hb8 hA8 hk8; have bx8 := (X7.box.drew.alloc (.cells #[.int .u32 p0.fr, .int .u32 p0.to, .slice p0.A p0.n p0.c] 26)).grown hg8 hgg.out; have k1 : w8.cell? ⟨g9, 1, none⟩ = some (.slice (some ⟨gp, 0, none⟩) L c6) := bx8.cell 1; have fz1 := bx8.frozen 1; have bS := bx8.setCell 1 (.slice A8 (L + 1) c8); have ks : ∀ a : Addr, SpSet g9 gp a → w8.cell? a = (w6.drew.alloc (.cells #[.int .u32 p0.fr, .int .u32 p0.to, .slice p0.A p0.n p0.c] 26)).cell? a := spKeep k1 ((X7.box.drew.alloc (.cells #[.int .u32 p0.fr, .int .u32 p0.to, .slice p0.A p0.n p0.c] 26)).cell 1) (fun t ht => hk8 t (by omega)); have R8 := ((X7.P.below (bdrew1 w6)).below (below_alloc w6.drew (Nat.le_refl _) (.cells #[.int .u32 p0.fr, .int .u32 p0.to, .slice p0.A p0.n p0.c] 26))).doubled HF6.out.ok Hp0.out hg8 ow8 bx8 bS.2; have B8 := ((bdrew1' w6 : Below w1.heap.size w6 w6.drew).trans (below_alloc w6.drew zB (.cells #[.int .u32 p0.fr, .int .u32 p0.to, .slice p0.A p0.n p0.c] 26))).trans (hb8.trans (below_of_grown (B := w1.heap.size) bS.2 (fun j e => by injection e with e; omega) (by have := bx8.lt; omega)))))
      refine anch_endL (Th.KSReach.of (by first | exact fun _ _ => rfl | assumption | (exact ks_alloc _ _ (by assumption)))) (hKO _ _ ?_)
      clear hKO KO
      refine wpTreeL_one (fun KO hKO => ?_)
      simp only [List.drop, List.take]
      go_wp2_with (first | ((with_reducible refine on_append (.tmp 181) (.tmp 186) ?_); refine wm_appendK Pt.cs_length rfl (.tmp 181) (.tmp 186) _ rfl el_part Pt.one rfl ((X7.P.parts.below (bdrew1 w6)).alloc (.cells #[.int .u32 p0.fr, .int .u32 p0.to, .slice p0.A p0.n p0.c] 26)) rfl (OwM.lit (base := w6.heap.size) (e := 26) (xs := [p0]) Pt.cs_length w6.drew #[.int .u32 p0.fr, .int .u32 p0.to, .slice p0.A p0.n p0.c] 1 (Nat.le_refl _) (by simp [maxLen]) rfl rfl).rd (by omega) (by omega) (by simp; omega) ?_; intro A8 c8 w8 ow8 hg8 hb8 hA8 hk8; have bx8 := (X7.box.drew.alloc (.cells #[.int .u32 p0.fr, .int .u32 p0.to, .slice p0.A p0.n p0.c] 26)).grown hg8 hgg.out; have k1 : w8.cell? ⟨g9, 1, none⟩ = some (.slice (some ⟨gp, 0, none⟩) L c6) := bx8.cell 1; have fz1 := bx8.frozen 1; have bS := bx8.setCell 1 (.slice A8 (L + 1) c8); have ks : ∀ a : Addr, SpSet g9 gp a → w8.cell? a = (w6.drew.alloc (.cells #[.int .u32 p0.fr, .int .u32 p0.to, .slice p0.A p0.n p0.c] 26)).cell? a := spKeep k1 ((X7.box.drew.alloc (.cells #[.int .u32 p0.fr, .int .u32 p0.to, .slice p0.A p0.n p0.c] 26)).cell 1) (fun t ht => hk8 t (by omega)); have R8 := ((X7.P.below (bdrew1 w6)).below (below_alloc w6.drew (Nat.le_refl _) (.cells #[.int .u32 p0.fr, .int .u32 p0.to, .slice p0.A p0.n p0.c] 26))).doubled HF6.out.ok Hp0.out hg8 ow8 bx8 bS.2; have B8 := ((bdrew1' w6 : Below w1.heap.size w6 w6.drew).trans (below_alloc w6.drew zB (.cells #[.int .u32 p0.fr, .int .u32 p0.to, .slice p0.A p0.n p0.c] 26))).trans (hb8.trans (below_of_grown (B := w1.heap.size) bS.2 (fun j e => by injection e with e; omega) (by have := bx8.lt; omega)))))
      refine anch_endL (Th.KSReach.of (by first | exact fun _ _ => rfl | assumption | (exact ks_alloc _ _ (by assumption)))) (hKO _ _ ?_)
      clear hKO KO
      refine wpTreeL_float (fun KF hKF => ?_)
      simp only [List.drop, List.take]
      repeat (first | go_big_quiet_skip | ((with_reducible refine onq_index (.tmp 183) ?_); refine wqm_place rfl _ (.tmp 183) _ rfl el_part rfl rfl 0 ⟨rfl, hl0⟩ ?_) | ((with_reducible refine onq_load (.tmp 184) ?_); refine wqpt_load rfl _ (.tmp 184) rfl st_part rfl hc0 ?_) | go_big_quiet_step (fail) | quiet_step (fail))
      refine wpQuiet_nil ?_
      refine hKF _ ?_
      clear hKF KF
      refine wpTreeL_one (fun KO hKO => ?_)
      simp only [List.drop, List.take]
      go_wp2_with (first | ((with_reducible refine on_append (.tmp 181) (.tmp 186) ?_); refine wm_appendK Pt.cs_length rfl (.tmp 181) (.tmp 186) _ rfl el_part Pt.one rfl ((X7.P.parts.below (bdrew1 w6)).alloc (.cells #[.int .u32 p0.fr, .int .u32 p0.to, .slice p0.A p0.n p0.c] 26)) rfl (OwM.lit (base := w6.heap.size) (e := 26) (xs := [p0]) Pt.cs_length w6.drew #[.int .u32 p0.fr, .int .u32 p0.to, .slice p0.A p0.n p0.c] 1 (Nat.le_refl _) (by simp [maxLen]) rfl rfl).rd (by omega) (by omega) (by simp; omega) ?_; intro A8 c8 w8 ow8 hg8 hb8 hA8 hk8; have bx8 := (X7.box.drew.alloc (.cells #[.int .u32 p0.fr, .int .u32 p0.to, .slice p0.A p0.n p0.c] 26)).grown hg8 hgg.out; have k1 : w8.cell? ⟨g9, 1, none⟩ = some (.slice (some ⟨gp, 0, none⟩) L c6) := bx8.cell 1; have fz1 := bx8.frozen 1; have bS := bx8.setCell 1 (.slice A8 (L + 1) c8); have ks : ∀ a : Addr, SpSet g9 gp a → w8.cell? a = (w6.drew.alloc (.cells #[.int .u32 p0.fr, .int .u32 p0.to, .slice p0.A p0.n p0.c] 26)).cell? a := spKeep k1 ((X7.box.drew.alloc (.cells #[.int .u32 p0.fr, .int .u32 p0.to, .slice p0.A p0.n p0.c] 26)).cell 1) (fun t ht => hk8 t (by omega)); have R8 := ((X7.P.below (bdrew1 w6)).below (below_alloc w6.drew (Nat.le_refl _) (.cells #[.int .u32 p0.fr, .int .u32 p0.to, .slice p0.A p0.n p0.c] 26))).doubled HF6.out.ok Hp0.out hg8 ow8 bx8 bS.2; have B8 := ((bdrew1' w6 : Below w1.heap.size w6 w6.drew).trans (below_alloc w6.drew zB (.cells #[.int .u32 p0.fr, .int .u32 p0.to, .slice p0.A p0.n p0.c] 26))).trans (hb8.trans (below_of_grown (B := w1.heap.size) bS.2 (fun j e => by injection e with e; omega) (by have := bx8.lt; omega)))))
      refine anch_last (hKO _ _ ?_)
      clear hKO KO
      refine wpTreeL_done ?_
      refine hKT _ _ ?_
      clear hKT KT
      clear q1 hS hc0
      go_wp2
      go_meet
      case rel => exact ⟨15, false, 1, A8, L + 1, c8, 0, none, 0, 0, ps6 ++ [p0], [], rfl, ⟨bS.1, R8, RdS.nil _ _, by omega, by omega, (fun q hq => by
        rcases List.mem_append.1 hq with h | h
        · rw [(X7.P.rk q h).2]; omega
        · rw [List.mem_singleton.1 h, (X7.P.rk p0 (List.mem_of_getElem? Hp0.out)).2]; omega), by simp⟩, Lib.hid (spoil_more HF6.out HLl.out Hp0.out), Lib.hid (csame_no (.inr (.inr (.inr (fun e => by
          have e3 := congrArg List.length e
          have e4 := congrArg List.length Hks.out
          simp at e3 e4
          omega))))), rfl, B8⟩
    · -- an address
      have bS := X7.box.setCell 2 (.int .u32 1)
      go_wp2
      go_meet
      case rel => exact ⟨3, false, 1, _, L, c6, 1, none, 0, 0, ps6, [], rfl, XF.c ⟨bS.1, X7.P.cert X7.box bS.2⟩ HF6.out.ok hL1000 (by omega), Lib.hid (spoil_form _ _ _ _ (.inl (by omega))), Lib.hid (csame_no (.inr (.inl (by omega)))), rfl, below_of_grown bS.2 (fun j e => by injection e with e; omega) zB⟩
  case rest =>
    obtain ⟨want, b, v9, A9, n9, c9, d9, T9, nt9, ct9, ps9, tr9, rfl, X, hmay, hsame, hwb, hb⟩ := hcut
    have C9 := C8.step (B16.trans hb)
    have B9 := B5.trans ((B16.trans hb).mono B5.size)
    have hwb2 : decide (want = 0) = b := by rw [← hwb, Bool.eq_iff_iff]; simp
    clear hb
    go_wp2_with ((with_reducible refine on_load (.tmp 10) ?_); refine wl_cbox rfl (.tmp 10) rfl rfl X ?_)
    refine (may_box X D want hmay.out).mono ?_
    rintro e wd ⟨rfl, hbd⟩
    have C10 := C9.step hbd
    have X10 := X.step hbd
    go_wp2_with (first | ((with_reducible refine on_load (.tmp 9) ?_); refine wl_cbox rfl (.tmp 9) rfl rfl C10 ?_) | ((with_reducible refine on_load (.tmp 10) ?_); refine wl_cbox rfl (.tmp 10) rfl rfl X10 ?_))
    refine (same_box C10 X10 b hsame.out).mono ?_
    rintro e we ⟨rfl, hbe⟩
    go_wp2
    go_ret
    exact ⟨rfl, B9.trans ((hbd.trans (hbe.mono hbd.size)).mono B9.size)⟩
theorem certSpoilt_walk {w : World} (v : Int) (Ap : Option Addr) (np cp : Nat) (d : Int) (At : Option Addr) (nt ct : Nat) (ps : List Pt) (tr : List Int) (ci : CertIn w v Ap np cp d At nt ct ps tr) (m0 : Int) (hm0 : 0 ≤ m0 ∧ m0 ≤ 255) (zs : List Int) (hl : zs.length = 2) (hz : ∀ z ∈ zs, 0 ≤ z ∧ z ≤ 255) :
    Calls Try.prog 8 #[.agg #[.int .i64 v, .slice Ap np cp, .int .u32 d, .slice At nt ct], .int .u8 m0, .agg (zs.map (Value.int .u8)).toArray] w fun e w' => e = .returned (.bool true) ∧ Below w.heap.size w w' := by
  match zs, hl with
  | [k0, kb], _ =>
    have h0 := hz k0 (by simp)
    have h1 := hz kb (by simp)
    obtain ⟨m, rfl⟩ := Int.eq_ofNat_of_zero_le hm0.1
    obtain ⟨k, rfl⟩ := Int.eq_ofNat_of_zero_le h0.1
    obtain ⟨j, rfl⟩ := Int.eq_ofNat_of_zero_le h1.1
    by_cases hv : bits .and .i64 v 1 = 0
    · exact certSpoilt_loops v hv Ap np cp d At nt ct ps tr ci m k j (by omega) (by omega) (by omega)
    · exact certSpoilt_free v hv Ap np cp d At nt ct ps tr ci m k j (by omega) (by omega) (by omega)
end Go.Proofs.Yteellpcagdnikaa
