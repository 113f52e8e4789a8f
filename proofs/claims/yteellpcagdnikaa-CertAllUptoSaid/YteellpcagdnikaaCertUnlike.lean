/-
  theseuslaw17.CertUnlike: the walk.
-/
import Derived.Test.YteellpcagdnikaaCertBox
import Derived.Deep.CutBlock
namespace Go.Proofs.Yteellpcagdnikaa
open Go.RowKit Go.Th
set_option linter.unusedVariables false
/-- What the two are behind the switch. -/
def UnRel (B g8 g9 : Nat) (v : Int) (A8 : Option Addr) (n8 c8 : Nat) (d : Int) (T8 : Option Addr) (nt8 ct8 : Nat) (ps8 : List Pt) (tr8 : List Int) (w6 wx : World) : Prop :=
  ∃ (v9 : Int) (A9 : Option Addr) (n9 c9 : Nat) (d9 : Int) (T9 : Option Addr) (nt9 ct9 : Nat) (ps9 : List Pt) (tr9 : List Int), CBox wx g9 v9 A9 n9 c9 d9 T9 nt9 ct9 ps9 tr9 ∧ Hid (v ≠ v9 ∨ d ≠ d9 ∨ tr8 ≠ tr9 ∨ ps8.map pkey ≠ ps9.map pkey) ∧ Below B w6 wx
theorem wq_placeS {P : Program} {ops : Array Oper} {rest : List Oper} {o : Oper} {a : Act} {C : World → Prop} {Q : Act → Prop} (hw : Region.wanted o (yielded ops a.tmps) = true) (T : TypeId) (s i : Operand) (ho : o.op = .indexAddr T s i) {E bytes : Nat} {z : Value} (el : El P T E z bytes)
    {g n c : Nat} {kk : IntKind} {I : Int} (hs : a.eval s = .slice (some ⟨g, 0, none⟩) n c) (hi : a.eval i = .int kk I) (j : Nat) (hj : I = (j : Int) ∧ j < n)
    (h : wpQuiet P ops C Q rest (a.put o.dst (.pointer (some ⟨g, j, none⟩)))) : wpQuiet P ops C Q (o :: rest) a := by
  obtain ⟨rfl, hj⟩ := hj
  refine wq_run hw (v := .pointer (some ⟨g, j, none⟩)) (fun w hC => ?_) h
  have := run_indexAt (P := P) (w := w) T el.ht (el.size w) ⟨g, 0, none⟩ n c kk (j : Int) (by omega) (by omega)
  rw [Addr.add_lit, Nat.zero_add, Int.toNat_natCast, Nat.mul_one] at this
  simp only [execOp, ho, hs, hi, Sem.run_bind, this, Result.andThen, Sem.run_pure]
theorem bdrew1' {B : Nat} (w : World) : Below B w w.drew := bdrew w 1
theorem own_cert_row {w : World} {b k n c g : Nat} {cs : Array Value} {A : Option Addr} {xs : List Value} (h : Ow w b 3 k A n c xs) (hb : Box w g 29 cs) : rowOf A ≠ some g := fun e => by
  rcases h.form with ⟨e2, _⟩ | ⟨g', e2, _⟩
  · rw [e2] at e; cases e
  · have : g' = g := by rw [e2] at e; simpa [rowOf] using e
    exact h.box_ne hb ty_ic g' e2 (by rw [this])
set_option maxRecDepth 100000 in
set_option maxHeartbeats 4000000 in
theorem certUnlike_loops (v : Int) (hv : bits .and .i64 v 1 = 0) (Ap : Option Addr) (np cp : Nat) (d : Int) (At : Option Addr) (nt ct : Nat) (ps : List Pt) (tr : List Int) {w : World} (ci : CertIn w v Ap np cp d At nt ct ps tr) (m0 k0 : Nat) (hm0 : m0 ≤ 255) (hk0 : k0 ≤ 255) :
    Calls Try.prog 9 #[.agg #[.int .i64 v, .slice Ap np cp, .int .u32 d, .slice At nt ct], .int .u8 m0, .int .u8 k0] w fun e w' => e = .returned (.bool true) ∧ Below w.heap.size w w' := by
  obtain ⟨N, hN⟩ : ∃ N, min np 20 = N := ⟨_, rfl⟩
  obtain ⟨M, hM⟩ : ∃ M, min nt 20 = M := ⟨_, rfl⟩
  have HN := Lib.hid hN
  have HM := Lib.hid hM
  have hM1 : M ≤ 20 := by omega
  clear hN hM
  have bx := Box.new w (Cv v Ap np cp d At nt ct) 29
  have k1 := below_alloc w (Nat.le_refl _) (.cells (Cv v Ap np cp d At nt ct) 29)
  obtain ⟨K, hK, hK4⟩ : ∃ K, m0 % 4 = K ∧ K < 4 := ⟨_, rfl, Nat.mod_lt _ (by omega)⟩
  have HK : Hid ((m0 : Int) % 4 = (K : Int)) := Lib.hid (by omega)
  obtain ⟨out, hout⟩ : ∃ out, ftrace 3 (tr.take 20) = out := ⟨_, rfl⟩
  obtain ⟨hF, hFn⟩ := ftrace_ok (n := 3) (by omega) (tr.take 20)
  rw [hout] at hF hFn
  have hF3 : out.length ≤ 3 := FTr.len (n := 3) hF
  have hF0 : 0 < out.length := List.length_pos_iff.2 hFn
  have HF := Lib.hid hF
  obtain ⟨L, hL⟩ : ∃ L, out.length = L := ⟨_, rfl⟩
  rw [hL] at hF3 hF0
  have HL := Lib.hid hL
  have Hci := Lib.hid ci
  have few := Lib.hid (fun W (h : Below w.heap.size w W) => few17_any v Ap np cp d At nt ct W ci.npb ci.ntb ps tr _ (ci.parts.below h) (ci.trd.below h) (fun p hp => (ci.each p hp).1) N M HN.out HM.out)
  have fit := Lib.hid (fun (W : World) A c (h : Below w.heap.size w W) => by
    have := rcfit_loops v hv A N c d At M ct 3 (by omega) W (by omega) (tr.take 20) _ ((ci.trd.below h).few 20 M HM.out)
    rw [show ((3 : Nat) : Int) = 3 from rfl, hout, hL] at this
    exact this)
  clear hK hout hF hFn hL ci
  go_enter Try.func9, Try.ntmps9
  go_wp2_with fail
  refine (shown17 _).mono ?_
  rintro e w1 ⟨rfl, hb1⟩
  have bx1 := bx.step hb1
  have B1 := k1.trans (hb1.mono k1.size)
  go_upto_region 3 with (first
    | ((with_reducible refine on_load (.tmp 3) ?_); refine wcv_box rfl (.tmp 3) rfl rfl bx1 ?_)
    | (go_at_call 14; refine (few.out _ B1).mono ?_; rintro e w2 ⟨A2, c2, rfl, ow2, hb2⟩; have B2 := B1.trans (hb2.mono B1.size))
    | (go_at_call 13; refine (fit.out _ A2 c2 B2).mono ?_; rintro e w3 ⟨A3, c3, rfl, ow3, hb3⟩)
    | ((with_reducible refine on_alloc ?_); refine wl_newBox rfl _ rfl z_cert ?_; intro g8 w4 hg4 hl4 bg4 hb4)
    | ((with_reducible refine on_store_at (.tmp 8) ?_); refine wb_store (cs := Cv 0 none 0 0 0 none 0 0) (cs' := Cv 2 none 0 0 d A3 L c3) rfl _ (.tmp 8) _ rfl st_cert rfl rfl bg4 rfl rfl (by simp [Cv, Value.oneCell']) ?_; intro w5 bx5 hg5))
  have hF1 := HF.out.rng
  have hbd : ∀ x ∈ out, -9223372036854775808 ≤ x ∧ x ≤ 9223372036854775807 := fun x hx => by have := hF1 x hx; omega
  have Hbd := Lib.hid hbd
  have C8 : CBox w5 g8 2 none 0 0 d A3 L c3 [] out := XL.c ⟨bx5, own_cert (ow3.below hb4) bg4 hg5⟩ (by omega) hbd
  have B25 := hb2.trans ((hb3.trans ((hb4.trans (below_of_grown (B := w3.heap.size) hg5 (fun j e => by injection e with e; omega) hb4.size)).mono hb3.size)).mono hb2.size)
  have B5 := B1.trans (B25.mono B1.size)
  have bx25 := bx1.step B25
  clear hF1 hbd hb2 hb3 hb4 hg5 bg4 bx5 ow3 ow2 B2 bx1 B1 hb1 k1 bx B25 hg4 hl4
  clear w4
  clear w3
  clear w2
  clear w1
  rename World => w1
  go_upto_block 0 with (first
    | ((with_reducible refine on_load (.tmp 3) ?_); refine wcv_box rfl (.tmp 3) rfl rfl bx25 ?_)
    | (go_at_call 14; refine (few.out _ B5).mono ?_; rintro e w2 ⟨A5, c5, rfl, ow2, hb2⟩; have B2 := B5.trans (hb2.mono B5.size))
    | (go_at_call 13; refine (fit.out _ A5 c5 B2).mono ?_; rintro e w3 ⟨A6, c6, rfl, ow3, hb3⟩)
    | ((with_reducible refine on_alloc ?_); refine wl_newBox rfl _ rfl z_cert ?_; intro g9 w4 hg4 hl4 bg4 hb4)
    | ((with_reducible refine on_store_at (.tmp 9) ?_); refine wb_store (cs := Cv 0 none 0 0 0 none 0 0) (cs' := Cv 2 none 0 0 d A6 L c6) rfl _ (.tmp 9) _ rfl st_cert rfl rfl bg4 rfl rfl (by simp [Cv, Value.oneCell']) ?_; intro w5 bx5 hg5; have y8 : w5.cell? ⟨g8, 0, none⟩ = some (.int .i64 2) := (C8.step (hb2.trans ((hb3.trans ((hb4.trans (below_of_grown (B := w3.heap.size) hg5 (fun j e => by injection e with e; omega) hb4.size)).mono hb3.size)).mono hb2.size))).box.cell 0))
  rw [HK.out]
  have B15 := hb2.trans ((hb3.trans ((hb4.trans (below_of_grown (B := w3.heap.size) hg5 (fun j e => by injection e with e; omega) hb4.size)).mono hb3.size)).mono hb2.size)
  have X9 : XL w5 w1.heap.size g9 2 d A6 L c6 out := ⟨bx5, (own_cert (ow3.below hb4) bg4 hg5).base_le hb2.size⟩
  have hgB : w1.heap.size ≤ g9 := Nat.le_trans hb2.size (Nat.le_trans hb3.size hg4)
  clear hb2 hb3 hb4 hg5 bg4 bx5 ow3 ow2 B2 hg4 hl4 y8
  clear w4
  clear w3
  clear w2
  rename World => w6
  go_cut [11] (fun s11 wx => UnRel w1.heap.size g8 g9 2 none 0 0 d A3 L c3 [] out w6 wx)
  case first =>
    have zB := B15.size
    have d0 : w6.cell? ⟨g9, 0, none⟩ = some (.int .i64 2) := X9.box.cell 0
    have d2 : w6.cell? ⟨g9, 2, none⟩ = some (.int .u32 d) := X9.box.cell 2
    have d3 : w6.cell? ⟨g9, 3, none⟩ = some (.slice A6 L c6) := X9.box.cell 3
    have f0 := X9.box.frozen 0
    have f2 := X9.box.frozen 2
    have f3 := X9.box.frozen 3
    have hways : K = 0 ∨ K = 1 ∨ K = 2 ∨ K = 3 := by omega
    rcases hways with rfl | rfl | rfl | rfl
    · have bS := X9.box.setCell 2 (.int .u32 ((d + 1) % 4294967296))
      have hd := Hci.out.db
      have hdn : d ≠ (d + 1) % 4294967296 := by omega
      have Hdn := Lib.hid hdn
      clear hd hdn
      go_wp2
      go_meet
      case rel => exact ⟨2, none, 0, 0, _, A6, L, c6, [], out, XL.c ⟨bS.1, own_cert X9.T X9.box bS.2⟩ (by omega) Hbd.out, Lib.hid (.inr (.inl Hdn.out)), below_of_grown bS.2 (fun j e => by injection e with e; omega) zB⟩
    · have bS := X9.box.setCell 0 (.int .i64 3)
      go_wp2
      go_meet
      case rel => exact ⟨3, none, 0, 0, d, A6, L, c6, [], out, XL.c ⟨bS.1, own_cert X9.T X9.box bS.2⟩ (by omega) Hbd.out, Lib.hid (.inl (by omega)), below_of_grown bS.2 (fun j e => by injection e with e; omega) zB⟩
    · have zg := X9.box.lt
      have hrow := Lib.hid (own_cert_row X9.T.ow X9.box)
      go_wp2_with ((with_reducible refine on_append (.tmp 85) (.tmp 86) ?_); refine wl_appendA rfl (.tmp 85) (.tmp 86) _ rfl el_int (f := iv) (fun _ => rfl) rfl (X9.T.alloc (.cells #[.int .i64 9] 3)) rfl (OwS.lit (base := w6.heap.size) (e := 3) (xs := [(9 : Int)]) w6 #[.int .i64 9] 1 (Nat.le_refl _) (by simp [maxLen]) rfl rfl).rd (by omega) (by omega) (by simp; omega) ?_; intro A8 c8 w8 ow8 hg8 hb8 hA8; have bx8 := (X9.box.alloc (.cells #[.int .i64 9] 3)).grown hg8 hrow.out; have k3 : w8.cell? ⟨g9, 3, none⟩ = some (.slice A6 L c6) := bx8.cell 3; have fz3 := bx8.frozen 3; have bS := bx8.setCell 3 (.slice A8 (L + 1) c8); have B8 := (below_alloc w6 zB (.cells #[.int .i64 9] 3)).trans (hb8.trans (below_of_grown (B := w1.heap.size) bS.2 (fun j e => by injection e with e; omega) (by have := hb8.size; simp at this; omega))))
      go_meet
      case rel => exact ⟨2, none, 0, 0, d, A8, L + 1, c8, [], out ++ [9], XL.c ⟨bS.1, own_cert ow8 bx8 bS.2⟩ (by omega) (fun x hx => by rcases List.mem_append.1 hx with h | h; exact Hbd.out x h; rw [List.mem_singleton.1 h]; omega), Lib.hid (.inr (.inr (.inl (fun e => by have := congrArg List.length e; simp at this)))), B8⟩
    · obtain ⟨gt, rfl, hgt⟩ := X9.T.at0 hF0
      have hT := X9.T.lt
      have h1 : 0 ≤ (k0 : Int) % (L : Int) := Int.emod_nonneg _ (by omega)
      have h2 : (k0 : Int) % (L : Int) < L := Int.emod_lt_of_pos _ (by omega)
      have h3 : (k0 : Int) % (L : Int) = ((k0 % L : Nat) : Int) := by rw [← Int.natCast_emod]
      have h4 : (k0 : Int).tmod (L : Int) = ((k0 % L : Nat) : Int) := by rw [Int.tmod_eq_emod_of_nonneg (by omega), h3]
      have h5 : k0 % L < L := Nat.mod_lt _ hF0
      obtain ⟨t, ht⟩ : ∃ t, k0 % L = t := ⟨_, rfl⟩
      rw [ht] at h3 h4 h5
      have H4 := Lib.hid h4
      have H3 := Lib.hid h3
      clear h3 h4 ht h1 h2
      have q3 : ∀ q : Step w6.heap.size w6.drew, q.w.cell? ⟨g9, 3, none⟩ = some (.slice (some ⟨gt, 0, none⟩) L c6) := fun q => (X9.box.drew.step q.h).cell 3
      go_upto_region 9 with fail
      refine wp_region_treeL 9 (.float 0 9 (.one 9 .done)) (Th.Reach (w6.heap.size)) (Th.Reach.trans _) (Th.Reach.refl _) (by kernel_rfl) (by kernel_rfl) (by kernel_rfl) (fun KT hKT => ?_)
      refine wpTreeL_float (fun KF hKF => ?_)
      simp only [List.drop, List.take]
      repeat (first | go_big_quiet_skip | ((with_reducible refine onq_index (.tmp 45) ?_); refine wq_placeS rfl _ (.tmp 45) _ rfl el_int rfl rfl t (by first | exact ⟨H3.out, h5⟩ | exact ⟨H4.out, h5⟩) ?_) | go_big_quiet_step (fail) | quiet_step (fail))
      refine wpQuiet_nil ?_
      refine hKF _ ?_
      clear hKF KF
      refine wpTreeL_one (fun KO hKO => ?_)
      simp only [List.drop, List.take]
      go_wp2_with (first | ((with_reducible refine on_store_at (.tmp 52) ?_); refine wl_setS rfl _ (.tmp 52) _ rfl size_int (f := iv) (g := gt) (j := t) rfl rfl 8 rfl (X9.T.below (bdrew1 w6)) h5 ?_; intro w8 ow8 hg8 hb8))
      refine anch_last (hKO _ _ ?_)
      clear hKO KO
      refine wpTreeL_done ?_
      refine hKT _ _ ?_
      clear hKT KT
      have bx8 := (X9.box.drew).grown hg8 (fun e => by injection e with e; exact own_cert_row X9.T.ow X9.box (by rw [e]; rfl))
      go_wp2
      go_meet
      case rel => exact ⟨2, none, 0, 0, d, _, L, c6, [], out.set t 8, XL.c ⟨bx8, ow8⟩ (by omega) (fun x hx => by rcases List.mem_or_eq_of_mem_set hx with h | h; exact Hbd.out x h; rw [h]; omega), Lib.hid (.inr (.inr (.inl (fun e => by
        have e2 : (out.set t 8)[t]? = some 8 := List.getElem?_set_self (by rw [HL.out]; exact h5)
        rw [← e] at e2
        have := HF.out.rng 8 (List.mem_of_getElem? e2)
        omega)))), (bdrew1' w6).trans hb8⟩
  case rest =>
    obtain ⟨v9, A9, n9, c9, d9, T9, nt9, ct9, ps9, tr9, X, hne, hb⟩ := hcut
    have C9 := C8.step (B15.trans hb)
    have B9 := B5.trans ((B15.trans hb).mono B5.size)
    have n1 := Lib.hid (csame_no hne.out)
    have n2 := Lib.hid (csame_no (v := v9) (d := d9) (tr := tr9) (ps := ps9) (hne.out.imp Ne.symm (Or.imp Ne.symm (Or.imp Ne.symm Ne.symm))))
    have n0 := Lib.hid (csame_yes (v := 2) (v' := 2) (d := d) (d' := d) (tr := out) (tr' := out) (ps := ([] : List Pt)) (qs := []) rfl rfl rfl rfl)
    clear hne hb
    go_wp2_with ((with_reducible refine on_load (.tmp 8) ?_); refine wl_cbox rfl (.tmp 8) rfl rfl C9 ?_)
    refine (same_box C9 C9 true n0.out).mono ?_
    rintro e wd ⟨rfl, hbd⟩
    have C10 := C9.step hbd
    have X10 := X.step hbd
    go_wp2_with (first | ((with_reducible refine on_load (.tmp 8) ?_); refine wl_cbox rfl (.tmp 8) rfl rfl C10 ?_) | ((with_reducible refine on_load (.tmp 9) ?_); refine wl_cbox rfl (.tmp 9) rfl rfl X10 ?_))
    refine (same_box C10 X10 false n1.out).mono ?_
    rintro e we ⟨rfl, hbe⟩
    have C11 := C10.step hbe
    have X11 := X10.step hbe
    go_wp2_with (first | ((with_reducible refine on_load (.tmp 8) ?_); refine wl_cbox rfl (.tmp 8) rfl rfl C11 ?_) | ((with_reducible refine on_load (.tmp 9) ?_); refine wl_cbox rfl (.tmp 9) rfl rfl X11 ?_))
    refine (same_box X11 C11 false n2.out).mono ?_
    rintro e wf ⟨rfl, hbf⟩
    go_wp2
    go_ret
    exact ⟨rfl, B9.trans ((hbd.trans ((hbe.trans (hbf.mono hbe.size)).mono hbd.size)).mono B9.size)⟩
theorem part_box {w : World} {b k n c g gp : Nat} {cs : Array Value} {xs : List Value} (h : Ow w b 26 k (some ⟨gp, 0, none⟩) n c xs) (hb : Box w g 29 cs) : (some gp : Option Nat) ≠ some g := fun e => by
  injection e with e
  exact h.box_ne hb ty_pc gp rfl (by rw [e])
theorem pw_set {ps : List Pt} {i : Nat} {p q : Pt} (hd : ps.Pairwise fun p q => rowOf p.A ≠ rowOf q.A) (hp : ps[i]? = some p) (hq : q.A = p.A) : (ps.set i q).Pairwise fun p q => rowOf p.A ≠ rowOf q.A := by
  have hpi : ps[i]'((List.getElem?_eq_some_iff.1 hp).1) = p := (List.getElem?_eq_some_iff.1 hp).2
  rw [List.pairwise_iff_getElem]
  intro a b ha hb hab
  have key : ∀ (x : Nat) (hx : x < (ps.set i q).length), rowOf ((ps.set i q)[x]).A = rowOf (ps[x]'(by rw [List.length_set] at hx; exact hx)).A := by
    intro x hx
    rw [List.getElem_set]
    split
    · rename_i e; subst e; rw [hpi, hq]
    · rfl
  rw [key a ha, key b hb]
  exact List.pairwise_iff_getElem.1 hd a b _ _ hab
/-- A part's end is set. -/
theorem POw.setTo {w : World} {base n c N i gp : Nat} {ps : List Pt} {p : Pt} (h : POw w base (some ⟨gp, 0, none⟩) n c ps N) (hp : ps[i]? = some p) (x : Int) :
    POw (w.setCell ⟨gp, i * 3 + 1, none⟩ (.int .u32 x)) base (some ⟨gp, 0, none⟩) n c (ps.set i ⟨p.fr, x, p.A, p.n, p.c, p.rk⟩) N ∧ w.grownBy (w.setCell ⟨gp, i * 3 + 1, none⟩ (.int .u32 x)) (some gp) := by
  have hS := h.parts.setAt Pt.cs_length (x' := ⟨p.fr, x, p.A, p.n, p.c, p.rk⟩) (v := .int .u32 x) hp (j := 1) (by omega) rfl
  refine ⟨⟨hS.1, fun q hq => ?_, pw_set h.dis hp rfl⟩, hS.2⟩
  have key : ∀ q : Pt, OwS iv w base 3 q.A q.n q.c q.rk ∧ q.n = N → OwS iv (w.setCell ⟨gp, i * 3 + 1, none⟩ (.int .u32 x)) base 3 q.A q.n q.c q.rk ∧ q.n = N := fun q hq =>
    ⟨hq.1.grown hS.2 (fun g hA e => hq.1.ow.apart h.parts.ow ty_ne.symm g hA e), hq.2⟩
  rcases List.mem_or_eq_of_mem_set hq with hq | rfl
  · exact key q (h.rk q hq)
  · have := key p (h.rk p (List.mem_of_getElem? hp))
    exact this
theorem ok_set {ps : List Pt} {i : Nat} {q : Pt} (h : ∀ p ∈ ps, p.Ok) (hq : q.Ok) : ∀ p ∈ ps.set i q, p.Ok := fun p hp => by
  rcases List.mem_or_eq_of_mem_set hp with hp | rfl
  · exact h p hp
  · exact hq
theorem key_set {ps qs : List Pt} {i : Nat} {p q : Pt} (he : ps.map pkey = qs.map pkey) (hp : qs[i]? = some p) (hq : pkey q ≠ pkey p) : ps.map pkey ≠ (qs.set i q).map pkey := fun e => by
  rw [he] at e
  have h1 : (qs.map pkey)[i]? = some (pkey p) := by rw [List.getElem?_map, hp]; rfl
  have h2 : ((qs.set i q).map pkey)[i]? = some (pkey q) := by rw [List.getElem?_map, List.getElem?_set_self (List.getElem?_eq_some_iff.1 hp).1]; rfl
  rw [← e, h1] at h2
  injection h2 with h2
  exact hq h2.symm
set_option maxRecDepth 100000 in
set_option maxHeartbeats 4000000 in
theorem certUnlike_free (v : Int) (hv : bits .and .i64 v 1 ≠ 0) (Ap : Option Addr) (np cp : Nat) (d : Int) (At : Option Addr) (nt ct : Nat) (ps : List Pt) (tr : List Int) {w : World} (ci : CertIn w v Ap np cp d At nt ct ps tr) (m0 k0 : Nat) (hm0 : m0 ≤ 255) (hk0 : k0 ≤ 255) :
    Calls Try.prog 9 #[.agg #[.int .i64 v, .slice Ap np cp, .int .u32 d, .slice At nt ct], .int .u8 m0, .int .u8 k0] w fun e w' => e = .returned (.bool true) ∧ Below w.heap.size w w' := by
  obtain ⟨N, hN⟩ : ∃ N, min np 20 = N := ⟨_, rfl⟩
  obtain ⟨M, hM⟩ : ∃ M, min nt 20 = M := ⟨_, rfl⟩
  have HN := Lib.hid hN
  have HM := Lib.hid hM
  have hN1 : N ≤ 20 := by omega
  clear hN hM
  have bx := Box.new w (Cv v Ap np cp d At nt ct) 29
  have k1 := below_alloc w (Nat.le_refl _) (.cells (Cv v Ap np cp d At nt ct) 29)
  obtain ⟨K, hK, hK4⟩ : ∃ K, m0 % 4 = K ∧ K < 4 := ⟨_, rfl, Nat.mod_lt _ (by omega)⟩
  have HK : Hid ((m0 : Int) % 4 = (K : Int)) := Lib.hid (by omega)
  obtain ⟨fps, hfps⟩ : ∃ fps, (ps.take 20).map Pt.few = fps := ⟨_, rfl⟩
  have hfo : ∀ p ∈ fps, p.Ok ∧ p.n ≤ 20 := by rw [← hfps]; exact few_ok ci.parts.ok
  obtain ⟨hl0, hl31⟩ := fcuts_len (fun p hp => (hfo p hp).1)
  obtain ⟨l, hl⟩ : ∃ l, fcuts fps = l := ⟨_, rfl⟩
  obtain ⟨rs, hrs⟩ : ∃ rs, franksIn fps = rs := ⟨_, rfl⟩
  rw [hl] at hl31 hl0
  obtain ⟨L, hL⟩ : ∃ L, l.length = L := ⟨_, rfl⟩
  rw [hL] at hl31 hl0
  have few := Lib.hid (fun W (h : Below w.heap.size w W) => few17_any v Ap np cp d At nt ct W ci.npb ci.ntb ps tr _ (ci.parts.below h) (ci.trd.below h) (fun p hp => (ci.each p hp).1) N M HN.out HM.out)
  have hprd := Lib.hid (fun W W' A c (h : Below w.heap.size w W) (ho : OwM Pt.cs 3 W' W.heap.size 26 A N c ((ps.take 20).map Pt.few)) (hb : Below W.heap.size W W') => by
    have := (ci.parts.below h).few ho hb
    rw [hfps] at this
    exact this)
  have fit := Lib.hid (fun (W : World) A c (hp : PRd W W.heap.size A N c fps) => fitfree_is v hv A N c d At M ct 3 (by omega) W (by omega) fps _ hp (fun p hp => by have := (hfo p hp).2; omega) l rs L hl hrs hL)
  have Hci := Lib.hid ci
  clear hK hfps hl hrs ci hfo hL
  go_enter Try.func9, Try.ntmps9
  go_wp2_with fail
  refine (shown17 _).mono ?_
  rintro e w1 ⟨rfl, hb1⟩
  have bx1 := bx.step hb1
  have B1 := k1.trans (hb1.mono k1.size)
  go_upto_region 3 with (first
    | ((with_reducible refine on_load (.tmp 3) ?_); refine wcv_box rfl (.tmp 3) rfl rfl bx1 ?_)
    | (go_at_call 14; refine (few.out _ B1).mono ?_; rintro e w2 ⟨A2, c2, rfl, ow2, hb2⟩; have hp2 := hprd.out _ _ _ _ B1 ow2 hb2)
    | (go_at_call 13; refine (fit.out _ A2 c2 hp2).mono ?_; rintro e w3 ⟨A3, c3, ps3, rfl, ow3, F3, hb3⟩)
    | ((with_reducible refine on_alloc ?_); refine wl_newBox rfl _ rfl z_cert ?_; intro g8 w4 hg4 hl4 bg4 hb4)
    | ((with_reducible refine on_store_at (.tmp 8) ?_); refine wb_store (cs := Cv 0 none 0 0 0 none 0 0) (cs' := Cv 1 A3 L c3 0 none 0 0) rfl _ (.tmp 8) _ rfl st_cert rfl rfl bg4 rfl rfl (by simp [Cv, Value.oneCell']) ?_; intro w5 bx5 hg5))
  have C8 : CBox w5 g8 1 A3 L c3 0 none 0 0 ps3 [] := XF.c ⟨bx5, (ow3.below hb4).cert bg4 hg5⟩ F3.ok (by omega) (by omega)
  have B25 := hb2.trans ((hb3.trans ((hb4.trans (below_of_grown (B := w3.heap.size) hg5 (fun j e => by injection e with e; omega) hb4.size)).mono hb3.size)).mono hb2.size)
  have B5 := B1.trans (B25.mono B1.size)
  have bx25 := bx1.step B25
  have HF3 := Lib.hid F3
  clear hb2 hb3 hb4 hg5 bg4 bx5 ow3 ow2 bx1 B1 hb1 k1 bx B25 hg4 hl4 hp2 F3
  clear w4
  clear w3
  clear w2
  clear w1
  rename World => w1
  go_upto_block 0 with (first
    | ((with_reducible refine on_load (.tmp 3) ?_); refine wcv_box rfl (.tmp 3) rfl rfl bx25 ?_)
    | (go_at_call 14; refine (few.out _ B5).mono ?_; rintro e w2 ⟨A5, c5, rfl, ow2, hb2⟩; have hp5 := hprd.out _ _ _ _ B5 ow2 hb2)
    | (go_at_call 13; refine (fit.out _ A5 c5 hp5).mono ?_; rintro e w3 ⟨A6, c6, ps6, rfl, ow3, F6, hb3⟩)
    | ((with_reducible refine on_alloc ?_); refine wl_newBox rfl _ rfl z_cert ?_; intro g9 w4 hg4 hl4 bg4 hb4)
    | ((with_reducible refine on_store_at (.tmp 9) ?_); refine wb_store (cs := Cv 0 none 0 0 0 none 0 0) (cs' := Cv 1 A6 L c6 0 none 0 0) rfl _ (.tmp 9) _ rfl st_cert rfl rfl bg4 rfl rfl (by simp [Cv, Value.oneCell']) ?_; intro w5 bx5 hg5; have y8 : w5.cell? ⟨g8, 0, none⟩ = some (.int .i64 1) := (C8.step (hb2.trans ((hb3.trans ((hb4.trans (below_of_grown (B := w3.heap.size) hg5 (fun j e => by injection e with e; omega) hb4.size)).mono hb3.size)).mono hb2.size))).box.cell 0))
  rw [HK.out]
  have B15 := hb2.trans ((hb3.trans ((hb4.trans (below_of_grown (B := w3.heap.size) hg5 (fun j e => by injection e with e; omega) hb4.size)).mono hb3.size)).mono hb2.size)
  have X9 : XF w5 w1.heap.size g9 1 A6 L c6 0 ps6 3 := ⟨bx5, ((ow3.below hb4).cert bg4 hg5).base_le hb2.size⟩
  have HF6 := Lib.hid F6
  have hgB : w1.heap.size ≤ g9 := Nat.le_trans hb2.size (Nat.le_trans hb3.size hg4)
  have hks : ps3.map pkey = ps6.map pkey := by rw [HF3.out.key, F6.key]
  have Hks := Lib.hid hks
  clear hb2 hb3 hb4 hg5 bg4 bx5 ow3 ow2 hg4 hl4 y8 hp5 F6 hks
  clear w4
  clear w3
  clear w2
  rename World => w6
  go_cut [11] (fun s11 wx => UnRel w1.heap.size g8 g9 1 A3 L c3 0 none 0 0 ps3 [] w6 wx)
  case first =>
    have zB := B15.size
    have d0 : w6.cell? ⟨g9, 0, none⟩ = some (.int .i64 1) := X9.box.cell 0
    have d1 : w6.cell? ⟨g9, 1, none⟩ = some (.slice A6 L c6) := X9.box.cell 1
    have d2 : w6.cell? ⟨g9, 2, none⟩ = some (.int .u32 0) := X9.box.cell 2
    have f0 := X9.box.frozen 0
    have f2 := X9.box.frozen 2
    have hL1000 : L ≤ 1000000 := by omega
    have hways : K = 0 ∨ K = 1 ∨ K = 2 ∨ K = 3 := by omega
    have hq1 : (k0 : Int) % (L : Int) = ((k0 % L : Nat) : Int) := by rw [← Int.natCast_emod]
    have hq2 : (k0 : Int).tmod (L : Int) = ((k0 % L : Nat) : Int) := by rw [Int.tmod_eq_emod_of_nonneg (by omega), hq1]
    have hq3 : k0 % L < L := Nat.mod_lt _ hl0
    obtain ⟨i, hi⟩ : ∃ i, k0 % L = i := ⟨_, rfl⟩
    rw [hi] at hq1 hq2 hq3
    have H1 := Lib.hid hq1
    have H2 := Lib.hid hq2
    have hpl : ps6.length = L := X9.P.parts.len
    obtain ⟨p, hpi⟩ : ∃ p, ps6[i]? = some p := ⟨ps6[i]'(by omega), List.getElem?_eq_getElem _⟩
    have Hpi := Lib.hid hpi
    obtain ⟨gp, hgp, hgp2, hgp3⟩ := X9.P.parts.at0 hl0
    clear hi hq1 hq2 hpl
    subst hgp
    rcases hways with rfl | rfl | rfl | rfl
    · clear hpi
      have bS := X9.box.setCell 2 (.int .u32 1)
      go_wp2
      go_meet
      case rel => exact ⟨1, _, L, c6, 1, none, 0, 0, ps6, [], XF.c ⟨bS.1, X9.P.cert X9.box bS.2⟩ HF6.out.ok hL1000 (by omega), Lib.hid (.inr (.inl (by omega))), below_of_grown bS.2 (fun j e => by injection e with e; omega) zB⟩
    · clear hpi
      have bS := X9.box.setCell 0 (.int .i64 2)
      go_wp2
      go_meet
      case rel => exact ⟨2, _, L, c6, 0, none, 0, 0, ps6, [], XF.c ⟨bS.1, X9.P.cert X9.box bS.2⟩ HF6.out.ok hL1000 (by omega), Lib.hid (.inl (by omega)), below_of_grown bS.2 (fun j e => by injection e with e; omega) zB⟩
    · have hrk := X9.P.rk p (List.mem_of_getElem? hpi)
      obtain ⟨hrk1, hrk2⟩ := hrk
      obtain ⟨gr, hgr, hgr2⟩ := hrk1.at0 (by omega)
      have e2 : w6.cell? ⟨gp, i * 3 + 2, none⟩ = some (.slice p.A p.n p.c) := (X9.P.parts.cellAt Pt.cs_length hpi (j := 2) rfl).1
      rw [hgr, hrk2] at e2
      have hj3 : k0 % 3 < 3 := Nat.mod_lt _ (by omega)
      rw [hgr, hrk2] at hrk1
      have Hgr := Lib.hid hgr
      have Hrk2 := Lib.hid hrk2
      clear hpi hgr hrk2
      go_upto_region 17 with fail
      first | rw [H1.out] | rw [H2.out]
      go_wp2_with (first
        | ((with_reducible refine on_index (.tmp 75) ?_); refine wm_place rfl _ (.tmp 75) _ rfl el_part rfl rfl i ⟨rfl, hq3⟩ ?_)
        | ((with_reducible refine on_index (.tmp 79) ?_); refine wl_placeS rfl _ (.tmp 79) _ rfl el_int rfl rfl (k0 % 3) (by omega) ?_)
        | ((with_reducible refine on_store_at (.tmp 83) ?_); refine wl_setS rfl _ (.tmp 83) _ rfl size_int (f := iv) (g := gr) (j := k0 % 3) rfl rfl 7 rfl hrk1 hj3 ?_; intro w8 ow8 hg8 hb8))
      go_meet
      case rel =>
        have hpi := Hpi.out
        have P8 := X9.P.setRank hpi Hgr.out (p.rk.set (k0 % 3) 7) (by rw [Hgr.out, Hrk2.out]; exact ow8) hg8
        have hpm := List.mem_of_getElem? hpi
        refine ⟨1, _, L, c6, 0, none, 0, 0, _, [], XF.c ⟨X9.box.grown hg8 (fun e => by injection e with e; exact own_cert_row hrk1.ow X9.box (by rw [e]; rfl)), P8⟩ (ok_set HF6.out.ok ⟨(HF6.out.ok p hpm).fr, (HF6.out.ok p hpm).to⟩) hL1000 (by omega), Lib.hid (.inr (.inr (.inr (key_set Hks.out hpi ?_)))), hb8⟩
        intro e
        have e3 : p.rk.set (k0 % 3) 7 = p.rk := congrArg (fun x => x.2.2) e
        have e4 : (p.rk.set (k0 % 3) 7)[k0 % 3]? = some 7 := List.getElem?_set_self (by rw [HF6.out.rkLen p hpm]; exact hj3)
        rw [e3] at e4
        have := HF6.out.rkIn p hpm 7 (List.mem_of_getElem? e4)
        omega
    · have e1 : w6.cell? ⟨gp, i * 3 + 1, none⟩ = some (.int .u32 p.to) := (X9.P.parts.cellAt Pt.cs_length hpi (j := 1) rfl).1
      have fz1 : w6.drew.frozen? ⟨gp, i * 3 + 1, none⟩ = false := (X9.P.parts.cellAt Pt.cs_length hpi (j := 1) (v := .int .u32 p.to) rfl).2
      have e1d : w6.drew.cell? ⟨gp, i * 3 + 1, none⟩ = some (.int .u32 p.to) := e1
      have q1 : ∀ q : Step w6.heap.size w6.drew, q.w.cell? ⟨g9, 1, none⟩ = some (.slice (some ⟨gp, 0, none⟩) L c6) := fun q => (X9.box.drew.step q.h).cell 1
      have q2 : ∀ q : Step w6.heap.size w6.drew, q.w.cell? ⟨gp, i * 3 + 1, none⟩ = some (.int .u32 p.to) := fun q => (q.h.cell (p := ⟨gp, i * 3 + 1, none⟩) hgp3).trans e1
      have hpo := HF6.out.ok p (List.mem_of_getElem? hpi)
      obtain ⟨po1, po2, po3⟩ := hpo
      have hsum : IntKind.u32.wrap (p.to + 1) = (p.to + 1) % 4294967296 := by rw [IntKind.wrap_u32]
      clear hpi
      go_upto_region 8 with fail
      first | rw [H1.out] | rw [H2.out]
      refine wp_region_treeL 12 (.float 0 12 (.one 12 .done)) (Th.Reach (w6.heap.size)) (Th.Reach.trans _) (Th.Reach.refl _) (by kernel_rfl) (by kernel_rfl) (by kernel_rfl) (fun KT hKT => ?_)
      refine wpTreeL_float (fun KF hKF => ?_)
      simp only [List.drop, List.take]
      repeat (first | go_big_quiet_skip | ((with_reducible refine onq_index (.tmp 36) ?_); refine wqm_place rfl _ (.tmp 36) _ rfl el_part rfl rfl i ⟨rfl, hq3⟩ ?_) | ((with_reducible refine onq_index (.tmp 33) ?_); refine wqm_place rfl _ (.tmp 33) _ rfl el_part rfl rfl i ⟨rfl, hq3⟩ ?_) | go_big_quiet_step (fail) | quiet_step (fail))
      refine wpQuiet_nil ?_
      refine hKF _ ?_
      clear hKF KF
      refine wpTreeL_one (fun KO hKO => ?_)
      simp only [List.drop, List.take]
      go_wp2_with (first | fail)
      refine anch_last (hKO _ _ ?_)
      clear hKO KO
      refine wpTreeL_done ?_
      refine hKT _ _ ?_
      clear hKT KT
      go_wp2
      go_meet
      case rel =>
        have hpi := Hpi.out
        have P8 := X9.P.setTo hpi ((p.to + 1) % 4294967296)
        have bx8 := (X9.box.grown P8.2 (part_box X9.P.parts.ow X9.box)).drew
        have hpm := List.mem_of_getElem? hpi
        refine ⟨1, _, L, c6, 0, none, 0, 0, _, [], XF.c ⟨bx8, P8.1.below (bdrew1' _)⟩ (ok_set HF6.out.ok ⟨(HF6.out.ok p hpm).fr, by show 0 ≤ (p.to + 1) % 4294967296; omega, by show (p.to + 1) % 4294967296 ≤ 4294967295; omega⟩) hL1000 (by omega), Lib.hid (.inr (.inr (.inr (key_set Hks.out hpi ?_)))), (below_of_grown P8.2 (fun j e => by injection e with e; omega) zB).trans (bdrew1' _)⟩
        intro e
        have e3 : (p.to + 1) % 4294967296 = p.to := congrArg (fun x => x.2.1) e
        omega
  case rest =>
    obtain ⟨v9, A9, n9, c9, d9, T9, nt9, ct9, ps9, tr9, X, hne, hb⟩ := hcut
    have C9 := C8.step (B15.trans hb)
    have B9 := B5.trans ((B15.trans hb).mono B5.size)
    have n1 := Lib.hid (csame_no hne.out)
    have n2 := Lib.hid (csame_no (v := v9) (d := d9) (tr := tr9) (ps := ps9) (hne.out.imp Ne.symm (Or.imp Ne.symm (Or.imp Ne.symm Ne.symm))))
    have n0 := Lib.hid (csame_yes (v := 1) (v' := 1) (d := 0) (d' := 0) (tr := []) (tr' := []) (ps := ps3) (qs := ps3) rfl rfl rfl rfl)
    clear hne hb
    go_wp2_with ((with_reducible refine on_load (.tmp 8) ?_); refine wl_cbox rfl (.tmp 8) rfl rfl C9 ?_)
    refine (same_box C9 C9 true n0.out).mono ?_
    rintro e wd ⟨rfl, hbd⟩
    have C10 := C9.step hbd
    have X10 := X.step hbd
    go_wp2_with (first | ((with_reducible refine on_load (.tmp 8) ?_); refine wl_cbox rfl (.tmp 8) rfl rfl C10 ?_) | ((with_reducible refine on_load (.tmp 9) ?_); refine wl_cbox rfl (.tmp 9) rfl rfl X10 ?_))
    refine (same_box C10 X10 false n1.out).mono ?_
    rintro e we ⟨rfl, hbe⟩
    have C11 := C10.step hbe
    have X11 := X10.step hbe
    go_wp2_with (first | ((with_reducible refine on_load (.tmp 8) ?_); refine wl_cbox rfl (.tmp 8) rfl rfl C11 ?_) | ((with_reducible refine on_load (.tmp 9) ?_); refine wl_cbox rfl (.tmp 9) rfl rfl X11 ?_))
    refine (same_box X11 C11 false n2.out).mono ?_
    rintro e wf ⟨rfl, hbf⟩
    go_wp2
    go_ret
    exact ⟨rfl, B9.trans ((hbd.trans ((hbe.trans (hbf.mono hbe.size)).mono hbd.size)).mono B9.size)⟩
theorem certUnlike_walk {w : World} (v : Int) (Ap : Option Addr) (np cp : Nat) (d : Int) (At : Option Addr) (nt ct : Nat) (ps : List Pt) (tr : List Int) (ci : CertIn w v Ap np cp d At nt ct ps tr) (m0 : Int) (hm0 : 0 ≤ m0 ∧ m0 ≤ 255) (k0 : Int) (hk0 : 0 ≤ k0 ∧ k0 ≤ 255) :
    Calls Try.prog 9 #[.agg #[.int .i64 v, .slice Ap np cp, .int .u32 d, .slice At nt ct], .int .u8 m0, .int .u8 k0] w fun e w' => e = .returned (.bool true) ∧ Below w.heap.size w w' := by
  obtain ⟨m, rfl⟩ := Int.eq_ofNat_of_zero_le hm0.1
  obtain ⟨k, rfl⟩ := Int.eq_ofNat_of_zero_le hk0.1
  by_cases hv : bits .and .i64 v 1 = 0
  · exact certUnlike_loops v hv Ap np cp d At nt ct ps tr ci m k (by omega) (by omega)
  · exact certUnlike_free v hv Ap np cp d At nt ct ps tr ci m k (by omega) (by omega)
end Go.Proofs.Yteellpcagdnikaa
