/-
  certfile.Take.
-/
import Derived.Test.YtjambnlocjjjpaaCfList
import Derived.Deep.DeepCutAuto
namespace Go.Proofs.Ytjambnlocjjjpaa
open Go.RowKit Go.Th
set_option linter.unusedVariables false
/-- What Take answers. -/
def ftk (bs : List UInt8) : CR := if (ftake 1129468977 bs).2 ≠ 0 then ⟨0, [], 0, [], 0, (ftake 1129468977 bs).2⟩ else ctake (ftake 1129468977 bs).1
def RetCf (t : CR) (w : World) (e : Ending) (w' : World) : Prop :=
  ∃ Ap np cp At nt ct ps, e = .returned (.tuple #[.agg #[.int .i64 t.v, .slice Ap np cp, .int .u32 t.d, .slice At nt ct], .int .i64 t.nodes, .int .i64 t.e]) ∧ PRd w' w'.heap.size Ap np cp ps ∧ ps.map pkey = t.ks ∧ RdS iv w' w'.heap.size At nt ct t.tr ∧ Below w.heap.size w w'
theorem Rr.setNodes {w : World} {lo B g : Nat} {nodes N : Int} {r : Rs} (h : Rr w lo B g nodes r) : Rr (w.setCell ⟨g, 1, none⟩ (.int .i64 N)) lo B g N r ∧ w.grownBy (w.setCell ⟨g, 1, none⟩ (.int .i64 N)) (some g) ∧ w.frozen? ⟨g, 1, none⟩ = false ∧ w.cell? ⟨g, 1, none⟩ = some (.int .i64 nodes) := by
  obtain ⟨⟨A, n, c, hbx, hr, hn, hlo⟩, hge⟩ := h
  have bS := hbx.setCell 1 (.int .i64 N)
  exact ⟨⟨⟨A, n, c, bS.1, hr.grown bS.2 (fun k e => by injection e with e; omega), hn, hlo⟩, hge⟩, bS.2, hbx.frozen 1, hbx.cell 1⟩
theorem Rr.setErr {w : World} {lo B g : Nat} {nodes E : Int} {r : Rs} (h : Rr w lo B g nodes r) : Rr (w.setCell ⟨g, 2, none⟩ (.int .i64 E)) lo B g nodes (r.1, E) ∧ w.grownBy (w.setCell ⟨g, 2, none⟩ (.int .i64 E)) (some g) := by
  obtain ⟨⟨A, n, c, hbx, hr, hn, hlo⟩, hge⟩ := h
  have bS := hbx.setCell 2 (.int .i64 E)
  exact ⟨⟨⟨A, n, c, bS.1, hr.grown bS.2 (fun k e => by injection e with e; omega), hn, hlo⟩, hge⟩, bS.2⟩
theorem results_cell2 {P : Program} {fn : Func} {p u x : Tmp} {ty : TypeId} (h : fn.results = #[.cell p ty, .tmp u, .tmp x]) (tmps : Array Value) (w : World) (g : Nat) (t : TypeId) (cs : Array Value) (fr : Nat × Nat) (d : TypeDesc)
    (hp : tmps.getD p undef = .pointer (some ⟨g, 0, none⟩)) (hg : w.heap[g]? = some (.cells cs t fr)) {U X : Value} (hu2 : tmps.getD u undef = U) (hx2 : tmps.getD x undef = X)
    (hu : P.underlying ty = some d) (hd : (match d with | .struct _ | .array _ _ => true | _ => false) = true) (hi : (P.info? ty).map (·.size) = some cs.size) :
    (results fn tmps).run P w = .ok (.tuple #[.agg cs, U, X]) w := by
  have hp' : tmps[p]?.getD undef = .pointer (some ⟨g, 0, none⟩) := by simpa using hp
  have hu' : tmps[u]?.getD undef = U := by simpa using hu2
  have hx' : tmps[x]?.getD undef = X := by simpa using hx2
  simp [results, h, hp', hu', hx', asAddr, run_loadVar_row w g t ty cs fr d hg hu hd hi]
theorem retCf_err {er : Int} {w w' : World} (hb : Below w.heap.size w w') : RetCf ⟨0, [], 0, [], 0, er⟩ w (.returned (.tuple #[.agg #[.int .i64 0, .slice none 0 0, .int .u32 0, .slice none 0 0], .int .i64 0, .int .i64 er])) w' :=
  ⟨none, 0, 0, none, 0, 0, [], rfl, ⟨(OwM.nil_ _ _ _ : OwM Pt.cs 3 w' w'.heap.size 38 none 0 0 []).rd, by simp, by simp⟩, rfl, RdS.nil _ _, hb⟩
/-- The box of a certificate, in every world of a class. -/
theorem wqcv_box {ops : Array Oper} {rest : List Oper} {o : Oper} {a : Act} {C : World → Prop} {Q : Act → Prop} (hw : Region.wanted o (yielded ops a.tmps) = true) (x : Operand) (ho : o.op = .load 26 x) {g : Nat} {t : TypeId} {v : Int} {Ap : Option Addr} {np cp : Nat} {d : Int} {At : Option Addr} {nt ct : Nat} (hx : a.eval x = .pointer (some ⟨g, 0, none⟩)) (hb : ∀ w, C w → Box w g t (Cv v Ap np cp d At nt ct))
    (h : wpQuiet Try.prog ops C Q rest (a.put o.dst (.agg #[.int .i64 v, .slice Ap np cp, .int .u32 d, .slice At nt ct]))) : wpQuiet Try.prog ops C Q (o :: rest) a := by
  obtain ⟨fs, hu⟩ := st_cert.under
  refine wq_run hw (fun w hC => ?_) h
  simp only [execOp, ho, hx, Instr.loadAt, Instr.sureAddr, Sem.run_bind, Sem.run_pure, Result.andThen_ok, run_loadVar_row w g t 26 _ (0, 0) _ (hb w hC).at_ hu rfl st_cert.size]
  rfl
/-- The same, its cells told. -/
theorem wqcv_cells {ops : Array Oper} {rest : List Oper} {o : Oper} {a : Act} {C : World → Prop} {Q : Act → Prop} (hw : Region.wanted o (yielded ops a.tmps) = true) (x : Operand) (ho : o.op = .load 26 x) {g : Nat} {v : Int} {Ap : Option Addr} {np cp : Nat} {d : Int} {At : Option Addr} {nt ct : Nat} (hx : a.eval x = .pointer (some ⟨g, 0, none⟩)) (hb : ∀ w, C w → ∀ i u, [Value.int .i64 v, .slice Ap np cp, .int .u32 d, .slice At nt ct][i]? = some u → w.cell? ⟨g, 0 + i, none⟩ = some u)
    (h : wpQuiet Try.prog ops C Q rest (a.put o.dst (.agg #[.int .i64 v, .slice Ap np cp, .int .u32 d, .slice At nt ct]))) : wpQuiet Try.prog ops C Q (o :: rest) a :=
  wq_run hw (fun w hC => by simp only [execOp, ho, hx, Instr.loadAt, Instr.sureAddr, Sem.run_bind, Sem.run_pure, Result.andThen_ok, run_loadVar_at st_cert (cs := [Value.int .i64 v, .slice Ap np cp, .int .u32 d, .slice At nt ct]) rfl (hb w hC)]) h
/-- Behind the two roads: the certificate is read. -/
def TkMid (t : CR) (w : World) (g N : Nat) (v : Int) (wx : World) : Prop :=
  ∃ Ap np cp d At nt ct ps tr rr, Rr wx (w.heap.size + 1) g g N rr ∧ Box wx w.heap.size 26 (Cv v Ap np cp d At nt ct) ∧ PO wx (g + 1) Ap np cp ps ∧ OwS iv wx (g + 1) 3 At nt ct tr ∧ Hid (cend v (ps.map pkey) d tr N rr = t) ∧ np ≤ 1000000 ∧ nt ≤ 1000000 ∧ (∀ x ∈ tr, 0 ≤ x ∧ x < 268435456) ∧ (∀ p ∈ ps, p.n ≤ 256) ∧ Below w.heap.size w wx
set_option maxRecDepth 100000 in
set_option maxHeartbeats 4000000 in
theorem cftake_any (A : Option Addr) (n c : Nat) (w : World) (hn : n ≤ 1000000) (bs : List UInt8) (hr : RdS bv w w.heap.size A n c bs) (t : CR) (ht : Hid (ftk bs = t)) :
    Calls Try.prog 17 #[.slice A n c] w (RetCf t w) := by
  obtain ⟨fr, hfr⟩ : ∃ fr, ftake 1129468977 bs = fr := ⟨_, rfl⟩
  have htk := ht.out
  unfold ftk at htk
  rw [hfr] at htk
  have Hfr := Lib.hid hfr
  clear hfr ht
  have k0 := below_alloc w (Nat.le_refl _) (.cells (Cv 0 none 0 0 0 none 0 0) 26)
  have b0 : Box (w.alloc (.cells (Cv 0 none 0 0 0 none 0 0) 26)) w.heap.size 26 (Cv 0 none 0 0 0 none 0 0) := Box.new w _ _
  have hr0 := (hr.step k0).heap
  have Htk := Lib.hid htk
  clear htk
  go_enter Try.func17, Try.ntmps17
  go_upto_region 2 with (go_at_call 31; refine (ftake_any 1129468977 (by omega) 1129468977 rfl A n c _ hn bs hr0).mono ?_; rintro e w1 ⟨A1, n1, c1, rfl, ow1, hb1⟩)
  have b1 := b0.step hb1
  have k1 := k0.trans (hb1.mono k0.size)
  have hs1 : w.heap.size + 1 ≤ w1.heap.size := b1.lt
  clear b0 k0 hr0
  rw [Hfr.out] at ow1 ⊢
  by_cases he : fr.2 ≠ 0
  · have htk := Htk.out
    rw [if_pos he] at htk
    subst htk
    have hb : (fr.2 != 0) = true := by simpa using he
    go_wp2_with ((with_reducible refine on_store_at (.tmp 2) ?_); refine wb_store (cs := Cv 0 none 0 0 0 none 0 0) (cs' := Cv 0 none 0 0 0 none 0 0) rfl _ (.tmp 2) _ rfl st_cert rfl rfl b1 rfl rfl (by simp [Cv, Value.oneCell']) ?_; intro w4 bx4 hg4)
    refine bodyPost_ret (results_cell2 rfl _ w4 w.heap.size 26 _ (0, 0) _ rfl bx4.at_ rfl rfl Try.underlying26 rfl st_cert.size) rfl ?_
    exact retCf_err (k1.trans (below_of_grown hg4 (fun j e => by injection e with e; omega) k1.size))
  · have htk := Htk.out
    rw [if_neg he] at htk
    have he0 : fr.2 = 0 := by simpa using he
    have hb : (fr.2 != 0) = false := by simp [he0]
    have Htk2 := Lib.hid htk
    clear htk Htk he
    have lo1 : ∀ k, rowOf A1 = some k → w.heap.size + 1 ≤ k := fun k hk => by have := ow1.ow.row_ge k hk; simpa using this
    have hn1 : n1 ≤ 1000000 := by
      have h1 : ftake 1129468977 bs = (fr.1, 0) := by rw [Hfr.out, ← he0]
      have h2 := congrArg List.length (fput_ftake h1)
      rw [fput_length] at h2
      have := ow1.len
      have := hr.len
      omega
    clear hr
    go_upto_region 5 with fail
    have R3 : Rr (w1.alloc (.cells #[.slice A1 n1 c1, .int .i64 0, .int .i64 0] 74)) (w.heap.size + 1) w1.heap.size w1.heap.size 0 (fr.1, 0) := ⟨⟨A1, n1, c1, Box.new _ _ _, ow1.rd.alloc _, hn1, lo1⟩, Nat.le_refl _⟩
    have k3 := k1.trans ((below_alloc w1 (Nat.le_refl _) (.cells #[.slice A1 n1 c1, .int .i64 0, .int .i64 0] 74)).mono k1.size)
    have b3 := b1.alloc (.cells #[.slice A1 n1 c1, .int .i64 0, .int .i64 0] 74)
    obtain ⟨w3, hw3⟩ : ∃ W, w1.alloc (.cells #[.slice A1 n1 c1, .int .i64 0, .int .i64 0] 74) = W := ⟨_, rfl⟩
    rw [hw3] at R3 k3 b3 ⊢
    clear hw3 ow1 b1 hb1
    obtain ⟨bi, hbi⟩ : ∃ bi, fr.1 = bi := ⟨_, rfl⟩
    rw [hbi] at R3 Htk2
    clear hbi lo1 hn1
    have hgg : w.heap.size < w1.heap.size := by omega
    have hunf := Htk2.out
    unfold ctake at hunf
    obtain ⟨nv, hnv⟩ : ∃ nv, rnum 1 (bi, 0) = nv := ⟨_, rfl⟩
    obtain ⟨ra, hra⟩ : ∃ ra, cact bi = ra := ⟨_, rfl⟩
    have hra2 := hra
    unfold cact at hra2
    rw [hnv] at hra2 hunf
    rw [hra] at hunf
    have hcn := rdnum_any (w.heap.size + 1) w1.heap.size w1.heap.size 0 (bi, 0) 1 1 rfl (by omega) w3 R3
    rw [hnv] at hcn
    have Hcn := Lib.hid hcn
    have Hra := Lib.hid hra2
    have Hun := Lib.hid hunf
    clear hcn hra hra2 hnv hunf R3 Htk2
    go_upto_region 6 with (go_at_call 32; refine (Hcn.out).mono ?_; rintro e w4 ⟨rfl, R4, g4⟩; have b4 := b3.grown g4 (fun e => by injection e with e; omega); have y0 : w4.cell? ⟨w.heap.size, 0, none⟩ = some (.int .i64 0) := b4.cell 0; have f0 := b4.frozen 0; have bS4 := b4.setCell 0 (.int .i64 nv.1))
    have k4 : Below w.heap.size w w4 := (k3.trans (below_of_grown g4 (B := w.heap.size) (fun j e => by injection e with e; omega) k3.size))
    have R5 := R4.grown bS4.2 (fun j e => .inr (by injection e with e; omega))
    have k5 := k4.trans (below_of_grown bS4.2 (B := w.heap.size) (fun j e => by injection e with e; omega) k4.size)
    have b5 : Box (w4.setCell ⟨w.heap.size, 0, none⟩ (.int .i64 nv.1)) w.heap.size 26 (Cv nv.1 none 0 0 0 none 0 0) := bS4.1
    obtain ⟨w5, hw5⟩ : ∃ W, w4.setCell ⟨w.heap.size, 0, none⟩ (.int .i64 nv.1) = W := ⟨_, rfl⟩
    rw [hw5] at R5 k5 b5 ⊢
    clear hw5 bS4 f0 y0 k4 b4 R4 g4 Hcn b3 k3
    have c5 : w5.cell? ⟨w.heap.size, 0, none⟩ = some (.int .i64 nv.1) := b5.cell 0
    have hv3 : ((nv.1 != 1) = false ∧ nv.1 = 1) ∨ ((nv.1 != 1) = true ∧ (nv.1 != 2) = false ∧ nv.1 = 2) ∨ ((nv.1 != 1) = true ∧ (nv.1 != 2) = true) := by
      by_cases h1 : nv.1 = 1
      · exact .inl ⟨by simp [h1], h1⟩
      · by_cases h2 : nv.1 = 2
        · exact .inr (.inl ⟨by simp [h2], by simp [h2], h2⟩)
        · exact .inr (.inr ⟨by simpa using h1, by simpa using h2⟩)
    have Hv3 := Lib.hid hv3
    clear hv3
    go_cut [31] (fun s31 wx => wx = w5 ∧ ∃ bad : Bool, s31 = .bool bad ∧ Hid (bad = true ↔ (nv.1 ≠ 1 ∧ nv.1 ≠ 2)))
    case first =>
      rcases Hv3.out with ⟨v1, v2⟩ | ⟨v1, v2, v3⟩ | ⟨v1, v2⟩
      · have hx := Lib.hid v2
        clear v2
        go_wp2
        go_meet
        case rel => exact ⟨rfl, false, rfl, Lib.hid (by have := hx.out; simp; omega)⟩
      · have hx := Lib.hid v3
        clear v3
        go_wp2
        go_meet
        case rel => exact ⟨rfl, false, rfl, Lib.hid (by have := hx.out; simp; omega)⟩
      · have hx : Hid (nv.1 ≠ 1 ∧ nv.1 ≠ 2) := Lib.hid ⟨by simpa using v1, by simpa using v2⟩
        go_wp2
        go_meet
        case rel => exact ⟨rfl, true, rfl, Lib.hid (by simpa using hx.out)⟩
    case rest =>
      obtain ⟨rfl, bad, rfl, Hbad⟩ := hcut
      go_upto_if 31 with fail
      go_cut [31] (fun s31 wx => Rr wx (w.heap.size + 1) w1.heap.size w1.heap.size 0 ra ∧ Box wx w.heap.size 26 (Cv nv.1 none 0 0 0 none 0 0) ∧ Below w.heap.size w wx)
      case first =>
        cases bad with
        | true =>
          have hra3 := Hra.out
          rw [if_pos (Hbad.out.1 rfl)] at hra3
          have Hr3 := Lib.hid hra3
          clear hra3
          go_wp2_with (go_at_call 33; refine (rdfail_any _ _ _ _ _ 9 _ R5).mono ?_; rintro e w6 ⟨rfl, R6, g6⟩)
          go_meet
          case rel =>
            rw [Hr3.out] at R6
            exact ⟨R6, b5.grown g6 (fun e => by injection e with e; omega), k5.trans (below_of_grown g6 (B := w.heap.size) (fun j e => by injection e with e; omega) k5.size)⟩
        | false =>
          have hra3 := Hra.out
          rw [if_neg (fun h => by have := Hbad.out.2 h; cases this)] at hra3
          have Hr3 := Lib.hid hra3
          clear hra3
          go_wp2
          go_meet
          case rel =>
            rw [Hr3.out] at R5
            exact ⟨R5, b5, k5⟩
      case rest =>
        obtain ⟨R6, b6, k6⟩ := hcut
        clear c5 b5 k5 R5 Hbad Hra
        have hcn := rdcnt_any (w.heap.size + 1) w1.heap.size w1.heap.size 0 ra 256 wc R6
        have hbd := rcnt_bd 256 (by omega) ra
        obtain ⟨nd, hnd⟩ : ∃ nd, rcnt 256 ra = nd := ⟨_, rfl⟩
        have hun := Hun.out
        rw [hnd] at hcn hbd hun
        obtain ⟨n2, r2⟩ := nd
        simp only at hbd hun hcn
        obtain ⟨N, rfl⟩ := Int.eq_ofNat_of_zero_le hbd.1
        have hN : N ≤ 256 := by omega
        have Hcn := Lib.hid hcn
        have Hun2 := Lib.hid hun
        clear hcn hun hnd Hun hbd
        go_upto_region 9 with (go_at_call 34; refine (Hcn.out).mono ?_; rintro e w7 ⟨rfl, R7, g7⟩; have b7 := b6.grown g7 (fun e => by injection e with e; omega); obtain ⟨R8, g8, f8, d8⟩ := R7.setNodes (N := (N : Int)))
        have b8 := b7.grown g8 (fun e => by injection e with e; omega)
        have k8 := (k6.trans (below_of_grown g7 (B := w.heap.size) (fun j e => by injection e with e; omega) k6.size))
        have k8 := k8.trans (below_of_grown g8 (B := w.heap.size) (fun j e => by injection e with e; omega) k8.size)
        obtain ⟨w8, hw8⟩ : ∃ W, w7.setCell ⟨w1.heap.size, 1, none⟩ (.int .i64 (N : Int)) = W := ⟨_, rfl⟩
        rw [hw8] at R8 k8 b8 ⊢
        clear hw8 g8 f8 d8 R7 g7 Hcn b7 b6 k6 R6
        have c8 : w8.cell? ⟨w.heap.size, 0, none⟩ = some (.int .i64 nv.1) := b8.cell 0
        have hv2 : ((nv.1 == 1) = true ∧ nv.1 = 1) ∨ ((nv.1 == 1) = false ∧ nv.1 ≠ 1) := by
          by_cases h1 : nv.1 = 1
          · exact .inl ⟨by simp [h1], h1⟩
          · exact .inr ⟨by simpa using h1, h1⟩
        have Hv2 := Lib.hid hv2
        clear hv2
        go_upto_if 41 with fail
        go_cut [41] (fun s41 wx => TkMid t w w1.heap.size N nv.1 wx)
        case first =>
          rcases Hv2.out with ⟨v1, v2⟩ | ⟨v1, v2⟩
          · have h1 : w8.cell? ⟨w.heap.size, 1, none⟩ = some (.slice none 0 0) := b8.cell 1
            have hun := Hun2.out
            rw [if_pos v2] at hun
            unfold cfreeT at hun
            have hcn := rdcnt_any (w.heap.size + 1) w1.heap.size w1.heap.size N r2 8193 w8 R8
            have hbd := rcnt_bd 8193 (by omega) r2
            obtain ⟨nd, hnd⟩ : ∃ nd, rcnt 8193 r2 = nd := ⟨_, rfl⟩
            rw [hnd] at hun hcn hbd
            obtain ⟨n3, r3⟩ := nd
            simp only at hun hcn hbd
            obtain ⟨M, rfl⟩ := Int.eq_ofNat_of_zero_le hbd.1
            rw [Int.toNat_natCast] at hun
            have hM : M ≤ 8193 := by omega
            have Hcn := Lib.hid hcn
            have Hun3 := Lib.hid hun
            have Hv := Lib.hid v2
            clear hcn hun hnd hbd v2
            go_wp2_with (first
              | (go_at_call 34; refine (Hcn.out).mono ?_; rintro e w9 ⟨rfl, R9, g9⟩)
              | (go_at_call 36; refine (rdparts_any (w.heap.size + 1) w1.heap.size w1.heap.size N hN r3 M (by omega) _ R9).mono ?_; rintro e w10 ⟨Ap, np, cp, ps, rfl, po, Hks, R10, g10⟩; have b10 := (b8.grown g9 (fun e => by injection e with e; omega)).grown g10 (fun e => by injection e with e; omega); have y10 : w10.cell? ⟨w.heap.size, 1, none⟩ = some (.slice none 0 0) := b10.cell 1; have f10 := b10.frozen 1; have bS := b10.setCell 1 (.slice Ap np cp)))
            go_meet
            case rel =>
              have hs8 := k8.size
              have hs9 := g9.size
              have hs10 := g10.size
              have hl9 := R9.lt
              have k9 := k8.trans (below_of_grown g9 (B := w.heap.size) (fun j e => by injection e with e; omega) k8.size)
              have k10 := k9.trans (below_of_grown g10 (B := w.heap.size) (fun j e => by injection e with e; omega) k9.size)
              have k11 := k10.trans (below_of_grown bS.2 (B := w.heap.size) (fun j e => by injection e with e; omega) k10.size)
              have hlen := po.row.len
              have hl2 := rlist_len (one := rpart N) M [] r3
              have hk := congrArg List.length Hks.out
              refine ⟨Ap, np, cp, 0, none, 0, 0, ps, [], _, R10.grown bS.2 (fun j e => .inr (by injection e with e; omega)), bS.1, (po.grown bS.2 (fun j e => by injection e with e; omega)).base_le (by omega), OwS.nil_ _ _ _, by rw [Hks.out, Hv.out]; exact Hun3, ?_, by omega, by simp, ?_, k11⟩
              · simp at hk hl2; omega
              · intro p hp
                have h2 := rlist_all (one := rpart N) (P := fun k : PK => k.2.2.length ≤ 256) (fun r => by
                  have := rlist_len (one := rgrp) (N : Int).toNat [] (rnum 4 (rnum 4 r).2).2
                  simp at this
                  exact Nat.le_trans this hN) M [] r3 (by simp) (pkey p) (by rw [← Hks.out]; exact List.mem_map.2 ⟨p, hp, rfl⟩)
                have h3 := (po.rk p hp).len
                have h4 : p.rk.length ≤ 256 := h2
                omega
          · have h2 : w8.cell? ⟨w.heap.size, 2, none⟩ = some (.int .u32 0) := b8.cell 2
            have hun := Hun2.out
            rw [if_neg v2] at hun
            unfold cloopT at hun
            have hcd := rdnum_any (w.heap.size + 1) w1.heap.size w1.heap.size N r2 4 4 rfl (by omega) w8 R8
            have hbd := rnum_bd 4 r2
            obtain ⟨nd, hnd⟩ : ∃ nd, rnum 4 r2 = nd := ⟨_, rfl⟩
            rw [hnd] at hun hcd hbd
            obtain ⟨dd, r3⟩ := nd
            simp only at hun hcd hbd
            have hdd : 0 ≤ dd ∧ dd ≤ 4294967295 := ⟨hbd.1, by have := hbd.2; simp at this; omega⟩
            have hcn := fun w9 h9 => rdcnt_any (w.heap.size + 1) w1.heap.size w1.heap.size N r3 256 w9 h9
            have hbd2 := rcnt_bd 256 (by omega) r3
            obtain ⟨nd2, hnd2⟩ : ∃ nd, rcnt 256 r3 = nd := ⟨_, rfl⟩
            rw [hnd2] at hun hcn hbd2
            obtain ⟨n4, r4⟩ := nd2
            simp only at hun hcn hbd2
            obtain ⟨M, rfl⟩ := Int.eq_ofNat_of_zero_le hbd2.1
            rw [Int.toNat_natCast] at hun
            have hM : M ≤ 256 := by omega
            have Hcd := Lib.hid hcd
            have Hcn := Lib.hid hcn
            have Hun3 := Lib.hid hun
            clear hcn hun hnd hbd v2 hcd hnd2 hbd2
            go_wp2_with (first
              | (go_at_call 32; refine (Hcd.out).mono ?_; rintro e w9 ⟨rfl, R9, g9⟩; have b9 := b8.grown g9 (fun e => by injection e with e; omega); have y9 : w9.cell? ⟨w.heap.size, 2, none⟩ = some (.int .u32 0) := b9.cell 2; have f9 := b9.frozen 2; have bS9 := b9.setCell 2 (.int .u32 dd); have R9' := R9.grown bS9.2 (fun j e => .inr (by injection e with e; omega)))
              | (go_at_call 34; refine (Hcn.out _ R9').mono ?_; rintro e w10 ⟨rfl, R10, g10⟩; have b10 := bS9.1.grown g10 (fun e => by injection e with e; omega))
              | (go_at_call 38; refine (rdlist_any (w.heap.size + 1) w1.heap.size w1.heap.size N r4 M (by omega) _ R10).mono ?_; rintro e w11 ⟨At, nt, ct, rfl, ot, R11, g11⟩; have b11 := b10.grown g11 (fun e => by injection e with e; omega); have y11 : w11.cell? ⟨w.heap.size, 3, none⟩ = some (.slice none 0 0) := b11.cell 3; have f11 := b11.frozen 3; have bS := b11.setCell 3 (.slice At nt ct)))
            go_meet
            case rel =>
              have hl10 := R10.lt
              have k9 := k8.trans (below_of_grown g9 (B := w.heap.size) (fun j e => by injection e with e; omega) k8.size)
              have k9 := k9.trans (below_of_grown bS9.2 (B := w.heap.size) (fun j e => by injection e with e; omega) k9.size)
              have k10 := k9.trans (below_of_grown g10 (B := w.heap.size) (fun j e => by injection e with e; omega) k9.size)
              have k11 := k10.trans (below_of_grown g11 (B := w.heap.size) (fun j e => by injection e with e; omega) k10.size)
              have k12 := k11.trans (below_of_grown bS.2 (B := w.heap.size) (fun j e => by injection e with e; omega) k11.size)
              have hlen := ot.len
              have hl2 := rlist_len (one := rgrp) M [] r4
              refine ⟨none, 0, 0, dd, At, nt, ct, [], _, _, R11.grown bS.2 (fun j e => .inr (by injection e with e; omega)), bS.1, PO.nil _ _, (ot.grown bS.2 (fun g' hA e => by have := ot.ow.row_ge g' (by rw [hA]; rfl); injection e with e; omega)).base_le (by omega), Hun3, by omega, ?_, rlist_all rgrp_bd M [] r4 (by simp), by simp, k12⟩
              simp at hl2
              omega
        case rest =>
          obtain ⟨Ap, np, cp, d, At, nt, ct, ps, tr, rr, R, bx, po, ot, Hend, hnp, hnt, htr, hsm, k⟩ := hcut
          clear c8 b8 k8 R8 Hun2 Hv2
          have z0 : ∃ Ar nr cr, wc.cell? ⟨w1.heap.size, 0, none⟩ = some (.slice Ar nr cr) ∧ nr = rr.1.length := by
            obtain ⟨⟨Ar, nr, cr, bxr, hrr, hnr, hlr⟩, hge⟩ := R
            exact ⟨Ar, nr, cr, bxr.cell 0, hrr.len.symm⟩
          obtain ⟨Ar, nr, cr, z0, hnr⟩ := z0
          have hmr : (0 < nr ∧ rr.1 ≠ []) ∨ (nr = 0 ∧ rr.1 = []) := by
            cases hrr : rr.1 with
            | nil => exact .inr ⟨by rw [hnr, hrr]; rfl, rfl⟩
            | cons a l => exact .inl ⟨by rw [hnr, hrr]; simp, by simp⟩
          have Hmr := Lib.hid hmr
          clear hmr hnr
          go_upto_if 65 with fail
          go_cut [65] (fun s65 wx => Rr wx (w.heap.size + 1) w1.heap.size w1.heap.size N (rmore rr) ∧ Box wx w.heap.size 26 (Cv nv.1 Ap np cp d At nt ct) ∧ PO wx (w1.heap.size + 1) Ap np cp ps ∧ OwS iv wx (w1.heap.size + 1) 3 At nt ct tr ∧ Below w.heap.size w wx)
          case first =>
            rcases Hmr.out with ⟨m1, m2⟩ | ⟨rfl, m2⟩
            · have er : rmore rr = rfail 4 rr := if_pos m2
              have Er := Lib.hid er
              clear er m2
              go_wp2_with (go_at_call 33; refine (rdfail_any _ _ _ _ _ 4 _ R).mono ?_; rintro e w9 ⟨rfl, R9, g9⟩)
              go_meet
              case rel =>
                rw [Er.out]
                exact ⟨R9, bx.grown g9 (fun e => by injection e with e; omega), po.grown g9 (fun j e => by injection e with e; omega), ot.grown g9 (fun g' hA e => by have := ot.ow.row_ge g' (by rw [hA]; rfl); injection e with e; omega), k.trans (below_of_grown g9 (B := w.heap.size) (fun j e => by injection e with e; omega) k.size)⟩
            · have er : rmore rr = rr := if_neg (fun h => h m2)
              have Er := Lib.hid er
              clear er m2
              go_wp2
              go_meet
              case rel =>
                rw [Er.out]
                exact ⟨R, bx, po, ot, k⟩
          case rest =>
            clear z0 Hmr R bx po ot k
            obtain ⟨R, bx, po, ot, k⟩ := hcut
            obtain ⟨rm, hrm⟩ : ∃ rm, rmore rr = rm := ⟨_, rfl⟩
            obtain ⟨V, hV⟩ : ∃ V, cmay nv.1 ps d tr N = V := ⟨_, rfl⟩
            have hen := Hend.out
            unfold cend at hen
            rw [hrm, cmayK_of, hV] at hen
            rw [hrm] at R
            obtain ⟨E, hE⟩ : ∃ E, (if rm.2 = 0 then V else rm.2) = E := ⟨_, rfl⟩
            rw [hE] at hen
            have HV := Lib.hid hV
            have HE := Lib.hid hE
            have Hen := Lib.hid hen
            clear hV hE hen hrm Hend
            have z2 : wc.cell? ⟨w1.heap.size, 2, none⟩ = some (.int .i64 rm.2) := by
              obtain ⟨⟨Ar, nr, cr, bxr, hrr, hnr, hlr⟩, hge⟩ := R
              exact bxr.cell 2
            have hmr : ((rm.2 == 0) = true ∧ rm.2 = 0) ∨ ((rm.2 == 0) = false ∧ rm.2 ≠ 0) := by
              by_cases h : rm.2 = 0
              · exact .inl ⟨by simp [h], h⟩
              · exact .inr ⟨by simpa using h, h⟩
            have Hmr := Lib.hid hmr
            clear hmr
            go_upto_if 72 with fail
            go_cut [72] (fun s72 wx => Rr wx (w.heap.size + 1) w1.heap.size w1.heap.size N (rm.1, E) ∧ Box wx w.heap.size 26 (Cv nv.1 Ap np cp d At nt ct) ∧ PO wx (w1.heap.size + 1) Ap np cp ps ∧ OwS iv wx (w1.heap.size + 1) 3 At nt ct tr ∧ Below w.heap.size w wx)
            case first =>
              rcases Hmr.out with ⟨m1, m2⟩ | ⟨m1, m2⟩
              · have hE2 := HE.out
                rw [if_pos m2] at hE2
                subst hE2
                clear m2
                have gl := R.lt
                have bl := bx.lt
                have qb : ∀ w', Th.Reach wc.heap.size wc.drew w' → Box w' w.heap.size 26 (Cv nv.1 Ap np cp d At nt ct) := fun w' h => bx.drew.step h.below
                have R' : Rr wc.drew (w.heap.size + 1) w1.heap.size w1.heap.size N rm := R.below (bdrew1 wc)
                have q1 : ∀ q : Step wc.heap.size wc.drew, q.w.cell? ⟨w1.heap.size, 1, none⟩ = some (.int .i64 N) := fun q => by
                  obtain ⟨⟨Ar, nr, cr, bxr, hrr, hnr, hlr⟩, hge⟩ := R'
                  exact (bxr.step q.h).cell 1
                have po' := po.below (bdrew1 wc)
                have ot' := ot.below (bdrew1 wc)
                have hmay := cmay_is nv.1 Ap np cp d At nt ct N wc.drew (by omega) (by omega) ps tr wc.drew.heap.size (Nat.le_refl _) po'.rd ot'.rd (fun x hx => by have := htr x hx; omega) (fun p hp => by have := hsm p hp; omega) _ HV.out
                have Hmay := Lib.hid hmay
                clear hmay
                go_upto_region 18 with fail
                refine wp_region_treeL 9 (.float 0 3 (.one 3 (.float 4 2 (.one 6 (.one 7 (.float 8 1 (.one 9 .done))))))) (Th.Reach (wc.heap.size)) (Th.Reach.trans _) (Th.Reach.refl _) (by kernel_rfl) (by kernel_rfl) (by kernel_rfl) (fun KT hKT => ?_)
                refine wpTreeL_float (fun KF hKF => ?_)
                simp only [List.drop, List.take]
                repeat (first | go_big_quiet_skip | ((with_reducible refine onq_load (.tmp 2) ?_); refine wqcv_box rfl (.tmp 2) rfl rfl qb ?_) | go_big_quiet_step (fail) | quiet_step (fail))
                refine wpQuiet_nil ?_
                refine hKF _ ?_
                clear hKF KF
                refine wpTreeL_one (fun KO hKO => ?_)
                simp only [List.drop, List.take]
                go_wp2_with (first | (go_at_call 20; refine (Hmay.out).mono ?_; rintro e w9 ⟨rfl, hb9⟩; have R9 := R'.below hb9; have y9 : w9.cell? ⟨w1.heap.size, 2, none⟩ = some (.int .i64 rm.2) := (by obtain ⟨⟨Ar, nr, cr, bxr, hrr, hnr, hlr⟩, hge⟩ := R9; exact bxr.cell 2); have f9 : w9.frozen? ⟨w1.heap.size, 2, none⟩ = false := (by obtain ⟨⟨Ar, nr, cr, bxr, hrr, hnr, hlr⟩, hge⟩ := R9; exact bxr.frozen 2); have S9 := R9.setErr (E := V)))
                refine anch_endL (Th.Reach.of (by first | exact Below.refl _ _ | exact below_alloc _ (by first | omega | (simp; done) | (simp; omega)) _ | exact below_alloc2 _ (by first | omega | (simp; done) | (simp; omega)) _ _ | exact below_alloc2d _ (by simp) _ _ | exact bdrew _ _ | assumption | (exact Below.mono (by assumption) (by first | (simp; done) | (simp; omega) | omega | assumption)))) (hKO _ _ ?_)
                clear hKO KO
                refine wpTreeL_float (fun KF hKF => ?_)
                simp only [List.drop, List.take]
                repeat (first | go_big_quiet_skip | ((with_reducible refine onq_load (.tmp 2) ?_); refine wqcv_box rfl (.tmp 2) rfl rfl qb ?_) | go_big_quiet_step (fail) | quiet_step (fail))
                refine wpQuiet_nil ?_
                refine hKF _ ?_
                clear hKF KF
                refine wpTreeL_one (fun KO hKO => ?_)
                simp only [List.drop, List.take]
                go_wp2_with (first | (go_at_call 20; refine (Hmay.out).mono ?_; rintro e w9 ⟨rfl, hb9⟩; have R9 := R'.below hb9; have y9 : w9.cell? ⟨w1.heap.size, 2, none⟩ = some (.int .i64 rm.2) := (by obtain ⟨⟨Ar, nr, cr, bxr, hrr, hnr, hlr⟩, hge⟩ := R9; exact bxr.cell 2); have f9 : w9.frozen? ⟨w1.heap.size, 2, none⟩ = false := (by obtain ⟨⟨Ar, nr, cr, bxr, hrr, hnr, hlr⟩, hge⟩ := R9; exact bxr.frozen 2); have S9 := R9.setErr (E := V)))
                refine anch_endL (Th.Reach.of (by first | exact Below.refl _ _ | exact below_alloc _ (by first | omega | (simp; done) | (simp; omega)) _ | exact below_alloc2 _ (by first | omega | (simp; done) | (simp; omega)) _ _ | exact below_alloc2d _ (by simp) _ _ | exact bdrew _ _ | assumption | (exact Below.mono (by assumption) (by first | (simp; done) | (simp; omega) | omega | assumption)))) (hKO _ _ ?_)
                clear hKO KO
                refine wpTreeL_one (fun KO hKO => ?_)
                simp only [List.drop, List.take]
                go_wp2_with (first | (go_at_call 20; refine (Hmay.out).mono ?_; rintro e w9 ⟨rfl, hb9⟩; have R9 := R'.below hb9; have y9 : w9.cell? ⟨w1.heap.size, 2, none⟩ = some (.int .i64 rm.2) := (by obtain ⟨⟨Ar, nr, cr, bxr, hrr, hnr, hlr⟩, hge⟩ := R9; exact bxr.cell 2); have f9 : w9.frozen? ⟨w1.heap.size, 2, none⟩ = false := (by obtain ⟨⟨Ar, nr, cr, bxr, hrr, hnr, hlr⟩, hge⟩ := R9; exact bxr.frozen 2); have S9 := R9.setErr (E := V)))
                refine anch_endL (Th.Reach.of (by first | exact Below.refl _ _ | exact below_alloc _ (by first | omega | (simp; done) | (simp; omega)) _ | exact below_alloc2 _ (by first | omega | (simp; done) | (simp; omega)) _ _ | exact below_alloc2d _ (by simp) _ _ | exact bdrew _ _ | assumption | (exact Below.mono (by assumption) (by first | (simp; done) | (simp; omega) | omega | assumption)))) (hKO _ _ ?_)
                clear hKO KO
                refine wpTreeL_float (fun KF hKF => ?_)
                simp only [List.drop, List.take]
                repeat (first | go_big_quiet_skip | ((with_reducible refine onq_load (.tmp 2) ?_); refine wqcv_box rfl (.tmp 2) rfl rfl qb ?_) | go_big_quiet_step (fail) | quiet_step (fail))
                refine wpQuiet_nil ?_
                refine hKF _ ?_
                clear hKF KF
                refine wpTreeL_one (fun KO hKO => ?_)
                simp only [List.drop, List.take]
                go_wp2_with (first | (go_at_call 20; refine (Hmay.out).mono ?_; rintro e w9 ⟨rfl, hb9⟩; have R9 := R'.below hb9; have y9 : w9.cell? ⟨w1.heap.size, 2, none⟩ = some (.int .i64 rm.2) := (by obtain ⟨⟨Ar, nr, cr, bxr, hrr, hnr, hlr⟩, hge⟩ := R9; exact bxr.cell 2); have f9 : w9.frozen? ⟨w1.heap.size, 2, none⟩ = false := (by obtain ⟨⟨Ar, nr, cr, bxr, hrr, hnr, hlr⟩, hge⟩ := R9; exact bxr.frozen 2); have S9 := R9.setErr (E := V)))
                refine anch_last (hKO _ _ ?_)
                clear hKO KO
                refine wpTreeL_done ?_
                refine hKT _ _ ?_
                clear hKT KT
                have bd : Below wc.heap.size wc w9 := (bdrew1 wc).trans hb9
                go_wp2
                go_meet
                case rel =>
                  have b9 := bx.step bd
                  exact ⟨S9.1, b9.grown S9.2 (fun e => by injection e with e; omega), (po.below bd).grown S9.2 (fun j e => by injection e with e; omega), (ot.below bd).grown S9.2 (fun g' hA e => by have := ot.ow.row_ge g' (by rw [hA]; rfl); injection e with e; omega), (k.trans (bd.mono k.size)).trans (below_of_grown S9.2 (B := w.heap.size) (fun j e => by injection e with e; omega) (by have := bd.size; have := k.size; omega))⟩
              · have hE2 := HE.out
                rw [if_neg m2] at hE2
                subst hE2
                clear m2
                go_wp2
                go_meet
                case rel => exact ⟨R, bx, po, ot, k⟩
            case rest =>
              clear z2 Hmr R bx po ot k
              obtain ⟨R, bx, po, ot, k⟩ := hcut
              have gl := R.lt
              have bl := bx.lt
              have z2 : wc.cell? ⟨w1.heap.size, 2, none⟩ = some (.int .i64 E) := by
                obtain ⟨⟨Ar, nr, cr, bxr, hrr, hnr, hlr⟩, hge⟩ := R
                exact bxr.cell 2
              have z1 : wc.cell? ⟨w1.heap.size, 1, none⟩ = some (.int .i64 N) := by
                obtain ⟨⟨Ar, nr, cr, bxr, hrr, hnr, hlr⟩, hge⟩ := R
                exact bxr.cell 1
              have hways : ((E != 0) = true ∧ E ≠ 0) ∨ ((E != 0) = false ∧ E = 0) := by
                by_cases h : E = 0
                · exact .inr ⟨by simp [h], h⟩
                · exact .inl ⟨by simpa using h, h⟩
              clear HE
              rcases hways with ⟨m1, m2⟩ | ⟨m1, m2⟩
              · have hen := Hen.out
                rw [if_pos m2] at hen
                subst hen
                clear Hen m2
                have q2 : ∀ q : KSStep (fun a => a = ⟨w1.heap.size, 2, none⟩) wc.drew, q.w.cell? ⟨w1.heap.size, 2, none⟩ = some (.int .i64 E) := fun q => (q.h _ rfl).trans z2
                go_upto_region 20 with fail
                refine wp_region_tree (.float 0 2 (.two 2 (.float 3 2 (.one 5 (.float 6 2 .done))) 5 (.float 6 1 (.one 2 (.float 3 2 (.float 7 1 .done)))))) (Th.KSReach (fun a => a = ⟨w1.heap.size, 2, none⟩)) (Th.KSReach.trans _) (Th.KSReach.refl _) (by kernel_rfl) (by kernel_rfl) (fun KT hKT => ?_)
                refine wpTree_float (fun KF hKF => ?_)
                simp only [List.drop, List.take]
                repeat (first | go_big_quiet_skip | go_big_quiet_step (fail) | quiet_step (fail))
                refine wpQuiet_nil ?_
                refine hKF _ ?_
                clear hKF KF
                refine wpTree_two ?_ ?_
                refine wpTree_one (fun KO hKO => ?_)
                simp only [List.drop, List.take]
                go_wp2_with (first | ((with_reducible refine on_store_at (.tmp 2) ?_); refine wb_store (cs := Cv nv.1 Ap np cp d At nt ct) (cs' := Cv 0 none 0 0 0 none 0 0) rfl _ (.tmp 2) _ rfl st_cert rfl rfl bx.drew rfl rfl (by simp [Cv, Value.oneCell']) ?_; intro w4 bx4 hg4; have kS : ∀ a : Addr, a = ⟨w1.heap.size, 2, none⟩ → w4.cell? a = wc.drew.cell? a := (fun a ha => by subst ha; exact World.cell?_of_block (hg4.block w1.heap.size gl (fun e => by injection e with e; omega))); have q4 : ∀ q : KSStep (fun a => a = ⟨w1.heap.size, 2, none⟩) w4, q.w.cell? ⟨w1.heap.size, 2, none⟩ = some (.int .i64 E) := (fun q => ((q.h _ rfl).trans (kS _ rfl)).trans z2)))
                refine anch_end (Th.KSReach.of (by first | exact fun _ _ => rfl | assumption | (exact ks_alloc _ _ (by assumption)))) (hKO _ _ ?_)
                clear hKO KO
                refine wpTree_float (fun KF hKF => ?_)
                simp only [List.drop, List.take]
                repeat (first | go_big_quiet_skip | go_big_quiet_step (fail) | quiet_step (fail))
                refine wpQuiet_nil ?_
                refine hKF _ ?_
                clear hKF KF
                refine wpTree_one (fun KO hKO => ?_)
                simp only [List.drop, List.take]
                go_wp2_with (first | ((with_reducible refine on_store_at (.tmp 2) ?_); refine wb_store (cs := Cv nv.1 Ap np cp d At nt ct) (cs' := Cv 0 none 0 0 0 none 0 0) rfl _ (.tmp 2) _ rfl st_cert rfl rfl bx.drew rfl rfl (by simp [Cv, Value.oneCell']) ?_; intro w4 bx4 hg4; have kS : ∀ a : Addr, a = ⟨w1.heap.size, 2, none⟩ → w4.cell? a = wc.drew.cell? a := (fun a ha => by subst ha; exact World.cell?_of_block (hg4.block w1.heap.size gl (fun e => by injection e with e; omega))); have q4 : ∀ q : KSStep (fun a => a = ⟨w1.heap.size, 2, none⟩) w4, q.w.cell? ⟨w1.heap.size, 2, none⟩ = some (.int .i64 E) := (fun q => ((q.h _ rfl).trans (kS _ rfl)).trans z2)))
                refine anch_end (Th.KSReach.of (by first | exact fun _ _ => rfl | assumption | (exact ks_alloc _ _ (by assumption)))) (hKO _ _ ?_)
                clear hKO KO
                refine wpTree_float (fun KF hKF => ?_)
                simp only [List.drop, List.take]
                repeat (first | go_big_quiet_skip | go_big_quiet_step (fail) | quiet_step (fail))
                refine wpQuiet_nil ?_
                refine hKF _ ?_
                clear hKF KF
                refine wpTree_done ?_
                refine hKT _ _ ?_
                clear hKT KT
                rotate_left 1
                refine wpTree_one (fun KO hKO => ?_)
                simp only [List.drop, List.take]
                go_wp2_with (first | ((with_reducible refine on_store_at (.tmp 2) ?_); refine wb_store (cs := Cv nv.1 Ap np cp d At nt ct) (cs' := Cv 0 none 0 0 0 none 0 0) rfl _ (.tmp 2) _ rfl st_cert rfl rfl bx.drew rfl rfl (by simp [Cv, Value.oneCell']) ?_; intro w4 bx4 hg4; have kS : ∀ a : Addr, a = ⟨w1.heap.size, 2, none⟩ → w4.cell? a = wc.drew.cell? a := (fun a ha => by subst ha; exact World.cell?_of_block (hg4.block w1.heap.size gl (fun e => by injection e with e; omega))); have q4 : ∀ q : KSStep (fun a => a = ⟨w1.heap.size, 2, none⟩) w4, q.w.cell? ⟨w1.heap.size, 2, none⟩ = some (.int .i64 E) := (fun q => ((q.h _ rfl).trans (kS _ rfl)).trans z2)))
                refine anch_end (Th.KSReach.of (by first | exact fun _ _ => rfl | assumption | (exact ks_alloc _ _ (by assumption)))) (hKO _ _ ?_)
                clear hKO KO
                refine wpTree_float (fun KF hKF => ?_)
                simp only [List.drop, List.take]
                repeat (first | go_big_quiet_skip | go_big_quiet_step (fail) | quiet_step (fail))
                refine wpQuiet_nil ?_
                refine hKF _ ?_
                clear hKF KF
                refine wpTree_one (fun KO hKO => ?_)
                simp only [List.drop, List.take]
                go_wp2_with (first | ((with_reducible refine on_store_at (.tmp 2) ?_); refine wb_store (cs := Cv nv.1 Ap np cp d At nt ct) (cs' := Cv 0 none 0 0 0 none 0 0) rfl _ (.tmp 2) _ rfl st_cert rfl rfl bx.drew rfl rfl (by simp [Cv, Value.oneCell']) ?_; intro w4 bx4 hg4; have kS : ∀ a : Addr, a = ⟨w1.heap.size, 2, none⟩ → w4.cell? a = wc.drew.cell? a := (fun a ha => by subst ha; exact World.cell?_of_block (hg4.block w1.heap.size gl (fun e => by injection e with e; omega))); have q4 : ∀ q : KSStep (fun a => a = ⟨w1.heap.size, 2, none⟩) w4, q.w.cell? ⟨w1.heap.size, 2, none⟩ = some (.int .i64 E) := (fun q => ((q.h _ rfl).trans (kS _ rfl)).trans z2)))
                refine anch_end (Th.KSReach.of (by first | exact fun _ _ => rfl | assumption | (exact ks_alloc _ _ (by assumption)))) (hKO _ _ ?_)
                clear hKO KO
                refine wpTree_float (fun KF hKF => ?_)
                simp only [List.drop, List.take]
                repeat (first | go_big_quiet_skip | go_big_quiet_step (fail) | quiet_step (fail))
                refine wpQuiet_nil ?_
                refine hKF _ ?_
                clear hKF KF
                refine wpTree_float (fun KF hKF => ?_)
                simp only [List.drop, List.take]
                repeat (first | go_big_quiet_skip | go_big_quiet_step (fail) | quiet_step (fail))
                refine wpQuiet_nil ?_
                refine hKF _ ?_
                clear hKF KF
                refine wpTree_done ?_
                refine hKT _ _ ?_
                clear hKT KT
                rotate_right 1
                all_goals
                  go_wp2
                  refine bodyPost_ret (results_cell2 rfl _ w4 w.heap.size 26 _ (0, 0) _ rfl bx4.at_ rfl rfl Try.underlying26 rfl st_cert.size) rfl ?_
                  exact retCf_err (k.trans (((bdrew1 wc).trans (below_of_grown hg4 (B := w.heap.size) (fun j e => by injection e with e; omega) k.size))))
              · have hen := Hen.out
                rw [if_neg (fun h => h m2)] at hen
                subst hen
                clear Hen m2
                have S2 : ∀ w', Th.KSReach (fun a => a = ⟨w1.heap.size, 1, none⟩ ∨ a.block = w.heap.size) wc.drew w' → ∀ i u, [Value.int .i64 nv.1, .slice Ap np cp, .int .u32 d, .slice At nt ct][i]? = some u → w'.cell? ⟨w.heap.size, 0 + i, none⟩ = some u := by
                  rintro w' ⟨q, rfl⟩ i u hu
                  rw [q.h _ (.inr rfl), Nat.zero_add, bx.drew.cell i]
                  simpa [Cv] using hu
                have q1 : ∀ q : KSStep (fun a => a = ⟨w1.heap.size, 1, none⟩ ∨ a.block = w.heap.size) wc.drew, q.w.cell? ⟨w1.heap.size, 1, none⟩ = some (.int .i64 N) := fun q => (q.h _ (.inl rfl)).trans z1
                go_upto_region 21 with fail
                refine wp_region_tree (.float 0 2 (.two 2 (.float 3 2 (.one 5 (.float 6 2 .done))) 5 (.one 2 (.float 3 2 (.float 6 2 .done))))) (Th.KSReach (fun a => a = ⟨w1.heap.size, 1, none⟩ ∨ a.block = w.heap.size)) (Th.KSReach.trans _) (Th.KSReach.refl _) (by kernel_rfl) (by kernel_rfl) (fun KT hKT => ?_)
                refine wpTree_float (fun KF hKF => ?_)
                simp only [List.drop, List.take]
                repeat (first | go_big_quiet_skip | ((with_reducible refine onq_load (.tmp 2) ?_); refine wqcv_cells rfl (.tmp 2) rfl rfl S2 ?_) | go_big_quiet_step (fail) | quiet_step (fail))
                refine wpQuiet_nil ?_
                refine hKF _ ?_
                clear hKF KF
                refine wpTree_two ?_ ?_
                refine wpTree_one (fun KO hKO => ?_)
                simp only [List.drop, List.take]
                go_wp2_with (first | ((with_reducible refine on_store_at (.tmp 2) ?_); refine wb_store (cs := Cv nv.1 Ap np cp d At nt ct) (cs' := Cv nv.1 Ap np cp d At nt ct) rfl _ (.tmp 2) _ rfl st_cert rfl rfl bx.drew rfl rfl (by simp [Cv, Value.oneCell']) ?_; intro w4 bx4 hg4; have kS : ∀ a : Addr, (a = ⟨w1.heap.size, 1, none⟩ ∨ a.block = w.heap.size) → w4.cell? a = wc.drew.cell? a := (fun a ha => by rcases ha with rfl | ha; exact World.cell?_of_block (hg4.block w1.heap.size gl (fun e => by injection e with e; omega)); exact World.cell?_of_block (by rw [ha]; exact bx4.at_.trans bx.drew.at_.symm)); have q4 : ∀ q : KSStep (fun a => a = ⟨w1.heap.size, 1, none⟩ ∨ a.block = w.heap.size) w4, q.w.cell? ⟨w1.heap.size, 1, none⟩ = some (.int .i64 N) := (fun q => ((q.h _ (.inl rfl)).trans (kS _ (.inl rfl))).trans z1)))
                refine anch_end (Th.KSReach.of (by first | exact fun _ _ => rfl | assumption | (exact ks_alloc _ _ (by assumption)))) (hKO _ _ ?_)
                clear hKO KO
                refine wpTree_float (fun KF hKF => ?_)
                simp only [List.drop, List.take]
                repeat (first | go_big_quiet_skip | ((with_reducible refine onq_load (.tmp 2) ?_); refine wqcv_cells rfl (.tmp 2) rfl rfl S2 ?_) | go_big_quiet_step (fail) | quiet_step (fail))
                refine wpQuiet_nil ?_
                refine hKF _ ?_
                clear hKF KF
                refine wpTree_one (fun KO hKO => ?_)
                simp only [List.drop, List.take]
                go_wp2_with (first | ((with_reducible refine on_store_at (.tmp 2) ?_); refine wb_store (cs := Cv nv.1 Ap np cp d At nt ct) (cs' := Cv nv.1 Ap np cp d At nt ct) rfl _ (.tmp 2) _ rfl st_cert rfl rfl bx.drew rfl rfl (by simp [Cv, Value.oneCell']) ?_; intro w4 bx4 hg4; have kS : ∀ a : Addr, (a = ⟨w1.heap.size, 1, none⟩ ∨ a.block = w.heap.size) → w4.cell? a = wc.drew.cell? a := (fun a ha => by rcases ha with rfl | ha; exact World.cell?_of_block (hg4.block w1.heap.size gl (fun e => by injection e with e; omega)); exact World.cell?_of_block (by rw [ha]; exact bx4.at_.trans bx.drew.at_.symm)); have q4 : ∀ q : KSStep (fun a => a = ⟨w1.heap.size, 1, none⟩ ∨ a.block = w.heap.size) w4, q.w.cell? ⟨w1.heap.size, 1, none⟩ = some (.int .i64 N) := (fun q => ((q.h _ (.inl rfl)).trans (kS _ (.inl rfl))).trans z1)))
                refine anch_end (Th.KSReach.of (by first | exact fun _ _ => rfl | assumption | (exact ks_alloc _ _ (by assumption)))) (hKO _ _ ?_)
                clear hKO KO
                refine wpTree_float (fun KF hKF => ?_)
                simp only [List.drop, List.take]
                repeat (first | go_big_quiet_skip | ((with_reducible refine onq_load (.tmp 2) ?_); refine wqcv_cells rfl (.tmp 2) rfl rfl S2 ?_) | go_big_quiet_step (fail) | quiet_step (fail))
                refine wpQuiet_nil ?_
                refine hKF _ ?_
                clear hKF KF
                refine wpTree_done ?_
                refine hKT _ _ ?_
                clear hKT KT
                rotate_left 1
                refine wpTree_one (fun KO hKO => ?_)
                simp only [List.drop, List.take]
                go_wp2_with (first | ((with_reducible refine on_store_at (.tmp 2) ?_); refine wb_store (cs := Cv nv.1 Ap np cp d At nt ct) (cs' := Cv nv.1 Ap np cp d At nt ct) rfl _ (.tmp 2) _ rfl st_cert rfl rfl bx.drew rfl rfl (by simp [Cv, Value.oneCell']) ?_; intro w4 bx4 hg4; have kS : ∀ a : Addr, (a = ⟨w1.heap.size, 1, none⟩ ∨ a.block = w.heap.size) → w4.cell? a = wc.drew.cell? a := (fun a ha => by rcases ha with rfl | ha; exact World.cell?_of_block (hg4.block w1.heap.size gl (fun e => by injection e with e; omega)); exact World.cell?_of_block (by rw [ha]; exact bx4.at_.trans bx.drew.at_.symm)); have q4 : ∀ q : KSStep (fun a => a = ⟨w1.heap.size, 1, none⟩ ∨ a.block = w.heap.size) w4, q.w.cell? ⟨w1.heap.size, 1, none⟩ = some (.int .i64 N) := (fun q => ((q.h _ (.inl rfl)).trans (kS _ (.inl rfl))).trans z1)))
                refine anch_end (Th.KSReach.of (by first | exact fun _ _ => rfl | assumption | (exact ks_alloc _ _ (by assumption)))) (hKO _ _ ?_)
                clear hKO KO
                refine wpTree_one (fun KO hKO => ?_)
                simp only [List.drop, List.take]
                go_wp2_with (first | ((with_reducible refine on_store_at (.tmp 2) ?_); refine wb_store (cs := Cv nv.1 Ap np cp d At nt ct) (cs' := Cv nv.1 Ap np cp d At nt ct) rfl _ (.tmp 2) _ rfl st_cert rfl rfl bx.drew rfl rfl (by simp [Cv, Value.oneCell']) ?_; intro w4 bx4 hg4; have kS : ∀ a : Addr, (a = ⟨w1.heap.size, 1, none⟩ ∨ a.block = w.heap.size) → w4.cell? a = wc.drew.cell? a := (fun a ha => by rcases ha with rfl | ha; exact World.cell?_of_block (hg4.block w1.heap.size gl (fun e => by injection e with e; omega)); exact World.cell?_of_block (by rw [ha]; exact bx4.at_.trans bx.drew.at_.symm)); have q4 : ∀ q : KSStep (fun a => a = ⟨w1.heap.size, 1, none⟩ ∨ a.block = w.heap.size) w4, q.w.cell? ⟨w1.heap.size, 1, none⟩ = some (.int .i64 N) := (fun q => ((q.h _ (.inl rfl)).trans (kS _ (.inl rfl))).trans z1)))
                refine anch_end (Th.KSReach.of (by first | exact fun _ _ => rfl | assumption | (exact ks_alloc _ _ (by assumption)))) (hKO _ _ ?_)
                clear hKO KO
                refine wpTree_float (fun KF hKF => ?_)
                simp only [List.drop, List.take]
                repeat (first | go_big_quiet_skip | ((with_reducible refine onq_load (.tmp 2) ?_); refine wqcv_cells rfl (.tmp 2) rfl rfl S2 ?_) | go_big_quiet_step (fail) | quiet_step (fail))
                refine wpQuiet_nil ?_
                refine hKF _ ?_
                clear hKF KF
                refine wpTree_float (fun KF hKF => ?_)
                simp only [List.drop, List.take]
                repeat (first | go_big_quiet_skip | ((with_reducible refine onq_load (.tmp 2) ?_); refine wqcv_cells rfl (.tmp 2) rfl rfl S2 ?_) | go_big_quiet_step (fail) | quiet_step (fail))
                refine wpQuiet_nil ?_
                refine hKF _ ?_
                clear hKF KF
                refine wpTree_done ?_
                refine hKT _ _ ?_
                clear hKT KT
                rotate_right 1
                all_goals
                  go_wp2
                  refine bodyPost_ret (results_cell2 rfl _ w4 w.heap.size 26 _ (0, 0) _ rfl bx4.at_ rfl rfl Try.underlying26 rfl st_cert.size) rfl ?_
                  refine ⟨Ap, np, cp, At, nt, ct, ps, rfl, ((po.below (bdrew1 wc)).grown hg4 (fun j e => by injection e with e; omega)).rd, rfl, ((ot.below (bdrew1 wc)).grown hg4 (fun g' hA e => by have := ot.ow.row_ge g' (by rw [hA]; rfl); injection e with e; omega)).rd, ?_⟩
                  exact k.trans (((bdrew1 wc).trans (below_of_grown hg4 (B := w.heap.size) (fun j e => by injection e with e; omega) k.size)))
end Go.Proofs.Ytjambnlocjjjpaa
