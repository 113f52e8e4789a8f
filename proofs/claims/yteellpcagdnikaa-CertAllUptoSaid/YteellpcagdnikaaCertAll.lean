/-
  theseuslaw17.CertAll: the walk.
-/
import Derived.Test.YteellpcagdnikaaCertUnlike
import Derived.Test.YteellpcagdnikaaCertRefSame
import Derived.Test.YteellpcagdnikaaCertSpoiltLaw
namespace Go.Proofs.Yteellpcagdnikaa
open Go.RowKit Go.Th
set_option linter.unusedVariables false
theorem and7 (x : Int) : ∃ m : Nat, m < 8 ∧ bits .and .i64 x 7 = (m : Int) := by
  have h : (BitVec.ofInt 64 x).toNat &&& 7 ≤ 7 := Nat.and_le_right
  refine ⟨(BitVec.ofInt 64 x).toNat &&& 7, by omega, ?_⟩
  show IntKind.i64.wrap ((BitVec.ofInt 64 x &&& BitVec.ofInt 64 7).toNat : Int) = _
  rw [BitVec.toNat_and, IntKind.wrap_i64]
  have e : (BitVec.ofInt 64 7).toNat = 7 := rfl
  rw [e]
  omega
/-- The box of a certificate, in every world of a class. -/
theorem wqcv_box {ops : Array Oper} {rest : List Oper} {o : Oper} {a : Act} {C : World → Prop} {Q : Act → Prop} (hw : Region.wanted o (yielded ops a.tmps) = true) (x : Operand) (ho : o.op = .load 29 x) {g : Nat} {t : TypeId} {v : Int} {Ap : Option Addr} {np cp : Nat} {d : Int} {At : Option Addr} {nt ct : Nat} (hx : a.eval x = .pointer (some ⟨g, 0, none⟩)) (hb : ∀ w, C w → Box w g t (Cv v Ap np cp d At nt ct))
    (h : wpQuiet Try.prog ops C Q rest (a.put o.dst (.agg #[.int .i64 v, .slice Ap np cp, .int .u32 d, .slice At nt ct]))) : wpQuiet Try.prog ops C Q (o :: rest) a := by
  obtain ⟨fs, hu⟩ := st_cert.under
  refine wq_run hw (fun w hC => ?_) h
  simp only [execOp, ho, hx, Instr.loadAt, Instr.sureAddr, Sem.run_bind, Sem.run_pure, Result.andThen_ok, run_loadVar_row w g t 29 _ (0, 0) _ (hb w hC).at_ hu rfl st_cert.size]
  rfl
theorem rmay_box {w : World} {g : Nat} {v : Int} {Ap : Option Addr} {np cp : Nat} {d : Int} {At : Option Addr} {nt ct : Nat} {ps : List Pt} {tr : List Int} (h : CBox w g v Ap np cp d At nt ct ps tr) (nodes V : Int) (hV : cmay v ps d tr nodes = V) :
    Calls Try.prog 16 #[.agg #[.int .i64 v, .slice Ap np cp, .int .u32 d, .slice At nt ct], .int .i64 nodes] w fun e w' => e = .returned (.int .i64 V) ∧ Below w.heap.size w w' := by
  have := rcmay_any v Ap np cp d At nt ct nodes w (by have := h.npb; omega) h.ntb ps tr _ (Nat.le_refl _) h.parts h.trd (fun p hp => by have := h.sm p hp; omega)
  rw [hV] at this
  exact this
theorem rmeet_box {w : World} {g : Nat} {v : Int} {Ap : Option Addr} {np cp : Nat} {d : Int} {At : Option Addr} {nt ct : Nat} {ps : List Pt} {tr : List Int} (h : CBox w g v Ap np cp d At nt ct ps tr) (V : Int) (hV : pmeet ps = V) :
    Calls Try.prog 17 #[.slice Ap np cp] w fun e w' => e = .returned (.int .i64 V) ∧ Below w.heap.size w w' := by
  have := rmeet_any Ap np cp ps w (by have := h.npb; omega) _ h.parts.rd h.parts.ok
  rw [hV] at this
  exact this
theorem meet_box {w : World} {g : Nat} {v : Int} {Ap : Option Addr} {np cp : Nat} {d : Int} {At : Option Addr} {nt ct : Nat} {ps : List Pt} {tr : List Int} (h : CBox w g v Ap np cp d At nt ct ps tr) (V : Int) (hV : pmeet ps = V) :
    Calls Try.prog 12 #[.slice Ap np cp] w fun e w' => e = .returned (.int .i64 V) ∧ Below w.heap.size w w' :=
  meet_is Ap np cp ps w (by have := h.npb; omega) _ h.parts.rd h.parts.ok V hV
theorem rsame_box {w : World} {g : Nat} {v : Int} {Ap : Option Addr} {np cp : Nat} {d : Int} {At : Option Addr} {nt ct : Nat} {ps : List Pt} {tr : List Int} (h : CBox w g v Ap np cp d At nt ct ps tr)
    {g' : Nat} {v' : Int} {Ap' : Option Addr} {np' cp' : Nat} {d' : Int} {At' : Option Addr} {nt' ct' : Nat} {ps' : List Pt} {tr' : List Int} (h' : CBox w g' v' Ap' np' cp' d' At' nt' ct' ps' tr') (b : Bool) (hb : csame v ps d tr v' ps' d' tr' = b) :
    Calls Try.prog 19 #[.agg #[.int .i64 v, .slice Ap np cp, .int .u32 d, .slice At nt ct], .agg #[.int .i64 v', .slice Ap' np' cp', .int .u32 d', .slice At' nt' ct']] w fun e w' => e = .returned (.bool b) ∧ Below w.heap.size w w' :=
  rcsame_any v Ap np cp d At nt ct v' Ap' np' cp' d' At' nt' ct' w (by have := h.npb; omega) (by have := h.ntb; omega) ps tr _ h.parts h.trd (fun p hp => by have := h.sm p hp; omega) (by have := h'.npb; omega) (by have := h'.ntb; omega) ps' tr' _ h'.parts h'.trd (fun p hp => by have := h'.sm p hp; omega) b (Lib.hid hb)
theorem csame_comm (v : Int) (ps : List Pt) (d : Int) (tr : List Int) (v' : Int) (ps' : List Pt) (d' : Int) (tr' : List Int) : csame v' ps' d' tr' v ps d tr = csame v ps d tr v' ps' d' tr' := by
  unfold csame
  rw [psame_key, psame_key]
  rw [Bool.eq_iff_iff]
  simp only [Bool.and_eq_true, decide_eq_true_eq]
  exact ⟨fun ⟨⟨⟨a, b⟩, c⟩, e⟩ => ⟨⟨⟨a.symm, b.symm⟩, c.symm⟩, e.symm⟩, fun ⟨⟨⟨a, b⟩, c⟩, e⟩ => ⟨⟨⟨a.symm, b.symm⟩, c.symm⟩, e.symm⟩⟩
/-- Fit, whichever way: what is read, and that it may be. -/
theorem fit_may (v : Int) (Ap : Option Addr) (np cp : Nat) (d : Int) (At : Option Addr) (nt ct : Nat) (nodes : Nat) (hno : 1 ≤ nodes ∧ nodes ≤ 1000) (w : World) (hnp : np ≤ 9223372036854775807) (hnt : nt ≤ 9223372036854775807) (ps : List Pt) (tr : List Int) (B : Nat) (hp : PRd w B Ap np cp ps) (hsm : ∀ p ∈ ps, p.n ≤ 1048576) (ht : RdS iv w B At nt ct tr) :
    Calls Try.prog 13 #[.agg #[.int .i64 v, .slice Ap np cp, .int .u32 d, .slice At nt ct], .int .i64 nodes] w (fun e w' => ∃ v9 A9 n9 c9 d9 T9 nt9 ct9 ps9 tr9, e = .returned (.agg #[.int .i64 v9, .slice A9 n9 c9, .int .u32 d9, .slice T9 nt9 ct9]) ∧ Below w.heap.size w w' ∧ Hid (cmay v9 ps9 d9 tr9 nodes = 0) ∧
      ∀ w9 g9, Box w9 g9 29 (Cv v9 A9 n9 c9 d9 T9 nt9 ct9) → (∀ cs, Box w' g9 29 cs → w'.grownBy w9 (some g9) → CBox w9 g9 v9 A9 n9 c9 d9 T9 nt9 ct9 ps9 tr9)) := by
  by_cases hv : bits .and .i64 v 1 = 0
  · refine (rcfit_loops v hv Ap np cp d At nt ct nodes hno w hnt tr B ht).mono ?_
    rintro e w' ⟨A', c', rfl, ow, hb⟩
    obtain ⟨hF, hFn⟩ := ftrace_ok (n := nodes) (by omega) tr
    have hl : (ftrace nodes tr).length ≤ nodes := FTr.len hF
    refine ⟨2, none, 0, 0, d, A', _, c', [], ftrace nodes tr, rfl, hb, Lib.hid (hF.may hFn d), fun w9 g9 hbx cs hbo hg => XL.c ⟨hbx, own_cert ow hbo hg⟩ (by omega) (fun x hx => by have := hF.rng x hx; omega)⟩
  · refine (rcfit_free v hv Ap np cp d At nt ct nodes hno w hnp ps B hp hsm).mono ?_
    rintro e w' ⟨A', c', ps', rfl, P, F, hb⟩
    have hl := fcuts_len hp.ok
    have hlen := F.len
    refine ⟨1, A', _, c', 0, none, 0, 0, ps', [], rfl, hb, Lib.hid (F.may hl.2), fun w9 g9 hbx cs hbo hg => XF.c ⟨hbx, P.cert hbo hg⟩ F.ok (by omega) (by omega)⟩
/-- The loop: what x is, and that y stays. -/
def AllRel (g8 g9 : Nat) (D : Nat) (va : Int) (Aa : Option Addr) (na ca : Nat) (da : Int) (Ta : Option Addr) (ma ta : Nat) (vb : Int) (Ay : Option Addr) (Ny cy : Nat) (db : Int) (Tb : Option Addr) (My cb : Nat) (psb : List Pt) (w : World) (s10 : Value) (wr : World) : Prop :=
  ∃ (i : Nat) (v : Int) (A : Option Addr) (n c : Nat) (d : Int) (T : Option Addr) (nt ct : Nat) (ps : List Pt) (tr : List Int), i ≤ 2 ∧ s10 = .int .i64 i ∧ CBox wr g8 v A n c d T nt ct ps tr ∧ Hid (1 ≤ i → cmay v ps d tr D = 0) ∧ Box wr g9 29 (Cv vb Ay Ny cy db Tb My cb) ∧ OwM Pt.cs 3 wr 0 26 Ay Ny cy psb ∧ Below w.heap.size w wr ∧ Box wr w.heap.size 29 (Cv va Aa na ca da Ta ma ta)
set_option maxRecDepth 100000 in
set_option maxHeartbeats 8000000 in
theorem certAll_core (va : Int) (Aa : Option Addr) (na ca : Nat) (da : Int) (Ta : Option Addr) (ma ta : Nat) (psa : List Pt) (tra : List Int) (vb : Int) (Ab : Option Addr) (nb cb : Nat) (db : Int) (Tb : Option Addr) (mb tb : Nat) (psb : List Pt) (trb : List Int) {w : World} (cia : CertIn w va Aa na ca da Ta ma ta psa tra) (cib : CertIn w vb Ab nb cb db Tb mb tb psb trb) (hsm : ∀ p ∈ psa, p.n ≤ 1048576) (nodes : Int) (hno : -9223372036854775808 ≤ nodes ∧ nodes ≤ 9223372036854775807) :
    Calls Try.prog 7 #[.agg #[.int .i64 va, .slice Aa na ca, .int .u32 da, .slice Ta ma ta], .agg #[.int .i64 vb, .slice Ab nb cb, .int .u32 db, .slice Tb mb tb], .int .i64 nodes] w fun e w' => e = .returned (.bool true) ∧ Below w.heap.size w w' := by
  obtain ⟨Na, hNa⟩ : ∃ N, min na 20 = N := ⟨_, rfl⟩
  obtain ⟨Ma, hMa⟩ : ∃ M, min ma 20 = M := ⟨_, rfl⟩
  obtain ⟨Nb, hNb⟩ : ∃ N, min nb 20 = N := ⟨_, rfl⟩
  obtain ⟨Mb, hMb⟩ : ∃ M, min mb 20 = M := ⟨_, rfl⟩
  have HNa := Lib.hid hNa
  have HMa := Lib.hid hMa
  have HNb := Lib.hid hNb
  have HMb := Lib.hid hMb
  have hb20 : Na ≤ 20 ∧ Ma ≤ 20 ∧ Nb ≤ 20 ∧ Mb ≤ 20 := by omega
  obtain ⟨hNa2, hMa2, hNb2, hMb2⟩ := hb20
  clear hNa hMa hNb hMb
  obtain ⟨m7, hm7, hand⟩ := and7 nodes
  obtain ⟨D, hD⟩ : ∃ D, 1 + m7 = D := ⟨_, rfl⟩
  have hD1 : 1 ≤ D ∧ D ≤ 8 := by omega
  obtain ⟨hD2, hD3⟩ := hD1
  have hDi : (1 : Int) + (m7 : Int) = (D : Int) := by omega
  have Hand := Lib.hid hand
  have HD := Lib.hid hDi
  have Hsm := Lib.hid hsm
  have Hcia := Lib.hid cia
  have Hcib := Lib.hid cib
  have bxa := (Box.new w (Cv va Aa na ca da Ta ma ta) 29).alloc (.cells (Cv vb Ab nb cb db Tb mb tb) 29)
  have bxb := Box.new (w.alloc (.cells (Cv va Aa na ca da Ta ma ta) 29)) (Cv vb Ab nb cb db Tb mb tb) 29
  rw [heap_size_alloc] at bxb
  have k1 := (below_alloc w (Nat.le_refl _) (.cells (Cv va Aa na ca da Ta ma ta) 29)).alloc (by simp) (.cells (Cv vb Ab nb cb db Tb mb tb) 29)
  have fewa := Lib.hid (fun W (h : Below w.heap.size w W) => few17_any va Aa na ca da Ta ma ta W cia.npb cia.ntb psa tra _ (cia.parts.below h) (cia.trd.below h) (fun p hp => (cia.each p hp).1) Na Ma HNa.out HMa.out)
  have fewb := Lib.hid (fun W (h : Below w.heap.size w W) => few17_any vb Ab nb cb db Tb mb tb W cib.npb cib.ntb psb trb _ (cib.parts.below h) (cib.trd.below h) (fun p hp => (cib.each p hp).1) Nb Mb HNb.out HMb.out)
  have fit := Lib.hid (fun W (h : Below w.heap.size w W) => fit_may va Aa na ca da Ta ma ta D (by omega) W cia.npb cia.ntb psa tra _ (cia.parts.below h) hsm (cia.trd.below h))
  have tra20 : ∀ x ∈ tra.take 20, -9223372036854775808 ≤ x ∧ x ≤ 9223372036854775807 := fun x hx => cia.trb x (List.mem_of_mem_take hx)
  have trb20 : ∀ x ∈ trb.take 20, -9223372036854775808 ≤ x ∧ x ≤ 9223372036854775807 := fun x hx => cib.trb x (List.mem_of_mem_take hx)
  have Tra := Lib.hid tra20
  have Trb := Lib.hid trb20
  clear hand hDi hD hsm cia cib tra20 trb20
  go_enter Try.func7, Try.ntmps7
  go_wp2_with fail
  refine (shown17 _).mono ?_
  rintro e w1 ⟨rfl, hb1⟩
  have bxa1 := bxa.step hb1
  have bxb1 := bxb.step hb1
  have B1 := k1.trans (hb1.mono k1.size)
  clear hb1 bxa bxb k1
  go_upto_region 3 with (first
    | ((with_reducible refine on_load (.tmp 3) ?_); refine wcv_box rfl (.tmp 3) rfl rfl bxa1 ?_)
    | (go_at_call 14; refine (fewa.out _ B1).mono ?_; rintro e w2 ⟨A2, c2, rfl, ow2, hb2⟩)
    | ((with_reducible refine on_alloc ?_); refine wl_newBox rfl _ rfl z_cert ?_; intro g8 w4 hg4 hl4 bg4 hb4)
    | ((with_reducible refine on_store_at (.tmp 8) ?_); refine wb_store (cs := Cv 0 none 0 0 0 none 0 0) (cs' := Cv va A2 Na c2 da Ta Ma ta) rfl _ (.tmp 8) _ rfl st_cert rfl rfl bg4 rfl rfl (by simp [Cv, Value.oneCell']) ?_; intro w5 bx5 hg5))
  have B25 := hb2.trans ((hb4.trans (below_of_grown (B := w2.heap.size) hg5 (fun j e => by injection e with e; omega) hb4.size)).mono hb2.size)
  have B5 := B1.trans (B25.mono B1.size)
  have ow5 := (ow2.below hb4).grown hg5 ((ow2.below hb4).ow.box_ne bg4 ty_pc)
  have X5 : CBox w5 g8 va A2 Na c2 da Ta Ma ta ((psa.take 20).map Pt.few) (tra.take 20) := ⟨bx5, PRd.few Hcia.out.parts ow5 B5, ((Hcia.out.trd.below B5).few 20 Ma HMa.out).heap, by omega, by omega, (fun p hp => by have := (few_ok Hcia.out.parts.ok p hp).2; omega), Tra.out⟩
  have bxa5 := bxa1.step B25
  have hg8 : w.heap.size < g8 := by have := bxb1.lt; have := hb2.size; omega
  have bxb5 := bxb1.step B25
  clear hb2 hb4 hg5 bg4 bx5 ow2 B1 bxa1 bxb1 B25 ow5 hg4 hl4
  clear w4
  clear w2
  clear w1
  rename World => w1
  go_upto_region 4 with (first
    | ((with_reducible refine on_load (.tmp 4) ?_); refine wcv_box rfl (.tmp 4) rfl rfl bxb5 ?_)
    | (go_at_call 14; refine (fewb.out _ B5).mono ?_; rintro e w2 ⟨A3, c3, rfl, ow2, hb2⟩)
    | ((with_reducible refine on_alloc ?_); refine wl_newBox rfl _ rfl z_cert ?_; intro g9 w4 hg4 hl4 bg4 hb4)
    | ((with_reducible refine on_store_at (.tmp 9) ?_); refine wb_store (cs := Cv 0 none 0 0 0 none 0 0) (cs' := Cv vb A3 Nb c3 db Tb Mb tb) rfl _ (.tmp 9) _ rfl st_cert rfl rfl bg4 rfl rfl (by simp [Cv, Value.oneCell']) ?_; intro w5 bx5 hg5))
  have B25 := hb2.trans ((hb4.trans (below_of_grown (B := w2.heap.size) hg5 (fun j e => by injection e with e; omega) hb4.size)).mono hb2.size)
  have B6 := B5.trans (B25.mono B5.size)
  have ow6 := ((ow2.below hb4).grown hg5 ((ow2.below hb4).ow.box_ne bg4 ty_pc)).base_le (Nat.zero_le _)
  have X6 := X5.step B25
  have bxa6 := bxa5.step B25
  have hg89 : g8 < g9 := by have := X5.box.lt; have := hb2.size; omega
  clear hb2 hb4 hg5 bg4 ow2 B5 bxa5 bxb5 B25 hg4 hl4 X5
  clear w4
  clear w2
  clear w1
  rename World => w1
  go_wp2
  go_loopw [10] (fun s10 wr => AllRel g8 g9 D va Aa na ca da Ta ma ta vb A3 Nb c3 db Tb Mb tb ((psb.take 20).map Pt.few) w s10 wr) (fun i _ => 2 - (intOf i).toNat)
  case atStart => exact ⟨0, _, _, _, _, _, _, _, _, _, _, by omega, rfl, X6, Lib.hid (fun h => by omega), bx5, ow6, B6, bxa6⟩
  case round =>
    obtain ⟨i, v, A, n, c, d, T, nt, ct, ps, tr, hi, rfl, X, hmy, bY, owY, hb, bA⟩ := hrel
    rename World => wo
    have Y : CBox wo g9 vb A3 Nb c3 db Tb Mb tb ((psb.take 20).map Pt.few) (trb.take 20) := ⟨bY, PRd.few Hcib.out.parts owY hb, ((Hcib.out.trd.below hb).few 20 Mb HMb.out).heap, by omega, by omega, (fun p hp => by have := (few_ok Hcib.out.parts.ok p hp).2; omega), Trb.out⟩
    by_cases hlt : i < 2
    · have hi2 : (i : Int) < 2 := by omega
      have hi3 : decide ((i : Int) < 2) = true := decide_eq_true hi2
      go_upto_block 2 with fail
      go_cut [11] (fun s11 wx => Below wo.heap.size wo wx)
      case first =>
        go_wp2
        go_loopw [11] (fun s11 wr => ∃ k : Int, -1 ≤ k ∧ k ≤ 12 ∧ s11 = .int .i64 k ∧ Below wo.heap.size wo wr) (fun i _ => (12 - intOf i).toNat)
        case atStart => exact ⟨-1, by omega, by omega, rfl, Below.refl _ _⟩
        case round =>
          obtain ⟨k, hk1, hk2, rfl, hbk⟩ := hrel
          have Xr := X.step hbk
          by_cases hk : k < 12
          · obtain ⟨V, hV⟩ : ∃ V, cmay v ps d tr k = V := ⟨_, rfl⟩
            have K1 := Lib.hid (fun (q : Step wr.heap.size wr) => may_box (Xr.step q.h) k V hV)
            have K2 := Lib.hid (fun (q : Step wr.heap.size wr) => rmay_box (Xr.step q.h) k V hV)
            have q8 : ∀ w', Th.Reach wr.heap.size wr w' → Box w' g8 29 (Cv v A n c d T nt ct) := fun w' h => Xr.box.step h.below
            clear hV
            go_upto_region 10 with fail
            refine wp_region_reach (by kernel_rfl) (by kernel_rfl) ?_
            repeat (first | go_big_quiet_skip | ((with_reducible refine onq_load (.tmp 8) ?_); refine wqcv_box rfl (.tmp 8) rfl rfl q8 ?_) | go_big_quiet_step ((first | (with_reducible exact Calls.reach (K1.out _)) | (with_reducible exact Calls.reach (K2.out _)))) | quiet_step ((first | (with_reducible exact Calls.reach (K1.out _)) | (with_reducible exact Calls.reach (K2.out _)))))
            refine wpQuiet_nil ?_
            rintro _ ⟨q, rfl⟩
            have hqw10 := q.h
            obtain ⟨w10, hw10'⟩ : ∃ W, q.w = W := ⟨_, rfl⟩
            rw [hw10'] at hqw10 ⊢
            clear hw10' q
            go_wp2
            go_roundw
            case rel => exact ⟨k + 1, by omega, by omega, rfl, hbk.trans (hqw10.mono hbk.size)⟩
            case measure => simp [intOf]; omega
          · go_wp2
            go_meet
            case rel => exact hbk
      case rest =>
        rename World => w3
        have X3 := X.step hcut
        have Y3 := Y.step hcut
        obtain ⟨V1, hV1⟩ : ∃ V, cmay v ps d tr nodes = V := ⟨_, rfl⟩
        obtain ⟨V2, hV2⟩ : ∃ V, pmeet ps = V := ⟨_, rfl⟩
        obtain ⟨b1, hb1⟩ : ∃ b, csame v ps d tr vb ((psb.take 20).map Pt.few) db (trb.take 20) = b := ⟨_, rfl⟩
        have hb2 := csame_comm v ps d tr vb ((psb.take 20).map Pt.few) db (trb.take 20)
        rw [hb1] at hb2
        have K1 := Lib.hid (fun (q : Step w3.heap.size w3) => may_box (X3.step q.h) nodes V1 hV1)
        have K2 := Lib.hid (fun (q : Step w3.heap.size w3) => rmay_box (X3.step q.h) nodes V1 hV1)
        have K3 := Lib.hid (fun (q : Step w3.heap.size w3) => meet_box (X3.step q.h) V2 hV2)
        have K4 := Lib.hid (fun (q : Step w3.heap.size w3) => rmeet_box (X3.step q.h) V2 hV2)
        have K5 := Lib.hid (fun (q : Step w3.heap.size w3) => same_box (X3.step q.h) (Y3.step q.h) b1 hb1)
        have K6 := Lib.hid (fun (q : Step w3.heap.size w3) => rsame_box (X3.step q.h) (Y3.step q.h) b1 hb1)
        have K7 := Lib.hid (fun (q : Step w3.heap.size w3) => same_box (X3.step q.h) (X3.step q.h) true (csame_yes rfl rfl rfl rfl))
        have K8 := Lib.hid (fun (q : Step w3.heap.size w3) => same_box (Y3.step q.h) (X3.step q.h) b1 hb2)
        have q8 : ∀ w', Th.Reach w3.heap.size w3 w' → Box w' g8 29 (Cv v A n c d T nt ct) := fun w' h => X3.box.step h.below
        have q9 : ∀ w', Th.Reach w3.heap.size w3 w' → Box w' g9 29 (Cv vb A3 Nb c3 db Tb Mb tb) := fun w' h => Y3.box.step h.below
        have f1 : ∀ q : Step w3.heap.size w3, q.w.cell? ⟨g8, 1, none⟩ = some (.slice A n c) := fun q => (X3.box.step q.h).cell 1
        clear hV1 hV2 hb1 hb2
        go_upto_region 12 with fail
        refine wp_region_reach (by kernel_rfl) (by kernel_rfl) ?_
        repeat (first | go_big_quiet_skip | ((with_reducible refine onq_load (.tmp 8) ?_); refine wqcv_box rfl (.tmp 8) rfl rfl q8 ?_) | ((with_reducible refine onq_load (.tmp 9) ?_); refine wqcv_box rfl (.tmp 9) rfl rfl q9 ?_) | go_big_quiet_step ((first | (with_reducible exact Calls.reach (K1.out _)) | (with_reducible exact Calls.reach (K2.out _)) | (with_reducible exact Calls.reach (K3.out _)) | (with_reducible exact Calls.reach (K4.out _)) | (with_reducible exact Calls.reach (K5.out _)) | (with_reducible exact Calls.reach (K6.out _)) | (with_reducible exact Calls.reach (K7.out _)) | (with_reducible exact Calls.reach (K8.out _)))) | quiet_step ((first | (with_reducible exact Calls.reach (K1.out _)) | (with_reducible exact Calls.reach (K2.out _)) | (with_reducible exact Calls.reach (K3.out _)) | (with_reducible exact Calls.reach (K4.out _)) | (with_reducible exact Calls.reach (K5.out _)) | (with_reducible exact Calls.reach (K6.out _)) | (with_reducible exact Calls.reach (K7.out _)) | (with_reducible exact Calls.reach (K8.out _)))))
        refine wpQuiet_nil ?_
        rintro _ ⟨q, rfl⟩
        have hqw12 := q.h
        obtain ⟨w12, hw12'⟩ : ∃ W, q.w = W := ⟨_, rfl⟩
        rw [hw12'] at hqw12 ⊢
        clear hw12' q
        have hand := Hand.out
        have hdi := HD.out
        have B12 : Below w.heap.size w w12 := (hb.trans (hcut.mono hb.size)).trans (hqw12.mono (by have := hb.size; have := hcut.size; omega))
        have B13 : Below wo.heap.size wo w12 := hcut.trans (hqw12.mono hcut.size)
        have bA12 := bA.step B13
        have bX12 := X.box.step B13
        have bY12 := bY.step B13
        have owY12 := owY.below B13
        clear K1 K2 K3 K4 K5 K6 K7 K8 q8 q9 f1 hcut X3 Y3 hqw12 X Y bY owY bA hb B13
        go_wp2_with (first
          | ((with_reducible refine on_load (.tmp 3) ?_); refine wcv_box rfl (.tmp 3) rfl rfl bA12 ?_)
          | (go_at_call 13; refine (fit.out _ B12).mono ?_; rintro e w20 ⟨v20, A20, n20, c20, d20, T20, nt20, ct20, ps20, tr20, rfl, hb20, hm20, hX20⟩; have bX20 := bX12.step hb20)
          | ((with_reducible refine on_store_at (.tmp 8) ?_); refine wb_store (cs := Cv v A n c d T nt ct) (cs' := Cv v20 A20 n20 c20 d20 T20 nt20 ct20) rfl _ (.tmp 8) _ rfl st_cert rfl rfl bX20 rfl rfl (by simp [Cv, Value.oneCell']) ?_; intro w21 bX21 hg21))
        go_roundw
        case rel =>
          have B20 := hb20.size
          have z12 := B12.size
          have bY20 := (bY12.step hb20).grown hg21 (fun e => by injection e with e; omega)
          have owY20 := owY12.below hb20
          have owY21 := owY20.grown hg21 (owY20.ow.box_ne bX20 ty_pc)
          have bA21 := (bA12.step hb20).grown hg21 (fun e => by injection e with e; omega)
          exact ⟨i + 1, v20, A20, n20, c20, d20, T20, nt20, ct20, ps20, tr20, by omega, by go_num, hX20 w21 g8 bX21 _ bX20 hg21, Lib.hid (fun _ => hm20.out), bY20, owY21, (B12.trans (hb20.mono z12)).trans (below_of_grown hg21 (fun j e => by injection e with e; omega) (by omega)), bA21⟩
        case measure => simp [intOf]; omega
    · have hi2 : ¬ (i : Int) < 2 := by omega
      have hand := Hand.out
      have hdi := HD.out
      go_wp2_with ((with_reducible refine on_load (.tmp 8) ?_); refine wl_cbox rfl (.tmp 8) rfl rfl X ?_)
      refine (may_box X D 0 (hmy.out (by omega))).mono ?_
      rintro e wd ⟨rfl, hbd⟩
      go_wp2
      go_ret
      exact ⟨rfl, hb.trans (hbd.mono hb.size)⟩
end Go.Proofs.Yteellpcagdnikaa
