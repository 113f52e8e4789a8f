/-
  netfile.Take.
-/
import Derived.Test.YtgapcmodhcdebaaNfTakeN
namespace Go.Proofs.Ytgapcmodhcdebaa
open Go.RowKit Go.Th
set_option linter.unusedVariables false
theorem z_errno : (Try.prog.info? 27).map (fun i => (i.zero.map Value.cells, i.size)) = some (some #[.int .i64 0], 1) := by kernel_rfl
/-- The deferred clearing. -/
theorem clear_any (ge gn : Nat) (e : Int) (A : Option Addr) (n c : Nat) (u : FrameMode) (w : World) (hne : ge ≠ gn) (be : Box w ge 27 #[.int .i64 e]) (bn : Box w gn 24 #[.slice A n c]) (v : Value) (hv : v = if e = 0 then .slice A n c else .slice none 0 0) :
    CallsD Try.prog 29 #[.pointer (some ⟨ge, 0, none⟩), .pointer (some ⟨gn, 0, none⟩)] u w fun x u' w' => u' = u ∧ (x = .returned (.tuple #[]) ∧ Box w' gn 24 #[v] ∧ Box w' ge 27 #[.int .i64 e] ∧ w.grownBy w' (some gn)) := by
  have y : w.cell? ⟨ge, 0, none⟩ = some (.int .i64 e) := be.cell 0
  by_cases h : e = 0
  · subst h
    rw [if_pos rfl] at hv
    subst hv
    go_enter_d Try.func29, Try.ntmps29
    go_wp2
    go_end0
    exact ⟨rfl, bn, be, grown_refl _ _⟩
  · rw [if_neg h] at hv
    subst hv
    have h2 : (e != 0) = true := by simpa using h
    go_enter_d Try.func29, Try.ntmps29
    go_wp2_with ((with_reducible refine on_store_at (.tmp 1) ?_); refine wb_store (cs := #[.slice A n c]) (cs' := #[.slice none 0 0]) rfl _ (.tmp 1) _ rfl st_net rfl rfl bn rfl rfl (by simp [Value.oneCell']) ?_; intro w4 b4 hg4)
    go_end0
    exact ⟨rfl, b4, be.grown hg4 (fun e => by injection e with e; exact hne e.symm), hg4⟩
theorem wq_netload {ops : Array Oper} {rest : List Oper} {o : Oper} {a : Act} {C : World → Prop} {Q : Act → Prop} (hw : Region.wanted o (yielded ops a.tmps) = true) (x : Operand) (ho : o.op = .load 24 x) {g : Nat} {v : Value} (hx : a.eval x = .pointer (some ⟨g, 0, none⟩)) (hb : ∀ w, C w → w.cell? ⟨g, 0, none⟩ = some v)
    (h : wpQuiet Try.prog ops C Q rest (a.put o.dst (.agg #[v]))) : wpQuiet Try.prog ops C Q (o :: rest) a :=
  wq_run hw (fun w hC => by simp only [execOp, ho, hx, Instr.loadAt, Instr.sureAddr, Sem.run_bind, Sem.run_pure, Result.andThen_ok, run_loadVar_at st_net (cs := [v]) rfl (fun i u hu => by cases i with | zero => injection hu with hu; subst hu; exact hb w hC | succ i => cases hu)]) h
/-- The two results' cells. -/
def TkS (gn ge : Nat) (a : Addr) : Prop := a = ⟨gn, 0, none⟩ ∨ a = ⟨ge, 0, none⟩
theorem TkS.n (gn ge : Nat) : TkS gn ge ⟨gn, 0, none⟩ := .inl rfl
theorem TkS.e (gn ge : Nat) : TkS gn ge ⟨ge, 0, none⟩ := .inr rfl
theorem ks_two {gn ge : Nat} {w w' : World} {cs es : Array Value} {tn te : TypeId} (bn : Box w gn tn cs) (be : Box w ge te es) (bn' : Box w' gn tn cs) (be' : Box w' ge te es) : ∀ a, TkS gn ge a → w'.cell? a = w.cell? a := by
  intro a ha
  rcases ha with rfl | rfl
  · rw [bn.cell 0, bn'.cell 0]
  · rw [be.cell 0, be'.cell 0]
theorem results_cc {P : Program} {fn : Func} {p u : Tmp} {ty ty2 : TypeId} (h : fn.results = #[.cell p ty, .cell u ty2]) (tmps : Array Value) (w : World) (g g2 : Nat) (t : TypeId) (cs : Array Value) (d : TypeDesc) {k : IntKind} {z : Int}
    (hp : tmps.getD p undef = .pointer (some ⟨g, 0, none⟩)) (hg : Box w g t cs) (hp2 : tmps.getD u undef = .pointer (some ⟨g2, 0, none⟩)) (hg2 : w.cell? ⟨g2, 0, none⟩ = some (.int k z))
    (hu : P.underlying ty = some d) (hd : (match d with | .struct _ | .array _ _ => true | _ => false) = true) (hi : (P.info? ty).map (·.size) = some cs.size) (hu2 : P.underlying ty2 = some (.int k)) :
    (results fn tmps).run P w = .ok (.tuple #[.agg cs, .int k z]) w := by
  have hp' : tmps[p]?.getD undef = .pointer (some ⟨g, 0, none⟩) := by simpa using hp
  have hu' : tmps[u]?.getD undef = .pointer (some ⟨g2, 0, none⟩) := by simpa using hp2
  have e2 : (loadVar ty2 ⟨g2, 0, none⟩).run P w = .ok (.int k z) w := by
    simp [loadVar, isAgg, run_underlying hu2, hg2]
  simp [results, h, hp', hu', asAddr, run_loadVar_row w g t ty cs (0, 0) d hg.at_ hu hd hi, e2]
theorem nodeT_len (bs : List UInt8) : (nodeT bs).1.length ≤ 4096 := by
  unfold nodeT
  split
  · simp
  · split
    · simp
    · exact allT_len 4096 _
theorem netT_bd (bs : List UInt8) : (netT bs).1.length ≤ 256 ∧ nsize (netT bs).1 ≤ 1048576 := by
  have h1 : (netT bs).1.length ≤ 256 := allT_len 256 bs
  have h2 := nsize_le (b := 4096) (allT_all (P := fun l : List Ru => l.length ≤ 4096) nodeT_len 256 bs)
  have h3 : nsize (netT bs).1 ≤ (netT bs).1.length * 4096 := h2
  omega
/-- What Take answers. -/
def RetNet (t : List (List Ru) × Int) (w : World) (e : Ending) (w' : World) : Prop :=
  ∃ A n c ns, e = .returned (.tuple #[.agg #[.slice A n c], .int .i64 t.2]) ∧ NRd w' w'.heap.size A n c ns ∧ Nd.ls ns = t.1 ∧ Below w.heap.size w w'
set_option maxRecDepth 100000 in
set_option maxHeartbeats 4000000 in
theorem nettake_any (A : Option Addr) (n c : Nat) (w : World) (hn : n ≤ 1000000) (bs : List UInt8) (hr : RdS bv w w.heap.size A n c bs) (t : List (List Ru) × Int) (ht : Hid (ntk bs = t)) :
    Calls Try.prog 15 #[.slice A n c] w (RetNet t w) := by
  have hmf : ∀ (fn : Fn) (first cap : Array Value) (w : World), (Instr.makeFunc fn first cap).run Try.prog w = .ok (.func fn first cap) w := fun _ _ _ _ => rfl
  obtain ⟨fr, hfr⟩ : ∃ fr, ftake 1179206193 bs = fr := ⟨_, rfl⟩
  have htk := ht.out
  unfold ntk at htk
  rw [hfr] at htk
  obtain ⟨bi, ef⟩ := fr
  have Htk := Lib.hid htk
  clear htk ht
  go_enter_defers Try.func15, Try.ntmps15
  go_upto_region 2 with (first
    | ((with_reducible refine on_alloc ?_); refine wl_newBox rfl _ rfl z_net ?_; intro gn w1 hgn hln bn hb1)
    | ((with_reducible refine on_alloc ?_); refine wl_newBox rfl _ rfl z_errno ?_; intro ge w2 hge hle be hb2; have bn := bn.step hb2; have k2 := hb1.trans (hb2.mono hb1.size)))
  have hr2 := (hr.step k2).heap
  have hne : ge ≠ gn := by omega
  have K1 := Lib.hid (ftake_isP 1179206193 (by omega) 1179206193 rfl A n c w2 hn bs hr2 bi ef hfr)
  go_upto_region 3 with (go_at_call 30; refine (K1.out).mono ?_; rintro e w3 ⟨A3, n3, c3, rfl, ow3, hb3⟩; have be3 := be.step hb3; have fz3 := be3.frozen 0; have y3 : w3.cell? ⟨ge, 0, none⟩ = some (.int .i64 0) := be3.cell 0)
  have bn3 := bn.step hb3
  have bS := be3.setCell 0 (.int .i64 ef)
  have k3 := k2.trans (hb3.mono k2.size)
  have k4 : Below w.heap.size w (w3.setCell ⟨ge, 0, none⟩ (.int .i64 ef)) := k3.trans (below_of_grown bS.2 (fun j e => by injection e with e; have := hb1.size; omega) k3.size)
  have ow4 := ow3.grown bS.2 (fun g' hA e => by have := ow3.ow.row_ge g' (by rw [hA]; rfl); injection e with e; omega)
  have bn4 := bn3.grown bS.2 (fun e => by injection e with e; omega)
  have be4 : Box (w3.setCell ⟨ge, 0, none⟩ (.int .i64 ef)) ge 27 #[.int .i64 ef] := bS.1
  obtain ⟨w4, hw4⟩ : ∃ W, w3.setCell ⟨ge, 0, none⟩ (.int .i64 ef) = W := ⟨_, rfl⟩
  rw [hw4] at k4 ow4 bn4 be4 ⊢
  have l3 : n3 ≤ 1000000 := by
    have h1 := ow3.len
    have h2 := hr.len
    have h3 : bi.length ≤ bs.length := by
      have : bi = (ftake 1179206193 bs).1 := by rw [hfr]
      rw [this]
      unfold ftake
      split
      · simp
      · split
        · split
          · simp only [List.length_drop, List.length_take]; omega
          · simp
        · simp
    omega
  have hge' : w.heap.size ≤ ge := by have := hb1.size; omega
  have hgl : gn < w4.heap.size ∧ ge < w4.heap.size := ⟨bn4.lt, be4.lt⟩
  have y4 : w4.cell? ⟨ge, 0, none⟩ = some (.int .i64 ef) := be4.cell 0
  clear hw4 bS bn3 k3 ow3 fz3 y3 be3 hb3 K1 hr2 hb2 hb1 bn be k2 hfr hln hle hge
  by_cases he : ef = 0
  rotate_left
  · have htk := Htk.out
    rw [if_pos he] at htk
    subst htk
    have he2 : (ef != 0) = true := by simpa using he
    go_upto_region 4 with fail
    have q1 : ∀ q : KSStep (TkS gn ge) w4.drew, q.w.cell? ⟨ge, 0, none⟩ = some (.int .i64 ef) := fun q => (q.h _ (TkS.e gn ge)).trans (be4.drew.cell 0)
    have q2 : ∀ w', Th.KSReach (TkS gn ge) w4.drew w' → w'.cell? ⟨gn, 0, none⟩ = some (.slice none 0 0) := fun w' hk => by
      obtain ⟨q, rfl⟩ := hk
      exact (q.h _ (TkS.n gn ge)).trans (bn4.drew.cell 0)
    refine wp_region_treeL 3 (.float 0 2 (.one 2 (.one 3 .done))) (Th.KSReach (TkS gn ge)) (Th.KSReach.trans _) (Th.KSReach.refl _) (by kernel_rfl) (by kernel_rfl) (by kernel_rfl) (fun KT hKT => ?_)
    refine wpTreeL_float (fun KF hKF => ?_)
    simp only [List.drop, List.take]
    repeat (first | go_big_quiet_skip | ((with_reducible refine onq_load (.tmp 2) ?_); refine wq_netload rfl (.tmp 2) rfl rfl q2 ?_) | go_big_quiet_step (fail) | quiet_step (fail))
    refine wpQuiet_nil ?_
    refine hKF _ ?_
    clear hKF KF
    refine wpTreeL_one (fun KO hKO => ?_)
    simp only [List.drop, List.take]
    go_wp2_with (first | ((with_reducible refine on_store_at (.tmp 2) ?_); refine wb_store (cs := #[.slice none 0 0]) (cs' := #[.slice none 0 0]) rfl _ (.tmp 2) _ rfl st_net rfl rfl bn4.drew rfl rfl (by simp [Value.oneCell']) ?_; intro w5 bn5 hg5; have be5 := be4.drew.grown hg5 (fun e => by injection e with e; omega); have ks5 := ks_two bn4.drew be4.drew bn5 be5; have y5 : w5.cell? ⟨ge, 0, none⟩ = some (.int .i64 ef) := be5.cell 0; have fz5 := be5.frozen 0))
    refine anch_endL (Th.KSReach.of (by first | exact fun _ _ => rfl | assumption | (exact ks_alloc _ _ (by assumption)))) (hKO _ _ ?_)
    clear hKO KO
    refine wpTreeL_one (fun KO hKO => ?_)
    simp only [List.drop, List.take]
    go_wp2_with (first | ((with_reducible refine on_store_at (.tmp 2) ?_); refine wb_store (cs := #[.slice none 0 0]) (cs' := #[.slice none 0 0]) rfl _ (.tmp 2) _ rfl st_net rfl rfl bn4.drew rfl rfl (by simp [Value.oneCell']) ?_; intro w5 bn5 hg5; have be5 := be4.drew.grown hg5 (fun e => by injection e with e; omega); have ks5 := ks_two bn4.drew be4.drew bn5 be5; have y5 : w5.cell? ⟨ge, 0, none⟩ = some (.int .i64 ef) := be5.cell 0; have fz5 := be5.frozen 0))
    refine anch_last (hKO _ _ ?_)
    clear hKO KO
    refine wpTreeL_done ?_
    refine hKT _ _ ?_
    clear hKT KT
    go_wp2
    have bS5 := be5.setCell 0 (.int .i64 ef)
    have be6 : Box (w5.setCell ⟨ge, 0, none⟩ (.int .i64 ef)) ge 27 #[.int .i64 ef] := bS5.1
    have bn6 := bn5.grown bS5.2 (fun e => by injection e with e; omega)
    refine leaves_cons (f := 29) (args := #[.pointer (some ⟨ge, 0, none⟩), .pointer (some ⟨gn, 0, none⟩)]) (by simp) (by simp [go_sem]) ?_
    refine (clear_any ge gn ef _ _ _ .returning _ hne be6 bn6 _ rfl).mono ?_
    rintro x u' w7 ⟨rfl, rfl, bn7, be7, hg7⟩
    rw [if_neg he] at bn7
    refine ⟨_, results_cc rfl _ w7 gn ge _ _ _ rfl bn7 rfl (be7.cell 0) Try.underlying24 rfl st_net.size Try.underlying27, none, 0, 0, [], rfl, NRd.nil _ _, rfl, ?_⟩
    have B5 : Below w.heap.size w w5 := k4.drew.trans (below_of_grown hg5 (fun j e => by injection e with e; omega) k4.size)
    have B6 := B5.trans (below_of_grown bS5.2 (fun j e => by injection e with e; omega) B5.size)
    exact B6.trans (below_of_grown hg7 (fun j e => by injection e with e; omega) B6.size)
  · subst he
    have htk := Htk.out
    rw [if_neg (by simp)] at htk
    unfold inT at htk
    obtain ⟨nt, hnt⟩ : ∃ nt, netT bi = nt := ⟨_, rfl⟩
    rw [hnt] at htk
    obtain ⟨lss, en⟩ := nt
    have K2 := Lib.hid (takeNodes_any A3 n3 c3 w4 l3 bi ow4.rd lss en hnt)
    simp only at htk
    have Htk2 := Lib.hid htk
    clear htk Htk
    go_upto_region 6 with (first
      | (go_at_call 31; refine (K2.out).mono ?_; rintro e w8 ⟨A8, n8, c8, ns, rfl, no8, hns, hb8⟩; have bn8 := bn4.step hb8; have be8 := be4.step hb8; have y8 : w8.cell? ⟨gn, 0, none⟩ = some (.slice none 0 0) := bn8.cell 0; have y8e : w8.cell? ⟨ge, 0, none⟩ = some (.int .i64 0) := be8.cell 0; have fz8 := bn8.frozen 0; have fz8e := be8.frozen 0; have bS8 := bn8.setCell 0 (.slice A8 n8 c8); have be9 := be8.grown bS8.2 (fun e => by injection e with e; omega); have y9e : (w8.setCell ⟨gn, 0, none⟩ (.slice A8 n8 c8)).cell? ⟨ge, 0, none⟩ = some (.int .i64 0) := be9.cell 0; have fz9e := be9.frozen 0))
    have no9 := no8.grown bS8.2 (fun j e => by injection e with e; omega)
    have bn9 : Box (w8.setCell ⟨gn, 0, none⟩ (.slice A8 n8 c8)) gn 24 #[.slice A8 n8 c8] := bS8.1
    have bS9 := be9.setCell 0 (.int .i64 en)
    have bn9 := bn9.grown bS9.2 (fun e => by injection e with e; omega)
    have no9 := no9.grown bS9.2 (fun j e => by injection e with e; omega)
    have B8 := k4.trans (hb8.mono k4.size)
    have B9 := B8.trans (below_of_grown bS8.2 (fun j e => by injection e with e; omega) B8.size)
    have B9 := B9.trans (below_of_grown bS9.2 (fun j e => by injection e with e; omega) B9.size)
    have be9 : Box ((w8.setCell ⟨gn, 0, none⟩ (.slice A8 n8 c8)).setCell ⟨ge, 0, none⟩ (.int .i64 en)) ge 27 #[.int .i64 en] := bS9.1
    obtain ⟨w9, hw9⟩ : ∃ W, (w8.setCell ⟨gn, 0, none⟩ (.slice A8 n8 c8)).setCell ⟨ge, 0, none⟩ (.int .i64 en) = W := ⟨_, rfl⟩
    rw [hw9] at bn9 no9 be9 B9 ⊢
    have y9 : w9.cell? ⟨ge, 0, none⟩ = some (.int .i64 en) := be9.cell 0
    have hbd := netT_bd bi
    rw [hnt] at hbd
    clear hw9 bS8 bS9 fz9e y9e fz8 fz8e y8 y8e be8 bn8 hb8 no8 K2 ow4 bn4 be4 y4 B8 k4 hnt
    by_cases he : en = 0
    rotate_left
    · have htk := Htk2.out
      rw [if_pos he] at htk
      subst htk
      have he2 : (en != 0) = true := by simpa using he
      go_upto_region 7 with fail
      have q1 : ∀ q : KSStep (TkS gn ge) w9.drew, q.w.cell? ⟨ge, 0, none⟩ = some (.int .i64 en) := fun q => (q.h _ (TkS.e gn ge)).trans (be9.drew.cell 0)
      have q2 : ∀ w', Th.KSReach (TkS gn ge) w9.drew w' → w'.cell? ⟨gn, 0, none⟩ = some (.slice A8 n8 c8) := fun w' hk => by
        obtain ⟨q, rfl⟩ := hk
        exact (q.h _ (TkS.n gn ge)).trans (bn9.drew.cell 0)
      refine wp_region_treeL 3 (.float 0 2 (.one 2 (.one 3 .done))) (Th.KSReach (TkS gn ge)) (Th.KSReach.trans _) (Th.KSReach.refl _) (by kernel_rfl) (by kernel_rfl) (by kernel_rfl) (fun KT hKT => ?_)
      refine wpTreeL_float (fun KF hKF => ?_)
      simp only [List.drop, List.take]
      repeat (first | go_big_quiet_skip | ((with_reducible refine onq_load (.tmp 2) ?_); refine wq_netload rfl (.tmp 2) rfl rfl q2 ?_) | go_big_quiet_step (fail) | quiet_step (fail))
      refine wpQuiet_nil ?_
      refine hKF _ ?_
      clear hKF KF
      refine wpTreeL_one (fun KO hKO => ?_)
      simp only [List.drop, List.take]
      go_wp2_with (first | ((with_reducible refine on_store_at (.tmp 2) ?_); refine wb_store (cs := #[.slice A8 n8 c8]) (cs' := #[.slice A8 n8 c8]) rfl _ (.tmp 2) _ rfl st_net rfl rfl bn9.drew rfl rfl (by simp [Value.oneCell']) ?_; intro w5 bn5 hg5; have be5 := be9.drew.grown hg5 (fun e => by injection e with e; omega); have ks5 := ks_two bn9.drew be9.drew bn5 be5; have y5 : w5.cell? ⟨ge, 0, none⟩ = some (.int .i64 en) := be5.cell 0; have fz5 := be5.frozen 0))
      refine anch_endL (Th.KSReach.of (by first | exact fun _ _ => rfl | assumption | (exact ks_alloc _ _ (by assumption)))) (hKO _ _ ?_)
      clear hKO KO
      refine wpTreeL_one (fun KO hKO => ?_)
      simp only [List.drop, List.take]
      go_wp2_with (first | ((with_reducible refine on_store_at (.tmp 2) ?_); refine wb_store (cs := #[.slice A8 n8 c8]) (cs' := #[.slice A8 n8 c8]) rfl _ (.tmp 2) _ rfl st_net rfl rfl bn9.drew rfl rfl (by simp [Value.oneCell']) ?_; intro w5 bn5 hg5; have be5 := be9.drew.grown hg5 (fun e => by injection e with e; omega); have ks5 := ks_two bn9.drew be9.drew bn5 be5; have y5 : w5.cell? ⟨ge, 0, none⟩ = some (.int .i64 en) := be5.cell 0; have fz5 := be5.frozen 0))
      refine anch_last (hKO _ _ ?_)
      clear hKO KO
      refine wpTreeL_done ?_
      refine hKT _ _ ?_
      clear hKT KT
      go_wp2
      have bS5 := be5.setCell 0 (.int .i64 en)
      have be6 : Box (w5.setCell ⟨ge, 0, none⟩ (.int .i64 en)) ge 27 #[.int .i64 en] := bS5.1
      have bn6 := bn5.grown bS5.2 (fun e => by injection e with e; omega)
      refine leaves_cons (f := 29) (args := #[.pointer (some ⟨ge, 0, none⟩), .pointer (some ⟨gn, 0, none⟩)]) (by simp) (by simp [go_sem]) ?_
      refine (clear_any ge gn en _ _ _ .returning _ hne be6 bn6 _ rfl).mono ?_
      rintro x u' w7 ⟨rfl, rfl, bn7, be7, hg7⟩
      rw [if_neg he] at bn7
      refine ⟨_, results_cc rfl _ w7 gn ge _ _ _ rfl bn7 rfl (be7.cell 0) Try.underlying24 rfl st_net.size Try.underlying27, none, 0, 0, [], rfl, NRd.nil _ _, rfl, ?_⟩
      have B5 : Below w.heap.size w w5 := B9.drew.trans (below_of_grown hg5 (fun j e => by injection e with e; omega) B9.size)
      have B6 := B5.trans (below_of_grown bS5.2 (fun j e => by injection e with e; omega) B5.size)
      exact B6.trans (below_of_grown hg7 (fun j e => by injection e with e; omega) B6.size)
    · subst he
      have htk := Htk2.out
      rw [if_neg (by simp)] at htk
      obtain ⟨em, hem⟩ : ∃ em, nmay lss = em := ⟨_, rfl⟩
      rw [hem] at htk
      have hl8 := no9.rd.len
      have hK := netmay_any A8 n8 c8 ns w9.drew (by rw [← hns, Nd.ls_len] at hbd; omega) (by rw [hns]; have := hbd.2; simp only at this; omega) _ ((no9.below (bdrew1 w9)).rd) em (by rw [hns]; exact hem)
      have K3 := Lib.hid hK
      have Htk3 := Lib.hid htk
      clear htk Htk2 hK hem hbd
      go_upto_region 8 with fail
      have q2 : ∀ w', Th.KSReach (TkS gn ge) w9.drew w' → w'.cell? ⟨gn, 0, none⟩ = some (.slice A8 n8 c8) := fun w' hk => by
        obtain ⟨q, rfl⟩ := hk
        exact (q.h _ (TkS.n gn ge)).trans (bn9.drew.cell 0)
      refine wp_region_treeL 4 (.float 0 2 (.one 2 (.one 3 (.one 4 .done)))) (Th.KSReach (TkS gn ge)) (Th.KSReach.trans _) (Th.KSReach.refl _) (by kernel_rfl) (by kernel_rfl) (by kernel_rfl) (fun KT hKT => ?_)
      refine wpTreeL_float (fun KF hKF => ?_)
      simp only [List.drop, List.take]
      repeat (first | go_big_quiet_skip | ((with_reducible refine onq_load (.tmp 2) ?_); refine wq_netload rfl (.tmp 2) rfl rfl q2 ?_) | go_big_quiet_step (fail) | quiet_step (fail))
      refine wpQuiet_nil ?_
      refine hKF _ ?_
      clear hKF KF
      refine wpTreeL_one (fun KO hKO => ?_)
      simp only [List.drop, List.take]
      go_wp2_with (first | (go_at_call 20; refine (K3.out).mono ?_; rintro e w10 ⟨rfl, hb10⟩; have bn10 := bn9.drew.step hb10; have be10 := be9.drew.step hb10; have ks10 := ks_two bn9.drew be9.drew bn10 be10) | ((with_reducible refine on_store_at (.tmp 2) ?_); refine wb_store (cs := #[.slice A8 n8 c8]) (cs' := #[.slice A8 n8 c8]) rfl _ (.tmp 2) _ rfl st_net rfl rfl bn10 rfl rfl (by simp [Value.oneCell']) ?_; intro w5 bn5 hg5; have be5 := be10.grown hg5 (fun e => by injection e with e; omega); have ks5 := ks_two bn10 be10 bn5 be5; have y5 : w5.cell? ⟨ge, 0, none⟩ = some (.int .i64 0) := be5.cell 0; have fz5 := be5.frozen 0))
      refine anch_endL (Th.KSReach.of (by first | exact fun _ _ => rfl | assumption | (exact ks_alloc _ _ (by assumption)))) (hKO _ _ ?_)
      clear hKO KO
      refine wpTreeL_one (fun KO hKO => ?_)
      simp only [List.drop, List.take]
      go_wp2_with (first | (go_at_call 20; refine (K3.out).mono ?_; rintro e w10 ⟨rfl, hb10⟩; have bn10 := bn9.drew.step hb10; have be10 := be9.drew.step hb10; have ks10 := ks_two bn9.drew be9.drew bn10 be10) | ((with_reducible refine on_store_at (.tmp 2) ?_); refine wb_store (cs := #[.slice A8 n8 c8]) (cs' := #[.slice A8 n8 c8]) rfl _ (.tmp 2) _ rfl st_net rfl rfl bn10 rfl rfl (by simp [Value.oneCell']) ?_; intro w5 bn5 hg5; have be5 := be10.grown hg5 (fun e => by injection e with e; omega); have ks5 := ks_two bn10 be10 bn5 be5; have y5 : w5.cell? ⟨ge, 0, none⟩ = some (.int .i64 0) := be5.cell 0; have fz5 := be5.frozen 0))
      refine anch_endL (Th.KSReach.of (by first | exact fun _ _ => rfl | assumption | (exact ks_alloc _ _ (by assumption)))) (hKO _ _ ?_)
      clear hKO KO
      refine wpTreeL_one (fun KO hKO => ?_)
      simp only [List.drop, List.take]
      go_wp2_with (first | (go_at_call 20; refine (K3.out).mono ?_; rintro e w10 ⟨rfl, hb10⟩; have bn10 := bn9.drew.step hb10; have be10 := be9.drew.step hb10; have ks10 := ks_two bn9.drew be9.drew bn10 be10) | ((with_reducible refine on_store_at (.tmp 2) ?_); refine wb_store (cs := #[.slice A8 n8 c8]) (cs' := #[.slice A8 n8 c8]) rfl _ (.tmp 2) _ rfl st_net rfl rfl bn10 rfl rfl (by simp [Value.oneCell']) ?_; intro w5 bn5 hg5; have be5 := be10.grown hg5 (fun e => by injection e with e; omega); have ks5 := ks_two bn10 be10 bn5 be5; have y5 : w5.cell? ⟨ge, 0, none⟩ = some (.int .i64 0) := be5.cell 0; have fz5 := be5.frozen 0))
      refine anch_last (hKO _ _ ?_)
      clear hKO KO
      refine wpTreeL_done ?_
      refine hKT _ _ ?_
      clear hKT KT
      go_wp2
      have bS5 := be5.setCell 0 (.int .i64 em)
      have be6 : Box (w5.setCell ⟨ge, 0, none⟩ (.int .i64 em)) ge 27 #[.int .i64 em] := bS5.1
      have bn6 := bn5.grown bS5.2 (fun e => by injection e with e; omega)
      refine leaves_cons (f := 29) (args := #[.pointer (some ⟨ge, 0, none⟩), .pointer (some ⟨gn, 0, none⟩)]) (by simp) (by simp [go_sem]) ?_
      refine (clear_any ge gn em _ _ _ .returning _ hne be6 bn6 _ rfl).mono ?_
      rintro x u' w7 ⟨rfl, rfl, bn7, be7, hg7⟩
      have B5 : Below w.heap.size w w10 := B9.drew.trans (hb10.mono B9.size)
      have B5 := B5.trans (below_of_grown hg5 (fun j e => by injection e with e; omega) B5.size)
      have B6 := B5.trans (below_of_grown bS5.2 (fun j e => by injection e with e; omega) B5.size)
      have B7 := B6.trans (below_of_grown hg7 (fun j e => by injection e with e; omega) B6.size)
      by_cases hm : em = 0
      · subst hm
        have ht := Htk3.out
        rw [if_neg (by simp)] at ht
        subst ht
        rw [if_pos rfl] at bn7
        have no10 := (no9.below (bdrew1 w9)).below hb10
        have no7 := ((no10.grown hg5 (fun j e => by injection e with e; omega)).grown bS5.2 (fun j e => by injection e with e; omega)).grown hg7 (fun j e => by injection e with e; omega)
        exact ⟨_, results_cc rfl _ w7 gn ge _ _ _ rfl bn7 rfl (be7.cell 0) Try.underlying24 rfl st_net.size Try.underlying27, A8, n8, c8, ns, rfl, no7.rd, hns, B7⟩
      · have ht := Htk3.out
        rw [if_pos hm] at ht
        subst ht
        rw [if_neg hm] at bn7
        exact ⟨_, results_cc rfl _ w7 gn ge _ _ _ rfl bn7 rfl (be7.cell 0) Try.underlying24 rfl st_net.size Try.underlying27, none, 0, 0, [], rfl, NRd.nil _ _, rfl, B7⟩
end Go.Proofs.Ytgapcmodhcdebaa
