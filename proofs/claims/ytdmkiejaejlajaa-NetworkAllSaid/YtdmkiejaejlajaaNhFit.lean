/-
  theseusref09.Fit.
-/
import Derived.Test.YtdmkiejaejlajaaNhMem
import Derived.Test.YtdmkiejaejlajaaNhMc
import Derived.Deep.DeepCutAuto
namespace Go.Proofs.Ytdmkiejaejlajaa
open Go.RowKit Go.Th
set_option linter.unusedVariables false
theorem z_net : (Try.prog.info? 24).map (fun i => (i.zero.map Value.cells, i.size)) = some (some #[.slice none 0 0], 1) := by kernel_rfl
theorem ins_ok {out : List Ru} {r : Ru} (h : ∀ s ∈ out, s.Ok) (hr : r.Ok) : ∀ s ∈ ins out r, s.Ok := by
  intro s hs
  unfold ins at hs
  split at hs
  · split at hs
    · exact h s hs
    · rcases List.mem_append.1 hs with hs | hs
      · exact h s (List.mem_of_mem_take hs)
      · rcases List.mem_cons.1 hs with rfl | hs
        · exact hr
        · exact h s (List.mem_of_mem_drop hs)
  · rcases List.mem_append.1 hs with hs | hs
    · exact h s hs
    · rw [List.mem_singleton.1 hs]; exact hr
theorem fold_ok {nodes : Int} (hn : 1 ≤ nodes ∧ nodes ≤ 4611686018427387904) : ∀ (l out : List Ru), (∀ r ∈ l, r.Ok) → (∀ r ∈ out, r.Ok) → ∀ r ∈ l.foldl (fun out r => ins out (r.fit nodes)) out, r.Ok
  | [], out, _, h => h
  | r :: l, out, hl, h => fold_ok hn l _ (fun s hs => hl s (by simp [hs])) (ins_ok h (Ru.fit_ok r nodes (hl r (by simp)) hn))
theorem fitT_ok (l : List Ru) (M : Nat) (hl : ∀ r ∈ l, r.Ok) (hM : 1 ≤ (M : Int) ∧ (M : Int) ≤ 4611686018427387904) : ∀ r ∈ fitT l M, r.Ok := fold_ok hM _ [] (fun r hr => hl r (List.mem_of_mem_take hr)) (by simp)
def NfitRel (ns : List Nd) (w : World) (g : Nat) (w2 : World) (i : Value) (wr : World) : Prop :=
  ∃ (k c : Nat) (A : Option Addr) (ms : List Nd), k ≤ nmany (Nd.ls ns) ∧ i = .int .i64 k ∧ Box wr g 24 #[.slice A k c] ∧ NO 33 40 wr (g + 1) A k c ms ∧ Hid (Nd.ls ms = nfitTo (Nd.ls ns) k) ∧ Below g w2 wr
set_option maxRecDepth 100000 in
set_option maxHeartbeats 4000000 in
theorem netfit_any (A : Option Addr) (n c : Nat) (ns : List Nd) (w : World) (hn : n ≤ 9223372036854775807) (hx : ∀ x ∈ ns, x.n ≤ 9223372036854775807) (B : Nat) (hr : NRd w B A n c ns) :
    Calls Try.prog 11 #[.agg #[.slice A n c]] w (fun e w' => ∃ A' m c' ms, e = .returned (.agg #[.slice A' m c']) ∧ NO 33 40 w' w.heap.size A' m c' ms ∧ Nd.ls ms = nfit (Nd.ls ns) ∧ Below w.heap.size w w') := by
  have hlen := hr.len
  have hmany : nmany (Nd.ls ns) = max 1 (min n 8) := by unfold nmany; rw [Nd.ls_len, hlen]
  have hm8 := nmany_bd (Nd.ls ns)
  obtain ⟨M, hM⟩ : ∃ M, nmany (Nd.ls ns) = M := ⟨_, rfl⟩
  rw [hM] at hmany hm8
  have HM := Lib.hid hM
  have Hx := Lib.hid hx
  have Hmany := Lib.hid hmany
  clear hM hx
  have hMi : (if (1 : Int) < if (8 : Int) < (n : Int) then 8 else (n : Int) then if (8 : Int) < (n : Int) then 8 else (n : Int) else 1) = (M : Int) := by
    by_cases h : (8 : Int) < (n : Int)
    · simp only [h, if_true]; omega
    · simp only [h, if_false]
      by_cases h2 : (1 : Int) < (n : Int)
      · rw [if_pos h2]; omega
      · rw [if_neg h2]; omega
  clear hmany
  have k0 := below_alloc w (Nat.le_refl _) (.cells #[.slice A n c] 24)
  have b0 := Box.new w #[.slice A n c] 24
  go_enter Try.func11, Try.ntmps11
  go_upto_region 1 with ((with_reducible refine on_alloc ?_); refine wl_newBox rfl _ rfl z_net ?_; intro gr w1 hgr hlr br hb1; have l0 := b0.lt; have b0 := b0.step hb1; have k0 := k0.trans (hb1.mono k0.size))
  go_upto_region 2 with (first
    | ((with_reducible refine on_alloc ?_); refine wl_newBox rfl _ rfl z_net ?_; intro g w2 hg2 hl2 b2 hb2; have br := br.step hb2; have b0 := b0.step hb2; have k0 := k0.trans (hb2.mono k0.size))
    | ((with_reducible refine on_store_at (.tmp 3) ?_); refine wb_store (cs := #[.slice none 0 0]) (cs' := #[.slice none 0 0]) rfl _ (.tmp 3) _ rfl st_net rfl rfl b2 rfl rfl (by simp [Value.oneCell']) ?_; intro w4 b4 hg4))
  have ngr : gr < g := by omega
  have n0 : w.heap.size < gr := by omega
  have b0 := b0.grown hg4 (fun e => by injection e with e; omega)
  have br := br.grown hg4 (fun e => by injection e with e; omega)
  have k4 : Below w.heap.size w w4 := k0.trans (below_of_grown hg4 (fun j e => by injection e with e; omega) k0.size)
  have hg4' := b4.lt
  clear hb1 hb2 hg2 hl2 hgr hlr hg4 b2 k0 l0
  have y0 : w4.cell? ⟨w.heap.size, 0, none⟩ = some (.slice A n c) := b0.cell 0
  go_upto_region 3 with fail
  obtain ⟨m11, h11⟩ : ∃ m : Int, (if (8 : Int) < (n : Int) then 8 else (n : Int)) = m := ⟨_, rfl⟩
  rw [h11]
  clear hMi y0 h11
  go_wp2_with fail
  go_loopw [5, 6] (fun i _ wr => NfitRel ns w g w4 i wr) (fun i _ _ => M - (intOf i).toNat)
  case atStart => exact ⟨0, 0, none, [], by omega, rfl, b4, NO.nil _ _, Lib.hid rfl, Below.refl _ _⟩
  case round =>
    obtain ⟨k, c1, A1, ms, hk, rfl, bx, no, hms, hb⟩ := hrel
    rw [HM.out] at hk
    have kw := k4.trans (hb.mono (by omega))
    have hrk := hr.step kw
    have hgb := bx.lt
    have b0r := b0.below hb (by omega)
    have brr := br.below hb ngr
    have y0 : wr.cell? ⟨w.heap.size, 0, none⟩ = some (.slice A n c) := b0r.cell 0
    by_cases hlt : k < M
    · obtain ⟨l, hl⟩ : ∃ l, (Nd.ls ns).getD k [] = l := ⟨_, rfl⟩
      have hsn := nfitTo_snoc (Nd.ls ns) k
      rw [hl, HM.out] at hsn
      have Hsn := Lib.hid hsn
      have Hl := Lib.hid hl
      clear hsn hl
      go_upto_region 7 with fail
      have k5 := below_alloc wr (Nat.le_refl _) (.cells #[] 40)
      have o5 := OwM.lit (base := wr.heap.size) (e := 40) (xs := []) Ru.cs_length wr #[] 0 (Nat.le_refl _) (by simp [maxLen]) rfl rfl
      obtain ⟨w5, hw5⟩ : ∃ W, wr.alloc (.cells #[] 40) = W := ⟨_, rfl⟩
      rw [hw5] at k5 o5 ⊢
      clear hw5
      have y5 : w5.cell? ⟨w.heap.size, 0, none⟩ = some (.slice A n c) := (b0r.step k5).cell 0
      have hr5 := hrk.step k5
      go_upto_if 23 with fail
      go_cut [6] (fun s6 wx => wx = w5 ∧ ∃ (A' : Option Addr) (n' c' : Nat), s6 = .slice A' n' c' ∧ RdM Ru.cs w5 w5.heap.size A' n' c' l ∧ n' ≤ 9223372036854775807 ∧ ∀ r ∈ l, r.Ok)
      case first =>
        by_cases hkn : k < n
        · obtain ⟨x, hx⟩ : ∃ x, ns[k]? = some x := ⟨ns[k]'(by omega), List.getElem?_eq_getElem _⟩
          have hxm := List.mem_of_getElem? hx
          have hxl : x.l = l := by rw [← Hl.out, List.getD_eq_getElem?_getD, Nd.ls_get hx]; rfl
          have hd : decide ((k : Int) < (n : Int)) = true := decide_eq_true (by omega)
          have Hx1 := Lib.hid hx
          clear hx
          go_wp2_with ((with_reducible refine on_index (.tmp 25) ?_); refine wn_at rfl _ (.tmp 25) _ rfl el_row rfl rfl (by omega) (by omega) hr5.rd ?_; intro b j y hy hbB hc; have hxx : x = y := (by have e := hy.out; rw [Int.toNat_natCast, Hx1.out] at e; injection e); subst hxx)
          go_meet
          case rel => exact ⟨rfl, x.A, x.n, x.c, rfl, by rw [← hxl]; exact (hr5.rk x hxm).heap, Hx.out x hxm, by rw [← hxl]; exact hr5.ok x hxm⟩
        · have hd : decide ((k : Int) < (n : Int)) = false := decide_eq_false (by omega)
          have hl0 : l = [] := by rw [← Hl.out, List.getD_eq_getElem?_getD, List.getElem?_eq_none (by rw [Nd.ls_len]; omega)]; rfl
          go_wp2
          go_meet
          case rel => exact ⟨rfl, _, 0, 0, rfl, by rw [hl0]; exact o5.rd, by omega, by rw [hl0]; simp⟩
      case rest =>
        obtain ⟨rfl, A', n', c', rfl, rl, hn', hok⟩ := hcut
        go_upto_region 9 with fail
        have bx5 := bx.step k5
        have no5 := no.below k5
        have gl5 := bx5.lt
        have zg : g < wc.drew.heap.size := gl5
        have y2 : ∀ q : KStep g wc.drew, q.w.cell? ⟨g, 0, none⟩ = some (.slice A1 k c1) := fun q => (bx5.drew.keep q).cell 0
        have hrow : Hid (rowOf A1 ≠ some g) := Lib.hid (fun e => by have := no.row.ow.row_ge _ e; omega)
        have noD := no5.below (bdrew1 wc)
        have rl5 := (rl.step (bdrew1 wc)).heap
        obtain ⟨t, ht⟩ : ∃ t, fitT l (M : Int) = t := ⟨_, rfl⟩
        rw [ht] at Hsn
        have htok : ∀ r ∈ t, r.Ok := by rw [← ht]; exact fun r hr => fitT_ok l M hok (by omega) r hr
        have K := Lib.hid (fit_any A' n' c' l M wc.drew hn' _ rl5 hok (by omega))
        rw [ht] at K
        have Htok := Lib.hid htok
        have hgw : g + 1 ≤ wc.drew.heap.size := zg
        clear ht htok o5 y5 hr5 b0r hrk rl rl5 no5
        refine wp_region_treeL 8 (.float 0 4 (.one 4 (.one 5 (.one 6 (.float 7 1 (.one 8 .done)))))) (Th.KReach g) (Th.KReach.trans _) (Th.KReach.refl _) (by kernel_rfl) (by kernel_rfl) (by kernel_rfl) (fun KT hKT => ?_)
        refine wpTreeL_float (fun KF hKF => ?_)
        simp only [List.drop, List.take]
        repeat (first | go_big_quiet_skip | go_big_quiet_step (fail) | quiet_step (fail))
        refine wpQuiet_nil ?_
        refine hKF _ ?_
        clear hKF KF
        refine wpTreeL_one (fun KO hKO => ?_)
        simp only [List.drop, List.take]
        go_wp2_with (first | (go_at_call 25; refine (K.out).mono ?_; rintro e w6 ⟨Af, mf, cf, rfl, hmf, owf, hb6⟩; have kg6 : w6.heap[g]? = wc.drew.heap[g]? := hb6.block g zg; have z6 : g < w6.heap.size := Nat.lt_of_lt_of_le zg hb6.size; have no6 := noD.below hb6) | ((with_reducible refine on_append (.tmp 30) (.tmp 34) ?_); refine wl_appendS rfl (.tmp 30) (.tmp 34) _ rfl el_row (f := sv) sv_one rfl (no6.row.alloc (.cells #[.slice Af mf cf] 33)) rfl (OwS.lit (base := w6.heap.size) (e := 33) (xs := [(⟨Af, mf, cf, t⟩ : Nd)]) w6 #[.slice Af mf cf] 1 (Nat.le_refl _) (by simp [maxLen]) rfl rfl).rd (by omega) (by omega) (by simp; omega) ?_; intro A8 c8 w8 ow8 hg8 hb8; have kg : w8.heap[g]? = (w6.alloc (.cells #[.slice Af mf cf] 33)).heap[g]? := keep_grown hg8 (by simp; omega) hrow.out; have bx8 := ((bx5.drew.step hb6).alloc (.cells #[.slice Af mf cf] 33)).grown hg8 hrow.out; have k2 : w8.cell? ⟨g, 0, none⟩ = some (.slice A1 k c1) := bx8.cell 0; have fz2 := bx8.frozen 0; have bS := bx8.setCell 0 (.slice A8 (k + 1) c8); have no8 := (no6.below (below_alloc w6 (Nat.le_refl _) (.cells #[.slice Af mf cf] 33))).more (x := ⟨Af, mf, cf, t⟩) ty_rows ((owf.alloc (.cells #[.slice Af mf cf] 33)).base_le hgw) Htok.out hg8 ow8; have no9 := no8.grown bS.2 (fun j e => by injection e with e; omega); have B8 := ((bdrew _ _ : Below g wc wc.drew).trans ((hb6.mono (by omega)).trans (below_alloc w6 (by omega) (.cells #[.slice Af mf cf] 33)))).trans ((hb8.mono (by omega)).trans (below_of_grown (B := g) bS.2 (fun j e => by injection e with e; omega) (by have := bx8.lt; omega)))))
        refine anch_endL (Th.KReach.of (by first | exact rfl | assumption | (simp; done) | (exact keep_alloc _ _ (by assumption)))) (hKO _ _ ?_)
        clear hKO KO
        refine wpTreeL_one (fun KO hKO => ?_)
        simp only [List.drop, List.take]
        go_wp2_with (first | (go_at_call 25; refine (K.out).mono ?_; rintro e w6 ⟨Af, mf, cf, rfl, hmf, owf, hb6⟩; have kg6 : w6.heap[g]? = wc.drew.heap[g]? := hb6.block g zg; have z6 : g < w6.heap.size := Nat.lt_of_lt_of_le zg hb6.size; have no6 := noD.below hb6) | ((with_reducible refine on_append (.tmp 30) (.tmp 34) ?_); refine wl_appendS rfl (.tmp 30) (.tmp 34) _ rfl el_row (f := sv) sv_one rfl (no6.row.alloc (.cells #[.slice Af mf cf] 33)) rfl (OwS.lit (base := w6.heap.size) (e := 33) (xs := [(⟨Af, mf, cf, t⟩ : Nd)]) w6 #[.slice Af mf cf] 1 (Nat.le_refl _) (by simp [maxLen]) rfl rfl).rd (by omega) (by omega) (by simp; omega) ?_; intro A8 c8 w8 ow8 hg8 hb8; have kg : w8.heap[g]? = (w6.alloc (.cells #[.slice Af mf cf] 33)).heap[g]? := keep_grown hg8 (by simp; omega) hrow.out; have bx8 := ((bx5.drew.step hb6).alloc (.cells #[.slice Af mf cf] 33)).grown hg8 hrow.out; have k2 : w8.cell? ⟨g, 0, none⟩ = some (.slice A1 k c1) := bx8.cell 0; have fz2 := bx8.frozen 0; have bS := bx8.setCell 0 (.slice A8 (k + 1) c8); have no8 := (no6.below (below_alloc w6 (Nat.le_refl _) (.cells #[.slice Af mf cf] 33))).more (x := ⟨Af, mf, cf, t⟩) ty_rows ((owf.alloc (.cells #[.slice Af mf cf] 33)).base_le hgw) Htok.out hg8 ow8; have no9 := no8.grown bS.2 (fun j e => by injection e with e; omega); have B8 := ((bdrew _ _ : Below g wc wc.drew).trans ((hb6.mono (by omega)).trans (below_alloc w6 (by omega) (.cells #[.slice Af mf cf] 33)))).trans ((hb8.mono (by omega)).trans (below_of_grown (B := g) bS.2 (fun j e => by injection e with e; omega) (by have := bx8.lt; omega)))))
        refine anch_endL (Th.KReach.of (by first | exact rfl | assumption | (simp; done) | (exact keep_alloc _ _ (by assumption)))) (hKO _ _ ?_)
        clear hKO KO
        refine wpTreeL_one (fun KO hKO => ?_)
        simp only [List.drop, List.take]
        go_wp2_with (first | (go_at_call 25; refine (K.out).mono ?_; rintro e w6 ⟨Af, mf, cf, rfl, hmf, owf, hb6⟩; have kg6 : w6.heap[g]? = wc.drew.heap[g]? := hb6.block g zg; have z6 : g < w6.heap.size := Nat.lt_of_lt_of_le zg hb6.size; have no6 := noD.below hb6) | ((with_reducible refine on_append (.tmp 30) (.tmp 34) ?_); refine wl_appendS rfl (.tmp 30) (.tmp 34) _ rfl el_row (f := sv) sv_one rfl (no6.row.alloc (.cells #[.slice Af mf cf] 33)) rfl (OwS.lit (base := w6.heap.size) (e := 33) (xs := [(⟨Af, mf, cf, t⟩ : Nd)]) w6 #[.slice Af mf cf] 1 (Nat.le_refl _) (by simp [maxLen]) rfl rfl).rd (by omega) (by omega) (by simp; omega) ?_; intro A8 c8 w8 ow8 hg8 hb8; have kg : w8.heap[g]? = (w6.alloc (.cells #[.slice Af mf cf] 33)).heap[g]? := keep_grown hg8 (by simp; omega) hrow.out; have bx8 := ((bx5.drew.step hb6).alloc (.cells #[.slice Af mf cf] 33)).grown hg8 hrow.out; have k2 : w8.cell? ⟨g, 0, none⟩ = some (.slice A1 k c1) := bx8.cell 0; have fz2 := bx8.frozen 0; have bS := bx8.setCell 0 (.slice A8 (k + 1) c8); have no8 := (no6.below (below_alloc w6 (Nat.le_refl _) (.cells #[.slice Af mf cf] 33))).more (x := ⟨Af, mf, cf, t⟩) ty_rows ((owf.alloc (.cells #[.slice Af mf cf] 33)).base_le hgw) Htok.out hg8 ow8; have no9 := no8.grown bS.2 (fun j e => by injection e with e; omega); have B8 := ((bdrew _ _ : Below g wc wc.drew).trans ((hb6.mono (by omega)).trans (below_alloc w6 (by omega) (.cells #[.slice Af mf cf] 33)))).trans ((hb8.mono (by omega)).trans (below_of_grown (B := g) bS.2 (fun j e => by injection e with e; omega) (by have := bx8.lt; omega)))))
        refine anch_endL (Th.KReach.of (by first | exact rfl | assumption | (simp; done) | (exact keep_alloc _ _ (by assumption)))) (hKO _ _ ?_)
        clear hKO KO
        refine wpTreeL_float (fun KF hKF => ?_)
        simp only [List.drop, List.take]
        repeat (first | go_big_quiet_skip | go_big_quiet_step (fail) | quiet_step (fail))
        refine wpQuiet_nil ?_
        refine hKF _ ?_
        clear hKF KF
        refine wpTreeL_one (fun KO hKO => ?_)
        simp only [List.drop, List.take]
        go_wp2_with (first | (go_at_call 25; refine (K.out).mono ?_; rintro e w6 ⟨Af, mf, cf, rfl, hmf, owf, hb6⟩; have kg6 : w6.heap[g]? = wc.drew.heap[g]? := hb6.block g zg; have z6 : g < w6.heap.size := Nat.lt_of_lt_of_le zg hb6.size; have no6 := noD.below hb6) | ((with_reducible refine on_append (.tmp 30) (.tmp 34) ?_); refine wl_appendS rfl (.tmp 30) (.tmp 34) _ rfl el_row (f := sv) sv_one rfl (no6.row.alloc (.cells #[.slice Af mf cf] 33)) rfl (OwS.lit (base := w6.heap.size) (e := 33) (xs := [(⟨Af, mf, cf, t⟩ : Nd)]) w6 #[.slice Af mf cf] 1 (Nat.le_refl _) (by simp [maxLen]) rfl rfl).rd (by omega) (by omega) (by simp; omega) ?_; intro A8 c8 w8 ow8 hg8 hb8; have kg : w8.heap[g]? = (w6.alloc (.cells #[.slice Af mf cf] 33)).heap[g]? := keep_grown hg8 (by simp; omega) hrow.out; have bx8 := ((bx5.drew.step hb6).alloc (.cells #[.slice Af mf cf] 33)).grown hg8 hrow.out; have k2 : w8.cell? ⟨g, 0, none⟩ = some (.slice A1 k c1) := bx8.cell 0; have fz2 := bx8.frozen 0; have bS := bx8.setCell 0 (.slice A8 (k + 1) c8); have no8 := (no6.below (below_alloc w6 (Nat.le_refl _) (.cells #[.slice Af mf cf] 33))).more (x := ⟨Af, mf, cf, t⟩) ty_rows ((owf.alloc (.cells #[.slice Af mf cf] 33)).base_le hgw) Htok.out hg8 ow8; have no9 := no8.grown bS.2 (fun j e => by injection e with e; omega); have B8 := ((bdrew _ _ : Below g wc wc.drew).trans ((hb6.mono (by omega)).trans (below_alloc w6 (by omega) (.cells #[.slice Af mf cf] 33)))).trans ((hb8.mono (by omega)).trans (below_of_grown (B := g) bS.2 (fun j e => by injection e with e; omega) (by have := bx8.lt; omega)))))
        refine anch_last (hKO _ _ ?_)
        clear hKO KO
        refine wpTreeL_done ?_
        refine hKT _ _ ?_
        clear hKT KT
        clear y2 k2 fz2
        go_wp2
        go_roundw
        case rel => exact ⟨k + 1, c8, A8, _, by rw [HM.out]; omega, by go_num, bS.1, no9, Lib.hid (by rw [Hsn.out, ← hms.out]; simp [Nd.ls]), hb.trans ((k5.mono (by omega)).trans B8)⟩
        case measure => simp [intOf]; omega
    · obtain rfl : k = M := by omega
      have yg : wr.cell? ⟨g, 0, none⟩ = some (.slice A1 k c1) := bx.cell 0
      go_wp2_with (first
        | ((with_reducible refine on_load (.tmp 3) ?_); refine wb_load rfl _ (.tmp 3) rfl st_net rfl bx rfl ?_)
        | ((with_reducible refine on_store_at (.tmp 2) ?_); refine wb_store (cs := #[.slice none 0 0]) (cs' := #[.slice A1 k c1]) rfl _ (.tmp 2) _ rfl st_net rfl rfl brr rfl rfl (by simp [Value.oneCell']) ?_; intro w9 b9 hg9))
      have no9 := no.grown hg9 (fun j e => by injection e with e; omega)
      refine bodyPost_ret (v := .agg #[.slice A1 k c1]) ?_ rfl ⟨A1, k, c1, ms, rfl, no9.base_le (by omega), by rw [hms.out, nfit, HM.out], kw.trans (below_of_grown hg9 (fun j e => by injection e with e; omega) kw.size)⟩
      exact results_cell_row rfl _ w9 gr 24 _ (0, 0) _ rfl b9.at_ Try.underlying24 rfl st_net.size
end Go.Proofs.Ytdmkiejaejlajaa
