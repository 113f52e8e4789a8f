/-
  theseuslaw09.few.
-/
import Derived.Test.YtdmkiejaejlajaaNhFit
import Derived.Test.YtdmkiejaejlajaaNhMc
import Derived.Deep.DeepCutAuto
namespace Go.Proofs.Ytdmkiejaejlajaa
open Go.RowKit Go.Th
set_option linter.unusedVariables false
/-- A network cut: eight nodes, twenty rules of each. -/
def nfew (ls : List (List Ru)) : List (List Ru) := (ls.take 8).map (·.take 20)
theorem nfew_snoc {ls : List (List Ru)} {k : Nat} {l : List Ru} (h : ls[k]? = some l) (hk : k < 8) : nfew (ls.take (k + 1)) = nfew (ls.take k) ++ [l.take 20] := by
  unfold nfew
  rw [List.take_take, List.take_take, show min 8 (k + 1) = k + 1 by omega, show min 8 k = k by omega, List.take_add_one, h]
  simp
theorem nfew_all {ls : List (List Ru)} {k : Nat} (h : k = min ls.length 8) : nfew (ls.take k) = nfew ls := by
  unfold nfew
  subst h
  congr 1
  rw [List.take_take]
  by_cases h8 : ls.length ≤ 8
  · rw [show min 8 (min ls.length 8) = ls.length by omega, List.take_length, List.take_of_length_le h8]
  · rw [show min 8 (min ls.length 8) = 8 by omega]
def FewS (g : Nat) (a : Addr) : Prop := a.block ≤ g
theorem fewS_grown {w w' : World} {g : Nat} {row : Option Nat} (hg : w.grownBy w' row) (hl : g < w.heap.size) (hr : ∀ j, row = some j → g < j) : ∀ a, FewS g a → w'.cell? a = w.cell? a := by
  intro a ha
  have ha : a.block ≤ g := ha
  have := hg.block a.block (by omega) (fun e => by have := hr _ e.symm; omega)
  unfold World.cell?
  rw [this]
def FwRel (ns : List Nd) (n : Nat) (w : World) (g : Nat) (w4 : World) (i : Value) (wr : World) : Prop :=
  ∃ (k c : Nat) (A : Option Addr) (ms : List Nd), k ≤ n ∧ k ≤ 8 ∧ i = .int .i64 k ∧ Box wr g 24 #[.slice A k c] ∧ OwS sv wr (g + 1) 33 A k c ms ∧ (∀ x ∈ ms, RdM Ru.cs wr w.heap.size x.A x.n x.c x.l) ∧ (∀ x ∈ ms, ∀ r ∈ x.l, r.Ok) ∧ (∀ x ∈ ms, x.n ≤ 20) ∧ Hid (Nd.ls ms = nfew ((Nd.ls ns).take k)) ∧ Below g w4 wr
set_option maxRecDepth 100000 in
set_option maxHeartbeats 4000000 in
theorem few_any (A : Option Addr) (n c : Nat) (ns : List Nd) (w : World) (hn : n ≤ 9223372036854775807) (hx : ∀ x ∈ ns, x.n ≤ 9223372036854775807) (hr : NRd w w.heap.size A n c ns) :
    Calls Try.prog 19 #[.agg #[.slice A n c]] w (fun e w' => ∃ A' m c' ms, e = .returned (.agg #[.slice A' m c']) ∧ NRd w' w'.heap.size A' m c' ms ∧ m ≤ 8 ∧ (∀ x ∈ ms, x.n ≤ 20) ∧ Nd.ls ms = nfew (Nd.ls ns) ∧ Below w.heap.size w w') := by
  have hlen := hr.len
  have Hx := Lib.hid hx
  clear hx
  have k0 := below_alloc w (Nat.le_refl _) (.cells #[.slice A n c] 24)
  have b0 := Box.new w #[.slice A n c] 24
  go_enter Try.func19, Try.ntmps19
  go_upto_region 1 with ((with_reducible refine on_alloc ?_); refine wl_newBox rfl _ rfl z_net ?_; intro gr w1 hgr hlr br hb1; have l0 := b0.lt; have b0 := b0.step hb1; have k0 := k0.trans (hb1.mono k0.size))
  go_upto_region 2 with (first
    | ((with_reducible refine on_alloc ?_); refine wl_newBox rfl _ rfl z_net ?_; intro g w2 hg2 hl2 b2 hb2; have br := br.step hb2; have b0 := b0.step hb2; have k0 := k0.trans (hb2.mono k0.size))
    | ((with_reducible refine on_store_at (.tmp 3) ?_); refine wb_store (cs := #[.slice none 0 0]) (cs' := #[.slice none 0 0]) rfl _ (.tmp 3) _ rfl st_net rfl rfl b2 rfl rfl (by simp [Value.oneCell']) ?_; intro w4 b4 hg4))
  have ngr : gr < g := by omega
  have n0 : w.heap.size < gr := by omega
  have b0 := b0.grown hg4 (fun e => by injection e with e; omega)
  have br := br.grown hg4 (fun e => by injection e with e; omega)
  have k4 : Below w.heap.size w w4 := k0.trans (below_of_grown hg4 (fun j e => by injection e with e; omega) k0.size)
  have hg4' := b4.lt
  clear hb1 hb2 hg2 hl2 hgr hlr hg4 b2 k0 l0
  go_wp2_with fail
  go_loopw [4] (fun i wr => FwRel ns n w g w4 i wr) (fun i _ => 8 - (intOf i).toNat)
  case atStart => exact ⟨0, 0, none, [], by omega, by omega, rfl, b4, OwS.nil_ _ _ _, by simp, by simp, by simp, Lib.hid rfl, Below.refl _ _⟩
  case round =>
    obtain ⟨k, c1, A1, ms, hk, hk8, rfl, bx, ow, hrk, hok, hsm, hms, hb⟩ := hrel
    have kw := k4.trans (hb.mono (by omega))
    have hrw := hr.step kw
    have hgb := bx.lt
    have b0r := b0.below hb (by omega)
    have brr := br.below hb ngr
    have y0 : wr.cell? ⟨w.heap.size, 0, none⟩ = some (.slice A n c) := b0r.cell 0
    by_cases hlt : k < n ∧ k < 8
    · obtain ⟨hkn, hk88⟩ := hlt
      obtain ⟨x, hx⟩ : ∃ x, ns[k]? = some x := ⟨ns[k]'(by omega), List.getElem?_eq_getElem _⟩
      have hxm := List.mem_of_getElem? hx
      have hx63 := Hx.out x hxm
      have Hsn := Lib.hid (nfew_snoc (Nd.ls_get hx) hk88)
      obtain ⟨m, hm⟩ : ∃ m, min x.n 20 = m := ⟨_, rfl⟩
      have hmi : (if (20 : Int) < (x.n : Int) then 20 else (x.n : Int)) = (m : Int) := by
        by_cases h : (20 : Int) < (x.n : Int)
        · rw [if_pos h]; omega
        · rw [if_neg h]; omega
      have hxr := hrw.rk x hxm
      have hxok := hrw.ok x hxm
      have htk : x.l.take 20 = x.l.take m := by
        have := hxr.len
        by_cases h : x.n ≤ 20
        · rw [List.take_of_length_le (by omega), List.take_of_length_le (by omega)]
        · rw [show m = 20 by omega]
      rw [htk] at Hsn
      have Hx1 := Lib.hid hx
      have hmb : m ≤ x.n ∧ m ≤ 20 := by omega
      clear hx htk hm
      have hd1 : decide ((k : Int) < (n : Int)) = true := decide_eq_true (by omega)
      have hd2 : decide ((k : Int) < (8 : Int)) = true := decide_eq_true (by omega)
      have Hmi := Lib.hid hmi
      clear hmi
      go_upto_region 5 with fail
      clear hd1 hd2
      have hmi := Hmi.out
      have zg : g < wr.drew.heap.size := hgb
      have hS : ∀ a, FewS g a → a.block < wr.drew.heap.size := fun a ha => Nat.lt_of_le_of_lt ha zg
      have qb : ∀ w', Th.KSReach (FewS g) wr.drew w' → ∀ p : Addr, p.block < w.heap.size → w'.cell? p = wr.cell? p := fun w' hk p hp => by
        obtain ⟨q, rfl⟩ := hk
        exact (q.h p (show p.block ≤ g by omega)).trans rfl
      have y1 : ∀ q : KSStep (FewS g) wr.drew, q.w.cell? ⟨w.heap.size, 0, none⟩ = some (.slice A n c) := fun q => (q.h ⟨w.heap.size, 0, none⟩ (show w.heap.size ≤ g by omega)).trans y0
      have y2 : ∀ q : KSStep (FewS g) wr.drew, q.w.cell? ⟨g, 0, none⟩ = some (.slice A1 k c1) := fun q => (q.h ⟨g, 0, none⟩ (Nat.le_refl g)).trans (bx.cell 0)
      have q1 : ∀ w', Th.KSReach (FewS g) wr.drew w' → RdS sv w' w.heap.size A n c ns := fun w' hk => ⟨hrw.rd.rd.keep (qb w' hk), hrw.rd.len, hrw.rd.cap⟩
      have q3 : ∀ w', Th.KSReach (FewS g) wr.drew w' → RdM Ru.cs w' w.heap.size x.A x.n x.c x.l := fun w' hk => ⟨hxr.rd.keep (qb w' hk), hxr.len, hxr.cap⟩
      have hrow : ∀ j, rowOf A1 = some j → g < j := fun j e => by have := ow.ow.row_ge j e; omega
      have Hrow := Lib.hid hrow
      clear qb hrow y0
      refine wp_region_treeL 18 (.float 0 15 (.one 15 (.one 16 (.float 17 1 (.one 18 .done))))) (Th.KSReach (FewS g)) (Th.KSReach.trans _) (Th.KSReach.refl _) (by kernel_rfl) (by kernel_rfl) (by kernel_rfl) (fun KT hKT => ?_)
      refine wpTreeL_float (fun KF hKF => ?_)
      simp only [List.drop, List.take]
      repeat (first | go_big_quiet_skip | ((with_reducible refine onq_index (.tmp 20) ?_); refine wqn_at rfl _ (.tmp 20) _ rfl el_row rfl rfl (by omega) (by omega) (Th.KSReach.refl _ _) q1 ?_; intro b5 j5 x5 hr5 hc5; have hxx : x = x5 := (by have e := hr5.out; rw [Int.toNat_natCast, Hx1.out] at e; injection e); subst hxx; have f5 : ∀ q : KSStep (FewS g) wr.drew, q.w.cell? ⟨b5, j5, none⟩ = some (.slice x.A x.n x.c) := fun q => hc5.out q.w ⟨q, rfl⟩) | ((with_reducible refine onq_index (.tmp 25) ?_); refine wqn_at rfl _ (.tmp 25) _ rfl el_row rfl rfl (by omega) (by omega) (Th.KSReach.refl _ _) q1 ?_; intro b6 j6 x6 hr6 hc6; have hxx : x = x6 := (by have e := hr6.out; rw [Int.toNat_natCast, Hx1.out] at e; injection e); subst hxx; have f6 : ∀ q : KSStep (FewS g) wr.drew, q.w.cell? ⟨b6, j6, none⟩ = some (.slice x.A x.n x.c) := fun q => hc6.out q.w ⟨q, rfl⟩) | ((with_reducible refine onq_sl (.tmp 23) ?_); refine wqm_cut_h Ru.cs_length rfl _ (.tmp 23) el_rule rfl q3 (Th.KSReach.refl _ _) _ rfl rfl m (by omega) ?_; intro A31 r31) | go_big_quiet_step (fail) | quiet_step (fail))
      refine wpQuiet_nil ?_
      refine hKF _ ?_
      clear hKF KF
      refine wpTreeL_one (fun KO hKO => ?_)
      simp only [List.drop, List.take]
      go_wp2_with (first | ((with_reducible refine on_append (.tmp 18) (.tmp 32) ?_); refine wl_appendS rfl (.tmp 18) (.tmp 32) _ rfl el_row (f := sv) sv_one rfl ((ow.below (bdrew1 wr)).alloc (.cells #[.slice A31 m x.c] 33)) rfl (OwS.lit (base := wr.heap.size) (e := 33) (xs := [(⟨A31, m, x.c, x.l.take m⟩ : Nd)]) wr.drew #[.slice A31 m x.c] 1 (Nat.le_refl _) (by simp [maxLen]) rfl rfl).rd (by omega) (by omega) (by simp; omega) ?_; intro A8 c8 w8 ow8 hg8 hb8; have bx8 := (bx.drew.alloc (.cells #[.slice A31 m x.c] 33)).grown hg8 (fun e => by have := Hrow.out _ e; omega); have k2 : w8.cell? ⟨g, 0, none⟩ = some (.slice A1 k c1) := bx8.cell 0; have fz2 := bx8.frozen 0; have bS := bx8.setCell 0 (.slice A8 (k + 1) c8); have ks : ∀ a : Addr, FewS g a → w8.cell? a = (wr.drew.alloc (.cells #[.slice A31 m x.c] 33)).cell? a := fewS_grown hg8 (by simp; omega) Hrow.out; have ow9 := ow8.grown bS.2 (fun j hA e => by have := ow8.ow.row_ge j (by rw [hA]; rfl); injection e with e; omega); have B8 := (below_alloc wr.drew (B := g) (by omega) (.cells #[.slice A31 m x.c] 33)).trans ((hb8.mono (by omega)).trans (below_of_grown (B := g) bS.2 (fun j e => by injection e with e; omega) (by have := bx8.lt; omega)))))
      refine anch_endL (Th.KSReach.of (by first | exact fun _ _ => rfl | assumption | (exact ks_alloc _ _ (by assumption)))) (hKO _ _ ?_)
      clear hKO KO
      refine wpTreeL_one (fun KO hKO => ?_)
      simp only [List.drop, List.take]
      go_wp2_with (first | ((with_reducible refine on_append (.tmp 18) (.tmp 32) ?_); refine wl_appendS rfl (.tmp 18) (.tmp 32) _ rfl el_row (f := sv) sv_one rfl ((ow.below (bdrew1 wr)).alloc (.cells #[.slice A31 m x.c] 33)) rfl (OwS.lit (base := wr.heap.size) (e := 33) (xs := [(⟨A31, m, x.c, x.l.take m⟩ : Nd)]) wr.drew #[.slice A31 m x.c] 1 (Nat.le_refl _) (by simp [maxLen]) rfl rfl).rd (by omega) (by omega) (by simp; omega) ?_; intro A8 c8 w8 ow8 hg8 hb8; have bx8 := (bx.drew.alloc (.cells #[.slice A31 m x.c] 33)).grown hg8 (fun e => by have := Hrow.out _ e; omega); have k2 : w8.cell? ⟨g, 0, none⟩ = some (.slice A1 k c1) := bx8.cell 0; have fz2 := bx8.frozen 0; have bS := bx8.setCell 0 (.slice A8 (k + 1) c8); have ks : ∀ a : Addr, FewS g a → w8.cell? a = (wr.drew.alloc (.cells #[.slice A31 m x.c] 33)).cell? a := fewS_grown hg8 (by simp; omega) Hrow.out; have ow9 := ow8.grown bS.2 (fun j hA e => by have := ow8.ow.row_ge j (by rw [hA]; rfl); injection e with e; omega); have B8 := (below_alloc wr.drew (B := g) (by omega) (.cells #[.slice A31 m x.c] 33)).trans ((hb8.mono (by omega)).trans (below_of_grown (B := g) bS.2 (fun j e => by injection e with e; omega) (by have := bx8.lt; omega)))))
      refine anch_endL (Th.KSReach.of (by first | exact fun _ _ => rfl | assumption | (exact ks_alloc _ _ (by assumption)))) (hKO _ _ ?_)
      clear hKO KO
      refine wpTreeL_float (fun KF hKF => ?_)
      simp only [List.drop, List.take]
      repeat (first | go_big_quiet_skip | ((with_reducible refine onq_index (.tmp 20) ?_); refine wqn_at rfl _ (.tmp 20) _ rfl el_row rfl rfl (by omega) (by omega) (Th.KSReach.refl _ _) q1 ?_; intro b5 j5 x5 hr5 hc5; have hxx : x = x5 := (by have e := hr5.out; rw [Int.toNat_natCast, Hx1.out] at e; injection e); subst hxx; have f5 : ∀ q : KSStep (FewS g) wr.drew, q.w.cell? ⟨b5, j5, none⟩ = some (.slice x.A x.n x.c) := fun q => hc5.out q.w ⟨q, rfl⟩) | ((with_reducible refine onq_index (.tmp 25) ?_); refine wqn_at rfl _ (.tmp 25) _ rfl el_row rfl rfl (by omega) (by omega) (Th.KSReach.refl _ _) q1 ?_; intro b6 j6 x6 hr6 hc6; have hxx : x = x6 := (by have e := hr6.out; rw [Int.toNat_natCast, Hx1.out] at e; injection e); subst hxx; have f6 : ∀ q : KSStep (FewS g) wr.drew, q.w.cell? ⟨b6, j6, none⟩ = some (.slice x.A x.n x.c) := fun q => hc6.out q.w ⟨q, rfl⟩) | ((with_reducible refine onq_sl (.tmp 23) ?_); refine wqm_cut_h Ru.cs_length rfl _ (.tmp 23) el_rule rfl q3 (Th.KSReach.refl _ _) _ rfl rfl m (by omega) ?_; intro A31 r31) | go_big_quiet_step (fail) | quiet_step (fail))
      refine wpQuiet_nil ?_
      refine hKF _ ?_
      clear hKF KF
      refine wpTreeL_one (fun KO hKO => ?_)
      simp only [List.drop, List.take]
      go_wp2_with (first | ((with_reducible refine on_append (.tmp 18) (.tmp 32) ?_); refine wl_appendS rfl (.tmp 18) (.tmp 32) _ rfl el_row (f := sv) sv_one rfl ((ow.below (bdrew1 wr)).alloc (.cells #[.slice A31 m x.c] 33)) rfl (OwS.lit (base := wr.heap.size) (e := 33) (xs := [(⟨A31, m, x.c, x.l.take m⟩ : Nd)]) wr.drew #[.slice A31 m x.c] 1 (Nat.le_refl _) (by simp [maxLen]) rfl rfl).rd (by omega) (by omega) (by simp; omega) ?_; intro A8 c8 w8 ow8 hg8 hb8; have bx8 := (bx.drew.alloc (.cells #[.slice A31 m x.c] 33)).grown hg8 (fun e => by have := Hrow.out _ e; omega); have k2 : w8.cell? ⟨g, 0, none⟩ = some (.slice A1 k c1) := bx8.cell 0; have fz2 := bx8.frozen 0; have bS := bx8.setCell 0 (.slice A8 (k + 1) c8); have ks : ∀ a : Addr, FewS g a → w8.cell? a = (wr.drew.alloc (.cells #[.slice A31 m x.c] 33)).cell? a := fewS_grown hg8 (by simp; omega) Hrow.out; have ow9 := ow8.grown bS.2 (fun j hA e => by have := ow8.ow.row_ge j (by rw [hA]; rfl); injection e with e; omega); have B8 := (below_alloc wr.drew (B := g) (by omega) (.cells #[.slice A31 m x.c] 33)).trans ((hb8.mono (by omega)).trans (below_of_grown (B := g) bS.2 (fun j e => by injection e with e; omega) (by have := bx8.lt; omega)))))
      refine anch_last (hKO _ _ ?_)
      clear hKO KO
      refine wpTreeL_done ?_
      refine hKT _ _ ?_
      clear hKT KT
      clear y1 y2 q1 q3 k2 fz2 hmi
      have r9 := (r31 _ (Th.KSReach.refl _ _)).below (B8.mono (by omega))
      have B9 : Below g wr _ := (bdrew _ _ : Below g wr wr.drew).trans B8
      go_wp2
      go_roundw
      case rel =>
        refine ⟨k + 1, c8, A8, _, by omega, by omega, by go_num, bS.1, ow9, ?_, ?_, ?_, Lib.hid (by rw [Hsn.out, ← hms.out]; simp [Nd.ls]), hb.trans B9⟩
        · intro y hy
          rcases List.mem_append.1 hy with hy | hy
          · exact (hrk y hy).below (B9.mono (by omega))
          · rw [List.mem_singleton.1 hy]; exact r9
        · intro y hy
          rcases List.mem_append.1 hy with hy | hy
          · exact hok y hy
          · rw [List.mem_singleton.1 hy]; exact fun r hr => hxok r (List.mem_of_mem_take hr)
        · intro y hy
          rcases List.mem_append.1 hy with hy | hy
          · exact hsm y hy
          · rw [List.mem_singleton.1 hy]; exact hmb.2
      case measure => simp [intOf]; omega
    · have hkm : k = min n 8 := by omega
      have hf := hms.out
      rw [nfew_all (by rw [Nd.ls_len, hlen]; exact hkm)] at hf
      have Hf := Lib.hid hf
      clear hf
      have fin : ∀ w9, wr.grownBy w9 (some gr) → ∃ A' m c' ms', Value.agg #[.slice A1 k c1] = .agg #[.slice A' m c'] ∧ NRd w9 w9.heap.size A' m c' ms' ∧ m ≤ 8 ∧ (∀ x ∈ ms', x.n ≤ 20) ∧ Nd.ls ms' = nfew (Nd.ls ns) ∧ Below w.heap.size w w9 := fun w9 hg9 => by
        have B9 : Below w.heap.size wr w9 := below_of_grown hg9 (fun j e => by injection e with e; omega) kw.size
        exact ⟨A1, k, c1, ms, rfl, ⟨(ow.grown hg9 (fun j hA e => by have := ow.ow.row_ge j (by rw [hA]; rfl); injection e with e; omega)).rd, fun x hx => ((hrk x hx).below B9).heap, hok⟩, hk8, hsm, Hf.out, kw.trans B9⟩
      by_cases hkn : k < n
      · have hk88 : k = 8 := by omega
        have hd1 : decide ((k : Int) < (n : Int)) = true := decide_eq_true (by omega)
        have hd2 : decide ((k : Int) < (8 : Int)) = false := decide_eq_false (by omega)
        go_wp2_with (first
          | ((with_reducible refine on_load (.tmp 3) ?_); refine wb_load rfl _ (.tmp 3) rfl st_net rfl bx rfl ?_)
          | ((with_reducible refine on_store_at (.tmp 2) ?_); refine wb_store (cs := #[.slice none 0 0]) (cs' := #[.slice A1 k c1]) rfl _ (.tmp 2) _ rfl st_net rfl rfl brr rfl rfl (by simp [Value.oneCell']) ?_; intro w9 b9 hg9))
        obtain ⟨A', m, c', ms', e1, e2, e3, e4, e5, e6⟩ := fin w9 hg9
        refine bodyPost_ret (v := .agg #[.slice A1 k c1]) ?_ rfl ⟨A', m, c', ms', by rw [e1], e2, e3, e4, e5, e6⟩
        exact results_cell_row rfl _ w9 gr 24 _ (0, 0) _ rfl b9.at_ Try.underlying24 rfl st_net.size
      · have hd1 : decide ((k : Int) < (n : Int)) = false := decide_eq_false (by omega)
        go_wp2_with (first
          | ((with_reducible refine on_load (.tmp 3) ?_); refine wb_load rfl _ (.tmp 3) rfl st_net rfl bx rfl ?_)
          | ((with_reducible refine on_store_at (.tmp 2) ?_); refine wb_store (cs := #[.slice none 0 0]) (cs' := #[.slice A1 k c1]) rfl _ (.tmp 2) _ rfl st_net rfl rfl brr rfl rfl (by simp [Value.oneCell']) ?_; intro w9 b9 hg9))
        obtain ⟨A', m, c', ms', e1, e2, e3, e4, e5, e6⟩ := fin w9 hg9
        refine bodyPost_ret (v := .agg #[.slice A1 k c1]) ?_ rfl ⟨A', m, c', ms', by rw [e1], e2, e3, e4, e5, e6⟩
        exact results_cell_row rfl _ w9 gr 24 _ (0, 0) _ rfl b9.at_ Try.underlying24 rfl st_net.size
end Go.Proofs.Ytdmkiejaejlajaa
