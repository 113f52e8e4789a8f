/-
  theseuslaw09.NetworkMay: the walk.
-/
import Derived.Test.YtdmkiejaejlajaaNhMayLaw
import Derived.Test.YtdmkiejaejlajaaNhFew
import Derived.Deep.DeepCutAuto
namespace Go.Proofs.Ytdmkiejaejlajaa
open Go.RowKit Go.Th
set_option linter.unusedVariables false
theorem OwM.row_lt {α : Type} {f : α → List Value} {k : Nat} {w : World} {base e n c : Nat} {A : Option Addr} {xs : List α} (h : OwM f k w base e A n c xs) : ∀ j, rowOf A = some j → j < w.heap.size := by
  intro j hj
  rcases h.ow.form with ⟨rfl, _⟩ | ⟨g, rfl, _, hg⟩
  · cases hj
  · have : g = j := by injection hj
    omega
def MyRel (n : Nat) (gr g : Nat) (w : World) (i : Value) (wr : World) : Prop :=
  ∃ (k : Nat) (x0 x1 : Nd), k ≤ n ∧ i = .int .i64 k ∧ Box wr g 24 #[.slice (some ⟨gr, 0, none⟩) 2 2] ∧ OwS sv wr w.heap.size 33 (some ⟨gr, 0, none⟩) 2 2 [x0, x1] ∧
    OwM Ru.cs 4 wr (g + 1) 40 x0.A x0.n x0.c x0.l ∧ OwM Ru.cs 4 wr (g + 1) 40 x1.A x1.n x1.c x1.l ∧ (∀ j, rowOf x0.A = some j → rowOf x1.A ≠ some j) ∧ Hid (x0.l = drs 0 ((k + 1) / 2)) ∧ Hid (x1.l = drs 1 (k / 2)) ∧ Below w.heap.size w wr
set_option maxRecDepth 100000 in
set_option maxHeartbeats 4000000 in
theorem networkMay_walk {w : World} (z0 : Int) (hz0 : 0 ≤ z0 ∧ z0 ≤ 255) (z1 : Int) (hz1 : 0 ≤ z1 ∧ z1 ≤ 255) :
    Calls Try.prog 7 #[.int .u8 z0, .int .u8 z1] w fun e w' => e = .returned (.bool true) ∧ Below w.heap.size w w' := by
  obtain ⟨x0, rfl⟩ := Int.eq_ofNat_of_zero_le hz0.1
  obtain ⟨x1, rfl⟩ := Int.eq_ofNat_of_zero_le hz1.1
  go_enter Try.func7, Try.ntmps7
  go_upto_region 2 with (go_at_call 10; refine (shown9 _).mono ?_; rintro e w1 ⟨rfl, B1⟩)
  go_upto_region 4 with fail
  have em : (241 + (x0 : Int) % 31) = ((241 + x0 % 31 : Nat) : Int) := by simp
  have en : (4081 + (x1 : Int) % 31) = ((4081 + x1 % 31 : Nat) : Int) := by simp
  rw [em, en]
  obtain ⟨n, hn⟩ : ∃ n, 241 + x0 % 31 = n := ⟨_, rfl⟩
  obtain ⟨m, hm⟩ : ∃ m, 4081 + x1 % 31 = m := ⟨_, rfl⟩
  rw [hn, hm]
  have hn1 : 241 ≤ n ∧ n ≤ 271 := by omega
  have hm1 : 4081 ≤ m ∧ m ≤ 4111 := by omega
  clear em en hn hm
  go_upto_region 5 with (first
    | ((with_reducible refine on_makeL _ ?_); refine wl_makeS (base := w1.heap.size) rfl _ _ _ rfl el_row (f := sv) ⟨none, 0, 0, []⟩ rfl n rfl rfl rfl rfl (by omega) (by omega) (Nat.le_refl _) ?_; intro g0 w2 hg0 o2 hb2)
    | ((with_reducible refine on_alloc ?_); refine wl_newBox rfl _ rfl z_net ?_; intro g8 w3 hg3 hl3 bg3 hb3)
    | ((with_reducible refine on_store_at (.tmp 8) ?_); refine wb_store (cs := #[.slice none 0 0]) (cs' := #[.slice (some ⟨g0, 0, none⟩) n n]) rfl _ (.tmp 8) _ rfl st_net rfl rfl bg3 rfl rfl (by simp [Value.oneCell']) ?_; intro w4 bx4 hg4))
  have l2 := o2.lt
  have bd4 := hb3.trans (below_of_grown (B := w2.heap.size) hg4 (fun j e => by injection e with e; omega) hb3.size)
  have o4 := o2.below bd4
  have b14 := hb2.trans (bd4.mono hb2.size)
  have B4 := B1.trans (b14.mono B1.size)
  have O4 : NO 33 40 w4 w1.heap.size (some ⟨g0, 0, none⟩) n n (List.replicate n ⟨none, 0, 0, []⟩) := ⟨o4, fun x hx => by rw [List.eq_of_mem_replicate hx]; exact OwM.nil_ _ _ _, fun x hx r hr => by rw [List.eq_of_mem_replicate hx] at hr; cases hr⟩
  have L4 : Hid (Nd.ls (List.replicate n ⟨none, 0, 0, []⟩) = List.replicate n []) := Lib.hid (by simp [Nd.ls])
  have hne8 : g8 ≠ g0 := by omega
  have z14 : w1.heap.size ≤ w4.heap.size := b14.size
  clear bd4 o2 o4 b14 hg4 hb3 bg3 hg3 hl3 hb2 hg0
  obtain ⟨ns0, hns0⟩ : ∃ ns : List Nd, List.replicate n ⟨none, 0, 0, []⟩ = ns := ⟨_, rfl⟩
  rw [hns0] at O4 L4
  clear hns0
  go_upto_region 6 with fail
  have em : ((n : Int) - 1) = ((n - 1 : Nat) : Int) := by omega
  rw [em]
  obtain ⟨w5, hw5⟩ : ∃ W, w4.alloc (.cells #[.int .u32 0, .int .i64 0, .int .i64 1, .int .i64 ((n - 1 : Nat) : Int)] 40) = W := ⟨_, rfl⟩
  have k5 : Below w4.heap.size w4 w5 := by rw [← hw5]; exact below_alloc w4 (Nat.le_refl _) _
  have o5 : OwM Ru.cs 4 w5 w1.heap.size 40 (some ⟨w4.heap.size, 0, none⟩) 1 1 [sRu (n - 1)] := by rw [← hw5]; exact OwM.lit Ru.cs_length w4 #[.int .u32 0, .int .i64 0, .int .i64 1, .int .i64 ((n - 1 : Nat) : Int)] 1 z14 (by simp [maxLen]) rfl rfl
  have O5 := O4.below k5
  have bx5 := bx4.step k5
  have cn : w5.cell? ⟨g8, 0, none⟩ = some (.slice (some ⟨g0, 0, none⟩) n n) := bx5.cell 0
  try rw [hw5]
  clear O4 bx4 hw5 em
  go_upto_region 7 with (first
    | ((with_reducible refine on_index (.tmp 32) ?_); refine wl_placeS rfl _ (.tmp 32) _ rfl el_row rfl rfl 0 ⟨rfl, by omega⟩ ?_)
    | ((with_reducible refine on_store_at (.tmp 34) ?_); refine wl_setV rfl _ (.tmp 34) _ rfl size_row rfl ⟨some ⟨w4.heap.size, 0, none⟩, 1, 1, [sRu (n - 1)]⟩ rfl O5.row (by omega) ?_; intro w6 o6 hg6 hb6))
  have no6 := O5.put ty_rows o5 (fun r hr => by rw [List.mem_singleton.1 hr]; exact sRu_ok (by omega)) hg6 o6
  have bx6 := bx5.grown hg6 (fun e => by injection e with e; exact hne8 e.symm)
  have r6 := o5.grown hg6 (fun g' hA e => o5.ow.apart O5.row.ow ty_rows g' hA (by injection e with e; rw [e]; rfl))
  have L6 : Hid (Nd.ls (ns0.set 0 ⟨some ⟨w4.heap.size, 0, none⟩, 1, 1, [sRu (n - 1)]⟩) = wideL n) := Lib.hid (by rw [Nd.ls_set, L4.out]; rfl)
  obtain ⟨ns, hns⟩ : ∃ ns : List Nd, ns0.set 0 ⟨some ⟨w4.heap.size, 0, none⟩, 1, 1, [sRu (n - 1)]⟩ = ns := ⟨_, rfl⟩
  rw [hns] at no6 L6
  have N6 := no6.rd
  have R6 := r6.rd
  have B6 := (B4.trans (k5.mono B4.size)).trans (hb6.mono B1.size)
  clear no6 r6 o6 hg6 hb6 hns L4 bx5 O5 o5 k5 cn z14 B4 l2
  go_upto_region 8 with (first
    | ((with_reducible refine on_makeL _ ?_); refine wl_makeS (base := w6.heap.size) rfl _ _ _ rfl el_row (f := sv) ⟨none, 0, 0, []⟩ rfl 2 rfl rfl rfl rfl (by omega) (by omega) (Nat.le_refl _) ?_; intro gr w7 hgr o7 hb7)
    | ((with_reducible refine on_alloc ?_); refine wl_newBox rfl _ rfl z_net ?_; intro g w8 hg8 hl8 bg8 hb8)
    | ((with_reducible refine on_store_at (.tmp 10) ?_); refine wb_store (cs := #[.slice none 0 0]) (cs' := #[.slice (some ⟨gr, 0, none⟩) 2 2]) rfl _ (.tmp 10) _ rfl st_net rfl rfl bg8 rfl rfl (by simp [Value.oneCell']) ?_; intro w9 bx9 hg9))
  have l7 := o7.lt
  have bd9 := hb8.trans (below_of_grown (B := w7.heap.size) hg9 (fun j e => by injection e with e; omega) hb8.size)
  have o9 := o7.below bd9
  have b69 := hb7.trans (bd9.mono hb7.size)
  have hgg : gr < g := by omega
  have hg6 : w6.heap.size ≤ gr := l7.1
  clear bd9 o7 hg9 hb8 bg8 hg8 hl8 hb7 hgr l7
  go_wp2
  go_loopw [11] (fun i wr => MyRel m gr g w6 i wr) (fun i _ => m - (intOf i).toNat)
  case atStart => exact ⟨0, ⟨none, 0, 0, []⟩, ⟨none, 0, 0, []⟩, by omega, rfl, bx9, o9, OwM.nil_ _ _ _, OwM.nil_ _ _ _, by (intro j h; cases h), Lib.hid rfl, Lib.hid rfl, b69⟩
  case round =>
    obtain ⟨k, y0, y1, hk, rfl, bx, ow, m0, m1, hap, h0, h1, hb⟩ := hrel
    by_cases hlt : k < m
    · have hgb := bx.lt
      have zg : g < wr.drew.heap.size := hgb
      have hS : ∀ a, FewS g a → a.block < wr.drew.heap.size := fun a ha => Nat.lt_of_le_of_lt ha zg
      have hS1 : ∀ a, FewS g a → a.block < wr.heap.size := fun a ha => Nat.lt_of_le_of_lt ha hgb
      have qb : ∀ w', Th.KSReach (FewS g) wr.drew w' → ∀ p : Addr, p.block ≤ g → w'.cell? p = wr.cell? p := fun w' hk p hp => by
        obtain ⟨q, rfl⟩ := hk
        exact (q.h p hp).trans rfl
      have f2 : ∀ q : KSStep (FewS g) wr.drew, q.w.cell? ⟨g, 0, none⟩ = some (.slice (some ⟨gr, 0, none⟩) 2 2) := fun q => (q.h ⟨g, 0, none⟩ (Nat.le_refl g)).trans (bx.cell 0)
      have q1 : ∀ w', Th.KSReach (FewS g) wr.drew w' → RdS sv w' (gr + 1) (some ⟨gr, 0, none⟩) 2 2 [y0, y1] := fun w' hk => ⟨(Rd.mk (fun j u hu => by obtain ⟨b, o, e, hb, hc⟩ := ow.rd.rd.at_ j u hu; exact ⟨b, o, e, by injection e with e; injection e with e1 e2; omega, hc⟩) : Rd wr (gr + 1) (some ⟨gr, 0, none⟩) ([y0, y1].map sv)).keep (fun p hp => qb w' hk p (by omega)), ow.len, ow.cap⟩
      have hn0 : y0.n ≤ 5000 := by have := m0.len; rw [h0.out, drs_len] at this; omega
      have hn1' : y1.n ≤ 5000 := by have := m1.len; rw [h1.out, drs_len] at this; omega
      have hzr : w6.heap.size ≤ wr.heap.size := hb.size
      obtain ⟨W, hW⟩ : ∃ W, (wr.alloc (.cells #[.int .u32 (k : Int), .int .i64 32, .int .i64 3, .int .i64 0] 40)).drew = W := ⟨_, rfl⟩
      have kW : Below wr.heap.size wr W := by rw [← hW]; exact (below_alloc wr (Nat.le_refl _) _).trans (bdrew _ _)
      have zW : W.heap.size = wr.heap.size + 1 := by rw [← hW]; show (wr.alloc _).heap.size = _; simp
      have lW : OwM Ru.cs 4 W wr.heap.size 40 (some ⟨wr.heap.size, 0, none⟩) 1 1 [drR k] := by rw [← hW]; exact (OwM.lit Ru.cs_length wr #[.int .u32 (k : Int), .int .i64 32, .int .i64 3, .int .i64 0] 1 (Nat.le_refl _) (by simp [maxLen]) rfl rfl).below (bdrew _ _)
      have ksW : ∀ a, FewS g a → W.cell? a = wr.drew.cell? a := fun a ha => by rw [← hW]; exact ks_alloc wr (.cells #[.int .u32 (k : Int), .int .i64 32, .int .i64 3, .int .i64 0] 40) hS1 a ha
      have p0 := m0.below kW
      have p1 := m1.below kW
      have bW := bx.step kW
      have oW := ow.below kW
      have r0 : ∀ j, rowOf y0.A = some j → g < j := fun j e => by have := m0.ow.row_ge j e; omega
      have r1 : ∀ j, rowOf y1.A = some j → g < j := fun j e => by have := m1.ow.row_ge j e; omega
      by_cases hpar : k % 2 = 0
      · have ep : (k : Int) % 2 = 0 := by omega
        go_upto_region 11 with fail
        refine wp_region_treeL 16 (.float 0 13 (.one 13 (.one 14 (.float 15 1 (.one 16 .done))))) (Th.KSReach (FewS g)) (Th.KSReach.trans _) (Th.KSReach.refl _) (by kernel_rfl) (by kernel_rfl) (by kernel_rfl) (fun KT hKT => ?_)
        refine wpTreeL_float (fun KF hKF => ?_)
        simp only [List.drop, List.take]
        repeat (first | go_big_quiet_skip | ((with_reducible refine onq_index (.tmp 47) ?_); refine wqn_at rfl _ (.tmp 47) _ rfl el_row rfl rfl (by omega) (by omega) (Th.KSReach.refl _ _) q1 ?_; intro b5 j5 x5 hr5 hc5; have hxx : y0 = x5 := (by have e := hr5.out; simp [ep] at e; exact e); subst hxx; have f5 : ∀ q : KSStep (FewS g) wr.drew, q.w.cell? ⟨b5, j5, none⟩ = some (.slice y0.A y0.n y0.c) := fun q => hc5.out q.w ⟨q, rfl⟩) | ((with_reducible refine onq_index (.tmp 43) ?_); refine wqm_place rfl _ (.tmp 43) _ rfl el_row.m rfl rfl 0 ⟨(by first | rfl | exact ep), by omega⟩ ?_) | go_big_quiet_step (fail) | quiet_step (fail))
        refine wpQuiet_nil ?_
        refine hKF _ ?_
        clear hKF KF
        refine wpTreeL_one (fun KO hKO => ?_)
        simp only [List.drop, List.take]
        go_wp2_with (first | ((with_reducible refine on_append (.tmp 51) (.tmp 55) ?_); refine wm_appendA Ru.cs_length rfl (.tmp 51) (.tmp 55) _ rfl el_rule Ru.one rfl p0 rfl lW.rd (by omega) (by omega) (by omega) ?_; intro A8 c8 w8 ow8 hg8 hb8 hA8; have ks8 : ∀ a, FewS g a → w8.cell? a = W.cell? a := fewS_grown hg8 (by omega) r0; have o8 := oW.grown hg8 (fun g' hA e => by injection hA with hA; injection hA with hA; have := r0 g' e; omega)) | ((with_reducible refine on_store_at (.tmp 57) ?_); refine wl_setV rfl _ (.tmp 57) _ rfl size_row rfl ⟨A8, y0.n + 1, c8, y0.l ++ [drR k]⟩ rfl o8 (j := 0) (by omega) ?_; intro w9 o9 hg9 hb9))
        refine anch_endL (Th.KSReach.of (by first | exact fun _ _ => rfl | assumption | (exact ks_alloc _ _ (by assumption)))) (hKO _ _ ?_)
        clear hKO KO
        refine wpTreeL_one (fun KO hKO => ?_)
        simp only [List.drop, List.take]
        go_wp2_with (first | ((with_reducible refine on_append (.tmp 51) (.tmp 55) ?_); refine wm_appendA Ru.cs_length rfl (.tmp 51) (.tmp 55) _ rfl el_rule Ru.one rfl p0 rfl lW.rd (by omega) (by omega) (by omega) ?_; intro A8 c8 w8 ow8 hg8 hb8 hA8; have ks8 : ∀ a, FewS g a → w8.cell? a = W.cell? a := fewS_grown hg8 (by omega) r0; have o8 := oW.grown hg8 (fun g' hA e => by injection hA with hA; injection hA with hA; have := r0 g' e; omega)) | ((with_reducible refine on_store_at (.tmp 57) ?_); refine wl_setV rfl _ (.tmp 57) _ rfl size_row rfl ⟨A8, y0.n + 1, c8, y0.l ++ [drR k]⟩ rfl o8 (j := 0) (by omega) ?_; intro w9 o9 hg9 hb9))
        refine anch_endL (Th.KSReach.of (by first | exact fun _ _ => rfl | assumption | (exact ks_alloc _ _ (by assumption)))) (hKO _ _ ?_)
        clear hKO KO
        refine wpTreeL_float (fun KF hKF => ?_)
        simp only [List.drop, List.take]
        repeat (first | go_big_quiet_skip | ((with_reducible refine onq_index (.tmp 47) ?_); refine wqn_at rfl _ (.tmp 47) _ rfl el_row rfl rfl (by omega) (by omega) (Th.KSReach.refl _ _) q1 ?_; intro b5 j5 x5 hr5 hc5; have hxx : y0 = x5 := (by have e := hr5.out; simp [ep] at e; exact e); subst hxx; have f5 : ∀ q : KSStep (FewS g) wr.drew, q.w.cell? ⟨b5, j5, none⟩ = some (.slice y0.A y0.n y0.c) := fun q => hc5.out q.w ⟨q, rfl⟩) | ((with_reducible refine onq_index (.tmp 43) ?_); refine wqm_place rfl _ (.tmp 43) _ rfl el_row.m rfl rfl 0 ⟨(by first | rfl | exact ep), by omega⟩ ?_) | go_big_quiet_step (fail) | quiet_step (fail))
        refine wpQuiet_nil ?_
        refine hKF _ ?_
        clear hKF KF
        refine wpTreeL_one (fun KO hKO => ?_)
        simp only [List.drop, List.take]
        go_wp2_with (first | ((with_reducible refine on_append (.tmp 51) (.tmp 55) ?_); refine wm_appendA Ru.cs_length rfl (.tmp 51) (.tmp 55) _ rfl el_rule Ru.one rfl p0 rfl lW.rd (by omega) (by omega) (by omega) ?_; intro A8 c8 w8 ow8 hg8 hb8 hA8; have ks8 : ∀ a, FewS g a → w8.cell? a = W.cell? a := fewS_grown hg8 (by omega) r0; have o8 := oW.grown hg8 (fun g' hA e => by injection hA with hA; injection hA with hA; have := r0 g' e; omega)) | ((with_reducible refine on_store_at (.tmp 57) ?_); refine wl_setV rfl _ (.tmp 57) _ rfl size_row rfl ⟨A8, y0.n + 1, c8, y0.l ++ [drR k]⟩ rfl o8 (j := 0) (by omega) ?_; intro w9 o9 hg9 hb9))
        refine anch_last (hKO _ _ ?_)
        clear hKO KO
        refine wpTreeL_done ?_
        refine hKT _ _ ?_
        clear hKT KT
        have s8 := hb8.size
        have q9 := ow8.grown hg9 (fun g' hA e => by injection e with e; have := ow8.ow.row_ge g' (by rw [hA]; rfl); omega)
        have t9 := (p1.grown hg8 (fun g' hA e => hap g' e (by rw [hA]; rfl))).grown hg9 (fun g' hA e => by injection e with e; have := p1.ow.row_ge g' (by rw [hA]; rfl); omega)
        have hap9 : ∀ j, rowOf A8 = some j → rowOf y1.A ≠ some j := fun j e1 e2 => by
          rcases hA8 with e | e
          · rw [e] at e1; exact hap j e1 e2
          · rw [e] at e1
            have hj : W.heap.size = j := by injection e1
            have := OwM.row_lt p1 j e2
            omega
        have bx9 := (bW.grown hg8 (fun e => by have := r0 _ e; omega)).grown hg9 (fun e => by injection e with e; omega)
        have bel9 := ((hb.trans (kW.mono hzr)).trans (hb8.mono (by omega))).trans hb9
        have L0 : Hid (y0.l ++ [drR k] = drs 0 ((k + 1 + 1) / 2)) := Lib.hid (by rw [h0.out, show (k + 1 + 1) / 2 = (k + 1) / 2 + 1 by omega, drs_snoc, show 2 * ((k + 1) / 2) + 0 = k by omega])
        have L1 : Hid (y1.l = drs 1 ((k + 1) / 2)) := Lib.hid (by rw [h1.out, show (k + 1) / 2 = k / 2 by omega])
        clear hg8 hb8 hA8 ow8 o8 hg9 hb9 hb kW h0 h1 ksW lW p0 p1 bW oW f2 q1 qb hS hS1 hW hap m0 m1 ow bx r0 r1
        go_wp2
        go_roundw
        case rel => exact ⟨k + 1, ⟨A8, y0.n + 1, c8, y0.l ++ [drR k]⟩, y1, by omega, by go_num, bx9, o9, q9, t9, hap9, L0, L1, bel9⟩
        case measure => simp [intOf]; omega
      · have ep : (k : Int) % 2 = 1 := by omega
        go_upto_region 11 with fail
        refine wp_region_treeL 16 (.float 0 13 (.one 13 (.one 14 (.float 15 1 (.one 16 .done))))) (Th.KSReach (FewS g)) (Th.KSReach.trans _) (Th.KSReach.refl _) (by kernel_rfl) (by kernel_rfl) (by kernel_rfl) (fun KT hKT => ?_)
        refine wpTreeL_float (fun KF hKF => ?_)
        simp only [List.drop, List.take]
        repeat (first | go_big_quiet_skip | ((with_reducible refine onq_index (.tmp 47) ?_); refine wqn_at rfl _ (.tmp 47) _ rfl el_row rfl rfl (by omega) (by omega) (Th.KSReach.refl _ _) q1 ?_; intro b5 j5 x5 hr5 hc5; have hxx : y1 = x5 := (by have e := hr5.out; simp [ep] at e; exact e); subst hxx; have f5 : ∀ q : KSStep (FewS g) wr.drew, q.w.cell? ⟨b5, j5, none⟩ = some (.slice y1.A y1.n y1.c) := fun q => hc5.out q.w ⟨q, rfl⟩) | ((with_reducible refine onq_index (.tmp 43) ?_); refine wqm_place rfl _ (.tmp 43) _ rfl el_row.m rfl rfl 1 ⟨(by first | rfl | exact ep), by omega⟩ ?_) | go_big_quiet_step (fail) | quiet_step (fail))
        refine wpQuiet_nil ?_
        refine hKF _ ?_
        clear hKF KF
        refine wpTreeL_one (fun KO hKO => ?_)
        simp only [List.drop, List.take]
        go_wp2_with (first | ((with_reducible refine on_append (.tmp 51) (.tmp 55) ?_); refine wm_appendA Ru.cs_length rfl (.tmp 51) (.tmp 55) _ rfl el_rule Ru.one rfl p1 rfl lW.rd (by omega) (by omega) (by omega) ?_; intro A8 c8 w8 ow8 hg8 hb8 hA8; have ks8 : ∀ a, FewS g a → w8.cell? a = W.cell? a := fewS_grown hg8 (by omega) r1; have o8 := oW.grown hg8 (fun g' hA e => by injection hA with hA; injection hA with hA; have := r1 g' e; omega)) | ((with_reducible refine on_store_at (.tmp 57) ?_); refine wl_setV rfl _ (.tmp 57) _ rfl size_row rfl ⟨A8, y1.n + 1, c8, y1.l ++ [drR k]⟩ rfl o8 (j := 1) (by omega) ?_; intro w9 o9 hg9 hb9))
        refine anch_endL (Th.KSReach.of (by first | exact fun _ _ => rfl | assumption | (exact ks_alloc _ _ (by assumption)))) (hKO _ _ ?_)
        clear hKO KO
        refine wpTreeL_one (fun KO hKO => ?_)
        simp only [List.drop, List.take]
        go_wp2_with (first | ((with_reducible refine on_append (.tmp 51) (.tmp 55) ?_); refine wm_appendA Ru.cs_length rfl (.tmp 51) (.tmp 55) _ rfl el_rule Ru.one rfl p1 rfl lW.rd (by omega) (by omega) (by omega) ?_; intro A8 c8 w8 ow8 hg8 hb8 hA8; have ks8 : ∀ a, FewS g a → w8.cell? a = W.cell? a := fewS_grown hg8 (by omega) r1; have o8 := oW.grown hg8 (fun g' hA e => by injection hA with hA; injection hA with hA; have := r1 g' e; omega)) | ((with_reducible refine on_store_at (.tmp 57) ?_); refine wl_setV rfl _ (.tmp 57) _ rfl size_row rfl ⟨A8, y1.n + 1, c8, y1.l ++ [drR k]⟩ rfl o8 (j := 1) (by omega) ?_; intro w9 o9 hg9 hb9))
        refine anch_endL (Th.KSReach.of (by first | exact fun _ _ => rfl | assumption | (exact ks_alloc _ _ (by assumption)))) (hKO _ _ ?_)
        clear hKO KO
        refine wpTreeL_float (fun KF hKF => ?_)
        simp only [List.drop, List.take]
        repeat (first | go_big_quiet_skip | ((with_reducible refine onq_index (.tmp 47) ?_); refine wqn_at rfl _ (.tmp 47) _ rfl el_row rfl rfl (by omega) (by omega) (Th.KSReach.refl _ _) q1 ?_; intro b5 j5 x5 hr5 hc5; have hxx : y1 = x5 := (by have e := hr5.out; simp [ep] at e; exact e); subst hxx; have f5 : ∀ q : KSStep (FewS g) wr.drew, q.w.cell? ⟨b5, j5, none⟩ = some (.slice y1.A y1.n y1.c) := fun q => hc5.out q.w ⟨q, rfl⟩) | ((with_reducible refine onq_index (.tmp 43) ?_); refine wqm_place rfl _ (.tmp 43) _ rfl el_row.m rfl rfl 1 ⟨(by first | rfl | exact ep), by omega⟩ ?_) | go_big_quiet_step (fail) | quiet_step (fail))
        refine wpQuiet_nil ?_
        refine hKF _ ?_
        clear hKF KF
        refine wpTreeL_one (fun KO hKO => ?_)
        simp only [List.drop, List.take]
        go_wp2_with (first | ((with_reducible refine on_append (.tmp 51) (.tmp 55) ?_); refine wm_appendA Ru.cs_length rfl (.tmp 51) (.tmp 55) _ rfl el_rule Ru.one rfl p1 rfl lW.rd (by omega) (by omega) (by omega) ?_; intro A8 c8 w8 ow8 hg8 hb8 hA8; have ks8 : ∀ a, FewS g a → w8.cell? a = W.cell? a := fewS_grown hg8 (by omega) r1; have o8 := oW.grown hg8 (fun g' hA e => by injection hA with hA; injection hA with hA; have := r1 g' e; omega)) | ((with_reducible refine on_store_at (.tmp 57) ?_); refine wl_setV rfl _ (.tmp 57) _ rfl size_row rfl ⟨A8, y1.n + 1, c8, y1.l ++ [drR k]⟩ rfl o8 (j := 1) (by omega) ?_; intro w9 o9 hg9 hb9))
        refine anch_last (hKO _ _ ?_)
        clear hKO KO
        refine wpTreeL_done ?_
        refine hKT _ _ ?_
        clear hKT KT
        have s8 := hb8.size
        have q9 := ow8.grown hg9 (fun g' hA e => by injection e with e; have := ow8.ow.row_ge g' (by rw [hA]; rfl); omega)
        have t9 := (p0.grown hg8 (fun g' hA e => hap g' (by rw [hA]; rfl) e)).grown hg9 (fun g' hA e => by injection e with e; have := p0.ow.row_ge g' (by rw [hA]; rfl); omega)
        have hap9 : ∀ j, rowOf y0.A = some j → rowOf A8 ≠ some j := fun j e2 e1 => by
          rcases hA8 with e | e
          · rw [e] at e1; exact hap j e2 e1
          · rw [e] at e1
            have hj : W.heap.size = j := by injection e1
            have := OwM.row_lt p0 j e2
            omega
        have bx9 := (bW.grown hg8 (fun e => by have := r1 _ e; omega)).grown hg9 (fun e => by injection e with e; omega)
        have bel9 := ((hb.trans (kW.mono hzr)).trans (hb8.mono (by omega))).trans hb9
        have L0 : Hid (y0.l = drs 0 ((k + 1 + 1) / 2)) := Lib.hid (by rw [h0.out, show (k + 1 + 1) / 2 = (k + 1) / 2 by omega])
        have L1 : Hid (y1.l ++ [drR k] = drs 1 ((k + 1) / 2)) := Lib.hid (by rw [h1.out, show (k + 1) / 2 = k / 2 + 1 by omega, drs_snoc, show 2 * (k / 2) + 1 = k by omega])
        clear hg8 hb8 hA8 ow8 o8 hg9 hb9 hb kW h0 h1 ksW lW p0 p1 bW oW f2 q1 qb hS hS1 hW hap m0 m1 ow bx r0 r1
        go_wp2
        go_roundw
        case rel => exact ⟨k + 1, y0, ⟨A8, y1.n + 1, c8, y1.l ++ [drR k]⟩, by omega, by go_num, bx9, o9, t9, q9, hap9, L0, L1, bel9⟩
        case measure => simp [intOf]; omega
    · obtain rfl : k = m := by omega
      have G8 : GNet wr (some ⟨gr, 0, none⟩) 2 2 [y0, y1] := ⟨⟨ow.rd, fun x hx => by
          simp only [List.mem_cons, List.not_mem_nil, or_false] at hx
          rcases hx with rfl | rfl
          · exact m0.rd
          · exact m1.rd, fun x hx r hr => by
          simp only [List.mem_cons, List.not_mem_nil, or_false] at hx
          rcases hx with rfl | rfl
          · rw [h0.out] at hr
            obtain ⟨j, hj, rfl⟩ := List.mem_map.1 hr
            exact drR_ok (by have := List.mem_range.1 hj; omega)
          · rw [h1.out] at hr
            obtain ⟨j, hj, rfl⟩ := List.mem_map.1 hr
            exact drR_ok (by have := List.mem_range.1 hj; omega)⟩, by omega, fun x hx => by
          simp only [List.mem_cons, List.not_mem_nil, or_false] at hx
          rcases hx with rfl | rfl
          · have := m0.len; rw [h0.out, drs_len] at this; omega
          · have := m1.len; rw [h1.out, drs_len] at this; omega⟩
      have L8 : Hid (Nd.ls [y0, y1] = deep k) := Lib.hid (by show [y0.l, y1.l] = deep k; rw [h0.out, h1.out]; rfl)
      have G6 : GNet wr (some ⟨g0, 0, none⟩) n n ns := GNet.mk' ((N6.below hb).more hb.size) (by omega) (fun l hl => by
        rw [L6.out] at hl
        rcases List.mem_or_eq_of_mem_set hl with h | h
        · rw [List.eq_of_mem_replicate h]; simp
        · rw [h]; simp)
      have R6r := (R6.below hb)
      have bx6r := bx6.below hb bx6.lt
      have Br := B6.trans (hb.mono B6.size)
      clear ow m0 m1 hap h0 h1 hb N6 R6 bx6 o9 bx9 B6 b69
      obtain ⟨ms, hms⟩ : ∃ ms, [y0, y1] = ms := ⟨_, rfl⟩
      rw [hms] at G8 L8
      clear hms
      obtain ⟨W, hW⟩ : ∃ W, wr.alloc (.cells #[.slice (some ⟨w4.heap.size, 0, none⟩) 1 1] 33) = W := ⟨_, rfl⟩
      have kW : Below wr.heap.size wr W := by rw [← hW]; exact below_alloc wr (Nat.le_refl _) _
      have oW : OwS sv W wr.heap.size 33 (some ⟨wr.heap.size, 0, none⟩) 1 1 [⟨some ⟨w4.heap.size, 0, none⟩, 1, 1, [sRu (n - 1)]⟩] := by rw [← hW]; exact OwS.lit wr #[.slice (some ⟨w4.heap.size, 0, none⟩) 1 1] 1 (Nat.le_refl _) (by simp [maxLen]) rfl rfl
      have GW : GNet W (some ⟨wr.heap.size, 0, none⟩) 1 1 [⟨some ⟨w4.heap.size, 0, none⟩, 1, 1, [sRu (n - 1)]⟩] := ⟨⟨oW.rd, fun x hx => by rw [List.mem_singleton.1 hx]; exact (R6r.step kW).heap, fun x hx r hr => by
          rw [List.mem_singleton.1 hx] at hr
          rw [List.mem_singleton.1 hr]
          exact sRu_ok (by omega)⟩, by omega, fun x hx => by rw [List.mem_singleton.1 hx]; simp⟩
      have KW := Lib.hid (GW.may (by simp [Nd.ls, nsize]) 10 (odd_may (by omega)))
      have G6 := G6.step kW
      have G8 := G8.step kW
      have bx6 := bx6r.step kW
      have bx8 := bx.step kW
      have Br := Br.trans (kW.mono Br.size)
      have Ln : Hid (nsize (Nd.ls ns) = 1) := Lib.hid (by rw [L6.out]; exact wide_size (by omega))
      have Lm : Hid (nsize (Nd.ls ms) = k) := Lib.hid (by rw [L8.out]; exact deep_size k)
      have E6 : Hid (nmay (Nd.ls ns) = if 256 < n then 12 else 0) := Lib.hid (by rw [L6.out]; exact wide_may (by omega))
      have E8 : Hid (nmay (Nd.ls ms) = if 4096 < k then 12 else 0) := Lib.hid (by rw [L8.out]; exact deep_may k)
      have kkn : ((k : Int) == (k : Int)) = true := by simp
      clear R6r bx6r bx oW GW kW L6 L8
      obtain ⟨e6, he6⟩ : ∃ e : Int, nmay (Nd.ls ns) = e := ⟨_, rfl⟩
      obtain ⟨e8, he8⟩ : ∃ e : Int, nmay (Nd.ls ms) = e := ⟨_, rfl⟩
      have K0 := Lib.hid (fun w' => (GNet.mk (NRd.nil w' w'.heap.size) (by omega) (by intro x hx; cases hx) : GNet w' none 0 0 []).may (by simp [Nd.ls, nsize]) 0 (by rfl))
      have K6 := Lib.hid (fun w' (h : Below W.heap.size W w') => (G6.step h).may (by rw [Ln.out]; omega) e6 he6)
      have K8 := Lib.hid (fun w' (h : Below W.heap.size W w') => (G8.step h).may (by rw [Lm.out]; omega) e8 he8)
      have S6 := Lib.hid (fun w' (h : Below W.heap.size W w') => (G6.step h).size (by rw [Ln.out]; omega))
      have S8 := Lib.hid (fun w' (h : Below W.heap.size W w') => (G8.step h).size (by rw [Lm.out]; omega))
      rw [Ln.out] at S6
      rw [Lm.out] at S8
      have hE6 := he6.symm.trans E6.out
      have hE8 := he8.symm.trans E8.out
      clear he6 he8 E6 E8 G6 G8
      by_cases c1 : 256 < n <;> by_cases c2 : 4096 < k
      all_goals
        simp only [c1, c2, if_true, if_false] at hE6 hE8
        subst hE6
        subst hE8
        go_upto_region 19 with (first
          | (go_at_call 18; refine (KW.out).mono ?_; rintro e q1 ⟨rfl, hq1⟩))
        have bx6 := bx6.step hq1
        have bx8 := bx8.step hq1
        have D1 := hq1
        clear hW kkn
        have kkn : ((k : Int) == (k : Int)) = true := by simp
        go_wp2_with (first
          | ((with_reducible refine on_load (.tmp 8) ?_); refine wb_load rfl _ (.tmp 8) rfl st_net rfl bx6 rfl ?_)
          | ((with_reducible refine on_load (.tmp 10) ?_); refine wb_load rfl _ (.tmp 10) rfl st_net rfl bx8 rfl ?_)
          | (go_at_call 18; (with_reducible refine (K6.out _ D1).mono ?_); rintro e q2 ⟨rfl, hq2⟩; have D1 := D1.trans (hq2.mono D1.size); have bx8 := bx8.step hq2; have bx6 := bx6.step hq2)
          | (go_at_call 18; (with_reducible refine (K8.out _ D1).mono ?_); rintro e q3 ⟨rfl, hq3⟩; have D1 := D1.trans (hq3.mono D1.size); have bx8 := bx8.step hq3; have bx6 := bx6.step hq3)
          | (go_at_call 17; (with_reducible refine (S8.out _ D1).mono ?_); rintro e q4 ⟨rfl, hq4⟩; have D1 := D1.trans (hq4.mono D1.size); have bx8 := bx8.step hq4; have bx6 := bx6.step hq4)
          | (go_at_call 17; (with_reducible refine (S6.out _ D1).mono ?_); rintro e q5 ⟨rfl, hq5⟩; have D1 := D1.trans (hq5.mono D1.size); have bx8 := bx8.step hq5; have bx6 := bx6.step hq5)
          | (go_at_call 18; (with_reducible refine (K0.out _).mono ?_); rintro e q6 ⟨rfl, hq6⟩; have D1 := D1.trans (hq6.mono D1.size)))
        go_ret
        exact ⟨rfl, Br.trans (D1.mono Br.size)⟩
end Go.Proofs.Ytdmkiejaejlajaa
