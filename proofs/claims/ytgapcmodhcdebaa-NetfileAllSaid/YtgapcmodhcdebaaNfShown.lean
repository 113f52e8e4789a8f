/-
  theseuslaw10's example, and its few bytes.
-/
import Derived.Test.YtgapcmodhcdebaaNfLaw
namespace Go.Proofs.Ytgapcmodhcdebaa
open Go.RowKit Go.Th
set_option linter.unusedVariables false
theorem few10 (A : Option Addr) (n c : Nat) (w : World) (hm : n ≤ 9223372036854775807) (B : Nat) (bs : List UInt8) (hr : RdS bv w B A n c bs) :
    Calls Try.prog 14 #[.slice A n c] w fun e w' => ∃ A' c' m, e = .returned (.slice A' m c') ∧ m ≤ 400 ∧ RdS bv w B A' m c' (bs.take 400) ∧ w = w' := by
  have hc := hr.cap
  by_cases h : n ≤ 400
  · have e2 : bs.take 400 = bs := List.take_of_length_le (by rw [hr.len]; omega)
    rw [e2]
    go_enter Try.func14, Try.ntmps14
    go_wp2
    go_ret
    exact ⟨A, c, n, rfl, h, hr, rfl⟩
  · go_enter Try.func14, Try.ntmps14
    go_wp2_with (refine wl_cut_h rfl _ _ el_u8 rfl hr _ rfl rfl 400 (by omega) ?_; intro A' hr')
    go_ret
    exact ⟨A', c, 400, rfl, by omega, hr', rfl⟩
theorem ex_ok : NOk [[]] := ⟨by decide +kernel, by intro l hl r hr; simp at hl; subst hl; cases hr⟩
theorem ex_body : nbody [[]] = [1, 84, 1, 0] := by decide +kernel
theorem ex_take : inT [1, 84, 1, 0] = ([[]], 0) := by rw [← ex_body]; exact inT_put ex_ok
theorem nd_zero_ls : Nd.ls (List.replicate 1 (⟨none, 0, 0, []⟩ : Nd)) = [[]] := rfl
theorem nettake_is (A : Option Addr) (n c : Nat) (w : World) (hn : n ≤ 1000000) (bs : List UInt8) (hr : RdS bv w w.heap.size A n c bs) (lss : List (List Ru)) (er : Int) (ht : Hid (ntk bs = (lss, er))) :
    Calls Try.prog 15 #[.slice A n c] w (fun e w' => ∃ A n c ns, e = .returned (.tuple #[.agg #[.slice A n c], .int .i64 er]) ∧ NRd w' w'.heap.size A n c ns ∧ Nd.ls ns = lss ∧ Below w.heap.size w w') := nettake_any A n c w hn bs hr _ ht
set_option maxRecDepth 100000 in
set_option maxHeartbeats 4000000 in
theorem shown10 (w : World) : Calls Try.prog 10 #[] w fun e w' => e = .returned (.bool true) ∧ Below w.heap.size w w' := by
  obtain ⟨fb, hfb⟩ : ∃ fb, fput 1179206193 [1, 84, 1, 0] = fb := ⟨_, rfl⟩
  have hfl : fb.length = 12 := by rw [← hfb, fput_length]; rfl
  have htk : ntk fb = ([[]], 0) := by rw [← hfb, ntk_fput]; exact ex_take
  have Htk := Lib.hid htk
  have Hfb := Lib.hid hfb
  have Hfl := Lib.hid hfl
  clear hfb htk hfl
  go_enter Try.func10, Try.ntmps10
  go_upto_region 3 with (first
    | ((with_reducible refine on_makeL _ ?_); refine wl_makeS (base := w.heap.size) rfl _ _ _ rfl el_row (f := sv) ⟨none, 0, 0, []⟩ rfl 1 rfl rfl rfl rfl (by omega) (by omega) (Nat.le_refl _) ?_; intro g1 w1 hg1 ow1 hb1)
    | (go_at_call 11; refine (netput_any _ _ _ _ w1 _ ⟨ow1.rd, by intro x hx; simp at hx; subst hx; exact RdM.nil _ _, by intro x hx; simp at hx; subst hx; simp⟩ (by rw [nd_zero_ls]; exact ex_ok.may) (by intro x hx; simp at hx; subst hx; simp) fb (by rw [nd_zero_ls, ex_body]; exact Hfb.out)).mono ?_; rintro e w2 ⟨A2, n2, c2, rfl, ow2, hb2⟩)
    | ((with_reducible refine on_sliceLit ?_); refine wl_lit rfl _ 4 _ rfl el_u8 bv_cells [1, 84, 1, 0] rfl (by omega) (by omega) (Nat.le_refl _) rfl ?_; intro g3 w3 _ _ ow3 hb3)
    | (go_at_call 18; refine (fput_any 1179206193 (by omega) 1179206193 rfl _ _ _ w3 (by omega) _ ow3.rd).mono ?_; rw [Hfb.out]; rintro e w4 ⟨A4, n4, c4, rfl, ow4, hb4⟩; have e4 := ow4.len)
    | (go_at_call 15; refine (nettake_is A4 n4 c4 w4 (by have := Hfl.out; omega) fb ow4.rd [[]] 0 Htk).mono ?_; rintro e w5 ⟨A5, n5, c5, ns5, rfl, hp5, hk5, hb5⟩)
    | ((with_reducible refine on_alloc ?_); refine wl_newBox rfl _ rfl z_net ?_; intro g6 w6 hg6 hl6 b6 hb6)
    | ((with_reducible refine on_store_at (.tmp 3) ?_); refine wb_store (cs := #[.slice none 0 0]) (cs' := #[.slice A5 n5 c5]) rfl _ (.tmp 3) _ rfl st_net rfl rfl b6 rfl rfl (by simp [Value.oneCell']) ?_; intro w7 b7 hg7))
  have hn2 : n2 = 12 := ow2.len.symm.trans Hfl.out
  have hn5 : n5 = 1 := by have h1 := hp5.len; have h2 := Nd.ls_len ns5; rw [hk5] at h2; simp at h2; omega
  subst hn2 hn5
  have H37 : Below w2.heap.size w2 w7 := by
    have a := hb6.trans (below_of_grown (B := w5.heap.size) hg7 (fun j e => by injection e with e; omega) hb6.size)
    have b := hb5.trans (a.mono hb5.size)
    have c := hb4.trans (b.mono hb4.size)
    exact hb3.trans (c.mono hb3.size)
  have rP := ((ow2.rd.step H37).heap.step (bdrew1 w7)).heap.reach
  have K7 : Below w.heap.size w w7 := (hb1.trans ((hb2.trans (H37.mono hb2.size)).mono hb1.size))
  have bd7 := b7.drew
  have oq := OwS.lit (f := bv) (base := w7.heap.size) (e := 5) (xs := [1, 84, 1, 0]) w7.drew #[.int .u8 1, .int .u8 84, .int .u8 1, .int .u8 0] 4 (Nat.le_refl _) (by simp [maxLen]) rfl rfl
  have K2 := Lib.hid (fput_any 1179206193 (by omega) 1179206193 rfl _ 4 4 _ (by omega) _ oq.rd)
  rw [Hfb.out] at K2
  clear hb1 hb2 hb3 hb4 hb5 hb6 hg7 b6 b7 hp5 ow1 ow2 ow3 ow4 e4 oq H37 hl6
  refine wp_region_tree (.float 0 2 (.one 2 (.one 3 (.float 4 22 .done)))) Th.Grow Th.Grow.trans Th.Grow.refl (by kernel_rfl) (by kernel_rfl) (fun KT hKT => ?_)
  refine wpTree_float (fun KF hKF => ?_)
  simp only [List.drop, List.take]
  repeat (first | go_big_quiet_skip | ((with_reducible refine onq_cv (.tmp 17) ?_); refine wq_strS rfl _ _ (.tmp 17) rfl el_u8 Try.underlying5 Try.underlying9 rfl rP ?_) | ((with_reducible refine onq_cv (.tmp 20) ?_); refine wq_strS rfl _ _ (.tmp 20) rfl el_u8 Try.underlying5 Try.underlying9 rfl p2 ?_) | go_big_quiet_step (fail) | quiet_step (fail))
  refine wpQuiet_nil ?_
  refine hKF _ ?_
  clear hKF KF
  refine wpTree_one (fun KO hKO => ?_)
  simp only [List.drop, List.take]
  go_wp2_with (first | (go_at_call 18; refine (K2.out).mono ?_; rintro e w8 ⟨A8, n8, c8, rfl, ow8, hb8⟩; have p2 := ow8.rd.reach; have b8 := (bd7.alloc (.cells #[.int .u8 1, .int .u8 84, .int .u8 1, .int .u8 0] 5)).step hb8; have q8 : ∀ q : Step w8.heap.size w8, q.w.cell? ⟨g6, 0, none⟩ = some (.slice A5 1 c5) := fun q => (b8.step q.h).cell 0))
  refine anch_end (Th.Reach.of (by first | exact Below.refl _ _ | exact below_alloc _ (by first | omega | (simp; done) | (simp; omega)) _ | exact below_alloc2 _ (by first | omega | (simp; done) | (simp; omega)) _ _ | exact below_alloc2d _ (by simp) _ _ | exact bdrew _ _ | assumption | (exact Below.mono (by assumption) (by first | (simp; done) | (simp; omega) | omega | assumption)))) (hKO _ _ ?_)
  clear hKO KO
  refine wpTree_one (fun KO hKO => ?_)
  simp only [List.drop, List.take]
  go_wp2_with (first | (go_at_call 18; refine (K2.out).mono ?_; rintro e w8 ⟨A8, n8, c8, rfl, ow8, hb8⟩; have p2 := ow8.rd.reach; have b8 := (bd7.alloc (.cells #[.int .u8 1, .int .u8 84, .int .u8 1, .int .u8 0] 5)).step hb8; have q8 : ∀ q : Step w8.heap.size w8, q.w.cell? ⟨g6, 0, none⟩ = some (.slice A5 1 c5) := fun q => (b8.step q.h).cell 0))
  refine anch_end (Th.Reach.of (by first | exact Below.refl _ _ | exact below_alloc _ (by first | omega | (simp; done) | (simp; omega)) _ | exact below_alloc2 _ (by first | omega | (simp; done) | (simp; omega)) _ _ | exact below_alloc2d _ (by simp) _ _ | exact bdrew _ _ | assumption | (exact Below.mono (by assumption) (by first | (simp; done) | (simp; omega) | omega | assumption)))) (hKO _ _ ?_)
  clear hKO KO
  refine wpTree_float (fun KF hKF => ?_)
  simp only [List.drop, List.take]
  repeat (first | go_big_quiet_skip | ((with_reducible refine onq_cv (.tmp 17) ?_); refine wq_strS rfl _ _ (.tmp 17) rfl el_u8 Try.underlying5 Try.underlying9 rfl rP ?_) | ((with_reducible refine onq_cv (.tmp 20) ?_); refine wq_strS rfl _ _ (.tmp 20) rfl el_u8 Try.underlying5 Try.underlying9 rfl p2 ?_) | go_big_quiet_step (fail) | quiet_step (fail))
  refine wpQuiet_nil ?_
  refine hKF _ ?_
  clear hKF KF
  refine wpTree_done ?_
  refine hKT _ _ ?_
  clear hKT KT
  go_wp2
  go_ret
  have z7 := K7.size
  exact ⟨rfl, ((K7.trans (bdrew1 w7)).trans (below_alloc w7.drew z7 _)).trans (hb8.mono (by simp; omega))⟩
end Go.Proofs.Ytgapcmodhcdebaa
