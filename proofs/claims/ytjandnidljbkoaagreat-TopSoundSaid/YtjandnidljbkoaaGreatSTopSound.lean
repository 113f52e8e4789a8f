/-
  theseustop.TopSound, walked.
-/
import Derived.Test.YtjandnidljbkoaaGreatSTpShown
import Derived.Test.YtjandnidljbkoaaGreatSTpFew
namespace Go.Proofs.YtjandnidljbkoaaGreat
open Go.RowKit Go.Th
set_option linter.unusedVariables false
theorem z_answer : (Tryz.prog.info? 30).map (fun i => (i.zero.map Value.cells, i.size)) = some (some #[.int .i64 0, .int .i64 0], 2) := by kernel_rfl
def TsRel (A : Option Addr) (m c : Nat) (l : List Int) (g : Nat) (v : Value) (W : World) (i : Value) (wr : World) : Prop :=
  ∃ k : Nat, k ≤ m ∧ i = .int .i64 k ∧ RdS uv wr wr.heap.size A m c l ∧ Box wr g 34 #[v] ∧ Below W.heap.size W wr
set_option maxRecDepth 100000 in
set_option maxHeartbeats 4000000 in
theorem topSound_walk {w : World} (A : Option Addr) (n c : Nat) (bs : List UInt8) (hr : RdS bv w w.heap.size A n c bs) (hm : n ≤ 9223372036854775807) (A' : Option Addr) (n' c' : Nat) (bs' : List UInt8) (hr' : RdS bv w w.heap.size A' n' c' bs') (hm' : n' ≤ 9223372036854775807) (zs : List Int) (hl : zs.length = 2) (hz : ∀ z ∈ zs, 0 ≤ z ∧ z ≤ 4294967295) :
    Calls Tryz.prog 3 #[.slice A n c, .slice A' n' c', .agg (zs.map (Value.int .u32)).toArray] w fun e w' => e = .returned (.bool true) ∧ Below w.heap.size w w' := by
  obtain ⟨a0, a1, rfl⟩ : ∃ x y, zs = [x, y] := by
    match zs, hl with
    | [x, y], _ => exact ⟨x, y, rfl⟩
  have ha0 := hz a0 (by simp)
  have ha1 := hz a1 (by simp)
  show Calls Tryz.prog 3 #[.slice A n c, .slice A' n' c', .agg #[.int .u32 a0, .int .u32 a1]] w fun e w' => e = .returned (.bool true) ∧ Below w.heap.size w w'
  have KF := Lib.hid (fun W (hW : Below w.heap.size w W) => tfew_any A n c bs W hm _ (hr.step hW))
  have KC := Lib.hid (fun W (hW : Below w.heap.size w W) => tfew_any A' n' c' bs' W hm' _ (hr'.step hW))
  have lf : (bs.take 500).length ≤ 500 := by rw [List.length_take]; omega
  have lc : (bs'.take 500).length ≤ 500 := by rw [List.length_take]; omega
  obtain ⟨fb, hfb⟩ : ∃ x, bs.take 500 = x := ⟨_, rfl⟩
  obtain ⟨cb, hcb⟩ : ∃ x, bs'.take 500 = x := ⟨_, rfl⟩
  rw [hfb] at KF lf
  rw [hcb] at KC lc
  clear hr hr' hz hl hfb hcb
  have k0 : Below w.heap.size w (w.alloc (.cells #[.int .u32 a0, .int .u32 a1] 24)) := below_alloc w (Nat.le_refl _) _
  have b0 := Box.new w #[.int .u32 a0, .int .u32 a1] 24
  go_enter Tryz.func3, Tryz.ntmps3
  go_upto_region 1 with fail
  obtain ⟨w0, hw0⟩ : ∃ W, w.alloc (.cells #[.int .u32 a0, .int .u32 a1] 24) = W := ⟨_, rfl⟩
  rw [hw0] at k0 b0 ⊢
  clear hw0
  go_upto_region 2 with (go_at_call 7; refine (shown_any _).mono ?_; rintro e w1 ⟨rfl, hb1⟩; have bx1 := b0.step hb1)
  have B1 := k0.trans (hb1.mono k0.size)
  clear k0 b0 hb1
  -- the network's bytes
  go_upto_region 3 with (first
    | (go_at_call 9; refine (KF.out _ B1).mono ?_; rintro e w2 ⟨Af, cf, rfl, hrf, rfl⟩; have hrf2 := hrf.more B1.size)
    | (go_at_call 8; refine (fput_any 1179206193 (by omega) 1179206193 rfl Af _ cf _ (by omega) fb hrf2).mono ?_; rintro e w3 ⟨Ax, nx, cx, rfl, ox, hb3⟩))
  have B3 := B1.trans (hb3.mono B1.size)
  have bx3 := bx1.step hb3
  clear hrf hrf2 bx1 hb3 B1
  go_upto_region 4 with (first
    | (go_at_call 9; refine (KC.out _ B3).mono ?_; rintro e w4 ⟨Ac, cc, rfl, hrc, rfl⟩; have hrc2 := hrc.more B3.size)
    | (go_at_call 8; refine (fput_any 1129468977 (by omega) 1129468977 rfl Ac _ cc _ (by omega) cb hrc2).mono ?_; rintro e w5 ⟨Ay, ny, cy, rfl, oy, hb5⟩))
  have B5 := B3.trans (hb5.mono B3.size)
  have bx5 := bx3.step hb5
  have rx5 := (ox.rd.step hb5).more hb5.size
  have ry5 := oy.rd.more (Nat.le_refl _)
  have lx := ox.rd.len
  have ly := oy.rd.len
  rw [fput_length] at lx ly
  obtain ⟨fx, hfx⟩ : ∃ x, fput 1179206193 fb = x := ⟨_, rfl⟩
  obtain ⟨cy2, hcy⟩ : ∃ x, fput 1129468977 cb = x := ⟨_, rfl⟩
  rw [hfx] at rx5
  rw [hcy] at ry5
  have hnx : nx ≤ 1000000 := by omega
  have hny : ny ≤ 1000000 := by omega
  clear hfx hcy lx ly ox oy hrc hrc2 bx3 hb5 B3
  have ry6 := ry5.heap
  have rx6 := rx5.heap
  have K1 := Lib.hid ((tcheck_any Ax nx cx Ay ny cy w5 fx cy2 rx6 ry6 hnx hny).mono fun e w' h => chk_ways h)
  have K2 := Lib.hid (fun W (hW : Below w5.heap.size w5 W) => nettake_any Ax nx cx W hnx fx ((rx6.step hW).more hW.size) (ntk fx) (Lib.hid rfl))
  have K3 := Lib.hid (fun W (hW : Below w5.heap.size w5 W) => cftake_any Ay ny cy W hny cy2 ((ry6.step hW).more hW.size) (ftk cy2) (Lib.hid rfl))
  have hnk := Lib.hid (@ntk_ok fx)
  have tfree := Lib.hid (fun a ha hn hc hv hk => @told_free fx cy2 hn hc hv hk a ha)
  have tloop := Lib.hid (@told_loop fx cy2)
  have hcin := Lib.hid (@ftk_ok cy2)
  obtain ⟨tn, htn⟩ : ∃ t, ntk fx = t := ⟨_, rfl⟩
  obtain ⟨tc, htc⟩ : ∃ t, ftk cy2 = t := ⟨_, rfl⟩
  rw [htn] at K1 K2 hnk tfree tloop
  rw [htc] at K1 K3 tfree tloop hcin
  clear htn htc rx5 ry5 rx6 ry6
  obtain ⟨ls, e1⟩ := tn
  obtain ⟨tv, ks, td, tr, nodes, e2⟩ := tc
  simp only at K1 K2 K3 hnk tfree tloop hcin
  go_upto_region 5 with (first
    | (go_at_call 10; refine (K1.out).mono ?_; rintro e w6 ⟨hb6, x, cd, rfl, hx0, hx2, hways⟩)
    | ((with_reducible refine on_alloc ?_); refine wl_newBox rfl _ rfl z_answer ?_; intro gv w7 hg7 hl7 bg7 hb7)
    | ((with_reducible refine on_store_at (.tmp 10) ?_); refine wb_store (cs := #[.int .i64 0, .int .i64 0]) (cs' := #[.int .i64 x, .int .i64 cd]) rfl _ (.tmp 10) _ rfl st_answer rfl rfl bg7 rfl rfl (by simp [Value.oneCell']) ?_; intro w8 bv8 hg8))
  have d8 : Below w5.heap.size w5 w8 := hb6.trans ((hb7.mono hb6.size).trans (below_of_grown (B := w5.heap.size) hg8 (fun j e => by injection e with e; have := hb6.size; omega) (by have := hb6.size; have := hb7.size; omega)))
  have bx8 := bx5.step d8
  clear hb6 hb7 hg8 bg7 hg7 hl7 bx5 K1
  go_upto_region 6 with (first
    | (go_at_call 11; refine (K2.out _ d8).mono ?_; rintro e w9 ⟨An, nn, cn, ns, rfl, hrn, hls, hb9⟩; have bv9 := bv8.step hb9)
    | ((with_reducible refine on_alloc ?_); refine wl_newBox rfl _ rfl z_net ?_; intro gn w10 hg10 hl10 bg10 hb10; have bv10 := bv9.step hb10)
    | ((with_reducible refine on_store_at (.tmp 11) ?_); refine wb_store (cs := #[.slice none 0 0]) (cs' := #[.slice An nn cn]) rfl _ (.tmp 11) _ rfl st_net rfl rfl bg10 rfl rfl (by simp [Value.oneCell']) ?_; intro w11 bn11 hg11; have bv11 := bv10.grown hg11 (fun e => by injection e with e; have := bv9.lt; omega)))
  have e11 : Below w9.heap.size w9 w11 := hb10.trans (below_of_grown (B := w9.heap.size) hg11 (fun j e => by injection e with e; omega) (by have := hb10.size; omega))
  have d11 := d8.trans ((hb9.trans (e11.mono hb9.size)).mono d8.size)
  have bx11 := (bx8.step hb9).step e11
  have hrn11 := (hrn.step e11).heap
  clear hb9 hb10 hg11 bg10 hg10 hl10 bx8 bv8 bv9 bv10 K2 hrn e11 d8
  go_upto_region 7 with (first
    | (go_at_call 12; refine (K3.out _ d11).mono ?_; rintro e w12 ⟨Ap, np, cp, At, nt, ct, ps, rfl, hp12, hks, ht12, hb12⟩; have bv12 := bv11.step hb12; have bn12 := bn11.step hb12)
    | ((with_reducible refine on_alloc ?_); refine wl_newBox rfl _ rfl z_cert ?_; intro gk w13 hg13 hl13 bg13 hb13; have bv13 := bv12.step hb13; have bn13 := bn12.step hb13)
    | ((with_reducible refine on_store_at (.tmp 13) ?_); refine wb_store (cs := Cv 0 none 0 0 0 none 0 0) (cs' := Cv tv Ap np cp td At nt ct) rfl _ (.tmp 13) _ rfl st_cert rfl rfl bg13 rfl rfl (by simp [Cv, Value.oneCell']) ?_; intro w14 bk14 hg14; have bv14 := bv13.grown hg14 (fun e => by injection e with e; have := bv12.lt; omega); have bn14 := bn13.grown hg14 (fun e => by injection e with e; have := bn12.lt; omega)))
  have e14 : Below w12.heap.size w12 w14 := hb13.trans (below_of_grown (B := w12.heap.size) hg14 (fun j e => by injection e with e; omega) (by have := hb13.size; omega))
  have e14b := hb12.trans (e14.mono hb12.size)
  have d14 := d11.trans (e14b.mono d11.size)
  have bx14 := bx11.step e14b
  have hrn14 := (hrn11.step e14b).heap
  have B14 := B5.trans (d14.mono B5.size)
  clear hb12 hb13 hg14 bg13 hg13 hl13 bx11 bv11 bv12 bv13 bn11 bn12 bn13 K3 hrn11 e14 e14b d11 hp12 hks ht12 B5 d14
  have v0 : w14.cell? ⟨gv, 0, none⟩ = some (.int .i64 x) := bv14.cell 0
  have v1 : w14.cell? ⟨gv, 1, none⟩ = some (.int .i64 cd) := bv14.cell 1
  have c0 : w14.cell? ⟨gk, 0, none⟩ = some (.int .i64 tv) := bk14.cell 0
  have c2 : w14.cell? ⟨gk, 2, none⟩ = some (.int .u32 td) := bk14.cell 2
  rcases hways with ⟨rfl, hcd⟩ | ⟨rfl, rfl, rfl, rfl, hvv, hck⟩
  · -- refused
    have hd : (cd != 0) = true := by simpa using hcd
    clear tfree tloop hcin hnk hrn14 bn14 bk14
    go_upto_region 8 with fail
    go_wp2_with (first
      | (go_at_call_of 9 (Value.slice A n c); refine (KF.out _ B14).mono ?_; rintro e w15 ⟨Af, cf, rfl, hrf, rfl⟩; have hrf2 := hrf.more B14.size)
      | (go_at_call_of 9 (Value.slice A' n' c'); refine (KC.out _ B14).mono ?_; rintro e w16 ⟨Ac, cc, rfl, hrc, rfl⟩; have hrc2 := hrc.more B14.size)
      | (go_at_call 10; refine ((tcheck_any Af _ cf Ac _ cc _ fb cb hrf2 hrc2 (by omega) (by omega)).mono fun e w' h => chk_ways h).mono ?_; rintro e w17 ⟨hb17, x2, cd2, rfl, hy0, hy2, _⟩; have hy3 : decide (x2 ≤ 2) = true := decide_eq_true hy2)
      | ((with_reducible refine on_field (.tmp 53) ?_); refine wl_fieldA rfl (.tmp 53) rfl rfl ?_))
    go_ret
    exact ⟨rfl, B14.trans (hb17.mono B14.size)⟩
  · subst hls
    have hN := hnk.out rfl
    have hNet : NetOk (Nd.ls ns) := ⟨hN.may, hN.ok⟩
    have hci := (hcin.out rfl).1
    have htd : 0 ≤ td ∧ td ≤ 4294967295 := cin_d hci
    clear hnk hcin hN
    rcases hvv with ⟨hx1, hv1⟩ | ⟨hx1, hv1⟩
    · subst hv1
      have tf := Lib.hid (fun a ha => tfree.out a ha rfl rfl rfl hck)
      clear tfree tloop hck hci hx1
      have KOf := Lib.hid (fun W (hW : Below w14.heap.size w14 W) => rof_any An nn cn ns W _ ((hrn14.step hW).more hW.size) hNet)
      go_upto_region 13 with fail
      go_cut [16] from 86 to 93 (fun s16 wx => ∃ (Aq : Option Addr) (mq cq : Nat) (lq : List Int), s16 = .slice Aq mq cq ∧ RdS uv wx wx.heap.size Aq mq cq lq ∧ mq ≤ 8195 ∧ (∀ x ∈ lq, 0 ≤ x ∧ x ≤ 4294967295) ∧ Below w14.heap.size w14 wx)
      case first =>
        have hbx : ∀ w', Th.Reach w14.heap.size w14.drew w' → Box w' gn 34 #[.slice An nn cn] := fun w' h => bn14.drew.step h.below
        have q0 : ∀ q : Step w14.heap.size w14.drew, q.w.cell? ⟨w.heap.size, 0, none⟩ = some (.int .u32 a0) := fun q => (bx14.drew.step q.h).cell 0
        have q1 : ∀ q : Step w14.heap.size w14.drew, q.w.cell? ⟨w.heap.size, 1, none⟩ = some (.int .u32 a1) := fun q => (bx14.drew.step q.h).cell 1
        have hz2 : ∀ x ∈ [a0, a1], 0 ≤ x ∧ x ≤ 4294967295 := by simp; omega
        have L0 := OwS.lit (f := uv) (base := w14.drew.heap.size) (e := 23) (xs := [a0, a1]) w14.drew #[.int .u32 a0, .int .u32 a1] 2 (Nat.le_refl _) (by simp [maxLen]) rfl rfl
        have kL := below_alloc w14.drew (Nat.le_refl _) (.cells #[.int .u32 a0, .int .u32 a1] 23)
        have kD : w14.heap.size ≤ w14.drew.heap.size := Nat.le_refl _
        have kE : w14.heap.size ≤ (w14.drew.alloc (.cells #[.int .u32 a0, .int .u32 a1] 23)).heap.size := kL.size
        refine wp_region_tree (.float 0 1 (.float 2 4 (.two 1 (.one 6 (.one 7 (.float 8 1 .done))) 6 (.one 1 (.one 7 (.float 8 1 .done)))))) (Th.Reach w14.heap.size) (Th.Reach.trans _) (Th.Reach.refl _) (by kernel_rfl) (by kernel_rfl) (fun KT hKT => ?_)
        repeat' first
          | ((with_reducible refine wpTree_done ?_); refine hKT _ _ ?_; clear hKT KT)
          | (with_reducible refine wpTree_two ?_ ?_)
          | ((with_reducible refine wpTree_float (fun KF hKF => ?_)); (simp only [List.drop, List.take]); (repeat (first | go_big_quiet_skip | ((with_reducible refine onq_load (.tmp 11) ?_); refine wqb_load rfl _ (.tmp 11) rfl st_net rfl hbx rfl ?_) | go_big_quiet_step (fail) | quiet_step (fail))); refine wpQuiet_nil ?_; refine hKF _ ?_; clear hKF KF)
          | ((with_reducible refine wpTree_one (fun KO hKO => ?_)); (simp only [List.drop, List.take]); (go_wp2_with (first | (go_at_call 14; refine (KOf.out _ (by first | exact bdrew1 _ | exact (bdrew1 _).trans (below_alloc _ (by simp) _))).mono ?_; rintro e wO ⟨AO, mO, cO, lO, rfl, rO, hmO, hxO, hbO⟩; first | (have hbO2 : Below w14.heap.size w14.drew wO := hbO; have zO : w14.heap.size ≤ wO.heap.size := Nat.le_trans kD hbO.size) | (have hbO2 : Below w14.heap.size (w14.drew.alloc (.cells #[.int .u32 a0, .int .u32 a1] 23)) wO := hbO.mono kE; have zO : w14.heap.size ≤ wO.heap.size := Nat.le_trans kE hbO.size)) | ((with_reducible refine on_append (.tmp 87) (.tmp 92) ?_); first | (refine wl_appendS rfl (.tmp 87) (.tmp 92) _ rfl el_u32 (f := uv) (fun _ => rfl) rfl (rO.alloc _) rfl (OwS.lit (base := wO.heap.size) (e := 23) (xs := [a0, a1]) wO #[.int .u32 a0, .int .u32 a1] 2 (Nat.le_refl _) (by simp [maxLen]) rfl rfl).rd (by omega) (by omega) (by have := hbO.size; simp at this ⊢; omega) ?_; intro A8 c8 w8 ow8 hg8 hb8; have hb9 : Below w14.heap.size _ w8 := hb8) | (refine wl_appendS rfl (.tmp 87) (.tmp 92) _ rfl el_u32 (f := uv) (fun _ => rfl) rfl rO rfl (L0.below hbO).rd (by omega) (by omega) hbO.size ?_; intro A8 c8 w8 ow8 hg8 hb8; have hb9 : Below w14.heap.size _ w8 := hb8.mono kE)))); (refine anch_end (Th.Reach.of (by first | exact Below.refl _ _ | exact below_alloc _ (by first | omega | (simp; done) | (simp; omega)) _ | exact below_alloc2 _ (by first | omega | (simp; done) | (simp; omega)) _ _ | exact below_alloc2d _ (by simp) _ _ | exact bdrew _ _ | assumption | (exact Below.mono (by assumption) (by first | (simp; done) | (simp; omega) | omega | assumption)))) (hKO _ _ ?_)); clear hKO KO)
        all_goals
          have hxq : ∀ x ∈ lO ++ [a0, a1], 0 ≤ x ∧ x ≤ 4294967295 := fun x hx => by
            rcases List.mem_append.1 hx with hx | hx
            · exact hxO x hx
            · exact hz2 x hx
        · have fin := Lib.hid (show ∃ (Aq : Option Addr) (mq cq : Nat) (lq : List Int), Value.slice A8 _ c8 = .slice Aq mq cq ∧ RdS uv w8 w8.heap.size Aq mq cq lq ∧ mq ≤ 8195 ∧ (∀ x ∈ lq, 0 ≤ x ∧ x ≤ 4294967295) ∧ Below w14.heap.size w14 w8 from ⟨A8, _, c8, _, rfl, ow8.rd.heap, by omega, hxq, ((bdrew1 w14).trans hbO2).trans ((below_alloc wO zO _).trans hb9)⟩)
          first
            | (refine Met.intro ?_; go_step; exact ⟨_, _, _, _, _, _, _, _, _, fin.out, rfl⟩)
            | (go_wp2; refine Met.intro ?_; go_step; exact ⟨_, _, _, _, _, _, _, _, _, fin.out, rfl⟩)
        · have fin := Lib.hid (show ∃ (Aq : Option Addr) (mq cq : Nat) (lq : List Int), Value.slice A8 _ c8 = .slice Aq mq cq ∧ RdS uv w8 w8.heap.size Aq mq cq lq ∧ mq ≤ 8195 ∧ (∀ x ∈ lq, 0 ≤ x ∧ x ≤ 4294967295) ∧ Below w14.heap.size w14 w8 from ⟨A8, _, c8, _, rfl, ow8.rd.heap, by omega, hxq, (((bdrew1 w14).trans (below_alloc w14.drew kD _)).trans hbO2).trans hb9⟩)
          first
            | (refine Met.intro ?_; go_step; exact ⟨_, _, _, _, _, _, _, _, _, fin.out, rfl⟩)
            | (go_wp2; refine Met.intro ?_; go_step; exact ⟨_, _, _, _, _, _, _, _, _, fin.out, rfl⟩)
      case rest =>
        obtain ⟨Aq, mq, cq, lq, rfl, hrq, hmq, hxq, hbq⟩ := hcut
        have hlq := hrq.len
        have KR := Lib.hid (fun a (ha : 0 ≤ a ∧ a ≤ 4294967295) W (hW : Below w14.heap.size w14 W) => roundT_any An nn cn ns a W ha _ ((hrn14.step hW).more hW.size) hNet false ⟨(fun h => by cases h), fun h => absurd h (tf.out a ha)⟩)
        have Hxq := Lib.hid hxq
        have bnq := bn14.step hbq
        clear KOf hxq tf v0 v1 c0 c2
        go_wp2
        go_loopw [17] (fun i wr => TsRel Aq mq cq lq gn (.slice An nn cn) w14 i wr) (fun i _ => mq - (intOf i).toNat)
        case atStart => exact ⟨0, by omega, rfl, hrq, bnq, hbq⟩
        case round =>
          clear hrq bnq hbq
          obtain ⟨k, hk, rfl, rr, bb, BB⟩ := hrel
          by_cases hlt : k < mq
          · obtain ⟨x, hx⟩ : ∃ x, lq[k]? = some x := ⟨lq[k]'(by omega), List.getElem?_eq_getElem _⟩
            have hxb := Hxq.out x (List.mem_of_getElem? hx)
            have Hx := Lib.hid hx
            have q1 := rr.reach
            have K := Lib.hid (fun q : Step wr.heap.size wr => KR.out x hxb q.w (BB.trans (q.h.mono BB.size)))
            clear hx
            go_upto_region 17 with fail
            refine wp_region_reach (by kernel_rfl) (by kernel_rfl) ?_
            repeat (first | go_big_quiet_skip | ((with_reducible refine onq_load (.tmp 11) ?_); refine wqb_load rfl _ (.tmp 11) rfl st_net rfl (fun w' h => bb.step h.below) rfl ?_) | ((with_reducible refine onq_index (.tmp 101) ?_); refine wq_at_u rfl _ (.tmp 101) _ rfl el_u32 rfl rfl (by omega) (by omega) (Th.Reach.refl _ _) q1 ?_; intro p5 x5 hr5 hc5; have hxx := get_eq Hx.out hr5.out (by omega); subst hxx; have f5 : ∀ q : Step wr.heap.size wr, q.w.cell? p5 = some (.int .u32 x) := fun q => hc5 q.w ⟨q, rfl⟩) | go_big_quiet_step ((with_reducible exact Calls.reach (K.out _))) | quiet_step ((with_reducible exact Calls.reach (K.out _))))
            refine wpQuiet_nil ?_
            rintro _ ⟨q, rfl⟩
            have hqw2 := q.h
            obtain ⟨w2, hw2'⟩ : ∃ W, q.w = W := ⟨_, rfl⟩
            rw [hw2'] at hqw2 ⊢
            clear hw2' q
            go_wp2
            go_roundw
            case rel => exact ⟨k + 1, by omega, by go_num, (rr.step hqw2).more hqw2.size, bb.step hqw2, BB.trans (hqw2.mono BB.size)⟩
            case measure => simp [intOf]; omega
          · go_wp2
            go_ret
            exact ⟨rfl, B14.trans (BB.mono B14.size)⟩
    · subst hv1
      have tl := tloop.out rfl hck
      clear tfree tloop hck hci hx1
      have KR := Lib.hid (fun W (hW : Below w14.heap.size w14 W) => roundT_any An nn cn ns td W htd _ ((hrn14.step hW).more hW.size) hNet true ⟨fun _ => tl, fun _ => rfl⟩)
      go_wp2_with (first
        | ((with_reducible refine on_load (.tmp 11) ?_); refine wb_load rfl _ (.tmp 11) rfl st_net rfl bn14 rfl ?_)
        | (go_at_call 13; refine (KR.out _ (Below.refl _ _)).mono ?_; rintro e wr ⟨rfl, hbr⟩))
      go_ret
      exact ⟨rfl, B14.trans (hbr.mono B14.size)⟩
end Go.Proofs.YtjandnidljbkoaaGreat
