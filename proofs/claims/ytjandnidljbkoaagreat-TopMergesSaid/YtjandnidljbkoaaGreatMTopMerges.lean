/-
  theseustop.TopMerges, walked.
-/
import Derived.Test.YtjandnidljbkoaaGreatMTpShown
import Derived.Test.YtjandnidljbkoaaGreatMTpMade
import Derived.Test.YtjandnidljbkoaaGreatMTpRound
import Derived.Test.YtjandnidljbkoaaGreatMTpAt
namespace Go.Proofs.YtjandnidljbkoaaGreat
open Go.RowKit Go.Th
set_option linter.unusedVariables false
theorem z_atoms : (Tryz.prog.info? 59).map (fun i => (i.zero.map Value.cells, i.size)) = some (some #[.slice none 0 0, .slice none 0 0, .slice none 0 0], 3) := by kernel_rfl
section
variable (A : Option Addr) (n c : Nat) (ls : List (List Ru)) (a : Int) (w : World) (hN : NetOk ls) (hl : ls.length = n) (hr : RdS iv w w.heap.size A n c (vecOf ls a))
include hN hl hr
theorem granks_no (h : ¬ ∃ u L, Cyc (hof ls a) (gof ls a) u L) : Calls Tryz.prog 27 #[.slice A n c] w (fun e w' => ∃ A' c', e = .returned (.tuple #[.slice A' n c', .int .i64 0]) ∧ Below w.heap.size w w') := by
  refine (granks_any A n c ls a w hN hl hr).mono ?_
  rintro e w' ⟨hb, ⟨A', c', R, he, _⟩ | ⟨_, hc⟩⟩
  · exact ⟨A', c', he, hb⟩
  · exact absurd hc h
theorem granks_yes (h : ∃ u L, Cyc (hof ls a) (gof ls a) u L) : Calls Tryz.prog 27 #[.slice A n c] w (fun e w' => e = .returned (.tuple #[.slice none 0 0, .int .i64 17]) ∧ Below w.heap.size w w') := by
  refine (granks_any A n c ls a w hN hl hr).mono ?_
  rintro e w' ⟨hb, ⟨A', c', R, he, _, hR⟩ | ⟨he, hc⟩⟩
  · obtain ⟨u, L, cy⟩ := h
    exact absurd cy hR.no
  · exact ⟨he, hb⟩
theorem gloop_no (h : ¬ ∃ u L, Cyc (hof ls a) (gof ls a) u L) : Calls Tryz.prog 28 #[.slice A n c] w (fun e w' => ∃ A' c', e = .returned (.tuple #[.slice A' 0 c', .int .i64 0]) ∧ Below w.heap.size w w') := by
  refine (gloop_any A n c ls a w hN hl hr).mono ?_
  rintro e w' ⟨Al, nl, cl, l, he, ho, hb, ⟨hz, _⟩ | ⟨best, M, _, cy, _⟩⟩
  · have := ho.rd.len
    rw [hz] at this
    obtain rfl : nl = 0 := by simpa using this.symm
    exact ⟨Al, cl, he, hb⟩
  · exact absurd ⟨_, _, cy⟩ h
theorem gloop_yes (h : ∃ u L, Cyc (hof ls a) (gof ls a) u L) : Calls Tryz.prog 28 #[.slice A n c] w (fun e w' => ∃ A' m c', 0 < m ∧ e = .returned (.tuple #[.slice A' m c', .int .i64 0]) ∧ Below w.heap.size w w') := by
  refine (gloop_any A n c ls a w hN hl hr).mono ?_
  rintro e w' ⟨Al, nl, cl, l, he, ho, hb, ⟨hz, hno⟩ | ⟨best, M, _, cy, _, hl, _⟩⟩
  · obtain ⟨u, L, cy⟩ := h
    exact absurd cy (hno u L)
  · have h1 := ho.rd.len
    rw [hl, sits_len] at h1
    have := cy.pos
    exact ⟨Al, nl, cl, by omega, he, hb⟩
end
def TmRel (m : Nat) (W : World) (i : Value) (wr : World) : Prop := ∃ k : Nat, k ≤ m ∧ i = .int .i64 k ∧ Below W.heap.size W wr
set_option maxRecDepth 100000 in
set_option maxHeartbeats 8000000 in
theorem topMerges_walk {w : World} (A : Option Addr) (n c : Nat) (ns : List Nd) (ni : NetIn w A n c ns) (a : Int) (ha : 0 ≤ a ∧ a ≤ 4294967295) :
    Calls Tryz.prog 5 #[.agg #[.slice A n c], .int .u32 a] w fun e w' => e = .returned (.bool true) ∧ Below w.heap.size w w' := by
  have K1 := Lib.hid (made_any A n c ns w ni)
  clear ni
  have k0 : Below w.heap.size w (w.alloc (.cells #[.slice A n c] 34)) := below_alloc w (Nat.le_refl _) _
  have b0 := Box.new w #[.slice A n c] 34
  go_enter Tryz.func5, Tryz.ntmps5
  go_upto_region 1 with fail
  obtain ⟨w0, hw0⟩ : ∃ W, w.alloc (.cells #[.slice A n c] 34) = W := ⟨_, rfl⟩
  rw [hw0] at k0 b0 ⊢
  clear hw0
  go_upto_region 2 with (go_at_call 7; refine (shown_any _).mono ?_; rintro e w1 ⟨rfl, hb1⟩; have bx1 := b0.step hb1)
  have B1 := k0.trans (hb1.mono k0.size)
  clear k0 b0 hb1
  go_upto_region 3 with (first
    | ((with_reducible refine on_load (.tmp 2) ?_); refine wb_load rfl _ (.tmp 2) rfl st_net rfl bx1 rfl ?_)
    | (go_at_call 15; refine (K1.out _ B1).mono ?_; rintro e w2 ⟨Aa, na, ca, nsa, rfl, hra, oka, sma, nba, hb2⟩)
    | ((with_reducible refine on_alloc ?_); refine wl_newBox rfl _ rfl z_net ?_; intro ga w3 hg3 hl3 bg3 hb3)
    | ((with_reducible refine on_store_at (.tmp 6) ?_); refine wb_store (cs := #[.slice none 0 0]) (cs' := #[.slice Aa na ca]) rfl _ (.tmp 6) _ rfl st_net rfl rfl bg3 rfl rfl (by simp [Value.oneCell']) ?_; intro w4 bx4 hg4))
  have bd4 := hb3.trans (below_of_grown (B := w2.heap.size) hg4 (fun j e => by injection e with e; omega) hb3.size)
  have M4 : TBox w4 ga Aa na ca nsa := ⟨bx4, (hra.step bd4).heap, oka.may, sma, nba⟩
  have b14 := hb2.trans (bd4.mono hb2.size)
  have B4 := B1.trans (b14.mono B1.size)
  clear bd4 b14 bx4 hra oka sma nba hg4 hb3 bg3 hg3 hl3 hb2 B1 bx1 K1
  have hnb := M4.nb
  have hNet := M4.net
  have Hlen := Lib.hid M4.len
  have hck := ckeys_small M4.may
  have hsz := hNet.size
  have hnd := hNet.nd
  have K2 := Lib.hid (atoms_any Aa na ca nsa w4 _ M4.rd M4.may hck)
  have K3 := Lib.hid (fun W (hW : Below w4.heap.size w4 W) => vnew_any Aa na ca nsa W (by omega) hsz _ (M4.rd.step hW) M4.may hnd.1 hnd.2)
  have K4 := Lib.hid (fun W (hW : Below w4.heap.size w4 W) => cuts_any Aa na ca nsa W (by omega) hsz _ (M4.rd.step hW) hck)
  have hcb := Lib.hid (cuts_bound hNet.ok)
  have hcl := cuts_len (Nd.ls nsa)
  have hxn : ∀ x ∈ nsa, x.n ≤ 9223372036854775807 := fun x hx => by have := M4.small x hx; omega
  obtain ⟨ls, hls⟩ : ∃ l, Nd.ls nsa = l := ⟨_, rfl⟩
  have KS := Lib.hid (fun (a v : Int) (ha : 0 ≤ a ∧ a ≤ 4294967295) W (hW : Below w4.heap.size w4 W) => step_any Aa na ca nsa a v W (by omega) ha hxn _ (M4.rd.step hW) (hof (Nd.ls nsa) a v) (gof (Nd.ls nsa) a v) (Lib.hid rfl))
  have KR := Lib.hid (fun (a : Int) (ha : 0 ≤ a ∧ a ≤ 4294967295) (b : Bool) (hb : b = true ↔ ∃ u L, Cyc (hof (Nd.ls nsa) a) (gof (Nd.ls nsa) a) u L) W (hW : Below w4.heap.size w4 W) => roundT_any Aa na ca nsa a W ha _ (M4.rd.step hW) hNet b hb)
  rw [hls] at K2 K3 K4 KS KR hcb hcl Hlen hNet hsz
  have HNet := Lib.hid hNet
  clear hls hnd hxn hNet hck
  go_upto_region 4 with (first
    | ((with_reducible refine on_load (.tmp 6) ?_); refine wb_load rfl _ (.tmp 6) rfl st_net rfl M4.box rfl ?_)
    | (go_at_call 20; refine (K2.out).mono ?_; rintro e w5 ⟨A1, c1, A2, c2, A3, c3, gs, n1, n3, rfl, hAt5, hb5⟩; have M5 := M4.step hb5)
    | ((with_reducible refine on_alloc ?_); refine wl_newBox rfl _ rfl z_atoms ?_; intro gx w6 hg6 hl6 bg6 hb6)
    | ((with_reducible refine on_store_at (.tmp 7) ?_); refine wb_store (cs := #[.slice none 0 0, .slice none 0 0, .slice none 0 0]) (cs' := #[.slice A1 n1 c1, .slice A2 n1 c2, .slice A3 n3 c3]) rfl _ (.tmp 7) _ rfl st_atoms rfl rfl bg6 rfl rfl (by simp [Value.oneCell']) ?_; intro w7 bx7 hg7))
  have e7 : Below w5.heap.size w5 w7 := hb6.trans (below_of_grown (B := w5.heap.size) hg7 (fun j e => by injection e with e; omega) (by have := hb6.size; omega))
  have M7 := M5.step e7
  have hAt7 := hAt5.below e7
  have d7 := hb5.trans (e7.mono hb5.size)
  clear hb5 hb6 hg7 bg6 hg6 hl6 M5 hAt5 e7 K2
  go_upto_region 5 with (first
    | ((with_reducible refine on_load (.tmp 6) ?_); refine wb_load rfl _ (.tmp 6) rfl st_net rfl M7.box rfl ?_)
    | (go_at_call 21; refine (K3.out _ d7).mono ?_; rintro e w8 ⟨gm, Am, cm, gs2, rfl, hMk, hb8⟩))
  have M8 := M7.step hb8
  have hAt8 := hAt7.below hb8
  have bx8 := bx7.step hb8
  have d8 := d7.trans (hb8.mono d7.size)
  clear M7 hAt7 bx7 hb8 d7 K3
  have L0 := OwS.lit (f := uv) (base := w4.heap.size) (e := 23) (xs := [a])
  go_upto_region 8 with (first
    | ((with_reducible refine on_load (.tmp 6) ?_); refine wb_load rfl _ (.tmp 6) rfl st_net rfl M8.box rfl ?_)
    | (go_at_call 22; refine (K4.out _ d8).mono ?_; rintro e w9 ⟨gc, mc, cc, rfl, oc9, hb9⟩)
    | ((with_reducible refine on_append (.tmp 51) (.tmp 53) ?_); refine wl_appendS rfl (.tmp 51) (.tmp 53) _ rfl el_u32 (f := uv) (fun _ => rfl) rfl (oc9.alloc _) rfl (L0 w9 #[.int .u32 a] 1 (by have := d8.size; have := hb9.size; omega) (by simp [maxLen]) rfl rfl).rd (by have := oc9.rd.len; omega) (by omega) (by have := hb9.size; simp; omega) ?_; intro Aq cq w10 oq10 hg10 hb10))
  have e10 : Below w8.heap.size w8 w10 := hb9.trans ((below_alloc w9 hb9.size _).trans hb10)
  have M10 := M8.step e10
  have hAt10 := hAt8.below e10
  have bx10 := bx8.step e10
  have hMk10 := hMk.step e10
  have rq : RdS uv w10 w10.heap.size Aq (mc + 1) cq (cutsOf ls ++ [a]) := oq10.rd.heap
  have d10 := d8.trans (e10.mono d8.size)
  have hql := rq.len
  have hmc := oc9.rd.len
  have hqb : Hid (∀ x ∈ cutsOf ls ++ [a], 0 ≤ x ∧ x ≤ 4294967295) := Lib.hid (fun x hx => by
    rcases List.mem_append.1 hx with hx | hx
    · exact hcb.out x hx
    · rw [List.mem_singleton.1 hx]; exact ha)
  obtain ⟨lq, hlq⟩ : ∃ l, cutsOf ls ++ [a] = l := ⟨_, rfl⟩
  obtain ⟨m, hm⟩ : ∃ m, mc + 1 = m := ⟨_, rfl⟩
  have hm2 : m ≤ 100000 := by omega
  rw [hlq] at rq hql hqb
  rw [hm] at rq hql ⊢
  clear M8 hAt8 bx8 hMk oc9 hb9 hb10 hg10 oq10 d8 e10 L0 K4 hcb hlq hm hmc
  go_wp2
  go_loopw [12] (fun i wr => TmRel m w10 i wr) (fun i _ => m - (intOf i).toNat)
  case atStart => exact ⟨0, by omega, rfl, Below.refl _ _⟩
  case round =>
    obtain ⟨k, hk, rfl, hbk⟩ := hrel
    by_cases hlt : k < m
    · obtain ⟨x, hx⟩ : ∃ x, lq[k]? = some x := ⟨lq[k]'(by omega), List.getElem?_eq_getElem _⟩
      have hxb := hqb.out x (List.mem_of_getElem? hx)
      have Hx := Lib.hid hx
      clear hx
      have rk := (rq.step hbk).more hbk.size
      have q1 := (rk.step (bdrew1 wr)).reach
      have hAk := hAt10.below hbk
      have hbx : ∀ w', Th.Reach wr.heap.size wr.drew w' → Box w' gx 59 #[.slice A1 n1 c1, .slice A2 n1 c2, .slice A3 n3 c3] := fun w' h => (bx10.step hbk).drew.step h.below
      have KA := Lib.hid (fun W (hW : Below wr.heap.size wr W) => aat_any ls HNet.out na _ A1 n1 c1 A2 c2 A3 n3 c3 gs W (by omega) (hAk.below hW) x hxb)
      go_upto_region 11 with fail
      refine wp_region_tree (.float 0 5 (.one 5 (.float 6 5 .done))) (Th.Reach wr.heap.size) (Th.Reach.trans _) (Th.Reach.refl _) (by kernel_rfl) (by kernel_rfl) (fun KT hKT => ?_)
      repeat' first
        | ((with_reducible refine wpTree_done ?_); refine hKT _ _ ?_; clear hKT KT)
        | (with_reducible refine wpTree_two ?_ ?_)
        | ((with_reducible refine wpTree_float (fun KF hKF => ?_)); (simp only [List.drop, List.take]); (repeat (first | go_big_quiet_skip | ((with_reducible refine onq_load (.tmp 7) ?_); refine wqb_load rfl _ (.tmp 7) rfl st_atoms rfl hbx rfl ?_) | ((with_reducible refine onq_index (.tmp 63) ?_); refine wq_at_u rfl _ (.tmp 63) _ rfl el_u32 rfl rfl (by omega) (by omega) (Th.Reach.refl _ _) q1 ?_; intro p5 x5 hr5 hc5; have hxx := get_eq Hx.out hr5.out (by omega); subst hxx; have f5 : ∀ q : Step wr.heap.size wr.drew, q.w.cell? p5 = some (.int .u32 x) := fun q => hc5 q.w ⟨q, rfl⟩) | go_big_quiet_step (fail) | quiet_step (fail))); refine wpQuiet_nil ?_; refine hKF _ ?_; clear hKF KF)
        | ((with_reducible refine wpTree_one (fun KO hKO => ?_)); (simp only [List.drop, List.take]); (go_wp2_with (first | (go_at_call 23; refine (KA.out _ (bdrew1 _)).mono ?_; rintro e w2 ⟨Av, cv, rfl, ov, hb2⟩; have hb2' : Below wr.heap.size wr.drew w2 := hb2))); (refine anch_end (Th.Reach.of (by first | exact Below.refl _ _ | exact below_alloc _ (by first | omega | (simp; done) | (simp; omega)) _ | exact below_alloc2 _ (by first | omega | (simp; done) | (simp; omega)) _ _ | exact below_alloc2d _ (by simp) _ _ | exact bdrew _ _ | assumption | (exact Below.mono (by assumption) (by first | (simp; done) | (simp; omega) | omega | assumption)))) (hKO _ _ ?_)); clear hKO KO)
      have B2 : Below wr.heap.size wr w2 := (bdrew1 wr).trans hb2'
      have r2 := (rk.step B2).more B2.size
      have hM2 := (hMk10.step hbk).step B2
      rw [Hlen.out] at hM2
      have KV := Lib.hid (vof_any _ gm Am na cm gs2 ls x w2 (by omega) hM2 hxb)
      clear KA q1 hAk hbx hb2 hb2' hM2
      go_upto_region 13 with (first
        | ((with_reducible refine on_index (.tmp 71) ?_); refine wl_at_u rfl _ (.tmp 71) _ rfl el_u32 rfl rfl (by omega) (by omega) r2 ?_; intro p1 y1 hy1 hc1; have hxx : x = y1 := get_eq Hx.out hy1.out (by omega); subst hxx)
        | (go_at_call 24; refine (KV.out).mono ?_; rintro e w3 ⟨gv, rfl, ov3, hb3⟩))
      have ov3b := ov.below hb3
      have B3 := B2.trans (hb3.mono B2.size)
      have M3 := (M10.step hbk).step B3
      have y3 : w3.cell? ⟨ga, 0, none⟩ = some (.slice Aa na ca) := M3.box.cell 0
      have KW := Lib.hid (row_any Av na cv (some ⟨gv, 0, none⟩) na na (vecOf ls x) (vecOf ls x) w3 (by omega) (by omega) _ _ ov3b.rd ov3.rd true (Lib.hid (decide_eq_true rfl)))
      clear KV r2 rk ov
      go_upto_region 15 with (go_at_call 25; refine (KW.out).mono ?_; rintro e w4' ⟨rfl, hb4⟩; have y4 : w4'.cell? ⟨ga, 0, none⟩ = some (.slice Aa na ca) := (M3.step hb4).box.cell 0)
      have rv := (ov3b.rd.step hb4).heap
      have B5 := B3.trans (hb4.mono B3.size)
      have hvl := rv.len
      clear KW M3 y3 ov3 ov3b hb3 hb4 B3 B2 y4
      obtain ⟨W5, hW5⟩ : ∃ W, w4' = W := ⟨_, rfl⟩
      rw [hW5] at rv B5 ⊢
      clear hW5
      have hwk : ∃ W, W = wr := ⟨_, rfl⟩
      obtain ⟨wk, hwk⟩ := hwk
      rw [← hwk] at hbk B5
      clear hwk
      go_wp2
      go_loopw [16] (fun i wq => TmRel na W5 i wq) (fun i _ => na - (intOf i).toNat)
      case atStart => exact ⟨0, by omega, rfl, Below.refl _ _⟩
      case round =>
        obtain ⟨j, hj, rfl, hbj⟩ := hrel
        have rvj := (rv.step hbj).more hbj.size
        have B7 := B5.trans (hbj.mono B5.size)
        by_cases hjl : j < na
        · have hve := vec_step ls x j (by have := Hlen.out; omega)
          have rj := ((rq.step hbk).step B7).heap
          have q1 := rj.reach
          have M7 := (M10.step hbk).step B7
          have D7 : Below w4.heap.size w4 wr := d10.trans ((hbk.trans (B7.mono hbk.size)).mono d10.size)
          obtain ⟨u, hu⟩ : ∃ u, hof ls x (j : Int) = u := ⟨_, rfl⟩
          obtain ⟨ok, hok⟩ : ∃ b, gof ls x (j : Int) = b := ⟨_, rfl⟩
          have hns : nstep ls x (j : Int) = (u, ok) := by rw [← hu, ← hok]; rfl
          rw [hns] at hve
          have K := Lib.hid (fun q : Step wr.heap.size wr => KS.out x j hxb q.w (D7.trans (q.h.mono D7.size)))
          rw [hu, hok] at K
          clear hu hok hns D7
          have Hve := Lib.hid hve
          clear hve
          go_upto_region 18 with fail
          refine wp_region_reach (by kernel_rfl) (by kernel_rfl) ?_
          repeat (first | go_big_quiet_skip | ((with_reducible refine onq_load (.tmp 6) ?_); refine wqb_load rfl _ (.tmp 6) rfl st_net rfl (fun w' h => M7.box.step h.below) rfl ?_) | ((with_reducible refine onq_index (.tmp 100) ?_); refine wq_at_u rfl _ (.tmp 100) _ rfl el_u32 rfl rfl (by omega) (by omega) (Th.Reach.refl _ _) q1 ?_; intro p5 x5 hr5 hc5; have hxx := get_eq Hx.out hr5.out (by omega); subst hxx; have f5 : ∀ q : Step wr.heap.size wr, q.w.cell? p5 = some (.int .u32 x) := fun q => hc5 q.w ⟨q, rfl⟩) | go_big_quiet_step ((with_reducible exact Calls.reach (K.out _))) | quiet_step ((with_reducible exact Calls.reach (K.out _))))
          refine wpQuiet_nil ?_
          rintro _ ⟨q, rfl⟩
          have hqw2 := q.h
          obtain ⟨w2, hw2'⟩ : ∃ W, q.w = W := ⟨_, rfl⟩
          rw [hw2'] at hqw2 ⊢
          clear hw2' q
          have rw2 := rvj.step hqw2
          clear K q1 rj
          cases ok with
          | true =>
            simp only [if_true] at Hve
            go_wp2_with ((with_reducible refine on_index (.tmp 110) ?_); refine wl_at_i rfl _ (.tmp 110) _ rfl el_int rfl rfl (by omega) (by omega) rw2 ?_; intro p1 y1 hy1 hc1; have hxx : u = y1 := get_eq Hve.out hy1.out (by omega); subst hxx)
            go_roundw
            case rel => exact ⟨j + 1, by omega, by go_num, hbj.trans (hqw2.mono hbj.size)⟩
            case measure => simp [intOf]; omega
          | false =>
            have Hve2 : Hid ((vecOf ls x)[j]? = some (-1)) := Lib.hid (by have := Hve.out; simpa using this)
            clear Hve
            go_wp2_with ((with_reducible refine on_index (.tmp 121) ?_); refine wl_at_i rfl _ (.tmp 121) _ rfl el_int rfl rfl (by omega) (by omega) rw2 ?_; intro p1 y1 hy1 hc1; have hxx : (-1 : Int) = y1 := get_eq Hve2.out hy1.out (by omega); subst hxx)
            go_roundw
            case rel => exact ⟨j + 1, by omega, by go_num, hbj.trans (hqw2.mono hbj.size)⟩
            case measure => simp [intOf]; omega
        · obtain rfl : j = na := by omega
          by_cases hcyc0 : ∃ u L, Cyc (hof ls x) (gof ls x) u L
          · have hcyc := Lib.hid hcyc0
            have KRk := Lib.hid (granks_yes Av _ cv ls x wr HNet.out Hlen.out rvj hcyc.out)
            have KLo := Lib.hid (fun W (hW : Below wr.heap.size wr W) => gloop_yes Av _ cv ls x W HNet.out Hlen.out ((rvj.step hW).more hW.size) hcyc.out)
            clear hcyc0
            go_upto_region 23 with (first
              | (go_at_call 27; refine (KRk.out).mono ?_; rintro e w8 ⟨rfl, hb8⟩)
              | (go_at_call 28; refine (KLo.out w8 hb8).mono ?_; rintro e w9 ⟨A9, m9, c9, hm9, rfl, hb9⟩))
            have B9 : Below wk.heap.size wk w9 := B7.trans ((hb8.trans (hb9.mono hb8.size)).mono B7.size)
            have q1 := ((rq.step hbk).step B9).heap.reach
            have M9 := (M10.step hbk).step B9
            have D9 : Below w4.heap.size w4 w9 := d10.trans ((hbk.trans (B9.mono hbk.size)).mono d10.size)
            have K := Lib.hid (fun q : Step w9.heap.size w9 => KR.out x hxb true ⟨fun _ => hcyc.out, fun _ => rfl⟩ q.w (D9.trans (q.h.mono D9.size)))
            refine wp_region_reach (by kernel_rfl) (by kernel_rfl) ?_
            repeat (first | go_big_quiet_skip | ((with_reducible refine onq_load (.tmp 6) ?_); refine wqb_load rfl _ (.tmp 6) rfl st_net rfl (fun w' h => M9.box.step h.below) rfl ?_) | ((with_reducible refine onq_index (.tmp 144) ?_); refine wq_at_u rfl _ (.tmp 144) _ rfl el_u32 rfl rfl (by omega) (by omega) (Th.Reach.refl _ _) q1 ?_; intro p5 x5 hr5 hc5; have hxx := get_eq Hx.out hr5.out (by omega); subst hxx; have f5 : ∀ q : Step w9.heap.size w9, q.w.cell? p5 = some (.int .u32 x) := fun q => hc5 q.w ⟨q, rfl⟩) | ((with_reducible refine onq_index (.tmp 157) ?_); refine wq_at_u rfl _ (.tmp 157) _ rfl el_u32 rfl rfl (by omega) (by omega) (Th.Reach.refl _ _) q1 ?_; intro p6 x6 hr6 hc6; have hxx := get_eq Hx.out hr6.out (by omega); subst hxx; have f6 : ∀ q : Step w9.heap.size w9, q.w.cell? p6 = some (.int .u32 x) := fun q => hc6 q.w ⟨q, rfl⟩) | go_big_quiet_step ((with_reducible exact Calls.reach (K.out _))) | quiet_step ((with_reducible exact Calls.reach (K.out _))))
            refine wpQuiet_nil ?_
            rintro _ ⟨q, rfl⟩
            have hqwf := q.h
            obtain ⟨wf, hwf'⟩ : ∃ W, q.w = W := ⟨_, rfl⟩
            rw [hwf'] at hqwf ⊢
            clear hwf' q
            go_wp2
            go_roundw
            case rel => exact ⟨k + 1, by omega, by go_num, hbk.trans ((B9.trans (hqwf.mono B9.size)).mono hbk.size)⟩
            case measure => simp [intOf]; omega
          · have hcyc := Lib.hid hcyc0
            have KRk := Lib.hid (granks_no Av _ cv ls x wr HNet.out Hlen.out rvj hcyc.out)
            have KLo := Lib.hid (fun W (hW : Below wr.heap.size wr W) => gloop_no Av _ cv ls x W HNet.out Hlen.out ((rvj.step hW).more hW.size) hcyc.out)
            clear hcyc0
            go_upto_region 23 with (first
              | (go_at_call 27; refine (KRk.out).mono ?_; rintro e w8 ⟨A8, c8, rfl, hb8⟩)
              | (go_at_call 28; refine (KLo.out w8 hb8).mono ?_; rintro e w9 ⟨A9, c9, rfl, hb9⟩))
            have B9 : Below wk.heap.size wk w9 := B7.trans ((hb8.trans (hb9.mono hb8.size)).mono B7.size)
            have q1 := ((rq.step hbk).step B9).heap.reach
            have M9 := (M10.step hbk).step B9
            have D9 : Below w4.heap.size w4 w9 := d10.trans ((hbk.trans (B9.mono hbk.size)).mono d10.size)
            have K := Lib.hid (fun q : Step w9.heap.size w9 => KR.out x hxb false ⟨(fun h => by cases h), fun h => absurd h hcyc.out⟩ q.w (D9.trans (q.h.mono D9.size)))
            refine wp_region_reach (by kernel_rfl) (by kernel_rfl) ?_
            repeat (first | go_big_quiet_skip | ((with_reducible refine onq_load (.tmp 6) ?_); refine wqb_load rfl _ (.tmp 6) rfl st_net rfl (fun w' h => M9.box.step h.below) rfl ?_) | ((with_reducible refine onq_index (.tmp 144) ?_); refine wq_at_u rfl _ (.tmp 144) _ rfl el_u32 rfl rfl (by omega) (by omega) (Th.Reach.refl _ _) q1 ?_; intro p5 x5 hr5 hc5; have hxx := get_eq Hx.out hr5.out (by omega); subst hxx; have f5 : ∀ q : Step w9.heap.size w9, q.w.cell? p5 = some (.int .u32 x) := fun q => hc5 q.w ⟨q, rfl⟩) | ((with_reducible refine onq_index (.tmp 157) ?_); refine wq_at_u rfl _ (.tmp 157) _ rfl el_u32 rfl rfl (by omega) (by omega) (Th.Reach.refl _ _) q1 ?_; intro p6 x6 hr6 hc6; have hxx := get_eq Hx.out hr6.out (by omega); subst hxx; have f6 : ∀ q : Step w9.heap.size w9, q.w.cell? p6 = some (.int .u32 x) := fun q => hc6 q.w ⟨q, rfl⟩) | go_big_quiet_step ((with_reducible exact Calls.reach (K.out _))) | quiet_step ((with_reducible exact Calls.reach (K.out _))))
            refine wpQuiet_nil ?_
            rintro _ ⟨q, rfl⟩
            have hqwf := q.h
            obtain ⟨wf, hwf'⟩ : ∃ W, q.w = W := ⟨_, rfl⟩
            rw [hwf'] at hqwf ⊢
            clear hwf' q
            go_wp2
            go_roundw
            case rel => exact ⟨k + 1, by omega, by go_num, hbk.trans ((B9.trans (hqwf.mono B9.size)).mono hbk.size)⟩
            case measure => simp [intOf]; omega
    · go_wp2
      go_ret
      exact ⟨rfl, B4.trans ((d10.trans (hbk.mono d10.size)).mono B4.size)⟩
end Go.Proofs.YtjandnidljbkoaaGreat
