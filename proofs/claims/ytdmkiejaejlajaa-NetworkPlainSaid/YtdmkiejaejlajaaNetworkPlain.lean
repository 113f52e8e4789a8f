/-
  theseuslaw09.NetworkPlain: the walk.
-/
import Derived.Test.YtdmkiejaejlajaaNhPlainLaw
import Derived.Deep.DeepCutAuto
namespace Go.Proofs.Ytdmkiejaejlajaa
open Go.RowKit Go.Th
set_option linter.unusedVariables false
def PnRel (n : Nat) (g1 g9 : Nat) (w : World) (i : Value) (wr : World) : Prop :=
  ∃ (k : Nat) (ns : List Nd), k ≤ n ∧ i = .int .i64 k ∧ NO 33 40 wr w.heap.size (some ⟨g1, 0, none⟩) n n ns ∧ Hid (Nd.ls ns = List.replicate k [dRu] ++ List.replicate (n - k) []) ∧ Box wr g9 24 #[.slice (some ⟨g1, 0, none⟩) n n] ∧ Below w.heap.size w wr
set_option maxRecDepth 100000 in
set_option maxHeartbeats 4000000 in
theorem networkPlain_walk {w : World} (zs : List Int) (hl : zs.length = 2) (hz : ∀ z ∈ zs, 0 ≤ z ∧ z ≤ 255) (a : Int) (ha : 0 ≤ a ∧ a ≤ 4294967295) :
    Calls Try.prog 9 #[.agg (zs.map (Value.int .u8)).toArray, .int .u32 a] w fun e w' => e = .returned (.bool true) ∧ Below w.heap.size w w' := by
  match zs, hl with
  | [z0, z1], _ =>
  obtain ⟨x0, rfl⟩ := Int.eq_ofNat_of_zero_le (hz z0 (by simp)).1
  obtain ⟨x1, rfl⟩ := Int.eq_ofNat_of_zero_le (hz z1 (by simp)).1
  have hx0 : x0 ≤ 255 := by have := (hz x0 (by simp)).2; omega
  have hx1 : x1 ≤ 255 := by have := (hz x1 (by simp)).2; omega
  show Calls Try.prog 9 #[.agg #[.int .u8 (x0 : Int), .int .u8 (x1 : Int)], .int .u32 a] w _
  clear hz
  have k0 := below_alloc w (Nat.le_refl _) (.cells #[.int .u8 (x0 : Int), .int .u8 (x1 : Int)] 49)
  have b0 := Box.new w #[.int .u8 (x0 : Int), .int .u8 (x1 : Int)] 49
  go_enter Try.func9, Try.ntmps9
  go_upto_region 1 with fail
  obtain ⟨w0, hw0⟩ : ∃ W, w.alloc (.cells #[.int .u8 (x0 : Int), .int .u8 (x1 : Int)] 49) = W := ⟨_, rfl⟩
  rw [hw0] at k0 b0 ⊢
  clear hw0
  go_upto_region 2 with (go_at_call 10; refine (shown9 _).mono ?_; rintro e w1 ⟨rfl, hb1⟩; have bx1 := b0.step hb1)
  have B1 := k0.trans (hb1.mono k0.size)
  clear k0 b0 hb1
  have c0 : w1.cell? ⟨w.heap.size, 0, none⟩ = some (.int .u8 (x0 : Int)) := bx1.cell 0
  have c1 : w1.cell? ⟨w.heap.size, 1, none⟩ = some (.int .u8 (x1 : Int)) := bx1.cell 1
  go_upto_region 3 with fail
  have em : (1 + (x0 : Int) % 32) = ((1 + x0 % 32 : Nat) : Int) := by simp
  rw [em]
  obtain ⟨n, hn⟩ : ∃ n, 1 + x0 % 32 = n := ⟨_, rfl⟩
  rw [hn]
  have hn1 : 1 ≤ n ∧ n ≤ 32 := by omega
  clear em hn
  go_upto_region 4 with fail
  have ev : (x1 : Int) % (n : Int) = ((x1 % n : Nat) : Int) := by simp
  rw [ev]
  obtain ⟨v, hv⟩ : ∃ v, x1 % n = v := ⟨_, rfl⟩
  rw [hv]
  have hvn : v < n := by rw [← hv]; exact Nat.mod_lt _ (by omega)
  clear ev hv c0 c1 bx1
  go_upto_region 5 with (first
    | ((with_reducible refine on_makeL _ ?_); refine wl_makeS (base := w1.heap.size) rfl _ _ _ rfl el_row (f := sv) ⟨none, 0, 0, []⟩ rfl n rfl rfl rfl rfl (by omega) (by omega) (Nat.le_refl _) ?_; intro g0 w2 hg0 o2 hb2)
    | ((with_reducible refine on_alloc ?_); refine wl_newBox rfl _ rfl z_net ?_; intro g8 w3 hg3 hl3 bg3 hb3)
    | ((with_reducible refine on_store_at (.tmp 8) ?_); refine wb_store (cs := #[.slice none 0 0]) (cs' := #[.slice (some ⟨g0, 0, none⟩) n n]) rfl _ (.tmp 8) _ rfl st_net rfl rfl bg3 rfl rfl (by simp [Value.oneCell']) ?_; intro w4 bx4 hg4))
  have bd4 := hb3.trans (below_of_grown (B := w2.heap.size) hg4 (fun j e => by injection e with e; omega) hb3.size)
  have o4 := o2.below bd4
  have b14 := hb2.trans (bd4.mono hb2.size)
  have B4 := B1.trans (b14.mono B1.size)
  have N4 : NRd w4 w4.heap.size (some ⟨g0, 0, none⟩) n n (List.replicate n ⟨none, 0, 0, []⟩) := ⟨o4.rd, fun x hx => by rw [List.eq_of_mem_replicate hx]; exact RdM.nil _ _, fun x hx r hr => by rw [List.eq_of_mem_replicate hx] at hr; cases hr⟩
  have L4 : Hid (Nd.ls (List.replicate n ⟨none, 0, 0, []⟩) = List.replicate n []) := Lib.hid (by simp [Nd.ls])
  clear bd4 o2 o4 b14 hg4 hb3 bg3 hg3 hl3 hb2 B1 hg0
  obtain ⟨ns0, hns0⟩ : ∃ ns : List Nd, List.replicate n ⟨none, 0, 0, []⟩ = ns := ⟨_, rfl⟩
  rw [hns0] at N4 L4
  go_upto_region 6 with (first
    | ((with_reducible refine on_makeL _ ?_); refine wl_makeS (base := w4.heap.size) rfl _ _ _ rfl el_row (f := sv) ⟨none, 0, 0, []⟩ rfl n rfl rfl rfl rfl (by omega) (by omega) (Nat.le_refl _) ?_; intro g1 w5 hg1 o5 hb5)
    | ((with_reducible refine on_alloc ?_); refine wl_newBox rfl _ rfl z_net ?_; intro g9 w6 hg6 hl6 bg6 hb6)
    | ((with_reducible refine on_store_at (.tmp 9) ?_); refine wb_store (cs := #[.slice none 0 0]) (cs' := #[.slice (some ⟨g1, 0, none⟩) n n]) rfl _ (.tmp 9) _ rfl st_net rfl rfl bg6 rfl rfl (by simp [Value.oneCell']) ?_; intro w7 bx7 hg7))
  have l5 := o5.lt.2
  have bd7 := hb6.trans (below_of_grown (B := w5.heap.size) hg7 (fun j e => by injection e with e; omega) hb6.size)
  have o7 := o5.below bd7
  have b47 := hb5.trans (bd7.mono hb5.size)
  have hne : g9 ≠ g1 := by omega
  have O7 : NO 33 40 w7 w4.heap.size (some ⟨g1, 0, none⟩) n n (List.replicate n ⟨none, 0, 0, []⟩) := ⟨o7, fun x hx => by rw [List.eq_of_mem_replicate hx]; exact OwM.nil_ _ _ _, fun x hx r hr => by rw [List.eq_of_mem_replicate hx] at hr; cases hr⟩
  have L7 : Hid (Nd.ls (List.replicate n ⟨none, 0, 0, []⟩) = List.replicate 0 [dRu] ++ List.replicate (n - 0) []) := Lib.hid (by simp [Nd.ls])
  clear bd7 o5 o7 hg7 hb6 bg6 hg6 hl6 hb5 hg1 hns0 l5
  go_wp2
  go_loopw [10] (fun i wr => PnRel n g1 g9 w4 i wr) (fun i _ => n - (intOf i).toNat)
  case atStart => exact ⟨0, _, by omega, rfl, O7, L7, bx7, b47⟩
  case round =>
    obtain ⟨i, ns, hi, rfl, no, Hl, bx, hb⟩ := hrel
    by_cases hlt : i < n
    · have cn : wr.cell? ⟨g9, 0, none⟩ = some (.slice (some ⟨g1, 0, none⟩) n n) := bx.cell 0
      obtain ⟨w8, hw8⟩ : ∃ W, wr.alloc (.cells #[.int .u32 0, .int .i64 0, .int .i64 2, .int .i64 0] 40) = W := ⟨_, rfl⟩
      have k8 : Below wr.heap.size wr w8 := by rw [← hw8]; exact below_alloc wr (Nat.le_refl _) _
      have o8 : OwM Ru.cs 4 w8 w4.heap.size 40 (some ⟨wr.heap.size, 0, none⟩) 1 1 [dRu] := by rw [← hw8]; exact OwM.lit Ru.cs_length wr #[.int .u32 0, .int .i64 0, .int .i64 2, .int .i64 0] 1 hb.size (by simp [maxLen]) rfl rfl
      have no8 := no.below k8
      have bx8 := bx.step k8
      have cn8 : w8.cell? ⟨g9, 0, none⟩ = some (.slice (some ⟨g1, 0, none⟩) n n) := bx8.cell 0
      have Hn8 := Lib.hid (rep_set n i [dRu] ([] : List Ru) hlt)
      clear no bx
      go_wp2_with (first
        | ((with_reducible refine on_index (.tmp 46) ?_); refine wl_placeS rfl _ (.tmp 46) _ rfl el_row rfl rfl i ⟨rfl, hlt⟩ ?_)
        | ((with_reducible refine on_store_at (.tmp 50) ?_); refine wl_setV rfl _ (.tmp 50) _ rfl size_row rfl ⟨some ⟨wr.heap.size, 0, none⟩, 1, 1, [dRu]⟩ rfl no8.row hlt ?_; intro w9 o9 hg9 hb9))
      have no9 := no8.put ty_rows o8 (fun r hr => by rw [List.mem_singleton.1 hr]; exact dRu_ok) hg9 o9
      have b9 := (hb.trans (k8.mono hb.size)).trans hb9
      have bx9 := bx8.grown hg9 (fun e => by injection e with e; exact hne e.symm)
      have L9 : Hid (Nd.ls (ns.set i ⟨some ⟨wr.heap.size, 0, none⟩, 1, 1, [dRu]⟩) = List.replicate (i + 1) [dRu] ++ List.replicate (n - (i + 1)) []) := Lib.hid (by rw [Nd.ls_set, Hl.out]; exact Hn8.out)
      clear no8 bx8 cn8 k8 hw8 o8 Hl Hn8 hb
      go_roundw
      case rel => exact ⟨i + 1, _, by omega, by go_num, no9, L9, bx9, b9⟩
      case measure => simp [intOf]; omega
    · obtain rfl : i = n := by omega
      have Lr : Hid (Nd.ls ns = List.replicate i [dRu]) := Lib.hid (by rw [Hl.out, Nat.sub_self]; simp)
      have N4r := (N4.below hb).more hb.size
      have b8r := bx4.below hb bx4.lt
      have hne2 : g9 ≠ g1 := hne
      have G1 : GNet wr (some ⟨g0, 0, none⟩) i i ns0 := GNet.mk' N4r (by omega) (fun l hl => by rw [L4.out] at hl; rw [List.eq_of_mem_replicate hl]; simp)
      have G2 : GNet wr (some ⟨g1, 0, none⟩) i i ns := GNet.mk' no.rd (by omega) (fun l hl => by rw [Lr.out] at hl; rw [List.eq_of_mem_replicate hl]; simp)
      have S1 : Hid (nstep (Nd.ls ns0) a v = (0, false)) := Lib.hid (by rw [L4.out]; exact still (none_still i) v)
      have S2 : Hid (nstep (Nd.ls ns) a v = (0, false)) := Lib.hid (by rw [Lr.out]; exact still (ends_still i) v)
      clear N4r
      clear Hl
      go_upto_region 11 with (first
        | ((with_reducible refine on_load (.tmp 8) ?_); refine wb_load rfl _ (.tmp 8) rfl st_net rfl b8r rfl ?_)
        | (go_at_call 13; refine (G1.stp a _ ha 0 false S1).mono ?_; rintro e p1 ⟨rfl, hp1⟩))
      have G1 := G1.step hp1
      have G2 := G2.step hp1
      have no := no.below hp1
      have bx := bx.step hp1
      have b8r := b8r.step hp1
      have hb := hb.trans (hp1.mono hb.size)
      clear hp1
      go_upto_region 12 with (first
        | ((with_reducible refine on_load (.tmp 9) ?_); refine wb_load rfl _ (.tmp 9) rfl st_net rfl bx rfl ?_)
        | (go_at_call 13; refine (G2.stp a _ ha 0 false S2).mono ?_; rintro e p2 ⟨rfl, hp2⟩))
      have G1 := G1.step hp2
      have G2 := G2.step hp2
      have no := no.below hp2
      have bx := bx.step hp2
      have b8r := b8r.step hp2
      have hb := hb.trans (hp2.mono hb.size)
      clear hp2
      go_upto_region 13 with (first
        | ((with_reducible refine on_load (.tmp 8) ?_); refine wb_load rfl _ (.tmp 8) rfl st_net rfl b8r rfl ?_)
        | (go_at_call 15; refine (G1.loop a ha).mono ?_; rintro e p3 ⟨Al, nl, cl, l, ok, rfl, rl, hp3, han⟩))
      obtain ⟨rfl, _⟩ : ok = false ∧ l = [] := still_ans (by rw [L4.out]; exact none_still i) han
      have G1 := G1.step hp3
      have G2 := G2.step hp3
      have no := no.below hp3
      have bx := bx.step hp3
      have b8r := b8r.step hp3
      have hb := hb.trans (hp3.mono hb.size)
      clear hp3 han rl
      go_upto_region 14 with (first
        | ((with_reducible refine on_load (.tmp 9) ?_); refine wb_load rfl _ (.tmp 9) rfl st_net rfl bx rfl ?_)
        | (go_at_call 15; refine (G2.loop a ha).mono ?_; rintro e p4 ⟨Am, nm, cm, m, ok2, rfl, rm, hp4, han⟩))
      obtain ⟨rfl, _⟩ : ok2 = false ∧ m = [] := still_ans (by rw [Lr.out]; exact ends_still i) han
      have G1 := G1.step hp4
      have no := no.below hp4
      have bx := bx.step hp4
      have b8r := b8r.step hp4
      have hb := hb.trans (hp4.mono hb.size)
      have hbz : w4.heap.size ≤ p4.heap.size := by have := no.row.lt; omega
      clear hp4 han rm G2
      have cn : p4.cell? ⟨g9, 0, none⟩ = some (.slice (some ⟨g1, 0, none⟩) i i) := bx.cell 0
      obtain ⟨w8, hw8⟩ : ∃ W, p4.alloc (.cells #[.int .u32 0, .int .i64 0, .int .i64 1, .int .i64 (v : Int)] 40) = W := ⟨_, rfl⟩
      have k8 : Below p4.heap.size p4 w8 := by rw [← hw8]; exact below_alloc p4 (Nat.le_refl _) _
      have o8 : OwM Ru.cs 4 w8 w4.heap.size 40 (some ⟨p4.heap.size, 0, none⟩) 1 1 [sRu v] := by rw [← hw8]; exact OwM.lit Ru.cs_length p4 #[.int .u32 0, .int .i64 0, .int .i64 1, .int .i64 (v : Int)] 1 hbz (by simp [maxLen]) rfl rfl
      have no8 := no.below k8
      have bx8 := bx.step k8
      clear no bx
      go_upto_region 15 with (first
        | ((with_reducible refine on_index (.tmp 78) ?_); refine wl_placeS rfl _ (.tmp 78) _ rfl el_row rfl rfl v ⟨rfl, hvn⟩ ?_)
        | ((with_reducible refine on_store_at (.tmp 83) ?_); refine wl_setV rfl _ (.tmp 83) _ rfl size_row rfl ⟨some ⟨p4.heap.size, 0, none⟩, 1, 1, [sRu v]⟩ rfl no8.row hvn ?_; intro w9 o9 hg9 hb9))
      have no9 := no8.put ty_rows o8 (fun r hr => by rw [List.mem_singleton.1 hr]; exact sRu_ok (by omega)) hg9 o9
      have hb := (hb.trans (k8.mono hb.size)).trans hb9
      have bx9 := bx8.grown hg9 (fun e => by injection e with e; exact hne e.symm)
      have L9 : Hid (Nd.ls (ns.set v ⟨some ⟨p4.heap.size, 0, none⟩, 1, 1, [sRu v]⟩) = (List.replicate i [dRu]).set v [sRu v]) := Lib.hid (by rw [Nd.ls_set, Lr.out])
      obtain ⟨ms, hms⟩ : ∃ ms, ns.set v ⟨some ⟨p4.heap.size, 0, none⟩, 1, 1, [sRu v]⟩ = ms := ⟨_, rfl⟩
      rw [hms] at no9 L9
      have G3 : GNet w9 (some ⟨g1, 0, none⟩) i i ms := GNet.mk' no9.rd (by omega) (fun l hl => by
        rw [L9.out] at hl
        rcases List.mem_or_eq_of_mem_set hl with h | h
        · rw [List.eq_of_mem_replicate h]; simp
        · rw [h]; simp)
      have G0 : GNet w9 (some ⟨g0, 0, none⟩) i i ns0 := GNet.mk' ((N4.below hb).more hb.size) (by omega) (fun l hl => by rw [L4.out] at hl; rw [List.eq_of_mem_replicate hl]; simp)
      have b89 := bx4.below hb bx4.lt
      have Sv := Lib.hid (self_net hvn ha)
      have Mv := Lib.hid (self_may hvn (by omega))
      have Mn := Lib.hid (none_may (n := i) (by omega))
      have Wv : Hid (walkT (Nd.ls ms) a v 200 = ((v : Int), true)) := Lib.hid (by
        rw [L9.out]
        have := walkT_in (K := 200) (ls := (List.replicate i [dRu]).set v [sRu v]) (a := a) (v := (v : Int)) (by simp; omega) (by omega)
        rw [show ((200 : Nat) : Int) = 200 from rfl] at this
        rw [this]
        exact self_walk Sv.out.1 200)
      have Br := B4.trans (hb.mono B4.size)
      clear G1 b8r no9 hms o8 hw8 k8 no8 bx8 cn o9 hg9 hb9 S1 S2 Lr hbz N4 bx4 hb B4
      go_upto_region 16 with (first
        | ((with_reducible refine on_load (.tmp 9) ?_); refine wb_load rfl _ (.tmp 9) rfl st_net rfl bx9 rfl ?_)
        | (go_at_call 15; refine (G3.loop a ha).mono ?_; rintro e p5 ⟨Aq, nq, cq, q, ok3, rfl, rq, hp5, han⟩))
      obtain ⟨rfl, rfl⟩ : ok3 = true ∧ q = [(v : Int)] := self_ans (by rw [L9.out]; exact Sv.out.1) (by rw [L9.out]; exact Sv.out.2) (by omega) (by omega) han
      have G3 := G3.step hp5
      have G0 := G0.step hp5
      have bx9 := bx9.step hp5
      have b89 := b89.step hp5
      have Br := Br.trans (hp5.mono Br.size)
      have hq1 : nq = 1 := by have := rq.len; simpa using this.symm
      subst hq1
      clear hp5 han
      go_upto_region 17 with (first
        | ((with_reducible refine on_load (.tmp 9) ?_); refine wb_load rfl _ (.tmp 9) rfl st_net rfl bx9 rfl ?_)
        | (go_at_call 12; refine (G3.walk a _ _ ha v true Wv).mono ?_; rintro e p6 ⟨rfl, hp6⟩))
      have k7 := below_alloc p6 (Nat.le_refl _) (.cells #[.int .i64 (v : Int)] 3)
      have o7 : OwS iv (p6.alloc (.cells #[.int .i64 (v : Int)] 3)) p6.heap.size 3 (some ⟨p6.heap.size, 0, none⟩) 1 1 [(v : Int)] := OwS.lit p6 #[.int .i64 (v : Int)] 1 (Nat.le_refl _) (by simp [maxLen]) rfl rfl
      have G3 := (G3.step hp6).step k7
      have G0 := (G0.step hp6).step k7
      have bx9 := (bx9.step hp6).step k7
      have b89 := (b89.step hp6).step k7
      have rq := (rq.step hp6).step k7
      have Br := (Br.trans (hp6.mono Br.size))
      have Br := Br.trans (k7.mono Br.size)
      have hvv : ((v : Int) == (v : Int)) = true := by simp
      clear hp6 k7
      go_wp2_with (first
        | (go_at_call 16; refine (row_any _ _ _ _ _ _ [(v : Int)] [(v : Int)] _ (by omega) (by omega) _ _ rq o7.rd true (Lib.hid (by simp))).mono ?_; rintro e p8 ⟨rfl, hp8⟩; have bx9 := bx9.step hp8; have G3 := G3.step hp8; have b89 := b89.step hp8; have G0 := G0.step hp8)
        | ((with_reducible refine on_load (.tmp 9) ?_); refine wb_load rfl _ (.tmp 9) rfl st_net rfl bx9 rfl ?_)
        | ((with_reducible refine on_load (.tmp 8) ?_); refine wb_load rfl _ (.tmp 8) rfl st_net rfl b89 rfl ?_)
        | (go_at_call 18; (with_reducible refine (G3.may (by rw [L9.out]; have := Mv.out.2; omega) 0 (by rw [L9.out]; exact Mv.out.1)).mono ?_); rintro e p9 ⟨rfl, hp9⟩; have b89 := b89.step hp9; have G0 := G0.step hp9)
        | (go_at_call 18; (with_reducible refine (G0.may (by rw [L4.out]; have := Mn.out.2; omega) 0 (by rw [L4.out]; exact Mn.out.1)).mono ?_); rintro e p10 ⟨rfl, hp10⟩))
      have B8 := Br.trans (hp8.mono Br.size)
      have B9 := B8.trans (hp9.mono B8.size)
      have B10 := B9.trans (hp10.mono B9.size)
      go_ret
      exact ⟨rfl, B10⟩
end Go.Proofs.Ytdmkiejaejlajaa
