/-
  theseustop.TopGuards, walked.
-/
import Derived.Test.YtjandnidljbkoaaGreatGTpGuEnd
namespace Go.Proofs.YtjandnidljbkoaaGreat
open Go.RowKit Go.Th
set_option linter.unusedVariables false
def InnR (r : Ru) (l : List Ru) (k : Nat) : Prop := ∃ y ∈ l.take k, r.n < y.n ∧ Th.holds r.a r.n y.a = true
def InRelG (r x : Ru) (gx : Nat) (l : List Ru) (W : World) (s i : Value) (wr : World) : Prop :=
  ∃ (k : Nat) (b : Bool), k ≤ l.length ∧ i = .int .i64 k ∧ s = .bool b ∧ Hid (b = true ↔ InnR r l k) ∧ Box wr gx 52 #[.int .u32 x.a, .int .i64 x.n, .int .i64 x.act, .int .i64 x.next] ∧ Below W.heap.size W wr
theorem innR_more {r y : Ru} {l : List Ru} {k : Nat} (hy : l[k]? = some y) : InnR r l (k + 1) ↔ InnR r l k ∨ (r.n < y.n ∧ Th.holds r.a r.n y.a = true) := by
  unfold InnR
  rw [take_more hy]
  constructor
  · rintro ⟨z, hz, h⟩
    rcases List.mem_append.1 hz with hz | hz
    · exact .inl ⟨z, hz, h⟩
    · rw [List.mem_singleton.1 hz] at h; exact .inr h
  · rintro (⟨z, hz, h⟩ | h)
    · exact ⟨z, List.mem_append_left _ hz, h⟩
    · exact ⟨y, by simp, h⟩
set_option maxRecDepth 100000 in
set_option maxHeartbeats 8000000 in
theorem topGuards_walk {w : World} (A : Option Addr) (n c : Nat) (ns : List Nd) (ni : NetIn w A n c ns) (zs : List Int) (hl : zs.length = 2) (hz : ∀ z ∈ zs, 0 ≤ z ∧ z ≤ 255) (a : Int) (ha : 0 ≤ a ∧ a ≤ 4294967295) :
    Calls Tryz.prog 6 #[.agg #[.slice A n c], .agg (zs.map (Value.int .u8)).toArray, .int .u32 a] w fun e w' => e = .returned (.bool true) ∧ Below w.heap.size w w' := by
  obtain ⟨q0, q1, rfl⟩ : ∃ x y, zs = [x, y] := by
    match zs, hl with
    | [x, y], _ => exact ⟨x, y, rfl⟩
  have hq0 := hz q0 (by simp)
  have hq1 := hz q1 (by simp)
  obtain ⟨q0, rfl⟩ := Int.eq_ofNat_of_zero_le hq0.1
  obtain ⟨q1, rfl⟩ := Int.eq_ofNat_of_zero_le hq1.1
  show Calls Tryz.prog 6 #[.agg #[.slice A n c], .agg #[.int .u8 (q0 : Nat), .int .u8 (q1 : Nat)], .int .u32 a] w fun e w' => e = .returned (.bool true) ∧ Below w.heap.size w w'
  have K1 := Lib.hid (made_any A n c ns w ni)
  clear ni hz hl
  have k0 : Below w.heap.size w (w.alloc (.cells #[.slice A n c] 34)) := below_alloc w (Nat.le_refl _) _
  have b0 := Box.new w #[.slice A n c] 34
  obtain ⟨w0, hw0⟩ : ∃ W, w.alloc (.cells #[.slice A n c] 34) = W := ⟨_, rfl⟩
  rw [hw0] at k0 b0
  have k00 : Below w.heap.size w (w0.alloc (.cells #[.int .u8 (q0 : Nat), .int .u8 (q1 : Nat)] 73)) := k0.trans (below_alloc w0 k0.size _)
  have b00 := Box.new w0 #[.int .u8 (q0 : Nat), .int .u8 (q1 : Nat)] 73
  have b01 := b0.alloc (.cells #[.int .u8 (q0 : Nat), .int .u8 (q1 : Nat)] 73)
  obtain ⟨w00, hw00⟩ : ∃ W, w0.alloc (.cells #[.int .u8 (q0 : Nat), .int .u8 (q1 : Nat)] 73) = W := ⟨_, rfl⟩
  rw [hw00] at k00 b00 b01
  have gg0 : w.heap.size < w0.heap.size := b0.lt
  obtain ⟨gk, hgk⟩ : ∃ g, w0.heap.size = g := ⟨_, rfl⟩
  rw [hgk] at b00 gg0
  go_enter Tryz.func6, Tryz.ntmps6
  go_upto_region 1 with fail
  clear hw0 hw00 hgk k0 b0
  go_upto_region 2 with (go_at_call 7; refine (shown_any _).mono ?_; rintro e w1 ⟨rfl, hb1⟩; have bx1 := b01.step hb1; have bk1 := b00.step hb1)
  have B1 := k00.trans (hb1.mono k00.size)
  clear k00 b00 b01 hb1
  go_upto_region 3 with (first
    | ((with_reducible refine on_load (.tmp 3) ?_); refine wb_load rfl _ (.tmp 3) rfl st_net rfl bx1 rfl ?_)
    | (go_at_call 15; refine (K1.out _ B1).mono ?_; rintro e w2 ⟨Aa, na, ca, nsa, rfl, hra, oka, sma, nba, hb2⟩)
    | ((with_reducible refine on_alloc ?_); refine wl_newBox rfl _ rfl z_net ?_; intro ga w3 hg3 hl3 bg3 hb3)
    | ((with_reducible refine on_store_at (.tmp 8) ?_); refine wb_store (cs := #[.slice none 0 0]) (cs' := #[.slice Aa na ca]) rfl _ (.tmp 8) _ rfl st_net rfl rfl bg3 rfl rfl (by simp [Value.oneCell']) ?_; intro w4 bx4 hg4))
  have bd4 := hb3.trans (below_of_grown (B := w2.heap.size) hg4 (fun j e => by injection e with e; omega) hb3.size)
  have M4 : TBox w4 ga Aa na ca nsa := ⟨bx4, (hra.step bd4).heap, oka.may, sma, nba⟩
  have b14 := hb2.trans (bd4.mono hb2.size)
  have bk4 := bk1.step b14
  have B4 := B1.trans (b14.mono B1.size)
  clear bd4 b14 bx4 hra oka sma nba hg4 hb3 bg3 hg3 hl3 hb2 B1 bx1 K1 bk1
  have hnb := M4.nb
  have y0 : w4.cell? ⟨ga, 0, none⟩ = some (.slice Aa na ca) := M4.box.cell 0
  have yk0 : w4.cell? ⟨gk, 0, none⟩ = some (.int .u8 (q0 : Nat)) := bk4.cell 0
  have yk1 : w4.cell? ⟨gk, 1, none⟩ = some (.int .u8 (q1 : Nat)) := bk4.cell 1
  have hdv : (q0 : Int).tmod (na : Int) = ((q0 % na : Nat) : Int) := by rw [Int.tmod_eq_emod_of_nonneg (by omega)]; omega
  have hvn : q0 % na < na := Nat.mod_lt _ (by omega)
  obtain ⟨v, hv⟩ : ∃ v, q0 % na = v := ⟨_, rfl⟩
  rw [hv] at hdv hvn
  have hdv2 : ((q0 % na : Nat) : Int) = (v : Int) := by rw [hv]
  have hdv3 : (q0 : Int) % (na : Int) = (v : Int) := by rw [← hv]; rfl
  obtain ⟨nd, hnd⟩ : ∃ nd, nsa[v]? = some nd := ⟨nsa[v]'(by have := M4.rd.len; omega), List.getElem?_eq_getElem _⟩
  have hmem := List.mem_of_getElem? hnd
  have hml : nd.l ∈ Nd.ls nsa := List.mem_map.2 ⟨nd, hmem, rfl⟩
  have hlv : (Nd.ls nsa)[v]? = some nd.l := Nd.ls_get hnd
  have hsm := M4.small nd hmem
  have hrow := M4.rd.rk nd hmem
  have hlen := hrow.len
  have hN := M4.net
  have hgood := hN.good nd.l hml
  obtain ⟨r, ok, hf⟩ : ∃ r ok, tfind nd.l a = (r, ok) := ⟨_, _, rfl⟩
  have K3 := Lib.hid (find_any nd.A nd.n nd.c nd.l a w4 (by omega) _ hrow (fun r hr => (hgood.pre r hr).ok) ha)
  rw [hf] at K3
  have Hnd := Lib.hid hnd
  have Hmem := Lib.hid hmem
  have Hlv := Lib.hid hlv
  have Hgood := Lib.hid hgood
  have HN := Lib.hid hN
  have Hf := Lib.hid hf
  have rrow := M4.rd.rd
  clear hnd hmem hml hlv hrow hN hgood hf hv hdv2
  go_upto_region 5 with (first
    | ((with_reducible refine on_index (.tmp 36) ?_); refine wn_at rfl _ (.tmp 36) _ rfl el_row rfl rfl (by omega) (by omega) rrow ?_; intro b2 j2 y2 hy2 hbB2 hc2; have hxx : nd = y2 := get_eq Hnd.out hy2.out (by omega); subst hxx)
    | (go_at_call 17; refine (K3.out).mono ?_; rintro e w6 ⟨rfl, hb6⟩)
    | ((with_reducible refine on_alloc ?_); refine wl_newBox rfl _ rfl z_rule ?_; intro gr w7 hgr hlr bgr hb7)
    | ((with_reducible refine on_store_at (.tmp 10) ?_); refine wb_store (cs := #[.int .u32 0, .int .i64 0, .int .i64 0, .int .i64 0]) (cs' := #[.int .u32 r.a, .int .i64 r.n, .int .i64 r.act, .int .i64 r.next]) rfl _ (.tmp 10) _ rfl st_rule rfl rfl bgr rfl rfl (by simp [Value.oneCell']) ?_; intro w8 br8 hg8))
  have K8 : Below w4.heap.size w4 w8 := hb6.trans ((hb7.mono hb6.size).trans (below_of_grown (B := w4.heap.size) hg8 (fun j e => by injection e with e; have := hb6.size; omega) (by have := hb6.size; have := hb7.size; omega)))
  have M8 := M4.step K8
  have bk8 := bk4.step K8
  have B8 := B4.trans (K8.mono B4.size)
  clear hb6 hb7 hg8 bgr hgr hlr K3 K8 M4 bk4 B4 y0 yk0 yk1 rrow hdv hdv3
  have z1 : w8.cell? ⟨gr, 1, none⟩ = some (.int .i64 r.n) := br8.cell 1
  cases ok with
  | false =>
    go_wp2
    go_ret
    exact ⟨rfl, B8⟩
  | true =>
    have hbest : r ∈ nd.l := by
      have := tfind_best nd.l a
      rw [Hf.out] at this
      exact (this.2 rfl).1
    have hrp := Hgood.out.pre r hbest
    have hr0 := hrp.n0
    have hr1 := hrp.n1
    by_cases h32 : r.n = 32
    · have hd : (r.n == 32) = true := by simpa using h32
      go_wp2
      go_ret
      exact ⟨rfl, B8⟩
    · have hd : (r.n == 32) = false := by simpa using h32
      go_upto_region 7 with fail
      obtain ⟨t, ht⟩ : ∃ t, (q1 : Int).tmod (32 - r.n) = t := ⟨_, rfl⟩
      have ht2 : (q1 : Int) % (32 - r.n) = t := by rw [← ht, Int.tmod_eq_emod_of_nonneg (by omega)]
      have htb : 0 ≤ t ∧ t < 32 - r.n := by
        rw [← ht2]
        exact ⟨Int.emod_nonneg _ (by omega), Int.emod_lt_of_pos _ (by omega)⟩
      have hne : 32 - r.n ≠ 0 := by omega
      have f1 : ∀ q : Step w8.heap.size w8, q.w.cell? ⟨gr, 1, none⟩ = some (.int .i64 r.n) := fun q => (br8.step q.h).cell 1
      have f2 : ∀ q : Step w8.heap.size w8, q.w.cell? ⟨gk, 1, none⟩ = some (.int .u8 (q1 : Nat)) := fun q => (bk8.step q.h).cell 1
      refine wp_region_reach (by kernel_rfl) (by kernel_rfl) ?_
      repeat (first | go_big_quiet_skip | go_big_quiet_step (fail) | quiet_step (fail))
      refine wpQuiet_nil ?_
      rintro _ ⟨q, rfl⟩
      have hqw9 := q.h
      obtain ⟨w9, hw9'⟩ : ∃ W, q.w = W := ⟨_, rfl⟩
      rw [hw9'] at hqw9 ⊢
      clear hw9' q
      go_upto_region 8 with fail
      have B9 := B8.trans (hqw9.mono B8.size)
      have M9 := M8.step hqw9
      have br9 := br8.step hqw9
      obtain ⟨m, hm⟩ : ∃ m, r.n + 1 + t = m := ⟨_, rfl⟩
      rw [hm]
      have hmb : r.n < m ∧ m ≤ 32 := by omega
      clear ht ht2 htb hm hne f1 f2 hqw9 M8 br8 z1 B8 bk8
      have KM := Lib.hid (fun W => mask_any m W (by omega))
      have hla := lead_and a m ha
      obtain ⟨mk, hmk⟩ : ∃ k, maskN m = k := ⟨_, rfl⟩
      rw [hmk] at KM hla
      clear hmk
      have Hla := Lib.hid hla
      clear hla
      have f2 : ∀ q : Step w9.heap.size w9.drew, q.w.cell? ⟨gr, 2, none⟩ = some (.int .i64 r.act) := fun q => (br9.drew.step q.h).cell 2
      have f3 : ∀ q : Step w9.heap.size w9.drew, q.w.cell? ⟨gr, 3, none⟩ = some (.int .i64 r.next) := fun q => (br9.drew.step q.h).cell 3
      go_cut [13] from 63 to 72 (fun s13 wx => ∃ gx : Nat, s13 = .pointer (some ⟨gx, 0, none⟩) ∧ w9.heap.size ≤ gx ∧ Box wx gx 52 #[.int .u32 (lead a m), .int .i64 m, .int .i64 r.act, .int .i64 r.next] ∧ Below w9.heap.size w9 wx)
      case first =>
        have kD : w9.heap.size ≤ w9.drew.heap.size := Nat.le_refl _
        refine wp_region_tree (.float 0 2 (.float 4 5 (.two 2 (.float 3 1 (.float 9 1 (.one 10 (.one 11 .done)))) 10 (.one 2 (.float 3 1 (.float 9 1 (.one 11 .done))))))) (Th.Reach w9.heap.size) (Th.Reach.trans _) (Th.Reach.refl _) (by kernel_rfl) (by kernel_rfl) (fun KT hKT => ?_)
        repeat' first
          | ((with_reducible refine wpTree_done ?_); refine hKT _ _ ?_; clear hKT KT)
          | (with_reducible refine wpTree_two ?_ ?_)
          | ((with_reducible refine wpTree_float (fun KF hKF => ?_)); (simp only [List.drop, List.take]); (repeat (first | go_big_quiet_skip | go_big_quiet_step (fail) | quiet_step (fail))); refine wpQuiet_nil ?_; refine hKF _ ?_; clear hKF KF)
          | ((with_reducible refine wpTree_one (fun KO hKO => ?_)); (simp only [List.drop, List.take]); (go_wp2_with (first | (go_at_call 29; refine (KM.out _).mono ?_; rintro e wM ⟨rfl, rfl⟩) | ((with_reducible refine on_alloc ?_); refine wl_newBox rfl _ rfl z_rule ?_; intro gA wA hgA hlA bgA hbA; have hbA2 : Below w9.heap.size w9.drew wA := hbA) | ((with_reducible refine on_store_at (.tmp 13) ?_); refine wb_store (cs := #[.int .u32 0, .int .i64 0, .int .i64 0, .int .i64 0]) (cs' := #[.int .u32 (bits .and .u32 a (mk : Nat)), .int .i64 m, .int .i64 r.act, .int .i64 r.next]) rfl _ (.tmp 13) _ rfl st_rule rfl rfl bgA rfl rfl (by simp [Value.oneCell']) ?_; intro wB bB hgB; have hbB : Below w9.heap.size wA wB := below_of_grown (B := w9.heap.size) hgB (fun j e => by injection e with e; omega) hbA2.size))); (refine anch_end (Th.Reach.of (by first | exact Below.refl _ _ | exact below_alloc _ (by first | omega | (simp; done) | (simp; omega)) _ | exact below_alloc2 _ (by first | omega | (simp; done) | (simp; omega)) _ _ | exact below_alloc2d _ (by simp) _ _ | exact bdrew _ _ | assumption | (exact Below.mono (by assumption) (by first | (simp; done) | (simp; omega) | omega | assumption)))) (hKO _ _ ?_)); clear hKO KO)
        all_goals
          have fin := Lib.hid (show ∃ gx : Nat, Value.pointer (some ⟨gA, 0, none⟩) = .pointer (some ⟨gx, 0, none⟩) ∧ w9.heap.size ≤ gx ∧ Box wB gx 52 #[.int .u32 (lead a m), .int .i64 m, .int .i64 r.act, .int .i64 r.next] ∧ Below w9.heap.size w9 wB from ⟨gA, rfl, by have := kD; omega, by rw [← Hla.out]; exact bB, ((bdrew1 w9).trans hbA2).trans hbB⟩)
          first
            | (refine Met.intro ?_; go_step; exact ⟨_, _, _, _, _, _, _, _, _, _, _, fin.out, rfl⟩)
            | (go_wp2; refine Met.intro ?_; go_step; exact ⟨_, _, _, _, _, _, _, _, _, _, _, fin.out, rfl⟩)
      case rest =>
        obtain ⟨gx, rfl, hgx, bxx, hbx⟩ := hcut
        obtain ⟨x, hx⟩ : ∃ x : Ru, x = ⟨lead a m, m, r.act, r.next⟩ := ⟨_, rfl⟩
        have e1 : lead a m = x.a := by rw [hx]
        have e2 : m = x.n := by rw [hx]
        have e3 : r.act = x.act := by rw [hx]
        have e4 : r.next = x.next := by rw [hx]
        have bxx' := bxx
        rw [e1, e2, e3, e4] at bxx'
        clear e1 e2 e3 e4
        have HX := Lib.hid hx
        clear bxx hx Hla f2 f3 KM
        go_wp2
        go_loopw [14, 15] (fun s i wr => InRelG r x gx nd.l w9 s i wr) (fun _ i _ => nd.n - (intOf i).toNat)
        case atStart => exact ⟨0, false, by omega, rfl, rfl, Lib.hid ⟨(fun h => by cases h), fun ⟨y, hy, _⟩ => by simp at hy⟩, bxx', hbx⟩
        case round =>
          clear bxx' hbx
          obtain ⟨k, b, hk, rfl, rfl, hb, bx, hbw⟩ := hrel
          have M := M9.step hbw
          have br := br9.step hbw
          have rrow := M.rd.rd
          have y0 : wr.cell? ⟨ga, 0, none⟩ = some (.slice Aa na ca) := M.box.cell 0
          by_cases hlt : k < nd.n
          · obtain ⟨y, hy⟩ : ∃ y, nd.l[k]? = some y := ⟨nd.l[k]'(by omega), List.getElem?_eq_getElem _⟩
            have hyok := (Hgood.out.pre y (List.mem_of_getElem? hy)).ok
            have hmore := innR_more (r := r) hy
            have Hy := Lib.hid hy
            have Hmore := Lib.hid hmore
            have KH := Lib.hid (fun W => holds_any r.a r.n y.a W hrp.ok.a hrp.ok.n hyok.a)
            have q1 := rrow.reach
            have q2 := (M.rd.rk nd Hmem.out).reach
            have ca : ∀ q : Step wr.heap.size wr, q.w.cell? ⟨ga, 0, none⟩ = some (.slice Aa na ca) := fun q => (M.box.step q.h).cell 0
            have cr0 : ∀ q : Step wr.heap.size wr, q.w.cell? ⟨gr, 0, none⟩ = some (.int .u32 r.a) := fun q => (br.step q.h).cell 0
            have cr1 : ∀ q : Step wr.heap.size wr, q.w.cell? ⟨gr, 1, none⟩ = some (.int .i64 r.n) := fun q => (br.step q.h).cell 1
            clear hy hmore
            go_upto_region 13 with ((with_reducible refine on_index (.tmp 75) ?_); refine wn_at rfl _ (.tmp 75) _ rfl el_row rfl rfl (by omega) (by omega) rrow ?_; intro b2 j2 y2 hy2 hbB2 hc2; have hxx : nd = y2 := get_eq Hnd.out hy2.out (by omega); subst hxx)
            cases b with
            | true =>
              refine wp_region_reach (by kernel_rfl) (by kernel_rfl) ?_
              repeat (first | go_big_quiet_skip | go_big_quiet_step (fail) | quiet_step (fail))
              refine wpQuiet_nil ?_
              rintro _ ⟨q, rfl⟩
              have hqwn := q.h
              obtain ⟨wn, hwn'⟩ : ∃ W, q.w = W := ⟨_, rfl⟩
              rw [hwn'] at hqwn ⊢
              clear hwn' q
              go_wp2
              go_roundw
              case rel => exact ⟨k + 1, true, by omega, by go_num, rfl, Lib.hid ⟨fun _ => Hmore.out.2 (.inl (hb.out.1 rfl)), fun _ => rfl⟩, bx.step hqwn, hbw.trans (hqwn.mono hbw.size)⟩
              case measure => simp [intOf]; omega
            | false =>
              have hno : ¬ InnR r nd.l k := fun h => by have := hb.out.2 h; cases this
              by_cases hgt : r.n < y.n
              · have hd : decide (r.n < y.n) = true := decide_eq_true hgt
                obtain ⟨hv, hhv⟩ : ∃ b, Th.holds r.a r.n y.a = b := ⟨_, rfl⟩
                rw [hhv] at KH
                have Hhv := Lib.hid hhv
                clear hhv
                refine wp_region_reach (by kernel_rfl) (by kernel_rfl) ?_
                repeat (first | go_big_quiet_skip | ((with_reducible refine onq_index (.tmp 86) ?_); refine wqn_at rfl _ (.tmp 86) _ rfl el_row rfl rfl (by omega) (by omega) (Th.Reach.refl _ _) (fun w' hw => q1.rd w' hw) ?_; intro b5 j5 x5 hr5 hc5; have hxx := get_eq Hnd.out hr5.out (by omega); subst hxx; have f5 : ∀ q : Step wr.heap.size wr, q.w.cell? ⟨b5, j5, none⟩ = some (.slice nd.A nd.n nd.c) := fun q => hc5.out q.w ⟨q, rfl⟩) | ((with_reducible refine onq_index (.tmp 89) ?_); refine wqr_at rfl _ (.tmp 89) _ rfl el_rule rfl rfl (by omega) (by omega) (Th.Reach.refl _ _) q2 ?_; intro b6 j6 t6 ht6 hcb6; have hxx := get_eq Hy.out ht6.out (by omega); subst hxx; have g6a : ∀ q : Step _ _, q.w.cell? ⟨b6, j6, none⟩ = some (.int .u32 y.a) := fun q => hcb6.out q.w ⟨q, rfl⟩ 0 _ rfl; have g6n : ∀ q : Step _ _, q.w.cell? ⟨b6, j6 + 1, none⟩ = some (.int .i64 y.n) := fun q => hcb6.out q.w ⟨q, rfl⟩ 1 _ rfl) | ((with_reducible refine onq_index (.tmp 103) ?_); refine wqn_at rfl _ (.tmp 103) _ rfl el_row rfl rfl (by omega) (by omega) (Th.Reach.refl _ _) (fun w' hw => q1.rd w' hw) ?_; intro b7 j7 x7 hr7 hc7; have hxx := get_eq Hnd.out hr7.out (by omega); subst hxx; have f7 : ∀ q : Step wr.heap.size wr, q.w.cell? ⟨b7, j7, none⟩ = some (.slice nd.A nd.n nd.c) := fun q => hc7.out q.w ⟨q, rfl⟩) | ((with_reducible refine onq_index (.tmp 106) ?_); refine wqr_at rfl _ (.tmp 106) _ rfl el_rule rfl rfl (by omega) (by omega) (Th.Reach.refl _ _) q2 ?_; intro b8 j8 t8 ht8 hcb8; have hxx := get_eq Hy.out ht8.out (by omega); subst hxx; have g8a : ∀ q : Step _ _, q.w.cell? ⟨b8, j8, none⟩ = some (.int .u32 y.a) := fun q => hcb8.out q.w ⟨q, rfl⟩ 0 _ rfl; have g8n : ∀ q : Step _ _, q.w.cell? ⟨b8, j8 + 1, none⟩ = some (.int .i64 y.n) := fun q => hcb8.out q.w ⟨q, rfl⟩ 1 _ rfl) | go_big_quiet_step ((with_reducible exact Calls.reach_same (KH.out _))) | quiet_step ((with_reducible exact Calls.reach_same (KH.out _))))
                refine wpQuiet_nil ?_
                rintro _ ⟨q, rfl⟩
                have hqwn := q.h
                obtain ⟨wn, hwn'⟩ : ∃ W, q.w = W := ⟨_, rfl⟩
                rw [hwn'] at hqwn ⊢
                clear hwn' q
                go_wp2
                go_roundw
                case rel => exact ⟨k + 1, hv, by omega, by go_num, rfl, Lib.hid ⟨fun h => Hmore.out.2 (.inr ⟨hgt, by rw [Hhv.out]; exact h⟩), fun h => by
                  rcases Hmore.out.1 h with h | h
                  · exact absurd h hno
                  · rw [← Hhv.out]; exact h.2⟩, bx.step hqwn, hbw.trans (hqwn.mono hbw.size)⟩
                case measure => simp [intOf]; omega
              · have hd : decide (r.n < y.n) = false := decide_eq_false hgt
                refine wp_region_reach (by kernel_rfl) (by kernel_rfl) ?_
                repeat (first | go_big_quiet_skip | ((with_reducible refine onq_index (.tmp 86) ?_); refine wqn_at rfl _ (.tmp 86) _ rfl el_row rfl rfl (by omega) (by omega) (Th.Reach.refl _ _) (fun w' hw => q1.rd w' hw) ?_; intro b5 j5 x5 hr5 hc5; have hxx := get_eq Hnd.out hr5.out (by omega); subst hxx; have f5 : ∀ q : Step wr.heap.size wr, q.w.cell? ⟨b5, j5, none⟩ = some (.slice nd.A nd.n nd.c) := fun q => hc5.out q.w ⟨q, rfl⟩) | ((with_reducible refine onq_index (.tmp 89) ?_); refine wqr_at rfl _ (.tmp 89) _ rfl el_rule rfl rfl (by omega) (by omega) (Th.Reach.refl _ _) q2 ?_; intro b6 j6 t6 ht6 hcb6; have hxx := get_eq Hy.out ht6.out (by omega); subst hxx; have g6a : ∀ q : Step _ _, q.w.cell? ⟨b6, j6, none⟩ = some (.int .u32 y.a) := fun q => hcb6.out q.w ⟨q, rfl⟩ 0 _ rfl; have g6n : ∀ q : Step _ _, q.w.cell? ⟨b6, j6 + 1, none⟩ = some (.int .i64 y.n) := fun q => hcb6.out q.w ⟨q, rfl⟩ 1 _ rfl) | ((with_reducible refine onq_index (.tmp 103) ?_); refine wqn_at rfl _ (.tmp 103) _ rfl el_row rfl rfl (by omega) (by omega) (Th.Reach.refl _ _) (fun w' hw => q1.rd w' hw) ?_; intro b7 j7 x7 hr7 hc7; have hxx := get_eq Hnd.out hr7.out (by omega); subst hxx; have f7 : ∀ q : Step wr.heap.size wr, q.w.cell? ⟨b7, j7, none⟩ = some (.slice nd.A nd.n nd.c) := fun q => hc7.out q.w ⟨q, rfl⟩) | ((with_reducible refine onq_index (.tmp 106) ?_); refine wqr_at rfl _ (.tmp 106) _ rfl el_rule rfl rfl (by omega) (by omega) (Th.Reach.refl _ _) q2 ?_; intro b8 j8 t8 ht8 hcb8; have hxx := get_eq Hy.out ht8.out (by omega); subst hxx; have g8a : ∀ q : Step _ _, q.w.cell? ⟨b8, j8, none⟩ = some (.int .u32 y.a) := fun q => hcb8.out q.w ⟨q, rfl⟩ 0 _ rfl; have g8n : ∀ q : Step _ _, q.w.cell? ⟨b8, j8 + 1, none⟩ = some (.int .i64 y.n) := fun q => hcb8.out q.w ⟨q, rfl⟩ 1 _ rfl) | go_big_quiet_step (fail) | quiet_step (fail))
                refine wpQuiet_nil ?_
                rintro _ ⟨q, rfl⟩
                have hqwn := q.h
                obtain ⟨wn, hwn'⟩ : ∃ W, q.w = W := ⟨_, rfl⟩
                rw [hwn'] at hqwn ⊢
                clear hwn' q
                go_wp2
                go_roundw
                case rel => exact ⟨k + 1, false, by omega, by go_num, rfl, Lib.hid ⟨(fun h => by cases h), fun h => by
                  rcases Hmore.out.1 h with h | h
                  · exact absurd h hno
                  · exact absurd h.1 hgt⟩, bx.step hqwn, hbw.trans (hqwn.mono hbw.size)⟩
                case measure => simp [intOf]; omega
          · have hkn : k = nd.l.length := by omega
            cases b with
            | true =>
              go_wp2_with ((with_reducible refine on_index (.tmp 75) ?_); refine wn_at rfl _ (.tmp 75) _ rfl el_row rfl rfl (by omega) (by omega) rrow ?_; intro b2 j2 y2 hy2 hbB2 hc2; have hxx : nd = y2 := get_eq Hnd.out hy2.out (by omega); subst hxx)
              go_ret
              exact ⟨rfl, B9.trans (hbw.mono B9.size)⟩
            | false =>
              have hno : ∀ y ∈ nd.l, ¬ (r.n < y.n ∧ Th.holds r.a r.n y.a = true) := fun y hy h => by
                have : InnR r nd.l k := ⟨y, by rw [hkn, List.take_length]; exact hy, h⟩
                have := hb.out.2 this
                cases this
              have MC : MoreC nd.l r x a m := ⟨Hgood.out, ha, Hf.out, hmb, HX.out, hno⟩
              have HMC := Lib.hid MC
              clear MC hno hb hkn
              go_upto_region 16 with ((with_reducible refine on_index (.tmp 75) ?_); refine wn_at rfl _ (.tmp 75) _ rfl el_row rfl rfl (by omega) (by omega) rrow ?_; intro b2 j2 y2 hy2 hbB2 hc2; have hxx : nd = y2 := get_eq Hnd.out hy2.out (by omega); subst hxx)
              have o0 := OwS.lit (f := sv) (base := wr.heap.size) (e := 50) (xs := []) wr #[] 0 (Nat.le_refl _) (by simp [maxLen]) rfl rfl
              have ka := below_alloc wr (Nat.le_refl _) (.cells #[] 50)
              have ya : (wr.alloc (.cells #[] 50)).cell? ⟨ga, 0, none⟩ = some (.slice Aa na ca) := (M.step ka).box.cell 0
              have ra := (M.step ka).rd.rd
              have mlt := M.box.lt
              have rlt := br.lt
              have xlt := bx.lt
              go_upto_region 17 with (first
                | ((with_reducible refine on_append (.tmp 116) (.tmp 118) ?_); refine wl_appendS rfl (.tmp 116) (.tmp 118) _ rfl el_row (f := sv) sv_one rfl o0 rfl ra (by omega) (by omega) (by simp) ?_; intro An cn w5 on5 hg5 hb5; rw [Nat.zero_add] at on5 ⊢; rw [List.nil_append] at on5)
                | ((with_reducible refine on_alloc ?_); refine wl_newBox rfl _ rfl z_net ?_; intro gm w6 hg6 hl6 bg6 hb6)
                | ((with_reducible refine on_store_at (.tmp 16) ?_); refine wb_store (cs := #[.slice none 0 0]) (cs' := #[.slice An na cn]) rfl _ (.tmp 16) _ rfl st_net rfl rfl bg6 rfl rfl (by simp [Value.oneCell']) ?_; intro w7 bm7 hg7))
              have e7 : Below w5.heap.size w5 w7 := hb6.trans (below_of_grown (B := w5.heap.size) hg7 (fun j e => by injection e with e; omega) (by have := hb6.size; omega))
              have on7 := on5.below e7
              have ka5 : Below wr.heap.size wr w5 := ka.trans hb5
              have d7 : Below wr.heap.size wr w7 := ka5.trans (e7.mono ka5.size)
              obtain ⟨gw, rfl, hgw1, hgw2⟩ : ∃ gw, An = some ⟨gw, 0, none⟩ ∧ wr.heap.size ≤ gw ∧ gw < w5.heap.size := by
                rcases on5.ow.form with ⟨_, h0, _⟩ | ⟨g, h1, h2, h3⟩
                · omega
                · exact ⟨g, h1, h2, h3⟩
              have hgm : gw < gm := by omega
              clear hb6 hg7 bg6 hg6 hl6 on5 hg5 hb5 e7 ka5 o0 ka ya ra
              have cm7 : w7.cell? ⟨gm, 0, none⟩ = some (.slice (some ⟨gw, 0, none⟩) na cn) := bm7.cell 0
              go_upto_region 18 with (first
                | ((with_reducible refine on_index (.tmp 122) ?_); refine wl_placeS rfl _ (.tmp 122) _ rfl el_row rfl rfl v ⟨rfl, hvn⟩ ?_)
                | ((with_reducible refine on_store_at (.tmp 124) ?_); refine wl_setV rfl _ (.tmp 124) _ rfl size_row rfl ⟨none, 0, 0, []⟩ rfl on7 (j := v) hvn ?_; intro w8' on8 hg8 hb8))
              have d8 := d7.trans hb8
              have bm8 := bm7.grown hg8 (fun e => by injection e with e; omega)
              have hwk : ∃ W, W = wr := ⟨_, rfl⟩
              obtain ⟨wk, hwk⟩ := hwk
              rw [← hwk] at M br bx d8 on8 hgw1 mlt rlt xlt hbw
              clear hwk
              have B10 := B9.trans (hbw.mono B9.size)
              have hvl : v < nsa.length := by have := M.rd.len; omega
              clear hb8 hg8 bm7 cm7 on7 d7 hbw B9 M9 br9 hgx br rlt
              have nil0 := OwM.nil_ (f := Ru.cs) (k := 4) w8' (gm + 1) 52
              have hgmb : wk.heap.size ≤ gw ∧ gw < gm ∧ gx < wk.heap.size := ⟨hgw1, hgm, xlt⟩
              go_wp2
              go_loopw [17, 18] (fun s i wr => GuRel nsa v na cn gm gw gx wk.heap.size x nd.l wk s i wr) (fun _ i _ => nd.n - (intOf i).toNat)
              case atStart => exact ⟨0, false, ⟨none, 0, 0, []⟩, by omega, rfl, rfl, bm8, on8, nil0, Lib.hid (Gr.zero x nd.l), d8⟩
              case round =>
                clear bm8 on8 d8 nil0
                obtain ⟨j, put, yn, hj, rfl, rfl, bm, on, om, hgr, hbw⟩ := hrel
                have Mr := M.step hbw
                have bxr := bx.step hbw
                have rrow := Mr.rd.rd
                have y0 : wr.cell? ⟨ga, 0, none⟩ = some (.slice Aa na ca) := Mr.box.cell 0
                have ryr := Mr.rd.rk nd Hmem.out
                have hyn : yn.n ≤ 30 := by have h1 := om.len; have h2 := hgr.out.len hj; omega
                have hszw := hbw.size
                have hgmw : gm < wr.heap.size := bm.lt
                by_cases hlt : j < nd.n
                · obtain ⟨y, hy⟩ : ∃ y, nd.l[j]? = some y := ⟨nd.l[j]'(by omega), List.getElem?_eq_getElem _⟩
                  have hyok := (Hgood.out.pre y (List.mem_of_getElem? hy)).ok
                  have hxok := HMC.out.pre.ok
                  have Hy := Lib.hid hy
                  clear hy
                  go_upto_region 23 with (first
                    | ((with_reducible refine on_index (.tmp 127) ?_); refine wn_at rfl _ (.tmp 127) _ rfl el_row rfl rfl (by omega) (by omega) rrow ?_; intro b2 j2 y2 hy2 hbB2 hc2; have hxx : nd = y2 := get_eq Hnd.out hy2.out (by omega); subst hxx)
                    | ((with_reducible refine on_index (.tmp 136) ?_); refine wn_at rfl _ (.tmp 136) _ rfl el_row rfl rfl (by omega) (by omega) rrow ?_; intro b3 j3 y3 hy3 hbB3 hc3; have hxx : nd = y3 := get_eq Hnd.out hy3.out (by omega); subst hxx)
                    | ((with_reducible refine on_index (.tmp 139) ?_); refine wm_at Ru.cs_length rfl _ (.tmp 139) _ rfl el_rule rfl rfl (by omega) (by omega) ryr ?_; intro b5 j5 r5 hr5 hb5 hc5; have hxx : y = r5 := get_eq Hy.out hr5.out (by omega); subst hxx)
                    | ((with_reducible refine on_load (.tmp 141) ?_); refine wr_load rfl _ _ rfl st_rule rfl hc5 ?_)
                    | ((with_reducible refine on_alloc ?_); refine wl_newBox rfl _ rfl z_rule ?_; intro gy w6 hg6 hl6 bg6 hb6)
                    | ((with_reducible refine on_store_at (.tmp 19) ?_); refine wb_store (cs := #[.int .u32 0, .int .i64 0, .int .i64 0, .int .i64 0]) (cs' := #[.int .u32 y.a, .int .i64 y.n, .int .i64 y.act, .int .i64 y.next]) rfl _ (.tmp 19) _ rfl st_rule rfl rfl bg6 rfl rfl (by simp [Value.oneCell']) ?_; intro w7 by7 hg7))
                  have K7 : Below wr.heap.size wr w7 := hb6.trans (below_of_grown (B := wr.heap.size) hg7 (fun j e => by injection e with e; omega) hb6.size)
                  have bm7 := bm.step K7
                  have on7 := on.below K7
                  have om7 := om.below K7
                  have bx7 := bxr.step K7
                  have hbw7 : Below wk.heap.size wk w7 := hbw.trans (K7.mono hszw)
                  have hA : ∀ j', rowOf yn.A = some j' → gm < j' ∧ j' < wr.heap.size := fun j' e => ⟨by have := om.ow.row_ge j' e; omega, OwM.row_lt om j' e⟩
                  have hgy : wr.heap.size ≤ gy := by omega
                  have hsz7 := K7.size
                  clear hb6 hg7 bg6 hg6 hl6 K7 bm on om bxr rrow y0 ryr Mr hbw
                  obtain ⟨b, hb⟩ : ∃ b, (!put && decide (x.cmp y < 0)) = b := ⟨_, rfl⟩
                  go_simp
                  go_cut [156] (fun s156 wx => s156 = .bool b ∧ w7 = wx)
                  case first =>
                    have cx0 : w7.cell? ⟨gx, 0, none⟩ = some (.int .u32 x.a) := bx7.cell 0
                    have cx1 : w7.cell? ⟨gx, 1, none⟩ = some (.int .i64 x.n) := bx7.cell 1
                    have cy0 : w7.cell? ⟨gy, 0, none⟩ = some (.int .u32 y.a) := by7.cell 0
                    have cy1 : w7.cell? ⟨gy, 1, none⟩ = some (.int .i64 y.n) := by7.cell 1
                    have KC := Lib.hid (pcmp_any x.a x.n y.a y.n w7 hxok.a hyok.a)
                    obtain ⟨pc, hpc⟩ : ∃ z, x.cmp y = z := ⟨_, rfl⟩
                    have hpc2 : pcmp x.a x.n y.a y.n = pc := hpc
                    rw [hpc] at hb
                    rw [hpc2] at KC
                    clear hpc hpc2
                    cases put with
                    | true =>
                      obtain rfl : false = b := by simpa using hb
                      go_wp2
                      go_meet
                      case rel => exact ⟨rfl, rfl⟩
                    | false =>
                      by_cases hc : pc < 0
                      · obtain rfl : true = b := by simpa [hc] using hb
                        have hd : decide (pc < 0) = true := decide_eq_true hc
                        go_wp2_with (go_at_call 30; refine (KC.out).mono ?_; rintro e wC ⟨rfl, rfl⟩)
                        go_meet
                        case rel => exact ⟨rfl, rfl⟩
                      · obtain rfl : false = b := by simpa [hc] using hb
                        have hd : decide (pc < 0) = false := decide_eq_false hc
                        go_wp2_with (go_at_call 30; refine (KC.out).mono ?_; rintro e wC ⟨rfl, rfl⟩)
                        go_meet
                        case rel => exact ⟨rfl, rfl⟩
                  case rest =>
                    obtain ⟨rfl, rfl⟩ := hcut
                    have hgmr : gm < w7.heap.size := bm7.lt
                    have hgyw : gy < w7.heap.size := by7.lt
                    go_upto_if 156 with fail
                    go_cut [17] (fun s17 wx => ∃ (W1 : World) (put' : Bool) (yq : Nd), W1 = wx ∧ s17 = .bool put' ∧ Box W1 gm 34 #[.slice (some ⟨gw, 0, none⟩) na cn] ∧ OwS sv W1 wk.heap.size 50 (some ⟨gw, 0, none⟩) na cn (nsa.set v yq) ∧ OwM Ru.cs 4 W1 (gm + 1) 52 yq.A yq.n yq.c yq.l ∧ Box W1 gy 52 y.cs.toArray ∧ (∀ j', rowOf yq.A = some j' → gm < j' ∧ j' ≠ gy) ∧ Hid (Gr x nd.l (j + 1) put' (yq.l ++ [y])) ∧ yq.n ≤ 40 ∧ Below wk.heap.size wk W1)
                    case first =>
                      cases b with
                      | false =>
                        have hgr2 : Hid (Gr x nd.l (j + 1) put (yn.l ++ [y])) := Lib.hid (by
                          cases put with
                          | true => exact hgr.out.on Hy.out
                          | false => exact hgr.out.skip Hy.out (by simpa using hb))
                        go_wp2
                        go_meet
                        case rel => exact ⟨w7, put, yn, rfl, rfl, bm7, on7, om7, by7, (fun j' e => ⟨(hA j' e).1, by have := (hA j' e).2; omega⟩), hgr2, by omega, hbw7⟩
                      | true =>
                        have hput : put = false := by cases put with | true => simp at hb | false => rfl
                        subst hput
                        have hlt2 : x.cmp y < 0 := by simpa using hb
                        have hgr2 : Hid (Gr x nd.l (j + 1) true ((yn.l ++ [x]) ++ [y])) := Lib.hid (hgr.out.new Hy.out hlt2)
                        clear hb hlt2 hgr
                        have zg : gm < w7.heap.size := bm7.lt
                        have zq : gx < w7.heap.size := bx7.lt
                        have hS1 : ∀ a, GuS gm gx a → a.block < w7.heap.size := fun a ha => by rcases ha with e | e <;> omega
                        have hS : ∀ a, GuS gm gx a → a.block < w7.drew.heap.size := hS1
                        have qb : ∀ w', Th.KSReach (GuS gm gx) w7.drew w' → ∀ p : Addr, GuS gm gx p → w'.cell? p = w7.cell? p := fun w' hk p hp => by
                          obtain ⟨q, rfl⟩ := hk
                          exact (q.h p hp).trans rfl
                        have f2 : ∀ q : KSStep (GuS gm gx) w7.drew, q.w.cell? ⟨gm, 0, none⟩ = some (.slice (some ⟨gw, 0, none⟩) na cn) := fun q => (q.h ⟨gm, 0, none⟩ (.inl (Nat.le_refl gm))).trans (bm7.cell 0)
                        have qr : ∀ w', Th.KSReach (GuS gm gx) w7.drew w' → RdS sv w' (gw + 1) (some ⟨gw, 0, none⟩) na cn (nsa.set v yn) := fun w' hk => ⟨(Rd.mk (fun j u hu => by obtain ⟨b, o, e, hb, hc⟩ := on7.rd.rd.at_ j u hu; exact ⟨b, o, e, by injection e with e; injection e with e1 e2; omega, hc⟩) : Rd w7 (gw + 1) (some ⟨gw, 0, none⟩) ((nsa.set v yn).map sv)).keep (fun p hp => qb w' hk p (.inl (by omega))), on7.len, on7.cap⟩
                        have hcq : Hid (∀ w', Th.KSReach (GuS gm gx) w7.drew w' → ∀ i u, x.cs[i]? = some u → w'.cell? ⟨gx, 0 + i, none⟩ = some u) := Lib.hid (fun w' hk i u hu => (qb w' hk ⟨gx, 0 + i, none⟩ (.inr rfl)).trans (by rw [Nat.zero_add]; exact (bx7.cell i).trans (by rw [← hu]; exact List.getElem?_toArray)))
                        have hset : Hid ((nsa.set v yn)[v]? = some yn) := Lib.hid (by rw [List.getElem?_set]; simp [hvl])
                        obtain ⟨W, hW⟩ : ∃ W, (w7.alloc (.cells #[.int .u32 x.a, .int .i64 x.n, .int .i64 x.act, .int .i64 x.next] 52)).drew = W := ⟨_, rfl⟩
                        have kW : Below w7.heap.size w7 W := by rw [← hW]; exact (below_alloc w7 (Nat.le_refl _) _).trans (bdrew _ _)
                        have zW : W.heap.size = w7.heap.size + 1 := by rw [← hW]; show (w7.alloc _).heap.size = _; simp
                        have lW : OwM Ru.cs 4 W w7.heap.size 52 (some ⟨w7.heap.size, 0, none⟩) 1 1 [x] := by rw [← hW]; exact (OwM.lit Ru.cs_length w7 #[.int .u32 x.a, .int .i64 x.n, .int .i64 x.act, .int .i64 x.next] 1 (Nat.le_refl _) (by simp [maxLen]) rfl rfl).below (bdrew _ _)
                        have ksW : ∀ a, GuS gm gx a → W.cell? a = w7.drew.cell? a := fun a ha => by rw [← hW]; exact ks_alloc w7 (.cells #[.int .u32 x.a, .int .i64 x.n, .int .i64 x.act, .int .i64 x.next] 52) hS1 a ha
                        have p0 := om7.below kW
                        have bW := bm7.step kW
                        have oW := on7.below kW
                        have r0 := (show ∀ j', rowOf yn.A = some j' → gm < j' ∧ j' ≠ gx from fun j' e => ⟨(hA j' e).1, by have := (hA j' e).1; omega⟩)
                        go_upto_region 24 with fail
                        refine wp_region_treeL 12 (.float 0 9 (.one 9 (.one 10 (.float 11 1 (.one 12 .done))))) (Th.KSReach (GuS gm gx)) (Th.KSReach.trans _) (Th.KSReach.refl _) (by kernel_rfl) (by kernel_rfl) (by kernel_rfl) (fun KT hKT => ?_)
                        repeat' first
                          | ((with_reducible refine wpTreeL_done ?_); refine hKT _ _ ?_; clear hKT KT)
                          | (with_reducible refine wpTreeL_two ?_ ?_)
                          | ((with_reducible refine wpTreeL_float (fun KF hKF => ?_)); (simp only [List.drop, List.take]); (repeat (first | go_big_quiet_skip | ((with_reducible refine onq_index (.tmp 161) ?_); refine wqn_at rfl _ (.tmp 161) _ rfl el_row rfl rfl (by omega) (by omega) (Th.KSReach.refl _ _) qr ?_; intro b5 j5 x5 hr5 hc5; have hxx : yn = x5 := get_eq hset.out hr5.out (by omega); subst hxx; have f5 : ∀ q : KSStep (GuS gm gx) w7.drew, q.w.cell? ⟨b5, j5, none⟩ = some (.slice yn.A yn.n yn.c) := fun q => hc5.out q.w ⟨q, rfl⟩) | ((with_reducible refine onq_load (.tmp 13) ?_); refine wqr_load rfl _ (.tmp 13) rfl st_rule rfl hcq ?_) | ((with_reducible refine onq_index (.tmp 158) ?_); refine wq_placeS rfl _ (.tmp 158) _ rfl el_row rfl rfl v ⟨rfl, hvn⟩ ?_) | go_big_quiet_step (fail) | quiet_step (fail))); refine wpQuiet_nil ?_; refine hKF _ ?_; clear hKF KF)
                          | ((with_reducible refine wpTreeL_one (fun KO hKO => ?_)); (simp only [List.drop, List.take]); (go_wp2_with (first | ((with_reducible refine on_append (.tmp 164) (.tmp 166) ?_); refine wm_appendA Ru.cs_length rfl (.tmp 164) (.tmp 166) _ rfl el_rule Ru.one rfl p0 rfl lW.rd (by omega) (by omega) (by omega) ?_; intro A8 c8 w8 ow8 hg8 hb8 hA8; have ks8 : ∀ a, GuS gm gx a → w8.cell? a = W.cell? a := guS_grown hg8 (by omega) (by omega) r0; have o8 := oW.grown hg8 (fun g' hA e => by injection hA with hA; injection hA with hA; have := (r0 g' e).1; omega)) | ((with_reducible refine on_store_at (.tmp 168) ?_); refine wl_setV rfl _ (.tmp 168) _ rfl size_row rfl ⟨A8, yn.n + 1, c8, yn.l ++ [x]⟩ rfl o8 (j := v) hvn ?_; intro w9' o9 hg9 hb9))); (first | (with_reducible refine anch_last (hKO _ _ ?_)) | refine anch_endL (Th.KSReach.of (by first | exact fun _ _ => rfl | assumption | (exact ks_alloc _ _ (by assumption)))) (hKO _ _ ?_)); clear hKO KO)
                        have s8 := hb8.size
                        have q9 := ow8.grown hg9 (fun g' hA e => by injection e with e; have := ow8.ow.row_ge g' (by rw [hA]; rfl); omega)
                        have bm9 := (bW.grown hg8 (fun e => by have := (r0 _ e).1; omega)).grown hg9 (fun e => by injection e with e; omega)
                        rw [List.set_set] at o9
                        have by9 := ((by7.step kW).grown hg8 (fun e => by have := (hA gy e).2; omega)).grown hg9 (fun e => by injection e with e; omega)
                        have bel9 := ((hbw7.trans (kW.mono (by omega))).trans (hb8.mono (by omega))).trans hb9
                        have hr9 : ∀ j', rowOf A8 = some j' → gm < j' ∧ j' ≠ gy := fun j' e => by
                          rcases hA8 with h | h
                          · rw [h] at e; have := hA j' e; omega
                          · rw [h] at e
                            have : W.heap.size = j' := by injection e
                            omega
                        clear hg8 hb8 hA8 ow8 o8 hg9 hb9 kW ksW lW p0 bW oW f2 qr qb hcq hset hS hS1 hW r0 ks8
                        go_wp2
                        go_meet
                        case rel => exact ⟨w9', true, ⟨A8, yn.n + 1, c8, yn.l ++ [x]⟩, rfl, rfl, bm9, o9, q9, by9, hr9, hgr2, by simp only; omega, bel9⟩
                    case rest =>
                      obtain ⟨W1, put', yq, rfl, rfl, bm1, on1, om1, by1, hrow, hgr1, hyq, hbw1⟩ := hcut
                      clear bm7 on7 om7 by7 bx7 hA hgr hbw7 hb
                      have hsz1 := hbw1.size
                      have zg : gm < W1.heap.size := bm1.lt
                      have zq : gy < W1.heap.size := by1.lt
                      have hS1 : ∀ a, GuS gm gy a → a.block < W1.heap.size := fun a ha => by rcases ha with e | e <;> omega
                      have hS : ∀ a, GuS gm gy a → a.block < W1.drew.heap.size := hS1
                      have qb : ∀ w', Th.KSReach (GuS gm gy) W1.drew w' → ∀ p : Addr, GuS gm gy p → w'.cell? p = W1.cell? p := fun w' hk p hp => by
                        obtain ⟨q, rfl⟩ := hk
                        exact (q.h p hp).trans rfl
                      have f2 : ∀ q : KSStep (GuS gm gy) W1.drew, q.w.cell? ⟨gm, 0, none⟩ = some (.slice (some ⟨gw, 0, none⟩) na cn) := fun q => (q.h ⟨gm, 0, none⟩ (.inl (Nat.le_refl gm))).trans (bm1.cell 0)
                      have qr : ∀ w', Th.KSReach (GuS gm gy) W1.drew w' → RdS sv w' (gw + 1) (some ⟨gw, 0, none⟩) na cn (nsa.set v yq) := fun w' hk => ⟨(Rd.mk (fun j u hu => by obtain ⟨b, o, e, hb, hc⟩ := on1.rd.rd.at_ j u hu; exact ⟨b, o, e, by injection e with e; injection e with e1 e2; omega, hc⟩) : Rd W1 (gw + 1) (some ⟨gw, 0, none⟩) ((nsa.set v yq).map sv)).keep (fun p hp => qb w' hk p (.inl (by omega))), on1.len, on1.cap⟩
                      have hcq : Hid (∀ w', Th.KSReach (GuS gm gy) W1.drew w' → ∀ i u, y.cs[i]? = some u → w'.cell? ⟨gy, 0 + i, none⟩ = some u) := Lib.hid (fun w' hk i u hu => (qb w' hk ⟨gy, 0 + i, none⟩ (.inr rfl)).trans (by rw [Nat.zero_add]; exact (by1.cell i).trans (by rw [← hu]; exact List.getElem?_toArray)))
                      have hset : Hid ((nsa.set v yq)[v]? = some yq) := Lib.hid (by rw [List.getElem?_set]; simp [hvl])
                      obtain ⟨W, hW⟩ : ∃ W, (W1.alloc (.cells #[.int .u32 y.a, .int .i64 y.n, .int .i64 y.act, .int .i64 y.next] 52)).drew = W := ⟨_, rfl⟩
                      have kW : Below W1.heap.size W1 W := by rw [← hW]; exact (below_alloc W1 (Nat.le_refl _) _).trans (bdrew _ _)
                      have zW : W.heap.size = W1.heap.size + 1 := by rw [← hW]; show (W1.alloc _).heap.size = _; simp
                      have lW : OwM Ru.cs 4 W W1.heap.size 52 (some ⟨W1.heap.size, 0, none⟩) 1 1 [y] := by rw [← hW]; exact (OwM.lit Ru.cs_length W1 #[.int .u32 y.a, .int .i64 y.n, .int .i64 y.act, .int .i64 y.next] 1 (Nat.le_refl _) (by simp [maxLen]) rfl rfl).below (bdrew _ _)
                      have ksW : ∀ a, GuS gm gy a → W.cell? a = W1.drew.cell? a := fun a ha => by rw [← hW]; exact ks_alloc W1 (.cells #[.int .u32 y.a, .int .i64 y.n, .int .i64 y.act, .int .i64 y.next] 52) hS1 a ha
                      have p0 := om1.below kW
                      have bW := bm1.step kW
                      have oW := on1.below kW
                      have r0 := hrow
                      go_upto_region 26 with fail
                      refine wp_region_treeL 12 (.float 0 9 (.one 9 (.one 10 (.float 11 1 (.one 12 .done))))) (Th.KSReach (GuS gm gy)) (Th.KSReach.trans _) (Th.KSReach.refl _) (by kernel_rfl) (by kernel_rfl) (by kernel_rfl) (fun KT hKT => ?_)
                      repeat' first
                        | ((with_reducible refine wpTreeL_done ?_); refine hKT _ _ ?_; clear hKT KT)
                        | (with_reducible refine wpTreeL_two ?_ ?_)
                        | ((with_reducible refine wpTreeL_float (fun KF hKF => ?_)); (simp only [List.drop, List.take]); (repeat (first | go_big_quiet_skip | ((with_reducible refine onq_index (.tmp 173) ?_); refine wqn_at rfl _ (.tmp 173) _ rfl el_row rfl rfl (by omega) (by omega) (Th.KSReach.refl _ _) qr ?_; intro b5 j5 x5 hr5 hc5; have hxx : yq = x5 := get_eq hset.out hr5.out (by omega); subst hxx; have f5 : ∀ q : KSStep (GuS gm gy) W1.drew, q.w.cell? ⟨b5, j5, none⟩ = some (.slice yq.A yq.n yq.c) := fun q => hc5.out q.w ⟨q, rfl⟩) | ((with_reducible refine onq_load (.tmp 19) ?_); refine wqr_load rfl _ (.tmp 19) rfl st_rule rfl hcq ?_) | ((with_reducible refine onq_index (.tmp 170) ?_); refine wq_placeS rfl _ (.tmp 170) _ rfl el_row rfl rfl v ⟨rfl, hvn⟩ ?_) | go_big_quiet_step (fail) | quiet_step (fail))); refine wpQuiet_nil ?_; refine hKF _ ?_; clear hKF KF)
                        | ((with_reducible refine wpTreeL_one (fun KO hKO => ?_)); (simp only [List.drop, List.take]); (go_wp2_with (first | ((with_reducible refine on_append (.tmp 176) (.tmp 178) ?_); refine wm_appendA Ru.cs_length rfl (.tmp 176) (.tmp 178) _ rfl el_rule Ru.one rfl p0 rfl lW.rd (by omega) (by omega) (by omega) ?_; intro A8 c8 w8 ow8 hg8 hb8 hA8; have ks8 : ∀ a, GuS gm gy a → w8.cell? a = W.cell? a := guS_grown hg8 (by omega) (by omega) r0; have o8 := oW.grown hg8 (fun g' hA e => by injection hA with hA; injection hA with hA; have := (r0 g' e).1; omega)) | ((with_reducible refine on_store_at (.tmp 180) ?_); refine wl_setV rfl _ (.tmp 180) _ rfl size_row rfl ⟨A8, yq.n + 1, c8, yq.l ++ [y]⟩ rfl o8 (j := v) hvn ?_; intro w9' o9 hg9 hb9))); (first | (with_reducible refine anch_last (hKO _ _ ?_)) | refine anch_endL (Th.KSReach.of (by first | exact fun _ _ => rfl | assumption | (exact ks_alloc _ _ (by assumption)))) (hKO _ _ ?_)); clear hKO KO)
                      have s8 := hb8.size
                      have q9 := ow8.grown hg9 (fun g' hA e => by injection e with e; have := ow8.ow.row_ge g' (by rw [hA]; rfl); omega)
                      have bm9 := (bW.grown hg8 (fun e => by have := (r0 _ e).1; omega)).grown hg9 (fun e => by injection e with e; omega)
                      rw [List.set_set] at o9
                      have bel9 := ((hbw1.trans (kW.mono (by omega))).trans (hb8.mono (by omega))).trans hb9
                      clear hg8 hb8 hA8 ow8 o8 hg9 hb9 kW ksW lW p0 bW oW f2 qr qb hcq hset hS hS1 hW r0 ks8
                      go_wp2
                      go_roundw
                      case rel => exact ⟨j + 1, put', ⟨A8, yq.n + 1, c8, yq.l ++ [y]⟩, by omega, by go_num, rfl, bm9, o9, q9, hgr1, bel9⟩
                      case measure => simp [intOf]; omega
                · have hjn : j = nd.l.length := by omega
                  subst hjn
                  go_upto_if 182 with ((with_reducible refine on_index (.tmp 127) ?_); refine wn_at rfl _ (.tmp 127) _ rfl el_row rfl rfl (by omega) (by omega) rrow ?_; intro b2 j2 y2 hy2 hbB2 hc2; have hxx : nd = y2 := get_eq Hnd.out hy2.out (by omega); subst hxx)
                  go_cut [] (fun wx => ∃ (W1 : World) (yF : Nd), W1 = wx ∧ Box W1 gm 34 #[.slice (some ⟨gw, 0, none⟩) na cn] ∧ OwS sv W1 wk.heap.size 50 (some ⟨gw, 0, none⟩) na cn (nsa.set v yF) ∧ OwM Ru.cs 4 W1 (gm + 1) 52 yF.A yF.n yF.c yF.l ∧ Hid (yF.l = insR x nd.l) ∧ Below wk.heap.size wk W1)
                  case first =>
                    cases put with
                    | true =>
                      go_wp2
                      go_meet
                      case rel => exact ⟨wr, yn, rfl, bm, on, om, Lib.hid hgr.out.fin, hbw⟩
                    | false =>
                      have hF : Hid (yn.l ++ [x] = insR x nd.l) := Lib.hid hgr.out.fin'
                      have zg : gm < wr.heap.size := bm.lt
                      have zq : gx < wr.heap.size := bxr.lt
                      have hS1 : ∀ a, GuS gm gx a → a.block < wr.heap.size := fun a ha => by rcases ha with e | e <;> omega
                      have hS : ∀ a, GuS gm gx a → a.block < wr.drew.heap.size := hS1
                      have qb : ∀ w', Th.KSReach (GuS gm gx) wr.drew w' → ∀ p : Addr, GuS gm gx p → w'.cell? p = wr.cell? p := fun w' hk p hp => by
                        obtain ⟨q, rfl⟩ := hk
                        exact (q.h p hp).trans rfl
                      have f2 : ∀ q : KSStep (GuS gm gx) wr.drew, q.w.cell? ⟨gm, 0, none⟩ = some (.slice (some ⟨gw, 0, none⟩) na cn) := fun q => (q.h ⟨gm, 0, none⟩ (.inl (Nat.le_refl gm))).trans (bm.cell 0)
                      have qr : ∀ w', Th.KSReach (GuS gm gx) wr.drew w' → RdS sv w' (gw + 1) (some ⟨gw, 0, none⟩) na cn (nsa.set v yn) := fun w' hk => ⟨(Rd.mk (fun j u hu => by obtain ⟨b, o, e, hb, hc⟩ := on.rd.rd.at_ j u hu; exact ⟨b, o, e, by injection e with e; injection e with e1 e2; omega, hc⟩) : Rd wr (gw + 1) (some ⟨gw, 0, none⟩) ((nsa.set v yn).map sv)).keep (fun p hp => qb w' hk p (.inl (by omega))), on.len, on.cap⟩
                      have hcq : Hid (∀ w', Th.KSReach (GuS gm gx) wr.drew w' → ∀ i u, x.cs[i]? = some u → w'.cell? ⟨gx, 0 + i, none⟩ = some u) := Lib.hid (fun w' hk i u hu => (qb w' hk ⟨gx, 0 + i, none⟩ (.inr rfl)).trans (by rw [Nat.zero_add]; exact (bxr.cell i).trans (by rw [← hu]; exact List.getElem?_toArray)))
                      have hset : Hid ((nsa.set v yn)[v]? = some yn) := Lib.hid (by rw [List.getElem?_set]; simp [hvl])
                      obtain ⟨W, hW⟩ : ∃ W, (wr.alloc (.cells #[.int .u32 x.a, .int .i64 x.n, .int .i64 x.act, .int .i64 x.next] 52)).drew = W := ⟨_, rfl⟩
                      have kW : Below wr.heap.size wr W := by rw [← hW]; exact (below_alloc wr (Nat.le_refl _) _).trans (bdrew _ _)
                      have zW : W.heap.size = wr.heap.size + 1 := by rw [← hW]; show (wr.alloc _).heap.size = _; simp
                      have lW : OwM Ru.cs 4 W wr.heap.size 52 (some ⟨wr.heap.size, 0, none⟩) 1 1 [x] := by rw [← hW]; exact (OwM.lit Ru.cs_length wr #[.int .u32 x.a, .int .i64 x.n, .int .i64 x.act, .int .i64 x.next] 1 (Nat.le_refl _) (by simp [maxLen]) rfl rfl).below (bdrew _ _)
                      have ksW : ∀ a, GuS gm gx a → W.cell? a = wr.drew.cell? a := fun a ha => by rw [← hW]; exact ks_alloc wr (.cells #[.int .u32 x.a, .int .i64 x.n, .int .i64 x.act, .int .i64 x.next] 52) hS1 a ha
                      have p0 := om.below kW
                      have bW := bm.step kW
                      have oW := on.below kW
                      have r0 := (show ∀ j', rowOf yn.A = some j' → gm < j' ∧ j' ≠ gx from fun j' e => by have := om.ow.row_ge j' e; omega)
                      go_upto_region 28 with fail
                      refine wp_region_treeL 12 (.float 0 9 (.one 9 (.one 10 (.float 11 1 (.one 12 .done))))) (Th.KSReach (GuS gm gx)) (Th.KSReach.trans _) (Th.KSReach.refl _) (by kernel_rfl) (by kernel_rfl) (by kernel_rfl) (fun KT hKT => ?_)
                      repeat' first
                        | ((with_reducible refine wpTreeL_done ?_); refine hKT _ _ ?_; clear hKT KT)
                        | (with_reducible refine wpTreeL_two ?_ ?_)
                        | ((with_reducible refine wpTreeL_float (fun KF hKF => ?_)); (simp only [List.drop, List.take]); (repeat (first | go_big_quiet_skip | ((with_reducible refine onq_index (.tmp 187) ?_); refine wqn_at rfl _ (.tmp 187) _ rfl el_row rfl rfl (by omega) (by omega) (Th.KSReach.refl _ _) qr ?_; intro b5 j5 x5 hr5 hc5; have hxx : yn = x5 := get_eq hset.out hr5.out (by omega); subst hxx; have f5 : ∀ q : KSStep (GuS gm gx) wr.drew, q.w.cell? ⟨b5, j5, none⟩ = some (.slice yn.A yn.n yn.c) := fun q => hc5.out q.w ⟨q, rfl⟩) | ((with_reducible refine onq_load (.tmp 13) ?_); refine wqr_load rfl _ (.tmp 13) rfl st_rule rfl hcq ?_) | ((with_reducible refine onq_index (.tmp 184) ?_); refine wq_placeS rfl _ (.tmp 184) _ rfl el_row rfl rfl v ⟨rfl, hvn⟩ ?_) | go_big_quiet_step (fail) | quiet_step (fail))); refine wpQuiet_nil ?_; refine hKF _ ?_; clear hKF KF)
                        | ((with_reducible refine wpTreeL_one (fun KO hKO => ?_)); (simp only [List.drop, List.take]); (go_wp2_with (first | ((with_reducible refine on_append (.tmp 190) (.tmp 192) ?_); refine wm_appendA Ru.cs_length rfl (.tmp 190) (.tmp 192) _ rfl el_rule Ru.one rfl p0 rfl lW.rd (by omega) (by omega) (by omega) ?_; intro A8 c8 w8 ow8 hg8 hb8 hA8; have ks8 : ∀ a, GuS gm gx a → w8.cell? a = W.cell? a := guS_grown hg8 (by omega) (by omega) r0; have o8 := oW.grown hg8 (fun g' hA e => by injection hA with hA; injection hA with hA; have := (r0 g' e).1; omega)) | ((with_reducible refine on_store_at (.tmp 194) ?_); refine wl_setV rfl _ (.tmp 194) _ rfl size_row rfl ⟨A8, yn.n + 1, c8, yn.l ++ [x]⟩ rfl o8 (j := v) hvn ?_; intro w9' o9 hg9 hb9))); (first | (with_reducible refine anch_last (hKO _ _ ?_)) | refine anch_endL (Th.KSReach.of (by first | exact fun _ _ => rfl | assumption | (exact ks_alloc _ _ (by assumption)))) (hKO _ _ ?_)); clear hKO KO)
                      have s8 := hb8.size
                      have q9 := ow8.grown hg9 (fun g' hA e => by injection e with e; have := ow8.ow.row_ge g' (by rw [hA]; rfl); omega)
                      have bm9 := (bW.grown hg8 (fun e => by have := (r0 _ e).1; omega)).grown hg9 (fun e => by injection e with e; omega)
                      rw [List.set_set] at o9
                      have bel9 := ((hbw.trans (kW.mono (by omega))).trans (hb8.mono (by omega))).trans hb9
                      clear hg8 hb8 hA8 ow8 o8 hg9 hb9 kW ksW lW p0 bW oW f2 qr qb hcq hset hS hS1 hW r0 ks8
                      go_wp2
                      go_meet
                      case rel => exact ⟨w9', ⟨A8, yn.n + 1, c8, yn.l ++ [x]⟩, rfl, bm9, o9, q9, hF, bel9⟩
                  case rest =>
                    obtain ⟨W1, yF, rfl, bm1, on1, om1, hF, hbw1⟩ := hcut
                    have M1 := M.step hbw1
                    obtain ⟨ms, N1, hN1, hln, hvv⟩ := more_net M1 HN.out hvl on1 om1 hF.out HMC.out Hlv.out
                    have B11 := B10.trans (hbw1.mono B10.size)
                    have HN1 := Lib.hid hN1
                    have HLN := Lib.hid hln
                    have HVV := Lib.hid hvv
                    have KA := Lib.hid (anet_any Aa na ca nsa W1 _ M1.rd M1.may (ckeys_small M1.may))
                    clear hN1 hln hvv on1 om1 hF
                    go_upto_region 30 with (first
                      | ((with_reducible refine on_load (.tmp 8) ?_); refine wb_load rfl _ (.tmp 8) rfl st_net rfl M1.box rfl ?_)
                      | (go_at_call 31; refine (KA.out).mono ?_; rintro e u2 ⟨v1, Ap, np, cp, d1, At, nt, ct, ps, tr, rfl, hp2, ht2, hb2, _, hk1⟩)
                      | ((with_reducible refine on_alloc ?_); refine wl_newBox rfl _ rfl z_cert ?_; intro gc u3 hg3 hl3 bg3 hb3)
                      | ((with_reducible refine on_store_at (.tmp 20) ?_); refine wb_store (cs := Cv 0 none 0 0 0 none 0 0) (cs' := Cv v1 Ap np cp d1 At nt ct) rfl _ (.tmp 20) _ rfl st_cert rfl rfl bg3 rfl rfl (by simp [Cv, Value.oneCell']) ?_; intro u4 bc4 hg4))
                    have E4 : Below u2.heap.size u2 u4 := hb3.trans (below_of_grown (B := u2.heap.size) hg4 (fun j e => by injection e with e; omega) hb3.size)
                    have F4 : Below W1.heap.size W1 u4 := hb2.trans (E4.mono hb2.size)
                    have MU4 := M1.step F4
                    have bmu := bm1.step F4
                    have NU4 := (N1.step F4).heap
                    have pp4 := (hp2.step E4).more E4.size
                    have tt4 := (ht2.step E4).more E4.size
                    have KB := Lib.hid (anet_any (some ⟨gw, 0, none⟩) na cn ms u4 _ NU4 HN1.out.may (ckeys_small HN1.out.may))
                    have Hk1 := Lib.hid hk1
                    clear hb3 hg4 bg3 hg3 hl3 E4 hp2 ht2 hb2 KA hk1 bm1 M1 N1
                    go_upto_region 31 with (first
                      | ((with_reducible refine on_load (.tmp 16) ?_); refine wb_load rfl _ (.tmp 16) rfl st_net rfl bmu rfl ?_)
                      | (go_at_call 31; refine (KB.out).mono ?_; rintro e u5 ⟨v2, Ap2, np2, cp2, d2, At2, nt2, ct2, ps2, tr2, rfl, hp5, ht5, hb5, _, hk2⟩)
                      | ((with_reducible refine on_alloc ?_); refine wl_newBox rfl _ rfl z_cert ?_; intro gd u6 hg6 hl6 bg6 hb6)
                      | ((with_reducible refine on_store_at (.tmp 22) ?_); refine wb_store (cs := Cv 0 none 0 0 0 none 0 0) (cs' := Cv v2 Ap2 np2 cp2 d2 At2 nt2 ct2) rfl _ (.tmp 22) _ rfl st_cert rfl rfl bg6 rfl rfl (by simp [Cv, Value.oneCell']) ?_; intro u7 bd7 hg7))
                    have E7 : Below u5.heap.size u5 u7 := hb6.trans (below_of_grown (B := u5.heap.size) hg7 (fun j e => by injection e with e; omega) hb6.size)
                    have F7 : Below u4.heap.size u4 u7 := hb5.trans (E7.mono hb5.size)
                    have MU7 := MU4.step F7
                    have bmv := bmu.step F7
                    have NU7 := (NU4.step F7).heap
                    have bc7 := bc4.step F7
                    have pp7 := pp4.step F7
                    have tt7 := tt4.step F7
                    have pq7 := (hp5.step E7).more E7.size
                    have tq7 := (ht5.step E7).more E7.size
                    have L7 : Below w.heap.size w u7 := B11.trans ((F4.trans (F7.mono F4.size)).mono B11.size)
                    obtain ⟨rfl, rfl, rfl, hpk, hc1, hc2, hcm, hd1⟩ := two_nets HN.out HN1.out HLN.out HVV.out Hk1.out hk2
                    rw [MU7.len] at hcm
                    have hna8 : na ≤ 256 := by omega
                    have hnps : np ≤ 100000 ∧ np2 ≤ 100000 ∧ nt ≤ 100000 ∧ nt2 ≤ 100000 := cert_small hna8 hcm pp7 pq7 tt7 tq7 hpk
                    have hpn1 := part_small hna8 hcm pp7
                    have hpn2 := part_small2 hna8 hcm pq7 hpk
                    have hsame : csame v1 ps d1 tr v1 ps2 d1 tr = true := by
                      unfold csame
                      rw [psame_key, hpk]
                      simp
                    have K1 := Lib.hid (fun q : Step u7.heap.size u7 => netmay_any (some ⟨gw, 0, none⟩) na cn ms q.w (by omega) (by have := HN1.out.size; omega) _ ((NU7.step q.h).heap) 0 HN1.out.may)
                    have K2 := Lib.hid (fun q : Step u7.heap.size u7 => csame_any v1 Ap np cp d1 At nt ct v1 Ap2 np2 cp2 d1 At2 nt2 ct2 q.w (by omega) (by omega) ps tr _ (pp7.step q.h) (tt7.step q.h) hpn1 (by omega) (by omega) ps2 tr _ (pq7.step q.h) (tq7.step q.h) hpn2 true (Lib.hid hsame))
                    have K3 := Lib.hid (fun q : Step u7.heap.size u7 => (cknet_any (some ⟨gw, 0, none⟩) na cn ms v1 Ap np cp d1 At nt ct ps tr q.w ((NU7.step q.h).heap) HN1.out.may (ckeys_small HN1.out.may) ((pp7.step q.h).heap) ((tt7.step q.h).heap) hd1 hcm).mono fun e w' h => ck_yes hc2 h)
                    have K4 := Lib.hid (fun q : Step u7.heap.size u7 => (cknet_any Aa na ca nsa v1 Ap np cp d1 At nt ct ps tr q.w ((MU7.step q.h).rd) MU7.may (ckeys_small MU7.may) ((pp7.step q.h).heap) ((tt7.step q.h).heap) hd1 hcm).mono fun e w' h => ck_yes hc1 h)
                    clear hb6 hg7 bg6 hg6 hl6 E7 hp5 ht5 hb5 KB hk2 hcm hpk hc1 hc2 hd1 hnps hpn1 hpn2 hsame pp4 tt4 pp7 tt7 pq7 tq7
                    refine wp_region_reach (by kernel_rfl) (by kernel_rfl) ?_
                    repeat (first | go_big_quiet_skip | ((with_reducible refine onq_load (.tmp 16) ?_); refine wqb_load rfl _ (.tmp 16) rfl st_net rfl (fun w' h => bmv.step h.below) rfl ?_) | ((with_reducible refine onq_load (.tmp 8) ?_); refine wqb_load rfl _ (.tmp 8) rfl st_net rfl (fun w' h => MU7.box.step h.below) rfl ?_) | ((with_reducible refine onq_load (.tmp 20) ?_); refine wqb_load (cs := #[.int .i64 v1, .slice Ap np cp, .int .u32 d1, .slice At nt ct]) rfl _ (.tmp 20) rfl st_cert rfl (fun w' h => bc7.step h.below) rfl ?_) | ((with_reducible refine onq_load (.tmp 22) ?_); refine wqb_load (cs := #[.int .i64 v1, .slice Ap2 np2 cp2, .int .u32 d1, .slice At2 nt2 ct2]) rfl _ (.tmp 22) rfl st_cert rfl (fun w' h => bd7.step h.below) rfl ?_) | ((with_reducible refine onq_eq (.tmp 227) ?_); refine wq_eqA rfl (.tmp 227) _ rfl rfl rfl true (by simp) ?_) | go_big_quiet_step ((first | (with_reducible exact Calls.reach (K1.out _)) | (with_reducible exact Calls.reach (K2.out _)) | (with_reducible exact Calls.reach (K3.out _)) | (with_reducible exact Calls.reach (K4.out _)))) | quiet_step ((first | (with_reducible exact Calls.reach (K1.out _)) | (with_reducible exact Calls.reach (K2.out _)) | (with_reducible exact Calls.reach (K3.out _)) | (with_reducible exact Calls.reach (K4.out _)))))
                    refine wpQuiet_nil ?_
                    rintro _ ⟨q, rfl⟩
                    have hqwf := q.h
                    obtain ⟨wf, hwf'⟩ : ∃ W, q.w = W := ⟨_, rfl⟩
                    rw [hwf'] at hqwf ⊢
                    clear hwf' q
                    go_wp2
                    go_ret
                    exact ⟨rfl, L7.trans (hqwf.mono L7.size)⟩
end Go.Proofs.YtjandnidljbkoaaGreat
