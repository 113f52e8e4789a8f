/-
  theseuslaw09.NetworkApart: the walk.
-/
import Derived.Test.YtdmkiejaejlajaaNhApartLaw
import Derived.Deep.DeepCutAuto
import Derived.Deep.CutBlock
namespace Go.Proofs.Ytdmkiejaejlajaa
open Go.RowKit Go.Th
set_option linter.unusedVariables false
theorem z_rule : (Try.prog.info? 40).map (fun i => (i.zero.map Value.cells, i.size)) = some (some #[.int .u32 0, .int .i64 0, .int .i64 0, .int .i64 0], 4) := by kernel_rfl
theorem OwM.lt' {α : Type} {f : α → List Value} {k : Nat} {w : World} {base e n c : Nat} {A : Option Addr} {xs : List α} (h : OwM f k w base e A n c xs) {j : Nat} (hj : rowOf A = some j) : j < w.heap.size := by
  rcases h.ow.form with ⟨rfl, _⟩ | ⟨g, rfl, _, hg⟩
  · cases hj
  · have : g = j := by injection hj
    omega
def ApRel (l : List Ru) (n : Nat) (w : World) (s i : Value) (wr : World) : Prop :=
  ∃ (k c : Nat) (A : Option Addr), k ≤ n ∧ k ≤ 20 ∧ i = .int .i64 k ∧ s = .slice A k c ∧ OwM Ru.cs 4 wr w.heap.size 40 A k c ((l.take k).map drp) ∧ Below w.heap.size w wr
def VRel (n : Nat) (w : World) (i : Value) (wr : World) : Prop := ∃ k : Nat, k ≤ n ∧ i = .int .i64 k ∧ Below w.heap.size w wr
set_option maxRecDepth 100000 in
set_option maxHeartbeats 4000000 in
theorem networkApart_walk {w : World} (A : Option Addr) (n c : Nat) (ns : List Nd) (ni : NetIn w A n c ns) (Al : Option Addr) (nl cl : Nat) (l : List Ru) (hr : RdM Ru.cs w w.heap.size Al nl cl l) (hm : nl ≤ 9223372036854775807) (hok : ∀ r ∈ l, r.Ok) (a : Int) (ha : 0 ≤ a ∧ a ≤ 4294967295) :
    Calls Try.prog 6 #[.agg #[.slice A n c], .slice Al nl cl, .int .u32 a] w fun e w' => e = .returned (.bool true) ∧ Below w.heap.size w w' := by
  have K1 := Lib.hid (made_any A n c ns w ni)
  have Hok := Lib.hid hok
  clear ni hok
  have k0 : Below w.heap.size w (w.alloc (.cells #[.slice A n c] 24)) := below_alloc w (Nat.le_refl _) _
  have b0 := Box.new w #[.slice A n c] 24
  go_enter Try.func6, Try.ntmps6
  go_upto_region 1 with fail
  obtain ⟨w0, hw0⟩ : ∃ W, w.alloc (.cells #[.slice A n c] 24) = W := ⟨_, rfl⟩
  rw [hw0] at k0 b0 ⊢
  clear hw0
  go_upto_region 2 with (go_at_call 10; refine (shown9 _).mono ?_; rintro e w1 ⟨rfl, hb1⟩; have bx1 := b0.step hb1)
  have B1 := k0.trans (hb1.mono k0.size)
  clear k0 b0 hb1
  go_upto_region 3 with (first
    | ((with_reducible refine on_load (.tmp 3) ?_); refine wb_load rfl _ (.tmp 3) rfl st_net rfl bx1 rfl ?_)
    | (go_at_call 11; refine (K1.out _ B1).mono ?_; rintro e w2 ⟨Aa, na, ca, nsa, rfl, hra, oka, sma, nba, hb2⟩)
    | ((with_reducible refine on_alloc ?_); refine wl_newBox rfl _ rfl z_net ?_; intro ga w3 hg3 hl3 bg3 hb3)
    | ((with_reducible refine on_store_at (.tmp 8) ?_); refine wb_store (cs := #[.slice none 0 0]) (cs' := #[.slice Aa na ca]) rfl _ (.tmp 8) _ rfl st_net rfl rfl bg3 rfl rfl (by simp [Value.oneCell']) ?_; intro w4 bx4 hg4))
  have bd4 := hb3.trans (below_of_grown (B := w2.heap.size) hg4 (fun j e => by injection e with e; omega) hb3.size)
  have M4 : HBox w4 ga Aa na ca nsa := ⟨bx4, (hra.step bd4).heap, oka, sma, nba⟩
  have b14 := hb2.trans (bd4.mono hb2.size)
  have B4 := B1.trans (b14.mono B1.size)
  have hr4 := hr.below B4
  clear bd4 b14 bx4 hra oka sma nba hg4 hb3 bg3 hg3 hl3 hb2 B1 bx1 K1 hr
  have hnb := M4.nb
  go_upto_region 4 with fail
  obtain ⟨w5, hw5⟩ : ∃ W, w4.alloc (.cells #[] 40) = W := ⟨_, rfl⟩
  have k5 : Below w4.heap.size w4 w5 := by rw [← hw5]; exact below_alloc w4 (Nat.le_refl _) _
  have o5 : OwM Ru.cs 4 w5 w4.heap.size 40 (some ⟨w4.heap.size, 0, none⟩) 0 0 [] := by rw [← hw5]; exact OwM.lit Ru.cs_length w4 #[] 0 (Nat.le_refl _) (by simp [maxLen]) rfl rfl
  try rw [hw5]
  clear hw5
  go_upto_block 0 with fail
  go_cut [9, 10] (fun s9 s10 wx => ∃ (k c1 : Nat) (A1 : Option Addr), k ≤ 20 ∧ s9 = .slice A1 k c1 ∧ OwM Ru.cs 4 wx w4.heap.size 40 A1 k c1 ((l.take k).map drp) ∧ Below w4.heap.size w4 wx)
  case first =>
    go_wp2
    go_loopw [9, 10] (fun s i wr => ApRel l nl w4 s i wr) (fun _ i _ => 20 - (intOf i).toNat)
    case atStart => exact ⟨0, 0, _, by omega, by omega, rfl, rfl, by simpa using o5, k5⟩
    case round =>
      obtain ⟨k, c1, A1, hk, hk2, rfl, rfl, om, hb⟩ := hrel
      have hrr := hr4.below (hb.mono B4.size)
      by_cases hlt : k < nl ∧ k < 20
      · obtain ⟨hkn, hk20⟩ := hlt
        obtain ⟨x, hx⟩ : ∃ x, l[k]? = some x := ⟨l[k]'(by have := hrr.len; omega), List.getElem?_eq_getElem _⟩
        have Hx := Lib.hid hx
        clear hx
        go_upto_region 8 with (first
          | ((with_reducible refine on_index (.tmp 40) ?_); refine wm_at Ru.cs_length rfl _ (.tmp 40) _ rfl el_rule rfl rfl (by omega) (by omega) hrr ?_; intro b j y hy hbB hc; have hxx : x = y := (by have e := hy.out; rw [Int.toNat_natCast, Hx.out] at e; injection e); subst hxx)
          | ((with_reducible refine on_load (.tmp 42) ?_); refine wr_load rfl _ (.tmp 42) rfl st_rule rfl hc ?_)
          | ((with_reducible refine on_alloc ?_); refine wl_newBox rfl _ rfl z_rule ?_; intro g w6 hg6 hl6 bg6 hb6)
          | ((with_reducible refine on_store_at (.tmp 11) ?_); refine wr_store rfl _ (.tmp 11) _ rfl st_rule (r := ⟨0, 0, 0, 0⟩) rfl rfl bg6 ?_; intro w7 bx7 hg7))
        have hzr : w4.heap.size ≤ wr.heap.size := hb.size
        have k7 : Below wr.heap.size wr w7 := hb6.trans (below_of_grown (B := wr.heap.size) hg7 (fun j e => by injection e with e; omega) hb6.size)
        have om7 := om.below k7
        obtain ⟨y0, y1, y2, y3⟩ := bx7.rule
        have fz2 := bx7.frozen 2
        have S := bx7.setCell 2 (.int .i64 3)
        have bx8 : Box (w7.setCell ⟨g, 2, none⟩ (.int .i64 3)) g 40 (drp x).cs.toArray := S.1
        have k8 : Below wr.heap.size wr (w7.setCell ⟨g, 2, none⟩ (.int .i64 3)) := k7.trans (below_of_grown S.2 (fun j e => by injection e with e; omega) k7.size)
        have om8 := om7.grown S.2 (fun g' hA e => by injection e with e; have := om7.ow.row_ge g' (by rw [hA]; rfl); have := OwM.lt' om (by rw [hA]; rfl : rowOf A1 = some g'); omega)
        go_upto_region 9 with fail
        obtain ⟨w8, hw8⟩ : ∃ W, w7.setCell ⟨g, 2, none⟩ (.int .i64 3) = W := ⟨_, rfl⟩
        rw [hw8] at bx8 k8 om8 ⊢
        clear hw8 S y0 y1 y2 y3 fz2 bx7 om7 k7 hg7 hb6 bg6
        have bx9 : Box w8 g 40 #[.int .u32 x.a, .int .i64 x.n, .int .i64 3, .int .i64 x.next] := bx8
        obtain ⟨W, hW⟩ : ∃ W, w8.alloc (.cells #[.int .u32 x.a, .int .i64 x.n, .int .i64 3, .int .i64 x.next] 40) = W := ⟨_, rfl⟩
        have kW : Below w8.heap.size w8 W := by rw [← hW]; exact below_alloc w8 (Nat.le_refl _) _
        have lW : OwM Ru.cs 4 W w8.heap.size 40 (some ⟨w8.heap.size, 0, none⟩) 1 1 [drp x] := by rw [← hW]; exact OwM.lit Ru.cs_length w8 #[.int .u32 x.a, .int .i64 x.n, .int .i64 3, .int .i64 x.next] 1 (Nat.le_refl _) (by simp [maxLen]) rfl rfl
        have omW := om8.below kW
        have z8 := k8.size
        have zW := kW.size
        have hsn : (l.take (k + 1)).map drp = (l.take k).map drp ++ [drp x] := by rw [List.take_add_one, Hx.out]; simp
        have Hsn := Lib.hid hsn
        clear hsn bx8 om8
        go_wp2_with (first
          | ((with_reducible refine on_load (.tmp 11) ?_); refine wb_load rfl _ (.tmp 11) rfl st_rule rfl bx9 rfl ?_)
          | ((with_reducible refine on_append (.tmp 45) (.tmp 47) ?_); refine wm_append Ru.cs_length rfl (.tmp 45) (.tmp 47) _ rfl el_rule Ru.one rfl omW rfl lW.rd (by omega) (by omega) (by omega) ?_; intro A9 c9 w9 ow9 hg9 hb9))
        have b9 := (hb.trans ((k8.trans (kW.mono z8)).mono hzr)).trans hb9
        rw [← Hsn.out] at ow9
        clear hW lW omW kW Hsn hg9 hb9 k8 bx9 hb om
        go_roundw
        case rel => exact ⟨k + 1, c9, A9, by omega, by omega, by go_num, rfl, ow9, b9⟩
        case measure => simp [intOf]; omega
      · have hways : (k < nl ∧ decide (k < nl) = true ∧ decide (k < 20) = false) ∨ (¬ k < nl ∧ decide (k < nl) = false) := by
          by_cases h : k < nl
          · exact .inl ⟨h, decide_eq_true h, decide_eq_false (by omega)⟩
          · exact .inr ⟨h, decide_eq_false h⟩
        rcases hways with ⟨h, h1, h2⟩ | ⟨h, h1⟩
        all_goals
          go_wp2
          go_meet
          case rel => exact ⟨k, c1, A1, by omega, rfl, om, hb⟩
  case rest =>
    obtain ⟨k, c1, A1, hk20, rfl, om, hb⟩ := hcut
    obtain ⟨lst, hlst⟩ : ∃ lst, (l.take k).map drp = lst := ⟨_, rfl⟩
    rw [hlst] at om
    have hlok : ∀ r ∈ lst, r.Ok ∧ r.act ≠ 1 := fun r hr => by
      rw [← hlst] at hr
      obtain ⟨x, hx, rfl⟩ := List.mem_map.1 hr
      exact ⟨drp_ok (Hok.out x (List.mem_of_mem_take hx)), by simp [drp]⟩
    have Hlok := Lib.hid hlok
    have M5 := M4.step hb
    have B5 := B4.trans (hb.mono B4.size)
    clear hlok hlst hr4 Hok k5 o5 M4 B4
    obtain ⟨W1, hW1⟩ : ∃ W, wc.alloc (.cells #[] 33) = W := ⟨_, rfl⟩
    have kW1 : Below wc.heap.size wc W1 := by rw [← hW1]; exact below_alloc wc (Nat.le_refl _) _
    have eW1 : OwS sv W1 wc.heap.size 33 (some ⟨wc.heap.size, 0, none⟩) 0 0 [] := by rw [← hW1]; exact OwS.lit wc #[] 0 (Nat.le_refl _) (by simp [maxLen]) rfl rfl
    have M6 := M5.step kW1
    have cn : W1.cell? ⟨ga, 0, none⟩ = some (.slice Aa na ca) := M6.box.cell 0
    have nW1 := M6.rd.rd
    have zc : wc.heap.size ≤ W1.heap.size := kW1.size
    obtain ⟨last, hlast⟩ : ∃ x : Nd, (⟨A1, k, c1, lst⟩ : Nd) = x := ⟨_, rfl⟩
    go_upto_region 11 with (first
      | ((with_reducible refine on_append (.tmp 49) (.tmp 51) ?_); refine wl_appendS rfl (.tmp 49) (.tmp 51) _ rfl el_row (f := sv) sv_one rfl eW1 rfl nW1 (by omega) (by omega) (by omega) ?_; intro A2 c2 w2' ow2 hg2 hb2; rw [Nat.zero_add] at ow2; have lit2 : OwS sv (w2'.alloc (.cells #[.slice A1 k c1] 33)) w2'.heap.size 33 (some ⟨w2'.heap.size, 0, none⟩) 1 1 [⟨A1, k, c1, lst⟩] := OwS.lit w2' #[.slice A1 k c1] 1 (Nat.le_refl _) (by simp [maxLen]) rfl rfl; have ow2' := ow2.alloc (.cells #[.slice A1 k c1] 33); have z2 := hb2.size)
      | ((with_reducible refine on_append (.tmp 52) (.tmp 54) ?_); refine wl_appendS rfl (.tmp 52) (.tmp 54) _ rfl el_row (f := sv) sv_one rfl ow2' rfl lit2.rd (by omega) (by omega) (by simp; omega) ?_; intro A3 c3 w3' ow3 hg3 hb3)
      | ((with_reducible refine on_alloc ?_); refine wl_newBox rfl _ rfl z_net ?_; intro gm w6 hg6 hl6 bg6 hb6)
      | ((with_reducible refine on_store_at (.tmp 12) ?_); refine wb_store (cs := #[.slice none 0 0]) (cs' := #[.slice A3 (na + 1) c3]) rfl _ (.tmp 12) _ rfl st_net rfl rfl bg6 rfl rfl (by simp [Value.oneCell']) ?_; intro w7 bx7 hg7))
    have z3 := hb3.size
    have z2' : (w2'.alloc (.cells #[.slice A1 k c1] 33)).heap.size = w2'.heap.size + 1 := by simp
    have bd7 := hb6.trans (below_of_grown (B := w3'.heap.size) hg7 (fun j e => by injection e with e; omega) hb6.size)
    have bT : Below wc.heap.size wc w7 := ((kW1.trans hb2).trans (((below_alloc w2' (B := wc.heap.size) (by omega) (.cells #[.slice A1 k c1] 33)).trans hb3))).trans (bd7.mono (by omega))
    have M7 := M5.step bT
    have om7 := om.below bT
    have row7 := ow3.below bd7
    have B7 := B5.trans (bT.mono B5.size)
    have hml : Nd.ls ([] ++ nsa ++ [last]) = Nd.ls nsa ++ [lst] := by rw [← hlast]; simp [Nd.ls]
    have G7 : GNet w7 A3 (na + 1) c3 ([] ++ nsa ++ [last]) := ⟨⟨by rw [← hlast]; exact row7.rd, fun x hx => by
        simp only [List.nil_append, List.mem_append, List.mem_singleton] at hx
        rcases hx with hx | rfl
        · exact M7.rd.rk x hx
        · rw [← hlast]; exact om7.rd, fun x hx r hr => by
        simp only [List.nil_append, List.mem_append, List.mem_singleton] at hx
        rcases hx with hx | rfl
        · exact M7.rd.ok x hx r hr
        · rw [← hlast] at hr; exact (Hlok.out r hr).1⟩, by omega, fun x hx => by
        simp only [List.nil_append, List.mem_append, List.mem_singleton] at hx
        rcases hx with hx | rfl
        · have := M7.small x hx; omega
        · rw [← hlast]; show k ≤ 1000000; omega⟩
    obtain ⟨ms, hms⟩ : ∃ ms, [] ++ nsa ++ [last] = ms := ⟨_, rfl⟩
    rw [hms] at G7 hml
    have Hstep := Lib.hid (fun u => more_step (ls := Nd.ls nsa) (a := a) (x := lst) (fun r hr => (Hlok.out r hr).2) u)
    have Hml := Lib.hid hml
    have Hkl := Lib.hid om.len
    rw [← hml] at Hstep
    have lm := bx7
    clear hml hms hlast row7 om7 bT bd7 ow3 hg7 hb6 bg6 hg6 hl6 ow2 ow2' lit2 eW1 nW1 kW1 M6 M5 cn om hb B5 Hlok hg2 hb2 hg3 hb3 hW1 lm
    go_upto_region 12 with (first
      | ((with_reducible refine on_load (.tmp 8) ?_); refine wb_load rfl _ (.tmp 8) rfl st_net rfl M7.box rfl ?_)
      | (go_at_call 15; refine (M7.loop a ha).mono ?_; rintro e q1 ⟨Ax, nx, cx, x, ok, rfl, rx, hq1, hx⟩))
    have M8 := M7.step hq1
    have G8 := G7.step hq1
    have bx8 := bx7.step hq1
    have B8 := B7.trans (hq1.mono B7.size)
    clear M7 G7 bx7 B7
    go_upto_region 13 with (first
      | ((with_reducible refine on_load (.tmp 12) ?_); refine wb_load rfl _ (.tmp 12) rfl st_net rfl bx8 rfl ?_)
      | (go_at_call 15; refine (G8.loop a ha).mono ?_; rintro e q2 ⟨Ay, ny, cy, y, ok2, rfl, ry, hq2, hy⟩))
    have M9 := M8.step hq2
    have G9 := G8.step hq2
    have bx9 := bx8.step hq2
    have B9 := B8.trans (hq2.mono B8.size)
    have rx := rx.step hq2
    have hlen := M9.len
    have hxl := lans_len hx
    have hyl := lans_len hy
    rw [rx.len] at hxl
    rw [ry.len] at hyl
    obtain ⟨rfl, rfl⟩ := lans_one Hstep.out (by omega) (by omega) hx hy
    clear hx hy M8 G8 bx8 B8 hq1 hq2
    go_wp2
    go_loopw [17] (fun i wr => VRel na q2 i wr) (fun i _ => na - (intOf i).toNat)
    case atStart => exact ⟨0, by omega, rfl, Below.refl _ _⟩
    case round =>
      obtain ⟨v, hv, rfl, hbv⟩ := hrel
      have Mr := M9.step hbv
      have Gr := G9.step hbv
      have bxr := bx9.step hbv
      have cn : wr.cell? ⟨ga, 0, none⟩ = some (.slice Aa na ca) := Mr.box.cell 0
      by_cases hlt : v < na
      · obtain ⟨⟨s, g⟩, h1⟩ : ∃ p, nstep (Nd.ls nsa) a (v : Int) = p := ⟨_, rfl⟩
        obtain ⟨⟨u, h⟩, h2⟩ : ∃ p, wgo (Nd.ls nsa) a (v : Int) 5 = p := ⟨_, rfl⟩
        have H1 := Lib.hid h1
        have H1' : Hid (nstep (Nd.ls ms) a (v : Int) = (s, g)) := Lib.hid (by rw [← Hstep.out]; exact h1)
        have H2 : Hid (walkT (Nd.ls nsa) a (v : Int) 5 = (u, h)) := Lib.hid (by
          have := walkT_in (K := 5) (ls := Nd.ls nsa) (a := a) (v := (v : Int)) (by rw [hlen]; omega) (by omega)
          rw [show ((5 : Nat) : Int) = 5 from rfl] at this
          rw [this, h2])
        have H2' : Hid (walkT (Nd.ls ms) a (v : Int) 5 = (u, h)) := Lib.hid (by
          have hl2 : (Nd.ls ms).length = na + 1 := by rw [Hml.out]; simp [hlen]
          have := walkT_in (K := 5) (ls := Nd.ls ms) (a := a) (v := (v : Int)) (by rw [hl2]; omega) (by omega)
          rw [show ((5 : Nat) : Int) = 5 from rfl] at this
          rw [this, ← wgo_eq Hstep.out, h2])
        have Hlen := Lib.hid hlen
        clear h1 h2
        go_upto_region 17 with (first
          | ((with_reducible refine on_load (.tmp 8) ?_); refine wb_load rfl _ (.tmp 8) rfl st_net rfl Mr.box rfl ?_)
          | (go_at_call 13; refine (Mr.stp a _ ha s g H1).mono ?_; rintro e p1 ⟨rfl, hp1⟩))
        have Mr := Mr.step hp1
        have Gr := Gr.step hp1
        have bxr := bxr.step hp1
        have hbv := hbv.trans (hp1.mono hbv.size)
        clear hp1 cn
        go_upto_region 18 with (first
          | ((with_reducible refine on_load (.tmp 12) ?_); refine wb_load rfl _ (.tmp 12) rfl st_net rfl bxr rfl ?_)
          | (go_at_call 13; refine (Gr.stp a _ ha s g H1').mono ?_; rintro e p2 ⟨rfl, hp2⟩))
        have Mr := Mr.step hp2
        have Gr := Gr.step hp2
        have bxr := bxr.step hp2
        have hbv := hbv.trans (hp2.mono hbv.size)
        clear hp2
        go_upto_region 19 with (first
          | ((with_reducible refine on_load (.tmp 8) ?_); refine wb_load rfl _ (.tmp 8) rfl st_net rfl Mr.box rfl ?_)
          | (go_at_call 12; refine (Mr.walk a _ _ ha u h H2).mono ?_; rintro e p3 ⟨rfl, hp3⟩))
        have Gr := Gr.step hp3
        have bxr := bxr.step hp3
        have hbv := hbv.trans (hp3.mono hbv.size)
        clear hp3 Mr
        go_upto_region 20 with (first
          | ((with_reducible refine on_load (.tmp 12) ?_); refine wb_load rfl _ (.tmp 12) rfl st_net rfl bxr rfl ?_)
          | (go_at_call 12; refine (Gr.walk a _ _ ha u h H2').mono ?_; rintro e p4 ⟨rfl, hp4⟩))
        have hbv := hbv.trans (hp4.mono hbv.size)
        clear hp4 Gr bxr
        have hss : (s != s) = false := by simp
        have huu : (u != u) = false := by simp
        clear H1 H1' H2 H2' hlen
        cases g <;> cases h
        all_goals go_wp2
        all_goals go_roundw
        all_goals first
          | exact ⟨v + 1, by omega, by go_num, hbv⟩
          | (simp [intOf]; omega)
      · obtain rfl : v = na := by omega
        obtain ⟨sz, hsz⟩ : ∃ s, nsize (Nd.ls nsa) = s := ⟨_, rfl⟩
        have hszb : sz ≤ 200 := by
          have h1 : ∀ l ∈ Nd.ls nsa, l.length ≤ 20 := fun l hl => by
            obtain ⟨x, hx, rfl⟩ := List.mem_map.1 hl
            rw [(Mr.rd.rk x hx).len]
            exact Mr.small x hx
          have h2 := nsize_le h1
          rw [hlen, hsz] at h2
          omega
        have hsz2 : nsize (Nd.ls ms) = sz + k := by rw [Hml.out, more_size, hsz, Hkl.out]
        have KS1 : Hid (∀ q : Step wr.heap.size wr, Calls Try.prog 17 #[.agg #[.slice Aa v ca]] q.w fun e w' => e = .returned (.int .i64 (sz : Int)) ∧ Below q.w.heap.size q.w w') := Lib.hid (fun q => by have := (Mr.gnet.step q.h).size (by rw [hsz]; omega); rw [hsz] at this; exact this)
        have KS2 : Hid (∀ q : Step wr.heap.size wr, Calls Try.prog 17 #[.agg #[.slice A3 (v + 1) c3]] q.w fun e w' => e = .returned (.int .i64 ((sz : Int) + (k : Int))) ∧ Below q.w.heap.size q.w w') := Lib.hid (fun q => by have := (Gr.step q.h).size (by rw [hsz2]; omega); rw [hsz2, show ((sz + k : Nat) : Int) = (sz : Int) + (k : Int) by omega] at this; exact this)
        have KR : Hid (∀ q : Step wr.heap.size wr, Calls Try.prog 16 #[.slice Ax nx cx, .slice Ay ny cy] q.w fun e w' => e = .returned (.bool true) ∧ Below q.w.heap.size q.w w') := Lib.hid (fun q => row_any _ _ _ _ _ _ x x _ (by omega) (by omega) _ _ ((rx.step hbv).step q.h) ((ry.step hbv).step q.h) true (Lib.hid (by simp)))
        have qb8 : ∀ w', Th.Reach wr.heap.size wr w' → w'.cell? ⟨ga, 0, none⟩ = some (.slice Aa v ca) := fun w' h => (Mr.box.step h.below).cell 0
        have qb12 : ∀ w', Th.Reach wr.heap.size wr w' → w'.cell? ⟨gm, 0, none⟩ = some (.slice A3 (v + 1) c3) := fun w' h => (bxr.step h.below).cell 0
        have Bf := B9.trans (hbv.mono B9.size)
        have hee : ((sz : Int) + (k : Int) == (sz : Int) + (k : Int)) = true := by simp
        clear hlen hsz hsz2 Mr Gr bxr M9 G9 bx9 B9 Hkl
        cases ok
        all_goals
          go_upto_region 22 with fail
          refine wp_region_reach (by kernel_rfl) (by kernel_rfl) ?_
          repeat (first | go_big_quiet_skip | ((with_reducible refine onq_load (.tmp 12) ?_); refine wq_nload rfl (.tmp 12) rfl rfl qb12 ?_) | ((with_reducible refine onq_load (.tmp 8) ?_); refine wq_nload rfl (.tmp 8) rfl rfl qb8 ?_) | go_big_quiet_step ((first | (with_reducible exact Calls.reach (KR.out _)) | (with_reducible exact Calls.reach (KS2.out _)) | (with_reducible exact Calls.reach (KS1.out _)))) | quiet_step ((first | (with_reducible exact Calls.reach (KR.out _)) | (with_reducible exact Calls.reach (KS2.out _)) | (with_reducible exact Calls.reach (KS1.out _)))))
          refine wpQuiet_nil ?_
          rintro _ ⟨q, rfl⟩
          have hqw9 := q.h
          obtain ⟨w9, hw9'⟩ : ∃ W, q.w = W := ⟨_, rfl⟩
          rw [hw9'] at hqw9 ⊢
          clear hw9' q
          go_wp2
          go_ret
          exact ⟨rfl, Bf.trans (hqw9.mono Bf.size)⟩
end Go.Proofs.Ytdmkiejaejlajaa
