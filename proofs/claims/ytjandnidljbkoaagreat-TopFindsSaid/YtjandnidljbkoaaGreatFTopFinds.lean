/-
  theseustop.TopFinds, walked.
-/
import Derived.Test.YtjandnidljbkoaaGreatFTpShown
import Derived.Test.YtjandnidljbkoaaGreatFTpMade
namespace Go.Proofs.YtjandnidljbkoaaGreat
open Go.RowKit Go.Th
set_option linter.unusedVariables false
theorem eq_rule (r : Ru) (w : World) : (Op.equalIn 10000 52 (.agg #[.int .u32 r.a, .int .i64 r.n, .int .i64 r.act, .int .i64 r.next]) (.agg #[.int .u32 r.a, .int .i64 r.n, .int .i64 r.act, .int .i64 r.next])).run Tryz.prog w = .ok true w := by
  have hS : Tryz.prog.underlying 52 = some (.struct (Tryz.prog.fieldsOf 52)) := by kernel_rfl
  have hp : Tryz.prog.stoodInHeld 52 = false := by kernel_rfl
  rw [show (10000 : Nat) = 9999 + 1 from rfl, run_equalIn_agg w 9999 52 _ _ hS hp]
  simp only [Program.fieldsOf, Tryz.underlying52]
  go_simp
theorem guard_rule : Tryz.prog.eqGuardType Tryz.prog.depth 52 = false := by kernel_rfl
theorem wl_neqR {ops : Array Oper} {rest : List Oper} {o : Oper} {a : Act} {Q : Exit → Act → World → Prop} {w : World} (hw : Region.wanted o (yielded ops a.tmps) = true) (x y : Operand) {T2 : TypeId} (ho : o.op = .binOp .neq 52 x y T2) (r : Ru) (hx : a.eval x = .agg #[.int .u32 r.a, .int .i64 r.n, .int .i64 r.act, .int .i64 r.next]) (hy : a.eval y = .agg #[.int .u32 r.a, .int .i64 r.n, .int .i64 r.act, .int .i64 r.next])
    (h : wpList Tryz.prog ops Q rest (a.put o.dst (.bool false)) w) : wpList Tryz.prog ops Q (o :: rest) a w := by
  refine wl_run hw (v := .bool false) (w' := w) ?_ h
  have e := eq_rule r w
  simp only [execOp, ho, hx, hy]
  simp [run_eqGuard_agg w .neq 52 x y _ _ guard_rule, run_neq_struct, e]
theorem on_bin (x : Operand) {P : Program} {ops : Array Oper} {Q : Exit → Act → World → Prop} {rest : List Oper} {a : Act} {w : World} {d op T y T2 ty pos af g} (h : wpList P ops Q (⟨d, .binOp op T x y T2, ty, pos, af, g⟩ :: rest) a w) : wpList P ops Q (⟨d, .binOp op T x y T2, ty, pos, af, g⟩ :: rest) a w := h
def TfRel (w : World) (g : Nat) (A : Option Addr) (n c : Nat) (ns : List Nd) (W : World) (i : Value) (wr : World) : Prop :=
  ∃ k : Nat, k ≤ n ∧ i = .int .i64 k ∧ TBox wr g A n c ns ∧ Below g W wr
def TfIn (l : List Ru) (ok : Bool) (jb : Nat) (g gr : Nat) (A : Option Addr) (n c : Nat) (ns : List Nd) (r : Ru) (W : World) (many i : Value) (wr : World) : Prop :=
  ∃ (k q : Nat), k ≤ l.length ∧ q ≤ 1 ∧ i = .int .i64 k ∧ many = .int .i64 q ∧ Hid (q = cntOf ok jb k) ∧ TBox wr g A n c ns ∧ Box wr gr 52 r.cs.toArray ∧ Below g W wr
set_option maxRecDepth 100000 in
set_option maxHeartbeats 4000000 in
theorem topFinds_walk {w : World} (A : Option Addr) (n c : Nat) (ns : List Nd) (ni : NetIn w A n c ns) (a : Int) (ha : 0 ≤ a ∧ a ≤ 4294967295) :
    Calls Tryz.prog 4 #[.agg #[.slice A n c], .int .u32 a] w fun e w' => e = .returned (.bool true) ∧ Below w.heap.size w w' := by
  have K1 := Lib.hid (made_any A n c ns w ni)
  clear ni
  have k0 : Below w.heap.size w (w.alloc (.cells #[.slice A n c] 34)) := below_alloc w (Nat.le_refl _) _
  have b0 := Box.new w #[.slice A n c] 34
  go_enter Tryz.func4, Tryz.ntmps4
  go_upto_region 1 with fail
  obtain ⟨w0, hw0⟩ : ∃ W, w.alloc (.cells #[.slice A n c] 34) = W := ⟨_, rfl⟩
  rw [hw0] at k0 b0 ⊢
  clear hw0
  go_upto_region 2 with (go_at_call 7; refine (shown_any _).mono ?_; rintro e w1 ⟨rfl, hb1⟩; have bx1 := b0.step hb1)
  have B1 := k0.trans (hb1.mono k0.size)
  clear k0 b0 hb1
  go_upto_region 3 with (first
    | ((with_reducible refine on_load (.tmp 2) ?_); refine wb_load rfl _ (.tmp 2) rfl st_net rfl bx1 rfl ?_)
    | (go_at_call 15; refine (K1.out _ B1).mono ?_; rintro e w2 ⟨Aa, na, ca, nsa, rfl, hra, oka, sma, nba, hb2⟩)
    | ((with_reducible refine on_alloc ?_); refine wl_newBox rfl _ rfl z_net ?_; intro ga w3 hg3 hl3 bg3 hb3)
    | ((with_reducible refine on_store_at (.tmp 6) ?_); refine wb_store (cs := #[.slice none 0 0]) (cs' := #[.slice Aa na ca]) rfl _ (.tmp 6) _ rfl st_net rfl rfl bg3 rfl rfl (by simp [Value.oneCell']) ?_; intro w4 bx4 hg4))
  have bd4 := hb3.trans (below_of_grown (B := w2.heap.size) hg4 (fun j e => by injection e with e; omega) hb3.size)
  have M4 : TBox w4 ga Aa na ca nsa := ⟨bx4, (hra.step bd4).heap, oka.may, sma, nba⟩
  have b14 := hb2.trans (bd4.mono hb2.size)
  have B4 := B1.trans (b14.mono B1.size)
  have hgw : w.heap.size ≤ ga := by have := B1.size; have := hb2.size; omega
  clear bd4 b14 bx4 hra oka sma nba hg4 hb3 bg3 hg3 hl3 hb2 B1 bx1 K1
  have hnb := M4.nb
  have hN := M4.net
  have hg := Lib.hid hN.good
  have hpre := Lib.hid hN.pre
  have hdf := Lib.hid hN.diff
  clear hN
  have Hnl := Lib.hid M4.len
  go_wp2
  go_loopw [7] (fun i wr => TfRel w ga Aa na ca nsa w4 i wr) (fun i _ => na - (intOf i).toNat)
  case atStart => exact ⟨0, by omega, rfl, M4, Below.refl _ _⟩
  case round =>
    obtain ⟨k, hk, rfl, M, hb⟩ := hrel
    have y0 : wr.cell? ⟨ga, 0, none⟩ = some (.slice Aa na ca) := M.box.cell 0
    have hgr := M.box.lt
    by_cases hlt : k < na
    · obtain ⟨nd, hnd⟩ : ∃ nd, nsa[k]? = some nd := ⟨nsa[k]'(by have := M.rd.len; omega), List.getElem?_eq_getElem _⟩
      have hmem := List.mem_of_getElem? hnd
      have hml : nd.l ∈ Nd.ls nsa := List.mem_map.2 ⟨nd, hmem, rfl⟩
      have hsm := M.small nd hmem
      have hrow := M.rd.rk nd hmem
      have hlen := hrow.len
      have hpr := hpre.out nd.l hml
      obtain ⟨r, ok, hf⟩ : ∃ r ok, tfind nd.l a = (r, ok) := ⟨_, _, rfl⟩
      obtain ⟨jb, hjb, hlaw⟩ := finds (hg.out nd.l hml) hf
      have K2 := Lib.hid (tbuild_any nd.A nd.n nd.c nd.l wr (by omega) _ hrow hpr (hdf.out nd.l hml))
      have Hnd := Lib.hid hnd
      have Hf := Lib.hid hf
      have Hlaw := Lib.hid hlaw
      have Hjb := Lib.hid hjb
      have Hpr := Lib.hid hpr
      have Hml := Lib.hid hml
      have rrow := M.rd.rd
      clear hnd hml hf hlaw hjb hpr hmem hrow
      go_upto_region 7 with (first
        | ((with_reducible refine on_index (.tmp 27) ?_); refine wn_at rfl _ (.tmp 27) _ rfl el_row rfl rfl (by omega) (by omega) rrow ?_; intro b1 j1 y1 hy1 hbB1 hc1; have hxx : nd = y1 := get_eq Hnd.out hy1.out (by omega); subst hxx)
        | (go_at_call 16; refine (K2.out).mono ?_; rintro e w5 ⟨gt, t, size, rfl, hT, hbt, hb5⟩))
      have s5 := hb5.size
      have M5 := M.step hb5
      have trO : TrOf w5 wr.heap.size gt nd.l := ⟨t, size, hT, hbt, hdf.out nd.l Hml.out⟩
      have y5 : w5.cell? ⟨ga, 0, none⟩ = some (.slice Aa na ca) := M5.box.cell 0
      have rrow5 := M5.rd.rd
      have K3 := Lib.hid (find_any nd.A nd.n nd.c nd.l a w5 (by omega) _ (M5.rd.rk nd (List.mem_of_getElem? Hnd.out)) (fun r hr => (Hpr.out r hr).1) ha)
      rw [Hf.out] at K3
      clear hT hbt K2 y0 rrow
      go_upto_region 10 with (first
        | ((with_reducible refine on_index (.tmp 36) ?_); refine wn_at rfl _ (.tmp 36) _ rfl el_row rfl rfl (by omega) (by omega) rrow5 ?_; intro b2 j2 y2 hy2 hbB2 hc2; have hxx : nd = y2 := get_eq Hnd.out hy2.out (by omega); subst hxx)
        | (go_at_call 17; refine (K3.out).mono ?_; rintro e w6 ⟨rfl, hb6⟩)
        | ((with_reducible refine on_alloc ?_); refine wl_newBox rfl _ rfl z_rule ?_; intro gr w7 hgr hlr bgr hb7)
        | ((with_reducible refine on_store_at (.tmp 9) ?_); refine wb_store (cs := #[.int .u32 0, .int .i64 0, .int .i64 0, .int .i64 0]) (cs' := #[.int .u32 r.a, .int .i64 r.n, .int .i64 r.act, .int .i64 r.next]) rfl _ (.tmp 9) _ rfl st_rule rfl rfl bgr rfl rfl (by simp [Value.oneCell']) ?_; intro w8 bx8 hg8))
      have K8 : Below w5.heap.size w5 w8 := hb6.trans ((hb7.mono hb6.size).trans (below_of_grown (B := w5.heap.size) hg8 (fun j e => by injection e with e; have := hb6.size; omega) (by have := hb6.size; have := hb7.size; omega)))
      have s8 := K8.size
      have M8 := M5.step K8
      have hgr8 : ga < gr := by have := M5.box.lt; have := hb6.size; omega
      have K4 := Lib.hid (find_of gt wr.heap.size nd.l a w8 (trO.step K8) ha r ok Hf.out)
      have B8 : Below ga w4 w8 := hb.trans ((hb5.mono (by omega)).trans (K8.mono (by omega)))
      clear hb7 hb6 hg8 bgr hlr hgr K3 K8 trO M5 M y5 rrow5 hb5 s5 hb
      go_upto_region 13 with (first
        | (go_at_call 18; refine (K4.out).mono ?_; rintro e w9 ⟨rfl, hb9⟩; have bx9 := bx8.step hb9)
        | ((with_reducible refine on_alloc ?_); refine wl_newBox rfl _ rfl z_rule ?_; intro gs w10 hgs hls bgs hb10; have bx10 := bx9.step hb10)
        | ((with_reducible refine on_store_at (.tmp 11) ?_); refine wb_store (cs := #[.int .u32 0, .int .i64 0, .int .i64 0, .int .i64 0]) (cs' := #[.int .u32 r.a, .int .i64 r.n, .int .i64 r.act, .int .i64 r.next]) rfl _ (.tmp 11) _ rfl st_rule rfl rfl bgs rfl rfl (by simp [Value.oneCell']) ?_; intro w11 bs11 hg11; have bx11 := bx10.grown hg11 (fun e => by injection e with e; have := bx9.lt; omega))
        | ((with_reducible refine on_load (.tmp 9) ?_); refine wb_load rfl _ (.tmp 9) rfl st_rule rfl bx11 rfl ?_)
        | ((with_reducible refine on_load (.tmp 11) ?_); refine wb_load rfl _ (.tmp 11) rfl st_rule rfl bs11 rfl ?_)
        | ((with_reducible refine on_bin (.tmp 50) ?_); refine wl_neqR rfl (.tmp 50) _ rfl r rfl rfl ?_))
      have K11 : Below w8.heap.size w8 w11 := hb9.trans ((hb10.mono hb9.size).trans (below_of_grown (B := w8.heap.size) hg11 (fun j e => by injection e with e; have := hb9.size; omega) (by have := hb9.size; have := hb10.size; omega)))
      have M11 := M8.step K11
      have l8 := bx8.lt
      have B11 : Below ga w4 w11 := B8.trans (K11.mono (by omega))
      clear hb9 hb10 hg11 bgs hls hgs K11 M8 B8 bx8 bx9 bx10 bs11 K4
      have hlen2 : nd.l.length = nd.n := hlen
      go_wp2
      go_loopw [13, 14] (fun m i wr => TfIn nd.l ok jb ga gr Aa na ca nsa r w4 m i wr) (fun _ i _ => nd.n - (intOf i).toNat)
      case atStart => exact ⟨0, 0, by omega, by omega, rfl, rfl, Lib.hid (by simp [cntOf]), M11, bx11, B11⟩
      case round =>
        clear B11 M11 bx11
        obtain ⟨j, q, hj, hq, rfl, rfl, hc, M, bx, hb⟩ := hrel
        have y0 : wr.cell? ⟨ga, 0, none⟩ = some (.slice Aa na ca) := M.box.cell 0
        have rrow := M.rd.rd
        have rl := M.rd.rk nd (List.mem_of_getElem? Hnd.out)
        have hgr' := M.box.lt
        by_cases hlj : j < nd.n
        · obtain ⟨t, ht⟩ : ∃ t, nd.l[j]? = some t := ⟨nd.l[j]'(by omega), List.getElem?_eq_getElem _⟩
          have hok3 := (Hpr.out t (List.mem_of_getElem? ht)).1
          have hways := Hlaw.out j t ht
          have KH := Lib.hid (fun W => holds_any t.a t.n a W hok3.a hok3.n ha)
          have Ht := Lib.hid ht
          clear ht hok3
          go_upto_region 18 with (first
            | ((with_reducible refine on_index (.tmp 60) ?_); refine wn_at rfl _ (.tmp 60) _ rfl el_row rfl rfl (by omega) (by omega) rrow ?_; intro b3 j3 y3 hy3 hbB3 hc3; have hxx : nd = y3 := get_eq Hnd.out hy3.out (by omega); subst hxx)
            | ((with_reducible refine on_index (.tmp 69) ?_); refine wn_at rfl _ (.tmp 69) _ rfl el_row rfl rfl (by omega) (by omega) rrow ?_; intro b4 j4 y4 hy4 hbB4 hc4; have hxx : nd = y4 := get_eq Hnd.out hy4.out (by omega); subst hxx)
            | ((with_reducible refine on_index (.tmp 72) ?_); refine wm_at Ru.cs_length rfl _ (.tmp 72) _ rfl el_rule rfl rfl (by omega) (by omega) rl ?_; intro b5 j5 r5 hr5 hb5 hc5; have hxx : t = r5 := get_eq Ht.out hr5.out (by omega); subst hxx)
            | ((with_reducible refine on_load (.tmp 74) ?_); refine wr_load rfl _ _ rfl st_rule rfl hc5 ?_)
            | ((with_reducible refine on_alloc ?_); refine wl_newBox rfl _ rfl z_rule ?_; intro gx w5 hgx hlx bgx hb5)
            | ((with_reducible refine on_store_at (.tmp 15) ?_); refine wb_store (cs := #[.int .u32 0, .int .i64 0, .int .i64 0, .int .i64 0]) (cs' := #[.int .u32 t.a, .int .i64 t.n, .int .i64 t.act, .int .i64 t.next]) rfl _ (.tmp 15) _ rfl st_rule rfl rfl bgx rfl rfl (by simp [Value.oneCell']) ?_; intro w6 bx6 hg6))
          have K6 : Below wr.heap.size wr w6 := hb5.trans (below_of_grown (B := wr.heap.size) hg6 (fun j e => by injection e with e; omega) (by have := hb5.size; omega))
          have M6 := M.step K6
          have bx6r := bx.step K6
          have B6 : Below ga w4 w6 := hb.trans (K6.mono (by omega))
          have z0 : w6.cell? ⟨gx, 0, none⟩ = some (.int .u32 t.a) := bx6.cell 0
          have z1 : w6.cell? ⟨gx, 1, none⟩ = some (.int .i64 t.n) := bx6.cell 1
          have z9 : w6.cell? ⟨gr, 1, none⟩ = some (.int .i64 r.n) := bx6r.cell 1
          clear hb5 hg6 bgx hlx hgx K6 M bx hb y0 rrow rl
          rcases hways with ⟨hh, hce⟩ | ⟨rfl, hh, hlt2, hce⟩ | ⟨rfl, hh, rfl, hc0, hce⟩
          · go_wp2_with (go_at_call 19; refine (KH.out _).mono ?_; rw [hh]; rintro e w7 ⟨rfl, rfl⟩)
            go_roundw
            case rel => exact ⟨j + 1, q, by omega, hq, by go_num, rfl, Lib.hid (by rw [hce]; exact hc.out), M6, bx6r, B6⟩
            case measure => simp [intOf]; omega
          · have n1 : decide (r.n < t.n) = false := by simp; omega
            have n2 : (t.n == r.n) = false := by simp; omega
            go_wp2_with (go_at_call 19; refine (KH.out _).mono ?_; rw [hh]; rintro e w7 ⟨rfl, rfl⟩)
            go_roundw
            case rel => exact ⟨j + 1, q, by omega, hq, by go_num, rfl, Lib.hid (by rw [hce]; exact hc.out), M6, bx6r, B6⟩
            case measure => simp [intOf]; omega
          · have n1 : decide (r.n < r.n) = false := by simp
            have n2 : (r.n == r.n) = true := by simp
            have hq0 : q = 0 := by rw [hc.out, hc0]
            subst hq0
            go_wp2_with (go_at_call 19; refine (KH.out _).mono ?_; rw [hh]; rintro e w7 ⟨rfl, rfl⟩)
            go_roundw
            case rel => exact ⟨j + 1, 1, by omega, by omega, by go_num, by go_num, Lib.hid (by rw [hce]), M6, bx6r, B6⟩
            case measure => simp [intOf]; omega
        · have hjn : j = nd.l.length := by omega
          have hqq : q = if ok = true then 1 else 0 := by
            rw [hc.out, hjn]
            unfold cntOf
            cases ok with
            | false => simp
            | true => have := Hjb.out rfl; simp; omega
          have Hqq := Lib.hid hqq
          clear hqq hjn bx
          cases ok with
          | false =>
            obtain rfl : q = 0 := by have := Hqq.out; simpa using this
            clear Hqq
            go_wp2_with ((with_reducible refine on_index (.tmp 60) ?_); refine wn_at rfl _ (.tmp 60) _ rfl el_row rfl rfl (by omega) (by omega) rrow ?_; intro b3 j3 y3 hy3 hbB3 hc3; have hxx : nd = y3 := get_eq Hnd.out hy3.out (by omega); subst hxx)
            go_roundw
            case rel => exact ⟨k + 1, by omega, by go_num, M, hb⟩
            case measure => simp [intOf]; omega
          | true =>
            obtain rfl : q = 1 := by have := Hqq.out; simpa using this
            clear Hqq
            go_wp2_with ((with_reducible refine on_index (.tmp 60) ?_); refine wn_at rfl _ (.tmp 60) _ rfl el_row rfl rfl (by omega) (by omega) rrow ?_; intro b3 j3 y3 hy3 hbB3 hc3; have hxx : nd = y3 := get_eq Hnd.out hy3.out (by omega); subst hxx)
            go_roundw
            case rel => exact ⟨k + 1, by omega, by go_num, M, hb⟩
            case measure => simp [intOf]; omega
    · go_wp2
      go_ret
      exact ⟨rfl, B4.trans (hb.mono hgw)⟩
end Go.Proofs.YtjandnidljbkoaaGreat
