/-
  theseusref10: the network of bytes.
-/
import Derived.Test.YtgapcmodhcdebaaNfRefPut
namespace Go.Proofs.Ytgapcmodhcdebaa
open Go.RowKit Go.Th
set_option linter.unusedVariables false
/-- The rule that bytes begin with, by the reference. -/
theorem rtake_rule (A : Option Addr) (n c : Nat) (w : World) (hn : n ≤ 1000000) (bs : List UInt8) (hr : RdS bv w w.heap.size A n c bs) (r : Ru) (t : List UInt8) (er : Int) (h : rdr bs = (r, t, er)) :
    Calls Try.prog 61 #[.slice A n c] w (RetRu r er w) ∧ (er = 0 → 8 ≤ n ∧ t = bs.drop 8) := by
  have hlen := hr.len
  unfold rdr at h
  by_cases h8 : n < 8
  · rw [if_pos (by omega)] at h
    obtain ⟨rfl, rfl, rfl⟩ : Ru.zero = r ∧ [] = t ∧ 2 = er := by injection h with a b; injection b with b c; exact ⟨a, b, c⟩
    exact ⟨rruleTake_short A n c w h8, fun h => by cases h⟩
  · rw [if_neg (by omega)] at h
    obtain ⟨rfl, rfl, rfl⟩ : rtk bs = r ∧ bs.drop 8 = t ∧ 0 = er := by injection h with a b; injection b with b c; exact ⟨a, b, c⟩
    exact ⟨rruleTake A n c w bs hr (by omega) hn, fun _ => ⟨by omega, rfl⟩⟩
def RrRel (bs : List UInt8) (n cnt : Nat) (w : World) (b l i : Value) (wr : World) : Prop :=
  ∃ (k : Nat) (Ab : Option Addr) (nb cb : Nat) (t : List UInt8) (A : Option Addr) (m c : Nat) (acc : List Ru), k ≤ cnt ∧ i = .int .i64 k ∧ b = .slice Ab nb cb ∧ l = .slice A m c ∧ RdS bv wr w.heap.size Ab nb cb t ∧ nb ≤ n ∧ m ≤ k ∧ OwM Ru.cs 4 wr w.heap.size 47 A m c acc ∧ Hid (goT rdr cnt [] bs = goT rdr (cnt - k) acc t) ∧ Below w.heap.size w wr
set_option maxRecDepth 100000 in
set_option maxHeartbeats 4000000 in
theorem rnode_any (A : Option Addr) (n c : Nat) (w : World) (hn : n ≤ 1000000) (bs : List UInt8) (hr : RdS bv w w.heap.size A n c bs) (ls : List Ru) (er : Int) (h : allT rdr 4096 bs = (ls, er)) :
    Calls Try.prog 36 #[.slice A n c] w (fun e w' => ∃ A' m c', e = .returned (.tuple #[.slice A' m c', .int .i64 er]) ∧ OwM Ru.cs 4 w' w.heap.size 47 A' m c' ls ∧ Below w.heap.size w w') := by
  have hlen := hr.len
  have hcap := hr.cap
  have hgt := rgtake_any A n c w (by omega) _ bs hr
  have hwhat := gtake_what bs
  by_cases h1 : (gtake bs).2.2 = 0
  rotate_left
  · rw [allT_err h1] at h
    obtain ⟨rfl, rfl⟩ : [] = ls ∧ (gtake bs).2.2 = er := by injection h with a b; exact ⟨a, b⟩
    obtain ⟨t3, ht3⟩ : ∃ t3, gtake bs = t3 := ⟨_, rfl⟩
    rw [ht3] at h1 hgt ⊢
    have he : (t3.2.2 != 0) = true := by simpa using h1
    have Hgt := Lib.hid hgt
    clear h hgt hwhat h1 ht3
    go_enter Try.func36, Try.ntmps36
    go_wp2_with (go_at_call 34; refine (Hgt.out).mono ?_; rintro e w1 ⟨rfl, rfl⟩)
    go_ret2
    exact ⟨none, 0, 0, rfl, OwM.nil_ _ _ _, Below.refl _ _⟩
  · obtain ⟨cnt, used, hg, hc, hu1, hu2, hu3, _⟩ : ∃ cnt used, gtake bs = (cnt, used, 0) ∧ cnt < 268435456 ∧ 1 ≤ used ∧ used ≤ bs.length ∧ used ≤ 4 ∧ True := by
      rcases hwhat with h2 | h2 | ⟨a, b, h2, h3, h4, h5, h6, _⟩
      · rw [h2.1] at h1; cases h1
      · rw [h2] at h1; cases h1
      · exact ⟨a, b, h2, h3, h4, h5, h6, trivial⟩
    rw [hg] at hgt
    have Hgt := Lib.hid hgt
    by_cases hm : 4096 < cnt
    · rw [allT_many h1 (by rw [hg]; exact hm)] at h
      obtain ⟨rfl, rfl⟩ : [] = ls ∧ 12 = er := by injection h with a b; exact ⟨a, b⟩
      have hd : decide ((4096 : Int) < (cnt : Int)) = true := decide_eq_true (by omega)
      clear h hgt hwhat h1 hg
      go_enter Try.func36, Try.ntmps36
      go_wp2_with (go_at_call 34; refine (Hgt.out).mono ?_; rintro e w1 ⟨rfl, rfl⟩)
      go_ret2
      exact ⟨none, 0, 0, rfl, OwM.nil_ _ _ _, Below.refl _ _⟩
    · rw [allT_go h1 (by rw [hg]; exact hm), hg] at h
      have H := Lib.hid h
      have hd : decide ((4096 : Int) < (cnt : Int)) = false := decide_eq_false (by omega)
      have r0 := cut_l hr used (by omega)
      clear h hgt hwhat h1 hg
      go_enter Try.func36, Try.ntmps36
      go_wp2_with (first
        | (go_at_call 34; refine (Hgt.out).mono ?_; rintro e w1 ⟨rfl, rfl⟩)
        | ((with_reducible refine on_slice (.tmp 22) ?_); refine wl_cut_lx rfl _ _ el_u8 rfl hcap _ rfl rfl used (by omega) ?_))
      obtain ⟨b0, hb0⟩ : ∃ b0, bs.drop used = b0 := ⟨_, rfl⟩
      rw [hb0] at r0 H
      clear hb0
      go_loopw [0, 7, 8] (fun b l i wr => RrRel b0 n cnt w b l i wr) (fun _ _ i _ => cnt - (intOf i).toNat)
      case atStart => exact ⟨0, _, _, _, b0, _, 0, 0, [], by omega, rfl, rfl, rfl, r0.alloc _, by omega, by omega, OwM.lit (base := w.heap.size) (e := 47) (xs := []) Ru.cs_length w #[] 0 (Nat.le_refl _) (by simp [maxLen]) rfl rfl, Lib.hid rfl, below_alloc w (Nat.le_refl _) _⟩
      case round =>
        obtain ⟨k, Ab, nb, cb, t, A1, m, c1, acc, hk, rfl, rfl, rfl, rb, hnb, hmk, ow, hgo, hb⟩ := hrel
        have hz := hb.size
        have htl := rb.len
        by_cases hlt : k < cnt
        · obtain ⟨x, hx⟩ : ∃ x, rdr t = x := ⟨_, rfl⟩
          have hfx := rdr_fit t
          rw [hx] at hfx
          obtain ⟨r, t2, e2⟩ := x
          have hK := rtake_rule Ab nb cb wr (by omega) t (rb.more hz) r t2 e2 hx
          have K := Lib.hid hK.1
          have hcb := rb.cap
          by_cases he : e2 = 0
          · subst he
            obtain ⟨h8, ht2⟩ := hK.2 rfl
            have Ht2 := Lib.hid ht2
            have hgo2 := hgo.out
            rw [show cnt - k = (cnt - (k + 1)) + 1 by omega, goT_go (by rw [hx]), hx] at hgo2
            have Hgo2 := Lib.hid hgo2
            have hle := rdr_le t
            rw [hx] at hle
            have Hle := Lib.hid hle
            clear hgo2 hgo hx hle hfx hK ht2
            go_wp2_with (first
              | (go_at_call 61; refine (K.out).mono ?_; rintro e w2 ⟨rfl, hb2⟩; have ow2 := ow.below hb2)
              | ((with_reducible refine on_alloc ?_); refine wl_newBox rfl _ rfl z_rule ?_; intro g3 w3 hg3 hl3 b3 hb3; have ow3 := ow2.below hb3)
              | ((with_reducible refine on_store_at (.tmp 9) ?_); refine wr_store (r := Ru.zero) (s := r) rfl _ (.tmp 9) _ rfl st_rule rfl rfl b3 ?_; intro w4 b4 hg4; have B4 : Below w2.heap.size w2 w4 := hb3.trans (below_of_grown hg4 (fun j e => by injection e with e; omega) hb3.size); have ow4 := ow2.below B4)
              | ((with_reducible refine on_load (.tmp 9) ?_); refine wr_box rfl _ _ rfl st_rule rfl b4 ?_)
              | ((with_reducible refine on_append (.tmp 39) (.tmp 41) ?_); refine wm_append Ru.cs_length rfl (.tmp 39) (.tmp 41) _ rfl el_rule Ru.one rfl (ow4.alloc _) rfl (OwM.lit' (base := w4.heap.size) (e := 47) (xs := [r]) Ru.cs_length w4 _ 1 _ rfl (Nat.le_refl _) (by simp [maxLen]) rfl rfl).rd (by omega) (by omega) (by have := hb2.size; have := B4.size; simp; omega) ?_; intro A8 c8 w8 ow8 hg8 hb8)
              | ((with_reducible refine on_slice (.tmp 43) ?_); refine wl_cut_lx rfl _ _ el_u8 rfl hcb _ rfl rfl 8 (by omega) ?_))
            have B24 := hb2.trans (B4.mono hb2.size)
            have B5 := B24.trans ((below_alloc w4 (Nat.le_refl _) (.cells #[.int .u32 r.a, .int .i64 r.n, .int .i64 r.act, .int .i64 r.next] 47)).mono B24.size)
            have B8 := (hb.trans (B5.mono hz)).trans hb8
            have rb8 : RdS bv w8 w.heap.size (cutA Ab 8 cb) (nb - 8) (cb - 8) t2 := by rw [Ht2.out]; exact cut_l (rb.below ((B5.mono hz).trans hb8)) 8 h8
            go_roundw
            case rel => exact ⟨k + 1, _, _, _, t2, A8, _, c8, _, by omega, by go_num, rfl, rfl, rb8, by have := rb8.len; have h5 : t2.length ≤ t.length := Hle.out; omega, by omega, ow8, Hgo2, B8⟩
            case measure => simp [intOf]; omega
          · have hgo2 := hgo.out
            rw [H.out, show cnt - k = (cnt - (k + 1)) + 1 by omega, goT_stop (by rw [hx]; exact he), hx] at hgo2
            obtain ⟨rfl, rfl⟩ : ls = [] ∧ er = e2 := by injection hgo2 with a b; exact ⟨a, b⟩
            have he2 : (er != 0) = true := by simpa using he
            clear hgo2 hgo hx hfx H he hK
            go_wp2_with (first
              | (go_at_call 61; refine (K.out).mono ?_; rintro e w2 ⟨rfl, hb2⟩)
              | ((with_reducible refine on_alloc ?_); refine wl_newBox rfl _ rfl z_rule ?_; intro g3 w3 hg3 hl3 b3 hb3)
              | ((with_reducible refine on_store_at (.tmp 9) ?_); refine wr_store (r := Ru.zero) (s := r) rfl _ (.tmp 9) _ rfl st_rule rfl rfl b3 ?_; intro w4 b4 hg4; have B4 : Below w2.heap.size w2 w4 := hb3.trans (below_of_grown hg4 (fun j e => by injection e with e; omega) hb3.size)))
            go_ret2
            exact ⟨none, 0, 0, rfl, OwM.nil_ _ _ _, hb.trans ((hb2.trans (B4.mono hb2.size)).mono hz)⟩
        · obtain rfl : k = cnt := by omega
          have hgo2 := hgo.out
          rw [H.out, Nat.sub_self] at hgo2
          by_cases ht : t = []
          · subst ht
            rw [goT_end] at hgo2
            obtain ⟨rfl, rfl⟩ : ls = acc ∧ er = 0 := by injection hgo2 with a b; exact ⟨a, b⟩
            have hnb0 : nb = 0 := by simpa using htl.symm
            subst hnb0
            clear hgo2 hgo H
            go_wp2
            go_ret2
            exact ⟨A1, m, c1, rfl, ow, hb⟩
          · rw [goT_more ht] at hgo2
            obtain ⟨rfl, rfl⟩ : ls = [] ∧ er = 4 := by injection hgo2 with a b; exact ⟨a, b⟩
            have hnb0 : 0 < nb := by rw [← htl]; exact List.length_pos_iff.2 ht
            have hd2 : decide ((0 : Int) < (nb : Int)) = true := decide_eq_true (by omega)
            clear hgo2 hgo H
            go_wp2
            go_ret2
            exact ⟨none, 0, 0, rfl, OwM.nil_ _ _ _, hb⟩
theorem results_cell1 {P : Program} {fn : Func} {p u : Tmp} {ty : TypeId} (h : fn.results = #[.cell p ty, .tmp u]) (tmps : Array Value) (w : World) (g : Nat) (t : TypeId) (cs : Array Value) (fr : Nat × Nat) (d : TypeDesc)
    (hp : tmps.getD p undef = .pointer (some ⟨g, 0, none⟩)) (hg : w.heap[g]? = some (.cells cs t fr)) {U : Value} (hu2 : tmps.getD u undef = U)
    (hu : P.underlying ty = some d) (hd : (match d with | .struct _ | .array _ _ => true | _ => false) = true) (hi : (P.info? ty).map (·.size) = some cs.size) :
    (results fn tmps).run P w = .ok (.tuple #[.agg cs, U]) w := by
  have hp' : tmps[p]?.getD undef = .pointer (some ⟨g, 0, none⟩) := by simpa using hp
  have hu' : tmps[u]?.getD undef = U := by simpa using hu2
  simp [results, h, hp', hu', asAddr, run_loadVar_row w g t ty cs fr d hg hu hd hi]
/-- The bytes still to be read: from ahead of the box, or the call's own. -/
def BR2 (w : World) (B g : Nat) (A : Option Addr) (n c : Nat) (bs : List UInt8) : Prop := RdS bv w B A n c bs ∨ OwS bv w (g + 1) 5 A n c bs
theorem BR2.rd {w : World} {B g : Nat} {A : Option Addr} {n c : Nat} {bs : List UInt8} (h : BR2 w B g A n c bs) (hb : B ≤ w.heap.size) : RdS bv w w.heap.size A n c bs := by
  rcases h with h | h
  · exact h.more hb
  · exact h.rd
theorem BR2.len {w : World} {B g : Nat} {A : Option Addr} {n c : Nat} {bs : List UInt8} (h : BR2 w B g A n c bs) : bs.length = n := by
  rcases h with h | h
  · exact h.len
  · exact h.len
theorem rn_below {w w8 w9 : World} {gr : Nat} (h : Below w.heap.size w w8) (hg : w8.grownBy w9 (some gr)) (hr : w.heap.size ≤ gr) : Below w.heap.size w w9 := h.trans (below_of_grown hg (fun j e => by injection e with e; omega) h.size)
def RnRel (bs : List UInt8) (n cnt B g gr : Nat) (w1 : World) (b i : Value) (wr : World) : Prop :=
  ∃ (k : Nat) (Ab : Option Addr) (nb cb : Nat) (t : List UInt8) (A : Option Addr) (c : Nat) (ns : List Nd), k ≤ cnt ∧ i = .int .i64 k ∧ b = .slice Ab nb cb ∧ Box wr g 24 #[.slice A k c] ∧ Box wr gr 24 #[.slice none 0 0] ∧ BR2 wr B g Ab nb cb t ∧ nb ≤ n ∧ NO 42 47 wr (g + 1) A k c ns ∧ Hid (goT nodeT cnt [] bs = goT nodeT (cnt - k) (Nd.ls ns) t) ∧ Below B w1 wr
set_option maxRecDepth 100000 in
set_option maxHeartbeats 4000000 in
theorem rnettake_any (A : Option Addr) (n c : Nat) (w : World) (hn : n ≤ 1000000) (bs : List UInt8) (hr : RdS bv w w.heap.size A n c bs) (t : List (List Ru) × Int) (ht : Hid (ntk bs = t)) :
    Calls Try.prog 16 #[.slice A n c] w (RetNet t w) := by
  obtain ⟨fr, hfr⟩ : ∃ fr, ftake 1179206193 bs = fr := ⟨_, rfl⟩
  have htk := ht.out
  unfold ntk at htk
  rw [hfr] at htk
  obtain ⟨bi, ef⟩ := fr
  have hbl : bi.length ≤ bs.length := by
    have : bi = (ftake 1179206193 bs).1 := by rw [hfr]
    rw [this]
    unfold ftake
    split
    · simp
    · split
      · split
        · simp only [List.length_drop, List.length_take]; omega
        · simp
      · simp
  have hlen := hr.len
  have Htk := Lib.hid htk
  clear htk ht
  go_enter Try.func16, Try.ntmps16
  go_upto_region 1 with ((with_reducible refine on_alloc ?_); refine wl_newBox rfl _ rfl z_net ?_; intro gr w1 hgr hlr br hb1)
  have hr1 := (hr.step hb1).heap
  have hgrw : w.heap.size ≤ gr := by omega
  have K1 := Lib.hid (rftake_isA 1179206193 (by omega) 1179206193 rfl A n c w1 hn bs hr1 bi ef hfr)
  clear hr1 hr hfr
  go_upto_region 2 with (go_at_call 33; refine (K1.out).mono ?_; rintro e w3 ⟨A3, n3, c3, rfl, ow3, hb3⟩)
  have br3 := br.step hb3
  have k3 : Below w.heap.size w w3 := hb1.trans (hb3.mono hb1.size)
  have hl3 := ow3.len
  have hc3 := ow3.rd.cap
  clear K1 br hb1
  by_cases h0 : ef = 0
  rotate_left
  · have htk := Htk.out
    try simp only at htk
    rw [if_pos h0] at htk
    subst htk
    have he : (ef != 0) = true := by simpa using h0
    clear Htk h0
    go_wp2_with ((with_reducible refine on_store_at (.tmp 2) ?_); refine wb_store (cs := #[.slice none 0 0]) (cs' := #[.slice none 0 0]) rfl _ (.tmp 2) _ rfl st_net rfl rfl br3 rfl rfl (by simp [Value.oneCell']) ?_; intro w9 b9 hg9)
    refine bodyPost_ret (v := .tuple #[.agg #[.slice none 0 0], .int .i64 ef]) ?_ rfl ⟨none, 0, 0, [], rfl, NRd.nil _ _, rfl, rn_below k3 hg9 hgrw⟩
    exact results_cell1 rfl _ w9 gr 24 _ (0, 0) _ rfl b9.at_ rfl Try.underlying24 rfl st_net.size
  subst h0
  have htk := Htk.out
  try simp only at htk
  rw [if_neg (by simp)] at htk
  unfold inT netT at htk
  have K2 := Lib.hid (rgtake_any A3 n3 c3 w3 (by omega) _ bi ow3.rd)
  have hwhat := gtake_what bi
  clear Htk
  by_cases h1 : (gtake bi).2.2 = 0
  rotate_left
  · rw [allT_err h1] at htk
    obtain ⟨t3, ht3⟩ : ∃ t3, gtake bi = t3 := ⟨_, rfl⟩
    rw [ht3] at h1 K2 htk
    try simp only at htk
    rw [if_pos h1] at htk
    subst htk
    obtain ⟨ta, tb, te⟩ := t3
    have he : (te != 0) = true := by simpa using h1
    try simp only at *
    clear hwhat ht3 h1
    go_wp2_with (first
      | (go_at_call 34; refine (K2.out).mono ?_; rintro e w4 ⟨rfl, rfl⟩)
      | ((with_reducible refine on_store_at (.tmp 2) ?_); refine wb_store (cs := #[.slice none 0 0]) (cs' := #[.slice none 0 0]) rfl _ (.tmp 2) _ rfl st_net rfl rfl br3 rfl rfl (by simp [Value.oneCell']) ?_; intro w9 b9 hg9))
    refine bodyPost_ret (v := .tuple #[.agg #[.slice none 0 0], .int .i64 te]) ?_ rfl ⟨none, 0, 0, [], rfl, NRd.nil _ _, rfl, rn_below k3 hg9 hgrw⟩
    exact results_cell1 rfl _ w9 gr 24 _ (0, 0) _ rfl b9.at_ rfl Try.underlying24 rfl st_net.size
  obtain ⟨cnt, used, hg, hc, hu1, hu2, hu3, _⟩ : ∃ cnt used, gtake bi = (cnt, used, 0) ∧ cnt < 268435456 ∧ 1 ≤ used ∧ used ≤ bi.length ∧ used ≤ 4 ∧ True := by
    rcases hwhat with h2 | h2 | ⟨a, b, h2, h3, h4, h5, h6, _⟩
    · rw [h2.1] at h1; cases h1
    · rw [h2] at h1; cases h1
    · exact ⟨a, b, h2, h3, h4, h5, h6, trivial⟩
  rw [hg] at K2
  by_cases hm : 256 < cnt
  · rw [allT_many h1 (by rw [hg]; exact hm), if_pos (by simp)] at htk
    subst htk
    have hd : decide ((256 : Int) < (cnt : Int)) = true := decide_eq_true (by omega)
    clear hwhat h1 hg
    go_wp2_with (first
      | (go_at_call 34; refine (K2.out).mono ?_; rintro e w4 ⟨rfl, rfl⟩)
      | ((with_reducible refine on_store_at (.tmp 2) ?_); refine wb_store (cs := #[.slice none 0 0]) (cs' := #[.slice none 0 0]) rfl _ (.tmp 2) _ rfl st_net rfl rfl br3 rfl rfl (by simp [Value.oneCell']) ?_; intro w9 b9 hg9))
    refine bodyPost_ret (v := .tuple #[.agg #[.slice none 0 0], .int .i64 12]) ?_ rfl ⟨none, 0, 0, [], rfl, NRd.nil _ _, rfl, rn_below k3 hg9 hgrw⟩
    exact results_cell1 rfl _ w9 gr 24 _ (0, 0) _ rfl b9.at_ rfl Try.underlying24 rfl st_net.size
  have hbd := netT_bd bi
  unfold netT at hbd
  rw [allT_go h1 (by rw [hg]; exact hm), hg] at htk hbd
  obtain ⟨nt, hnt⟩ : ∃ nt, goT nodeT cnt [] (bi.drop used) = nt := ⟨_, rfl⟩
  try simp only at htk hbd
  rw [hnt] at htk hbd
  obtain ⟨lss, en⟩ := nt
  have H := Lib.hid hnt
  have Htk := Lib.hid htk
  try simp only at hbd Htk
  have hd : decide ((256 : Int) < (cnt : Int)) = false := decide_eq_false (by omega)
  have r0 := cut_l ow3.rd used (by omega)
  clear hnt htk hwhat h1 hg
  go_upto_region 12 with (first
    | (go_at_call 34; refine (K2.out).mono ?_; rintro e w4 ⟨rfl, rfl⟩)
    | ((with_reducible refine on_slice (.tmp 39) ?_); refine wl_cut_lx rfl _ _ el_u8 rfl hc3 _ rfl rfl used (by omega) ?_)
    | ((with_reducible refine on_alloc ?_); refine wl_newBox rfl _ rfl z_net ?_; intro g w5 hg5 hl5 b5 hb5; have br5 := br3.step hb5)
    | ((with_reducible refine on_store_at (.tmp 9) ?_); refine wb_store (cs := #[.slice none 0 0]) (cs' := #[.slice none 0 0]) rfl _ (.tmp 9) _ rfl st_net rfl rfl b5 rfl rfl (by simp [Value.oneCell']) ?_; intro w6 b6 hg6))
  obtain ⟨b0, hb0⟩ : ∃ b0, bi.drop used = b0 := ⟨_, rfl⟩
  rw [hb0] at r0 H
  have ngr : gr < g := by have := br3.lt; omega
  have br6 := br5.grown hg6 (fun e => by injection e with e; omega)
  obtain ⟨B, hB⟩ : ∃ B, w3.heap.size = B := ⟨_, rfl⟩
  have k6 : Below w3.heap.size w3 w6 := hb5.trans (below_of_grown hg6 (fun j e => by injection e with e; omega) hb5.size)
  have r6 := r0.below k6
  have K6 : Below w.heap.size w w6 := k3.trans (k6.mono k3.size)
  have hBw := k3.size
  have hgr3 := br3.lt
  rw [hB] at r6 hg5 hBw hgr3
  clear hb0 r0 k6 br5 b5 hb5 hg6 hl5 br3 ow3 K2 hd
  go_loopw [4, 10] (fun b i wr => RnRel b0 n3 cnt B g gr w6 b i wr) (fun _ i _ => cnt - (intOf i).toNat)
  case atStart => exact ⟨0, _, _, _, b0, none, 0, [], by omega, rfl, rfl, b6, br6, .inl r6, by omega, NO.nil _ _, Lib.hid rfl, Below.refl _ _⟩
  case round =>
    obtain ⟨k, Ab, nb, cb, u, A1, c1, ns, hk, rfl, rfl, bx, brr, rb, hnb, no, hgo, hb⟩ := hrel
    have hz := hb.size
    have htl := rb.len
    have hgb := bx.lt
    have kw : Below w.heap.size w wr := K6.trans (hb.mono (by omega))
    have hwg : w.heap.size ≤ g := by omega
    by_cases hlt : k < cnt
    · obtain ⟨fo, hfo⟩ : ∃ fo, fopen 84 u = fo := ⟨_, rfl⟩
      have hle := fopen_le 84 u
      rw [hfo] at hle
      obtain ⟨x, y, eo⟩ := fo
      try simp only at hle
      have K1 := Lib.hid (ropen_is 84 84 rfl Ab nb cb wr (by omega) u (rb.rd (by omega)) x y eo hfo)
      have hgo2 := hgo.out
      rw [show cnt - k = (cnt - (k + 1)) + 1 by omega] at hgo2
      by_cases h1 : eo = 0
      rotate_left
      · have hnd : nodeT u = ([], [], eo) := by unfold nodeT; rw [hfo]; simp only; rw [if_pos h1]
        rw [H.out, goT_stop (by rw [hnd]; exact h1), hnd] at hgo2
        obtain ⟨rfl, rfl⟩ : lss = [] ∧ en = eo := by injection hgo2 with a b; exact ⟨a, b⟩
        have htk := Htk.out
        rw [if_pos h1] at htk
        subst htk
        have he : (en != 0) = true := by simpa using h1
        clear hgo2 hgo Htk H hfo hnd h1
        go_wp2_with (first
          | (go_at_call 35; refine (K1.out).mono ?_; rintro e w7 ⟨Ax, nx, cx, Ay, ny, cy, rfl, owx, owy, hb7⟩; have br7 := brr.step hb7)
          | ((with_reducible refine on_store_at (.tmp 2) ?_); refine wb_store (cs := #[.slice none 0 0]) (cs' := #[.slice none 0 0]) rfl _ (.tmp 2) _ rfl st_net rfl rfl br7 rfl rfl (by simp [Value.oneCell']) ?_; intro w9 b9 hg9))
        refine bodyPost_ret (v := .tuple #[.agg #[.slice none 0 0], .int .i64 en]) ?_ rfl ⟨none, 0, 0, [], rfl, NRd.nil _ _, rfl, rn_below (kw.trans (hb7.mono kw.size)) hg9 hgrw⟩
        exact results_cell1 rfl _ w9 gr 24 _ (0, 0) _ rfl b9.at_ rfl Try.underlying24 rfl st_net.size
      subst h1
      obtain ⟨r2, hr2⟩ : ∃ r, allT rdr 4096 x = r := ⟨_, rfl⟩
      obtain ⟨ls2, e2⟩ := r2
      have K2 := Lib.hid (fun W A1 n1 c1 (h : RdS bv W W.heap.size A1 n1 c1 x) => rnode_any A1 n1 c1 W (by have := h.len; have := hle.1; omega) x h ls2 e2 hr2)
      by_cases h2 : e2 = 0
      rotate_left
      · have hnd : nodeT u = ([], [], e2) := by unfold nodeT; rw [hfo]; simp only; rw [if_neg (by simp), hr2]; simp only; rw [if_pos h2]
        rw [H.out, goT_stop (by rw [hnd]; exact h2), hnd] at hgo2
        obtain ⟨rfl, rfl⟩ : lss = [] ∧ en = e2 := by injection hgo2 with a b; exact ⟨a, b⟩
        have htk := Htk.out
        rw [if_pos h2] at htk
        subst htk
        have he : (en != 0) = true := by simpa using h2
        clear hgo2 hgo Htk H hfo hnd h2 hr2
        go_wp2_with (first
          | (go_at_call 35; refine (K1.out).mono ?_; rintro e w7 ⟨Ax, nx, cx, Ay, ny, cy, rfl, owx, owy, hb7⟩; have br7 := brr.step hb7; have k7 := kw.trans (hb7.mono kw.size))
          | (go_at_call 36; refine (K2.out w7 Ax nx cx owx.rd).mono ?_; rintro e w8 ⟨A8, n8, c8, rfl, ow8, hb8⟩; have br8 := br7.step hb8)
          | ((with_reducible refine on_store_at (.tmp 2) ?_); refine wb_store (cs := #[.slice none 0 0]) (cs' := #[.slice none 0 0]) rfl _ (.tmp 2) _ rfl st_net rfl rfl br8 rfl rfl (by simp [Value.oneCell']) ?_; intro w9 b9 hg9))
        refine bodyPost_ret (v := .tuple #[.agg #[.slice none 0 0], .int .i64 en]) ?_ rfl ⟨none, 0, 0, [], rfl, NRd.nil _ _, rfl, rn_below (k7.trans (hb8.mono k7.size)) hg9 hgrw⟩
        exact results_cell1 rfl _ w9 gr 24 _ (0, 0) _ rfl b9.at_ rfl Try.underlying24 rfl st_net.size
      subst h2
      have hnd : nodeT u = (ls2, y, 0) := by unfold nodeT; rw [hfo]; simp only; rw [if_neg (by simp), hr2]; simp only; rw [if_neg (by simp)]
      have hfx := nodeT_fit u
      rw [hnd] at hfx
      rw [goT_go (by rw [hnd]), hnd] at hgo2
      have Hgo2 := Lib.hid hgo2
      have Hfx := Lib.hid hfx
      have Hle := Lib.hid hle
      clear hgo2 hgo hfo hnd hr2 hfx hle
      go_wp2_with (first
        | (go_at_call 35; refine (K1.out).mono ?_; rintro e w7 ⟨Ax, nx, cx, Ay, ny, cy, rfl, owx, owy, hb7⟩; have bx7 := bx.step hb7; have br7 := brr.step hb7; have no7 := no.below hb7)
        | (go_at_call 36; refine (K2.out w7 Ax nx cx owx.rd).mono ?_; rintro e w8 ⟨Al, nl, cl, rfl, owl, hb8⟩; have bx8 := bx7.step hb8; have br8 := br7.step hb8; have no8 := no7.below hb8; have owy8 := owy.below hb8; have y8 : w8.cell? ⟨g, 0, none⟩ = some (.slice A1 k c1) := bx8.cell 0)
        | ((with_reducible refine on_append (.tmp 68) (.tmp 70) ?_); refine wl_appendS rfl (.tmp 68) (.tmp 70) _ rfl el_row (f := sv) sv_one rfl (no8.row.alloc (.cells #[.slice Al nl cl] 42)) rfl (OwS.lit (base := w8.heap.size) (e := 42) (xs := [(⟨Al, nl, cl, ls2⟩ : Nd)]) w8 #[.slice Al nl cl] 1 (Nat.le_refl _) (by simp [maxLen]) rfl rfl).rd (by omega) (by omega) (by have := hb7.size; have := hb8.size; simp; omega) ?_; intro A9 c9 w9 ow9 hg9 hb9; have hrow : rowOf A1 ≠ some g := (fun e => by have := no.row.ow.row_ge _ e; omega); have hrow2 : rowOf A1 ≠ some gr := (fun e => by have := no.row.ow.row_ge _ e; omega); have bx9 := (bx8.alloc (.cells #[.slice Al nl cl] 42)).grown hg9 hrow; have br9 := (br8.alloc (.cells #[.slice Al nl cl] 42)).grown hg9 hrow2; have y9 : w9.cell? ⟨g, 0, none⟩ = some (.slice A1 k c1) := bx9.cell 0; have fz9 := bx9.frozen 0; have bS := bx9.setCell 0 (.slice A9 (k + 1) c9)))
      have k3 := below_alloc w8 (Nat.le_refl _) (.cells #[.slice Al nl cl] 42)
      have z7 := hb7.size
      have z8 := hb8.size
      have no9 := (no8.below k3).more (x := ⟨Al, nl, cl, ls2⟩) ty_rows ((owl.below k3).base_le (by omega)) (fun r hr => (Hfx.out r hr).1) hg9 ow9
      have t9 := (owy8.below k3).grown hg9 (fun g hA e => (owy8.below k3).ow.apart (no8.below k3).row.ow ty_u8row g hA e)
      have no10 := no9.grown bS.2 (fun j e => by injection e with e; omega)
      have t10 := (t9.base_le (base' := g + 1) (by omega)).grown bS.2 (fun j hA e => by have := t9.ow.row_ge j (by rw [hA]; rfl); injection e with e; omega)
      have br10 := br9.grown bS.2 (fun e => by injection e with e; omega)
      have B3 := (hb7.trans (hb8.mono z7)).trans (k3.mono (by omega))
      have B9 := (hb.trans (B3.mono (by omega))).trans (hb9.mono (by omega))
      have B10 := B9.trans (below_of_grown (B := B) bS.2 (fun j e => by injection e with e; omega) (by have := bx9.lt; omega))
      go_roundw
      case rel => exact ⟨k + 1, Ay, ny, cy, y, A9, c9, _, by omega, by go_num, rfl, bS.1, br10, .inr t10, by have := t10.len; have h5 := Hle.out.2; omega, no10, Lib.hid (by rw [Hgo2.out]; simp [Nd.ls]), B10⟩
      case measure => simp [intOf]; omega
    · obtain rfl : k = cnt := by omega
      have hgo2 := hgo.out
      rw [H.out, Nat.sub_self] at hgo2
      by_cases hu : u = []
      rotate_left
      · rw [goT_more hu] at hgo2
        obtain ⟨rfl, rfl⟩ : lss = [] ∧ en = 4 := by injection hgo2 with a b; exact ⟨a, b⟩
        have htk := Htk.out
        rw [if_pos (by simp)] at htk
        subst htk
        have hnb0 : 0 < nb := by rw [← htl]; exact List.length_pos_iff.2 hu
        have hd2 : decide ((0 : Int) < (nb : Int)) = true := decide_eq_true (by omega)
        clear hgo2 hgo H Htk hu
        go_wp2_with ((with_reducible refine on_store_at (.tmp 2) ?_); refine wb_store (cs := #[.slice none 0 0]) (cs' := #[.slice none 0 0]) rfl _ (.tmp 2) _ rfl st_net rfl rfl brr rfl rfl (by simp [Value.oneCell']) ?_; intro w9 b9 hg9)
        refine bodyPost_ret (v := .tuple #[.agg #[.slice none 0 0], .int .i64 4]) ?_ rfl ⟨none, 0, 0, [], rfl, NRd.nil _ _, rfl, rn_below kw hg9 hgrw⟩
        exact results_cell1 rfl _ w9 gr 24 _ (0, 0) _ rfl b9.at_ rfl Try.underlying24 rfl st_net.size
      subst hu
      rw [goT_end] at hgo2
      obtain ⟨rfl, rfl⟩ : lss = Nd.ls ns ∧ en = 0 := by injection hgo2 with a b; exact ⟨a, b⟩
      have hnb0 : nb = 0 := by simpa using htl.symm
      subst hnb0
      have htk := Htk.out
      rw [if_neg (by simp)] at htk
      obtain ⟨em, hem⟩ : ∃ em, nmay (Nd.ls ns) = em := ⟨_, rfl⟩
      rw [hem] at htk
      have K3 := Lib.hid (rnetmay_any A1 k c1 ns wr (by omega) (by omega) _ no.rd em hem)
      clear hgo2 hgo H Htk hem
      by_cases h2 : em = 0
      rotate_left
      · rw [if_pos h2] at htk
        subst htk
        have he : (em != 0) = true := by simpa using h2
        go_wp2_with (first
          | ((with_reducible refine on_load (.tmp 9) ?_); refine wb_load rfl _ (.tmp 9) rfl st_net rfl bx rfl ?_)
          | (go_at_call 26; refine (K3.out).mono ?_; rintro e w7 ⟨rfl, hb7⟩; have br7 := brr.step hb7)
          | ((with_reducible refine on_store_at (.tmp 2) ?_); refine wb_store (cs := #[.slice none 0 0]) (cs' := #[.slice none 0 0]) rfl _ (.tmp 2) _ rfl st_net rfl rfl br7 rfl rfl (by simp [Value.oneCell']) ?_; intro w9 b9 hg9))
        refine bodyPost_ret (v := .tuple #[.agg #[.slice none 0 0], .int .i64 em]) ?_ rfl ⟨none, 0, 0, [], rfl, NRd.nil _ _, rfl, rn_below (kw.trans (hb7.mono kw.size)) hg9 hgrw⟩
        exact results_cell1 rfl _ w9 gr 24 _ (0, 0) _ rfl b9.at_ rfl Try.underlying24 rfl st_net.size
      subst h2
      rw [if_neg (by simp)] at htk
      subst htk
      go_wp2_with (first
        | ((with_reducible refine on_load (.tmp 9) ?_); refine wb_load rfl _ (.tmp 9) rfl st_net rfl bx7 rfl ?_)
        | ((with_reducible refine on_load (.tmp 9) ?_); refine wb_load rfl _ (.tmp 9) rfl st_net rfl bx rfl ?_)
        | (go_at_call 26; refine (K3.out).mono ?_; rintro e w7 ⟨rfl, hb7⟩; have br7 := brr.step hb7; have bx7 := bx.step hb7)
        | ((with_reducible refine on_store_at (.tmp 2) ?_); refine wb_store (cs := #[.slice none 0 0]) (cs' := #[.slice A1 k c1]) rfl _ (.tmp 2) _ rfl st_net rfl rfl br7 rfl rfl (by simp [Value.oneCell']) ?_; intro w9 b9 hg9))
      have no9 := (no.below hb7).grown hg9 (fun j e => by injection e with e; omega)
      refine bodyPost_ret (v := .tuple #[.agg #[.slice A1 k c1], .int .i64 0]) ?_ rfl ⟨A1, k, c1, ns, rfl, no9.rd, rfl, rn_below (kw.trans (hb7.mono kw.size)) hg9 hgrw⟩
      exact results_cell1 rfl _ w9 gr 24 _ (0, 0) _ rfl b9.at_ rfl Try.underlying24 rfl st_net.size
end Go.Proofs.Ytgapcmodhcdebaa
