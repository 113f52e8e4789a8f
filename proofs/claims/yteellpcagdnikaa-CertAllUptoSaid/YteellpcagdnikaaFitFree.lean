/-
  The walk of ref17.Fit where no loop is told.
-/
import Derived.Test.YteellpcagdnikaaFitLoops
import Derived.Test.YteellpcagdnikaaRegionL
import Derived.Deep.CutBlock
namespace Go.Th
open Go.RowKit
set_option linter.unusedVariables false
theorem Ow.type {w : World} {b e k n c g : Nat} {A : Option Addr} {xs : List Value} (h : Ow w b e k A n c xs) (hA : A = some ⟨g, 0, none⟩) : ∃ cur fz, w.heap[g]? = some (.cells cur e fz) := by
  rcases h.own.2 with ⟨hv, _⟩ | ⟨g', cap, cur, hv, _, hg, _⟩
  · subst hA; cases hv
  · subst hA
    injection hv with hv
    injection hv with hv
    injection hv with hv
    subst hv
    exact ⟨_, _, hg⟩
/-- Rows of unlike types share no block. -/
theorem Ow.apart {w : World} {b e k n c b' e' k' n' c' : Nat} {A A' : Option Addr} {xs xs' : List Value} (h : Ow w b e k A n c xs) (h' : Ow w b' e' k' A' n' c' xs') (hne : e ≠ e') : ∀ g, A = some ⟨g, 0, none⟩ → rowOf A' ≠ some g := by
  intro g hA hr
  obtain ⟨cur, fz, h1⟩ := h.type hA
  rcases h'.form with ⟨e2, _⟩ | ⟨g', e2, _⟩
  · subst e2; cases hr
  · have : g' = g := by subst e2; simpa [rowOf] using hr
    subst this
    obtain ⟨cur', fz', h2⟩ := h'.type e2
    rw [h1] at h2
    injection h2 with h2
    injection h2 with _ h2
    exact hne h2
end Go.Th
namespace Go.Proofs.Yteellpcagdnikaa
open Go.RowKit Go.Th
set_option linter.unusedVariables false
/-- Parts of the call's own, and ranks of its own, each in its own row. -/
structure POw (w : World) (base : Nat) (A : Option Addr) (n c : Nat) (ps : List Pt) (N : Nat) : Prop where
  parts : OwM Pt.cs 3 w base 26 A n c ps
  rk : ∀ p ∈ ps, OwS iv w base 3 p.A p.n p.c p.rk ∧ p.n = N
  dis : ps.Pairwise fun p q => rowOf p.A ≠ rowOf q.A
theorem ty_ne : 26 ≠ 3 := by decide
theorem ty_ne2 : 22 ≠ 3 := by decide
theorem POw.below {w w' : World} {base n c N : Nat} {A : Option Addr} {ps : List Pt} (h : POw w base A n c ps N) (hb : Below w.heap.size w w') : POw w' base A n c ps N :=
  ⟨h.parts.below hb, fun p hp => ⟨(h.rk p hp).1.below hb, (h.rk p hp).2⟩, h.dis⟩
theorem POw.base_le {w : World} {base base' n c N : Nat} {A : Option Addr} {ps : List Pt} (h : POw w base A n c ps N) (hb : base' ≤ base) : POw w base' A n c ps N :=
  ⟨h.parts.base_le hb, fun p hp => ⟨(h.rk p hp).1.base_le hb, (h.rk p hp).2⟩, h.dis⟩
theorem POw.box {w w' : World} {base n c N g : Nat} {A : Option Addr} {ps : List Pt} (h : POw w base A n c ps N) (hg : w.grownBy w' (some g)) (hb : g < base) : POw w' base A n c ps N :=
  ⟨h.parts.grown hg (fun g' hA e => by subst hA; have := h.parts.lt; injection e with e; omega), fun p hp => ⟨(h.rk p hp).1.grown hg (fun g' hA e => by have h1 := (h.rk p hp).1; rw [hA] at h1; have := h1.lt; injection e with e; omega), (h.rk p hp).2⟩, h.dis⟩
/-- One part more: the row may have moved. -/
theorem POw.more {w w' : World} {base n c c' N : Nat} {A A' : Option Addr} {ps : List Pt} {p : Pt} (h : POw w base A n c ps N) (hp : OwS iv w base 3 p.A p.n p.c p.rk ∧ p.n = N) (hd : ∀ q ∈ ps, rowOf q.A ≠ rowOf p.A) (hg : w.grownBy w' (rowOf A)) (ho : OwM Pt.cs 3 w' base 26 A' (n + 1) c' (ps ++ [p])) :
    POw w' base A' (n + 1) c' (ps ++ [p]) N := by
  have key : ∀ q : Pt, OwS iv w base 3 q.A q.n q.c q.rk ∧ q.n = N → OwS iv w' base 3 q.A q.n q.c q.rk ∧ q.n = N := fun q hq =>
    ⟨hq.1.grown hg (fun g hA e => hq.1.ow.apart h.parts.ow ty_ne.symm g hA e), hq.2⟩
  refine ⟨ho, fun q hq => ?_, ?_⟩
  · rcases List.mem_append.1 hq with hq | hq
    · exact key q (h.rk q hq)
    · rw [List.mem_singleton.1 hq]; exact key p hp
  · rw [List.pairwise_append]
    refine ⟨h.dis, by simp, fun a ha b hb => ?_⟩
    rw [List.mem_singleton.1 hb]
    exact hd a ha
theorem POw.nil (w : World) (base N : Nat) : POw w base none 0 0 [] N := ⟨OwM.nil_ _ _ _, by simp, by simp⟩
theorem POw.rd {w : World} {base n c N : Nat} {A : Option Addr} {ps : List Pt} (h : POw w base A n c ps N) (hok : ∀ p ∈ ps, p.Ok) : PRd w w.heap.size A n c ps :=
  ⟨h.parts.rd, fun p hp => (h.rk p hp).1.rd, hok⟩
def FitCut (M b : Nat) (ps : List Pt) (wb : World) (s9 s10 s11 : Value) (wr : World) : Prop :=
  ∃ (k : Nat) (A : Option Addr) (c : Nat) (A2 : Option Addr) (m c2 : Nat), k ≤ M ∧ s11 = .int .i64 k ∧ s9 = .slice A k c ∧ s10 = .slice A2 m c2 ∧ OwS uv wr b 22 A k c ((ps.take k).map (·.fr)) ∧ OwS iv wr b 3 A2 m c2 ((ps.take k).flatMap (·.rk)) ∧ m ≤ k * 1048576 ∧ Below b wb wr
def FitKRel (gp a nodes : Nat) (lo hi : Int) (rs : List Int) (wb : World) (s13 s19 : Value) (wr : World) : Prop :=
  ∃ (j T : Nat) (A : Option Addr) (c : Nat), j ≤ nodes ∧ s19 = .int .i64 j ∧ s13 = .int .i64 T ∧ T ≤ a + j ∧ a + j ≤ T ∧ Box wr gp 26 (Pt.cs ⟨lo, hi, A, j, c, []⟩).toArray ∧ OwS iv wr (gp + 1) 3 A j c ((List.range j).map fun t => frk rs nodes (a + t)) ∧ Below gp wb wr
def FitFRel (g L nodes : Nat) (l rs : List Int) (wb : World) (s13 s14 : Value) (wr : World) : Prop :=
  ∃ (k : Nat) (A : Option Addr) (c : Nat) (qs : List Pt), k ≤ L ∧ s14 = .int .i64 k ∧ s13 = .int .i64 (k * nodes : Nat) ∧ Box wr g 29 (Cv 1 A k c 0 none 0 0) ∧ POw wr (g + 1) A k c qs nodes ∧ Hid (qs.map pkey = (fparts l rs nodes).take k) ∧ Below g wb wr
set_option maxRecDepth 100000 in
set_option maxHeartbeats 4000000 in
theorem rcfit_free (v : Int) (hv : bits .and .i64 v 1 ≠ 0) (Ap : Option Addr) (np cp : Nat) (d : Int) (At : Option Addr) (nt ct : Nat) (nodes : Nat) (hno : 1 ≤ nodes ∧ nodes ≤ 1000) (w : World) (hnp : np ≤ 9223372036854775807) (ps : List Pt) (B : Nat) (hp : PRd w B Ap np cp ps) (hsm : ∀ p ∈ ps, p.n ≤ 1048576) :
    Calls Try.prog 13 #[.agg #[.int .i64 v, .slice Ap np cp, .int .u32 d, .slice At nt ct], .int .i64 nodes] w (fun e w' => ∃ A' c' ps', e = .returned (.agg #[.int .i64 1, .slice A' ps'.length c', .int .u32 0, .slice none 0 0]) ∧ POw w' w.heap.size A' ps'.length c' ps' nodes ∧ FPs (fcuts ps) (franksIn ps) nodes ps' ∧ Below w.heap.size w w') := by
  have hv1 : (bits .and .i64 v 1 == 0) = false := by simpa using hv
  have Hlen := Lib.hid hp.rd.len
  obtain ⟨hno1, hno2⟩ := hno
  have bx := (Box.new w (Cv v Ap np cp d At nt ct) 29).alloc (.cells (Cv 0 none 0 0 0 none 0 0) 29)
  have b2 := Box.new (w.alloc (.cells (Cv v Ap np cp d At nt ct) 29)) (Cv 0 none 0 0 0 none 0 0) 29
  rw [heap_size_alloc] at b2
  have k1 : Below w.heap.size w _ := (below_alloc w (Nat.le_refl _) (.cells (Cv v Ap np cp d At nt ct) 29)).alloc (by simp) (.cells (Cv 0 none 0 0 0 none 0 0) 29)
  have hs2 : (((w.alloc (.cells (Cv v Ap np cp d At nt ct) 29)).alloc (.cells (Cv 0 none 0 0 0 none 0 0) 29))).heap.size = w.heap.size + 2 := by simp
  have HV := Lib.hid hv
  have Hsm := Lib.hid hsm
  have Hok := Lib.hid hp.ok
  clear hv hsm
  go_enter Try.func13, Try.ntmps13
  go_upto_region 14 with fail
  obtain ⟨w1, hw1⟩ : ∃ W, ((w.alloc (.cells (Cv v Ap np cp d At nt ct) 29)).alloc (.cells (Cv 0 none 0 0 0 none 0 0) 29)) = W := ⟨_, rfl⟩
  have hg : (w.alloc (.cells #[.int .i64 v, .slice Ap np cp, .int .u32 d, .slice At nt ct] 29)).alloc (.cells #[.int .i64 0, .slice none 0 0, .int .u32 0, .slice none 0 0] 29) = w1 := hw1
  have hp0 := hp.heap
  rw [hw1] at bx b2 k1 hs2
  first | rw [hg] | rw [hw1]
  have hs3 : w.heap.size + 2 ≤ w1.heap.size := Nat.le_of_eq hs2.symm
  clear hg hw1 hp hs2
  obtain ⟨M, hM⟩ : ∃ M, min np 12 = M := ⟨_, rfl⟩
  have HM := Lib.hid hM
  have hM1 : M ≤ 12 ∧ M ≤ np := by omega
  obtain ⟨hM1, hM2⟩ := hM1
  clear hM
  go_upto_block 2 with fail
  go_cut [9, 10] (fun s9 s10 wx => FitCut M w1.heap.size ps w1 s9 s10 (.int .i64 M) wx)
  case first =>
    go_wp2
    go_loopw [9, 10, 11] (fun s9 s10 s11 wr => FitCut M w1.heap.size ps w1 s9 s10 s11 wr) (fun _ _ i _ => M - (intOf i).toNat)
    case atStart => exact ⟨0, _, 0, _, 0, 0, by omega, rfl, rfl, rfl, (OwS.lit (base := w1.heap.size) (e := 22) (xs := []) w1 #[] 0 (Nat.le_refl _) (by simp [maxLen]) rfl rfl).alloc _, OwS.lit' (base := w1.heap.size) (e := 3) (xs := []) (w1.alloc (.cells #[] 22)) #[] 0 _ (by simp) (by simp) (by simp [maxLen]) rfl rfl, by omega, (below_alloc w1 (Nat.le_refl _) _).alloc (by simp) _⟩
    case round =>
      obtain ⟨k, A, c, A2, m, c2, hk, rfl, rfl, rfl, ow, ow2, hm, hb⟩ := hrel
      have bxr := bx.below hb (by omega)
      have b2r := b2.below hb (by omega)
      have hpr := hp0.below (k1.trans (hb.mono (by omega)))
      have c1 : wr.cell? ⟨w.heap.size, 1, none⟩ = some (.slice Ap np cp) := bxr.cell 1
      have hbs := hb.size
      by_cases hlt : k < M
      · obtain ⟨p, hpk⟩ : ∃ p, ps[k]? = some p := ⟨ps[k]'(by have := Hlen.out; omega), List.getElem?_eq_getElem _⟩
        have hrk := (hpr.rk p (List.mem_of_getElem? hpk))
        have hpn := Hsm.out p (List.mem_of_getElem? hpk)
        have Hst1 : Hid ((ps.take (k + 1)).map (·.fr) = (ps.take k).map (·.fr) ++ [p.fr]) := Lib.hid (by rw [List.take_add_one, hpk]; simp)
        have Hst2 : Hid ((ps.take (k + 1)).flatMap (·.rk) = (ps.take k).flatMap (·.rk) ++ p.rk) := Lib.hid (by rw [List.take_add_one, hpk]; simp)
        have Hpk := Lib.hid hpk
        have Hap := Lib.hid (ow2.ow.apart ow.ow ty_ne2.symm)
        have hm2 : m ≤ 12582912 := by omega
        clear hpk
        go_wp2_with (first
          | ((with_reducible refine on_index (.tmp 101) ?_); refine wm_at Pt.cs_length rfl _ (.tmp 101) _ rfl el_part rfl rfl (by omega) (by omega) hpr.rd ?_; intro b1 j1 r1 hr1 hb1 hc1; have hxx : p = r1 := get_eq Hpk.out hr1.out (by omega); subst hxx; have e1 : wr.cell? ⟨b1, j1, none⟩ = some (.int .u32 p.fr) := hc1.out 0 _ rfl)
          | ((with_reducible refine on_append (.tmp 99) (.tmp 106) ?_); refine wl_appendS rfl (.tmp 99) (.tmp 106) _ rfl el_u32 (f := uv) (fun _ => rfl) rfl (ow.alloc (.cells #[.int .u32 p.fr] 22)) rfl (OwS.lit (base := wr.heap.size) (e := 22) (xs := [p.fr]) wr #[.int .u32 p.fr] 1 (Nat.le_refl _) (by simp [maxLen]) rfl rfl).rd (by omega) (by omega) (by simp; omega) ?_; intro A8 c8 w8 ow8 hg8 hb8; have B8 := (below_alloc wr (by omega) (.cells #[.int .u32 p.fr] 22)).trans hb8; have bx8 := bxr.below B8 (by omega); have c8 : w8.cell? ⟨w.heap.size, 1, none⟩ = some (.slice Ap np cp) := bx8.cell 1; have hp8 := hpr.below (B8.mono (by omega)); have ow28 := (ow2.alloc (.cells #[.int .u32 p.fr] 22)).grown hg8 Hap.out)
          | ((with_reducible refine on_index (.tmp 110) ?_); refine wm_at Pt.cs_length rfl _ (.tmp 110) _ rfl el_part rfl rfl (by omega) (by omega) hp8.rd ?_; intro b2 j2 r2 hr2 hb2 hc2; have hxx : p = r2 := get_eq Hpk.out hr2.out (by omega); subst hxx; have e2 : w8.cell? ⟨b2, j2 + 2, none⟩ = some (.slice p.A p.n p.c) := hc2.out 2 _ rfl)
          | ((with_reducible refine on_append (.tmp 108) (.tmp 114) ?_); refine wl_appendS rfl (.tmp 108) (.tmp 114) _ rfl el_int (f := iv) (fun _ => rfl) rfl ow28 rfl (hp8.rk p (List.mem_of_getElem? Hpk.out)) (by omega) (by omega) (by have := B8.size; omega) ?_; intro A9 c9 w9 ow9 hg9 hb9))
        go_roundw
        case rel => exact ⟨k + 1, A8, _, A9, _, c9, by omega, by go_num, rfl, rfl, by rw [Hst1.out]; exact ow8.grown hg9 (ow8.ow.apart ow28.ow ty_ne2), by rw [Hst2.out]; exact ow9, by omega, hb.trans (B8.trans hb9)⟩
        case measure => simp [intOf]; omega
      · have hkm : k = M := by omega
        subst hkm
        have hend : np ≤ k ∨ (k < np ∧ 12 ≤ k) := by have := HM.out; omega
        rcases hend with he | ⟨he, he2⟩
        all_goals
          go_wp2
          go_meet
          case rel => exact ⟨k, A, c, A2, m, c2, by omega, rfl, rfl, rfl, ow, ow2, hm, hb⟩
  case rest =>
    obtain ⟨k, A, c, A2, m, c2, hk, hkM, rfl, rfl, ow, ow2, hm, hb⟩ := hcut
    obtain rfl : M = k := by injection hkM with _ h; omega
    clear hkM
    have bxr := bx.below hb (by omega)
    have b2r := b2.below hb (by omega)
    have hpr := hp0.below (k1.trans (hb.mono (by omega)))
    have hbs := hb.size
    have htk : ps.take M = ps.take 12 := by
      rcases Nat.lt_or_ge np 12 with h | h
      · rw [List.take_of_length_le (by have := HM.out; have := Hlen.out; omega), List.take_of_length_le (by have := Hlen.out; omega)]
      · rw [show M = 12 by have := HM.out; omega]
    rw [htk] at ow ow2
    have hcb : ∀ x ∈ (ps.take 12).map (·.fr), 0 ≤ x ∧ x ≤ 4294967295 := fun x hx => by
      obtain ⟨p, hp, rfl⟩ := List.mem_map.1 hx
      exact (Hok.out p (List.mem_of_mem_take hp)).fr
    obtain ⟨hrow, hrl⟩ := pfit_row hcb
    obtain ⟨l, hl⟩ : ∃ l, pfit ((ps.take 12).map (·.fr)) = l := ⟨_, rfl⟩
    obtain ⟨rs, hrs⟩ : ∃ rs, (ps.take 12).flatMap (·.rk) = rs := ⟨_, rfl⟩
    obtain ⟨L, hL⟩ : ∃ L, l.length = L := ⟨_, rfl⟩
    have hfit := rfit_any A M c _ wc (by omega) _ ow.rd hcb
    rw [hl] at hrow hrl hfit
    rw [hL] at hfit hrl
    rw [hrs] at ow2
    have Hrow := Lib.hid hrow
    have Hl := Lib.hid hl
    have HL := Lib.hid hL
    have Hrs := Lib.hid hrs
    have Hfit := Lib.hid hfit
    have k5 := k1.trans (hb.mono (by omega))
    have hm9 : m ≤ 12582912 := by omega
    clear htk hrow hl hrs hcb hfit hL hpr ow hp0 bx b2 bxr k1 hb hm hk
    go_wp2_with (first
      | (go_at_call 23; refine Hfit.out.mono ?_; rintro e w2 ⟨A5, c5, rfl, r5, hb5⟩)
      | ((with_reducible refine on_alloc ?_); refine wl_newBox rfl _ rfl z_cert ?_; intro g w3 hg3 hl3 bg hb3)
      | ((with_reducible refine on_store_at (.tmp 12) ?_); refine wb_store (cs := Cv 0 none 0 0 0 none 0 0) (cs' := Cv 1 none 0 0 0 none 0 0) rfl _ (.tmp 12) _ rfl st_cert rfl rfl bg rfl rfl (by simp [Cv, Value.oneCell']) ?_; intro w4 bx4 hg4))
    have r4' := (r5.step hb3).grown hg4 (fun j e => by injection e with e; omega)
    have B3 := hb5.trans (hb3.mono hb5.size)
    have q4' := ((ow2.rd.step B3).grown hg4 (fun j e => by injection e with e; have := hb5.size; omega))
    have b24 := (b2r.step B3).grown hg4 (fun e => by injection e with e; have := hb5.size; have := b2r.lt; omega)
    have B4 := k5.trans ((B3.mono (by have := k5.size; omega)).trans (below_of_grown (B := w.heap.size) hg4 (fun j e => by injection e with e; have := hb5.size; have := k5.size; omega) (by have := B3.size; have := k5.size; omega)))
    have hgw : w.heap.size + 2 ≤ g := by have := hb5.size; have := k5.size; omega
    have q4 := q4'.more (show wc.heap.size ≤ g by have := hb5.size; omega)
    have r4 := r4'.more (show w2.heap.size ≤ g from hg3)
    have gl := bx4.lt
    clear r4' q4' hb5 hb3 hg4 bg r5 B3 b2r ow2 k5 hg3 hl3 Hfit hbs hs3
    clear w3
    clear w2
    clear wc
    go_wp2
    go_loopw [13, 14] (fun s13 s14 wr => FitFRel g L nodes l rs w4 s13 s14 wr) (fun _ i _ => L - (intOf i).toNat)
    case atStart => exact ⟨0, none, 0, [], by omega, by first | rfl | go_num, by simp, bx4, POw.nil _ _ _, Lib.hid rfl, Below.refl _ _⟩
    case round =>
      obtain ⟨k, A6, c6, qs, hk, rfl, rfl, bx, ow, hkey, hb⟩ := hrel
      rename World => wo
      have rr := r4.below hb
      have qr := q4.below hb
      by_cases hlt : k < L
      · have hll : k < l.length := by rw [HL.out]; exact hlt
        obtain ⟨lo, hlo⟩ : ∃ lo, l.getD k 0 = lo := ⟨_, rfl⟩
        obtain ⟨hi, hhi⟩ : ∃ hi, endOf l k = hi := ⟨_, rfl⟩
        obtain ⟨a, ha⟩ : ∃ a, k * nodes = a := ⟨_, rfl⟩
        have ha1 : a ≤ 31000 := by rw [← ha]; exact Nat.le_trans (Nat.mul_le_mul (show k ≤ 31 by omega) hno2) (by omega)
        have hlk : l[k]? = some lo := by rw [← hlo]; exact (row_at Hrow.out hll).1
        have hEnd : EndOf l L k hi := by
          rw [← hhi, ← HL.out]
          unfold endOf
          split
          · rename_i h
            have h1 := row_at Hrow.out h
            have h2 : l.getD k 0 < l.getD (k + 1) 0 := row_lt Hrow.out (by omega) h
            have h3 := row_at Hrow.out hll
            exact .inr ⟨h, _, h1.1, by omega, h1.2.2, rfl⟩
          · rename_i h
            exact .inl ⟨by omega, rfl⟩
        have hb1 := row_at Hrow.out hll
        have hb2 := endOf_bd Hrow.out hll
        rw [hlo] at hb1
        rw [hlo, hhi] at hb2
        have hlo0 := hb1.2
        have hhi0 := hb2
        have hcall := Lib.hid (rcends_any A5 L c5 l wo (by omega) g rr k hlt lo hi (Lib.hid hlk) hEnd)
        have HA := Lib.hid ha
        have Hkey : Hid (fpart l rs nodes k = (lo, hi, (List.range nodes).map fun t => frk rs nodes (a + t))) := Lib.hid (by unfold fpart franks; rw [hlo, hhi, ha])
        rw [ha]
        clear hb1 hb2 hEnd hlk ha hlo hhi hll
        have hrlen := qr.len
        have Hrlen := Lib.hid hrlen
        clear hrlen
        go_wp2_with (first
          | (go_at_call 24; refine hcall.out.mono ?_; rintro e w2 ⟨rfl, hb5⟩)
          | ((with_reducible refine on_alloc ?_); refine wl_newBox rfl _ rfl z_part ?_; intro gp w3 hg3 hl3 bp hb3)
          | ((with_reducible refine on_store_at (.tmp 18) ?_); refine wpt_store (r := Pt.zero) (s := ⟨lo, hi, none, 0, 0, []⟩) rfl _ (.tmp 18) _ rfl st_part rfl rfl bp ?_; intro w5 bp5 hg5))
        have B3 := hb5.trans (hb3.mono hb5.size)
        have hgp : wo.heap.size ≤ gp := by have := hb5.size; omega
        have B5 : Below wo.heap.size wo w5 := B3.trans (below_of_grown hg5 (fun j e => by injection e with e; omega) B3.size)
        have lgp := bp5.lt
        have bx5 := bx.step B5
        have ow5 := ow.parts.below B5
        have owp5 := ow.below B5
        have qr5 := (qr.below (B5.mono (by have := bx.lt; omega))).more (show g ≤ gp by have := bx.lt; omega)
        clear hb5 hb3 hg5 bp hcall B3 hg3 hl3
        clear w3
        clear w2
        go_wp2
        go_loopw [13, 19] (fun s13 s19 wt => FitKRel gp a nodes lo hi rs w5 s13 s19 wt) (fun _ i _ => nodes - (intOf i).toNat)
        case atStart => exact ⟨0, a, none, 0, by omega, rfl, rfl, by omega, by omega, bp5, OwS.nil_ _ _ _, Below.refl _ _⟩
        case round =>
          obtain ⟨j, T, A7, c7, hj, rfl, rfl, hT1, hT2, bp7, ow7, hb7⟩ := hrel
          have qr7 := qr5.below hb7
          by_cases hjn : j < nodes
          · obtain ⟨X, hX⟩ : ∃ X, (if rs = [] then 0 else rs.getD (T % rs.length) 0) = X := ⟨_, rfl⟩
            have hfrk : frk rs nodes (a + j) = X % nodes := by
              rw [show a + j = T by omega, ← hX]
              unfold frk
              split
              · simp
              · rfl
            have HX := Lib.hid hX
            have Hst : Hid ((List.range (j + 1)).map (fun t => frk rs nodes (a + t)) = (List.range j).map (fun t => frk rs nodes (a + t)) ++ [X % nodes]) := Lib.hid (by rw [List.range_succ, List.map_append, ← hfrk]; rfl)
            clear hX hfrk
            go_upto_if 142 with fail
            go_cut [20] (fun s20 wx => s20 = .int .i64 X ∧ wx = wr)
            case first =>
              rcases Nat.eq_zero_or_pos m with hm0 | hm0
              · have e : X = 0 := by rw [← HX.out]; exact if_pos (List.eq_nil_of_length_eq_zero (by rw [Hrlen.out]; exact hm0))
                have Hm0 := Lib.hid e
                have hm1 : ¬ 0 < m := by omega
                clear e hm0
                go_wp2
                go_meet
                case rel => exact ⟨by rw [Hm0.out], rfl⟩
              · have hne : rs ≠ [] := fun e => by subst e; have := Hrlen.out; simp at this; omega
                have h1 : 0 ≤ (T : Int) % (m : Int) := Int.emod_nonneg _ (by omega)
                have h2 : (T : Int) % (m : Int) < m := Int.emod_lt_of_pos _ (by omega)
                have h3 : ((T : Int) % (m : Int)).toNat = T % m := by rw [← Int.natCast_emod]; rfl
                have H3 := Lib.hid h3
                have hrx : rs[T % m]? = some X := by
                  have hlt : T % m < rs.length := by rw [Hrlen.out]; exact Nat.mod_lt _ hm0
                  rw [← HX.out, if_neg hne, Hrlen.out]
                  simp [List.getElem?_eq_getElem hlt]
                have Hrx := Lib.hid hrx
                clear h3 hrx hne
                go_wp2_with ((with_reducible refine on_index (.tmp 143) ?_); refine wl_at_i rfl _ (.tmp 143) _ rfl el_int rfl rfl (by omega) (by omega) qr7 ?_; intro p1 x1 hx1 hc1; have hxx := get_eq Hrx.out hx1.out H3.out.symm; subst hxx)
                go_meet
                case rel => exact ⟨rfl, rfl⟩
            case rest =>
              obtain ⟨rfl, rfl⟩ := hcut
              go_upto_region 35 with fail
              have zg := bp7.lt
              have y2 : ∀ q : KStep gp wc.drew, q.w.cell? ⟨gp, 2, none⟩ = some (.slice A7 j c7) := fun q => (bp7.drew.keep q).cell 2
              have hlim := tmod_lim X nodes (by omega)
              have e1 : IntKind.i64.wrap (X.tmod nodes + nodes) = X.tmod nodes + nodes := IntWalk.i64_in _ (by omega)
              have e2 : (X.tmod nodes + nodes).tmod nodes = X % nodes := tmod_fit X nodes (by omega)
              have zd : gp < wc.drew.heap.size := zg
              have hrow : Hid (rowOf A7 ≠ some gp) := Lib.hid (fun e => by have := ow7.ow.row_ge _ e; omega)
              refine wp_region_treeL 12 (.float 0 9 (.one 9 (.one 10 (.float 11 1 (.one 12 .done))))) (Th.KReach gp) (Th.KReach.trans _) (Th.KReach.refl _) (by kernel_rfl) (by kernel_rfl) (by kernel_rfl) (fun KT hKT => ?_)
              refine wpTreeL_float (fun KF hKF => ?_)
              simp only [List.drop, List.take]
              repeat (first | go_big_quiet_skip | go_big_quiet_step (fail) | quiet_step (fail))
              refine wpQuiet_nil ?_
              refine hKF _ ?_
              clear hKF KF
              refine wpTreeL_one (fun KO hKO => ?_)
              simp only [List.drop, List.take]
              go_wp2_with (first | ((with_reducible refine on_append (.tmp 151) (.tmp 159) ?_); refine wl_appendA rfl (.tmp 151) (.tmp 159) _ rfl el_int (f := iv) (fun _ => rfl) rfl ((ow7.below (bdrew1 wc)).alloc (.cells #[.int .i64 (X % nodes)] 3)) rfl (OwS.lit (base := wc.heap.size) (e := 3) (xs := [X % (nodes : Int)]) wc.drew #[.int .i64 (X % nodes)] 1 (Nat.le_refl _) (by simp [maxLen]) rfl rfl).rd (by omega) (by omega) (by simp; omega) ?_; intro A8 c8 w8 ow8 hg8 hb8 hA8; have kg : w8.heap[gp]? = (wc.drew.alloc (.cells #[.int .i64 (X % nodes)] 3)).heap[gp]? := keep_grown hg8 (by simp; omega) hrow.out; have bp8 := (bp7.drew.alloc (.cells #[.int .i64 (X % nodes)] 3)).grown hg8 hrow.out; have k2 : w8.cell? ⟨gp, 2, none⟩ = some (.slice A7 j c7) := bp8.cell 2; have fz2 := bp8.frozen 2; have bS := bp8.setCell 2 (.slice A8 (j + 1) c8); have ow9 := ow8.grown bS.2 (fun g' hA e => by injection e with e; subst hA; have := ow8.lt; omega); have B8 := ((bdrew _ _ : Below gp wc wc.drew).trans (below_alloc wc.drew (by omega) (.cells #[.int .i64 (X % nodes)] 3))).trans ((hb8.mono (by omega)).trans (below_of_grown (B := gp) bS.2 (fun j e => by injection e with e; omega) (by have := bp8.lt; omega)))))
              refine anch_endL (Th.KReach.of (by first | exact rfl | assumption | (simp; done) | (exact keep_alloc _ _ (by assumption)))) (hKO _ _ ?_)
              clear hKO KO
              refine wpTreeL_one (fun KO hKO => ?_)
              simp only [List.drop, List.take]
              go_wp2_with (first | ((with_reducible refine on_append (.tmp 151) (.tmp 159) ?_); refine wl_appendA rfl (.tmp 151) (.tmp 159) _ rfl el_int (f := iv) (fun _ => rfl) rfl ((ow7.below (bdrew1 wc)).alloc (.cells #[.int .i64 (X % nodes)] 3)) rfl (OwS.lit (base := wc.heap.size) (e := 3) (xs := [X % (nodes : Int)]) wc.drew #[.int .i64 (X % nodes)] 1 (Nat.le_refl _) (by simp [maxLen]) rfl rfl).rd (by omega) (by omega) (by simp; omega) ?_; intro A8 c8 w8 ow8 hg8 hb8 hA8; have kg : w8.heap[gp]? = (wc.drew.alloc (.cells #[.int .i64 (X % nodes)] 3)).heap[gp]? := keep_grown hg8 (by simp; omega) hrow.out; have bp8 := (bp7.drew.alloc (.cells #[.int .i64 (X % nodes)] 3)).grown hg8 hrow.out; have k2 : w8.cell? ⟨gp, 2, none⟩ = some (.slice A7 j c7) := bp8.cell 2; have fz2 := bp8.frozen 2; have bS := bp8.setCell 2 (.slice A8 (j + 1) c8); have ow9 := ow8.grown bS.2 (fun g' hA e => by injection e with e; subst hA; have := ow8.lt; omega); have B8 := ((bdrew _ _ : Below gp wc wc.drew).trans (below_alloc wc.drew (by omega) (.cells #[.int .i64 (X % nodes)] 3))).trans ((hb8.mono (by omega)).trans (below_of_grown (B := gp) bS.2 (fun j e => by injection e with e; omega) (by have := bp8.lt; omega)))))
              refine anch_endL (Th.KReach.of (by first | exact rfl | assumption | (simp; done) | (exact keep_alloc _ _ (by assumption)))) (hKO _ _ ?_)
              clear hKO KO
              refine wpTreeL_float (fun KF hKF => ?_)
              simp only [List.drop, List.take]
              repeat (first | go_big_quiet_skip | go_big_quiet_step (fail) | quiet_step (fail))
              refine wpQuiet_nil ?_
              refine hKF _ ?_
              clear hKF KF
              refine wpTreeL_one (fun KO hKO => ?_)
              simp only [List.drop, List.take]
              go_wp2_with (first | ((with_reducible refine on_append (.tmp 151) (.tmp 159) ?_); refine wl_appendA rfl (.tmp 151) (.tmp 159) _ rfl el_int (f := iv) (fun _ => rfl) rfl ((ow7.below (bdrew1 wc)).alloc (.cells #[.int .i64 (X % nodes)] 3)) rfl (OwS.lit (base := wc.heap.size) (e := 3) (xs := [X % (nodes : Int)]) wc.drew #[.int .i64 (X % nodes)] 1 (Nat.le_refl _) (by simp [maxLen]) rfl rfl).rd (by omega) (by omega) (by simp; omega) ?_; intro A8 c8 w8 ow8 hg8 hb8 hA8; have kg : w8.heap[gp]? = (wc.drew.alloc (.cells #[.int .i64 (X % nodes)] 3)).heap[gp]? := keep_grown hg8 (by simp; omega) hrow.out; have bp8 := (bp7.drew.alloc (.cells #[.int .i64 (X % nodes)] 3)).grown hg8 hrow.out; have k2 : w8.cell? ⟨gp, 2, none⟩ = some (.slice A7 j c7) := bp8.cell 2; have fz2 := bp8.frozen 2; have bS := bp8.setCell 2 (.slice A8 (j + 1) c8); have ow9 := ow8.grown bS.2 (fun g' hA e => by injection e with e; subst hA; have := ow8.lt; omega); have B8 := ((bdrew _ _ : Below gp wc wc.drew).trans (below_alloc wc.drew (by omega) (.cells #[.int .i64 (X % nodes)] 3))).trans ((hb8.mono (by omega)).trans (below_of_grown (B := gp) bS.2 (fun j e => by injection e with e; omega) (by have := bp8.lt; omega)))))
              refine anch_last (hKO _ _ ?_)
              clear hKO KO
              refine wpTreeL_done ?_
              refine hKT _ _ ?_
              clear hKT KT
              clear e1 e2 y2
              go_wp2
              go_roundw
              case rel => exact ⟨j + 1, T + 1, A8, c8, by omega, by go_num, by go_num, by omega, by omega, bS.1, by rw [Hst.out]; exact ow9, hb7.trans B8⟩
              case measure => simp [intOf]; omega
          · have hjn2 : j = nodes := by omega
            subst hjn2
            have bx7 := bx5.below hb7 (by have := bx.lt; omega)
            have c1 : wr.cell? ⟨g, 1, none⟩ = some (.slice A6 k c6) := bx7.cell 1
            have B7 := B5.trans (hb7.mono hgp)
            have owp7 := ow.below B7
            have hd : ∀ q' ∈ qs, rowOf q'.A ≠ rowOf A7 := by
              intro q' hq e
              obtain ⟨g7, hA7, h7⟩ := ow7.at0 (by omega)
              rw [hA7] at e
              rcases (ow.rk q' hq).1.ow.form with ⟨e2, _⟩ | ⟨g'', e2, _, hlt2⟩
              · rw [e2] at e; cases e
              · rw [e2] at e
                have : g'' = g7 := by simpa [rowOf] using e
                omega
            have Hd := Lib.hid hd
            have hqs : qs.length = k := owp7.parts.len
            have Hqs := Lib.hid hqs
            have hrow := Lib.hid (few_row owp7.parts (Nat.lt_succ_self g))
            clear hd hqs qr7 bp5 bx5 ow5 owp5 qr5 hb7 rr qr
            have zB := B7.size
            have zg := bx.lt
            go_wp2_with (first
              | ((with_reducible refine on_load (.tmp 18) ?_); refine wpt_box rfl _ (.tmp 18) rfl st_part rfl bp7 ?_)
              | ((with_reducible refine on_append (.tmp 165) (.tmp 167) ?_); refine wm_append Pt.cs_length rfl (.tmp 165) (.tmp 167) _ rfl el_part Pt.one rfl (owp7.parts.alloc (.cells #[.int .u32 lo, .int .u32 hi, .slice A7 j c7] 26)) rfl (OwM.lit (base := wr.heap.size) (e := 26) (xs := [⟨lo, hi, A7, j, c7, (List.range j).map fun t => frk rs j (a + t)⟩]) Pt.cs_length wr #[.int .u32 lo, .int .u32 hi, .slice A7 j c7] 1 (Nat.le_refl _) (by simp [maxLen]) rfl rfl).rd (by omega) (by omega) (by simp; omega) ?_; intro A8 c8 w8 ow8 hg8 hb8; have bx8 := (bx7.alloc (.cells #[.int .u32 lo, .int .u32 hi, .slice A7 j c7] 26)).grown hg8 hrow.out; have k1 : w8.cell? ⟨g, 1, none⟩ = some (.slice A6 k c6) := bx8.cell 1; have fz1 := bx8.frozen 1; have bS := bx8.setCell 1 (.slice A8 (k + 1) c8); have P8 := (owp7.below (below_alloc wr (Nat.le_refl _) (.cells #[.int .u32 lo, .int .u32 hi, .slice A7 j c7] 26))).more (p := ⟨lo, hi, A7, j, c7, (List.range j).map fun t => frk rs j (a + t)⟩) ⟨(ow7.alloc (.cells #[.int .u32 lo, .int .u32 hi, .slice A7 j c7] 26)).base_le (by omega), rfl⟩ Hd.out hg8 ow8; have P9 := P8.box bS.2 (by omega); have B8 := (below_alloc wr (show g ≤ wr.heap.size by omega) (.cells #[.int .u32 lo, .int .u32 hi, .slice A7 j c7] 26)).trans ((hb8.mono (by omega)).trans (below_of_grown (B := g) bS.2 (fun j e => by injection e with e; omega) (by have := bx8.lt; omega)))))
            go_roundw
            case rel =>
              refine ⟨k + 1, A8, c8, _, by omega, by go_num, ?_, bS.1, P9, Lib.hid ?_, hb.trans ((B7.mono (by omega)).trans B8)⟩
              · rw [show (k + 1) * j = T by rw [Nat.succ_mul, HA.out]; omega]
              · have hf : (fparts l rs j)[k]? = some (fpart l rs j k) := by simp [fparts, HL.out, hlt]
                rw [List.map_append, hkey.out, List.take_add_one, hf, Hkey.out]
                rfl
            case measure => simp [intOf]; omega
      · have hkL : k = L := by omega
        subst hkL
        have b2r := b24.below hb (by omega)
        have zg := bx.lt
        go_wp2_with (first
          | ((with_reducible refine on_load (.tmp 12) ?_); refine wcv_box rfl (.tmp 12) rfl rfl bx ?_)
          | ((with_reducible refine on_store_at (.tmp 4) ?_); refine wb_store (cs := Cv 0 none 0 0 0 none 0 0) (cs' := Cv 1 A6 k c6 0 none 0 0) rfl _ (.tmp 4) _ rfl st_cert rfl rfl b2r rfl rfl (by simp [Cv, Value.oneCell']) ?_; intro w9 b9 hg9))
        have hql : qs.length = k := ow.parts.len
        have hkey2 : qs.map pkey = fparts l rs nodes := by
          rw [hkey.out, List.take_of_length_le (by simp [fparts, HL.out])]
        have P9 : POw w9 (g + 1) A6 qs.length c6 qs nodes := by rw [hql]; exact ow.box hg9 (by omega)
        refine bodyPost_ret (v := .agg #[.int .i64 1, .slice A6 k c6, .int .u32 0, .slice none 0 0]) ?_ rfl ⟨A6, c6, qs, by rw [hql], P9.base_le (by omega), ⟨by unfold fcuts franksIn; rw [Hl.out, Hrs.out]; exact hkey2, by unfold fcuts; rw [Hl.out]; exact Hrow.out, by omega⟩, ?_⟩
        · exact results_cell_row rfl _ w9 (w.heap.size + 1) 29 _ (0, 0) _ rfl b9.at_ Try.underlying29 rfl st_cert.size
        · exact (B4.trans (hb.mono (by omega))).trans (below_of_grown hg9 (fun j e => by injection e with e; omega) (by have := b2r.lt; omega))
end Go.Proofs.Yteellpcagdnikaa
