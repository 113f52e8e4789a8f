/-
  theseuslaw17.CertMeets: the walk.
-/
import Derived.Test.YteellpcagdnikaaFitFree
import Derived.Test.YteellpcagdnikaaCertMeetsLaw
import Derived.Test.YteellpcagdnikaaOpenCert
namespace Go.Proofs.Yteellpcagdnikaa
open Go.RowKit Go.Th
set_option linter.unusedVariables false
theorem field_parts (w : World) (v : Int) (Ap : Option Addr) (np cp : Nat) (d : Int) (At : Option Addr) (nt ct : Nat) : (Instr.field 29 (.agg #[.int .i64 v, .slice Ap np cp, .int .u32 d, .slice At nt ct]) 1).run Try.prog w = .ok (.slice Ap np cp) w := by kernel_rfl
section
variable {ops : Array Oper} {rest : List Oper} {o : Oper} {a : Act} {Q : Exit → Act → World → Prop} {w : World}
theorem wl_fieldParts (hw : Region.wanted o (yielded ops a.tmps) = true) (x : Operand) (ho : o.op = .field 29 x 1) {v : Int} {Ap : Option Addr} {np cp : Nat} {d : Int} {At : Option Addr} {nt ct : Nat} (hx : a.eval x = .agg #[.int .i64 v, .slice Ap np cp, .int .u32 d, .slice At nt ct])
    (h : wpList Try.prog ops Q rest (a.put o.dst (.slice Ap np cp)) w) : wpList Try.prog ops Q (o :: rest) a w :=
  wl_run hw (by simp only [execOp, ho, hx, Sem.run_bind, field_parts, Result.andThen, Sem.run_pure]) h
theorem on_field (x : Operand) {d T i ty pos af g} (h : wpList Try.prog ops Q (⟨d, .field T x i, ty, pos, af, g⟩ :: rest) a w) : wpList Try.prog ops Q (⟨d, .field T x i, ty, pos, af, g⟩ :: rest) a w := h
end
def MeetsA (L b : Nat) (at_ : Int) (l : List Int) (qs : List Pt) (wb : World) (s7 s8 s9 : Value) (wr : World) : Prop :=
  ∃ (k : Nat) (A : Option Addr) (c m : Nat), k ≤ L ∧ s9 = .int .i64 k ∧ s7 = .slice A k c ∧ s8 = .int .i64 m ∧ m ≤ k ∧ Hid (cnt at_ (qs.take k) = m) ∧ OwS uv wr b 22 A k c (l.take k) ∧ Below b wb wr
set_option maxRecDepth 100000 in
set_option maxHeartbeats 4000000 in
theorem certMeets_core (v : Int) (Ap : Option Addr) (np cp : Nat) (d : Int) (At : Option Addr) (nt ct : Nat) (ps : List Pt) (tr : List Int) {w : World} (hnp : np ≤ 9223372036854775807) (hnt : nt ≤ 9223372036854775807) (hp : PRd w w.heap.size Ap np cp ps) (ht : RdS iv w w.heap.size At nt ct tr) (hsm : ∀ p ∈ ps, p.n ≤ 9223372036854775807) (a : Int) (ha : 0 ≤ a ∧ a ≤ 4294967295) :
    Calls Try.prog 6 #[.agg #[.int .i64 v, .slice Ap np cp, .int .u32 d, .slice At nt ct], .int .u32 a] w fun e w' => e = .returned (.bool true) ∧ Below w.heap.size w w' := by
  obtain ⟨N, hN⟩ : ∃ N, min np 20 = N := ⟨_, rfl⟩
  obtain ⟨M, hM⟩ : ∃ M, min nt 20 = M := ⟨_, rfl⟩
  have HN := Lib.hid hN
  have HM := Lib.hid hM
  have hN1 : N ≤ 20 := by omega
  clear hN hM
  have bx := Box.new w (Cv v Ap np cp d At nt ct) 29
  have k1 := below_alloc w (Nat.le_refl _) (.cells (Cv v Ap np cp d At nt ct) 29)
  obtain ⟨ha1, ha2⟩ := ha
  go_enter Try.func6, Try.ntmps6
  go_wp2_with fail
  refine (shown17 _).mono ?_
  rintro e w1 ⟨rfl, hb1⟩
  have bx1 := bx.step hb1
  have y0 : w1.cell? ⟨w.heap.size, 0, none⟩ = some (.int .i64 v) := bx1.cell 0
  have f0 := bx1.frozen 0
  have bS := bx1.setCell 0 (.int .i64 1)
  have B1 : Below w.heap.size w (w1.setCell ⟨w.heap.size, 0, none⟩ (.int .i64 1)) := (k1.trans (hb1.mono k1.size)).trans (below_of_grown bS.2 (fun j e => by injection e with e; omega) (Nat.le_trans k1.size hb1.size))
  go_upto_region 3 with fail
  obtain ⟨w2, hw2⟩ : ∃ W, w1.setCell ⟨w.heap.size, 0, none⟩ (.int .i64 1) = W := ⟨_, rfl⟩
  rw [hw2] at bS B1 ⊢
  have bx2 : Box w2 w.heap.size 29 (Cv 1 Ap np cp d At nt ct) := bS.1
  clear hw2 hb1 bx k1 bx1 y0 f0 bS
  clear w1
  have hp2 := hp.below B1
  have ht2 := ht.below B1
  have hfew := Lib.hid (few17_any 1 Ap np cp d At nt ct w2 hnp hnt ps tr _ hp2 ht2 hsm N M HN.out HM.out)
  have Hsm := Lib.hid hsm
  clear hsm
  go_wp2_with (first
    | ((with_reducible refine on_load (.tmp 2) ?_); refine wcv_box rfl (.tmp 2) rfl rfl bx2 ?_)
    | (go_at_call 14; refine hfew.out.mono ?_; rintro e w3 ⟨A3, c3, rfl, ow3, hb3⟩; have hp3 := hp2.few ow3 hb3; have hfit := Lib.hid (rcfit_free 1 (by decide) A3 N c3 d At M ct 2 (by omega) w3 (by omega) _ _ hp3 (fun p hp => by obtain ⟨q, _, rfl⟩ := List.mem_map.1 hp; show min q.n 20 ≤ 1048576; omega)))
    | (go_at_call 13; refine hfit.out.mono ?_; rintro e w4 ⟨A4, c4, qs, rfl, P4, F4, hb4⟩)
    | ((with_reducible refine on_alloc ?_); refine wl_newBox rfl _ rfl z_cert ?_; intro g w5 hg5 hl5 bg hb5)
    | ((with_reducible refine on_store_at (.tmp 6) ?_); refine wb_store (cs := Cv 0 none 0 0 0 none 0 0) (cs' := Cv 1 A4 qs.length c4 0 none 0 0) rfl _ (.tmp 6) _ rfl st_cert rfl rfl bg rfl rfl (by simp [Cv, Value.oneCell']) ?_; intro w6 bx6 hg6))
  have B46 := hb5.trans (below_of_grown (B := w4.heap.size) hg6 (fun j e => by injection e with e; omega) hb5.size)
  have B24 := hb3.trans (hb4.mono hb3.size)
  have B26 := B24.trans (B46.mono B24.size)
  have B6 := B1.trans (B26.mono B1.size)
  have bx26 := bx2.step B26
  have hp6 := hp2.step B26
  have ht6 := ht2.step B26
  have q6 := ((P4.rd F4.ok).step B46).heap
  obtain ⟨l, hl⟩ : ∃ l, fcuts ((ps.take 20).map Pt.few) = l := ⟨_, rfl⟩
  obtain ⟨rs, hrs⟩ : ∃ rs, franksIn ((ps.take 20).map Pt.few) = rs := ⟨_, rfl⟩
  rw [hl, hrs] at F4
  have hrow := pfit_row (m := (((ps.take 20).map Pt.few).take 12).map (·.fr)) (fun x hx => by
    obtain ⟨q, hq, rfl⟩ := List.mem_map.1 hx
    exact (hp3.ok q (List.mem_of_mem_take hq)).fr)
  have hl31 : l.length ≤ 31 := by rw [← hl]; exact hrow.2
  have hql := F4.len
  have HF := Lib.hid F4
  obtain ⟨L, hL⟩ : ∃ L, qs.length = L := ⟨_, rfl⟩
  have HL := Lib.hid hL
  have hL31 : L ≤ 31 := by omega
  have hLl : Hid (l.length = L) := Lib.hid (by omega)
  rw [hL] at bx6 q6
  have c6 : ∀ j, w6.cell? ⟨g, j, none⟩ = (Cv 1 A4 L c4 0 none 0 0)[j]? := fun j => bx6.cell j
  have HC6 := Lib.hid c6
  first | rw [hL] | skip
  clear hl hrs hrow hql hL hfew hfit hb3 hb4 hb5 hg6 bg ow3 P4 B46 B24 hp3 bx2 hp2 ht2 hp ht F4 hl5 hg5 c6
  clear w5
  clear w4
  clear w3
  have B0 : Below w6.heap.size w6 w6 := Below.refl _ _
  have z6 := B6.size
  clear B26 B1
  clear w2
  go_wp2
  go_loopw [7, 8, 9] (fun s7 s8 s9 wr => MeetsA L w6.heap.size a l qs w6 s7 s8 s9 wr) (fun _ _ i _ => L - (intOf i).toNat)
  case atStart => exact ⟨0, _, 0, 0, by omega, rfl, rfl, rfl, by omega, Lib.hid rfl, OwS.lit (base := w6.heap.size) (e := 22) (xs := []) w6 #[] 0 (Nat.le_refl _) (by simp [maxLen]) rfl rfl, below_alloc w6 (Nat.le_refl _) _⟩
  case round =>
    obtain ⟨k, A, c, m, hk, rfl, rfl, rfl, hmk, hm, ow, hb⟩ := hrel
    have bxr := bx6.step hb
    have qr := q6.step hb
    have c1 : wr.cell? ⟨g, 1, none⟩ = some (.slice A4 L c4) := bxr.cell 1
    by_cases hlt : k < L
    · obtain ⟨p, hpk⟩ : ∃ p, qs[k]? = some p := ⟨qs[k]'(by rw [HL.out]; exact hlt), List.getElem?_eq_getElem _⟩
      have hfk : l[k]? = some p.fr := by rw [(HF.out.get hpk).2.1]; exact (row_at HF.out.row (HF.out.get hpk).1).1
      have hst : l.take (k + 1) = l.take k ++ [p.fr] := by rw [List.take_add_one, hfk]; rfl
      have hcn := cnt_snoc hpk a
      rw [hm.out] at hcn
      have Hst := Lib.hid hst
      have Hcn := Lib.hid hcn
      have Hpk := Lib.hid hpk
      clear hfk hst hcn hpk hm
      have hways : (p.fr ≤ a ∧ a ≤ p.to ∧ Hid (inPart a p = true)) ∨ (p.fr ≤ a ∧ p.to < a ∧ Hid (inPart a p = false)) ∨ (a < p.fr ∧ Hid (inPart a p = false)) := by
        unfold inPart
        by_cases h1 : p.fr ≤ a
        · by_cases h2 : a ≤ p.to
          · exact .inl ⟨h1, h2, Lib.hid (by simp [h1, h2])⟩
          · exact .inr (.inl ⟨h1, by omega, Lib.hid (by simp [h2])⟩)
        · exact .inr (.inr ⟨by omega, Lib.hid (by simp [h1])⟩)
      rcases hways with ⟨h1, h2, hi⟩ | ⟨h1, h2, hi⟩ | ⟨h1, hi⟩
      all_goals
        go_wp2_with (first
          | ((with_reducible refine on_index (.tmp 33) ?_); refine wm_at Pt.cs_length rfl _ (.tmp 33) _ rfl el_part rfl rfl (by omega) (by omega) qr.rd ?_; intro b1 j1 r1 hr1 hb1 hc1; have hxx : p = r1 := get_eq Hpk.out hr1.out (by omega); subst hxx; have e1 : wr.cell? ⟨b1, j1, none⟩ = some (.int .u32 p.fr) := hc1.out 0 _ rfl)
          | ((with_reducible refine on_append (.tmp 31) (.tmp 38) ?_); refine wl_appendS rfl (.tmp 31) (.tmp 38) _ rfl el_u32 (f := uv) (fun _ => rfl) rfl (ow.alloc (.cells #[.int .u32 p.fr] 22)) rfl (OwS.lit (base := wr.heap.size) (e := 22) (xs := [p.fr]) wr #[.int .u32 p.fr] 1 (Nat.le_refl _) (by simp [maxLen]) rfl rfl).rd (by omega) (by omega) (by have := hb.size; simp; omega) ?_; intro A8 c8 w8 ow8 hg8 hb8; have B8 := (below_alloc wr hb.size (.cells #[.int .u32 p.fr] 22)).trans hb8; have bx8 := bx6.step (hb.trans B8); have qr8 := q6.step (hb.trans B8); have d1 : w8.cell? ⟨g, 1, none⟩ = some (.slice A4 L c4) := bx8.cell 1)
          | ((with_reducible refine on_index (.tmp 42) ?_); refine wm_at Pt.cs_length rfl _ (.tmp 42) _ rfl el_part rfl rfl (by omega) (by omega) qr8.rd ?_; intro b2 j2 r2 hr2 hb2 hc2; have hxx : p = r2 := get_eq Hpk.out hr2.out (by omega); subst hxx; have e2 : w8.cell? ⟨b2, j2, none⟩ = some (.int .u32 p.fr) := hc2.out 0 _ rfl)
          | ((with_reducible refine on_index (.tmp 51) ?_); refine wm_at Pt.cs_length rfl _ (.tmp 51) _ rfl el_part rfl rfl (by omega) (by omega) qr8.rd ?_; intro b3 j3 r3 hr3 hb3 hc3; have hxx : p = r3 := get_eq Hpk.out hr3.out (by omega); subst hxx; have e3 : w8.cell? ⟨b3, j3 + 1, none⟩ = some (.int .u32 p.to) := hc3.out 1 _ rfl))
        go_roundw
        case rel =>
          first
            | exact ⟨k + 1, A8, c8, m + 1, by omega, by go_num, rfl, by go_num, by omega, Lib.hid (by rw [Hcn.out, if_pos hi.out]), by rw [Hst.out]; exact ow8, hb.trans B8⟩
            | exact ⟨k + 1, A8, c8, m, by omega, by go_num, rfl, rfl, by omega, Lib.hid (by rw [Hcn.out, if_neg (by rw [hi.out]; simp)]; omega), by rw [Hst.out]; exact ow8, hb.trans B8⟩
        case measure => simp [intOf]; omega
    · have hkL : k = L := by omega
      subst hkL
      have hm1 : m = 1 := by
        rw [← hm.out, List.take_of_length_le (by rw [HL.out]; exact Nat.le_refl _)]
        exact (cnt_meet qs 0 a HF.out.meet ha2).2 ha1
      subst hm1
      rw [List.take_of_length_le (by rw [hLl.out]; exact Nat.le_refl _)] at ow
      have ro := ow.rd.heap
      clear hm hmk hk bxr qr ow
      rename World => wa
      go_wp2
      go_loopw [10] (fun i wr => ∃ jj : Nat, jj ≤ k ∧ i = .int .i64 jj ∧ Below wa.heap.size wa wr) (fun i _ => k - (intOf i).toNat)
      case atStart => exact ⟨0, by omega, rfl, Below.refl _ _⟩
      case round =>
        obtain ⟨jj, hj, rfl, hbb⟩ := hrel
        have bxr := bx6.step (hb.trans (hbb.mono hb.size))
        have qr := q6.step (hb.trans (hbb.mono hb.size))
        have rr := ro.step hbb
        have c1 : wr.cell? ⟨g, 1, none⟩ = some (.slice A4 k c4) := bxr.cell 1
        by_cases hlt : jj < k
        · obtain ⟨p, hpk⟩ : ∃ p, qs[jj]? = some p := ⟨qs[jj]'(by rw [HL.out]; exact hlt), List.getElem?_eq_getElem _⟩
          obtain ⟨g1, g2, g3, _⟩ := HF.out.get hpk
          have hlj : l[jj]? = some p.fr := by rw [g2]; exact (row_at HF.out.row g1).1
          have hEnd : EndOf l k jj p.to := by
            rw [g3, ← hLl.out]
            unfold endOf
            split
            · rename_i h
              have h1 := row_at HF.out.row h
              have h2 : l.getD jj 0 < l.getD (jj + 1) 0 := row_lt HF.out.row (by omega) h
              have h3 := row_at HF.out.row g1
              exact .inr ⟨h, _, h1.1, by omega, h1.2.2, rfl⟩
            · rename_i h
              exact .inl ⟨by omega, rfl⟩
          have hcall := Lib.hid (cends_any A k c l wr (by omega) _ rr jj hlt p.fr p.to (Lib.hid hlj) hEnd)
          have Hpk := Lib.hid hpk
          clear g1 g2 g3 hlj hEnd hpk
          go_wp2_with fail
          refine hcall.out.mono ?_
          rintro e w9 ⟨rfl, hb9⟩
          have bx9 := bxr.step hb9
          have qr9 := qr.step hb9
          have d1 : w9.cell? ⟨g, 1, none⟩ = some (.slice A4 k c4) := bx9.cell 1
          go_wp2_with (first
            | ((with_reducible refine on_index (.tmp 79) ?_); refine wm_at Pt.cs_length rfl _ (.tmp 79) _ rfl el_part rfl rfl (by omega) (by omega) qr9.rd ?_; intro b1 j1 r1 hr1 hb1 hc1; have hxx : p = r1 := get_eq Hpk.out hr1.out (by omega); subst hxx; have e1 : w9.cell? ⟨b1, j1, none⟩ = some (.int .u32 p.fr) := hc1.out 0 _ rfl)
            | ((with_reducible refine on_index (.tmp 89) ?_); refine wm_at Pt.cs_length rfl _ (.tmp 89) _ rfl el_part rfl rfl (by omega) (by omega) qr9.rd ?_; intro b2 j2 r2 hr2 hq2 hc2; have hxx : p = r2 := get_eq Hpk.out hr2.out (by omega); subst hxx; have e2 : w9.cell? ⟨b2, j2 + 1, none⟩ = some (.int .u32 p.to) := hc2.out 1 _ rfl))
          go_roundw
          case rel => first | exact ⟨jj + 1, by omega, by go_num, hbb.trans (hb9.mono hbb.size)⟩ | ((repeat apply Exists.intro); exact ⟨⟨jj + 1, by omega, by go_num, hbb.trans (hb9.mono hbb.size)⟩, rfl⟩)
          case measure => simp [intOf]; omega
        · have hjk : jj = k := by omega
          subst hjk
          have bxa := bx26.step (hb.trans (hbb.mono hb.size))
          have hpr := hp6.step (hb.trans (hbb.mono hb.size))
          have htr := ht6.step (hb.trans (hbb.mono hb.size))
          have hfew := Lib.hid (few17_any 1 Ap np cp d At nt ct wr hnp hnt ps tr _ hpr htr Hsm.out N M HN.out HM.out)
          have B9 := B6.trans ((hb.trans (hbb.mono hb.size)).mono z6)
          have Hbox := Lib.hid bxr
          have Hpar := Lib.hid qr
          clear hbb hb ro rr qr
          go_upto_region 19 with (first
            | ((with_reducible refine on_load (.tmp 2) ?_); refine wcv_box rfl (.tmp 2) rfl rfl bxa ?_)
            | (go_at_call 14; refine hfew.out.mono ?_; rintro e w3 ⟨A5, c5, rfl, ow5, hb5⟩; have hp5 := hpr.few ow5 hb5)
            | ((with_reducible refine on_field (.tmp 97) ?_); refine wl_fieldParts rfl (.tmp 97) rfl rfl ?_))
          obtain ⟨R, hR⟩ : ∃ R, (ps.take 20).map Pt.few = R := ⟨_, rfl⟩
          rw [hR] at hp5
          have bxc := Hbox.out.step hb5
          have hqc := (Hpar.out.step hb5).heap
          have Bc := B9.trans (hb5.mono B9.size)
          have HRl := Lib.hid hp5.rd.len
          have HRok := Lib.hid hp5.ok
          clear hR hfew hpr htr hb5 ow5 B9 bxa Hbox Hpar c1 bxr hp6 ht6 bx26 q6 bx6 HC6 B0 B6 z6
          clear c1
          clear wr
          rename World => wb
          go_cut [15] (fun s15 wx => ∃ b, s15 = .bool b ∧ Hid (MeetI R 0 b) ∧ wx = wb)
          case first =>
            have hways : N = 0 ∨ (0 < N ∧ ∃ p, R[0]? = some p ∧ (p.fr = 0 ∨ 0 < p.fr)) := by
              rcases Nat.eq_zero_or_pos N with h | h
              · exact .inl h
              · have hp : R[0]? = some (R[0]'(by rw [HRl.out]; exact h)) := List.getElem?_eq_getElem _
                have := (HRok.out _ (List.mem_of_getElem? hp)).fr
                exact .inr ⟨h, _, hp, by omega⟩
            rcases hways with h0 | ⟨h0, p, hp, h1 | h1⟩
            · have e : Hid (MeetI R 0 false) := Lib.hid (.inr ⟨rfl, by
                have : R = [] := List.eq_nil_of_length_eq_zero (by rw [HRl.out]; exact h0)
                subst this
                simp [meetF]⟩)
              have hn : ¬ 0 < N := by omega
              clear h0
              go_wp2
              go_meet
              case rel => exact ⟨false, rfl, e, rfl⟩
            · have e : Hid (MeetI R 0 true) := Lib.hid (.inl ⟨rfl, ⟨p, hp, h1⟩, by omega⟩)
              have Hp := Lib.hid hp
              have H1 := Lib.hid h1
              clear hp h1
              go_wp2_with ((with_reducible refine on_index (.tmp 103) ?_); refine wm_at Pt.cs_length rfl _ (.tmp 103) _ rfl el_part rfl rfl (by omega) (by omega) hp5.rd ?_; intro b1 j1 r1 hr1 hb1 hc1; have hxx : p = r1 := get_eq Hp.out hr1.out (by omega); subst hxx; have e1 : wb.cell? ⟨b1, j1, none⟩ = some (.int .u32 p.fr) := hc1.out 0 _ rfl; rw [H1.out] at e1)
              go_meet
              case rel => exact ⟨true, rfl, e, rfl⟩
            · have e : Hid (MeetI R 0 false) := Lib.hid (.inr ⟨rfl, fun h => by rw [meet_first hp (by omega)] at h; cases h⟩)
              have Hp := Lib.hid hp
              have hne : (p.fr == 0) = false := by simp; omega
              clear hp
              go_wp2_with ((with_reducible refine on_index (.tmp 103) ?_); refine wm_at Pt.cs_length rfl _ (.tmp 103) _ rfl el_part rfl rfl (by omega) (by omega) hp5.rd ?_; intro b1 j1 r1 hr1 hb1 hc1; have hxx : p = r1 := get_eq Hp.out hr1.out (by omega); subst hxx; have e1 : wb.cell? ⟨b1, j1, none⟩ = some (.int .u32 p.fr) := hc1.out 0 _ rfl)
              go_meet
              case rel => exact ⟨false, rfl, e, rfl⟩
          case rest =>
            obtain ⟨b0, rfl, hi0, rfl⟩ := hcut
            go_upto_block 4 with fail
            go_cut [15] (fun s15 wx => s15 = .bool (decide (meetF 0 R = true)) ∧ Below wc.heap.size wc wx)
            case first =>
              go_wp2
              go_loopw [15, 16] (fun s15 s16 wr => ∃ (k : Nat) (b : Bool), k ≤ N ∧ s16 = .int .i64 k ∧ s15 = .bool b ∧ Hid (MeetI R k b) ∧ Below wc.heap.size wc wr) (fun _ i _ => N - (intOf i).toNat)
              case atStart => exact ⟨0, b0, by omega, rfl, rfl, hi0, Below.refl _ _⟩
              case round =>
                obtain ⟨i, b, hk, rfl, rfl, hI, hb⟩ := hrel
                have hpr := hp5.step hb
                have hok := HRok
                by_cases hlt : i < N
                · cases b with
                  | false =>
                    have he : Hid (false = decide (meetF 0 R = true)) := Lib.hid (hI.out.fin HRok.out (fun h => by cases h))
                    go_wp2
                    go_meet
                    case rel => exact ⟨by rw [← he.out], hb⟩
                  | true =>
                    obtain ⟨p, hpk⟩ : ∃ p, R[i]? = some p := ⟨R[i]'(by rw [HRl.out]; exact hlt), List.getElem?_eq_getElem _⟩
                    have hpo := HRok.out p (List.mem_of_getElem? hpk)
                    obtain ⟨⟨po1, po2⟩, po3, po4⟩ := hpo
                    have Hpk := Lib.hid hpk
                    by_cases hnx : i + 1 < N
                    · obtain ⟨q, hqk⟩ : ∃ q, R[i + 1]? = some q := ⟨R[i + 1]'(by rw [HRl.out]; exact hnx), List.getElem?_eq_getElem _⟩
                      have hqo := HRok.out q (List.mem_of_getElem? hqk)
                      obtain ⟨⟨qo1, qo2⟩, qo3, qo4⟩ := hqo
                      have Hqk := Lib.hid hqk
                      have hways : (q.fr ≤ p.fr ∧ Hid (MeetI R (i + 1) false)) ∨ (p.fr < q.fr ∧ 1 ≤ q.fr ∧ (p.to == q.fr - 1) = false ∧ Hid (MeetI R (i + 1) false)) ∨ (p.fr < q.fr ∧ 1 ≤ q.fr ∧ (p.to == q.fr - 1) = true ∧ Hid (MeetI R (i + 1) true)) := by
                        by_cases g1 : p.fr < q.fr
                        · by_cases g2 : p.to = q.fr - 1
                          · refine .inr (.inr ⟨g1, by omega, by simp [g2], Lib.hid (hI.out.yes ?_)⟩)
                            intro p' hp'
                            rw [hpk] at hp'
                            injection hp' with hp'
                            subst hp'
                            refine ⟨fun q' hq' => ?_, fun h => by rw [hqk] at h; cases h⟩
                            rw [hqk] at hq'
                            injection hq' with hq'
                            subst hq'
                            exact ⟨g1, g2⟩
                          · exact .inr (.inl ⟨g1, by omega, by simp [g2], Lib.hid (MeetI.no fun h => g2 ((h p hpk).1 q hqk).2)⟩)
                        · exact .inl ⟨by omega, Lib.hid (MeetI.no fun h => g1 ((h p hpk).1 q hqk).1)⟩
                      clear hpk hqk hI
                      have hx1 : ∀ v, Th.Reach wr.heap.size wr v → RdM Pt.cs v wc.heap.size A5 N c5 R := fun v hv => hpr.rd.step hv.below
                      rcases hways with ⟨g1, hN⟩ | ⟨g1, g2, g3, hN⟩ | ⟨g1, g2, g3, hN⟩
                      all_goals
                        go_upto_region 25 with fail
                        refine wp_region_reach (by kernel_rfl) (by kernel_rfl) ?_
                        repeat (first | go_big_quiet_skip | ((with_reducible refine onq_index (.tmp 123) ?_); refine wqm_at Pt.cs_length rfl _ (.tmp 123) _ rfl el_part rfl rfl (by omega) (by omega) (Th.Reach.refl _ _) hx1 ?_; intro b4 j4 t4 ht4 hc4; have hxx : q = t4 := get_eq Hqk.out ht4.out (by omega); subst hxx; have f4 : ∀ x : Step _ _, x.w.cell? ⟨b4, j4, none⟩ = some (.int .u32 q.fr) := fun x => hc4.out x.w ⟨x, rfl⟩ 0 _ rfl) | ((with_reducible refine onq_index (.tmp 129) ?_); refine wqm_at Pt.cs_length rfl _ (.tmp 129) _ rfl el_part rfl rfl (by omega) (by omega) (Th.Reach.refl _ _) hx1 ?_; intro b5 j5 t5 ht5 hc5; have hxx : p = t5 := get_eq Hpk.out ht5.out (by omega); subst hxx; have f5 : ∀ x : Step _ _, x.w.cell? ⟨b5, j5, none⟩ = some (.int .u32 p.fr) := fun x => hc5.out x.w ⟨x, rfl⟩ 0 _ rfl) | go_big_quiet_step (fail) | quiet_step (fail))
                        refine wpQuiet_nil ?_
                        rintro _ ⟨q, rfl⟩
                        have hqw5 := q.h
                        obtain ⟨w5, hw5'⟩ : ∃ W, q.w = W := ⟨_, rfl⟩
                        rw [hw5'] at hqw5 ⊢
                        clear hw5' q
                        have hpr5 := hpr.step hqw5
                        go_wp2_with (first
                          | ((with_reducible refine on_index (.tmp 135) ?_); refine wm_at Pt.cs_length rfl _ (.tmp 135) _ rfl el_part rfl rfl (by omega) (by omega) hpr5.rd ?_; intro b1 j1 r1 hr1 hq1 hc1; have hxx : q = r1 := get_eq Hqk.out hr1.out (by omega); subst hxx; have e1 : w5.cell? ⟨b1, j1, none⟩ = some (.int .u32 q.fr) := hc1.out 0 _ rfl)
                          | ((with_reducible refine on_index (.tmp 144) ?_); refine wm_at Pt.cs_length rfl _ (.tmp 144) _ rfl el_part rfl rfl (by omega) (by omega) hpr5.rd ?_; intro b2 j2 r2 hr2 hq2 hc2; have hxx : p = r2 := get_eq Hpk.out hr2.out (by omega); subst hxx; have e2 : w5.cell? ⟨b2, j2 + 1, none⟩ = some (.int .u32 p.to) := hc2.out 1 _ rfl))
                        go_roundw
                        case rel =>
                          first
                            | exact ⟨i + 1, false, by omega, by go_num, rfl, hN, hb.trans (hqw5.mono hb.size)⟩
                            | exact ⟨i + 1, true, by omega, by go_num, rfl, hN, hb.trans (hqw5.mono hb.size)⟩
                        case measure => simp [intOf]; omega
                    · have hways : ((p.to == 4294967295) = false ∧ Hid (MeetI R (i + 1) false)) ∨ ((p.to == 4294967295) = true ∧ Hid (MeetI R (i + 1) true)) := by
                        have hno : R[i + 1]? = none := List.getElem?_eq_none (by rw [HRl.out]; omega)
                        by_cases g2 : p.to = 4294967295
                        · refine .inr ⟨by simp [g2], Lib.hid (hI.out.yes ?_)⟩
                          intro p' hp'
                          rw [hpk] at hp'
                          injection hp' with hp'
                          subst hp'
                          exact ⟨(fun q' hq' => by rw [hno] at hq'; cases hq'), fun _ => g2⟩
                        · exact .inl ⟨by simp [g2], Lib.hid (MeetI.no fun h => g2 ((h p hpk).2 hno))⟩
                      clear hpk hI
                      rcases hways with ⟨g3, hN⟩ | ⟨g3, hN⟩
                      all_goals
                        go_wp2_with ((with_reducible refine on_index (.tmp 144) ?_); refine wm_at Pt.cs_length rfl _ (.tmp 144) _ rfl el_part rfl rfl (by omega) (by omega) hpr.rd ?_; intro b2 j2 r2 hr2 hq2 hc2; have hxx : p = r2 := get_eq Hpk.out hr2.out (by omega); subst hxx; have e2 : wr.cell? ⟨b2, j2 + 1, none⟩ = some (.int .u32 p.to) := hc2.out 1 _ rfl)
                        go_roundw
                        case rel =>
                          first
                            | exact ⟨i + 1, false, by omega, by go_num, rfl, hN, hb⟩
                            | exact ⟨i + 1, true, by omega, by go_num, rfl, hN, hb⟩
                        case measure => simp [intOf]; omega
                · have he : Hid (b = decide (meetF 0 R = true)) := Lib.hid (hI.out.fin HRok.out (fun _ => by rw [HRl.out]; omega))
                  go_wp2
                  go_meet
                  case rel => exact ⟨by rw [← he.out], hb⟩
            case rest =>
              obtain ⟨rfl, hb⟩ := hcut
              rename World => we
              have bxe := bxc.step hb
              have qe := hqc.step hb
              have re := hp5.step hb
              have Be := Bc.trans (hb.mono Bc.size)
              have c1 : we.cell? ⟨g, 1, none⟩ = some (.slice A4 jj c4) := bxe.cell 1
              have K1 := Lib.hid (fun W (h : Below we.heap.size we W) => meet_is A4 jj c4 qs W (by omega) _ (qe.step h).rd qe.ok 0 (pmeet_yes HF.out.meet))
              have K3 := Lib.hid (fun W => meet_is none 0 0 [] W (by omega) W.heap.size (RdM.nil _ _) (by simp) 15 rfl)
              clear hb hqc bxc hp5 hi0 Bc
              obtain ⟨bm, hbm⟩ : ∃ b, decide (meetF 0 R = true) = b := ⟨_, rfl⟩
              have hways : (bm = true ∧ pmeet R = 0) ∨ (bm = false ∧ pmeet R = 15) := by
                rw [← hbm]
                by_cases h : meetF 0 R = true
                · exact .inl ⟨decide_eq_true h, pmeet_yes h⟩
                · exact .inr ⟨decide_eq_false h, pmeet_no h⟩
              rw [hbm]
              clear hbm
              rcases hways with ⟨rfl, hv⟩ | ⟨rfl, hv⟩
              all_goals
                have K2 := Lib.hid (fun W (h : Below we.heap.size we W) => meet_is A5 N c5 R W (by omega) _ (re.step h).rd re.ok _ hv)
                clear hv
                go_wp2_with fail
                refine (K1.out _ (Below.refl _ _)).mono ?_
                rintro e wf ⟨rfl, hf⟩
                go_wp2_with fail
                refine (K2.out _ hf).mono ?_
                rintro e wg ⟨rfl, hgg⟩
                go_wp2_with fail
                refine (K3.out _).mono ?_
                rintro e wh ⟨rfl, hh⟩
                go_wp2
                go_ret
                exact ⟨rfl, Be.trans ((hf.trans ((hgg.mono hf.size).trans (hh.mono (Nat.le_trans hf.size hgg.size)))).mono Be.size)⟩
theorem certMeets_walk {w : World} (v : Int) (Ap : Option Addr) (np cp : Nat) (d : Int) (At : Option Addr) (nt ct : Nat) (ps : List Pt) (tr : List Int) (ci : CertIn w v Ap np cp d At nt ct ps tr) (a : Int) (ha : 0 ≤ a ∧ a ≤ 4294967295) :
    Calls Try.prog 6 #[.agg #[.int .i64 v, .slice Ap np cp, .int .u32 d, .slice At nt ct], .int .u32 a] w fun e w' => e = .returned (.bool true) ∧ Below w.heap.size w w' :=
  certMeets_core v Ap np cp d At nt ct ps tr ci.npb ci.ntb ci.parts ci.trd (fun p hp => (ci.each p hp).1) a ha
end Go.Proofs.Yteellpcagdnikaa
