/-
  The walks of layer 17's reference: Meet, in, free, May.
-/
import Derived.Test.YteellpcagdnikaaCertMay
namespace Go.Th
theorem nextOf_bd {ps : List Pt} (hok : ∀ p ∈ ps, p.Ok) : ∀ k, 0 ≤ nextOf ps k ∧ nextOf ps k ≤ 4294967296
  | 0 => by simp [nextOf]
  | k + 1 => by
    cases h : ps[k]? with
    | none => simp [nextOf, h]
    | some p =>
      have := (hok p (List.mem_of_getElem? h)).to
      rw [nextOf_succ h]
      omega
end Go.Th
namespace Go.Proofs.Yteellpcagdnikaa
open Go.RowKit Go.Th
set_option linter.unusedVariables false
def RMeetRel (ps : List Pt) (n : Nat) (w : World) (nx i : Value) (wr : World) : Prop :=
  ∃ (k : Nat) (x : Int), k ≤ n ∧ i = .int .i64 k ∧ nx = .int .i64 x ∧ Hid (x = nextOf ps k) ∧ Hid (meetF 0 ps = meetF x (ps.drop k)) ∧ Below w.heap.size w wr
set_option maxRecDepth 100000 in
set_option maxHeartbeats 4000000 in
theorem rmeet_any (A : Option Addr) (n c : Nat) (ps : List Pt) (w : World) (hm : n ≤ 9223372036854775807) (B : Nat) (hr : RdM Pt.cs w B A n c ps) (hok : ∀ p ∈ ps, p.Ok) :
    Calls Try.prog 17 #[.slice A n c] w (RetB (.int .i64 (pmeet ps)) w) := by
  have Hok := Lib.hid hok
  have Hlen := Lib.hid hr.len
  obtain ⟨v, hv⟩ : ∃ v, pmeet ps = v := ⟨_, rfl⟩
  have Hv := Lib.hid hv
  rw [hv]
  clear hok hv
  go_enter Try.func17, Try.ntmps17
  go_wp2
  go_loopw [3, 4] (fun nx i wr => RMeetRel ps n w nx i wr) (fun _ i _ => n - (intOf i).toNat)
  case atStart => exact ⟨0, 0, by omega, rfl, rfl, Lib.hid rfl, Lib.hid rfl, Below.refl _ _⟩
  case round =>
    obtain ⟨k, x, hk, rfl, rfl, hx, hf, hb⟩ := hrel
    have hrk := hr.step hb
    have hbs := hb.size
    have hxb := nextOf_bd Hok.out k
    rw [← hx.out] at hxb
    obtain ⟨hxb0, hxb1⟩ := hxb
    by_cases hlt : k < n
    · obtain ⟨p, hp⟩ : ∃ p, ps[k]? = some p := ⟨ps[k]'(by have := Hlen.out; omega), List.getElem?_eq_getElem _⟩
      have op := Hok.out p (List.mem_of_getElem? hp)
      have op1 := op.fr.1
      have op2 := op.fr.2
      have op3 := op.to.1
      have op4 := op.to.2
      have Hp := Lib.hid hp
      have hways : ((p.fr != x) = true ∧ v = 15) ∨ ((p.fr != x) = false ∧ decide (p.to < p.fr) = true ∧ v = 15) ∨ ((p.fr != x) = false ∧ decide (p.to < p.fr) = false ∧ meetF 0 ps = meetF (p.to + 1) (ps.drop (k + 1))) := by
        have hf' : meetF 0 ps = meetF (nextOf ps k) (ps.drop k) := by rw [← hx.out]; exact hf.out
        by_cases h1 : p.fr = x
        · by_cases h2 : p.to < p.fr
          · exact .inr (.inl ⟨by simp [h1], decide_eq_true h2, by rw [← Hv.out]; unfold pmeet; rw [hf', meet_no hp (.inr h2)]; rfl⟩)
          · exact .inr (.inr ⟨by simp [h1], decide_eq_false h2, by rw [hf', meet_on hp (by rw [← hx.out]; exact h1) (by omega), nextOf_succ hp]⟩)
        · exact .inl ⟨by simp [h1], by rw [← Hv.out]; unfold pmeet; rw [hf', meet_no hp (.inl (by rw [← hx.out]; exact h1))]; rfl⟩
      have hns := nextOf_succ hp
      have Hns := Lib.hid hns.symm
      clear hp op hf hns
      have hx1 := hrk.reach
      rcases hways with ⟨g1, g2⟩ | ⟨g1, g2, g3⟩ | ⟨g1, g2, g3⟩
      · have Hfin := Lib.hid g2
        clear g2
        go_upto_region 5 with fail
        refine wp_region_reach (by kernel_rfl) (by kernel_rfl) ?_
        repeat (first | go_big_quiet_skip | ((with_reducible refine onq_index (.tmp 11) ?_); refine wqm_at Pt.cs_length rfl _ (.tmp 11) _ rfl el_part rfl rfl (by omega) (by omega) (Th.Reach.refl _ _) hx1 ?_; intro b4 j4 t4 ht4 hc4; have hxx : p = t4 := get_eq Hp.out ht4.out (by omega); subst hxx; have f4 : ∀ q : Step _ _, q.w.cell? ⟨b4, j4, none⟩ = some (.int .u32 p.fr) := fun q => hc4.out q.w ⟨q, rfl⟩ 0 _ rfl) | ((with_reducible refine onq_index (.tmp 20) ?_); refine wqm_at Pt.cs_length rfl _ (.tmp 20) _ rfl el_part rfl rfl (by omega) (by omega) (Th.Reach.refl _ _) hx1 ?_; intro b5 j5 t5 ht5 hc5; have hxx : p = t5 := get_eq Hp.out ht5.out (by omega); subst hxx; have f5 : ∀ q : Step _ _, q.w.cell? ⟨b5, j5 + 1, none⟩ = some (.int .u32 p.to) := fun q => hc5.out q.w ⟨q, rfl⟩ 1 _ rfl) | ((with_reducible refine onq_index (.tmp 25) ?_); refine wqm_at Pt.cs_length rfl _ (.tmp 25) _ rfl el_part rfl rfl (by omega) (by omega) (Th.Reach.refl _ _) hx1 ?_; intro b6 j6 t6 ht6 hc6; have hxx : p = t6 := get_eq Hp.out ht6.out (by omega); subst hxx; have f6 : ∀ q : Step _ _, q.w.cell? ⟨b6, j6, none⟩ = some (.int .u32 p.fr) := fun q => hc6.out q.w ⟨q, rfl⟩ 0 _ rfl) | go_big_quiet_step (fail) | quiet_step (fail))
        refine wpQuiet_nil ?_
        rintro _ ⟨q, rfl⟩
        have hqw5 := q.h
        obtain ⟨w5, hw5'⟩ : ∃ W, q.w = W := ⟨_, rfl⟩
        rw [hw5'] at hqw5 ⊢
        clear hw5' q
        go_wp2
        go_ret
        exact ⟨by rw [Hfin.out]; try rfl, hb.trans (hqw5.mono hbs)⟩
      · have Hfin := Lib.hid g3
        clear g3
        go_upto_region 5 with fail
        refine wp_region_reach (by kernel_rfl) (by kernel_rfl) ?_
        repeat (first | go_big_quiet_skip | ((with_reducible refine onq_index (.tmp 11) ?_); refine wqm_at Pt.cs_length rfl _ (.tmp 11) _ rfl el_part rfl rfl (by omega) (by omega) (Th.Reach.refl _ _) hx1 ?_; intro b4 j4 t4 ht4 hc4; have hxx : p = t4 := get_eq Hp.out ht4.out (by omega); subst hxx; have f4 : ∀ q : Step _ _, q.w.cell? ⟨b4, j4, none⟩ = some (.int .u32 p.fr) := fun q => hc4.out q.w ⟨q, rfl⟩ 0 _ rfl) | ((with_reducible refine onq_index (.tmp 20) ?_); refine wqm_at Pt.cs_length rfl _ (.tmp 20) _ rfl el_part rfl rfl (by omega) (by omega) (Th.Reach.refl _ _) hx1 ?_; intro b5 j5 t5 ht5 hc5; have hxx : p = t5 := get_eq Hp.out ht5.out (by omega); subst hxx; have f5 : ∀ q : Step _ _, q.w.cell? ⟨b5, j5 + 1, none⟩ = some (.int .u32 p.to) := fun q => hc5.out q.w ⟨q, rfl⟩ 1 _ rfl) | ((with_reducible refine onq_index (.tmp 25) ?_); refine wqm_at Pt.cs_length rfl _ (.tmp 25) _ rfl el_part rfl rfl (by omega) (by omega) (Th.Reach.refl _ _) hx1 ?_; intro b6 j6 t6 ht6 hc6; have hxx : p = t6 := get_eq Hp.out ht6.out (by omega); subst hxx; have f6 : ∀ q : Step _ _, q.w.cell? ⟨b6, j6, none⟩ = some (.int .u32 p.fr) := fun q => hc6.out q.w ⟨q, rfl⟩ 0 _ rfl) | go_big_quiet_step (fail) | quiet_step (fail))
        refine wpQuiet_nil ?_
        rintro _ ⟨q, rfl⟩
        have hqw5 := q.h
        obtain ⟨w5, hw5'⟩ : ∃ W, q.w = W := ⟨_, rfl⟩
        rw [hw5'] at hqw5 ⊢
        clear hw5' q
        go_wp2
        go_ret
        exact ⟨by rw [Hfin.out]; try rfl, hb.trans (hqw5.mono hbs)⟩
      · have Hf2 := Lib.hid g3
        clear g3
        go_upto_region 5 with fail
        refine wp_region_reach (by kernel_rfl) (by kernel_rfl) ?_
        repeat (first | go_big_quiet_skip | ((with_reducible refine onq_index (.tmp 11) ?_); refine wqm_at Pt.cs_length rfl _ (.tmp 11) _ rfl el_part rfl rfl (by omega) (by omega) (Th.Reach.refl _ _) hx1 ?_; intro b4 j4 t4 ht4 hc4; have hxx : p = t4 := get_eq Hp.out ht4.out (by omega); subst hxx; have f4 : ∀ q : Step _ _, q.w.cell? ⟨b4, j4, none⟩ = some (.int .u32 p.fr) := fun q => hc4.out q.w ⟨q, rfl⟩ 0 _ rfl) | ((with_reducible refine onq_index (.tmp 20) ?_); refine wqm_at Pt.cs_length rfl _ (.tmp 20) _ rfl el_part rfl rfl (by omega) (by omega) (Th.Reach.refl _ _) hx1 ?_; intro b5 j5 t5 ht5 hc5; have hxx : p = t5 := get_eq Hp.out ht5.out (by omega); subst hxx; have f5 : ∀ q : Step _ _, q.w.cell? ⟨b5, j5 + 1, none⟩ = some (.int .u32 p.to) := fun q => hc5.out q.w ⟨q, rfl⟩ 1 _ rfl) | ((with_reducible refine onq_index (.tmp 25) ?_); refine wqm_at Pt.cs_length rfl _ (.tmp 25) _ rfl el_part rfl rfl (by omega) (by omega) (Th.Reach.refl _ _) hx1 ?_; intro b6 j6 t6 ht6 hc6; have hxx : p = t6 := get_eq Hp.out ht6.out (by omega); subst hxx; have f6 : ∀ q : Step _ _, q.w.cell? ⟨b6, j6, none⟩ = some (.int .u32 p.fr) := fun q => hc6.out q.w ⟨q, rfl⟩ 0 _ rfl) | go_big_quiet_step (fail) | quiet_step (fail))
        refine wpQuiet_nil ?_
        rintro _ ⟨q, rfl⟩
        have hqw5 := q.h
        obtain ⟨w5, hw5'⟩ : ∃ W, q.w = W := ⟨_, rfl⟩
        rw [hw5'] at hqw5 ⊢
        clear hw5' q
        have hr5 := hrk.step hqw5
        go_wp2_with ((with_reducible refine on_index (.tmp 32) ?_); refine wm_at Pt.cs_length rfl _ (.tmp 32) _ rfl el_part rfl rfl (by omega) (by omega) hr5 ?_; intro b7 j7 t7 ht7 hb7 hc7; have hxx : p = t7 := get_eq Hp.out ht7.out (by omega); subst hxx; have f7 : w5.cell? ⟨b7, j7 + 1, none⟩ = some (.int .u32 p.to) := hc7.out 1 _ rfl)
        go_roundw
        case rel => exact ⟨k + 1, p.to + 1, by omega, by go_num, rfl, Hns, Hf2, hb.trans (hqw5.mono hbs)⟩
        case measure => simp [intOf] <;> omega
    · have hkn : k = n := by omega
      subst hkn
      have hfin : ((x != 4294967296) = true ∧ v = 15) ∨ ((x != 4294967296) = false ∧ v = 0) := by
        have h0 : meetF 0 ps = decide (x = 4294967296) := by rw [hf.out, List.drop_eq_nil_of_le (by have := Hlen.out; omega)]; rfl
        rw [← Hv.out]
        unfold pmeet
        by_cases h1 : x = 4294967296
        · right; rw [h0]; simp [h1]
        · left; rw [h0]; simp [h1]
      clear hf
      rcases hfin with ⟨g1, g2⟩ | ⟨g1, g2⟩
      all_goals
        have Hfin := Lib.hid g2
        clear g2
        go_wp2
        go_ret
        exact ⟨by rw [Hfin.out]; try rfl, hb⟩
theorem rin_any (A : Option Addr) (n c : Nat) (zs : List Int) (nodes : Int) (w : World) (hm : n ≤ 9223372036854775807) (B : Nat) (hr : RdS iv w B A n c zs) (b : Bool) (hb : Hid (zs.any (outs nodes) = b)) :
    Calls Try.prog 26 #[.slice A n c, .int .i64 nodes] w fun e w' => e = .returned (.bool (!b)) ∧ w = w' := by
  have Hlen := Lib.hid hr.len
  go_enter Try.func26, Try.ntmps26
  go_wp2
  go_loop [5] (fun i => ∃ k : Nat, k ≤ n ∧ i = .int .i64 k ∧ Hid ((zs.take k).any (outs nodes) = false)) (fun i => n - (intOf i).toNat)
  case atStart => exact ⟨0, by omega, rfl, Lib.hid rfl⟩
  case round =>
    obtain ⟨k, hk, rfl, hf⟩ := hrel
    by_cases hlt : k < n
    · obtain ⟨x, hx⟩ : ∃ x, zs[k]? = some x := ⟨zs[k]'(by have := Hlen.out; omega), List.getElem?_eq_getElem _⟩
      have hsn := any_snoc hx (outs nodes)
      have Hmem := Lib.hid (List.mem_of_getElem? hx)
      have Hx := Lib.hid hx
      rw [hf.out, Bool.false_or] at hsn
      have hways : (decide (x < 0) = true ∧ outs nodes x = true) ∨ (decide (x < 0) = false ∧ decide (nodes ≤ x) = true ∧ outs nodes x = true) ∨ (decide (x < 0) = false ∧ decide (nodes ≤ x) = false ∧ outs nodes x = false) := by
        unfold outs
        cases decide (x < 0) <;> cases decide (nodes ≤ x) <;> simp
      clear hx hf
      rcases hways with ⟨g1, g2⟩ | ⟨g1, g2, g3⟩ | ⟨g1, g2, g3⟩
      · have Hb : Hid (b = true) := Lib.hid (by rw [← hb.out]; exact List.any_eq_true.2 ⟨x, Hmem.out, g2⟩)
        clear hsn g2
        go_wp2_with ((with_reducible refine on_index (.tmp 12) ?_); refine wl_at_i rfl _ (.tmp 12) _ rfl el_int rfl rfl (by omega) (by omega) hr ?_; intro p x' hx' hc1; have hxx : x = x' := Option.some.inj (Hx.out.symm.trans hx'.out); subst hxx)
        go_ret
        exact ⟨by rw [Hb.out]; try rfl, rfl⟩
      · have Hb : Hid (b = true) := Lib.hid (by rw [← hb.out]; exact List.any_eq_true.2 ⟨x, Hmem.out, g3⟩)
        clear hsn g3
        go_wp2_with (first
          | ((with_reducible refine on_index (.tmp 12) ?_); refine wl_at_i rfl _ (.tmp 12) _ rfl el_int rfl rfl (by omega) (by omega) hr ?_; intro p x' hx' hc1; have hxx : x = x' := Option.some.inj (Hx.out.symm.trans hx'.out); subst hxx)
          | ((with_reducible refine on_index (.tmp 18) ?_); refine wl_at_i rfl _ (.tmp 18) _ rfl el_int rfl rfl (by omega) (by omega) hr ?_; intro p2 x2 hx2 hc2; have hxx : x = x2 := Option.some.inj (Hx.out.symm.trans hx2.out); subst hxx))
        go_ret
        exact ⟨by rw [Hb.out]; try rfl, rfl⟩
      · have Hsn := Lib.hid (hsn.trans g3)
        clear hsn g3
        go_wp2_with (first
          | ((with_reducible refine on_index (.tmp 12) ?_); refine wl_at_i rfl _ (.tmp 12) _ rfl el_int rfl rfl (by omega) (by omega) hr ?_; intro p x' hx' hc1; have hxx : x = x' := Option.some.inj (Hx.out.symm.trans hx'.out); subst hxx)
          | ((with_reducible refine on_index (.tmp 18) ?_); refine wl_at_i rfl _ (.tmp 18) _ rfl el_int rfl rfl (by omega) (by omega) hr ?_; intro p2 x2 hx2 hc2; have hxx : x = x2 := Option.some.inj (Hx.out.symm.trans hx2.out); subst hxx))
        go_round
        case rel => exact ⟨k + 1, by omega, by go_num, Hsn⟩
        case measure => simp [intOf] <;> omega
    · have Hb : Hid (b = false) := Lib.hid (by
        have := hf.out
        rw [List.take_of_length_le (by have := Hlen.out; omega)] at this
        rw [← hb.out]; exact this)
      clear hf
      go_wp2
      go_ret
      exact ⟨by rw [Hb.out]; try rfl, rfl⟩
def RFreeRel (ps : List Pt) (nodes : Int) (n : Nat) (w : World) (i : Value) (wr : World) : Prop :=
  ∃ k : Nat, k ≤ n ∧ i = .int .i64 k ∧ Hid (ranks nodes ps = ranks nodes (ps.drop k)) ∧ w = wr
set_option maxRecDepth 100000 in
set_option maxHeartbeats 4000000 in
theorem rfree_any (v : Int) (Ap : Option Addr) (np cp : Nat) (d : Int) (At : Option Addr) (nt ct : Nat) (nodes : Int) (w : World) (hnp : np ≤ 9223372036854775807) (hnt : nt ≤ 9223372036854775807) (ps : List Pt) (tr : List Int) (B : Nat) (hp : PRd w B Ap np cp ps) (htl : tr.length = nt) (hsm : ∀ p ∈ ps, p.n ≤ 9223372036854775807) :
    Calls Try.prog 25 #[.agg #[.int .i64 v, .slice Ap np cp, .int .u32 d, .slice At nt ct], .int .i64 nodes] w (RetB (.int .i64 (cfree ps d tr nodes)) w) := by
  obtain ⟨V, hV⟩ : ∃ V, cfree ps d tr nodes = V := ⟨_, rfl⟩
  have hlen := hp.rd.len
  have hways : ((d != 0) = true ∧ V = 3) ∨ ((d != 0) = false ∧ 0 < nt ∧ V = 3) ∨ ((d != 0) = false ∧ nt = 0 ∧ 8193 < np ∧ V = 12) ∨ ((d != 0) = false ∧ nt = 0 ∧ np ≤ 8193 ∧ pmeet ps = 15 ∧ V = 15) ∨ ((d != 0) = false ∧ nt = 0 ∧ np ≤ 8193 ∧ pmeet ps = 0 ∧ V = ranks nodes ps) := by
    rw [← hV]
    unfold cfree pmeet
    by_cases h1 : d = 0
    · by_cases h2 : nt = 0
      · rw [if_neg (by omega)]
        by_cases h3 : 8193 < np
        · rw [if_pos (by omega)]; exact .inr (.inr (.inl ⟨by simp [h1], h2, h3, rfl⟩))
        · rw [if_neg (by omega)]
          cases h4 : meetF 0 ps with
          | false => exact .inr (.inr (.inr (.inl ⟨by simp [h1], h2, by omega, rfl, rfl⟩)))
          | true => exact .inr (.inr (.inr (.inr ⟨by simp [h1], h2, by omega, rfl, rfl⟩)))
      · rw [if_pos (by omega)]; exact .inr (.inl ⟨by simp [h1], by omega, rfl⟩)
    · rw [if_pos (by omega)]; exact .inl ⟨by simp [h1], rfl⟩
  have Hlen := Lib.hid hlen
  have Hsm := Lib.hid hsm
  have bx := Box.new w (Cv v Ap np cp d At nt ct) 29
  obtain ⟨c0, c1, c2, c3⟩ : (w.alloc (.cells (Cv v Ap np cp d At nt ct) 29)).cell? ⟨w.heap.size, 0, none⟩ = some (.int .i64 v) ∧ (w.alloc (.cells (Cv v Ap np cp d At nt ct) 29)).cell? ⟨w.heap.size, 1, none⟩ = some (.slice Ap np cp) ∧ (w.alloc (.cells (Cv v Ap np cp d At nt ct) 29)).cell? ⟨w.heap.size, 2, none⟩ = some (.int .u32 d) ∧ (w.alloc (.cells (Cv v Ap np cp d At nt ct) 29)).cell? ⟨w.heap.size, 3, none⟩ = some (.slice At nt ct) := ⟨bx.cell 0, bx.cell 1, bx.cell 2, bx.cell 3⟩
  have k1 := below_alloc w (Nat.le_refl _) (.cells (Cv v Ap np cp d At nt ct) 29)
  have hp1 := hp.step k1
  rw [hV]
  clear hlen hsm hV hp htl
  rcases hways with ⟨h1, rfl⟩ | ⟨h1, h2, rfl⟩ | ⟨h1, rfl, h2, rfl⟩ | ⟨h1, rfl, h2, h3, rfl⟩ | ⟨h1, rfl, h2, h3, h4⟩
  · go_enter Try.func25, Try.ntmps25
    go_wp2
    go_ret
    exact ⟨rfl, k1⟩
  · go_enter Try.func25, Try.ntmps25
    go_wp2
    go_ret
    exact ⟨rfl, k1⟩
  · go_enter Try.func25, Try.ntmps25
    go_wp2
    go_ret
    exact ⟨rfl, k1⟩
  · have hc := rmeet_any Ap np cp ps _ hnp _ hp1.rd hp1.ok
    rw [h3] at hc
    have Hc := Lib.hid hc
    clear hc h3
    go_enter Try.func25, Try.ntmps25
    go_wp2_with (go_at_call 17; refine (Hc.out).mono ?_; rintro e w2 ⟨rfl, hb2⟩)
    go_ret
    exact ⟨rfl, k1.trans (hb2.mono k1.size)⟩
  · have hc := rmeet_any Ap np cp ps _ hnp _ hp1.rd hp1.ok
    rw [h3] at hc
    have Hc := Lib.hid hc
    have H4 := Lib.hid h4
    clear hc h3 h4
    go_enter Try.func25, Try.ntmps25
    go_wp2_with (go_at_call 17; refine (Hc.out).mono ?_; rintro e w2 ⟨rfl, hb2⟩; have e1 : w2.cell? ⟨w.heap.size, 1, none⟩ = some (.slice Ap np cp) := (bx.step hb2).cell 1; have hp2 := hp1.step hb2; have B2 := k1.trans (hb2.mono k1.size))
    go_loopw [5] (fun i wr => RFreeRel ps nodes np w2 i wr) (fun i _ => np - (intOf i).toNat)
    case atStart => exact ⟨0, by omega, rfl, Lib.hid rfl, rfl⟩
    case round =>
      obtain ⟨k, hk, rfl, hf, rfl⟩ := hrel
      by_cases hlt : k < np
      · obtain ⟨p, hp⟩ : ∃ p, ps[k]? = some p := ⟨ps[k]'(by have := Hlen.out; omega), List.getElem?_eq_getElem _⟩
        have hpn := Hsm.out p (List.mem_of_getElem? hp)
        have hrp := hp2.rk p (List.mem_of_getElem? hp)
        have hrl : p.rk.length = p.n := hrp.len
        have hways : (((p.n : Int) != nodes) = true ∧ V = 1) ∨ (((p.n : Int) != nodes) = false ∧ p.rk.any (outs nodes) = true ∧ V = 16) ∨ (((p.n : Int) != nodes) = false ∧ p.rk.any (outs nodes) = false ∧ ranks nodes ps = ranks nodes (ps.drop (k + 1))) := by
          rw [H4.out, hf.out]
          by_cases g1 : (p.n : Int) = nodes
          · cases g2 : p.rk.any (outs nodes) with
            | true => exact .inr (.inl ⟨by simp [g1], rfl, ranks_out hp (by omega) g2⟩)
            | false => exact .inr (.inr ⟨by simp [g1], rfl, ranks_on hp (by omega) g2⟩)
          · exact .inl ⟨by simp [g1], ranks_size hp (by omega)⟩
        have Hp := Lib.hid hp
        clear hp hf hrl
        rcases hways with ⟨g1, g2⟩ | ⟨g1, g2, g3⟩ | ⟨g1, g2, g3⟩
        · have H2 := Lib.hid g2
          have Hany : Hid (p.rk.any (outs nodes) = p.rk.any (outs nodes)) := Lib.hid rfl
          clear g2
          go_wp2_with (first
            | ((with_reducible refine on_index (.tmp 31) ?_); refine wm_at Pt.cs_length rfl _ (.tmp 31) _ rfl el_part rfl rfl (by omega) (by omega) hp2.rd ?_; intro b1 j1 r1 hr1 hb1 hc1; have hxx : p = r1 := get_eq Hp.out hr1.out (by omega); subst hxx; have f1 : w2.cell? ⟨b1, j1 + 2, none⟩ = some (.slice p.A p.n p.c) := hc1.out 2 _ rfl)
            | ((with_reducible refine on_index (.tmp 40) ?_); refine wm_at Pt.cs_length rfl _ (.tmp 40) _ rfl el_part rfl rfl (by omega) (by omega) hp2.rd ?_; intro b3 j3 r3 hr3 hb3 hc3; have hxx : p = r3 := get_eq Hp.out hr3.out (by omega); subst hxx; have f3 : w2.cell? ⟨b3, j3 + 2, none⟩ = some (.slice p.A p.n p.c) := hc3.out 2 _ rfl)
            | (go_at_call 26; refine (rin_any _ _ _ p.rk nodes _ (by omega) _ hrp _ Hany).mono ?_; rintro e w4 ⟨rfl, rfl⟩))
          go_ret
          exact ⟨by rw [H2.out]; try rfl, B2⟩
        · have H2 := Lib.hid g3
          have Hany := Lib.hid g2
          clear g2 g3
          go_wp2_with (first
            | ((with_reducible refine on_index (.tmp 31) ?_); refine wm_at Pt.cs_length rfl _ (.tmp 31) _ rfl el_part rfl rfl (by omega) (by omega) hp2.rd ?_; intro b1 j1 r1 hr1 hb1 hc1; have hxx : p = r1 := get_eq Hp.out hr1.out (by omega); subst hxx; have f1 : w2.cell? ⟨b1, j1 + 2, none⟩ = some (.slice p.A p.n p.c) := hc1.out 2 _ rfl)
            | ((with_reducible refine on_index (.tmp 40) ?_); refine wm_at Pt.cs_length rfl _ (.tmp 40) _ rfl el_part rfl rfl (by omega) (by omega) hp2.rd ?_; intro b3 j3 r3 hr3 hb3 hc3; have hxx : p = r3 := get_eq Hp.out hr3.out (by omega); subst hxx; have f3 : w2.cell? ⟨b3, j3 + 2, none⟩ = some (.slice p.A p.n p.c) := hc3.out 2 _ rfl)
            | (go_at_call 26; refine (rin_any _ _ _ p.rk nodes _ (by omega) _ hrp _ Hany).mono ?_; rintro e w4 ⟨rfl, rfl⟩))
          go_ret
          exact ⟨by rw [H2.out]; try rfl, B2⟩
        · have H2 := Lib.hid g3
          have Hany := Lib.hid g2
          clear g2 g3
          go_wp2_with (first
            | ((with_reducible refine on_index (.tmp 31) ?_); refine wm_at Pt.cs_length rfl _ (.tmp 31) _ rfl el_part rfl rfl (by omega) (by omega) hp2.rd ?_; intro b1 j1 r1 hr1 hb1 hc1; have hxx : p = r1 := get_eq Hp.out hr1.out (by omega); subst hxx; have f1 : w2.cell? ⟨b1, j1 + 2, none⟩ = some (.slice p.A p.n p.c) := hc1.out 2 _ rfl)
            | ((with_reducible refine on_index (.tmp 40) ?_); refine wm_at Pt.cs_length rfl _ (.tmp 40) _ rfl el_part rfl rfl (by omega) (by omega) hp2.rd ?_; intro b3 j3 r3 hr3 hb3 hc3; have hxx : p = r3 := get_eq Hp.out hr3.out (by omega); subst hxx; have f3 : w2.cell? ⟨b3, j3 + 2, none⟩ = some (.slice p.A p.n p.c) := hc3.out 2 _ rfl)
            | (go_at_call 26; refine (rin_any _ _ _ p.rk nodes _ (by omega) _ hrp _ Hany).mono ?_; rintro e w4 ⟨rfl, rfl⟩))
          go_roundw
          case rel => exact ⟨k + 1, by omega, by go_num, H2, rfl⟩
          case measure => simp [intOf] <;> omega
      · have hkn : k = np := by omega
        subst hkn
        have hfin : V = 0 := by
          rw [H4.out, hf.out, List.drop_eq_nil_of_le (by have := Hlen.out; omega)]; rfl
        have Hfin := Lib.hid hfin
        clear hfin hf
        go_wp2
        go_ret
        exact ⟨by rw [Hfin.out]; try rfl, B2⟩
end Go.Proofs.Yteellpcagdnikaa
