/-
  The walk of cert.Meet.
-/
import Derived.Test.YteellpcagdnikaaPartMem
import Derived.Test.YteellpcagdnikaaTypes
import Derived.Deep.DeepCutAuto
namespace Go.Proofs.Yteellpcagdnikaa
open Go.RowKit Go.Th
set_option linter.unusedVariables false
theorem info_part : (Try.prog.info? 26).map (fun i => (i.zero, i.size, i.bytes)) = some (some (.agg #[.int .u32 0, .int .u32 0, .slice none 0 0]), 3, 32) := by kernel_rfl
theorem size_part (w : World) : (sizeOf 26).run Try.prog w = .ok 3 w := by kernel_rfl
theorem el_part : ElM Try.prog 27 26 (.agg #[.int .u32 0, .int .u32 0, .slice none 0 0]) 32 3 := ⟨Try.underlying27, info_parts info_part, rfl, size_part, by omega⟩
theorem st_part : St Try.prog 26 3 := ⟨⟨_, Try.underlying26⟩, by kernel_rfl⟩
/-- A value comes back; what was in memory is as it was. -/
def RetB (v : Value) (w : World) (e : Ending) (w' : World) : Prop := e = .returned v ∧ Below w.heap.size w w'
theorem get_eq {α : Type} {xs : List α} {i j : Nat} {x y : α} (h1 : xs[i]? = some x) (h2 : xs[j]? = some y) (hij : i = j) : x = y := by subst hij; rw [h1] at h2; injection h2
def MeetRel (ps : List Pt) (n : Nat) (w : World) (i : Value) (wr : World) : Prop :=
  ∃ k : Nat, k ≤ n ∧ i = .int .i64 k ∧ Hid (meetF 0 ps = meetF (nextOf ps k) (ps.drop k)) ∧ Below w.heap.size w wr
set_option maxRecDepth 100000 in
set_option maxHeartbeats 4000000 in
theorem meet_any (A : Option Addr) (n c : Nat) (ps : List Pt) (w : World) (hm : n ≤ 9223372036854775807) (B : Nat) (hr : RdM Pt.cs w B A n c ps) (hok : ∀ p ∈ ps, p.Ok) :
    Calls Try.prog 12 #[.slice A n c] w (RetB (.int .i64 (pmeet ps)) w) := by
  have Hok := Lib.hid hok
  have hlen := hr.len
  clear hok
  rcases Nat.eq_zero_or_pos n with hn0 | hn0
  · have hv : pmeet ps = 15 := by
      have : ps = [] := List.eq_nil_of_length_eq_zero (by omega)
      subst this
      rfl
    rw [hv]
    clear hv hlen
    subst hn0
    go_enter Try.func12, Try.ntmps12
    go_wp2
    go_ret
    exact ⟨rfl, Below.refl _ _⟩
  obtain ⟨p0, hp0⟩ : ∃ p, ps[0]? = some p := ⟨ps[0]'(by omega), List.getElem?_eq_getElem _⟩
  obtain ⟨m, rfl⟩ : ∃ m, n = m + 1 := ⟨n - 1, by omega⟩
  obtain ⟨pl, hpl⟩ : ∃ p, ps[m]? = some p := ⟨ps[m]'(by omega), List.getElem?_eq_getElem _⟩
  obtain ⟨v, hv⟩ : ∃ v, pmeet ps = v := ⟨_, rfl⟩
  have hways : ((p0.fr != 0) = true ∧ v = 15) ∨ ((p0.fr != 0) = false ∧ (pl.to != 4294967295) = true ∧ v = 15) ∨ ((p0.fr != 0) = false ∧ (pl.to != 4294967295) = false ∧ p0.fr = 0 ∧ pl.to = 4294967295) := by
    by_cases h1 : p0.fr = 0
    · by_cases h2 : pl.to = 4294967295
      · exact .inr (.inr ⟨by simp [h1], by simp [h2], h1, h2⟩)
      · exact .inr (.inl ⟨by simp [h1], by simp [h2], by rw [← hv]; unfold pmeet; rw [meet_end hlen hpl h2]; rfl⟩)
    · exact .inl ⟨by simp [h1], by rw [← hv]; unfold pmeet; rw [meet_first hp0 h1]; rfl⟩
  have n1 : (((m + 1 : Nat) : Int) == 0) = false := by simp; omega
  have Hp0 := Lib.hid hp0
  have Hpl := Lib.hid hpl
  have Hv := Lib.hid hv
  have Hlen := Lib.hid hlen
  have o0 := Hok.out p0 (List.mem_of_getElem? hp0)
  have ol := Hok.out pl (List.mem_of_getElem? hpl)
  have o01 := o0.fr.1
  have o02 := o0.fr.2
  have ol1 := ol.to.1
  have ol2 := ol.to.2
  clear hp0 hpl hlen hn0 o0 ol
  rw [hv]
  clear hv
  rcases hways with ⟨h1, rfl⟩ | ⟨h1, h2, rfl⟩ | ⟨h1, h2, h3, h4⟩
  · go_enter Try.func12, Try.ntmps12
    go_wp2_with ((with_reducible refine on_index (.tmp 9) ?_); refine wm_at Pt.cs_length rfl _ (.tmp 9) _ rfl el_part rfl rfl (by omega) (by omega) hr ?_; intro b1 j1 r1 hr1 hb1 hc1; have hxx : p0 = r1 := get_eq Hp0.out hr1.out (by omega); subst hxx; have f0 : w.cell? ⟨b1, j1, none⟩ = some (.int .u32 p0.fr) := hc1.out 0 _ rfl)
    go_ret
    exact ⟨rfl, Below.refl _ _⟩
  · go_enter Try.func12, Try.ntmps12
    go_wp2_with (first
      | ((with_reducible refine on_index (.tmp 9) ?_); refine wm_at Pt.cs_length rfl _ (.tmp 9) _ rfl el_part rfl rfl (by omega) (by omega) hr ?_; intro b1 j1 r1 hr1 hb1 hc1; have hxx : p0 = r1 := get_eq Hp0.out hr1.out (by omega); subst hxx; have f0 : w.cell? ⟨b1, j1, none⟩ = some (.int .u32 p0.fr) := hc1.out 0 _ rfl)
      | ((with_reducible refine on_index (.tmp 16) ?_); refine wm_at Pt.cs_length rfl _ (.tmp 16) _ rfl el_part rfl rfl (by omega) (by omega) hr ?_; intro b2 j2 r2 hr2 hb2 hc2; have hxx : pl = r2 := get_eq Hpl.out hr2.out (by omega); subst hxx; have f1 : w.cell? ⟨b2, j2 + 1, none⟩ = some (.int .u32 pl.to) := hc2.out 1 _ rfl))
    go_ret
    exact ⟨rfl, Below.refl _ _⟩
  · have Hh3 := Lib.hid h3
    have Hh4 := Lib.hid h4
    clear h3 h4
    go_enter Try.func12, Try.ntmps12
    go_wp2_with (first
      | ((with_reducible refine on_index (.tmp 9) ?_); refine wm_at Pt.cs_length rfl _ (.tmp 9) _ rfl el_part rfl rfl (by omega) (by omega) hr ?_; intro b1 j1 r1 hr1 hb1 hc1; have hxx : p0 = r1 := get_eq Hp0.out hr1.out (by omega); subst hxx; have f0 : w.cell? ⟨b1, j1, none⟩ = some (.int .u32 p0.fr) := hc1.out 0 _ rfl)
      | ((with_reducible refine on_index (.tmp 16) ?_); refine wm_at Pt.cs_length rfl _ (.tmp 16) _ rfl el_part rfl rfl (by omega) (by omega) hr ?_; intro b2 j2 r2 hr2 hb2 hc2; have hxx : pl = r2 := get_eq Hpl.out hr2.out (by omega); subst hxx; have f1 : w.cell? ⟨b2, j2 + 1, none⟩ = some (.int .u32 pl.to) := hc2.out 1 _ rfl))
    go_loopw [3, 4, 27] (fun _ _ i wr => MeetRel ps (m + 1) w i wr) (fun _ _ i _ => (m + 1) - (intOf i).toNat)
    case atStart => exact ⟨0, by omega, rfl, Lib.hid rfl, Below.refl _ _⟩
    case round =>
      obtain ⟨k, hk, rfl, hf, hb⟩ := hrel
      have hrk := hr.step hb
      have hbs := hb.size
      by_cases hlt : k < m + 1
      · obtain ⟨p, hp⟩ : ∃ p, ps[k]? = some p := ⟨ps[k]'(by have := Hlen.out; omega), List.getElem?_eq_getElem _⟩
        have op := Hok.out p (List.mem_of_getElem? hp)
        have op1 := op.fr.1
        have op2 := op.fr.2
        have op3 := op.to.1
        have op4 := op.to.2
        have Hp := Lib.hid hp
        clear hp op
        by_cases hgt : p.fr > p.to
        · have hfin : v = 15 := by rw [← Hv.out]; unfold pmeet; rw [hf.out, meet_no Hp.out (.inr hgt)]; rfl
          have Hfin := Lib.hid hfin
          clear hfin hf
          go_upto_region 6 with (first
            | ((with_reducible refine on_index (.tmp 25) ?_); refine wm_at Pt.cs_length rfl _ (.tmp 25) _ rfl el_part rfl rfl (by omega) (by omega) hrk ?_; intro b1 j1 r1 hr1 hb1 hc1; have hxx : p = r1 := get_eq Hp.out hr1.out (by omega); subst hxx)
            | ((with_reducible refine on_load (.tmp 30) ?_); refine wpt_load rfl _ (.tmp 30) rfl st_part rfl hc1 ?_)
            | ((with_reducible refine on_store_at (.tmp 4) ?_); refine wpt_store (r := Pt.zero) (s := p) rfl _ (.tmp 4) _ rfl st_part rfl rfl (Box.new wr _ _) ?_; intro w3 bx3 hg3))
          have k3 : Below wr.heap.size wr w3 := (below_alloc wr (Nat.le_refl _) (.cells Pt.zero.cs.toArray 26)).trans (below_of_grown hg3 (fun j e => by injection e with e; omega) (by simp))
          have hb3 := hb.trans (k3.mono hbs)
          have hr3 := hrk.step k3
          obtain ⟨c0, c1, c2⟩ := bx3.part
          clear hg3 hc1
          go_wp2
          go_ret
          exact ⟨by rw [Hfin.out]; try rfl, hb3⟩
        · have hle : p.fr ≤ p.to := by omega
          rcases Nat.eq_zero_or_pos k with h0 | h0
          · subst h0
            have hp0 : p = p0 := get_eq Hp.out Hp0.out rfl
            have hf2 := Lib.hid (hf.out.trans (meet_on Hp.out (by rw [hp0, Hh3.out]; rfl) hle))
            clear hp0 hf
            go_upto_region 6 with (first
              | ((with_reducible refine on_index (.tmp 25) ?_); refine wm_at Pt.cs_length rfl _ (.tmp 25) _ rfl el_part rfl rfl (by omega) (by omega) hrk ?_; intro b1 j1 r1 hr1 hb1 hc1; have hxx : p = r1 := get_eq Hp.out hr1.out (by omega); subst hxx)
              | ((with_reducible refine on_load (.tmp 30) ?_); refine wpt_load rfl _ (.tmp 30) rfl st_part rfl hc1 ?_)
              | ((with_reducible refine on_store_at (.tmp 4) ?_); refine wpt_store (r := Pt.zero) (s := p) rfl _ (.tmp 4) _ rfl st_part rfl rfl (Box.new wr _ _) ?_; intro w3 bx3 hg3))
            have k3 : Below wr.heap.size wr w3 := (below_alloc wr (Nat.le_refl _) (.cells Pt.zero.cs.toArray 26)).trans (below_of_grown hg3 (fun j e => by injection e with e; omega) (by simp))
            have hb3 := hb.trans (k3.mono hbs)
            have hr3 := hrk.step k3
            obtain ⟨c0, c1, c2⟩ := bx3.part
            clear hg3 hc1
            go_upto_region 8 with fail
            refine wp_region_reach (by kernel_rfl) (by kernel_rfl) ?_
            repeat (first | go_big_quiet_skip | go_big_quiet_step (fail) | quiet_step (fail))
            refine wpQuiet_nil ?_
            rintro _ ⟨q, rfl⟩
            have hqw5 := q.h
            obtain ⟨w5, hw5'⟩ : ∃ W, q.w = W := ⟨_, rfl⟩
            rw [hw5'] at hqw5 ⊢
            clear hw5' q
            go_wp2
            go_roundw
            case rel => exact ⟨_, _, _, _, ⟨0 + 1, by omega, by go_num, hf2, hb3.trans (hqw5.mono hb3.size)⟩, rfl, rfl, rfl, rfl⟩
            case measure => simp [intOf] <;> omega
          · obtain ⟨k, rfl⟩ : ∃ j, k = j + 1 := ⟨k - 1, by omega⟩
            obtain ⟨q, hq⟩ : ∃ q, ps[k]? = some q := ⟨ps[k]'(by have := Hlen.out; omega), List.getElem?_eq_getElem _⟩
            have oq := Hok.out q (List.mem_of_getElem? hq)
            have oq1 := oq.to.1
            have oq2 := oq.to.2
            have hnx := nextOf_succ hq
            have Hq := Lib.hid hq
            have hways : ((q.to == 4294967295) = true ∧ v = 15) ∨ ((q.to == 4294967295) = false ∧ q.to + 1 ≤ 4294967295 ∧ (p.fr != q.to + 1) = true ∧ v = 15) ∨ ((q.to == 4294967295) = false ∧ q.to + 1 ≤ 4294967295 ∧ (p.fr != q.to + 1) = false ∧ meetF 0 ps = meetF (nextOf ps (k + 1 + 1)) (ps.drop (k + 1 + 1))) := by
              by_cases h1 : p.fr = q.to + 1
              · exact .inr (.inr ⟨by simp; omega, by omega, by simp [h1], hf.out.trans (meet_on Hp.out (by rw [hnx]; exact h1) hle)⟩)
              · have hv15 : v = 15 := by rw [← Hv.out]; unfold pmeet; rw [hf.out, meet_no Hp.out (.inl (by rw [hnx]; exact h1))]; rfl
                by_cases h2 : q.to = 4294967295
                · exact .inl ⟨by simp [h2], hv15⟩
                · exact .inr (.inl ⟨by simp [h2], by omega, by simp [h1], hv15⟩)
            clear hq oq hnx hf
            rcases hways with ⟨g1, g2⟩ | ⟨g1, g2, g3, g4⟩ | ⟨g1, g2, g3, g4⟩
            · have Hfin := Lib.hid g2
              clear g2
              go_upto_region 6 with (first
                | ((with_reducible refine on_index (.tmp 25) ?_); refine wm_at Pt.cs_length rfl _ (.tmp 25) _ rfl el_part rfl rfl (by omega) (by omega) hrk ?_; intro b1 j1 r1 hr1 hb1 hc1; have hxx : p = r1 := get_eq Hp.out hr1.out (by omega); subst hxx)
                | ((with_reducible refine on_load (.tmp 30) ?_); refine wpt_load rfl _ (.tmp 30) rfl st_part rfl hc1 ?_)
                | ((with_reducible refine on_store_at (.tmp 4) ?_); refine wpt_store (r := Pt.zero) (s := p) rfl _ (.tmp 4) _ rfl st_part rfl rfl (Box.new wr _ _) ?_; intro w3 bx3 hg3))
              have k3 : Below wr.heap.size wr w3 := (below_alloc wr (Nat.le_refl _) (.cells Pt.zero.cs.toArray 26)).trans (below_of_grown hg3 (fun j e => by injection e with e; omega) (by simp))
              have hb3 := hb.trans (k3.mono hbs)
              have hr3 := hrk.step k3
              obtain ⟨c0, c1, c2⟩ := bx3.part
              clear hg3 hc1
              go_upto_region 8 with fail
              have hx1 := hr3.reach
              obtain ⟨y0, y1, y2⟩ := bx3.partC
              refine wp_region_reach (by kernel_rfl) (by kernel_rfl) ?_
              repeat (first | go_big_quiet_skip | ((with_reducible refine onq_index (.tmp 40) ?_); refine wqm_at Pt.cs_length rfl _ (.tmp 40) _ rfl el_part rfl rfl (by omega) (by omega) (Th.Reach.refl _ _) hx1 ?_; intro b4 j4 t4 ht4 hc4; have hxx : q = t4 := get_eq Hq.out ht4.out (by omega); subst hxx; have f4 : ∀ x : Step _ _, x.w.cell? ⟨b4, j4 + 1, none⟩ = some (.int .u32 q.to) := fun x => hc4.out x.w ⟨x, rfl⟩ 1 _ rfl) | go_big_quiet_step (fail) | quiet_step (fail))
              refine wpQuiet_nil ?_
              rintro _ ⟨q, rfl⟩
              have hqw5 := q.h
              obtain ⟨w5, hw5'⟩ : ∃ W, q.w = W := ⟨_, rfl⟩
              rw [hw5'] at hqw5 ⊢
              clear hw5' q
              go_wp2
              go_ret
              exact ⟨by rw [Hfin.out]; try rfl, hb3.trans (hqw5.mono hb3.size)⟩
            · have Hfin := Lib.hid g4
              clear g4
              go_upto_region 6 with (first
                | ((with_reducible refine on_index (.tmp 25) ?_); refine wm_at Pt.cs_length rfl _ (.tmp 25) _ rfl el_part rfl rfl (by omega) (by omega) hrk ?_; intro b1 j1 r1 hr1 hb1 hc1; have hxx : p = r1 := get_eq Hp.out hr1.out (by omega); subst hxx)
                | ((with_reducible refine on_load (.tmp 30) ?_); refine wpt_load rfl _ (.tmp 30) rfl st_part rfl hc1 ?_)
                | ((with_reducible refine on_store_at (.tmp 4) ?_); refine wpt_store (r := Pt.zero) (s := p) rfl _ (.tmp 4) _ rfl st_part rfl rfl (Box.new wr _ _) ?_; intro w3 bx3 hg3))
              have k3 : Below wr.heap.size wr w3 := (below_alloc wr (Nat.le_refl _) (.cells Pt.zero.cs.toArray 26)).trans (below_of_grown hg3 (fun j e => by injection e with e; omega) (by simp))
              have hb3 := hb.trans (k3.mono hbs)
              have hr3 := hrk.step k3
              obtain ⟨c0, c1, c2⟩ := bx3.part
              clear hg3 hc1
              go_upto_region 8 with fail
              have hx1 := hr3.reach
              obtain ⟨y0, y1, y2⟩ := bx3.partC
              refine wp_region_reach (by kernel_rfl) (by kernel_rfl) ?_
              repeat (first | go_big_quiet_skip | ((with_reducible refine onq_index (.tmp 40) ?_); refine wqm_at Pt.cs_length rfl _ (.tmp 40) _ rfl el_part rfl rfl (by omega) (by omega) (Th.Reach.refl _ _) hx1 ?_; intro b4 j4 t4 ht4 hc4; have hxx : q = t4 := get_eq Hq.out ht4.out (by omega); subst hxx; have f4 : ∀ x : Step _ _, x.w.cell? ⟨b4, j4 + 1, none⟩ = some (.int .u32 q.to) := fun x => hc4.out x.w ⟨x, rfl⟩ 1 _ rfl) | ((with_reducible refine onq_index (.tmp 50) ?_); refine wqm_at Pt.cs_length rfl _ (.tmp 50) _ rfl el_part rfl rfl (by omega) (by omega) (Th.Reach.refl _ _) hx1 ?_; intro b5 j5 t5 ht5 hc5; have hxx : q = t5 := get_eq Hq.out ht5.out (by omega); subst hxx; have f5 : ∀ x : Step _ _, x.w.cell? ⟨b5, j5 + 1, none⟩ = some (.int .u32 q.to) := fun x => hc5.out x.w ⟨x, rfl⟩ 1 _ rfl) | go_big_quiet_step (fail) | quiet_step (fail))
              refine wpQuiet_nil ?_
              rintro _ ⟨q, rfl⟩
              have hqw5 := q.h
              obtain ⟨w5, hw5'⟩ : ∃ W, q.w = W := ⟨_, rfl⟩
              rw [hw5'] at hqw5 ⊢
              clear hw5' q
              go_wp2
              go_ret
              exact ⟨by rw [Hfin.out]; try rfl, hb3.trans (hqw5.mono hb3.size)⟩
            · have Hf2 := Lib.hid g4
              clear g4
              go_upto_region 6 with (first
                | ((with_reducible refine on_index (.tmp 25) ?_); refine wm_at Pt.cs_length rfl _ (.tmp 25) _ rfl el_part rfl rfl (by omega) (by omega) hrk ?_; intro b1 j1 r1 hr1 hb1 hc1; have hxx : p = r1 := get_eq Hp.out hr1.out (by omega); subst hxx)
                | ((with_reducible refine on_load (.tmp 30) ?_); refine wpt_load rfl _ (.tmp 30) rfl st_part rfl hc1 ?_)
                | ((with_reducible refine on_store_at (.tmp 4) ?_); refine wpt_store (r := Pt.zero) (s := p) rfl _ (.tmp 4) _ rfl st_part rfl rfl (Box.new wr _ _) ?_; intro w3 bx3 hg3))
              have k3 : Below wr.heap.size wr w3 := (below_alloc wr (Nat.le_refl _) (.cells Pt.zero.cs.toArray 26)).trans (below_of_grown hg3 (fun j e => by injection e with e; omega) (by simp))
              have hb3 := hb.trans (k3.mono hbs)
              have hr3 := hrk.step k3
              obtain ⟨c0, c1, c2⟩ := bx3.part
              clear hg3 hc1
              go_upto_region 8 with fail
              have hx1 := hr3.reach
              obtain ⟨y0, y1, y2⟩ := bx3.partC
              refine wp_region_reach (by kernel_rfl) (by kernel_rfl) ?_
              repeat (first | go_big_quiet_skip | ((with_reducible refine onq_index (.tmp 40) ?_); refine wqm_at Pt.cs_length rfl _ (.tmp 40) _ rfl el_part rfl rfl (by omega) (by omega) (Th.Reach.refl _ _) hx1 ?_; intro b4 j4 t4 ht4 hc4; have hxx : q = t4 := get_eq Hq.out ht4.out (by omega); subst hxx; have f4 : ∀ x : Step _ _, x.w.cell? ⟨b4, j4 + 1, none⟩ = some (.int .u32 q.to) := fun x => hc4.out x.w ⟨x, rfl⟩ 1 _ rfl) | ((with_reducible refine onq_index (.tmp 50) ?_); refine wqm_at Pt.cs_length rfl _ (.tmp 50) _ rfl el_part rfl rfl (by omega) (by omega) (Th.Reach.refl _ _) hx1 ?_; intro b5 j5 t5 ht5 hc5; have hxx : q = t5 := get_eq Hq.out ht5.out (by omega); subst hxx; have f5 : ∀ x : Step _ _, x.w.cell? ⟨b5, j5 + 1, none⟩ = some (.int .u32 q.to) := fun x => hc5.out x.w ⟨x, rfl⟩ 1 _ rfl) | go_big_quiet_step (fail) | quiet_step (fail))
              refine wpQuiet_nil ?_
              rintro _ ⟨q, rfl⟩
              have hqw5 := q.h
              obtain ⟨w5, hw5'⟩ : ∃ W, q.w = W := ⟨_, rfl⟩
              rw [hw5'] at hqw5 ⊢
              clear hw5' q
              go_wp2
              go_roundw
              case rel => exact ⟨_, _, _, _, ⟨k + 1 + 1, by omega, by go_num, Hf2, hb3.trans (hqw5.mono hb3.size)⟩, rfl, rfl, rfl, rfl⟩
              case measure => simp [intOf] <;> omega
      · have hkn : k = m + 1 := by omega
        subst hkn
        have hfin : v = 0 := by
          rw [← Hv.out]; unfold pmeet
          rw [hf.out, List.drop_eq_nil_of_le (by have := Hlen.out; omega), nextOf_succ Hpl.out, Hh4.out]; rfl
        have Hfin := Lib.hid hfin
        clear hfin hf
        go_wp2
        go_ret
        exact ⟨by rw [Hfin.out]; try rfl, hb⟩
end Go.Proofs.Yteellpcagdnikaa
