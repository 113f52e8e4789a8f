/-
  The walk of layer 17's reference: Same.
-/
import Derived.Test.YteellpcagdnikaaCertSameMore
namespace Go.Proofs.Yteellpcagdnikaa
open Go.RowKit Go.Th
set_option linter.unusedVariables false
set_option maxRecDepth 100000 in
set_option maxHeartbeats 4000000 in
theorem rcsame_any (v1 : Int) (Ap1 : Option Addr) (np1 cp1 : Nat) (d1 : Int) (At1 : Option Addr) (nt1 ct1 : Nat) (v2 : Int) (Ap2 : Option Addr) (np2 cp2 : Nat) (d2 : Int) (At2 : Option Addr) (nt2 ct2 : Nat) (w : World) (hnp1 : np1 ≤ 9223372036854775807) (hnt1 : nt1 ≤ 9223372036854775807) (ps1 : List Pt) (tr1 : List Int) (B1 : Nat) (hp1 : PRd w B1 Ap1 np1 cp1 ps1) (ht1 : RdS iv w B1 At1 nt1 ct1 tr1) (hsm1 : ∀ p ∈ ps1, p.n ≤ 9223372036854775807) (hnp2 : np2 ≤ 9223372036854775807) (hnt2 : nt2 ≤ 9223372036854775807) (ps2 : List Pt) (tr2 : List Int) (B2 : Nat) (hp2 : PRd w B2 Ap2 np2 cp2 ps2) (ht2 : RdS iv w B2 At2 nt2 ct2 tr2) (hsm2 : ∀ p ∈ ps2, p.n ≤ 9223372036854775807) (b : Bool) (hb : Hid (csame v1 ps1 d1 tr1 v2 ps2 d2 tr2 = b)) :
    Calls Try.prog 19 #[.agg #[.int .i64 v1, .slice Ap1 np1 cp1, .int .u32 d1, .slice At1 nt1 ct1], .agg #[.int .i64 v2, .slice Ap2 np2 cp2, .int .u32 d2, .slice At2 nt2 ct2]] w (RetB (.bool b) w) := by
  have hl1 := hp1.rd.len
  have hl2 := hp2.rd.len
  have hways : ((v1 != v2) = true ∧ b = false) ∨ ((v1 != v2) = false ∧ (d1 != d2) = true ∧ b = false) ∨ ((v1 != v2) = false ∧ (d1 != d2) = false ∧ ((np1 : Int) != (np2 : Int)) = true ∧ b = false) ∨ ((v1 != v2) = false ∧ (d1 != d2) = false ∧ np1 = np2 ∧ decide (tr1 = tr2) = false ∧ b = false) ∨ ((v1 != v2) = false ∧ (d1 != d2) = false ∧ np1 = np2 ∧ decide (tr1 = tr2) = true ∧ psame ps1 ps2 = b) := by
    rw [← hb.out]
    unfold csame
    by_cases h1 : v1 = v2
    · by_cases h2 : d1 = d2
      · by_cases h4 : np1 = np2
        · by_cases h3 : tr1 = tr2
          · exact .inr (.inr (.inr (.inr ⟨by simp [h1], by simp [h2], h4, decide_eq_true h3, by simp [h1, h2, h3]⟩)))
          · exact .inr (.inr (.inr (.inl ⟨by simp [h1], by simp [h2], h4, decide_eq_false h3, by simp [h3]⟩)))
        · refine .inr (.inr (.inl ⟨by simp [h1], by simp [h2], by simp; omega, ?_⟩))
          cases h : psame ps1 ps2 with
          | false => simp
          | true => exact absurd (hl1.symm.trans ((psame_len ps1 ps2 h).trans hl2)) h4
      · exact .inr (.inl ⟨by simp [h1], by simp [h2], by simp [h2]⟩)
    · exact .inl ⟨by simp [h1], by simp [h1]⟩
  have bx1 := (Box.new w (Cv v1 Ap1 np1 cp1 d1 At1 nt1 ct1) 29).alloc (.cells (Cv v2 Ap2 np2 cp2 d2 At2 nt2 ct2) 29)
  have bx2 := Box.new (w.alloc (.cells (Cv v1 Ap1 np1 cp1 d1 At1 nt1 ct1) 29)) (Cv v2 Ap2 np2 cp2 d2 At2 nt2 ct2) 29
  rw [heap_size_alloc] at bx2
  have K0 := (below_alloc w (Nat.le_refl _) (.cells (Cv v1 Ap1 np1 cp1 d1 At1 nt1 ct1) 29)).alloc (by simp) (.cells (Cv v2 Ap2 np2 cp2 d2 At2 nt2 ct2) 29)
  have hp1 := hp1.step K0
  have hp2 := hp2.step K0
  have ht1 := ht1.step K0
  have ht2 := ht2.step K0
  have z0 := K0.size
  obtain ⟨c0, c1, c2, c3⟩ : ((w.alloc (.cells (Cv v1 Ap1 np1 cp1 d1 At1 nt1 ct1) 29)).alloc (.cells (Cv v2 Ap2 np2 cp2 d2 At2 nt2 ct2) 29)).cell? ⟨w.heap.size, 0, none⟩ = some (.int .i64 v1) ∧ ((w.alloc (.cells (Cv v1 Ap1 np1 cp1 d1 At1 nt1 ct1) 29)).alloc (.cells (Cv v2 Ap2 np2 cp2 d2 At2 nt2 ct2) 29)).cell? ⟨w.heap.size, 1, none⟩ = some (.slice Ap1 np1 cp1) ∧ ((w.alloc (.cells (Cv v1 Ap1 np1 cp1 d1 At1 nt1 ct1) 29)).alloc (.cells (Cv v2 Ap2 np2 cp2 d2 At2 nt2 ct2) 29)).cell? ⟨w.heap.size, 2, none⟩ = some (.int .u32 d1) ∧ ((w.alloc (.cells (Cv v1 Ap1 np1 cp1 d1 At1 nt1 ct1) 29)).alloc (.cells (Cv v2 Ap2 np2 cp2 d2 At2 nt2 ct2) 29)).cell? ⟨w.heap.size, 3, none⟩ = some (.slice At1 nt1 ct1) := ⟨bx1.cell 0, bx1.cell 1, bx1.cell 2, bx1.cell 3⟩
  obtain ⟨e0, e1, e2, e3⟩ : ((w.alloc (.cells (Cv v1 Ap1 np1 cp1 d1 At1 nt1 ct1) 29)).alloc (.cells (Cv v2 Ap2 np2 cp2 d2 At2 nt2 ct2) 29)).cell? ⟨w.heap.size + 1, 0, none⟩ = some (.int .i64 v2) ∧ ((w.alloc (.cells (Cv v1 Ap1 np1 cp1 d1 At1 nt1 ct1) 29)).alloc (.cells (Cv v2 Ap2 np2 cp2 d2 At2 nt2 ct2) 29)).cell? ⟨w.heap.size + 1, 1, none⟩ = some (.slice Ap2 np2 cp2) ∧ ((w.alloc (.cells (Cv v1 Ap1 np1 cp1 d1 At1 nt1 ct1) 29)).alloc (.cells (Cv v2 Ap2 np2 cp2 d2 At2 nt2 ct2) 29)).cell? ⟨w.heap.size + 1, 2, none⟩ = some (.int .u32 d2) ∧ ((w.alloc (.cells (Cv v1 Ap1 np1 cp1 d1 At1 nt1 ct1) 29)).alloc (.cells (Cv v2 Ap2 np2 cp2 d2 At2 nt2 ct2) 29)).cell? ⟨w.heap.size + 1, 3, none⟩ = some (.slice At2 nt2 ct2) := ⟨bx2.cell 0, bx2.cell 1, bx2.cell 2, bx2.cell 3⟩
  clear hb
  rcases hways with ⟨g1, rfl⟩ | ⟨g1, g2, rfl⟩ | ⟨g1, g2, g3, rfl⟩ | ⟨g1, g2, rfl, g3, rfl⟩ | ⟨g1, g2, rfl, g3, g4⟩
  · clear hl1 hl2
    go_enter Try.func19, Try.ntmps19
    go_wp2
    go_ret
    exact ⟨rfl, K0⟩
  · clear hl1 hl2
    go_enter Try.func19, Try.ntmps19
    go_wp2
    go_ret
    exact ⟨rfl, K0⟩
  · clear hl1 hl2
    go_enter Try.func19, Try.ntmps19
    go_wp2
    go_ret
    exact ⟨rfl, K0⟩
  · have H3 := Lib.hid g3
    have n1 : ((np1 : Int) != (np1 : Int)) = false := by simp
    clear g3 hl1 hl2
    go_enter Try.func19, Try.ntmps19
    go_wp2_with (go_at_call 30; refine (row_any _ _ _ _ _ _ tr1 tr2 _ hnt1 hnt2 _ _ ht1 ht2 false H3).mono ?_; rintro e w1 ⟨rfl, hb1⟩)
    go_ret
    exact ⟨rfl, K0.trans (hb1.mono z0)⟩
  · have H3 := Lib.hid g3
    have H4 := Lib.hid g4
    have n1 : ((np1 : Int) != (np1 : Int)) = false := by simp
    have Hlen := Lib.hid hl1
    have Hlen2 := Lib.hid hl2
    have Hsm := Lib.hid hsm1
    have Hsm2 := Lib.hid hsm2
    clear g3 g4 hl1 hl2 hsm1 hsm2
    go_enter Try.func19, Try.ntmps19
    go_wp2_with (go_at_call 30; refine (row_any _ _ _ _ _ _ tr1 tr2 _ hnt1 hnt2 _ _ ht1 ht2 true H3).mono ?_; rintro e w1 ⟨rfl, hb1⟩)
    have hr := hp1.step hb1
    have hr2 := hp2.step hb1
    have by1 := bx1.step hb1
    have by2 := bx2.step hb1
    have K1 : Below w.heap.size w w1 := K0.trans (hb1.mono z0)
    have zk := K1.size
    clear hb1 bx1 bx2 hp1 hp2 ht1 ht2 c0 c1 c2 c3 e0 e1 e2 e3 K0 z0
    go_loopw [5, 6, 7] (fun i _ _ wr => PsRel ps1 ps2 np1 w1 i wr) (fun i _ _ _ => np1 - (intOf i).toNat)
    case atStart => exact ⟨0, by omega, rfl, Lib.hid rfl, Below.refl _ _⟩
    case round =>
      obtain ⟨k, hk, rfl, hf, hbw⟩ := hrel
      have hrk := hr.step hbw
      have hrk2 := hr2.step hbw
      have hbs := hbw.size
      have br1 := by1.step hbw
      have br2 := by2.step hbw
      have f1 : wr.cell? ⟨w.heap.size, 1, none⟩ = some (.slice Ap1 np1 cp1) := br1.cell 1
      by_cases hlt : k < np1
      · obtain ⟨p, hp⟩ : ∃ x, ps1[k]? = some x := ⟨ps1[k]'(by have := Hlen.out; omega), List.getElem?_eq_getElem _⟩
        obtain ⟨q, hq⟩ : ∃ x, ps2[k]? = some x := ⟨ps2[k]'(by have := Hlen2.out; omega), List.getElem?_eq_getElem _⟩
        have hpn := Hsm.out p (List.mem_of_getElem? hp)
        have hqn := Hsm2.out q (List.mem_of_getElem? hq)
        have hw2 := psame_one hp hq
        have hways : ((p.fr != q.fr) = true ∧ b = false) ∨ ((p.fr != q.fr) = false ∧ (p.to != q.to) = true ∧ b = false) ∨ ((p.fr != q.fr) = false ∧ (p.to != q.to) = false ∧ decide (p.rk = q.rk) = false ∧ b = false) ∨ ((p.fr != q.fr) = false ∧ (p.to != q.to) = false ∧ decide (p.rk = q.rk) = true ∧ psame ps1 ps2 = psame (ps1.drop (k + 1)) (ps2.drop (k + 1))) := by
          have hno : ¬ (p.fr = q.fr ∧ p.to = q.to ∧ p.rk = q.rk) → b = false := fun h => by rw [← H4.out, hf.out]; exact psame_no hp hq h
          by_cases h1 : p.fr = q.fr
          · by_cases h2 : p.to = q.to
            · by_cases h3 : p.rk = q.rk
              · exact .inr (.inr (.inr ⟨by simp [h1], by simp [h2], decide_eq_true h3, hf.out.trans (psame_on hp hq ⟨h1, h2, h3⟩)⟩))
              · exact .inr (.inr (.inl ⟨by simp [h1], by simp [h2], decide_eq_false h3, hno fun h => h3 h.2.2⟩))
            · exact .inr (.inl ⟨by simp [h1], by simp [h2], hno fun h => h2 h.2.1⟩)
          · exact .inl ⟨by simp [h1], hno fun h => h1 h.1⟩
        have Hp := Lib.hid hp
        have Hq := Lib.hid hq
        clear hp hq hw2 hf
        go_upto_region 7 with (first
          | ((with_reducible refine on_index (.tmp 45) ?_); refine wm_at Pt.cs_length rfl _ (.tmp 45) _ rfl el_part rfl rfl (by omega) (by omega) hrk.rd ?_; intro b1 j1 r1 hr1 hb1 hc1; have hxx : p = r1 := get_eq Hp.out hr1.out (by omega); subst hxx)
          | ((with_reducible refine on_load (.tmp 47) ?_); refine wpt_load rfl _ (.tmp 47) rfl st_part rfl hc1 ?_)
          | ((with_reducible refine on_store_at (.tmp 6) ?_); refine wpt_store (r := Pt.zero) (s := p) rfl _ (.tmp 6) _ rfl st_part rfl rfl (Box.new wr _ _) ?_; intro w3 bx3 hg3))
        have k3 : Below wr.heap.size wr w3 := (below_alloc wr (Nat.le_refl _) (.cells Pt.zero.cs.toArray 26)).trans (below_of_grown hg3 (fun j e => by injection e with e; omega) (by simp))
        have hrk3 := hrk2.step k3
        have hp3 := (hrk.step k3).rk p (List.mem_of_getElem? Hp.out)
        have f2 : w3.cell? ⟨w.heap.size + 1, 1, none⟩ = some (.slice Ap2 np1 cp2) := (br2.step k3).cell 1
        have z3 := k3.size
        clear hg3 hc1
        go_upto_region 8 with (first
          | ((with_reducible refine on_index (.tmp 50) ?_); refine wm_at Pt.cs_length rfl _ (.tmp 50) _ rfl el_part rfl rfl (by omega) (by omega) hrk3.rd ?_; intro b4 j4 r4 hr4 hb4 hc4; have hxx : q = r4 := get_eq Hq.out hr4.out (by omega); subst hxx)
          | ((with_reducible refine on_load (.tmp 52) ?_); refine wpt_load rfl _ (.tmp 52) rfl st_part rfl hc4 ?_)
          | ((with_reducible refine on_store_at (.tmp 7) ?_); refine wpt_store (r := Pt.zero) (s := q) rfl _ (.tmp 7) _ rfl st_part rfl rfl (Box.new w3 _ _) ?_; intro w5 bx5 hg5))
        have k5 : Below w3.heap.size w3 w5 := (below_alloc w3 (Nat.le_refl _) (.cells Pt.zero.cs.toArray 26)).trans (below_of_grown hg5 (fun j e => by injection e with e; omega) (by simp))
        have bx35 := bx3.step k5
        have hp5 := hp3.step k5
        have hq5 := (hrk3.step k5).rk q (List.mem_of_getElem? Hq.out)
        have k35 : Below wr.heap.size wr w5 := k3.trans (k5.mono z3)
        have hb5 := hbw.trans (k35.mono hbs)
        obtain ⟨u0, u1, u2⟩ := bx35.part
        obtain ⟨t0, t1, t2⟩ := bx5.part
        clear hg5 hc4 k5 k3 bx3
        rcases hways with ⟨g5, g6⟩ | ⟨g5, g6, g7⟩ | ⟨g5, g6, g7, g8⟩ | ⟨g5, g6, g7, g8⟩
        · have H2 := Lib.hid g6
          clear g6
          go_wp2
          go_ret
          exact ⟨by rw [H2.out]; try rfl, K1.trans (hb5.mono zk)⟩
        · have H2 := Lib.hid g7
          clear g7
          go_wp2
          go_ret
          exact ⟨by rw [H2.out]; try rfl, K1.trans (hb5.mono zk)⟩
        · have H1 := Lib.hid g7
          have H2 := Lib.hid g8
          clear g7 g8
          go_wp2_with (go_at_call 30; refine (row_any _ _ _ _ _ _ p.rk q.rk _ hpn hqn _ _ hp5 hq5 false H1).mono ?_; rintro e w6 ⟨rfl, hb6⟩)
          go_ret
          exact ⟨by rw [H2.out]; try rfl, K1.trans ((hb5.trans (hb6.mono hb5.size)).mono zk)⟩
        · have H1 := Lib.hid g7
          have H2 := Lib.hid g8
          clear g7 g8
          go_wp2_with (go_at_call 30; refine (row_any _ _ _ _ _ _ p.rk q.rk _ hpn hqn _ _ hp5 hq5 true H1).mono ?_; rintro e w6 ⟨rfl, hb6⟩)
          go_roundw
          case rel => first | exact ⟨k + 1, by omega, by go_num, H2, hb5.trans (hb6.mono hb5.size)⟩ | exact ⟨_, _, _, ⟨k + 1, by omega, by go_num, H2, hb5.trans (hb6.mono hb5.size)⟩, rfl, rfl, rfl⟩ | exact ⟨_, _, _, _, ⟨k + 1, by omega, by go_num, H2, hb5.trans (hb6.mono hb5.size)⟩, rfl, rfl, rfl, rfl⟩
          case measure => simp [intOf] <;> omega
      · have hkn : k = np1 := by omega
        have Hb : Hid (b = true) := Lib.hid (by
          have h := hf.out
          rw [List.drop_eq_nil_of_le (by have := Hlen.out; omega), List.drop_eq_nil_of_le (by have := Hlen2.out; omega)] at h
          rw [← H4.out, h]; rfl)
        clear hf
        go_wp2
        go_ret
        exact ⟨by rw [Hb.out]; try rfl, K1.trans (hbw.mono zk)⟩
end Go.Proofs.Yteellpcagdnikaa
