/-
  The walks of cert.Same and of the reference's Same.
-/
import Derived.Test.YteellpcagdnikaaCertSame
namespace Go.Proofs.Yteellpcagdnikaa
open Go.RowKit Go.Th
set_option linter.unusedVariables false
def pone (p q : Pt) : Bool := decide (p.fr = q.fr ∧ p.to = q.to ∧ p.rk = q.rk)
set_option maxRecDepth 100000 in
theorem same1_any (p q : Pt) (w : World) (hn : p.n ≤ 9223372036854775807) (hn2 : q.n ≤ 9223372036854775807) (B B2 : Nat) (hr : RdS iv w B p.A p.n p.c p.rk) (hr2 : RdS iv w B2 q.A q.n q.c q.rk) (b : Bool) (hb : Hid (pone p q = b)) :
    Calls Try.prog 29 #[.agg #[.int .u32 p.fr, .int .u32 p.to, .slice p.A p.n p.c], .agg #[.int .u32 q.fr, .int .u32 q.to, .slice q.A q.n q.c]] w fun e w' => e = .returned (.bool b) ∧ Below w.heap.size w w' := by
  have hways : ((p.fr == q.fr) = false ∧ b = false) ∨ ((p.fr == q.fr) = true ∧ (p.to == q.to) = false ∧ b = false) ∨ ((p.fr == q.fr) = true ∧ (p.to == q.to) = true ∧ decide (p.rk = q.rk) = b) := by
    rw [← hb.out]
    unfold pone
    by_cases h1 : p.fr = q.fr
    · by_cases h2 : p.to = q.to
      · exact .inr (.inr ⟨by simp [h1], by simp [h2], by simp [h1, h2]⟩)
      · exact .inr (.inl ⟨by simp [h1], by simp [h2], by simp [h2]⟩)
    · exact .inl ⟨by simp [h1], by simp [h1]⟩
  have K0 := (below_alloc w (Nat.le_refl _) (.cells p.cs.toArray 26)).alloc (by simp) (.cells q.cs.toArray 26)
  have h1 := hr.step K0
  have h2 := hr2.step K0
  have bp := (Box.new w p.cs.toArray 26).alloc (.cells q.cs.toArray 26)
  have bq := Box.new (w.alloc (.cells p.cs.toArray 26)) q.cs.toArray 26
  rw [heap_size_alloc] at bq
  obtain ⟨c0, c1, c2⟩ := bp.part
  obtain ⟨d0, d1, d2⟩ := bq.part
  clear hr hr2 bp bq hb
  rcases hways with ⟨e1, rfl⟩ | ⟨e1, e2, rfl⟩ | ⟨e1, e2, e3⟩
  · go_enter Try.func29, Try.ntmps29
    go_wp2
    go_ret
    exact ⟨rfl, K0⟩
  · go_enter Try.func29, Try.ntmps29
    go_wp2
    go_ret
    exact ⟨rfl, K0⟩
  · have H3 := Lib.hid e3
    clear e3
    go_enter Try.func29, Try.ntmps29
    go_wp2_with (go_at_call 27; refine (equal_any _ _ _ _ _ _ p.rk q.rk _ hn hn2 _ _ h1 h2 b H3).mono ?_; rintro e w1 ⟨rfl, hb1⟩)
    go_ret
    exact ⟨rfl, K0.trans (hb1.mono K0.size)⟩
theorem psame_one {ps qs : List Pt} {k : Nat} {p q : Pt} (hp : ps[k]? = some p) (hq : qs[k]? = some q) : (pone p q = true ∧ psame (ps.drop k) (qs.drop k) = psame (ps.drop (k + 1)) (qs.drop (k + 1))) ∨ (pone p q = false ∧ psame (ps.drop k) (qs.drop k) = false) := by
  unfold pone
  by_cases h : p.fr = q.fr ∧ p.to = q.to ∧ p.rk = q.rk
  · exact .inl ⟨decide_eq_true h, psame_on hp hq h⟩
  · exact .inr ⟨decide_eq_false h, psame_no hp hq h⟩
def PsRel (ps qs : List Pt) (n : Nat) (w : World) (i : Value) (wr : World) : Prop :=
  ∃ k : Nat, k ≤ n ∧ i = .int .i64 k ∧ Hid (psame ps qs = psame (ps.drop k) (qs.drop k)) ∧ Below w.heap.size w wr
set_option maxRecDepth 100000 in
set_option maxHeartbeats 4000000 in
theorem equalFunc_any (A : Option Addr) (n c : Nat) (A2 : Option Addr) (n2 c2 : Nat) (ps qs : List Pt) (w : World) (hm : n ≤ 9223372036854775807) (hm2 : n2 ≤ 9223372036854775807) (B B2 : Nat) (hr : PRd w B A n c ps) (hr2 : PRd w B2 A2 n2 c2 qs) (hsm : ∀ p ∈ ps, p.n ≤ 9223372036854775807) (hsm2 : ∀ p ∈ qs, p.n ≤ 9223372036854775807) (b : Bool) (hb : Hid (psame ps qs = b)) :
    Calls Try.prog 28 #[.slice A n c, .slice A2 n2 c2, .func (.func 29) #[] #[]] w (RetB (.bool b) w) := by
  have Hlen := Lib.hid hr.rd.len
  have Hlen2 := Lib.hid hr2.rd.len
  have Hsm := Lib.hid hsm
  have Hsm2 := Lib.hid hsm2
  clear hsm hsm2
  by_cases hnn : n = n2
  rotate_left
  · have n1 : ((n : Int) != (n2 : Int)) = true := by simp; omega
    have Hb : Hid (b = false) := Lib.hid (by
      rw [← hb.out]
      cases h : psame ps qs with
      | false => rfl
      | true => exact absurd (Hlen.out.symm.trans ((psame_len ps qs h).trans Hlen2.out)) hnn)
    go_enter Try.func28, Try.ntmps28
    go_wp2
    go_ret
    exact ⟨by rw [Hb.out]; try rfl, Below.refl _ _⟩
  · subst hnn
    have n1 : ((n : Int) != (n : Int)) = false := by simp
    go_enter Try.func28, Try.ntmps28
    go_wp2
    go_loopw [6, 7, 8, 9, 17] (fun _ _ _ _ i wr => PsRel ps qs n w i wr) (fun _ _ _ _ i _ => n - (intOf i).toNat)
    case atStart => exact ⟨0, by omega, rfl, Lib.hid rfl, Below.refl _ _⟩
    case round =>
      obtain ⟨k, hk, rfl, hf, hbw⟩ := hrel
      have hrk := hr.step hbw
      have hrk2 := hr2.step hbw
      have hbs := hbw.size
      by_cases hlt : k < n
      · obtain ⟨p, hp⟩ : ∃ x, ps[k]? = some x := ⟨ps[k]'(by have := Hlen.out; omega), List.getElem?_eq_getElem _⟩
        obtain ⟨q, hq⟩ : ∃ x, qs[k]? = some x := ⟨qs[k]'(by have := Hlen2.out; omega), List.getElem?_eq_getElem _⟩
        have hpn := Hsm.out p (List.mem_of_getElem? hp)
        have hqn := Hsm2.out q (List.mem_of_getElem? hq)
        have hways := psame_one hp hq
        have Hp := Lib.hid hp
        have Hq := Lib.hid hq
        clear hp hq
        go_upto_region 6 with (first
          | ((with_reducible refine on_index (.tmp 15) ?_); refine wm_at Pt.cs_length rfl _ (.tmp 15) _ rfl el_part rfl rfl (by omega) (by omega) hrk.rd ?_; intro b1 j1 r1 hr1 hb1 hc1; have hxx : p = r1 := get_eq Hp.out hr1.out (by omega); subst hxx)
          | ((with_reducible refine on_load (.tmp 20) ?_); refine wpt_load rfl _ (.tmp 20) rfl st_part rfl hc1 ?_)
          | ((with_reducible refine on_store_at (.tmp 8) ?_); refine wpt_store (r := Pt.zero) (s := p) rfl _ (.tmp 8) _ rfl st_part rfl rfl (Box.new wr _ _) ?_; intro w3 bx3 hg3))
        have k3 : Below wr.heap.size wr w3 := (below_alloc wr (Nat.le_refl _) (.cells Pt.zero.cs.toArray 26)).trans (below_of_grown hg3 (fun j e => by injection e with e; omega) (by simp))
        have hrk3 := hrk2.step k3
        have hp3 := (hrk.step k3).rk p (List.mem_of_getElem? Hp.out)
        have z3 := k3.size
        clear hg3 hc1
        go_upto_region 7 with (first
          | ((with_reducible refine on_index (.tmp 22) ?_); refine wm_at Pt.cs_length rfl _ (.tmp 22) _ rfl el_part rfl rfl (by omega) (by omega) hrk3.rd ?_; intro b4 j4 r4 hr4 hb4 hc4; have hxx : q = r4 := get_eq Hq.out hr4.out (by omega); subst hxx)
          | ((with_reducible refine on_load (.tmp 24) ?_); refine wpt_load rfl _ (.tmp 24) rfl st_part rfl hc4 ?_)
          | ((with_reducible refine on_store_at (.tmp 9) ?_); refine wpt_store (r := Pt.zero) (s := q) rfl _ (.tmp 9) _ rfl st_part rfl rfl (Box.new w3 _ _) ?_; intro w5 bx5 hg5))
        have k5 : Below w3.heap.size w3 w5 := (below_alloc w3 (Nat.le_refl _) (.cells Pt.zero.cs.toArray 26)).trans (below_of_grown hg5 (fun j e => by injection e with e; omega) (by simp))
        have bx35 := bx3.step k5
        have hp5 := hp3.step k5
        have hq5 := (hrk3.step k5).rk q (List.mem_of_getElem? Hq.out)
        have k35 : Below wr.heap.size wr w5 := k3.trans (k5.mono z3)
        have hb5 := hbw.trans (k35.mono hbs)
        clear hg5 hc4 k5 k3
        rcases hways with ⟨e1, e2⟩ | ⟨e1, e2⟩
        · have H1 := Lib.hid e1
          have H2 := Lib.hid (hf.out.trans e2)
          clear e1 e2 hf
          go_wp2_with (first
            | ((with_reducible refine on_load (.tmp 8) ?_); refine wpt_box rfl _ (.tmp 8) rfl st_part rfl bx35 ?_)
            | ((with_reducible refine on_load (.tmp 9) ?_); refine wpt_box rfl _ (.tmp 9) rfl st_part rfl bx5 ?_)
            | (go_at_call 29; refine (same1_any p q _ hpn hqn _ _ hp5 hq5 true H1).mono ?_; rintro e w6 ⟨rfl, hb6⟩))
          go_roundw
          case rel => first | exact ⟨k + 1, by omega, by go_num, H2, hb5.trans (hb6.mono hb5.size)⟩ | exact ⟨_, _, _, _, _, ⟨k + 1, by omega, by go_num, H2, hb5.trans (hb6.mono hb5.size)⟩, rfl, rfl, rfl, rfl, rfl⟩
          case measure => simp [intOf] <;> omega
        · have H1 := Lib.hid e1
          have H2 : Hid (b = false) := Lib.hid (by rw [← hb.out, hf.out, e2])
          clear e1 e2 hf
          go_wp2_with (first
            | ((with_reducible refine on_load (.tmp 8) ?_); refine wpt_box rfl _ (.tmp 8) rfl st_part rfl bx35 ?_)
            | ((with_reducible refine on_load (.tmp 9) ?_); refine wpt_box rfl _ (.tmp 9) rfl st_part rfl bx5 ?_)
            | (go_at_call 29; refine (same1_any p q _ hpn hqn _ _ hp5 hq5 false H1).mono ?_; rintro e w6 ⟨rfl, hb6⟩))
          go_ret
          exact ⟨by rw [H2.out]; try rfl, hb5.trans (hb6.mono hb5.size)⟩
      · have hkn : k = n := by omega
        have Hb : Hid (b = true) := Lib.hid (by
          have h := hf.out
          rw [List.drop_eq_nil_of_le (by have := Hlen.out; omega), List.drop_eq_nil_of_le (by have := Hlen2.out; omega)] at h
          rw [← hb.out, h]; rfl)
        clear hf
        go_wp2
        go_ret
        exact ⟨by rw [Hb.out]; try rfl, hbw⟩
set_option maxRecDepth 100000 in
set_option maxHeartbeats 4000000 in
theorem csame_any (v1 : Int) (Ap1 : Option Addr) (np1 cp1 : Nat) (d1 : Int) (At1 : Option Addr) (nt1 ct1 : Nat) (v2 : Int) (Ap2 : Option Addr) (np2 cp2 : Nat) (d2 : Int) (At2 : Option Addr) (nt2 ct2 : Nat) (w : World) (hnp1 : np1 ≤ 9223372036854775807) (hnt1 : nt1 ≤ 9223372036854775807) (ps1 : List Pt) (tr1 : List Int) (B1 : Nat) (hp1 : PRd w B1 Ap1 np1 cp1 ps1) (ht1 : RdS iv w B1 At1 nt1 ct1 tr1) (hsm1 : ∀ p ∈ ps1, p.n ≤ 9223372036854775807) (hnp2 : np2 ≤ 9223372036854775807) (hnt2 : nt2 ≤ 9223372036854775807) (ps2 : List Pt) (tr2 : List Int) (B2 : Nat) (hp2 : PRd w B2 Ap2 np2 cp2 ps2) (ht2 : RdS iv w B2 At2 nt2 ct2 tr2) (hsm2 : ∀ p ∈ ps2, p.n ≤ 9223372036854775807) (b : Bool) (hb : Hid (csame v1 ps1 d1 tr1 v2 ps2 d2 tr2 = b)) :
    Calls Try.prog 18 #[.agg #[.int .i64 v1, .slice Ap1 np1 cp1, .int .u32 d1, .slice At1 nt1 ct1], .agg #[.int .i64 v2, .slice Ap2 np2 cp2, .int .u32 d2, .slice At2 nt2 ct2]] w (RetB (.bool b) w) := by
  have hways : ((v1 != v2) = true ∧ b = false) ∨ ((v1 != v2) = false ∧ (d1 != d2) = true ∧ b = false) ∨ ((v1 != v2) = false ∧ (d1 != d2) = false ∧ decide (tr1 = tr2) = false ∧ b = false) ∨ ((v1 != v2) = false ∧ (d1 != d2) = false ∧ decide (tr1 = tr2) = true ∧ psame ps1 ps2 = b) := by
    rw [← hb.out]
    unfold csame
    by_cases h1 : v1 = v2
    · by_cases h2 : d1 = d2
      · by_cases h3 : tr1 = tr2
        · exact .inr (.inr (.inr ⟨by simp [h1], by simp [h2], decide_eq_true h3, by simp [h1, h2, h3]⟩))
        · exact .inr (.inr (.inl ⟨by simp [h1], by simp [h2], decide_eq_false h3, by simp [h3]⟩))
      · exact .inr (.inl ⟨by simp [h1], by simp [h2], by simp [h2]⟩)
    · exact .inl ⟨by simp [h1], by simp [h1]⟩
  have bx1 := (Box.new w (Cv v1 Ap1 np1 cp1 d1 At1 nt1 ct1) 29).alloc (.cells (Cv v2 Ap2 np2 cp2 d2 At2 nt2 ct2) 29)
  have bx2 := Box.new (w.alloc (.cells (Cv v1 Ap1 np1 cp1 d1 At1 nt1 ct1) 29)) (Cv v2 Ap2 np2 cp2 d2 At2 nt2 ct2) 29
  rw [heap_size_alloc] at bx2
  have K0 := (below_alloc w (Nat.le_refl _) (.cells (Cv v1 Ap1 np1 cp1 d1 At1 nt1 ct1) 29)).alloc (by simp) (.cells (Cv v2 Ap2 np2 cp2 d2 At2 nt2 ct2) 29)
  have hp1 := hp1.step K0
  have hp2 := hp2.step K0
  have ht1 := ht1.step K0
  have ht2 := ht2.step K0
  have z0 := K0.size
  obtain ⟨c0, c1, c2, c3⟩ : ((w.alloc (.cells (Cv v1 Ap1 np1 cp1 d1 At1 nt1 ct1) 29)).alloc (.cells (Cv v2 Ap2 np2 cp2 d2 At2 nt2 ct2) 29)).cell? ⟨w.heap.size, 0, none⟩ = some (.int .i64 v1) ∧ ((w.alloc (.cells (Cv v1 Ap1 np1 cp1 d1 At1 nt1 ct1) 29)).alloc (.cells (Cv v2 Ap2 np2 cp2 d2 At2 nt2 ct2) 29)).cell? ⟨w.heap.size, 1, none⟩ = some (.slice Ap1 np1 cp1) ∧ ((w.alloc (.cells (Cv v1 Ap1 np1 cp1 d1 At1 nt1 ct1) 29)).alloc (.cells (Cv v2 Ap2 np2 cp2 d2 At2 nt2 ct2) 29)).cell? ⟨w.heap.size, 2, none⟩ = some (.int .u32 d1) ∧ ((w.alloc (.cells (Cv v1 Ap1 np1 cp1 d1 At1 nt1 ct1) 29)).alloc (.cells (Cv v2 Ap2 np2 cp2 d2 At2 nt2 ct2) 29)).cell? ⟨w.heap.size, 3, none⟩ = some (.slice At1 nt1 ct1) := ⟨bx1.cell 0, bx1.cell 1, bx1.cell 2, bx1.cell 3⟩
  obtain ⟨e0, e1, e2, e3⟩ : ((w.alloc (.cells (Cv v1 Ap1 np1 cp1 d1 At1 nt1 ct1) 29)).alloc (.cells (Cv v2 Ap2 np2 cp2 d2 At2 nt2 ct2) 29)).cell? ⟨w.heap.size + 1, 0, none⟩ = some (.int .i64 v2) ∧ ((w.alloc (.cells (Cv v1 Ap1 np1 cp1 d1 At1 nt1 ct1) 29)).alloc (.cells (Cv v2 Ap2 np2 cp2 d2 At2 nt2 ct2) 29)).cell? ⟨w.heap.size + 1, 1, none⟩ = some (.slice Ap2 np2 cp2) ∧ ((w.alloc (.cells (Cv v1 Ap1 np1 cp1 d1 At1 nt1 ct1) 29)).alloc (.cells (Cv v2 Ap2 np2 cp2 d2 At2 nt2 ct2) 29)).cell? ⟨w.heap.size + 1, 2, none⟩ = some (.int .u32 d2) ∧ ((w.alloc (.cells (Cv v1 Ap1 np1 cp1 d1 At1 nt1 ct1) 29)).alloc (.cells (Cv v2 Ap2 np2 cp2 d2 At2 nt2 ct2) 29)).cell? ⟨w.heap.size + 1, 3, none⟩ = some (.slice At2 nt2 ct2) := ⟨bx2.cell 0, bx2.cell 1, bx2.cell 2, bx2.cell 3⟩
  clear hb
  rcases hways with ⟨g1, rfl⟩ | ⟨g1, g2, rfl⟩ | ⟨g1, g2, g3, rfl⟩ | ⟨g1, g2, g3, g4⟩
  · go_enter Try.func18, Try.ntmps18
    go_wp2
    go_ret
    exact ⟨rfl, K0⟩
  · go_enter Try.func18, Try.ntmps18
    go_wp2
    go_ret
    exact ⟨rfl, K0⟩
  · have H3 := Lib.hid g3
    clear g3
    go_enter Try.func18, Try.ntmps18
    go_wp2_with (go_at_call 27; refine (equal_any _ _ _ _ _ _ tr1 tr2 _ hnt1 hnt2 _ _ ht1 ht2 false H3).mono ?_; rintro e w1 ⟨rfl, hb1⟩)
    go_ret
    exact ⟨rfl, K0.trans (hb1.mono z0)⟩
  · have H3 := Lib.hid g3
    have H4 := Lib.hid g4
    clear g3 g4
    go_enter Try.func18, Try.ntmps18
    go_wp2_with (first
      | (go_at_call 27; refine (equal_any _ _ _ _ _ _ tr1 tr2 _ hnt1 hnt2 _ _ ht1 ht2 true H3).mono ?_; rintro e w1 ⟨rfl, hb1⟩; have hp11 := hp1.step hb1; have hp21 := hp2.step hb1; have f1 : w1.cell? ⟨w.heap.size, 1, none⟩ = some (.slice Ap1 np1 cp1) := (bx1.step hb1).cell 1; have f2 : w1.cell? ⟨w.heap.size + 1, 1, none⟩ = some (.slice Ap2 np2 cp2) := (bx2.step hb1).cell 1)
      | (go_at_call 28; refine (equalFunc_any _ _ _ _ _ _ ps1 ps2 _ hnp1 hnp2 _ _ hp11 hp21 hsm1 hsm2 b H4).mono ?_; rintro e w2 ⟨rfl, hb2⟩))
    go_ret
    exact ⟨rfl, K0.trans ((hb1.trans (hb2.mono hb1.size)).mono z0)⟩
end Go.Proofs.Yteellpcagdnikaa
