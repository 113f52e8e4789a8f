/-
  The walk of layer 17's reference: May.
-/
import Derived.Test.YteellpcagdnikaaCertRef
namespace Go.Th
open Go.RowKit
section
variable {P : Program} {ops : Array Oper} {rest : List Oper} {o : Oper} {a : Act} {C : World → Prop} {Q : Act → Prop}
theorem wq_at_i (hw : Region.wanted o (yielded ops a.tmps) = true) (T : TypeId) (s i : Operand) (ho : o.op = .indexAddr T s i) {E bytes : Nat} {z : Value} (el : El P T E z bytes)
    {A : Option Addr} {n c : Nat} {k : IntKind} {I : Int} (hs : a.eval s = .slice A n c) (hi : a.eval i = .int k I) (h0 : 0 ≤ I) (h1 : I < n) {w0 : World} (hC0 : C w0)
    {B : Nat} {zs : List Int} (hr : RdC iv C B A n c zs)
    (h : ∀ (p : Addr) (x : Int), Hid (zs[I.toNat]? = some x) → (∀ w, C w → w.cell? p = some (.int .i64 x)) → wpQuiet P ops C Q rest (a.put o.dst (.pointer (some p)))) :
    wpQuiet P ops C Q (o :: rest) a := by
  have hl : I.toNat < zs.length := by have := (hr.rd w0 hC0).len; omega
  obtain ⟨b, off, hA, hb, hc⟩ := (hr.rd w0 hC0).rd.at_ I.toNat (iv zs[I.toNat]) (by rw [List.getElem?_map, List.getElem?_eq_getElem hl]; rfl)
  subst hA
  refine wq_run hw (v := .pointer (some ((⟨b, off, none⟩ : Addr).add (I.toNat * 1)))) (fun w hC => ?_) ?_
  · simp only [execOp, ho, hs, hi, Sem.run_bind, run_indexAt T el.ht (el.size w) _ n c k I h0 h1, Result.andThen, Sem.run_pure]
  · refine h _ zs[I.toNat] (List.getElem?_eq_getElem hl) fun w hC => ?_
    obtain ⟨b', off', hA', _, hc'⟩ := (hr.rd w hC).rd.at_ I.toNat (iv zs[I.toNat]) (by rw [List.getElem?_map, List.getElem?_eq_getElem hl]; rfl)
    injection hA' with hA'
    injection hA' with e1 e2
    subst e1 e2
    rw [Nat.mul_one, Addr.add_lit]
    exact hc'
end
end Go.Th
namespace Go.Proofs.Yteellpcagdnikaa
open Go.RowKit Go.Th
set_option linter.unusedVariables false
def RTrRel (tr : List Int) (x0 : Int) (n : Nat) (wb : World) (i : Value) (wr : World) : Prop :=
  ∃ k : Nat, k ≤ n ∧ i = .int .i64 k ∧ Hid (trgo [] x0 tr = trgo (tr.take k) x0 (tr.drop k)) ∧ Below wb.heap.size wb wr
def RInRel (tr : List Int) (x0 x : Int) (i : Nat) (wr : World) (kk : Value) (wq : World) : Prop :=
  ∃ j : Nat, j ≤ i ∧ kk = .int .i64 j ∧ Hid (x ∉ tr.take j) ∧ Hid (0 < j → x0 ≤ x) ∧ Below wr.heap.size wr wq
set_option maxRecDepth 100000 in
set_option maxHeartbeats 4000000 in
theorem rcmay_any (v : Int) (Ap : Option Addr) (np cp : Nat) (d : Int) (At : Option Addr) (nt ct : Nat) (nodes : Int) (w : World) (hnp : np ≤ 9223372036854775807) (hnt : nt ≤ 1000000) (ps : List Pt) (tr : List Int) (B : Nat) (hB : B ≤ w.heap.size) (hp : PRd w B Ap np cp ps) (ht : RdS iv w B At nt ct tr) (hsm : ∀ p ∈ ps, p.n ≤ 9223372036854775807) :
    Calls Try.prog 16 #[.agg #[.int .i64 v, .slice Ap np cp, .int .u32 d, .slice At nt ct], .int .i64 nodes] w (RetB (.int .i64 (cmay v ps d tr nodes)) w) := by
  obtain ⟨V, hV⟩ : ∃ V, cmay v ps d tr nodes = V := ⟨_, rfl⟩
  have hlen := ht.len
  have hpl := hp.rd.len
  have bx := Box.new w (Cv v Ap np cp d At nt ct) 29
  obtain ⟨c0, c1, c3⟩ : (w.alloc (.cells (Cv v Ap np cp d At nt ct) 29)).cell? ⟨w.heap.size, 0, none⟩ = some (.int .i64 v) ∧ (w.alloc (.cells (Cv v Ap np cp d At nt ct) 29)).cell? ⟨w.heap.size, 1, none⟩ = some (.slice Ap np cp) ∧ (w.alloc (.cells (Cv v Ap np cp d At nt ct) 29)).cell? ⟨w.heap.size, 3, none⟩ = some (.slice At nt ct) := ⟨bx.cell 0, bx.cell 1, bx.cell 3⟩
  have k1 := below_alloc w (Nat.le_refl _) (.cells (Cv v Ap np cp d At nt ct) 29)
  have hr1 := ht.step k1
  have hways : ((v == 1) = true ∧ V = cfree ps d tr nodes) ∨ ((v == 1) = false ∧ (v != 2) = true ∧ V = 9) ∨ ((v == 1) = false ∧ (v != 2) = false ∧ ((0 < np ∧ V = 3) ∨ (np = 0 ∧ nt = 0 ∧ V = 12) ∨ (np = 0 ∧ 0 < nt ∧ nodes < nt ∧ V = 12) ∨ (np = 0 ∧ 0 < nt ∧ (nt : Int) ≤ nodes ∧ tr.any (outs nodes) = true ∧ V = 10) ∨ (np = 0 ∧ 0 < nt ∧ (nt : Int) ≤ nodes ∧ tr.any (outs nodes) = false ∧ V = trgo [] (trfirst tr) tr))) := by
    rw [← hV]
    unfold cmay
    by_cases g1 : v = 1
    · exact .inl ⟨by simp [g1], if_pos g1⟩
    · by_cases g2 : v = 2
      · refine .inr (.inr ⟨by simp [g1], by simp [g2], ?_⟩)
        rw [if_neg g1, if_pos g2]
        unfold cloops
        by_cases h1 : np = 0
        · rw [if_neg (by omega)]
          by_cases h2 : nt = 0
          · rw [if_pos (.inl (by omega))]; exact .inr (.inl ⟨h1, h2, rfl⟩)
          · by_cases h3 : nodes < nt
            · rw [if_pos (.inr (by omega))]; exact .inr (.inr (.inl ⟨h1, by omega, h3, rfl⟩))
            · rw [if_neg (by omega)]
              cases h4 : tr.any (outs nodes) with
              | true => rw [if_pos rfl]; exact .inr (.inr (.inr (.inl ⟨h1, by omega, by omega, rfl, rfl⟩)))
              | false => rw [if_neg (by simp)]; exact .inr (.inr (.inr (.inr ⟨h1, by omega, by omega, rfl, rfl⟩)))
        · rw [if_pos (by omega)]; exact .inl ⟨by omega, rfl⟩
      · exact .inr (.inl ⟨by simp [g1], by simp [g2], by rw [if_neg g1, if_neg g2]⟩)
  have hfr := rfree_any v Ap np cp d At nt ct nodes _ hnp (by omega) ps tr B (hp.step k1) hlen hsm
  rw [hV]
  have Hlen := Lib.hid hlen
  generalize cfree ps d tr nodes = a1 at hfr hways
  have Hf := Lib.hid hfr
  clear hlen hpl hp ht hsm hV hfr
  rcases hways with ⟨h1, rfl⟩ | ⟨h1, h2, rfl⟩ | ⟨g1, g2, ⟨h1, rfl⟩ | ⟨rfl, rfl, rfl⟩ | ⟨rfl, h1, h2, rfl⟩ | ⟨rfl, h1, h2, h3, rfl⟩ | ⟨rfl, h1, h2, h3, h4⟩⟩
  · go_enter Try.func16, Try.ntmps16
    go_wp2_with (first
      | ((with_reducible refine on_load (.tmp 2) ?_); refine wcv_box rfl (.tmp 2) rfl rfl bx ?_)
      | (go_at_call 25; refine (Hf.out).mono ?_; rintro e w2 ⟨rfl, hb2⟩))
    go_ret
    exact ⟨rfl, k1.trans (hb2.mono k1.size)⟩
  · go_enter Try.func16, Try.ntmps16
    go_wp2
    go_ret
    exact ⟨rfl, k1⟩
  · go_enter Try.func16, Try.ntmps16
    go_wp2
    go_ret
    exact ⟨rfl, k1⟩
  · go_enter Try.func16, Try.ntmps16
    go_wp2
    go_ret
    exact ⟨rfl, k1⟩
  · have n1 : ((nt : Int) == 0) = false := by simp; omega
    go_enter Try.func16, Try.ntmps16
    go_wp2
    go_ret
    exact ⟨rfl, k1⟩
  · have n1 : ((nt : Int) == 0) = false := by simp; omega
    have n2 : decide (nodes < (nt : Int)) = false := decide_eq_false (by omega)
    have H3 := Lib.hid h3
    clear h3
    go_enter Try.func16, Try.ntmps16
    go_wp2_with (go_at_call 26; refine (rin_any _ _ _ tr nodes _ (by omega) _ hr1 true H3).mono ?_; rintro e w1 ⟨rfl, rfl⟩)
    go_ret
    exact ⟨rfl, k1⟩
  · have n1 : ((nt : Int) == 0) = false := by simp; omega
    have n2 : decide (nodes < (nt : Int)) = false := decide_eq_false (by omega)
    have H3 := Lib.hid h3
    obtain ⟨x0, hx0⟩ : ∃ x, tr[0]? = some x := ⟨tr[0]'(by have := Hlen.out; omega), List.getElem?_eq_getElem _⟩
    have hfi : trfirst tr = x0 := by
      cases tr with
      | nil => simp at hx0
      | cons y ys => simp at hx0; exact hx0
    rw [hfi] at h4
    have Hx0 := Lib.hid hx0
    have H4 := Lib.hid h4
    clear h3 hfi hx0 h4
    go_enter Try.func16, Try.ntmps16
    go_wp2_with (go_at_call 26; refine (rin_any _ _ _ tr nodes _ (by omega) _ hr1 false H3).mono ?_; rintro e w1 ⟨rfl, rfl⟩)
    obtain ⟨W1, hW1⟩ : ∃ W, w.alloc (.cells (Cv v Ap 0 cp d At nt ct) 29) = W := ⟨_, rfl⟩
    go_loopw [5, 6] (fun i _ wr => RTrRel tr x0 nt (w.alloc (.cells (Cv v Ap 0 cp d At nt ct) 29)) i wr) (fun i _ _ => nt - (intOf i).toNat)
    case atStart => exact ⟨0, by omega, rfl, Lib.hid rfl, Below.refl _ _⟩
    case round =>
      obtain ⟨k, hk, rfl, hf, hb⟩ := hrel
      have bxr := bx.step hb
      have hrk := hr1.step hb
      have hbs := hb.size
      have d3 : wr.cell? ⟨w.heap.size, 3, none⟩ = some (.slice At nt ct) := bxr.cell 3
      by_cases hlt : k < nt
      · obtain ⟨x, hx⟩ : ∃ x, tr[k]? = some x := ⟨tr[k]'(by have := Hlen.out; omega), List.getElem?_eq_getElem _⟩
        have Hx := Lib.hid hx
        clear hx
        go_wp2
        go_loopw [6] (fun kk wq => RInRel tr x0 x k wr kk wq) (fun kk _ => k - (intOf kk).toNat)
        case atStart => exact ⟨0, by omega, rfl, Lib.hid (by simp), Lib.hid (fun h => absurd h (by omega)), Below.refl _ _⟩
        case round =>
          obtain ⟨j, hj, rfl, hn1, hn2, hbq⟩ := hrel
          have bxq := bxr.step hbq
          have hrq := hrk.step hbq
          have zq := hbq.size
          by_cases hlj : j < k
          · obtain ⟨y, hy⟩ : ∃ y, tr[j]? = some y := ⟨tr[j]'(by have := Hlen.out; omega), List.getElem?_eq_getElem _⟩
            have hst : tr.take (j + 1) = tr.take j ++ [y] := by rw [List.take_add_one, hy]; rfl
            have hmem : y ∈ tr.take k := List.mem_of_getElem? (i := j) (by rw [List.getElem?_take, if_pos hlj]; exact hy)
            have hways : ((y == x) = true ∧ V = 17) ∨ ((y == x) = false ∧ decide (x < x0) = true ∧ V = 17) ∨ ((y == x) = false ∧ decide (x < x0) = false ∧ x ∉ tr.take (j + 1) ∧ x0 ≤ x) := by
              by_cases e1 : y = x
              · subst e1
                exact .inl ⟨by simp, by rw [H4.out, hf.out]; exact tr_no Hx.out (.inl hmem)⟩
              · by_cases e2 : x < x0
                · exact .inr (.inl ⟨by simp [e1], decide_eq_true e2, by rw [H4.out, hf.out]; exact tr_no Hx.out (.inr e2)⟩)
                · refine .inr (.inr ⟨by simp [e1], decide_eq_false e2, ?_, by omega⟩)
                  rw [hst]
                  intro hm
                  rcases List.mem_append.1 hm with hm | hm
                  · exact hn1.out hm
                  · exact e1 (List.mem_singleton.1 hm).symm
            have Hy := Lib.hid hy
            clear hy hst hmem
            have hx1 := hrq.reach
            have y3 : ∀ q : Step _ _, q.w.cell? ⟨w.heap.size, 3, none⟩ = some (.slice At nt ct) := fun q : Step _ _ => (bxq.step q.h).cell 3
            rcases hways with ⟨e1, e2⟩ | ⟨e1, e2, e3⟩ | ⟨e1, e2, e3, e4⟩
            · have Hfin := Lib.hid e2
              clear e2
              go_upto_region 17 with fail
              refine wp_region_reach (by kernel_rfl) (by kernel_rfl) ?_
              repeat (first | go_big_quiet_skip | ((with_reducible refine onq_index (.tmp 49) ?_); refine wq_at_i rfl _ (.tmp 49) _ rfl el_int rfl rfl (by omega) (by omega) (Th.Reach.refl _ _) hx1 ?_; intro p1 z1 hz1 hc1; have hxx := get_eq Hy.out hz1.out (by omega); subst hxx; have f1 : ∀ q : Step _ _, q.w.cell? p1 = some (.int .i64 y) := fun q => hc1 q.w ⟨q, rfl⟩) | ((with_reducible refine onq_index (.tmp 54) ?_); refine wq_at_i rfl _ (.tmp 54) _ rfl el_int rfl rfl (by omega) (by omega) (Th.Reach.refl _ _) hx1 ?_; intro p2 z2 hz2 hc2; have hxx := get_eq Hx.out hz2.out (by omega); subst hxx; have f2 : ∀ q : Step _ _, q.w.cell? p2 = some (.int .i64 x) := fun q => hc2 q.w ⟨q, rfl⟩) | ((with_reducible refine onq_index (.tmp 61) ?_); refine wq_at_i rfl _ (.tmp 61) _ rfl el_int rfl rfl (by omega) (by omega) (Th.Reach.refl _ _) hx1 ?_; intro p3 z3 hz3 hc3; have hxx := get_eq Hx.out hz3.out (by omega); subst hxx; have f3 : ∀ q : Step _ _, q.w.cell? p3 = some (.int .i64 x) := fun q => hc3 q.w ⟨q, rfl⟩) | ((with_reducible refine onq_index (.tmp 66) ?_); refine wq_at_i rfl _ (.tmp 66) _ rfl el_int rfl rfl (by omega) (by omega) (Th.Reach.refl _ _) hx1 ?_; intro p4 z4 hz4 hc4; have hxx := get_eq Hx0.out hz4.out rfl; subst hxx; have f4 : ∀ q : Step _ _, q.w.cell? p4 = some (.int .i64 x0) := fun q => hc4 q.w ⟨q, rfl⟩) | go_big_quiet_step (fail) | quiet_step (fail))
              refine wpQuiet_nil ?_
              rintro _ ⟨q, rfl⟩
              have hqw5 := q.h
              obtain ⟨w5, hw5'⟩ : ∃ W, q.w = W := ⟨_, rfl⟩
              rw [hw5'] at hqw5 ⊢
              clear hw5' q
              go_wp2
              go_ret
              exact ⟨by rw [Hfin.out]; try rfl, k1.trans (((hb.trans (hbq.mono hbs)).trans (hqw5.mono (by omega))).mono k1.size)⟩
            · have Hfin := Lib.hid e3
              clear e3
              go_upto_region 17 with fail
              refine wp_region_reach (by kernel_rfl) (by kernel_rfl) ?_
              repeat (first | go_big_quiet_skip | ((with_reducible refine onq_index (.tmp 49) ?_); refine wq_at_i rfl _ (.tmp 49) _ rfl el_int rfl rfl (by omega) (by omega) (Th.Reach.refl _ _) hx1 ?_; intro p1 z1 hz1 hc1; have hxx := get_eq Hy.out hz1.out (by omega); subst hxx; have f1 : ∀ q : Step _ _, q.w.cell? p1 = some (.int .i64 y) := fun q => hc1 q.w ⟨q, rfl⟩) | ((with_reducible refine onq_index (.tmp 54) ?_); refine wq_at_i rfl _ (.tmp 54) _ rfl el_int rfl rfl (by omega) (by omega) (Th.Reach.refl _ _) hx1 ?_; intro p2 z2 hz2 hc2; have hxx := get_eq Hx.out hz2.out (by omega); subst hxx; have f2 : ∀ q : Step _ _, q.w.cell? p2 = some (.int .i64 x) := fun q => hc2 q.w ⟨q, rfl⟩) | ((with_reducible refine onq_index (.tmp 61) ?_); refine wq_at_i rfl _ (.tmp 61) _ rfl el_int rfl rfl (by omega) (by omega) (Th.Reach.refl _ _) hx1 ?_; intro p3 z3 hz3 hc3; have hxx := get_eq Hx.out hz3.out (by omega); subst hxx; have f3 : ∀ q : Step _ _, q.w.cell? p3 = some (.int .i64 x) := fun q => hc3 q.w ⟨q, rfl⟩) | ((with_reducible refine onq_index (.tmp 66) ?_); refine wq_at_i rfl _ (.tmp 66) _ rfl el_int rfl rfl (by omega) (by omega) (Th.Reach.refl _ _) hx1 ?_; intro p4 z4 hz4 hc4; have hxx := get_eq Hx0.out hz4.out rfl; subst hxx; have f4 : ∀ q : Step _ _, q.w.cell? p4 = some (.int .i64 x0) := fun q => hc4 q.w ⟨q, rfl⟩) | go_big_quiet_step (fail) | quiet_step (fail))
              refine wpQuiet_nil ?_
              rintro _ ⟨q, rfl⟩
              have hqw5 := q.h
              obtain ⟨w5, hw5'⟩ : ∃ W, q.w = W := ⟨_, rfl⟩
              rw [hw5'] at hqw5 ⊢
              clear hw5' q
              go_wp2
              go_ret
              exact ⟨by rw [Hfin.out]; try rfl, k1.trans (((hb.trans (hbq.mono hbs)).trans (hqw5.mono (by omega))).mono k1.size)⟩
            · have He3 := Lib.hid e3
              have He4 : Hid (0 < j + 1 → x0 ≤ x) := Lib.hid (fun _ => e4)
              clear e3 e4
              go_upto_region 17 with fail
              refine wp_region_reach (by kernel_rfl) (by kernel_rfl) ?_
              repeat (first | go_big_quiet_skip | ((with_reducible refine onq_index (.tmp 49) ?_); refine wq_at_i rfl _ (.tmp 49) _ rfl el_int rfl rfl (by omega) (by omega) (Th.Reach.refl _ _) hx1 ?_; intro p1 z1 hz1 hc1; have hxx := get_eq Hy.out hz1.out (by omega); subst hxx; have f1 : ∀ q : Step _ _, q.w.cell? p1 = some (.int .i64 y) := fun q => hc1 q.w ⟨q, rfl⟩) | ((with_reducible refine onq_index (.tmp 54) ?_); refine wq_at_i rfl _ (.tmp 54) _ rfl el_int rfl rfl (by omega) (by omega) (Th.Reach.refl _ _) hx1 ?_; intro p2 z2 hz2 hc2; have hxx := get_eq Hx.out hz2.out (by omega); subst hxx; have f2 : ∀ q : Step _ _, q.w.cell? p2 = some (.int .i64 x) := fun q => hc2 q.w ⟨q, rfl⟩) | ((with_reducible refine onq_index (.tmp 61) ?_); refine wq_at_i rfl _ (.tmp 61) _ rfl el_int rfl rfl (by omega) (by omega) (Th.Reach.refl _ _) hx1 ?_; intro p3 z3 hz3 hc3; have hxx := get_eq Hx.out hz3.out (by omega); subst hxx; have f3 : ∀ q : Step _ _, q.w.cell? p3 = some (.int .i64 x) := fun q => hc3 q.w ⟨q, rfl⟩) | ((with_reducible refine onq_index (.tmp 66) ?_); refine wq_at_i rfl _ (.tmp 66) _ rfl el_int rfl rfl (by omega) (by omega) (Th.Reach.refl _ _) hx1 ?_; intro p4 z4 hz4 hc4; have hxx := get_eq Hx0.out hz4.out rfl; subst hxx; have f4 : ∀ q : Step _ _, q.w.cell? p4 = some (.int .i64 x0) := fun q => hc4 q.w ⟨q, rfl⟩) | go_big_quiet_step (fail) | quiet_step (fail))
              refine wpQuiet_nil ?_
              rintro _ ⟨q, rfl⟩
              have hqw5 := q.h
              obtain ⟨w5, hw5'⟩ : ∃ W, q.w = W := ⟨_, rfl⟩
              rw [hw5'] at hqw5 ⊢
              clear hw5' q
              go_wp2
              go_roundw
              case rel => exact ⟨j + 1, by omega, by go_num, He3, He4, hbq.trans (hqw5.mono zq)⟩
              case measure => simp [intOf] <;> omega
          · have hjk : j = k := by omega
            subst hjk
            have hno : ¬ (x ∈ tr.take j ∨ x < x0) := by
              intro h
              rcases h with h | h
              · exact hn1.out h
              · rcases Nat.eq_zero_or_pos j with h0 | h0
                · subst h0
                  have := get_eq Hx.out Hx0.out rfl
                  omega
                · have := hn2.out h0
                  omega
            have Hon := Lib.hid (hf.out.trans (tr_on Hx.out hno))
            clear hno hf hn1 hn2
            go_wp2
            go_roundw
            case rel => exact ⟨j + 1, by omega, by go_num, Hon, hb.trans (hbq.mono hbs)⟩
            case measure => simp [intOf] <;> omega
      · have hkn : k = nt := by omega
        subst hkn
        have hfin : V = 0 := by
          rw [H4.out, hf.out, List.drop_eq_nil_of_le (by have := Hlen.out; omega)]; rfl
        have Hfin := Lib.hid hfin
        clear hfin hf
        go_wp2
        go_ret
        exact ⟨by rw [Hfin.out]; try rfl, k1.trans (hb.mono k1.size)⟩
end Go.Proofs.Yteellpcagdnikaa
