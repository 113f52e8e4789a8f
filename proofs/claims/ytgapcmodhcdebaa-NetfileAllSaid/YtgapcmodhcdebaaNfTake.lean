/-
  netfile's takers: a rule, the rules of a node, the nodes.
-/
import Derived.Test.YtgapcmodhcdebaaNfTakePlain
import Derived.Test.YtgapcmodhcdebaaNfPut
namespace Go.Th
open Go.RowKit
set_option linter.unusedVariables false
theorem results_cell2 {P : Program} {fn : Func} {p u x : Tmp} {ty : TypeId} (h : fn.results = #[.cell p ty, .tmp u, .tmp x]) (tmps : Array Value) (w : World) (g : Nat) (t : TypeId) (cs : Array Value) (fr : Nat × Nat) (d : TypeDesc)
    (hp : tmps.getD p undef = .pointer (some ⟨g, 0, none⟩)) (hg : w.heap[g]? = some (.cells cs t fr)) {U X : Value} (hu2 : tmps.getD u undef = U) (hx2 : tmps.getD x undef = X)
    (hu : P.underlying ty = some d) (hd : (match d with | .struct _ | .array _ _ => true | _ => false) = true) (hi : (P.info? ty).map (·.size) = some cs.size) :
    (results fn tmps).run P w = .ok (.tuple #[.agg cs, U, X]) w := by
  have hp' : tmps[p]?.getD undef = .pointer (some ⟨g, 0, none⟩) := by simpa using hp
  have hu' : tmps[u]?.getD undef = U := by simpa using hu2
  have hx' : tmps[x]?.getD undef = X := by simpa using hx2
  simp [results, h, hp', hu', hx', asAddr, run_loadVar_row w g t ty cs fr d hg hu hd hi]
section
variable {P : Program} {ops : Array Oper} {C : World → Prop} {Q : Act → Prop} {rest : List Oper} {o : Oper} {a : Act}
/-- s[l:] in a quiet walk, the place told. -/
theorem wq_cut_lz (hw : Region.wanted o (yielded ops a.tmps) = true) (T : TypeId) (s : Operand) {E bytes : Nat} {z : Value} (el : El P T E z bytes)
    {A : Option Addr} {n c : Nat} (hs : a.eval s = .slice A n c) (lo : Operand) (ho : o.op = .slice T s (some lo) Option.none Option.none) {k : IntKind} {I : Int} (hlo : a.eval lo = .int k I) (L : Nat) (hL : I = (L : Int) ∧ L ≤ n)
    (h : wpQuiet P ops C Q rest (a.put o.dst (.slice (cutA A L c) (n - L) (c - L)))) : wpQuiet P ops C Q (o :: rest) a := by
  obtain ⟨rfl, hL⟩ := hL
  refine wq_run hw (v := .slice (cutA A L c) (n - L) (c - L)) (fun w hC => ?_) h
  have hb : (Instr.sliceBounds true n c (some (.int k (L : Int))) Option.none Option.none).run P w = .ok (L, n, c) w := bounds_l k hL
  simp only [execOp, ho, hs, hlo, Option.map_some, Option.map_none, Sem.run_bind, Instr.sliceAt, run_underlying el.ht, Instr.slice, hb, el.size, Result.andThen, Sem.run_pure, Nat.mul_one, cutA]
end
section
variable {P : Program} {ops : Array Oper} {rest : List Oper} {o : Oper} {a : Act} {Q : Exit → Act → World → Prop} {w : World}
/-- s[l:], the place told. -/
theorem wl_cut_lx (hw : Region.wanted o (yielded ops a.tmps) = true) (T : TypeId) (s : Operand) {E bytes : Nat} {z : Value} (el : El P T E z bytes)
    {A : Option Addr} {n c : Nat} (hs : a.eval s = .slice A n c) (hc : n ≤ c) (lo : Operand) (ho : o.op = .slice T s (some lo) Option.none Option.none) {k : IntKind} {I : Int} (hlo : a.eval lo = .int k I) (L : Nat) (hL : I = (L : Int) ∧ L ≤ n)
    (h : wpList P ops Q rest (a.put o.dst (.slice (cutA A L c) (n - L) (c - L))) w) : wpList P ops Q (o :: rest) a w := by
  obtain ⟨rfl, hL⟩ := hL
  refine wl_run hw (v := .slice (cutA A L c) (n - L) (c - L)) (w' := w) ?_ h
  have hb : (Instr.sliceBounds true n c (some (.int k (L : Int))) Option.none Option.none).run P w = .ok (L, n, c) w := bounds_l k hL
  simp only [execOp, ho, hs, hlo, Option.map_some, Option.map_none, Sem.run_bind, Instr.sliceAt, run_underlying el.ht, Instr.slice, hb, el.size, Result.andThen, Sem.run_pure, Nat.mul_one, cutA]
end
theorem cut_l {α : Type} {f : α → Value} {w : World} {B : Nat} {A : Option Addr} {n c : Nat} {xs : List α} (h : RdS f w B A n c xs) (L : Nat) (hL : L ≤ n) : RdS f w B (cutA A L c) (n - L) (c - L) (xs.drop L) := by
  have := h.cut L n c hL h.cap (Nat.le_refl _)
  rwa [List.take_of_length_le (Nat.le_of_eq h.len)] at this
theorem rowOf_cut (A : Option Addr) (L c : Nat) : rowOf (cutA A L c) = rowOf A := by
  unfold cutA
  split
  · rfl
  · cases A with
    | none => rfl
    | some a =>
      show some (a.add L).block = some a.block
      unfold Addr.add
      split <;> rfl
end Go.Th
namespace Go.Proofs.Ytgapcmodhcdebaa
open Go.RowKit Go.Th
set_option linter.unusedVariables false
set_option maxRecDepth 100000 in
set_option maxHeartbeats 4000000 in
theorem takeRule_any (A : Option Addr) (n c : Nat) (w : World) (hn : n ≤ 1000000) (bs : List UInt8) (hr : RdS bv w w.heap.size A n c bs) (r : Ru) (t : List UInt8) (er : Int) (h : rdr bs = (r, t, er)) :
    Calls Try.prog 59 #[.slice A n c] w (fun e w' => ∃ A' n' c', e = .returned (.tuple #[.agg #[.int .u32 r.a, .int .i64 r.n, .int .i64 r.act, .int .i64 r.next], .slice A' n' c', .int .i64 er]) ∧ (A' = none ∨ rowOf A' = rowOf A) ∧ (∀ W B, RdS bv W B A n c bs → RdS bv W B A' n' c' t) ∧ Below w.heap.size w w') := by
  have hlen := hr.len
  have hcap := hr.cap
  unfold rdr at h
  by_cases h8 : n < 8
  · rw [if_pos (by omega)] at h
    obtain ⟨rfl, rfl, rfl⟩ : Ru.zero = r ∧ [] = t ∧ 2 = er := by injection h with a b; injection b with b c; exact ⟨a, b, c⟩
    clear h
    go_enter Try.func59, Try.ntmps59
    go_wp2_with (first
      | ((with_reducible refine on_alloc ?_); refine wl_newBox rfl _ rfl z_rule ?_; intro g w1 hg hl b1 hb1)
      | (go_at_call 78; refine (ruleTake_short A n c w1 h8).mono ?_; rintro e w2 ⟨rfl, hb2⟩; have b2 := b1.step hb2)
      | ((with_reducible refine on_store_at (.tmp 2) ?_); first | (refine wr_store (r := Ru.zero) (s := Ru.zero) rfl _ (.tmp 2) _ rfl st_rule rfl rfl b2 ?_; intro w3 b3 hg3) | (refine wr_store (r := Ru.zero) (s := Ru.zero) rfl _ (.tmp 2) _ rfl st_rule rfl rfl b3 ?_; intro w4 b4 hg4)))
    have hz1 := hb2.size
    have B4 : Below w.heap.size w w4 := by
      have a := hb1.trans (hb2.mono hb1.size)
      have b := a.trans (below_of_grown hg3 (fun j e => by injection e with e; omega) a.size)
      exact b.trans (below_of_grown hg4 (fun j e => by injection e with e; omega) b.size)
    refine bodyPost_ret (results_cell2 rfl _ w4 g 47 _ (0, 0) _ rfl b4.at_ rfl rfl Try.underlying47 rfl st_rule.size) rfl ?_
    exact ⟨none, 0, 0, rfl, .inl rfl, fun W B _ => RdS.nil _ _, B4⟩
  · rw [if_neg (by omega)] at h
    obtain ⟨hr0, ht0, rfl⟩ : rtk bs = r ∧ bs.drop 8 = t ∧ 0 = er := by injection h with a b; injection b with b c; exact ⟨a, b, c⟩
    have Hr0 := Lib.hid hr0
    have Ht0 := Lib.hid ht0
    clear h hr0 ht0
    go_enter Try.func59, Try.ntmps59
    go_upto_region 4 with (first
      | ((with_reducible refine on_alloc ?_); refine wl_newBox rfl _ rfl z_rule ?_; intro g w1 hg hl b1 hb1)
      | (go_at_call 78; refine (ruleTake A n c w1 bs (hr.step hb1).heap (by omega) hn).mono ?_; rw [Hr0.out]; rintro e w2 ⟨rfl, hb2⟩; have b2 := b1.step hb2)
      | ((with_reducible refine on_store_at (.tmp 2) ?_); refine wr_store (r := Ru.zero) (s := r) rfl _ (.tmp 2) _ rfl st_rule rfl rfl b2 ?_; intro w3 b3 hg3))
    have B3 : Below w.heap.size w w3 := by
      have a := hb1.trans (hb2.mono hb1.size)
      exact a.trans (below_of_grown hg3 (fun j e => by injection e with e; omega) a.size)
    have q3 : ∀ w', Th.KReach g w3.drew w' → Box w' g 47 r.cs.toArray := fun w' hk => by
      obtain ⟨q, rfl⟩ := hk
      exact b3.drew.keep q
    have hgz := B3.size
    clear hb1 hb2 hg3 b1 b2 hl
    refine wp_region_tree (.float 0 3 (.one 3 (.float 4 2 .done))) (Th.KReach g) (Th.KReach.trans _) (Th.KReach.refl _) (by kernel_rfl) (by kernel_rfl) (fun KT hKT => ?_)
    refine wpTree_float (fun KF hKF => ?_)
    simp only [List.drop, List.take]
    repeat (first | go_big_quiet_skip | ((with_reducible refine onq_load (.tmp 2) ?_); refine wqr_box rfl _ (.tmp 2) rfl st_rule rfl q3 ?_) | ((with_reducible refine onq_slice (.tmp 15) ?_); refine wq_cut_lz rfl _ (.tmp 15) el_u8 rfl _ rfl rfl 8 (by omega) ?_) | go_big_quiet_step (fail) | quiet_step (fail))
    refine wpQuiet_nil ?_
    refine hKF _ ?_
    clear hKF KF
    refine wpTree_one (fun KO hKO => ?_)
    simp only [List.drop, List.take]
    go_wp2_with (first | ((with_reducible refine on_store_at (.tmp 2) ?_); refine wr_store (r := r) (s := r) rfl _ (.tmp 2) _ rfl st_rule rfl rfl b3.drew ?_; intro w4 b4 hg4; have kg : w4.heap[g]? = w3.drew.heap[g]? := b4.at_.trans b3.drew.at_.symm))
    refine anch_end (Th.KReach.of (by first | exact rfl | assumption | (simp; done) | (exact keep_alloc _ _ (by assumption)))) (hKO _ _ ?_)
    clear hKO KO
    refine wpTree_float (fun KF hKF => ?_)
    simp only [List.drop, List.take]
    repeat (first | go_big_quiet_skip | ((with_reducible refine onq_load (.tmp 2) ?_); refine wqr_box rfl _ (.tmp 2) rfl st_rule rfl q3 ?_) | ((with_reducible refine onq_slice (.tmp 15) ?_); refine wq_cut_lz rfl _ (.tmp 15) el_u8 rfl _ rfl rfl 8 (by omega) ?_) | go_big_quiet_step (fail) | quiet_step (fail))
    refine wpQuiet_nil ?_
    refine hKF _ ?_
    clear hKF KF
    refine wpTree_done ?_
    refine hKT _ _ ?_
    clear hKT KT
    go_wp2
    have B4 : Below w.heap.size w w4 := B3.drew.trans (below_of_grown hg4 (fun j e => by injection e with e; omega) hgz)
    refine bodyPost_ret (results_cell2 rfl _ w4 g 47 _ (0, 0) _ rfl b4.at_ rfl rfl Try.underlying47 rfl st_rule.size) rfl ?_
    exact ⟨_, _, _, rfl, .inr (rowOf_cut A 8 c), fun W B h => by rw [← Ht0.out]; exact cut_l h 8 (by omega), B4⟩
def TrRel (bs : List UInt8) (n cnt : Nat) (w : World) (b l i : Value) (wr : World) : Prop :=
  ∃ (k : Nat) (Ab : Option Addr) (nb cb : Nat) (t : List UInt8) (A : Option Addr) (m c : Nat) (acc : List Ru), k ≤ cnt ∧ i = .int .i64 k ∧ b = .slice Ab nb cb ∧ l = .slice A m c ∧ RdS bv wr w.heap.size Ab nb cb t ∧ nb ≤ n ∧ m ≤ k ∧ OwM Ru.cs 4 wr w.heap.size 47 A m c acc ∧ Hid (goT rdr cnt [] bs = goT rdr (cnt - k) acc t) ∧ Below w.heap.size w wr
set_option maxRecDepth 100000 in
set_option maxHeartbeats 4000000 in
theorem takeRules_any (A : Option Addr) (n c : Nat) (w : World) (hn : n ≤ 1000000) (bs : List UInt8) (hr : RdS bv w w.heap.size A n c bs) (ls : List Ru) (er : Int) (h : allT rdr 4096 bs = (ls, er)) :
    Calls Try.prog 58 #[.slice A n c, .int .i64 4096, .func (.func 59) #[] #[]] w (fun e w' => ∃ A' m c', e = .returned (.tuple #[.slice A' m c', .int .i64 er]) ∧ OwM Ru.cs 4 w' w.heap.size 47 A' m c' ls ∧ Below w.heap.size w w') := by
  have hlen := hr.len
  have hcap := hr.cap
  have hgt := gtake_any A n c w (by omega) _ bs hr
  have hwhat := gtake_what bs
  by_cases h1 : (gtake bs).2.2 = 0
  rotate_left
  · rw [allT_err h1] at h
    obtain ⟨rfl, rfl⟩ : [] = ls ∧ (gtake bs).2.2 = er := by injection h with a b; exact ⟨a, b⟩
    obtain ⟨t3, ht3⟩ : ∃ t3, gtake bs = t3 := ⟨_, rfl⟩
    rw [ht3] at h1 hgt ⊢
    have he : (t3.2.2 != 0) = true := by simpa using h1
    have Hgt := Lib.hid hgt
    clear h hgt hwhat h1 ht3
    go_enter Try.func58, Try.ntmps58
    go_wp2_with (go_at_call 56; refine (Hgt.out).mono ?_; rintro e w1 ⟨rfl, rfl⟩)
    go_ret2
    exact ⟨none, 0, 0, rfl, OwM.nil_ _ _ _, Below.refl _ _⟩
  · obtain ⟨cnt, used, hg, hc, hu1, hu2, hu3, _⟩ : ∃ cnt used, gtake bs = (cnt, used, 0) ∧ cnt < 268435456 ∧ 1 ≤ used ∧ used ≤ bs.length ∧ used ≤ 4 ∧ True := by
      rcases hwhat with h2 | h2 | ⟨a, b, h2, h3, h4, h5, h6, _⟩
      · rw [h2.1] at h1; cases h1
      · rw [h2] at h1; cases h1
      · exact ⟨a, b, h2, h3, h4, h5, h6, trivial⟩
    rw [hg] at hgt
    have Hgt := Lib.hid hgt
    by_cases hm : 4096 < cnt
    · rw [allT_many h1 (by rw [hg]; exact hm)] at h
      obtain ⟨rfl, rfl⟩ : [] = ls ∧ 12 = er := by injection h with a b; exact ⟨a, b⟩
      have hd : decide ((4096 : Int) < (cnt : Int)) = true := decide_eq_true (by omega)
      clear h hgt hwhat h1 hg
      go_enter Try.func58, Try.ntmps58
      go_wp2_with (go_at_call 56; refine (Hgt.out).mono ?_; rintro e w1 ⟨rfl, rfl⟩)
      go_ret2
      exact ⟨none, 0, 0, rfl, OwM.nil_ _ _ _, Below.refl _ _⟩
    · rw [allT_go h1 (by rw [hg]; exact hm), hg] at h
      have H := Lib.hid h
      have hd : decide ((4096 : Int) < (cnt : Int)) = false := decide_eq_false (by omega)
      have r0 := cut_l hr used (by omega)
      clear h hgt hwhat h1 hg
      go_enter Try.func58, Try.ntmps58
      go_wp2_with (first
        | (go_at_call 56; refine (Hgt.out).mono ?_; rintro e w1 ⟨rfl, rfl⟩)
        | ((with_reducible refine on_slice (.tmp 27) ?_); refine wl_cut_lx rfl _ _ el_u8 rfl hcap _ rfl rfl used (by omega) ?_))
      obtain ⟨b0, hb0⟩ : ∃ b0, bs.drop used = b0 := ⟨_, rfl⟩
      rw [hb0] at r0 H
      clear hb0
      go_loopw [0, 11, 31] (fun b l i wr => TrRel b0 n cnt w b l i wr) (fun _ _ i _ => cnt - (intOf i).toNat)
      case atStart => exact ⟨0, _, _, _, b0, none, 0, 0, [], by omega, rfl, rfl, rfl, r0, by omega, by omega, OwM.nil_ _ _ _, Lib.hid rfl, Below.refl _ _⟩
      case round =>
        obtain ⟨k, Ab, nb, cb, t, A1, m, c1, acc, hk, rfl, rfl, rfl, rb, hnb, hmk, ow, hgo, hb⟩ := hrel
        have hz := hb.size
        have htl := rb.len
        by_cases hlt : k < cnt
        · obtain ⟨x, hx⟩ : ∃ x, rdr t = x := ⟨_, rfl⟩
          have hfx := rdr_fit t
          rw [hx] at hfx
          obtain ⟨r, t2, e2⟩ := x
          have K := Lib.hid (takeRule_any Ab nb cb wr (by omega) t (rb.more hz) r t2 e2 hx)
          by_cases he : e2 = 0
          · subst he
            have hgo2 := hgo.out
            rw [show cnt - k = (cnt - (k + 1)) + 1 by omega, goT_go (by rw [hx]), hx] at hgo2
            have Hgo2 := Lib.hid hgo2
            have hle := rdr_le t
            rw [hx] at hle
            have Hle := Lib.hid hle
            clear hgo2 hgo hx hle hfx
            go_wp2_with (first
              | (go_at_call 59; refine (K.out).mono ?_; rintro e w2 ⟨A2, n2, c2, rfl, -, hrow, hb2⟩; have ow2 := ow.below hb2)
              | ((with_reducible refine on_alloc ?_); refine wl_newBox rfl _ rfl z_rule ?_; intro g3 w3 hg3 hl3 b3 hb3; have ow3 := ow2.below hb3)
              | ((with_reducible refine on_store_at (.tmp 12) ?_); refine wr_store (r := Ru.zero) (s := r) rfl _ (.tmp 12) _ rfl st_rule rfl rfl b3 ?_; intro w4 b4 hg4; have B4 : Below w2.heap.size w2 w4 := hb3.trans (below_of_grown hg4 (fun j e => by injection e with e; omega) hb3.size); have ow4 := ow2.below B4)
              | ((with_reducible refine on_load (.tmp 12) ?_); refine wr_box rfl _ _ rfl st_rule rfl b4 ?_)
              | ((with_reducible refine on_append (.tmp 43) (.tmp 45) ?_); refine wm_append Ru.cs_length rfl (.tmp 43) (.tmp 45) _ rfl el_rule Ru.one rfl (ow4.alloc _) rfl (OwM.lit' (base := w4.heap.size) (e := 47) (xs := [r]) Ru.cs_length w4 _ 1 _ rfl (Nat.le_refl _) (by simp [maxLen]) rfl rfl).rd (by omega) (by omega) (by have := hb2.size; have := B4.size; simp; omega) ?_; intro A8 c8 w8 ow8 hg8 hb8))
            have B24 := hb2.trans (B4.mono hb2.size)
            have B5 := B24.trans ((below_alloc w4 (Nat.le_refl _) (.cells #[.int .u32 r.a, .int .i64 r.n, .int .i64 r.act, .int .i64 r.next] 47)).mono B24.size)
            have B8 := (hb.trans (B5.mono hz)).trans hb8
            have rb8 : RdS bv w8 w.heap.size A2 n2 c2 t2 := hrow w8 w.heap.size (rb.below ((B5.mono hz).trans hb8))
            go_roundw
            case rel => exact ⟨k + 1, A2, n2, c2, t2, A8, _, c8, _, by omega, by go_num, rfl, rfl, rb8, by have := rb8.len; have h5 : t2.length ≤ t.length := Hle.out; omega, by omega, ow8, Hgo2, B8⟩
            case measure => simp [intOf]; omega
          · have hgo2 := hgo.out
            rw [H.out, show cnt - k = (cnt - (k + 1)) + 1 by omega, goT_stop (by rw [hx]; exact he), hx] at hgo2
            obtain ⟨rfl, rfl⟩ : ls = [] ∧ er = e2 := by injection hgo2 with a b; exact ⟨a, b⟩
            have he2 : (er != 0) = true := by simpa using he
            clear hgo2 hgo hx hfx H he
            go_wp2_with (first
              | (go_at_call 59; refine (K.out).mono ?_; rintro e w2 ⟨A2, n2, c2, rfl, -, hrow, hb2⟩)
              | ((with_reducible refine on_alloc ?_); refine wl_newBox rfl _ rfl z_rule ?_; intro g3 w3 hg3 hl3 b3 hb3)
              | ((with_reducible refine on_store_at (.tmp 12) ?_); refine wr_store (r := Ru.zero) (s := r) rfl _ (.tmp 12) _ rfl st_rule rfl rfl b3 ?_; intro w4 b4 hg4; have B4 : Below w2.heap.size w2 w4 := hb3.trans (below_of_grown hg4 (fun j e => by injection e with e; omega) hb3.size)))
            go_ret2
            exact ⟨none, 0, 0, rfl, OwM.nil_ _ _ _, hb.trans ((hb2.trans (B4.mono hb2.size)).mono hz)⟩
        · obtain rfl : k = cnt := by omega
          have hgo2 := hgo.out
          rw [H.out, Nat.sub_self] at hgo2
          by_cases ht : t = []
          · subst ht
            rw [goT_end] at hgo2
            obtain ⟨rfl, rfl⟩ : ls = acc ∧ er = 0 := by injection hgo2 with a b; exact ⟨a, b⟩
            have hnb0 : nb = 0 := by simpa using htl.symm
            subst hnb0
            clear hgo2 hgo H
            go_wp2
            go_ret2
            exact ⟨A1, m, c1, rfl, ow, hb⟩
          · rw [goT_more ht] at hgo2
            obtain ⟨rfl, rfl⟩ : ls = [] ∧ er = 4 := by injection hgo2 with a b; exact ⟨a, b⟩
            have hnb0 : 0 < nb := by rw [← htl]; exact List.length_pos_iff.2 ht
            have hd2 : decide ((0 : Int) < (nb : Int)) = true := decide_eq_true (by omega)
            clear hgo2 hgo H
            go_wp2
            go_ret2
            exact ⟨none, 0, 0, rfl, OwM.nil_ _ _ _, hb⟩
end Go.Proofs.Ytgapcmodhcdebaa
