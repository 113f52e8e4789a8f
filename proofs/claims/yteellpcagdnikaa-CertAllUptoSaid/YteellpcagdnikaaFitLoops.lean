/-
  The walk of ref17.Fit where a loop is made.
-/
import Derived.Test.YteellpcagdnikaaCertFitLaw
import Derived.Test.YteellpcagdnikaaFew
import Derived.Test.YteellpcagdnikaaFit12
namespace Go.Th
open Go.RowKit
set_option linter.unusedVariables false
def tv (b : Bool) : Value := .bool b
section
variable {P : Program} {ops : Array Oper} {rest : List Oper} {o : Oper} {a : Act} {Q : Exit → Act → World → Prop} {w : World}
/-- s[i] of a slice of bools. -/
theorem wl_at_t (hw : Region.wanted o (yielded ops a.tmps) = true) (T : TypeId) (s i : Operand) (ho : o.op = .indexAddr T s i) {E bytes : Nat} {z : Value} (el : El P T E z bytes)
    {A : Option Addr} {n c : Nat} {k : IntKind} {I : Int} (hs : a.eval s = .slice A n c) (hi : a.eval i = .int k I) (h0 : 0 ≤ I) (h1 : I < n)
    {B : Nat} {bs : List Bool} (hr : RdS tv w B A n c bs)
    (h : ∀ (p : Addr) (x : Bool), Hid (bs[I.toNat]? = some x) → w.cell? p = some (.bool x) → wpList P ops Q rest (a.put o.dst (.pointer (some p))) w) :
    wpList P ops Q (o :: rest) a w := by
  have hl : I.toNat < bs.length := by have := hr.len; omega
  obtain ⟨b, off, hA, hb, hc⟩ := hr.rd.at_ I.toNat (tv bs[I.toNat]) (by rw [List.getElem?_map, List.getElem?_eq_getElem hl]; rfl)
  subst hA
  refine wl_run hw (v := .pointer (some ((⟨b, off, none⟩ : Addr).add (I.toNat * 1)))) (w' := w) ?_ ?_
  · simp only [execOp, ho, hs, hi, Sem.run_bind, run_indexAt T el.ht (el.size w) _ n c k I h0 h1, Result.andThen, Sem.run_pure]
  · refine h _ bs[I.toNat] (List.getElem?_eq_getElem hl) ?_
    rw [Nat.mul_one, Addr.add_lit]
    exact hc
/-- s[i] = true -/
theorem wl_set_t (hw : Region.wanted o (yielded ops a.tmps) = true) (T : TypeId) (x y : Operand) (ho : o.op = .store T x y) (hsz : ∀ w, (sizeOf T).run P w = .ok 1 w)
    {g j n c base e : Nat} {xs : List Bool} (hx : a.eval x = .pointer (some ⟨g, j, none⟩)) {z : Bool} (hy : a.eval y = .bool z)
    (hown : OwS tv w base e (some ⟨g, 0, none⟩) n c xs) (hj : j < n)
    (h : ∀ w', OwS tv w' base e (some ⟨g, 0, none⟩) n c (xs.set j z) → w.grownBy w' (some g) → Below base w w' → wpList P ops Q rest (a.put o.dst undef) w') : wpList P ops Q (o :: rest) a w :=
  wl_store1 hw T x y ho hsz hx hy rfl rfl hown.ow hj fun w' h1 h2 h3 => h w' ⟨by rw [List.map_set]; exact h1⟩ h2 h3
end
end Go.Th
namespace Go.Proofs.Yteellpcagdnikaa
open Go.RowKit Go.Th
set_option linter.unusedVariables false
theorem info_bool : (Try.prog.info? 4).map (fun i => (i.zero, i.size, i.bytes)) = some (some (.bool false), 1, 1) := by kernel_rfl
theorem size_bool (w : World) : (sizeOf 4).run Try.prog w = .ok 1 w := by kernel_rfl
theorem el_bool : El Try.prog 50 4 (.bool false) 1 := ⟨Try.underlying50, info_parts info_bool, rfl, size_bool⟩
theorem ne_of_app {A A8 : Option Addr} {g gu S : Nat} (h : A8 = A ∨ A8 = some ⟨S, 0, none⟩) (hr : rowOf A ≠ some g) (hn : ∀ g', A = some ⟨g', 0, none⟩ → g' ≠ gu) (h1 : g < S) (h2 : gu < S) : ∀ g', A8 = some ⟨g', 0, none⟩ → g' ≠ g ∧ g' ≠ gu := by
  intro g' hA
  rcases h with e | e
  · refine ⟨fun e2 => hr ?_, hn g' (by rw [← e, hA])⟩
    rw [← e, hA, e2]
    rfl
  · rw [hA] at e
    injection e with e
    injection e with e
    omega
def FitTRel (g gu : Nat) (nodes m : Nat) (d : Int) (l : List Int) (wb : World) (i : Value) (wr : World) : Prop :=
  ∃ (k : Nat) (o : List Int) (A : Option Addr) (c : Nat), k ≤ m ∧ i = .int .i64 k ∧ Hid ((l.take k).foldl (fstep nodes) [] = o) ∧ Hid (FTr nodes o) ∧ o.length ≤ nodes ∧ Box wr g 29 (Cv 2 none 0 0 d A o.length c) ∧ OwS iv wr (g + 1) 3 A o.length c o ∧ OwS tv wr (g + 1) 4 (some ⟨gu, 0, none⟩) nodes nodes (marks nodes o) ∧ (∀ g', A = some ⟨g', 0, none⟩ → g' ≠ gu) ∧ Below g wb wr
set_option maxRecDepth 100000 in
set_option maxHeartbeats 4000000 in
theorem rcfit_loops (v : Int) (hv : bits .and .i64 v 1 = 0) (Ap : Option Addr) (np cp : Nat) (d : Int) (At : Option Addr) (nt ct : Nat) (nodes : Nat) (hno : 1 ≤ nodes ∧ nodes ≤ 1000) (w : World) (hnt : nt ≤ 9223372036854775807) (tr : List Int) (B : Nat) (ht : RdS iv w B At nt ct tr) :
    Calls Try.prog 13 #[.agg #[.int .i64 v, .slice Ap np cp, .int .u32 d, .slice At nt ct], .int .i64 nodes] w (fun e w' => ∃ A' c', e = .returned (.agg #[.int .i64 2, .slice none 0 0, .int .u32 d, .slice A' (ftrace nodes tr).length c']) ∧ OwS iv w' w.heap.size 3 A' (ftrace nodes tr).length c' (ftrace nodes tr) ∧ Below w.heap.size w w') := by
  have hv1 : (bits .and .i64 v 1 == 0) = true := by rw [hv]; rfl
  have Hlen := Lib.hid ht.len
  obtain ⟨hno1, hno2⟩ := hno
  obtain ⟨V, hV⟩ : ∃ V, bits .and .i64 v 1 = V := ⟨_, rfl⟩
  have bx := (Box.new w (Cv v Ap np cp d At nt ct) 29).alloc (.cells (Cv 0 none 0 0 0 none 0 0) 29)
  have b2 := Box.new (w.alloc (.cells (Cv v Ap np cp d At nt ct) 29)) (Cv 0 none 0 0 0 none 0 0) 29
  rw [heap_size_alloc] at b2
  have k1 : Below w.heap.size w _ := (below_alloc w (Nat.le_refl _) (.cells (Cv v Ap np cp d At nt ct) 29)).alloc (by simp) (.cells (Cv 0 none 0 0 0 none 0 0) 29)
  have hs2 : (((w.alloc (.cells (Cv v Ap np cp d At nt ct) 29)).alloc (.cells (Cv 0 none 0 0 0 none 0 0) 29))).heap.size = w.heap.size + 2 := by simp
  have HV := Lib.hid hv
  clear hv hV
  go_enter Try.func13, Try.ntmps13
  go_upto_region 2 with fail
  obtain ⟨w1, hw1⟩ : ∃ W, ((w.alloc (.cells (Cv v Ap np cp d At nt ct) 29)).alloc (.cells (Cv 0 none 0 0 0 none 0 0) 29)) = W := ⟨_, rfl⟩
  have hg : (w.alloc (.cells #[.int .i64 v, .slice Ap np cp, .int .u32 d, .slice At nt ct] 29)).alloc (.cells #[.int .i64 0, .slice none 0 0, .int .u32 0, .slice none 0 0] 29) = w1 := hw1
  have ht0 := ht.heap
  rw [hw1] at bx b2 k1 hs2
  first | rw [hg] | rw [hw1]
  clear hg hw1 ht
  have y2 : w1.cell? ⟨w.heap.size, 2, none⟩ = some (.int .u32 d) := bx.cell 2
  go_wp2_with (first
    | ((with_reducible refine on_alloc ?_); refine wl_newBox rfl _ rfl z_cert ?_; intro g w3 hg3 hl3 bg hb3)
    | ((with_reducible refine on_store_at (.tmp 5) ?_); refine wb_store (cs := Cv 0 none 0 0 0 none 0 0) (cs' := Cv 2 none 0 0 d none 0 0) rfl _ (.tmp 5) _ rfl st_cert rfl rfl bg rfl rfl (by simp [Cv, Value.oneCell']) ?_; intro w4 bx4 hg4; have B4 : Below w1.heap.size w1 w4 := hb3.trans (below_of_grown hg4 (fun j e => by injection e with e; omega) hb3.size))
    | ((with_reducible refine on_makeL (.tmp 28) ?_); refine wl_makeS (base := g + 1) rfl _ _ _ rfl el_bool (f := tv) false rfl nodes rfl rfl rfl rfl (by omega) (by omega) (by have := bx4.lt; omega) ?_; intro gu w5 hgu ow5 hb5))
  have bx5 := bx4.step hb5
  have B5 := B4.trans (hb5.mono B4.size)
  have gl := bx4.lt
  have hgg : g < gu := Nat.lt_of_lt_of_le gl hgu
  have gul : gu < w5.heap.size := ow5.lt.2
  rw [← marks_nil] at ow5
  have bxa := bx.below B5 (by omega)
  have b2a := b2.below B5 (by omega)
  have k5 := k1.trans (B5.mono (by omega))
  clear hb5 bx4 B4 hg4 bg hb3 y2 bx b2 k1 B5 hl3 hgu gl
  clear w4
  clear w3
  obtain ⟨m, hm, hl⟩ : ∃ m, (ftin tr).length = m ∧ ((nt = 0 ∧ m = 1 ∧ Hid (ftin tr = [0])) ∨ (0 < nt ∧ m = nt ∧ Hid (ftin tr = tr))) := by
    refine ⟨_, rfl, ?_⟩
    rcases Nat.eq_zero_or_pos nt with h | h
    · have : tr = [] := List.eq_nil_of_length_eq_zero (by rw [Hlen.out]; exact h)
      subst this
      exact .inl ⟨h, rfl, Lib.hid rfl⟩
    · have : tr ≠ [] := fun e => by subst e; have := Hlen.out; simp at this; omega
      have e : ftin tr = tr := if_neg this
      exact .inr ⟨h, by rw [e]; exact Hlen.out, Lib.hid e⟩
  have Hm := Lib.hid hm
  clear hm
  go_loopw [7] (fun i wr => FitTRel g gu nodes m d (ftin tr) w5 i wr) (fun i _ => m - (intOf i).toNat)
  case atStart => exact ⟨0, [], none, 0, by omega, rfl, Lib.hid rfl, Lib.hid (FTr.nil _), by simp, bx5, OwS.nil_ _ _ _, ow5, (fun g' h => by cases h), Below.refl _ _⟩
  case round =>
    obtain ⟨k, out, A, c, hk, rfl, hf, hF, hol, bxr, ow, owu, hne, hb⟩ := hrel
    have bxar := bxa.below hb (by omega)
    have b2r := b2a.below hb (by omega)
    have htr := ht0.below (k5.trans (hb.mono (by omega)))
    have c3 : wr.cell? ⟨w.heap.size, 3, none⟩ = some (.slice At nt ct) := bxar.cell 3
    have d3 : wr.cell? ⟨g, 3, none⟩ = some (.slice A out.length c) := bxr.cell 3
    have zr := bxr.lt
    by_cases hlt : k < m
    · obtain ⟨x, hx⟩ : ∃ x, (ftin tr)[k]? = some x := ⟨(ftin tr)[k]'(by have := Hm.out; omega), List.getElem?_eq_getElem _⟩
      have hst : ((ftin tr).take (k + 1)).foldl (fstep nodes) [] = fstep nodes out x := by rw [List.take_add_one, hx, List.foldl_append, hf.out]; rfl
      have Hst := Lib.hid hst
      have hF' := Lib.hid (hF.out.step (by omega) x)
      obtain ⟨V, hV⟩ : ∃ V : Nat, x % (nodes : Int) = V := ⟨(x % (nodes : Int)).toNat, by have := Int.emod_nonneg x (show (nodes : Int) ≠ 0 by omega); omega⟩
      have hVn : V < nodes := by have := Int.emod_lt_of_pos x (show (0 : Int) < nodes by omega); omega
      have HV := Lib.hid hV
      have Hx := Lib.hid hx
      clear hst hx hV
      have hlim := tmod_lim x nodes (by omega)
      have hT : (x.tmod nodes + nodes) % nodes = (V : Int) := by rw [← Int.tmod_eq_emod_of_nonneg (by omega), tmod_fit x nodes (by omega)]; exact HV.out
      have HT := Lib.hid hT
      clear hT
      have hfs : fstep nodes out x = if (V : Int) ∈ out ∨ (out ≠ [] ∧ (V : Int) ≤ trfirst out) then out else out ++ [(V : Int)] := by unfold fstep; rw [HV.out]
      have hnode : out = [] ∨ ∃ y r, out = y :: r := by cases out with
        | nil => exact .inl rfl
        | cons y r => exact .inr ⟨y, r, rfl⟩
      have hways : (decide ((V : Int) ∈ out) = true ∧ Hid (fstep nodes out x = out)) ∨ (decide ((V : Int) ∈ out) = false ∧ ((out.length : Int) == 0) = true ∧ Hid (fstep nodes out x = out ++ [(V : Int)])) ∨
          (∃ y, decide ((V : Int) ∈ out) = false ∧ ((out.length : Int) == 0) = false ∧ 0 < out.length ∧ Hid (out[0]? = some y) ∧ ((decide ((V : Int) > y) = true ∧ Hid (fstep nodes out x = out ++ [(V : Int)])) ∨ (decide ((V : Int) > y) = false ∧ Hid (fstep nodes out x = out)))) := by
        rw [hfs]
        by_cases h1 : (V : Int) ∈ out
        · exact .inl ⟨decide_eq_true h1, Lib.hid (if_pos (.inl h1))⟩
        · rcases hnode with rfl | ⟨y, r, rfl⟩
          · exact .inr (.inl ⟨decide_eq_false h1, rfl, Lib.hid (if_neg (by simp))⟩)
          · refine .inr (.inr ⟨y, decide_eq_false h1, by simp; omega, by simp, Lib.hid rfl, ?_⟩)
            by_cases h2 : (V : Int) > y
            · refine .inl ⟨decide_eq_true h2, Lib.hid (if_neg ?_)⟩
              rintro (h | ⟨_, h⟩)
              · exact h1 h
              · have : (V : Int) ≤ y := h
                omega
            · exact .inr ⟨decide_eq_false h2, Lib.hid (if_pos (.inr ⟨by simp, by show (V : Int) ≤ y; omega⟩))⟩
      have hmk := Lib.hid (marks_get (out := out) hVn)
      have hrow : rowOf A ≠ some g := fun e => by
        rcases ow.ow.form with ⟨e2, _⟩ | ⟨g', e2, hb', _⟩
        · subst e2; simp [rowOf] at e
        · subst e2; simp [rowOf] at e; omega
      have hrowu : rowOf A ≠ some gu := fun e => by
        rcases ow.ow.form with ⟨e2, _⟩ | ⟨g', e2, hb', _⟩
        · subst e2; simp [rowOf] at e
        · subst e2; simp [rowOf] at e; exact hne _ rfl e
      have hgulr := owu.lt.2
      have Hne := Lib.hid hne
      have Hrow := Lib.hid hrow
      have Hrowu := Lib.hid hrowu
      clear hne hrow hrowu hnode hfs
      obtain ⟨bm, hbm⟩ : ∃ b, decide ((V : Int) ∈ out) = b := ⟨_, rfl⟩
      rw [hbm] at hways hmk
      clear hbm
      rcases hl with ⟨rfl, rfl, h3⟩ | ⟨h1, rfl, h3⟩
      · obtain rfl : k = 0 := by omega
        obtain rfl : x = 0 := by have := Hx.out; rw [h3.out] at this; simpa using this.symm
        obtain rfl : out = [] := hf.out.symm
        have hN : Hid (fstep nodes [] 0 = [0]) := Lib.hid (by unfold fstep; simp)
        have hmk0 := Lib.hid (marks_get (out := []) (show 0 < nodes by omega))
        clear hways hmk hf
        go_wp2_with (first
          | ((with_reducible refine on_index (.tmp 57) ?_); refine wl_at_t rfl _ (.tmp 57) _ rfl el_bool rfl rfl (by omega) (by omega) owu.rd ?_; intro p2 x2 hx2 hc2; have hxx2 := get_eq hmk0.out hx2.out (by omega); rw [← hxx2] at hc2; simp only [List.not_mem_nil, decide_false] at hc2)
          | ((with_reducible refine on_append (.tmp 77) (.tmp 79) ?_); refine wl_appendA rfl (.tmp 77) (.tmp 79) _ rfl el_int (f := iv) (fun _ => rfl) rfl (ow.alloc (.cells #[.int .i64 0] 3)) rfl (OwS.lit (base := wr.heap.size) (e := 3) (xs := [(0 : Int)]) wr #[.int .i64 0] 1 (Nat.le_refl _) (by simp [maxLen]) rfl rfl).rd (by simp) (by omega) (by simp; omega) ?_; intro A8 c8 w8 ow8 hg8 hb8 hA8; have bx8 := (bxr.alloc (.cells #[.int .i64 0] 3)).grown hg8 Hrow.out; have d8 : w8.cell? ⟨g, 3, none⟩ = some (.slice A 0 c) := bx8.cell 3; have f8 := bx8.frozen 3; have B8 := (below_alloc wr (by omega) (.cells #[.int .i64 0] 3)).trans (hb8.mono (show g ≤ g + 1 by omega)); have bS8 := bx8.setCell 3 (.slice A8 (0 + 1) c8); have hne8 := ne_of_app hA8 Hrow.out Hne.out (show g < (wr.alloc (.cells #[.int .i64 0] 3)).heap.size by simp; omega) (show gu < (wr.alloc (.cells #[.int .i64 0] 3)).heap.size by simp; omega); have ow9 := ow8.grown bS8.2 (fun g' hA e => by have := hne8 g' hA; injection e with e; omega); have ou9 := ((owu.alloc (.cells #[.int .i64 0] 3)).grown hg8 (fun g' hA e => Hrowu.out (by rw [e]; injection hA with hA; injection hA with hA; rw [hA]))).grown bS8.2 (fun g' hA e => by injection e with e; injection hA with hA; injection hA with hA; omega); have B9 := B8.trans (below_of_grown bS8.2 (fun j e => by injection e with e; omega) (by have := B8.size; omega)))
          | ((with_reducible refine on_index (.tmp 82) ?_); refine wl_placeS rfl _ (.tmp 82) _ rfl el_bool rfl rfl 0 (by omega) ?_)
          | ((with_reducible refine on_store_at (.tmp 84) ?_); refine wl_set_t rfl _ (.tmp 84) _ rfl size_bool (g := gu) (j := 0) rfl (z := true) rfl ou9 (by omega) ?_; intro w10 ou10 hg10 hb10))
        go_roundw
        case rel =>
          have hF2 := hF'
          rw [hN.out] at hF2
          rw [marks_set (by omega)] at ou10
          exact ⟨1, [0], A8, c8, by omega, by go_num, by rw [Hst.out]; exact hN, hF2, by simp; omega, bS8.1.grown hg10 (fun e => by injection e with e; omega), ow9.grown hg10 (fun g' hA e => (hne8 g' hA).2 (by injection e with e; omega)), ou10, fun g' hA => (hne8 g' hA).2, hb.trans (B9.trans (below_of_grown hg10 (fun j e => by injection e with e; omega) (by have := B9.size; omega)))⟩
        case measure => simp [intOf]
      · have hxt : tr[k]? = some x := by have := Hx.out; rwa [h3.out] at this
        have Hxt := Lib.hid hxt
        clear hxt
        go_upto_region 10 with ((with_reducible refine on_index (.tmp 47) ?_); refine wl_at_i rfl _ (.tmp 47) _ rfl el_int rfl rfl (by omega) (by omega) htr ?_; intro p1 x1 hx1 hc1; have hxx := get_eq Hxt.out hx1.out (by omega); subst hxx)
        rw [HT.out]
        rcases hways with ⟨rfl, hN⟩ | ⟨rfl, h0, hN⟩ | ⟨y, rfl, h0, h0', hy, ⟨hc, hN⟩ | ⟨hc, hN⟩⟩
        · go_wp2_with ((with_reducible refine on_index (.tmp 57) ?_); refine wl_at_t rfl _ (.tmp 57) _ rfl el_bool rfl rfl (by omega) (by omega) owu.rd ?_; intro p2 x2 hx2 hc2; have hxx2 := get_eq hmk.out hx2.out (by omega); subst hxx2)
          go_roundw
          case rel => exact ⟨k + 1, out, A, c, by omega, by go_num, by rw [Hst.out]; exact hN, hF, hol, bxr, ow, owu, Hne.out, hb⟩
          case measure => simp [intOf]; omega
        · go_wp2_with (first
            | ((with_reducible refine on_index (.tmp 57) ?_); refine wl_at_t rfl _ (.tmp 57) _ rfl el_bool rfl rfl (by omega) (by omega) owu.rd ?_; intro p2 x2 hx2 hc2; have hxx2 := get_eq hmk.out hx2.out (by omega); subst hxx2)
            | ((with_reducible refine on_index (.tmp 70) ?_); refine wl_at_i rfl _ (.tmp 70) _ rfl el_int rfl rfl (by omega) (by omega) ow.rd ?_; intro p3 x3 hx3 hc3; have hxx3 := get_eq hy.out hx3.out (by omega); subst hxx3)
            | ((with_reducible refine on_append (.tmp 77) (.tmp 79) ?_); refine wl_appendA rfl (.tmp 77) (.tmp 79) _ rfl el_int (f := iv) (fun _ => rfl) rfl (ow.alloc (.cells #[.int .i64 V] 3)) rfl (OwS.lit (base := wr.heap.size) (e := 3) (xs := [(V : Int)]) wr #[.int .i64 V] 1 (Nat.le_refl _) (by simp [maxLen]) rfl rfl).rd (by omega) (by omega) (by simp; omega) ?_; intro A8 c8 w8 ow8 hg8 hb8 hA8; have bx8 := (bxr.alloc (.cells #[.int .i64 V] 3)).grown hg8 Hrow.out; have d8 : w8.cell? ⟨g, 3, none⟩ = some (.slice A out.length c) := bx8.cell 3; have f8 := bx8.frozen 3; have B8 := (below_alloc wr (by omega) (.cells #[.int .i64 V] 3)).trans (hb8.mono (show g ≤ g + 1 by omega)); have bS8 := bx8.setCell 3 (.slice A8 (out.length + 1) c8); have hne8 := ne_of_app hA8 Hrow.out Hne.out (show g < (wr.alloc (.cells #[.int .i64 V] 3)).heap.size by simp; omega) (show gu < (wr.alloc (.cells #[.int .i64 V] 3)).heap.size by simp; omega); have ow9 := ow8.grown bS8.2 (fun g' hA e => by have := hne8 g' hA; injection e with e; omega); have ou9 := ((owu.alloc (.cells #[.int .i64 V] 3)).grown hg8 (fun g' hA e => Hrowu.out (by rw [e]; injection hA with hA; injection hA with hA; rw [hA]))).grown bS8.2 (fun g' hA e => by injection e with e; injection hA with hA; injection hA with hA; omega); have B9 := B8.trans (below_of_grown bS8.2 (fun j e => by injection e with e; omega) (by have := B8.size; omega)))
            | ((with_reducible refine on_index (.tmp 82) ?_); refine wl_placeS rfl _ (.tmp 82) _ rfl el_bool rfl rfl V (by omega) ?_)
            | ((with_reducible refine on_store_at (.tmp 84) ?_); refine wl_set_t rfl _ (.tmp 84) _ rfl size_bool (g := gu) (j := V) rfl (z := true) rfl ou9 (by omega) ?_; intro w10 ou10 hg10 hb10))
          go_roundw
          case rel =>
            have hH := hN.out
            have hlen : (fstep nodes out x).length = out.length + 1 := by rw [hH]; simp
            have hF2 := hF'
            rw [hH] at hF2
            have hl2 := hF2.out.len
            rw [marks_set hVn] at ou10
            have e2 : (out ++ [(V : Int)]).length = out.length + 1 := by simp
            exact ⟨k + 1, out ++ [(V : Int)], A8, c8, by omega, by go_num, by rw [Hst.out]; exact hN, hF2, by omega, by rw [e2]; exact bS8.1.grown hg10 (fun e => by injection e with e; omega), by rw [e2]; exact ow9.grown hg10 (fun g' hA e => (hne8 g' hA).2 (by injection e with e; omega)), ou10, fun g' hA => (hne8 g' hA).2, hb.trans (B9.trans (below_of_grown hg10 (fun j e => by injection e with e; omega) (by have := B9.size; omega)))⟩
          case measure => simp [intOf]; omega
        · go_wp2_with (first
            | ((with_reducible refine on_index (.tmp 57) ?_); refine wl_at_t rfl _ (.tmp 57) _ rfl el_bool rfl rfl (by omega) (by omega) owu.rd ?_; intro p2 x2 hx2 hc2; have hxx2 := get_eq hmk.out hx2.out (by omega); subst hxx2)
            | ((with_reducible refine on_index (.tmp 70) ?_); refine wl_at_i rfl _ (.tmp 70) _ rfl el_int rfl rfl (by omega) (by omega) ow.rd ?_; intro p3 x3 hx3 hc3; have hxx3 := get_eq hy.out hx3.out (by omega); subst hxx3)
            | ((with_reducible refine on_append (.tmp 77) (.tmp 79) ?_); refine wl_appendA rfl (.tmp 77) (.tmp 79) _ rfl el_int (f := iv) (fun _ => rfl) rfl (ow.alloc (.cells #[.int .i64 V] 3)) rfl (OwS.lit (base := wr.heap.size) (e := 3) (xs := [(V : Int)]) wr #[.int .i64 V] 1 (Nat.le_refl _) (by simp [maxLen]) rfl rfl).rd (by omega) (by omega) (by simp; omega) ?_; intro A8 c8 w8 ow8 hg8 hb8 hA8; have bx8 := (bxr.alloc (.cells #[.int .i64 V] 3)).grown hg8 Hrow.out; have d8 : w8.cell? ⟨g, 3, none⟩ = some (.slice A out.length c) := bx8.cell 3; have f8 := bx8.frozen 3; have B8 := (below_alloc wr (by omega) (.cells #[.int .i64 V] 3)).trans (hb8.mono (show g ≤ g + 1 by omega)); have bS8 := bx8.setCell 3 (.slice A8 (out.length + 1) c8); have hne8 := ne_of_app hA8 Hrow.out Hne.out (show g < (wr.alloc (.cells #[.int .i64 V] 3)).heap.size by simp; omega) (show gu < (wr.alloc (.cells #[.int .i64 V] 3)).heap.size by simp; omega); have ow9 := ow8.grown bS8.2 (fun g' hA e => by have := hne8 g' hA; injection e with e; omega); have ou9 := ((owu.alloc (.cells #[.int .i64 V] 3)).grown hg8 (fun g' hA e => Hrowu.out (by rw [e]; injection hA with hA; injection hA with hA; rw [hA]))).grown bS8.2 (fun g' hA e => by injection e with e; injection hA with hA; injection hA with hA; omega); have B9 := B8.trans (below_of_grown bS8.2 (fun j e => by injection e with e; omega) (by have := B8.size; omega)))
            | ((with_reducible refine on_index (.tmp 82) ?_); refine wl_placeS rfl _ (.tmp 82) _ rfl el_bool rfl rfl V (by omega) ?_)
            | ((with_reducible refine on_store_at (.tmp 84) ?_); refine wl_set_t rfl _ (.tmp 84) _ rfl size_bool (g := gu) (j := V) rfl (z := true) rfl ou9 (by omega) ?_; intro w10 ou10 hg10 hb10))
          go_roundw
          case rel =>
            have hH := hN.out
            have hlen : (fstep nodes out x).length = out.length + 1 := by rw [hH]; simp
            have hF2 := hF'
            rw [hH] at hF2
            have hl2 := hF2.out.len
            rw [marks_set hVn] at ou10
            have e2 : (out ++ [(V : Int)]).length = out.length + 1 := by simp
            exact ⟨k + 1, out ++ [(V : Int)], A8, c8, by omega, by go_num, by rw [Hst.out]; exact hN, hF2, by omega, by rw [e2]; exact bS8.1.grown hg10 (fun e => by injection e with e; omega), by rw [e2]; exact ow9.grown hg10 (fun g' hA e => (hne8 g' hA).2 (by injection e with e; omega)), ou10, fun g' hA => (hne8 g' hA).2, hb.trans (B9.trans (below_of_grown hg10 (fun j e => by injection e with e; omega) (by have := B9.size; omega)))⟩
          case measure => simp [intOf]; omega
        · go_wp2_with (first
            | ((with_reducible refine on_index (.tmp 57) ?_); refine wl_at_t rfl _ (.tmp 57) _ rfl el_bool rfl rfl (by omega) (by omega) owu.rd ?_; intro p2 x2 hx2 hc2; have hxx2 := get_eq hmk.out hx2.out (by omega); subst hxx2)
            | ((with_reducible refine on_index (.tmp 70) ?_); refine wl_at_i rfl _ (.tmp 70) _ rfl el_int rfl rfl (by omega) (by omega) ow.rd ?_; intro p3 x3 hx3 hc3; have hxx3 := get_eq hy.out hx3.out (by omega); subst hxx3))
          go_roundw
          case rel => exact ⟨k + 1, out, A, c, by omega, by go_num, by rw [Hst.out]; exact hN, hF, hol, bxr, ow, owu, Hne.out, hb⟩
          case measure => simp [intOf]; omega
    · have hkm : k = m := by omega
      subst hkm
      have hfin : ftrace nodes tr = out := by
        unfold ftrace ftr
        rw [← hf.out, List.take_of_length_le (by have := Hm.out; omega)]
      have Hfin := Lib.hid hfin
      have hend : nt ≤ k ∧ 0 < k := by omega
      obtain ⟨he1, he2⟩ := hend
      have hk0 : ((k : Int) == 0) = false := by simp; omega
      have Hne := Lib.hid hne
      clear hfin hf hl hne
      go_wp2_with (first
        | ((with_reducible refine on_load (.tmp 5) ?_); refine wcv_box rfl (.tmp 5) rfl rfl bxr ?_)
        | ((with_reducible refine on_store_at (.tmp 4) ?_); refine wb_store (cs := Cv 0 none 0 0 0 none 0 0) (cs' := Cv 2 none 0 0 d A out.length c) rfl _ (.tmp 4) _ rfl st_cert rfl rfl b2r rfl rfl (by simp [Cv, Value.oneCell']) ?_; intro w9 b9 hg9))
      refine bodyPost_ret (v := .agg #[.int .i64 2, .slice none 0 0, .int .u32 d, .slice A out.length c]) ?_ rfl ⟨A, c, by rw [Hfin.out], ?_, ?_⟩
      · exact results_cell_row rfl _ w9 (w.heap.size + 1) 29 _ (0, 0) _ rfl b9.at_ Try.underlying29 rfl st_cert.size
      · rw [Hfin.out]
        exact (ow.grown hg9 (fun g' hA e => by injection e with e; subst hA; have := ow.lt; omega)).base_le (by omega)
      · exact (k5.trans (hb.mono (by omega))).trans (below_of_grown hg9 (fun j e => by injection e with e; omega) (by have := b2r.lt; omega))
end Go.Proofs.Yteellpcagdnikaa
