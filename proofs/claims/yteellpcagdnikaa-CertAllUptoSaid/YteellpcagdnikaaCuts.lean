/-
  The walks of cuts.Ends and of the reference's Ends, where there is such an interval.
-/
import Derived.Test.YteellpcagdnikaaCertRefMay
namespace Go.Th
open Go.RowKit
/-- The i-th interval's upper end. -/
def EndOf (l : List Int) (n i : Nat) (h : Int) : Prop := (i + 1 = n ∧ h = 4294967295) ∨ (i + 1 < n ∧ ∃ y, l[i + 1]? = some y ∧ 1 ≤ y ∧ y ≤ 4294967295 ∧ h = y - 1)
section
variable {P : Program} {ops : Array Oper} {rest : List Oper} {o : Oper} {a : Act} {C : World → Prop} {Q : Act → Prop}
theorem wq_at_u (hw : Region.wanted o (yielded ops a.tmps) = true) (T : TypeId) (s i : Operand) (ho : o.op = .indexAddr T s i) {E bytes : Nat} {z : Value} (el : El P T E z bytes)
    {A : Option Addr} {n c : Nat} {k : IntKind} {I : Int} (hs : a.eval s = .slice A n c) (hi : a.eval i = .int k I) (h0 : 0 ≤ I) (h1 : I < n) {w0 : World} (hC0 : C w0)
    {B : Nat} {zs : List Int} (hr : RdC uv C B A n c zs)
    (h : ∀ (p : Addr) (x : Int), Hid (zs[I.toNat]? = some x) → (∀ w, C w → w.cell? p = some (.int .u32 x)) → wpQuiet P ops C Q rest (a.put o.dst (.pointer (some p)))) :
    wpQuiet P ops C Q (o :: rest) a := by
  have hl : I.toNat < zs.length := by have := (hr.rd w0 hC0).len; omega
  obtain ⟨b, off, hA, hb, hc⟩ := (hr.rd w0 hC0).rd.at_ I.toNat (uv zs[I.toNat]) (by rw [List.getElem?_map, List.getElem?_eq_getElem hl]; rfl)
  subst hA
  refine wq_run hw (v := .pointer (some ((⟨b, off, none⟩ : Addr).add (I.toNat * 1)))) (fun w hC => ?_) ?_
  · simp only [execOp, ho, hs, hi, Sem.run_bind, run_indexAt T el.ht (el.size w) _ n c k I h0 h1, Result.andThen, Sem.run_pure]
  · refine h _ zs[I.toNat] (List.getElem?_eq_getElem hl) fun w hC => ?_
    obtain ⟨b', off', hA', _, hc'⟩ := (hr.rd w hC).rd.at_ I.toNat (uv zs[I.toNat]) (by rw [List.getElem?_map, List.getElem?_eq_getElem hl]; rfl)
    injection hA' with hA'
    injection hA' with e1 e2
    subst e1 e2
    rw [Nat.mul_one, Addr.add_lit]
    exact hc'
end
end Go.Th
namespace Go.Proofs.Yteellpcagdnikaa
open Go.RowKit Go.Th
set_option linter.unusedVariables false
set_option maxRecDepth 100000 in
theorem cends_any (A : Option Addr) (n c : Nat) (l : List Int) (w : World) (hm : n ≤ 9223372036854775807) (B : Nat) (hr : RdS uv w B A n c l) (i : Nat) (hi : i < n) (x h : Int) (hx : Hid (l[i]? = some x)) (hh : EndOf l n i h) :
    Calls Try.prog 15 #[.slice A n c, .int .i64 i] w (RetB (.tuple #[.int .u32 x, .int .u32 h, .bool true]) w) := by
  rcases hh with ⟨h1, rfl⟩ | ⟨h1, y, h2, h3, h4, rfl⟩
  · go_enter Try.func15, Try.ntmps15
    go_wp2_with ((with_reducible refine on_index (.tmp 26) ?_); refine wl_at_u rfl _ (.tmp 26) _ rfl el_u32 rfl rfl (by omega) (by omega) hr ?_; intro p x' hx' hc1; have hxx := get_eq hx.out hx'.out (by omega); subst hxx)
    (try simp only [Exit.inBlock, Exit.then])
    refine bodyPost_ret (v := .tuple #[.int .u32 x, .int .u32 (4294967295), .bool true]) (by simp [results, Try.results15, go_sem]) rfl ⟨rfl, Below.refl _ _⟩
  · have Hy := Lib.hid h2
    clear h2
    go_enter Try.func15, Try.ntmps15
    go_wp2_with (first
      | ((with_reducible refine on_index (.tmp 26) ?_); refine wl_at_u rfl _ (.tmp 26) _ rfl el_u32 rfl rfl (by omega) (by omega) hr ?_; intro p x' hx' hc1; have hxx := get_eq hx.out hx'.out (by omega); subst hxx)
      | ((with_reducible refine on_index (.tmp 20) ?_); refine wl_at_u rfl _ (.tmp 20) _ rfl el_u32 rfl rfl (by omega) (by omega) hr ?_; intro p2 y' hy' hc2; have hyy := get_eq Hy.out hy'.out (by omega); subst hyy))
    (try simp only [Exit.inBlock, Exit.then])
    refine bodyPost_ret (v := .tuple #[.int .u32 x, .int .u32 (y - 1), .bool true]) (by simp [results, Try.results15, go_sem]) rfl ⟨rfl, Below.refl _ _⟩
set_option maxRecDepth 100000 in
theorem rcends_any (A : Option Addr) (n c : Nat) (l : List Int) (w : World) (hm : n ≤ 9223372036854775807) (B : Nat) (hr : RdS uv w B A n c l) (i : Nat) (hi : i < n) (x h : Int) (hx : Hid (l[i]? = some x)) (hh : EndOf l n i h) :
    Calls Try.prog 24 #[.slice A n c, .int .i64 i] w (RetB (.tuple #[.int .u32 x, .int .u32 h, .bool true]) w) := by
  rcases hh with ⟨h1, rfl⟩ | ⟨h1, y, h2, h3, h4, rfl⟩
  · have n1 : ((i : Int) == (n : Int) - 1) = true := by simp; omega
    go_enter Try.func24, Try.ntmps24
    go_wp2_with ((with_reducible refine on_index (.tmp 20) ?_); refine wl_at_u rfl _ (.tmp 20) _ rfl el_u32 rfl rfl (by omega) (by omega) hr ?_; intro p x' hx' hc1; have hxx := get_eq hx.out hx'.out (by omega); subst hxx)
    (try simp only [Exit.inBlock, Exit.then])
    refine bodyPost_ret (v := .tuple #[.int .u32 x, .int .u32 (4294967295), .bool true]) (by simp [results, Try.results24, go_sem]) rfl ⟨rfl, Below.refl _ _⟩
  · have Hy := Lib.hid h2
    have n1 : ((i : Int) == (n : Int) - 1) = false := by simp; omega
    have x1 := hr.reach
    clear h2
    go_enter Try.func24, Try.ntmps24
    go_upto_region 5 with fail
    refine wp_region_reach (by kernel_rfl) (by kernel_rfl) ?_
    repeat (first | go_big_quiet_skip | ((with_reducible refine onq_index (.tmp 24) ?_); refine wq_at_u rfl _ (.tmp 24) _ rfl el_u32 rfl rfl (by omega) (by omega) (Th.Reach.refl _ _) x1 ?_; intro p1 z1 hz1 hc1; have hxx := get_eq hx.out hz1.out (by omega); subst hxx; have f1 : ∀ q : Step _ _, q.w.cell? p1 = some (.int .u32 x) := fun q => hc1 q.w ⟨q, rfl⟩) | ((with_reducible refine onq_index (.tmp 28) ?_); refine wq_at_u rfl _ (.tmp 28) _ rfl el_u32 rfl rfl (by omega) (by omega) (Th.Reach.refl _ _) x1 ?_; intro p2 z2 hz2 hc2; have hxx := get_eq Hy.out hz2.out (by omega); subst hxx; have f2 : ∀ q : Step _ _, q.w.cell? p2 = some (.int .u32 y) := fun q => hc2 q.w ⟨q, rfl⟩) | go_big_quiet_step (fail) | quiet_step (fail))
    refine wpQuiet_nil ?_
    rintro _ ⟨q, rfl⟩
    have hqw5 := q.h
    obtain ⟨w5, hw5'⟩ : ∃ W, q.w = W := ⟨_, rfl⟩
    rw [hw5'] at hqw5 ⊢
    clear hw5' q
    go_wp2
    (try simp only [Exit.inBlock, Exit.then])
    refine bodyPost_ret (v := .tuple #[.int .u32 x, .int .u32 (y - 1), .bool true]) (by simp [results, Try.results24, go_sem]) rfl ⟨rfl, hqw5⟩
end Go.Proofs.Yteellpcagdnikaa
