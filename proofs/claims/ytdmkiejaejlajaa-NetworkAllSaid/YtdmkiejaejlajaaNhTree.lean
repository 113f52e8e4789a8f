/-
  A drawn region without calls, in a fenced walk: walked by a plan, as the plain one.
-/
import Derived.Test.YtdmkiejaejlajaaNhWalk
namespace Go.Th
open Go.RowKit
set_option linter.unusedVariables false
def simpleB (o : Oper) : Bool := calm o || (match o.op with | .store .. => true | _ => false)
theorem simple_run {o : Oper} (h : simpleB o = true) {P : Program} {ρ : Operand → Value} {w w' : World} {n : Next} (hr : (execOp ρ o).run P w = .ok n w') : (∃ v, n = .value v) ∨ n = .skip := by
  unfold simpleB at h
  rcases Bool.or_eq_true _ _ ▸ h with h | h
  · exact calm_run h hr
  · obtain ⟨d, op, ty, pos, af, g⟩ := o
    cases op <;> simp at h
    refine .inr ?_
    simp only [execOp, Sem.run_bind] at hr
    revert hr
    generalize Sem.run P _ w = r
    intro hr
    cases r with
    | ok u w1 => simp only [Result.andThen, Sem.run_pure] at hr; injection hr with hr _; exact hr.symm
    | halt _ _ => cases hr
theorem simple_defer {o : Oper} (h : simpleB o = true) : ∀ c, o.op ≠ .defer c := by
  intro c hc
  unfold simpleB calm at h
  rw [hc] at h
  simp at h
section
variable {P : Program} {md : Region.Mode} {ops : Array Oper} {G : World → World → Prop} {F : Fence} {n : Nat}
theorem wpAnyIn_of_anyG (hF : ∀ f, F.fn f) (hs : ∀ (i : Nat) (o : Oper), ops[i]? = some o → simpleB o = true) {Q : Act → World → Prop} {Q' : Exit → Act → World → Prop} (hQ : ∀ a w, Q a w → Q' .normal a w) :
    ∀ (fuel : Nat) (listed : Array Bool) (a : Act) (w : World), anyG P md ops G Q fuel listed a w → wpAnyIn F n P md ops Q' fuel listed a w
  | 0, _, _, _, h => ⟨h.1, hQ _ _ h.2⟩
  | fuel + 1, listed, a, w, h => by
    refine ⟨fun h0 => hQ _ _ (h.1 h0), fun i hi => ?_⟩
    have h1 := h.2 i hi
    unfold opG at h1
    unfold wpOpIn
    cases ho : ops[i]? with
    | none => rw [ho] at h1; exact wpAnyIn_of_anyG hF hs hQ fuel _ _ _ h1
    | some o =>
      rw [ho] at h1
      simp only at h1 ⊢
      by_cases hw : Region.wanted o (yielded ops a.tmps) = true
      · rw [if_pos hw] at h1 ⊢
        unfold Oper.wp at h1
        unfold Oper.wpIn
        refine ⟨fun f _ => hF f, ?_⟩
        rw [Oper.semAt_eq _ _ _ (simple_defer (hs i o ho))]
        cases hr : (execOp a.eval o).run P w with
        | ok nx w' =>
          rw [hr] at h1
          rcases simple_run (hs i o ho) hr with ⟨v, rfl⟩ | rfl
          · exact wpAnyIn_of_anyG hF hs hQ fuel _ _ _ h1.2
          · exact wpAnyIn_of_anyG hF hs hQ fuel _ _ _ h1.2
        | halt hh w' =>
          rw [hr] at h1
          cases hh <;> first | exact h1.elim | exact (show False from h1).elim
      · rw [if_neg hw] at h1 ⊢
        exact ⟨fun f _ => hF f, wpAnyIn_of_anyG hF hs hQ fuel _ _ _ h1⟩
theorem wpIn_region_tree (hF : ∀ f, F.fn f) (t : Tree) (G : World → World → Prop) (hG : ∀ x y z, G x y → G y z → G x z) (hr0 : ∀ x, G x x) {id : Nat} {Q : Exit → Act → World → Prop} {a : Act} {w : World} {l : List Oper} (hm : P.follows .mixedOrders = true) (hB : treeB l.toArray t = true) (hs : l.all simpleB = true)
    (h : ∀ K : Act → World → Prop, (∀ a w', Q .normal a w' → K a w') → wpTree P l.toArray G K l t a w.drew) : (Code.region id l.toArray true).wpIn F n P Q a w := by
  simp only [treeB, Bool.and_eq_true, beq_iff_eq] at hB
  obtain ⟨⟨h1, h2⟩, h3⟩ := hB
  refine wpIn_region_any hm (wpAnyIn_of_anyG hF (fun i o ho => ?_) (Q := Q .normal) (G := G) (fun _ _ h => h) _ _ _ _ ?_)
  · have : o ∈ l := List.mem_of_getElem? (by simpa using ho)
    exact List.all_eq_true.1 hs o this
  · have := anyG_tree hG hr0 h1 l rfl t _ a _ h3 (h _ (fun _ _ h => h))
    rw [h2] at this
    exact this
end
end Go.Th
