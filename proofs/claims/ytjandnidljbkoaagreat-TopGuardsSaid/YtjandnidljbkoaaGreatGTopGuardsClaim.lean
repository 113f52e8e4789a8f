/-
  The given statement of theseustop.TopGuards: the frame round its walk: every argument is opened, the walk is called, every argument is shut again.
-/
import Derived.Test.YtjandnidljbkoaaGreatRows
import Derived.Test.YtjandnidljbkoaaGreatGTopGuards
namespace Go.Proofs.YtjandnidljbkoaaGreat.topGuards
open Go.ChangeShapes Go.WideShapes Go.ChangeAt Go.RowKit Go.Th
set_option linter.unusedVariables false

theorem rt_rule : RuleT Tryz.prog 52 := ⟨⟨_, _, _, _, Tryz.underlying52, by kernel_rfl, Tryz.underlying23, Tryz.underlying3, Tryz.underlying3, Tryz.underlying3⟩, by kernel_rfl⟩
theorem nt_net : NetT Tryz.prog 34 := ⟨⟨_, Tryz.underlying34, by kernel_rfl, _, Tryz.underlying32, by kernel_rfl, _, Tryz.underlying50, rt_rule⟩, by kernel_rfl⟩
theorem own : ownKnob Tryz.prog.godebug = none := by kernel_rfl
theorem laidOut : laidOutB Tryz.prog = true := by kernel_rfl

set_option maxRecDepth 100000 in
theorem lifted (os : Os) (started : os.Started) (H : Type) (enc : TypeId × Value → H) :
    ReturnsInHanded {} Tryz.checked os 6 .any (Rows.topGuardsSpec.pre6 enc Tryz.prog Tryz.f6 Rows.topGuardsRow.domain false) (Rows.topGuardsSpec.post enc Tryz.prog Tryz.f6 false true false false) := by
  refine returnsInHanded_of_change (C := Tryz.checked) own started (by kernel_rfl) Tryz.func6
    (ChangeSpec.witness6 (enc := enc) (C := Tryz.checked) false ⟨#[], #[.agg #[.slice none 0 0], .agg #[.int .u8 0, .int .u8 0], .int .u32 0], []⟩ 8 (by kernel_rfl) (by kernel_rfl) (by kernel_rfl) (by kernel_rfl)) ?_
  intro W base args ds gs before hval0 hW hcnd _
  have hval : ∀ (j : Nat) t v, Tryz.f6.params[j]? = some t → args[j]? = some v → Value.okWide Tryz.prog W .any base t v := hval0
  have hW' := hW
  obtain ⟨p, q, hA0, hV, rfl, hfz, hnd⟩ := hW
  have hA : DataW.TrodAll enc Tryz.prog W 0 (fun _ => true) true Tryz.f6.params.toList args.toList ds p := hA0
  rw [Tryz.params6] at hA hval
  obtain ⟨v0, vs0, d0, ds0, p0, q0, hargs, rfl, rfl, h0, r0⟩ := trodAll_cons hA
  obtain ⟨v1, vs1, d1, ds1, p1, q1, rfl, rfl, rfl, h1, r1⟩ := trodAll_cons r0
  obtain ⟨v2, vs2, d2, ds2, p2, q2, rfl, rfl, rfl, h2, r2⟩ := trodAll_cons r1
  obtain ⟨rfl, rfl, rfl⟩ := trodAll_nil r2
  obtain rfl : args = #[v0, v1, v2] := by cases args; simp_all
  obtain ⟨rfl, rfl⟩ := trodVars_none hV
  have k0 := h0
  have lt0 : ∀ x ∈ p0, x.block < W.heap.size := by obtain ⟨m, hm⟩ := k0; exact DataW.trod_lt m _ _ _ hm
  have k1 := h1
  have lt1 : ∀ x ∈ p1, x.block < W.heap.size := by obtain ⟨m, hm⟩ := k1; exact DataW.trod_lt m _ _ _ hm
  have k2 := h2
  have lt2 : ∀ x ∈ p2, x.block < W.heap.size := by obtain ⟨m, hm⟩ := k2; exact DataW.trod_lt m _ _ _ hm
  obtain ⟨An0, nn0, cn0, ns0, rfl, ni0⟩ := open_net nt_net (hval 0 34 v0 rfl rfl) h0
  obtain ⟨zs1, rfl, hl1, hw1⟩ := open_array_ints Tryz.underlying73 Tryz.underlying5 (by kernel_rfl) (by kernel_rfl) (hval 1 73 v1 rfl rfl) h1
  obtain ⟨x2, rfl, rfl, rfl, wf2⟩ := open_int Tryz.underlying23 (hval 2 23 v2 rfl rfl) h2
  have bd2 := bounds_u32 wf2
  clear hA0 hval0
  refine (topGuards_walk (w := W) An0 nn0 cn0 ns0 ni0 zs1 hl1 (fun z hz => bounds_u8 (hw1 z hz)) x2 bd2).mono fun e W' ⟨he, bel⟩ => ?_
  subst he
  exact ⟨_, rfl, _, _, _, [], _, [], hW', trodAll_mk1 (shut_bool Tryz.underlying4 _), (trodAll_cons_mk (Below.trod laidOut (by kernel_rfl) (of_decide_eq_true (by kernel_rfl)) k0 bel lt0) (trodAll_cons_mk (Below.trod laidOut (by kernel_rfl) (of_decide_eq_true (by kernel_rfl)) k1 bel lt1) (trodAll_cons_mk (Below.trod laidOut (by kernel_rfl) (of_decide_eq_true (by kernel_rfl)) k2 bel lt2) trodAll_mk0))), rfl, bel.frame _, fun h => by cases h⟩

theorem closed : joinedFacts Tryz.pinned.checked.prog 6 Tryz.f6 Rows.topGuardsSpec Rows.topGuardsRow = true := by kernel_rfl

theorem over : Rows.topGuardsRow.holds Tryz.pinned (OpenSpec.ofChange Rows.topGuardsSpec) :=
  OpenClaim.holds_of_wide 6 Tryz.f6 rfl rfl rfl rfl rfl rfl rfl ⟨rfl, rfl, rfl, rfl, rfl⟩ rfl rfl rfl rfl rfl (by kernel_rfl) Tryz.func6 closed
    (of_decide_eq_true (by kernel_rfl)) (by unfold Func.isWrapper; first | (rw [if_pos (by decide +kernel)]; kernel_rfl) | (rw [if_neg (by decide +kernel)]; exact ⟨rfl, rfl⟩))
    (fun os started H enc _ => lifted os started H enc)

/-- The statement. -/
theorem proved : Rows.TopGuardsSaid := over
end Go.Proofs.YtjandnidljbkoaaGreat.topGuards
