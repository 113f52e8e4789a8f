/-
  The given statement of theseuslaw09.NetworkAll: the frame round its walk: every argument is opened, the walk is called, every argument is shut again.
-/
import Derived.Test.YtdmkiejaejlajaaRows
import Derived.Test.YtdmkiejaejlajaaNhOpen
import Derived.Test.YtdmkiejaejlajaaNetworkAll
namespace Go.Proofs.Ytdmkiejaejlajaa.networkAll
open Go.ChangeShapes Go.WideShapes Go.ChangeAt Go.RowKit Go.Th
set_option linter.unusedVariables false

theorem rt_rule : RuleT Try.prog 40 := ⟨⟨_, _, _, _, Try.underlying40, by kernel_rfl, Try.underlying25, Try.underlying3, Try.underlying3, Try.underlying3⟩, by kernel_rfl⟩
theorem nt_net : NetT Try.prog 24 := ⟨⟨_, Try.underlying24, by kernel_rfl, _, Try.underlying22, by kernel_rfl, _, Try.underlying33, rt_rule⟩, by kernel_rfl⟩
theorem own : ownKnob Try.prog.godebug = none := by kernel_rfl
theorem laidOut : laidOutB Try.prog = true := by kernel_rfl

set_option maxRecDepth 100000 in
theorem lifted (os : Os) (started : os.Started) (H : Type) (enc : TypeId × Value → H) :
    ReturnsInHanded {} Try.checked os 8 .any (Rows.networkAllSpec.pre6 enc Try.prog Try.f8 Rows.networkAllRow.domain false) (Rows.networkAllSpec.post enc Try.prog Try.f8 false true false false) := by
  refine returnsInHanded_of_change (C := Try.checked) own started (by kernel_rfl) Try.func8
    (ChangeSpec.witness6 (enc := enc) (C := Try.checked) false ⟨#[], #[.agg #[.slice none 0 0], .int .u32 0, .agg #[.int .i64 0, .int .i64 0]], []⟩ 8 (by kernel_rfl) (by kernel_rfl) (by kernel_rfl) (by kernel_rfl)) ?_
  intro W base args ds gs before hval0 hW hcnd _
  have hval : ∀ (j : Nat) t v, Try.f8.params[j]? = some t → args[j]? = some v → Value.okWide Try.prog W .any base t v := hval0
  have hW' := hW
  obtain ⟨p, q, hA0, hV, rfl, hfz, hnd⟩ := hW
  have hA : DataW.TrodAll enc Try.prog W 0 (fun _ => true) true Try.f8.params.toList args.toList ds p := hA0
  rw [Try.params8] at hA hval
  obtain ⟨v0, vs0, d0, ds0, p0, q0, hargs, rfl, rfl, h0, r0⟩ := trodAll_cons hA
  obtain ⟨v1, vs1, d1, ds1, p1, q1, rfl, rfl, rfl, h1, r1⟩ := trodAll_cons r0
  obtain ⟨v2, vs2, d2, ds2, p2, q2, rfl, rfl, rfl, h2, r2⟩ := trodAll_cons r1
  obtain ⟨rfl, rfl, rfl⟩ := trodAll_nil r2
  obtain rfl : args = #[v0, v1, v2] := by cases args; simp_all
  obtain ⟨rfl, rfl⟩ := trodVars_none hV
  have k0 := h0
  have lt0 : ∀ x ∈ p0, x.block < W.heap.size := by obtain ⟨m, hm⟩ := k0; exact DataW.trod_lt m _ _ _ hm
  have k1 := h1
  have lt1 : ∀ x ∈ p1, x.block < W.heap.size := by obtain ⟨m, hm⟩ := k1; exact DataW.trod_lt m _ _ _ hm
  have k2 := h2
  have lt2 : ∀ x ∈ p2, x.block < W.heap.size := by obtain ⟨m, hm⟩ := k2; exact DataW.trod_lt m _ _ _ hm
  obtain ⟨An0, nn0, cn0, ns0, rfl, ni0⟩ := open_net nt_net (hval 0 24 v0 rfl rfl) h0
  obtain ⟨x1, rfl, rfl, rfl, wf1⟩ := open_int Try.underlying25 (hval 1 25 v1 rfl rfl) h1
  have bd1 := bounds_u32 wf1
  obtain ⟨zs2, rfl, hl2, hw2⟩ := open_array_ints Try.underlying47 Try.underlying3 (by kernel_rfl) (by kernel_rfl) (hval 2 47 v2 rfl rfl) h2
  clear hA0 hval0
  refine (networkAll_walk (w := W) An0 nn0 cn0 ns0 ni0 x1 bd1 zs2 hl2 (fun z hz => bounds_i64 (hw2 z hz))).mono fun e W' ⟨he, bel⟩ => ?_
  subst he
  exact ⟨_, rfl, _, _, _, [], _, [], hW', trodAll_mk1 (shut_bool Try.underlying4 _), (trodAll_cons_mk (Below.trod laidOut (by kernel_rfl) (of_decide_eq_true (by kernel_rfl)) k0 bel lt0) (trodAll_cons_mk (Below.trod laidOut (by kernel_rfl) (of_decide_eq_true (by kernel_rfl)) k1 bel lt1) (trodAll_cons_mk (Below.trod laidOut (by kernel_rfl) (of_decide_eq_true (by kernel_rfl)) k2 bel lt2) trodAll_mk0))), rfl, bel.frame _, fun h => by cases h⟩

theorem closed : joinedFacts Try.pinned.checked.prog 8 Try.f8 Rows.networkAllSpec Rows.networkAllRow = true := by kernel_rfl

theorem over : Rows.networkAllRow.holds Try.pinned (OpenSpec.ofChange Rows.networkAllSpec) :=
  OpenClaim.holds_of_wide 8 Try.f8 rfl rfl rfl rfl rfl rfl rfl ⟨rfl, rfl, rfl, rfl, rfl⟩ rfl rfl rfl rfl rfl (by kernel_rfl) Try.func8 closed
    (of_decide_eq_true (by kernel_rfl)) (by unfold Func.isWrapper; first | (rw [if_pos (by decide +kernel)]; kernel_rfl) | (rw [if_neg (by decide +kernel)]; exact ⟨rfl, rfl⟩))
    (fun os started H enc _ => lifted os started H enc)

/-- The statement. -/
theorem proved : Rows.NetworkAllSaid := over
end Go.Proofs.Ytdmkiejaejlajaa.networkAll
