/-
  The given statement of theseuslaw18.CertfileBack: the frame round its walk: every argument is opened, the walk is called, every argument is shut again.
-/
import Derived.Test.YtjambnlocjjjpaaRows
import Derived.Test.YtjambnlocjjjpaaCfMd
import Derived.Test.YtjambnlocjjjpaaCertfileBack
namespace Go.Proofs.Ytjambnlocjjjpaa.certfileBack
open Go.ChangeShapes Go.WideShapes Go.ChangeAt Go.RowKit Go.Th
set_option linter.unusedVariables false

theorem pt_part : PartT Try.prog 38 := ⟨⟨_, _, _, Try.underlying38, by kernel_rfl, Try.underlying23, Try.underlying23, _, Try.underlying24, Try.underlying3, by kernel_rfl⟩, by kernel_rfl⟩
theorem ct_cert : CertT Try.prog 26 := ⟨⟨_, _, _, _, Try.underlying26, by kernel_rfl, Try.underlying3, ⟨_, Try.underlying22, pt_part⟩, Try.underlying23, _, Try.underlying24, Try.underlying3, by kernel_rfl⟩, by kernel_rfl⟩
theorem own : ownKnob Try.prog.godebug = none := by kernel_rfl
theorem laidOut : laidOutB Try.prog = true := by kernel_rfl

set_option maxRecDepth 100000 in
theorem lifted (os : Os) (started : os.Started) (H : Type) (enc : TypeId × Value → H) :
    ReturnsInHanded {} Try.checked os 7 .any (Rows.certfileBackSpec.pre6 enc Try.prog Try.f7 Rows.certfileBackRow.domain false) (Rows.certfileBackSpec.post enc Try.prog Try.f7 false true false false) := by
  refine returnsInHanded_of_change (C := Try.checked) own started (by kernel_rfl) Try.func7
    (ChangeSpec.witness6 (enc := enc) (C := Try.checked) false ⟨#[], #[.agg #[.int .i64 0, .slice none 0 0, .int .u32 0, .slice none 0 0], .agg #[.int .u16 0, .int .u16 0], .int .u8 0], []⟩ 8 (by kernel_rfl) (by kernel_rfl) (by kernel_rfl) (by kernel_rfl)) ?_
  intro W base args ds gs before hval0 hW hcnd _
  have hval : ∀ (j : Nat) t v, Try.f7.params[j]? = some t → args[j]? = some v → Value.okWide Try.prog W .any base t v := hval0
  have hW' := hW
  obtain ⟨p, q, hA0, hV, rfl, hfz, hnd⟩ := hW
  have hA : DataW.TrodAll enc Try.prog W 0 (fun _ => true) true Try.f7.params.toList args.toList ds p := hA0
  rw [Try.params7] at hA hval
  obtain ⟨v0, vs0, d0, ds0, p0, q0, hargs, rfl, rfl, h0, r0⟩ := trodAll_cons hA
  obtain ⟨v1, vs1, d1, ds1, p1, q1, rfl, rfl, rfl, h1, r1⟩ := trodAll_cons r0
  obtain ⟨v2, vs2, d2, ds2, p2, q2, rfl, rfl, rfl, h2, r2⟩ := trodAll_cons r1
  obtain ⟨rfl, rfl, rfl⟩ := trodAll_nil r2
  obtain rfl : args = #[v0, v1, v2] := by cases args; simp_all
  obtain ⟨rfl, rfl⟩ := trodVars_none hV
  have k0 := h0
  have lt0 : ∀ x ∈ p0, x.block < W.heap.size := by obtain ⟨m, hm⟩ := k0; exact DataW.trod_lt m _ _ _ hm
  have k1 := h1
  have lt1 : ∀ x ∈ p1, x.block < W.heap.size := by obtain ⟨m, hm⟩ := k1; exact DataW.trod_lt m _ _ _ hm
  have k2 := h2
  have lt2 : ∀ x ∈ p2, x.block < W.heap.size := by obtain ⟨m, hm⟩ := k2; exact DataW.trod_lt m _ _ _ hm
  obtain ⟨x0, Ap0, np0, cp0, dd0, At0, nt0, ct0, ps0, tr0, rfl, ci0⟩ := open_cert ct_cert (hval 0 26 v0 rfl rfl) h0
  obtain ⟨zs1, rfl, hl1, hw1⟩ := open_array_ints Try.underlying53 Try.underlying52 (by kernel_rfl) (by kernel_rfl) (hval 1 53 v1 rfl rfl) h1
  obtain ⟨x2, rfl, rfl, rfl, wf2⟩ := open_int Try.underlying5 (hval 2 5 v2 rfl rfl) h2
  have bd2 := bounds_u8 wf2
  clear hA0 hval0
  refine (certfileBack_walk (w := W) x0 Ap0 np0 cp0 dd0 At0 nt0 ct0 ps0 tr0 ci0 zs1 hl1 (fun z hz => bounds_u16 (hw1 z hz)) x2 bd2).mono fun e W' ⟨he, bel⟩ => ?_
  subst he
  exact ⟨_, rfl, _, _, _, [], _, [], hW', trodAll_mk1 (shut_bool Try.underlying4 _), (trodAll_cons_mk (Below.trod laidOut (by kernel_rfl) (of_decide_eq_true (by kernel_rfl)) k0 bel lt0) (trodAll_cons_mk (Below.trod laidOut (by kernel_rfl) (of_decide_eq_true (by kernel_rfl)) k1 bel lt1) (trodAll_cons_mk (Below.trod laidOut (by kernel_rfl) (of_decide_eq_true (by kernel_rfl)) k2 bel lt2) trodAll_mk0))), rfl, bel.frame _, fun h => by cases h⟩

theorem closed : joinedFacts Try.pinned.checked.prog 7 Try.f7 Rows.certfileBackSpec Rows.certfileBackRow = true := by kernel_rfl

theorem over : Rows.certfileBackRow.holds Try.pinned (OpenSpec.ofChange Rows.certfileBackSpec) :=
  OpenClaim.holds_of_wide 7 Try.f7 rfl rfl rfl rfl rfl rfl rfl ⟨rfl, rfl, rfl, rfl, rfl⟩ rfl rfl rfl rfl rfl (by kernel_rfl) Try.func7 closed
    (of_decide_eq_true (by kernel_rfl)) (by unfold Func.isWrapper; first | (rw [if_pos (by decide +kernel)]; kernel_rfl) | (rw [if_neg (by decide +kernel)]; exact ⟨rfl, rfl⟩))
    (fun os started H enc _ => lifted os started H enc)

/-- The statement. -/
theorem proved : Rows.CertfileBackSaid := over
end Go.Proofs.Ytjambnlocjjjpaa.certfileBack
