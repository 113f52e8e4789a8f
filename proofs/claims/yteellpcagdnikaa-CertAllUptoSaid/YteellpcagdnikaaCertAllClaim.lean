/-
  The given statement of theseuslaw17.CertAll, of arguments that are together of bulk at most the given bound: the frame round its walk: every argument is opened, the walk is called, every argument is shut again.
-/
import Derived.Test.YteellpcagdnikaaRows
import Derived.JoinedCond
import Derived.Test.YteellpcagdnikaaOpenCertM
import Derived.Test.YteellpcagdnikaaTypes
import Derived.Test.YteellpcagdnikaaCertAll
namespace Go.Proofs.Yteellpcagdnikaa.certAll
open Go.ChangeShapes Go.WideShapes Go.ChangeAt Go.RowKit Go.Th
set_option linter.unusedVariables false

theorem pt_part : PartT Try.prog 26 := ⟨⟨_, _, _, Try.underlying26, by kernel_rfl, Try.underlying22, Try.underlying22, _, Try.underlying24, Try.underlying3, by kernel_rfl⟩, by kernel_rfl⟩
theorem ct_cert : CertT Try.prog 29 := ⟨⟨_, _, _, _, Try.underlying29, by kernel_rfl, Try.underlying3, ⟨_, Try.underlying27, pt_part⟩, Try.underlying22, _, Try.underlying24, Try.underlying3, by kernel_rfl⟩, by kernel_rfl⟩
theorem own : ownKnob Try.prog.godebug = none := by kernel_rfl
theorem laidOut : laidOutB Try.prog = true := by kernel_rfl
theorem one_le {H : Type} (d : DataW H) : 1 ≤ Rows.uptoBulk d := by
  cases d with
  | lit l => cases l <;> simp [Rows.uptoBulk]
  | _ => simp [Rows.uptoBulk]
theorem all_len {H : Type} : ∀ l : List (DataW H), l.length ≤ Rows.uptoBulkAll l
  | [] => by simp [Rows.uptoBulkAll]
  | x :: r => by have := one_le x; have := all_len r; simp only [Rows.uptoBulkAll, List.length_cons]; omega
theorem all_mem {H : Type} : ∀ (l : List (DataW H)) (e : DataW H), e ∈ l → Rows.uptoBulk e ≤ Rows.uptoBulkAll l
  | [], e, h => by cases h
  | x :: r, e, h => by
    simp only [Rows.uptoBulkAll]
    rcases List.mem_cons.1 h with h | h
    · subst h; omega
    · have := all_mem r e h; omega
theorem meas {H : Type} : Meas (fun d : DataW H => Rows.uptoBulk d) := by
  refine ⟨fun elems spare => ?_, fun elems spare e he => ?_, fun parts e he => ?_⟩
  · have := all_len elems
    simp only [Rows.uptoBulk]; omega
  · have := all_mem elems e he
    simp only [Rows.uptoBulk]; omega
  · have := all_mem parts e he
    simp only [Rows.uptoBulk]; omega
theorem contract (H : Type) (enc : TypeId × Value → H) (W : World) (base : Nat) (args : Array Value) (ds gs : List (DataW H)) (before : List MemPlace)
    (hval0 : ∀ (j : Nat) t v, Try.f7.params[j]? = some t → args[j]? = some v → Value.okWide Try.prog W .any base t v)
    (hW : DataW.Whole enc Try.prog Try.f7.params.toList Rows.certAllSpec.vars false W args.toList ds gs before) (hk : Rows.uptoSmall H (ds ++ gs) = true) :
    Calls Try.prog 7 args W fun e W' => ∃ v, e = .returned v ∧ Rows.certAllSpec.post enc Try.prog Try.f7 false true false false W args v W' := by
  have hval : ∀ (j : Nat) t v, Try.f7.params[j]? = some t → args[j]? = some v → Value.okWide Try.prog W .any base t v := hval0
  have hW' := hW
  obtain ⟨p, q, hA0, hV, rfl, hfz, hnd⟩ := hW
  have hA : DataW.TrodAll enc Try.prog W 0 (fun _ => true) true Try.f7.params.toList args.toList ds p := hA0
  rw [Try.params7] at hA hval
  obtain ⟨v0, vs0, d0, ds0, p0, q0, hargs, rfl, rfl, h0, r0⟩ := trodAll_cons hA
  obtain ⟨v1, vs1, d1, ds1, p1, q1, rfl, rfl, rfl, h1, r1⟩ := trodAll_cons r0
  obtain ⟨v2, vs2, d2, ds2, p2, q2, rfl, rfl, rfl, h2, r2⟩ := trodAll_cons r1
  obtain ⟨rfl, rfl, rfl⟩ := trodAll_nil r2
  obtain rfl : args = #[v0, v1, v2] := by cases args; simp_all
  obtain ⟨rfl, rfl⟩ := trodVars_none hV
  have k0 := h0
  have lt0 : ∀ x ∈ p0, x.block < W.heap.size := by obtain ⟨m, hm⟩ := k0; exact DataW.trod_lt m _ _ _ hm
  have k1 := h1
  have lt1 : ∀ x ∈ p1, x.block < W.heap.size := by obtain ⟨m, hm⟩ := k1; exact DataW.trod_lt m _ _ _ hm
  have k2 := h2
  have lt2 : ∀ x ∈ p2, x.block < W.heap.size := by obtain ⟨m, hm⟩ := k2; exact DataW.trod_lt m _ _ _ hm
  obtain ⟨x0, Ap0, np0, cp0, dd0, At0, nt0, ct0, ps0, tr0, hv0, ci0⟩ := open_cert ct_cert (hval 0 29 v0 rfl rfl) h0
  have hM0 := open_certM meas ct_cert hv0 ci0.parts.rd h0
  subst hv0
  obtain ⟨x1, Ap1, np1, cp1, dd1, At1, nt1, ct1, ps1, tr1, rfl, ci1⟩ := open_cert ct_cert (hval 1 29 v1 rfl rfl) h1
  obtain ⟨x2, rfl, rfl, rfl, wf2⟩ := open_int Try.underlying3 (hval 2 3 v2 rfl rfl) h2
  have bd2 := bounds_i64 wf2
  have hsm : ∀ p ∈ ps0, p.n ≤ 1048576 := fun p hp => by
    have h := hM0 p hp
    have hb : Rows.uptoBulkAll _ ≤ 1048576 := of_decide_eq_true hk
    simp only [List.cons_append, Rows.uptoBulkAll] at hb
    omega
  clear hA0 hval0
  refine (certAll_core (w := W) x0 Ap0 np0 cp0 dd0 At0 nt0 ct0 ps0 tr0 x1 Ap1 np1 cp1 dd1 At1 nt1 ct1 ps1 tr1 ci0 ci1 hsm x2 bd2).mono fun e W' ⟨he, bel⟩ => ?_
  subst he
  exact ⟨_, rfl, _, _, _, [], _, [], hW', trodAll_mk1 (shut_bool Try.underlying4 _), (trodAll_cons_mk (Below.trod laidOut (by kernel_rfl) (of_decide_eq_true (by kernel_rfl)) k0 bel lt0) (trodAll_cons_mk (Below.trod laidOut (by kernel_rfl) (of_decide_eq_true (by kernel_rfl)) k1 bel lt1) (trodAll_cons_mk (Below.trod laidOut (by kernel_rfl) (of_decide_eq_true (by kernel_rfl)) k2 bel lt2) trodAll_mk0))), rfl, bel.frame _, fun h => by cases h⟩
set_option maxRecDepth 100000 in
theorem lifted (os : Os) (started : os.Started) (H : Type) (enc : TypeId × Value → H) (F : Stop.Interp) :
    ReturnsInHanded {} Try.checked os 7 .any ((Rows.OpenSpec.upto Rows.certAllSpec).pre6 enc Try.prog Try.f7 Rows.certAllUptoRow.domain false) (((Rows.OpenSpec.upto Rows.certAllSpec).at F).post enc Try.prog Try.f7 false true false false) := by
  refine returnsInHanded_of_cond (C := Try.checked) (s := Rows.OpenSpec.upto Rows.certAllSpec) (k := Rows.uptoSmall) rfl own started (by kernel_rfl) Try.func7
    (OpenSpec.witness (enc := enc) (C := Try.checked) (s := Rows.OpenSpec.upto Rows.certAllSpec) (k := Rows.uptoSmall) rfl false ⟨#[], #[.agg #[.int .i64 0, .slice none 0 0, .int .u32 0, .slice none 0 0], .agg #[.int .i64 0, .slice none 0 0, .int .u32 0, .slice none 0 0], .int .i64 0], []⟩ 8 (by kernel_rfl) (by kernel_rfl) (by kernel_rfl)
      (x := ([.agg [.lit (.int .i64 0), .nil, .lit (.int .u32 0), .nil], .agg [.lit (.int .i64 0), .nil, .lit (.int .u32 0), .nil], .lit (.int .i64 0)], [], [])) (by kernel_rfl) rfl (by kernel_rfl)) ?_
  intro W base args ds gs before hval hW _ hk _
  exact contract H enc W base args ds gs before hval hW hk
/-- The statement. -/
theorem proved : Rows.CertAllUptoSaid :=
  OpenClaim.holds_of_cond 7 Try.f7 rfl rfl rfl rfl rfl rfl rfl ⟨rfl, rfl, rfl, rfl, rfl⟩ rfl rfl rfl rfl rfl (by kernel_rfl) Try.func7 (by kernel_rfl)
    (of_decide_eq_true (by kernel_rfl)) (by unfold Func.isWrapper; first | (rw [if_pos (by decide +kernel)]; kernel_rfl) | (rw [if_neg (by decide +kernel)]; exact ⟨rfl, rfl⟩))
    (fun os started H enc _ F => lifted os started H enc F)
end Go.Proofs.Yteellpcagdnikaa.certAll
