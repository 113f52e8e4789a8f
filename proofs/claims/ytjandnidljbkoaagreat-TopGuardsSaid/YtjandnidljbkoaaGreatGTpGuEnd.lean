/-
  What the end of theseustop.TopGuards compares.
-/
import Derived.Test.YtjandnidljbkoaaGreatGTpShown
import Derived.Test.YtjandnidljbkoaaGreatGTpGuLib
namespace Go.Th
open Go.RowKit
set_option linter.unusedVariables false
theorem psame_key : ∀ ps qs : List Pt, psame ps qs = decide (ps.map pkey = qs.map pkey)
  | [], [] => by simp [psame]
  | p :: ps, q :: qs => by
    simp only [psame, psame_key ps qs, List.map_cons, pkey]
    rw [Bool.eq_iff_iff]
    simp [and_assoc]
  | [], q :: qs => by simp [psame]
  | p :: ps, [] => by simp [psame]
theorem Nd.ls_set (ns : List Nd) (i : Nat) (x : Nd) : Nd.ls (ns.set i x) = (Nd.ls ns).set i x.l := by unfold Nd.ls; rw [List.map_set]
end Go.Th
namespace Go.Proofs.YtjandnidljbkoaaGreat
open Go.RowKit Go.Th
set_option linter.unusedVariables false
theorem TBox.len {w : World} {g : Nat} {A : Option Addr} {n c : Nat} {ns : List Nd} (h : TBox w g A n c ns) : (Nd.ls ns).length = n := by rw [Nd.ls_len]; exact h.rd.len
theorem onq_eq (x : Operand) {P : Program} {ops : Array Oper} {rest : List Oper} {a : Act} {C : World → Prop} {Q : Act → Prop} {d op T y T2 ty pos af g} (h : wpQuiet P ops C Q (⟨d, .binOp op T x y T2, ty, pos, af, g⟩ :: rest) a) : wpQuiet P ops C Q (⟨d, .binOp op T x y T2, ty, pos, af, g⟩ :: rest) a := h
theorem wq_eqA {ops : Array Oper} {rest : List Oper} {o : Oper} {a : Act} {C : World → Prop} {Q : Act → Prop} (hw : Region.wanted o (yielded ops a.tmps) = true) (x y : Operand) {T2 : TypeId} (ho : o.op = .binOp .eql 30 x y T2) {p c q d : Int} (hx : a.eval x = .agg #[.int .i64 p, .int .i64 c]) (hy : a.eval y = .agg #[.int .i64 q, .int .i64 d])
    (b : Bool) (hb : decide (p = q ∧ c = d) = b) (h : wpQuiet Tryz.prog ops C Q rest (a.put o.dst (.bool b))) : wpQuiet Tryz.prog ops C Q (o :: rest) a := by
  subst hb
  refine wq_run hw (v := .bool (decide (p = q ∧ c = d))) (fun w hC => ?_) h
  have e := eq_answer p c q d w
  simp only [execOp, ho, hx, hy]
  simp [run_eqGuard_agg w .eql 30 x y _ _ guard_answer, run_eql_struct, e]
/-- A certificate that holds is accepted. -/
theorem ck_yes {P : Prop} {v : Int} {w : World} {e : Ending} {w' : World} (hP : P) (h : CkR P v w e w') : RetB (.agg #[.int .i64 v, .int .i64 0]) w e w' := by
  obtain ⟨h1, h2 | ⟨c, _, _, h2⟩⟩ := h
  · exact ⟨h2.1, h1⟩
  · exact absurd hP h2
theorem cert_small {v d : Int} {ps ps2 : List Pt} {tr : List Int} {w w1 w2 w3 : World} {B B1 B2 B3 np np2 nt nt2 cp cp2 ct ct2 na : Nat} {Ap Ap2 At At2 : Option Addr} (hna : na ≤ 256) (hm : cmay v ps d tr na = 0) (hp : PRd w B Ap np cp ps) (hq : PRd w1 B1 Ap2 np2 cp2 ps2) (ht : RdS iv w2 B2 At nt ct tr) (ht2 : RdS iv w3 B3 At2 nt2 ct2 tr) (hk : ps.map pkey = ps2.map pkey) : np ≤ 100000 ∧ np2 ≤ 100000 ∧ nt ≤ 100000 ∧ nt2 ≤ 100000 := by
  have h1 := hp.rd.len
  have h2 := hq.rd.len
  have h3 := ht.len
  have h4 := ht2.len
  have h5 := congrArg List.length hk
  rw [List.length_map, List.length_map] at h5
  rcases cmay_kind hm with rfl | rfl
  · obtain ⟨_, e, h6, _⟩ := cmay_free hm
    rw [e] at h3 h4
    simp only [List.length_nil] at h3 h4
    omega
  · obtain ⟨e, _, h6, _⟩ := cmay_loop hm
    rw [e] at h1 h5
    simp only [List.length_nil] at h1 h5
    omega
theorem part_small {v d : Int} {ps : List Pt} {tr : List Int} {w : World} {B np cp na : Nat} {Ap : Option Addr} (hna : na ≤ 256) (hm : cmay v ps d tr na = 0) (hp : PRd w B Ap np cp ps) : ∀ p ∈ ps, p.n ≤ 9223372036854775807 := fun p hpm => by
  rcases cmay_kind hm with rfl | rfl
  · have h1 := ((cmay_free hm).2.2.2.2 p hpm).1
    have h2 := (hp.rk p hpm).len
    omega
  · rw [(cmay_loop hm).1] at hpm; cases hpm
theorem part_small2 {v d : Int} {ps ps2 : List Pt} {tr : List Int} {w : World} {B np cp na : Nat} {Ap : Option Addr} (hna : na ≤ 256) (hm : cmay v ps d tr na = 0) (hp : PRd w B Ap np cp ps2) (hk : ps.map pkey = ps2.map pkey) : ∀ p ∈ ps2, p.n ≤ 9223372036854775807 := fun p hpm => by
  have h0 : pkey p ∈ ps.map pkey := by rw [hk]; exact List.mem_map.2 ⟨p, hpm, rfl⟩
  obtain ⟨q, hq, he⟩ := List.mem_map.1 h0
  have he2 : q.rk = p.rk := congrArg (fun z => z.2.2) he
  rcases cmay_kind hm with rfl | rfl
  · have h1 := ((cmay_free hm).2.2.2.2 q hq).1
    have h2 := (hp.rk p hpm).len
    rw [he2] at h1
    omega
  · rw [(cmay_loop hm).1] at hq; cases hq
/-- The network with a rule more. -/
theorem more_net {W : World} {ga gw na ca cn v B1 B2 E1 : Nat} {Aa : Option Addr} {nsa : List Nd} {E2 : Nat} {yF : Nd} {l : List Ru} {r x : Ru} {a m : Int} (M : TBox W ga Aa na ca nsa) (hN : NetOk (Nd.ls nsa)) (hvl : v < nsa.length) (on : OwS sv W B1 E1 (some ⟨gw, 0, none⟩) na cn (nsa.set v yF)) (om : OwM Ru.cs 4 W B2 E2 yF.A yF.n yF.c yF.l) (hF : yF.l = insR x l) (hM : MoreC l r x a m) (hl : (Nd.ls nsa)[v]? = some l) :
    ∃ ms, NRd W W.heap.size (some ⟨gw, 0, none⟩) na cn ms ∧ NetOk (Nd.ls ms) ∧ (Nd.ls nsa).length = (Nd.ls ms).length ∧ ∀ b, 0 ≤ b → b ≤ 4294967295 → vecOf (Nd.ls nsa) b = vecOf (Nd.ls ms) b := by
  have e : Nd.ls (nsa.set v yF) = (Nd.ls nsa).set v (insR x l) := by rw [Nd.ls_set, hF]
  refine ⟨nsa.set v yF, ⟨on.rd, fun z hz => ?_, fun z hz q hq => ?_⟩, ?_, ?_, fun b _ _ => ?_⟩
  · rcases List.mem_or_eq_of_mem_set hz with h | rfl
    · exact M.rd.rk z h
    · exact om.rd
  · rcases List.mem_or_eq_of_mem_set hz with h | rfl
    · exact M.rd.ok z h q hq
    · rw [hF] at hq
      exact (hM.good'.pre q hq).ok
  · rw [e]
    refine more_ok hN hM hl (fun q hq => ?_) ?_
    · obtain ⟨z, hz, rfl⟩ := List.mem_map.1 hq
      have h1 := (M.rd.rk z hz).len
      have h2 := M.small z hz
      omega
    · have := M.len; have := M.nb; omega
  · rw [e]; simp
  · rw [e, more_vec hM hl]
end Go.Proofs.YtjandnidljbkoaaGreat
