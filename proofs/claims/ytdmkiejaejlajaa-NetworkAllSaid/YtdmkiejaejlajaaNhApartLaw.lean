/-
  A node more that sends nothing: the plain law; network.Loop's answer is one.
-/
import Derived.Test.YtdmkiejaejlajaaNhPlainLaw
namespace Go.Proofs.Ytdmkiejaejlajaa
open Go.RowKit Go.Th
set_option linter.unusedVariables false
theorem wq_nload {ops : Array Oper} {rest : List Oper} {o : Oper} {a : Act} {C : World → Prop} {Q : Act → Prop} (hw : Region.wanted o (yielded ops a.tmps) = true) (x : Operand) (ho : o.op = .load 24 x) {g : Nat} {v : Value} (hx : a.eval x = .pointer (some ⟨g, 0, none⟩)) (hb : ∀ w, C w → w.cell? ⟨g, 0, none⟩ = some v)
    (h : wpQuiet Try.prog ops C Q rest (a.put o.dst (.agg #[v]))) : wpQuiet Try.prog ops C Q (o :: rest) a :=
  wq_run hw (fun w hC => by simp only [execOp, ho, hx, Instr.loadAt, Instr.sureAddr, Sem.run_bind, Sem.run_pure, Result.andThen_ok, run_loadVar_at st_net (cs := [v]) rfl (fun i u hu => by cases i with | zero => injection hu with hu; subst hu; exact hb w hC | succ i => cases hu)]) h
theorem HBox.gnet {w : World} {g : Nat} {A : Option Addr} {n c : Nat} {ns : List Nd} (h : HBox w g A n c ns) : GNet w A n c ns := ⟨h.rd, by have := h.nb; omega, fun x hx => by have := h.small x hx; omega⟩
section
variable {ls ls' : List (List Ru)} {a : Int} {n n' : Nat} {l l' : List Int} {ok ok' : Bool}
theorem hof_eq (h : ∀ u, nstep ls a u = nstep ls' a u) : hof ls a = hof ls' a := funext fun u => by unfold hof; rw [h]
theorem gof_eq (h : ∀ u, nstep ls a u = nstep ls' a u) : gof ls a = gof ls' a := funext fun u => by unfold gof; rw [h]
theorem wgo_eq (h : ∀ u, nstep ls a u = nstep ls' a u) (v : Int) : ∀ k, wgo ls a v k = wgo ls' a v k
  | 0 => rfl
  | k + 1 => by rw [wgo, wgo, wgo_eq h v k, h]
theorem sits_eq (h : ∀ u, nstep ls a u = nstep ls' a u) (v : Int) (M : Nat) : sits ls a v M = sits ls' a v M := by
  unfold sits
  congr 1
  funext j
  rw [sit_itr, sit_itr, hof_eq h]
/-- Where a node goes round, it is one of the nodes. -/
theorem cyc_in {u : Int} {L : Nat} (c : Cyc (hof ls a) (gof ls a) u L) : 0 ≤ u ∧ u < (ls.length : Int) := gof_in (c.goes 0 c.pos)
theorem lans_one (h : ∀ u, nstep ls a u = nstep ls' a u) (hn : ls.length ≤ n) (hn' : ls.length ≤ n') (h1 : LAns ls n a l ok) (h2 : LAns ls' n' a l' ok') : ok = ok' ∧ l = l' := by
  unfold LAns at h2
  rw [← hof_eq h, ← gof_eq h] at h2
  rcases h1 with ⟨rfl, rfl, h1⟩ | ⟨rfl, b, M, g1, g2, g3, c, gm, rfl, gl⟩
  · rcases h2 with ⟨rfl, rfl, h2⟩ | ⟨rfl, b, M, g1, g2, g3, c, gm, rfl, gl⟩
    · exact ⟨rfl, rfl⟩
    · have := cyc_in c
      exact absurd c (h1 _ _ this.1 (by omega))
  · rcases h2 with ⟨rfl, rfl, h2⟩ | ⟨rfl, b', M', g1', g2', g3', c', gm', rfl, gl'⟩
    · have := cyc_in c
      exact absurd c (h2 _ _ this.1 (by omega))
    · have e1 := cyc_in c
      have e2 := cyc_in c'
      have e3 := gl _ _ e2.1 (by omega) c'
      have e4 := gl' _ _ e1.1 (by omega) c
      obtain rfl : b = b' := by omega
      have hM : M = M' := by
        have p1 := c.pos
        have p2 := c'.pos
        by_cases k1 : M < M'
        · exact absurd c.back (gm' M (by omega) k1)
        · by_cases k2 : M' < M
          · exact absurd c'.back (gm M' (by omega) k2)
          · omega
      subst hM
      exact ⟨rfl, sits_eq h b M⟩
theorem lans_len (h : LAns ls n a l ok) : l.length ≤ n := by
  rcases h with ⟨_, rfl, _⟩ | ⟨_, b, M, _, _, g3, _, _, rfl, _⟩
  · simp
  · unfold sits; simpa using g3
/-- With one node more that sends nothing, all steps are the same. -/
theorem more_step {x : List Ru} (hx : ∀ r ∈ x, r.act ≠ 1) (u : Int) : nstep ls a u = nstep (ls ++ [x]) a u := by
  unfold nstep
  by_cases h : 0 ≤ u ∧ u < (ls.length : Int)
  · obtain ⟨k, rfl⟩ := Int.eq_ofNat_of_zero_le h.1
    rw [if_pos h, if_pos (by simp; omega), Int.toNat_natCast, List.getD_eq_getElem?_getD, List.getD_eq_getElem?_getD, List.getElem?_append_left (by omega)]
  · rw [if_neg h]
    by_cases h2 : 0 ≤ u ∧ u < ((ls ++ [x]).length : Int)
    · obtain ⟨k, rfl⟩ := Int.eq_ofNat_of_zero_le h2.1
      have hk : k = ls.length := by have := h2.2; simp at this; omega
      subst hk
      rw [if_pos h2, Int.toNat_natCast, List.getD_eq_getElem?_getD, List.getElem?_append_right (Nat.le_refl _), Nat.sub_self]
      exact (tnext_none hx).symm
    · rw [if_neg h2]
theorem more_size (x : List Ru) : nsize (ls ++ [x]) = nsize ls + x.length := by
  unfold nsize
  simp
end
def drp (r : Ru) : Ru := ⟨r.a, r.n, 3, r.next⟩
theorem drp_ok {r : Ru} (h : r.Ok) : (drp r).Ok := ⟨h.a, h.n, by simp [drp], h.next⟩
end Go.Proofs.Ytdmkiejaejlajaa
