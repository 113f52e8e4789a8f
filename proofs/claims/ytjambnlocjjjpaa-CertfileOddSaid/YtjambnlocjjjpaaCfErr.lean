/-
  The errors of bytes that are no certificate.
-/
import Derived.Test.YtjambnlocjjjpaaCfPlain
namespace Go.Th
open Go.RowKit
set_option linter.unusedVariables false
/-- Neither a wrong magic nor a wrong sum. -/
def EG (e : Int) : Prop := e ≠ 5 ∧ e ≠ 6
theorem eg0 : EG 0 := ⟨by decide, by decide⟩
theorem eg2 : EG 2 := ⟨by decide, by decide⟩
theorem eg3 : EG 3 := ⟨by decide, by decide⟩
theorem eg_rfail {e : Int} {r : Rs} (he : EG e) (h : EG r.2) : EG (rfail e r).2 := by
  unfold rfail
  split
  · exact he
  · exact h
theorem eg_rnum (s : Nat) {r : Rs} (h : EG r.2) : EG (rnum s r).2.2 := by
  unfold rnum
  split
  · exact h
  · split
    · exact eg2
    · exact eg0
theorem eg_rgrp {r : Rs} (h : EG r.2) : EG (rgrp r).2.2 := by
  unfold rgrp
  split
  · exact h
  · split
    · rcases gtake_what r.1 with h3 | h3 | ⟨n, k, h3, _⟩
      · rw [h3.1]; exact eg2
      · rw [h3]; exact eg3
      · rw [h3]; exact eg0
    · exact eg0
theorem eg_rcnt (most : Int) {r : Rs} (h : EG r.2) : EG (rcnt most r).2.2 := by
  unfold rcnt
  split
  · exact eg_rfail ⟨by decide, by decide⟩ (eg_rgrp h)
  · exact eg_rgrp h
theorem eg_rlist {α : Type} {one : Rs → α × Rs} (ho : ∀ r, EG r.2 → EG (one r).2.2) : ∀ (n : Nat) (acc : List α) (r : Rs), EG r.2 → EG (rlist one n acc r).2.2
  | 0, acc, r, h => h
  | n + 1, acc, r, h => by
    rw [rlist]
    split
    · exact ho r h
    · exact eg_rlist ho n _ _ (ho r h)
theorem eg_rpart (nodes : Int) (r : Rs) (h : EG r.2) : EG (rpart nodes r).2.2 := by
  unfold rpart
  exact eg_rlist (fun _ => eg_rgrp) _ _ _ (eg_rnum 4 (eg_rnum 4 h))
theorem eg_ranks (nodes : Int) : ∀ ps : List Pt, EG (ranks nodes ps)
  | [] => eg0
  | p :: ps => by
    simp only [ranks]
    split
    · exact ⟨by decide, by decide⟩
    · split
      · exact ⟨by decide, by decide⟩
      · exact eg_ranks nodes ps
theorem eg_cmay (v : Int) (ps : List Pt) (d : Int) (tr : List Int) (nodes : Int) : EG (cmay v ps d tr nodes) := by
  unfold cmay cfree cloops
  split
  · split
    · exact ⟨by decide, by decide⟩
    · split
      · exact ⟨by decide, by decide⟩
      · split
        · exact ⟨by decide, by decide⟩
        · exact eg_ranks _ _
  · split
    · split
      · exact ⟨by decide, by decide⟩
      · split
        · exact ⟨by decide, by decide⟩
        · split
          · exact ⟨by decide, by decide⟩
          · rcases trgo_vals tr [] (trfirst tr) with h | h <;> rw [h] <;> exact ⟨by decide, by decide⟩
    · exact ⟨by decide, by decide⟩
theorem cend_form (v : Int) (ks : List PK) (d : Int) (tr : List Int) (nodes : Int) (r : Rs) (h : EG r.2) : EG (cend v ks d tr nodes r).e ∧ ((cend v ks d tr nodes r).e ≠ 0 → cend v ks d tr nodes r = ⟨0, [], 0, [], 0, (cend v ks d tr nodes r).e⟩) := by
  have hm : EG (rmore r).2 := by
    unfold rmore
    split
    · exact eg_rfail ⟨by decide, by decide⟩ h
    · exact h
  have hE : EG (if (rmore r).2 = 0 then cmayK v ks d tr nodes else (rmore r).2) := by
    split
    · exact eg_cmay _ _ _ _ _
    · exact hm
  unfold cend
  by_cases h1 : (if (rmore r).2 = 0 then cmayK v ks d tr nodes else (rmore r).2) ≠ 0
  · rw [if_pos h1]
    exact ⟨hE, fun _ => rfl⟩
  · rw [if_neg h1]
    exact ⟨⟨by show (0 : Int) ≠ 5; decide, by show (0 : Int) ≠ 6; decide⟩, fun h => absurd rfl h⟩
theorem ctake_form (bs : List UInt8) : EG (ctake bs).e ∧ ((ctake bs).e ≠ 0 → ctake bs = ⟨0, [], 0, [], 0, (ctake bs).e⟩) := by
  have h0 : EG ((bs, 0) : Rs).2 := ⟨by show (0 : Int) ≠ 5; decide, by show (0 : Int) ≠ 6; decide⟩
  have ha : EG (cact bs).2 := by
    unfold cact
    split
    · exact eg_rfail ⟨by decide, by decide⟩ (eg_rnum 1 h0)
    · exact eg_rnum 1 h0
  have hn := eg_rcnt 256 ha
  unfold ctake
  split
  · exact cend_form _ _ _ _ _ _ (eg_rlist (fun r => eg_rpart _ r) _ _ _ (eg_rcnt 8193 hn))
  · exact cend_form _ _ _ _ _ _ (eg_rlist (fun _ => eg_rgrp) _ _ _ (eg_rcnt 256 (eg_rnum 4 hn)))
end Go.Th
