/-
  The plain law of theseuslaw17.CertMeets. No program in sight.
-/
import Derived.Test.YteellpcagdnikaaCertFitLaw
set_option linter.unusedVariables false
namespace Go.Th
open Go.RowKit
/-- How many parts an address is in. -/
def inPart (x : Int) (p : Pt) : Bool := decide (p.fr ≤ x) && decide (x ≤ p.to)
def cnt (x : Int) (ps : List Pt) : Nat := (ps.filter (inPart x)).length
theorem cnt_snoc {ps : List Pt} {k : Nat} {p : Pt} (h : ps[k]? = some p) (x : Int) : cnt x (ps.take (k + 1)) = cnt x (ps.take k) + (if inPart x p = true then 1 else 0) := by
  unfold cnt
  rw [List.take_add_one, h, List.filter_append]
  simp only [Option.toList, List.length_append, List.filter_cons, List.filter_nil]
  split <;> rfl
theorem cnt_le (x : Int) (ps : List Pt) : cnt x ps ≤ ps.length := List.length_filter_le _ _
theorem cnt_meet : ∀ (ps : List Pt) (y x : Int), meetF y ps = true → x ≤ 4294967295 → (x < y → cnt x ps = 0) ∧ (y ≤ x → cnt x ps = 1)
  | [], y, x, h, hx => by
    simp only [meetF, decide_eq_true_eq] at h
    exact ⟨fun _ => rfl, fun _ => by omega⟩
  | p :: ps, y, x, h, hx => by
    simp only [meetF, Bool.and_eq_true, decide_eq_true_eq] at h
    obtain ⟨h1, h2, h3⟩ := h
    obtain ⟨i1, i2⟩ := cnt_meet ps (p.to + 1) x h3 hx
    have hc : cnt x (p :: ps) = (if inPart x p = true then 1 else 0) + cnt x ps := by
      unfold cnt
      rw [List.filter_cons]
      split <;> simp <;> omega
    rw [hc]
    unfold inPart
    refine ⟨fun h => ?_, fun h => ?_⟩
    · rw [i1 (by omega), if_neg (by simp; omega)]
    · by_cases g : x ≤ p.to
      · rw [i1 (by omega), if_pos (by simp; omega)]
      · rw [i2 (by omega), if_neg (by simp; omega)]
/-- What the law looks at, part by part. -/
def meetAt (ps : List Pt) (j : Nat) : Prop := ∀ p, ps[j]? = some p → (∀ q, ps[j + 1]? = some q → p.fr < q.fr ∧ p.to = q.fr - 1) ∧ (ps[j + 1]? = none → p.to = 4294967295)
def meetHead (ps : List Pt) : Prop := ∃ p, ps[0]? = some p ∧ p.fr = 0
theorem meetAt_of {ps : List Pt} (h : meetF 0 ps = true) (j : Nat) : meetAt ps j := by
  rw [meet_iff] at h
  intro p hp
  refine ⟨fun q hq => ?_, fun hq => ?_⟩
  · have h1 := h.1 j p hp
    have h2 := h.1 (j + 1) q hq
    rw [nextOf_succ hp] at h2
    omega
  · have hl := List.getElem?_eq_none_iff.1 hq
    have hj := (List.getElem?_eq_some_iff.1 hp).1
    have e : ps.length = j + 1 := by omega
    have h2 := h.2
    rw [e, nextOf_succ hp] at h2
    omega
theorem meetHead_of {ps : List Pt} (h : meetF 0 ps = true) : meetHead ps := by
  cases ps with
  | nil => simp [meetF] at h
  | cons p ps =>
    simp only [meetF, Bool.and_eq_true, decide_eq_true_eq] at h
    exact ⟨p, rfl, h.1⟩
theorem meet_of_at {ps : List Pt} (hh : meetHead ps) (hok : ∀ p ∈ ps, p.Ok) (h : ∀ j, j < ps.length → meetAt ps j) : meetF 0 ps = true := by
  rw [meet_iff]
  have hlast : ∀ j p, ps[j]? = some p → nextOf ps j = p.fr := by
    intro j p hp
    cases j with
    | zero =>
      obtain ⟨p0, h0, hf⟩ := hh
      rw [h0] at hp
      injection hp with hp
      subst hp
      exact hf.symm
    | succ j =>
      have hj := (List.getElem?_eq_some_iff.1 hp).1
      obtain ⟨q, hq⟩ : ∃ q, ps[j]? = some q := ⟨ps[j]'(by omega), List.getElem?_eq_getElem _⟩
      rw [nextOf_succ hq]
      have := (h j (by omega) q hq).1 p hp
      omega
  refine ⟨fun j p hp => ⟨(hlast j p hp).symm, ?_⟩, ?_⟩
  · have hj := (List.getElem?_eq_some_iff.1 hp).1
    by_cases e : j + 1 < ps.length
    · have := (h j hj p hp).1 _ (List.getElem?_eq_getElem e)
      omega
    · have := (h j hj p hp).2 (List.getElem?_eq_none (by omega))
      have := (hok p (List.mem_of_getElem? hp)).fr
      omega
  · obtain ⟨p0, h0, _⟩ := hh
    have hl := (List.getElem?_eq_some_iff.1 h0).1
    obtain ⟨m, hm⟩ : ∃ m, ps.length = m + 1 := ⟨ps.length - 1, by omega⟩
    obtain ⟨q, hq⟩ : ∃ q, ps[m]? = some q := ⟨ps[m]'(by omega), List.getElem?_eq_getElem _⟩
    rw [hm, nextOf_succ hq]
    have := (h m (by omega) q hq).2 (List.getElem?_eq_none (by omega))
    omega
/-- What the law knows behind k parts. -/
def MeetI (ps : List Pt) (k : Nat) (b : Bool) : Prop := (b = true ∧ meetHead ps ∧ ∀ j, j < k → meetAt ps j) ∨ (b = false ∧ ¬ meetF 0 ps = true)
theorem MeetI.fin {ps : List Pt} {k : Nat} {b : Bool} (h : MeetI ps k b) (hok : ∀ p ∈ ps, p.Ok) (hk : b = true → k = ps.length) : b = decide (meetF 0 ps = true) := by
  rcases h with ⟨rfl, h1, h2⟩ | ⟨rfl, h1⟩
  · rw [decide_eq_true]
    have := hk rfl
    subst this
    exact meet_of_at h1 hok h2
  · rw [decide_eq_false h1]
theorem MeetI.no {ps : List Pt} {k : Nat} (hn : ¬ meetAt ps k) : MeetI ps (k + 1) false := .inr ⟨rfl, fun h => hn (meetAt_of h k)⟩
theorem MeetI.yes {ps : List Pt} {k : Nat} (h : MeetI ps k true) (hn : meetAt ps k) : MeetI ps (k + 1) true := by
  rcases h with ⟨_, h1, h2⟩ | ⟨h, _⟩
  · refine .inl ⟨rfl, h1, fun j hj => ?_⟩
    by_cases e : j = k
    · subst e; exact hn
    · exact h2 j (by omega)
  · cases h
theorem pmeet_no {ps : List Pt} (h : ¬ meetF 0 ps = true) : pmeet ps = 15 := if_neg h
theorem pmeet_yes {ps : List Pt} (h : meetF 0 ps = true) : pmeet ps = 0 := if_pos h
end Go.Th
