/-
  Parts and certificates as numbers and lists: whether parts meet, whether a certificate may be. No program in sight.
-/
import Derived.Test.YteellpcagdnikaaStore
namespace Go.Th
open Go.RowKit
/-- A part: its ends, where its ranks lie, and its ranks. -/
structure Pt where
  fr : Int
  to : Int
  A : Option Addr
  n : Nat
  c : Nat
  rk : List Int
def Pt.cs (p : Pt) : List Value := [.int .u32 p.fr, .int .u32 p.to, .slice p.A p.n p.c]
theorem Pt.cs_length (p : Pt) : p.cs.length = 3 := rfl
structure Pt.Ok (p : Pt) : Prop where
  fr : 0 ≤ p.fr ∧ p.fr ≤ 4294967295
  to : 0 ≤ p.to ∧ p.to ≤ 4294967295
theorem Pt.one (p : Pt) : ∀ u ∈ p.cs, u.oneCell' = true := by
  intro u hu
  simp only [Pt.cs, List.mem_cons, List.not_mem_nil, or_false] at hu
  rcases hu with rfl | rfl | rfl <;> rfl
def meetF : Int → List Pt → Bool
  | x, [] => decide (x = 4294967296)
  | x, p :: ps => decide (p.fr = x) && (decide (p.fr ≤ p.to) && meetF (p.to + 1) ps)
def pmeet (ps : List Pt) : Int := if meetF 0 ps = true then 0 else 15
def nextOf (ps : List Pt) : Nat → Int
  | 0 => 0
  | k + 1 => match ps[k]? with
    | some p => p.to + 1
    | none => 0
theorem nextOf_succ {ps : List Pt} {k : Nat} {p : Pt} (h : ps[k]? = some p) : nextOf ps (k + 1) = p.to + 1 := by simp [nextOf, h]
theorem drop_cons {α : Type} {ps : List α} {k : Nat} {p : α} (h : ps[k]? = some p) : ps.drop k = p :: ps.drop (k + 1) := by
  obtain ⟨hl, e⟩ := List.getElem?_eq_some_iff.1 h
  rw [List.drop_eq_getElem_cons hl, e]
/-- One step: on, or not. -/
theorem meet_on {ps : List Pt} {k : Nat} {p : Pt} (h : ps[k]? = some p) (h1 : p.fr = nextOf ps k) (h2 : p.fr ≤ p.to) : meetF (nextOf ps k) (ps.drop k) = meetF (nextOf ps (k + 1)) (ps.drop (k + 1)) := by
  rw [drop_cons h, nextOf_succ h]
  show (decide (p.fr = nextOf ps k) && (decide (p.fr ≤ p.to) && meetF (p.to + 1) _)) = _
  rw [decide_eq_true h1, decide_eq_true h2]
  rfl
theorem meet_no {ps : List Pt} {k : Nat} {p : Pt} (h : ps[k]? = some p) (h1 : p.fr ≠ nextOf ps k ∨ p.to < p.fr) : meetF (nextOf ps k) (ps.drop k) = false := by
  rw [drop_cons h]
  simp only [meetF]
  rcases h1 with h1 | h1
  · simp [h1]
  · have : ¬ p.fr ≤ p.to := by omega
    simp [this]
theorem meet_last : ∀ (ps : List Pt) (x : Int) (p : Pt), meetF x ps = true → ps.getLast? = some p → p.to = 4294967295
  | [], _, _, _, h => by simp at h
  | [q], x, p, h, hl => by
    simp at hl
    subst hl
    simp only [meetF, Bool.and_eq_true, decide_eq_true_eq] at h
    omega
  | q :: r :: ps, x, p, h, hl => by
    simp only [meetF, Bool.and_eq_true] at h
    exact meet_last (r :: ps) (q.to + 1) p (by simp only [meetF, Bool.and_eq_true]; exact h.2.2) (by rw [List.getLast?_cons_cons] at hl; exact hl)
theorem meet_first {ps : List Pt} {p : Pt} (h : ps[0]? = some p) (hf : p.fr ≠ 0) : meetF 0 ps = false := by
  cases ps with
  | nil => simp at h
  | cons q ps => simp at h; subst h; simp [meetF, hf]
theorem meet_end {ps : List Pt} {n : Nat} {p : Pt} (hn : ps.length = n + 1) (h : ps[n]? = some p) (hf : p.to ≠ 4294967295) : meetF 0 ps = false := by
  cases hm : meetF 0 ps with
  | false => rfl
  | true => exact absurd (meet_last ps 0 p hm (by rw [List.getLast?_eq_getElem?, hn]; exact h)) hf
/-- A number that is no node. -/
def outs (nodes x : Int) : Bool := decide (x < 0) || decide (nodes ≤ x)
def ranks (nodes : Int) : List Pt → Int
  | [] => 0
  | p :: ps => if (p.rk.length : Int) ≠ nodes then 1 else if p.rk.any (outs nodes) = true then 16 else ranks nodes ps
def cfree (ps : List Pt) (d : Int) (tr : List Int) (nodes : Int) : Int :=
  if d ≠ 0 ∨ tr.length ≠ 0 then 3 else if 8193 < ps.length then 12 else if meetF 0 ps = false then 15 else ranks nodes ps
/-- A trace: unlike nodes, the least one first. -/
def trgo (seen : List Int) (first : Int) : List Int → Int
  | [] => 0
  | x :: l => if x ∈ seen ∨ x < first then 17 else trgo (seen ++ [x]) first l
def trfirst : List Int → Int
  | [] => 0
  | x :: _ => x
def cloops (ps : List Pt) (tr : List Int) (nodes : Int) : Int :=
  if ps.length ≠ 0 then 3 else if tr.length = 0 ∨ nodes < tr.length then 12 else if tr.any (outs nodes) = true then 10 else trgo [] (trfirst tr) tr
def cmay (v : Int) (ps : List Pt) (d : Int) (tr : List Int) (nodes : Int) : Int :=
  if v = 1 then cfree ps d tr nodes else if v = 2 then cloops ps tr nodes else 9
theorem ranks_on {ps : List Pt} {nodes : Int} {k : Nat} {p : Pt} (h : ps[k]? = some p) (h1 : (p.rk.length : Int) = nodes) (h2 : p.rk.any (outs nodes) = false) : ranks nodes (ps.drop k) = ranks nodes (ps.drop (k + 1)) := by
  rw [drop_cons h]
  simp only [ranks]
  rw [if_neg (by omega), if_neg (by simp [h2])]
theorem ranks_size {ps : List Pt} {nodes : Int} {k : Nat} {p : Pt} (h : ps[k]? = some p) (h1 : (p.rk.length : Int) ≠ nodes) : ranks nodes (ps.drop k) = 1 := by
  rw [drop_cons h]
  simp only [ranks]
  rw [if_pos h1]
theorem ranks_out {ps : List Pt} {nodes : Int} {k : Nat} {p : Pt} (h : ps[k]? = some p) (h1 : (p.rk.length : Int) = nodes) (h2 : p.rk.any (outs nodes) = true) : ranks nodes (ps.drop k) = 16 := by
  rw [drop_cons h]
  simp only [ranks]
  rw [if_neg (by omega), if_pos h2]
theorem any_snoc {α : Type} {l : List α} {k : Nat} {x : α} (h : l[k]? = some x) (f : α → Bool) : (l.take (k + 1)).any f = ((l.take k).any f || f x) := by
  rw [List.take_add_one, h]
  simp
end Go.Th
