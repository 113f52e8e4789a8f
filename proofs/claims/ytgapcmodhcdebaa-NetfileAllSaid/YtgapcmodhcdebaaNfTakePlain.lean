/-
  Networks of bytes: plain lists.
-/
import Derived.Test.YtgapcmodhcdebaaNfPlain
import Derived.Test.YtgapcmodhcdebaaNfMe
namespace Go.Proofs.Ytgapcmodhcdebaa
open Go.RowKit Go.Th
set_option linter.unusedVariables false
/-- The rule that bytes begin with, what is behind it, and the error. -/
def rdr (bs : List UInt8) : Ru × List UInt8 × Int := if bs.length < 8 then (Ru.zero, [], 2) else (rtk bs, bs.drop 8, 0)
def goT {α : Type} (one : List UInt8 → α × List UInt8 × Int) : Nat → List α → List UInt8 → List α × Int
  | 0, acc, bs => if bs = [] then (acc, 0) else ([], 4)
  | n + 1, acc, bs => if (one bs).2.2 ≠ 0 then ([], (one bs).2.2) else goT one n (acc ++ [(one bs).1]) (one bs).2.1
def allT {α : Type} (one : List UInt8 → α × List UInt8 × Int) (bound : Nat) (bs : List UInt8) : List α × Int :=
  if (gtake bs).2.2 ≠ 0 then ([], (gtake bs).2.2) else if bound < (gtake bs).1 then ([], 12) else goT one (gtake bs).1 [] (bs.drop (gtake bs).2.1)
def nodeT (bs : List UInt8) : List Ru × List UInt8 × Int :=
  if (fopen 84 bs).2.2 ≠ 0 then ([], [], (fopen 84 bs).2.2)
  else if (allT rdr 4096 (fopen 84 bs).1).2 ≠ 0 then ([], [], (allT rdr 4096 (fopen 84 bs).1).2)
  else ((allT rdr 4096 (fopen 84 bs).1).1, (fopen 84 bs).2.1, 0)
def netT (bs : List UInt8) : List (List Ru) × Int := allT nodeT 256 bs
/-- What Take answers of what stands between magic and sum. -/
def inT (bs : List UInt8) : List (List Ru) × Int :=
  if (netT bs).2 ≠ 0 then ([], (netT bs).2) else if nmay (netT bs).1 ≠ 0 then ([], nmay (netT bs).1) else ((netT bs).1, 0)
def ntk (bs : List UInt8) : List (List Ru) × Int := if (ftake 1179206193 bs).2 ≠ 0 then ([], (ftake 1179206193 bs).2) else inT (ftake 1179206193 bs).1
theorem goT_go {α : Type} {one : List UInt8 → α × List UInt8 × Int} {n : Nat} {acc : List α} {bs : List UInt8} (h : (one bs).2.2 = 0) : goT one (n + 1) acc bs = goT one n (acc ++ [(one bs).1]) (one bs).2.1 := by
  rw [goT, if_neg (by simpa using h)]
theorem goT_stop {α : Type} {one : List UInt8 → α × List UInt8 × Int} {n : Nat} {acc : List α} {bs : List UInt8} (h : (one bs).2.2 ≠ 0) : goT one (n + 1) acc bs = ([], (one bs).2.2) := by
  rw [goT, if_pos h]
theorem goT_end {α : Type} {one : List UInt8 → α × List UInt8 × Int} {acc : List α} : goT one 0 acc [] = (acc, 0) := by rw [goT, if_pos rfl]
theorem goT_more {α : Type} {one : List UInt8 → α × List UInt8 × Int} {acc : List α} {bs : List UInt8} (h : bs ≠ []) : goT one 0 acc bs = ([], 4) := by rw [goT, if_neg h]
/-- The law of lists: what was put is taken. -/
theorem goT_put {α : Type} {one : List UInt8 → α × List UInt8 × Int} {put : α → List UInt8} : ∀ (xs acc : List α) (t : List UInt8), (∀ x ∈ xs, ∀ t, one (put x ++ t) = (x, t, 0)) → goT one xs.length acc (xs.flatMap put ++ t) = if t = [] then (acc ++ xs, 0) else ([], 4)
  | [], acc, t, _ => by simp [goT]
  | x :: xs, acc, t, h => by
    have e : (x :: xs).flatMap put ++ t = put x ++ (xs.flatMap put ++ t) := by simp
    rw [e, List.length_cons, goT_go (by rw [h x (by simp)]), h x (by simp), goT_put xs _ t (fun y hy => h y (by simp [hy]))]
    simp
/-- What is taken was put. -/
theorem goT_back {α : Type} {one : List UInt8 → α × List UInt8 × Int} {put : α → List UInt8} {ok : α → Prop} (hone : ∀ bs, (one bs).2.2 = 0 → bs = put (one bs).1 ++ (one bs).2.1 ∧ ok (one bs).1) :
    ∀ (n : Nat) (acc : List α) (bs : List UInt8), (goT one n acc bs).2 = 0 → ∃ xs, (goT one n acc bs).1 = acc ++ xs ∧ xs.length = n ∧ bs = xs.flatMap put ∧ ∀ x ∈ xs, ok x
  | 0, acc, bs, h => by
    by_cases hb : bs = []
    · subst hb
      exact ⟨[], by simp [goT], rfl, rfl, by simp⟩
    · rw [goT_more hb] at h
      cases h
  | n + 1, acc, bs, h => by
    by_cases h1 : (one bs).2.2 = 0
    · rw [goT_go h1] at h ⊢
      obtain ⟨xs, hx, hl, hb, ho⟩ := goT_back hone n _ _ h
      obtain ⟨h3, h4⟩ := hone bs h1
      refine ⟨(one bs).1 :: xs, by rw [hx]; simp, by simp [hl], ?_, ?_⟩
      · conv => lhs; rw [h3, hb]
        simp
      · intro x hx
        rcases List.mem_cons.1 hx with rfl | hx
        · exact h4
        · exact ho x hx
    · rw [goT_stop h1] at h
      exact absurd h h1
theorem allT_err {α : Type} {one : List UInt8 → α × List UInt8 × Int} {b : Nat} {bs : List UInt8} (h : (gtake bs).2.2 ≠ 0) : allT one b bs = ([], (gtake bs).2.2) := if_pos h
theorem allT_many {α : Type} {one : List UInt8 → α × List UInt8 × Int} {b : Nat} {bs : List UInt8} (h : (gtake bs).2.2 = 0) (h2 : b < (gtake bs).1) : allT one b bs = ([], 12) := by
  unfold allT
  rw [if_neg (by simpa using h), if_pos h2]
theorem allT_go {α : Type} {one : List UInt8 → α × List UInt8 × Int} {b : Nat} {bs : List UInt8} (h : (gtake bs).2.2 = 0) (h2 : ¬ b < (gtake bs).1) : allT one b bs = goT one (gtake bs).1 [] (bs.drop (gtake bs).2.1) := by
  unfold allT
  rw [if_neg (by simpa using h), if_neg h2]
theorem goT_len {α : Type} {one : List UInt8 → α × List UInt8 × Int} : ∀ (n : Nat) (acc : List α) (bs : List UInt8), (goT one n acc bs).1.length ≤ acc.length + n
  | 0, acc, bs => by
    rw [goT]
    split <;> simp
  | n + 1, acc, bs => by
    rw [goT]
    split
    · simp
    · have := goT_len (one := one) n (acc ++ [(one bs).1]) (one bs).2.1
      simp at this
      omega
theorem goT_all {α : Type} {one : List UInt8 → α × List UInt8 × Int} {P : α → Prop} (h : ∀ bs, P (one bs).1) : ∀ (n : Nat) (acc : List α) (bs : List UInt8), (∀ x ∈ acc, P x) → ∀ x ∈ (goT one n acc bs).1, P x
  | 0, acc, bs, ha => by
    rw [goT]
    split
    · exact ha
    · simp
  | n + 1, acc, bs, ha => by
    rw [goT]
    split
    · simp
    · refine goT_all h n _ _ fun x hx => ?_
      rcases List.mem_append.1 hx with hx | hx
      · exact ha x hx
      · rw [List.mem_singleton.1 hx]; exact h bs
theorem allT_len {α : Type} {one : List UInt8 → α × List UInt8 × Int} (b : Nat) (bs : List UInt8) : (allT one b bs).1.length ≤ b := by
  unfold allT
  split
  · simp
  · split
    · simp
    · have := goT_len (one := one) (gtake bs).1 [] (bs.drop (gtake bs).2.1)
      simp at this
      omega
theorem allT_all {α : Type} {one : List UInt8 → α × List UInt8 × Int} {P : α → Prop} (h : ∀ bs, P (one bs).1) (b : Nat) (bs : List UInt8) : ∀ x ∈ (allT one b bs).1, P x := by
  unfold allT
  split
  · simp
  · split
    · simp
    · exact goT_all h _ _ _ (by simp)
theorem rtk_ok (bs : List UInt8) : (rtk bs).Ok := by
  have h0 : 0 ≤ (rtk bs).a ∧ (rtk bs).a < 4294967296 := fit1_rtk bs 0 (by omega)
  have h1 : 0 ≤ (rtk bs).n ∧ (rtk bs).n < 256 := fit1_rtk bs 1 (by omega)
  have h2 : 0 ≤ (rtk bs).act ∧ (rtk bs).act < 256 := fit1_rtk bs 2 (by omega)
  have h3 : 0 ≤ (rtk bs).next ∧ (rtk bs).next < 65536 := fit1_rtk bs 3 (by omega)
  exact ⟨⟨h0.1, by omega⟩, ⟨by omega, by omega⟩, ⟨by omega, by omega⟩, ⟨by omega, by omega⟩⟩
theorem zero_ok : Ru.zero.Ok := ⟨by decide, by decide, by decide, by decide⟩
theorem zero_fit : ∀ j, j < 4 → Fit1 Ru.zero j := by
  intro j hj
  have : j = 0 ∨ j = 1 ∨ j = 2 ∨ j = 3 := by omega
  rcases this with rfl | rfl | rfl | rfl <;> exact ⟨by decide, by decide⟩
theorem rdr_fit (bs : List UInt8) : (rdr bs).1.Ok ∧ ∀ j, j < 4 → Fit1 (rdr bs).1 j := by
  unfold rdr
  split
  · exact ⟨zero_ok, zero_fit⟩
  · exact ⟨rtk_ok bs, fit1_rtk bs⟩
theorem rdr_back {bs : List UInt8} (h : (rdr bs).2.2 = 0) : bs = pre (rdr bs).1 4 ++ (rdr bs).2.1 := by
  unfold rdr at h ⊢
  split at h
  · cases h
  · rename_i h8
    rw [if_neg h8]
    simp only
    rw [pre_rtk (by omega), List.take_append_drop]
theorem rdr_put (r : Ru) (h : ∀ j, j < 4 → Fit1 r j) (t : List UInt8) : rdr (pre r 4 ++ t) = (r, t, 0) := by
  unfold rdr
  rw [if_neg (by rw [List.length_append, pre_length]; omega), rtk_pre r h, List.drop_left' (pre_length r)]
theorem rdr_le (bs : List UInt8) : (rdr bs).2.1.length ≤ bs.length := by
  unfold rdr
  split
  · simp
  · rw [List.length_drop]; omega
theorem fopen_le (t : UInt8) (bs : List UInt8) : (fopen t bs).1.length ≤ bs.length ∧ (fopen t bs).2.1.length ≤ bs.length := by
  cases bs with
  | nil => exact ⟨Nat.le_refl _, Nat.le_refl _⟩
  | cons b r =>
    rw [fopen_cons]
    split
    · split
      · split
        · simp
        · simp only [List.length_take, List.length_drop, List.length_cons]; omega
      · simp
    · simp
theorem nodeT_le (bs : List UInt8) : (nodeT bs).2.1.length ≤ bs.length := by
  unfold nodeT
  split
  · simp
  · split
    · simp
    · exact (fopen_le 84 bs).2
theorem nodeT_fit (bs : List UInt8) : ∀ r ∈ (nodeT bs).1, r.Ok ∧ ∀ j, j < 4 → Fit1 r j := by
  unfold nodeT
  split
  · simp
  · split
    · simp
    · exact allT_all rdr_fit _ _
end Go.Proofs.Ytgapcmodhcdebaa
