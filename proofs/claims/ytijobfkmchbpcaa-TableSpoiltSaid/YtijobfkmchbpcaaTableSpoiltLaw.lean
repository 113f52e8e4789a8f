/-
  Tables: spoilt ones. Plain lists, no program in sight.
-/
import Derived.Test.YtijobfkmchbpcaaTableLessLaw
namespace Go.Th
theorem outOf_none {p : Option Ru} {r : Ru} (hp : ∀ u, p = some u → u.cmp r < 0) : outOf p r = false := by
  cases p with
  | none => rfl
  | some q => show decide (r.cmp q ≠ 1) = false; have := cmp_one (hp q rfl); simp [this]
/-- A rule that does not follow the one ahead of it. -/
theorem tmayGo_spoilt {nodes : Int} : ∀ (pre : List Ru) (p : Option Ru) (q t : Ru) (l : List Ru), (∀ u, p = some u → ∀ r ∈ pre ++ [q], u.cmp r < 0) → Sorted (pre ++ [q]) → (∀ r ∈ pre ++ [q], r.may nodes = 0) → t.may nodes = 0 → t.cmp q ≠ 1 → tmayGo nodes p (pre ++ q :: t :: l) = 11
  | [], p, q, t, l, hp, _, hm, ht, hc => by
    show tmayGo nodes p (q :: t :: l) = 11
    rw [tmayGo, if_neg (by simp [hm q (by simp)]), if_neg (by simp [outOf_none fun u hu => hp u hu q (by simp)]), tmayGo, if_neg (by simp [ht]), if_pos (by show decide (t.cmp q ≠ 1) = true; exact decide_eq_true hc)]
  | r :: pre, p, q, t, l, hp, hs, hm, ht, hc => by
    obtain ⟨h1, h2⟩ := List.pairwise_cons.1 hs
    show tmayGo nodes p (r :: (pre ++ q :: t :: l)) = 11
    rw [tmayGo, if_neg (by simp [hm r (by simp)]), if_neg (by simp [outOf_none fun u hu => hp u hu r (by simp)])]
    exact tmayGo_spoilt pre (some r) q t l (fun u hu => by injection hu with hu; subst hu; exact h1) h2 (fun s hs => hm s (by rw [List.cons_append]; exact List.mem_cons_of_mem _ hs)) ht hc
theorem Ru.may_fewer {r : Ru} {nodes : Int} (h : r.may nodes = 0) (m : Int) : r.may m = 0 ∨ r.may m = 10 := by
  unfold Ru.may at *
  split at h
  · omega
  · rename_i h1
    rw [if_neg h1]
    split at h
    · rename_i h2
      rw [if_pos h2]
      split <;> omega
    · rename_i h2
      rw [if_neg h2]
      split at h
      · rename_i h3
        rw [if_pos h3]
        split <;> omega
      · omega
theorem Ru.may_next {r : Ru} {nodes : Int} (h : r.may nodes = 0) (ha : r.act = 1) : r.may r.next = 10 := by
  unfold Ru.may at *
  split at h
  · omega
  · rename_i h1
    rw [if_neg h1, if_pos ha, if_pos (by omega)]
/-- Fewer nodes. -/
theorem tmayGo_node {nodes most : Int} : ∀ (l : List Ru) (p : Option Ru), (∀ u, p = some u → ∀ r ∈ l, u.cmp r < 0) → Sorted l → (∀ r ∈ l, r.may nodes = 0) → (∃ r ∈ l, r.act = 1 ∧ r.next = most) → tmayGo most p l = 10
  | [], _, _, _, _, h => by obtain ⟨r, h, _⟩ := h; cases h
  | r :: l, p, hp, hs, hm, ⟨s, hs1, hs2, hs3⟩ => by
    obtain ⟨h1, h2⟩ := List.pairwise_cons.1 hs
    rw [tmayGo]
    rcases Ru.may_fewer (hm r (by simp)) most with e | e
    · rw [if_neg (by simp [e]), if_neg (by simp [outOf_none fun u hu => hp u hu r (by simp)])]
      rcases List.mem_cons.1 hs1 with e2 | hs1
      · subst e2
        have := Ru.may_next (hm s (by simp)) hs2
        rw [hs3] at this
        omega
      · exact tmayGo_node l (some r) (fun u hu => by injection hu with hu; subst hu; exact h1) h2 (fun s hs => hm s (List.mem_cons_of_mem _ hs)) ⟨s, hs1, hs2, hs3⟩
    · rw [if_pos (by omega), e]
def mostStep (m : Int) (r : Ru) : Int := if r.act = 1 then (if m ≤ r.next then r.next else m) else m
def mostOf (l : List Ru) : Int := l.foldl mostStep (-1)
theorem mostOf_snoc {l : List Ru} {k : Nat} {r : Ru} (h : l[k]? = some r) : mostOf (l.take (k + 1)) = mostStep (mostOf (l.take k)) r := by
  unfold mostOf
  rw [List.take_add_one, h, List.foldl_append]
  rfl
theorem most_fold : ∀ (l : List Ru) (m : Int), l.foldl mostStep m = m ∨ ∃ r ∈ l, r.act = 1 ∧ r.next = l.foldl mostStep m
  | [], m => .inl rfl
  | r :: l, m => by
    rw [List.foldl_cons]
    rcases most_fold l (mostStep m r) with e | ⟨s, h1, h2, h3⟩
    · rw [e]
      unfold mostStep
      split
      · split
        · rename_i ha _
          exact .inr ⟨r, by simp, ha, rfl⟩
        · exact .inl rfl
      · exact .inl rfl
    · exact .inr ⟨s, List.mem_cons_of_mem _ h1, h2, h3⟩
theorem most_node {l : List Ru} {nodes : Int} (hs : Sorted l) (hm : ∀ r ∈ l, r.may nodes = 0) (h : 0 ≤ mostOf l) : tmay l (mostOf l) = 10 :=
  tmayGo_node l none (fun u h => by cases h) hs hm ((most_fold l (-1)).resolve_left fun e => by unfold mostOf at h; omega)
theorem prefix_ok {l : List Ru} {nodes : Int} (hs : Sorted l) (hm : ∀ r ∈ l, r.may nodes = 0) (k : Nat) : tmay (l.take k) nodes = 0 :=
  tmay_ok (hs.sublist (List.take_sublist k l)) fun r hr => hm r (List.mem_of_mem_take hr)
theorem Sorted.next {l : List Ru} (h : Sorted l) {k : Nat} {a b : Ru} (ha : l[k]? = some a) (hb : l[k + 1]? = some b) : a.cmp b = -1 := by
  obtain ⟨h1, e1⟩ := List.getElem?_eq_some_iff.1 ha
  obtain ⟨h2, e2⟩ := List.getElem?_eq_some_iff.1 hb
  have := List.pairwise_iff_getElem.1 h k (k + 1) h1 h2 (by omega)
  rw [e1, e2] at this
  have := Ru.cmp_vals a b
  omega
theorem take_snoc {l : List Ru} {k : Nat} {a : Ru} (ha : l[k]? = some a) : l.take (k + 1) = l.take k ++ [a] := by
  rw [List.take_add_one, ha]; rfl
/-- A rule twice. -/
theorem twice_out {l : List Ru} {nodes : Int} (hs : Sorted l) (hm : ∀ r ∈ l, r.may nodes = 0) {k : Nat} {a : Ru} (ha : l[k]? = some a) : tmay (l.take (k + 1) ++ [a] ++ l.drop (k + 1)) nodes = 11 := by
  have e : l.take (k + 1) ++ [a] ++ l.drop (k + 1) = l.take k ++ a :: a :: l.drop (k + 1) := by rw [take_snoc ha]; simp
  have h1 : Sorted (l.take k ++ [a]) := by rw [← take_snoc ha]; exact hs.sublist (List.take_sublist _ l)
  have hz : a.cmp a = 0 := (Ru.cmp_zero _ _).2 ⟨rfl, rfl⟩
  rw [e]
  exact tmayGo_spoilt _ none a a _ (fun u h => by cases h) h1 (fun r hr => by rw [← take_snoc ha] at hr; exact hm r (List.mem_of_mem_take hr)) (hm a (List.mem_of_getElem? ha)) (by omega)
/-- Two turned about. -/
theorem turned_out {l : List Ru} {nodes : Int} (hs : Sorted l) (hm : ∀ r ∈ l, r.may nodes = 0) {k : Nat} {a b : Ru} (ha : l[k]? = some a) (hb : l[k + 1]? = some b) : tmay ((l.set k b).set (k + 1) a) nodes = 11 := by
  obtain ⟨h1, e1⟩ := List.getElem?_eq_some_iff.1 ha
  obtain ⟨h2, e2⟩ := List.getElem?_eq_some_iff.1 hb
  have hd : l = l.take k ++ a :: b :: l.drop (k + 2) := by
    conv => lhs; rw [← List.take_append_drop k l]
    rw [List.drop_eq_getElem_cons h1, List.drop_eq_getElem_cons h2, e1, e2]
  have hl : (l.take k).length = k := by rw [List.length_take]; omega
  have e : (l.set k b).set (k + 1) a = l.take k ++ b :: a :: l.drop (k + 2) := by
    conv => lhs; rw [hd]
    rw [List.set_append_right _ _ (by omega), List.set_append_right _ _ (by omega), hl]
    simp
  have hsub : (l.take k ++ [b]).Sublist l := by
    conv => rhs; rw [hd]
    exact List.Sublist.append (List.Sublist.refl _) (List.Sublist.cons _ (List.Sublist.cons_cons _ (List.nil_sublist _)))
  have hc := hs.next ha hb
  rw [e]
  exact tmayGo_spoilt _ none b a _ (fun u h => by cases h) (hs.sublist hsub) (fun r hr => hm r (hsub.mem hr)) (hm a (List.mem_of_getElem? ha)) (by omega)
end Go.Th
