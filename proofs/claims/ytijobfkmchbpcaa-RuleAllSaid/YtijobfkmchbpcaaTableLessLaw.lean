/-
  Tables: without a rule. Plain lists, no program in sight.
-/
import Derived.Test.YtijobfkmchbpcaaTableMore
namespace Go.Th
/-- Rules that are made such as may be, may be. -/
theorem Ru.fit_may (r : Ru) (nodes : Int) (hn : 1 ≤ nodes) (_h : r.Ok) : (r.fit nodes).may nodes = 0 := by
  have hp : pmay (r.fit nodes).a (r.fit nodes).n = 0 := by
    unfold pmay
    rw [if_neg (by show ¬ (r.n % 33 < 0 ∨ 32 < r.n % 33); omega)]
    exact if_pos (lead_mod r.a (r.n % 33))
  have h3 := Int.emod_nonneg r.next (b := nodes) (by omega)
  have h4 := Int.emod_lt_of_pos r.next (b := nodes) (by omega)
  unfold Ru.may
  rw [if_neg (by simp [hp])]
  show (if (if r.act % 3 = 0 then 3 else r.act % 3) = 1 then (if (if r.act % 3 = 1 then r.next % nodes else 0) < 0 ∨ nodes ≤ (if r.act % 3 = 1 then r.next % nodes else 0) then (10 : Int) else 0) else if (if r.act % 3 = 0 then 3 else r.act % 3) = 2 ∨ (if r.act % 3 = 0 then 3 else r.act % 3) = 3 then (if (if r.act % 3 = 1 then r.next % nodes else 0) ≠ 0 then 10 else 0) else 9) = 0
  have hc : r.act % 3 = 0 ∨ r.act % 3 = 1 ∨ r.act % 3 = 2 := by omega
  rcases hc with h0 | h0 | h0 <;> simp [h0] <;> omega
theorem fitted_may {nodes : Int} (hn : 1 ≤ nodes) {l : List Ru} (hf : Fitted nodes l) (ho : ∀ r ∈ l, r.Ok) : ∀ r ∈ l, r.may nodes = 0 := fun r hr => by
  have := Ru.fit_may r nodes hn (ho r hr)
  rwa [hf r hr] at this
theorem cmp_one {r s : Ru} (h : r.cmp s < 0) : s.cmp r = 1 := by
  have h1 := Ru.cmp_neg r s
  have h2 := Ru.cmp_vals r s
  omega
theorem tmayGo_ok {nodes : Int} : ∀ (l : List Ru) (p : Option Ru), (∀ q, p = some q → ∀ r ∈ l, q.cmp r < 0) → Sorted l → (∀ r ∈ l, r.may nodes = 0) → tmayGo nodes p l = 0
  | [], _, _, _, _ => rfl
  | r :: l, p, hp, hs, hm => by
    obtain ⟨h1, h2⟩ := List.pairwise_cons.1 hs
    rw [tmayGo, if_neg (by simp [hm r (by simp)])]
    have ho : outOf p r = false := by
      cases p with
      | none => rfl
      | some q => show decide (r.cmp q ≠ 1) = false; have := cmp_one (hp q rfl r (by simp)); simp [this]
    rw [if_neg (by simp [ho])]
    exact tmayGo_ok l (some r) (fun q hq => by injection hq with hq; subst hq; exact h1) h2 (fun s hs => hm s (by simp [hs]))
theorem tmay_ok {l : List Ru} {nodes : Int} (hs : Sorted l) (hm : ∀ r ∈ l, r.may nodes = 0) : tmay l nodes = 0 := tmayGo_ok l none (fun q h => by cases h) hs hm
/-- Without the rule at place k. -/
def less (l : List Ru) (k : Nat) : List Ru := l.take k ++ l.drop (k + 1)
theorem less_sub (l : List Ru) (k : Nat) : (less l k).Sublist l := by
  have h1 : (l.drop (k + 1)).Sublist (l.drop k) := by rw [← List.drop_drop]; exact List.drop_sublist _ _
  have h2 := List.Sublist.append (List.Sublist.refl (l.take k)) h1
  rw [List.take_append_drop] at h2
  exact h2
theorem less_mem {l : List Ru} {k : Nat} {r t : Ru} (hk : l[k]? = some r) : t ∈ l ↔ t ∈ less l k ∨ t = r := by
  obtain ⟨hl, rfl⟩ := List.getElem?_eq_some_iff.1 hk
  have e : l = l.take k ++ l[k] :: l.drop (k + 1) := by rw [← List.drop_eq_getElem_cons hl, List.take_append_drop]
  constructor
  · intro h
    rw [e] at h
    unfold less
    rcases List.mem_append.1 h with h | h
    · exact .inl (List.mem_append_left _ h)
    · rcases List.mem_cons.1 h with h | h
      · exact .inr h
      · exact .inl (List.mem_append_right _ h)
  · rintro (h | rfl)
    · exact (less_sub l k).mem h
    · exact List.getElem_mem hl
theorem less_not {l : List Ru} (hg : GoodT l) {k : Nat} {r : Ru} (hk : l[k]? = some r) : r ∉ less l k := by
  obtain ⟨hl, rfl⟩ := List.getElem?_eq_some_iff.1 hk
  have e : l = l.take k ++ l[k] :: l.drop (k + 1) := by rw [← List.drop_eq_getElem_cons hl, List.take_append_drop]
  have hs : Sorted l := hg.sorted
  unfold Sorted at hs
  rw [e] at hs
  obtain ⟨_, h2, h3⟩ := List.pairwise_append.1 hs
  obtain ⟨h4, _⟩ := List.pairwise_cons.1 h2
  intro h
  have hz : (l[k]).cmp l[k] = 0 := (Ru.cmp_zero _ _).2 ⟨rfl, rfl⟩
  rcases List.mem_append.1 h with h | h
  · have := h3 _ h (l[k]) (List.mem_cons.2 (.inl rfl)); omega
  · have := h4 _ h; omega
theorem less_good {l : List Ru} (hg : GoodT l) (k : Nat) : GoodT (less l k) := ⟨fun r hr => hg.pre r ((less_sub l k).mem hr), List.Pairwise.sublist (less_sub l k) hg.sorted⟩
theorem less_find {l : List Ru} (hg : GoodT l) {k : Nat} {t : Ru} (hk : l[k]? = some t) (x : Int) {r s : Ru} {ok is : Bool} (hr : tfind l x = (r, ok)) (hs : tfind (less l k) x = (s, is)) :
    (ok = true ∧ r = t ∧ (is = true → s.n < r.n)) ∨ (ok = true ∧ r ≠ t ∧ r ∈ l ∧ t ∈ l ∧ s = r ∧ is = ok) ∨ (ok = false ∧ s = r ∧ is = ok) := by
  have h1 := tfind_best l x
  have h2 := tfind_best (less l k) x
  rw [hr] at h1
  rw [hs] at h2
  have hgl := less_good hg k
  cases ok with
  | false =>
    right; right
    obtain ⟨e1, e2⟩ := h1.1 rfl
    have := hgl.best (x := x) (p := (r, false)) ⟨fun _ => ⟨e1, fun u hu => e2 u ((less_sub l k).mem hu)⟩, fun h => by cases h⟩
    rw [hs] at this
    injection this with a b
    exact ⟨rfl, a, b⟩
  | true =>
    obtain ⟨a1, a2, a3⟩ := h1.2 rfl
    by_cases e : r = t
    · left
      refine ⟨rfl, e, fun hi => ?_⟩
      obtain ⟨b1, b2, b3⟩ := h2.2 hi
      have hsl := (less_sub l k).mem b1
      have c1 := a3 s hsl b2
      rcases Int.lt_or_eq_of_le c1 with h | h
      · exact h
      · have := hg.uniq hsl a1 b2 a2 h
        subst this
        rw [e] at b1
        exact absurd b1 (less_not hg hk)
    · right; left
      have hrl : r ∈ less l k := by
        rcases (less_mem hk).1 a1 with h | h
        · exact h
        · exact absurd h e
      have := hgl.best (x := x) (p := (r, true)) ⟨(fun h => by cases h), fun _ => ⟨hrl, a2, fun u hu hh => a3 u ((less_sub l k).mem hu) hh⟩⟩
      rw [hs] at this
      injection this with a b
      exact ⟨rfl, e, a1, List.mem_of_getElem? hk, a, b⟩
/-- Two rules of a table part in their address or their length. -/
theorem GoodT.part {l : List Ru} (hg : GoodT l) {r t : Ru} (hr : r ∈ l) (ht : t ∈ l) (h : r ≠ t) : (r.a == t.a) = false ∨ ((r.a == t.a) = true ∧ (r.n == t.n) = false) := by
  by_cases e : r.a = t.a
  · right
    refine ⟨by simp [e], ?_⟩
    by_cases e2 : r.n = t.n
    · exact absurd (hg.sorted.key hr ht ((Ru.cmp_zero _ _).2 ⟨e, e2⟩)) h
    · simp [e2]
  · left; simp [e]
end Go.Th
