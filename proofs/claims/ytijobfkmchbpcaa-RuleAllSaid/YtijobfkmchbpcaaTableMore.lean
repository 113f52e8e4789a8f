/-
  Tables: a rule of one address. Plain lists, no program in sight.
-/
import Derived.Test.YtijobfkmchbpcaaTableLaw
namespace Go.Th
def host (a : Int) : Ru := ⟨a, 32, 2, 0⟩
/-- The rules of other prefixes. -/
def others (a : Int) (l : List Ru) : List Ru := l.filter fun t => decide (t.a ≠ a ∨ t.n ≠ 32)
theorem others_mem {a : Int} {l : List Ru} {t : Ru} (h : t ∈ others a l) : t ∈ l := (List.mem_filter.1 h).1
theorem others_step (a : Int) {l : List Ru} {k : Nat} {t : Ru} (h : l[k]? = some t) : others a (l.take (k + 1)) = others a (l.take k) ++ if t.a ≠ a ∨ t.n ≠ 32 then [t] else [] := by
  unfold others
  rw [List.take_add_one, h, List.filter_append]
  congr 1
  simp only [Option.toList_some, List.filter_cons, List.filter_nil, decide_eq_true_eq]
theorem sh_32 : sh 32 = 0 := by decide
theorem head_32 (a : Int) : head a 32 = a.toNat := by unfold head; rw [sh_32]; simp
theorem host_fit (a : Int) (ha : 0 ≤ a) : (host a).fit 9 = host a := by
  unfold host Ru.fit lead
  simp [sh_32, show (32 : Int) % 33 = 32 by decide]
  omega
theorem host_pre {a : Int} (ha : 0 ≤ a ∧ a ≤ 4294967295) : (host a).Pre :=
  ⟨⟨ha, (show (-9223372036854775808 : Int) ≤ 32 ∧ (32 : Int) ≤ 9223372036854775807 by omega), (show (-9223372036854775808 : Int) ≤ 2 ∧ (2 : Int) ≤ 9223372036854775807 by omega), (show (-9223372036854775808 : Int) ≤ 0 ∧ (0 : Int) ≤ 9223372036854775807 by omega)⟩, (show (0 : Int) ≤ 32 by omega), (show (32 : Int) ≤ 32 by omega), by show a.toNat % 2 ^ sh 32 = 0; rw [sh_32]; omega⟩
theorem host_holds {a x : Int} (ha : 0 ≤ a) (hx : 0 ≤ x) : (host a).holds x = decide (a = x) := by
  unfold Ru.holds Th.holds host
  simp only [head_32]
  rw [decide_eq_decide]
  omega
/-! May. -/
def outOf (p : Option Ru) (r : Ru) : Bool := match p with
  | some q => decide (r.cmp q ≠ 1)
  | none => false
def tmayGo (nodes : Int) : Option Ru → List Ru → Int
  | _, [] => 0
  | p, r :: l => if r.may nodes ≠ 0 then r.may nodes else if outOf p r = true then 11 else tmayGo nodes (some r) l
def tmay (l : List Ru) (nodes : Int) : Int := tmayGo nodes none l
/-- The rule ahead of place k. -/
def aheadOf (l : List Ru) (k : Nat) : Option Ru := if k = 0 then none else l[k - 1]?
theorem tmay_bad {l : List Ru} {k : Nat} {r : Ru} {nodes : Int} (h : l[k]? = some r) (he : r.may nodes ≠ 0) (p : Option Ru) : tmayGo nodes p (l.drop k) = r.may nodes := by
  obtain ⟨hl, rfl⟩ := List.getElem?_eq_some_iff.1 h
  rw [List.drop_eq_getElem_cons hl, tmayGo, if_pos he]
theorem tmay_first {l : List Ru} {r : Ru} {nodes : Int} (h : l[0]? = some r) (he : r.may nodes = 0) : tmayGo nodes (aheadOf l 0) (l.drop 0) = tmayGo nodes (aheadOf l 1) (l.drop 1) := by
  obtain ⟨hl, rfl⟩ := List.getElem?_eq_some_iff.1 h
  have e : aheadOf l 1 = some l[0] := by unfold aheadOf; simp [hl]
  rw [List.drop_eq_getElem_cons hl, tmayGo, if_neg (by simp [he]), e, if_neg (by simp [aheadOf, outOf])]
theorem tmay_order {l : List Ru} {k : Nat} {r q : Ru} {nodes : Int} (h : l[k + 1]? = some r) (hq : l[k]? = some q) (he : r.may nodes = 0) (hc : r.cmp q ≠ 1) : tmayGo nodes (aheadOf l (k + 1)) (l.drop (k + 1)) = 11 := by
  obtain ⟨hl, rfl⟩ := List.getElem?_eq_some_iff.1 h
  have e : aheadOf l (k + 1) = some q := by unfold aheadOf; simp [hq]
  rw [List.drop_eq_getElem_cons hl, e, tmayGo, if_neg (by simp [he]), if_pos (by show decide (l[k + 1].cmp q ≠ 1) = true; exact decide_eq_true hc)]
theorem tmay_on {l : List Ru} {k : Nat} {r q : Ru} {nodes : Int} (h : l[k + 1]? = some r) (hq : l[k]? = some q) (he : r.may nodes = 0) (hc : r.cmp q = 1) : tmayGo nodes (aheadOf l (k + 1)) (l.drop (k + 1)) = tmayGo nodes (aheadOf l (k + 1 + 1)) (l.drop (k + 1 + 1)) := by
  obtain ⟨hl, rfl⟩ := List.getElem?_eq_some_iff.1 h
  have e : aheadOf l (k + 1) = some q := by unfold aheadOf; simp [hq]
  have e2 : aheadOf l (k + 1 + 1) = some l[k + 1] := by unfold aheadOf; simp [hl]
  rw [List.drop_eq_getElem_cons hl, e, tmayGo, if_neg (by simp [he]), e2, if_neg (by simp [outOf, hc])]
/-- What rows of rules of unlike prefixes are put to. -/
theorem fold_mem {nodes : Int} : ∀ (l out : List Ru), GoodT out → (∀ r ∈ l, r.Pre) → Fitted nodes l → (∀ t ∈ out, ∀ r ∈ l, t.cmp r ≠ 0) → l.Pairwise (fun r s => r.cmp s ≠ 0) →
    GoodT (l.foldl (fun out r => ins out (r.fit nodes)) out) ∧ ∀ t, t ∈ l.foldl (fun out r => ins out (r.fit nodes)) out ↔ t ∈ out ∨ t ∈ l
  | [], out, hg, _, _, _, _ => ⟨hg, by simp⟩
  | r :: l, out, hg, hp, hf, hne, hpw => by
    rw [List.foldl_cons, hf r (by simp)]
    obtain ⟨p1, p2⟩ := List.pairwise_cons.1 hpw
    have hmem : ∀ t, t ∈ ins out r ↔ t ∈ out ∨ t = r := by
      rcases ins_cases hg r with ⟨_, t, ht, hz⟩ | ⟨e, _⟩
      · exact absurd hz (hne t ht r (by simp))
      · refine (ins_length_more hg ?_).1
        rw [e, List.length_append, List.length_cons, List.length_take, List.length_drop]
        have := place_le out r
        omega
    obtain ⟨h1, h2⟩ := fold_mem l (ins out r) (ins_good hg (hp r (by simp))) (fun s hs => hp s (by simp [hs])) (fun s hs => hf s (by simp [hs])) (fun t ht s hs => by
      rcases (hmem t).1 ht with ht | rfl
      · exact hne t ht s (by simp [hs])
      · exact p1 s hs) p2
    refine ⟨h1, fun t => ?_⟩
    rw [h2, hmem, List.mem_cons, or_assoc]
theorem hosts {ws : List Ru} (hg : GoodT ws) (hf : Fitted 9 ws) (hl : ws.length ≤ 19) {a x : Int} (ha : 0 ≤ a ∧ a ≤ 4294967295) (hx : 0 ≤ x ∧ x ≤ 4294967295) :
    GoodT (fitT (host a :: others a ws) 9) ∧ tfind (fitT (host a :: others a ws) 9) a = (host a, true) ∧ tnext (fitT (host a :: others a ws) 9) a = (0, false) ∧ (a = x ∨ tfind (fitT (host a :: others a ws) 9) x = tfind (others a ws) x) := by
  have hsub : (others a ws).Sublist ws := List.filter_sublist
  have hgo : GoodT (others a ws) := ⟨fun r hr => hg.pre r (others_mem hr), List.Pairwise.sublist hsub hg.sorted⟩
  have hne : ∀ r ∈ others a ws, (host a).cmp r ≠ 0 := by
    intro r hr hz
    have h1 := (Ru.cmp_zero _ _).1 hz
    have h2 := (List.mem_filter.1 hr).2
    have h3 := of_decide_eq_true h2
    have e1 : a = r.a := h1.1
    have e2 : (32 : Int) = r.n := h1.2
    rcases h3 with h | h
    · exact h e1.symm
    · exact h e2.symm
  have hlen : (host a :: others a ws).length ≤ 20 := by have := hsub.length_le; simp only [List.length_cons]; omega
  obtain ⟨h1, h2⟩ := fold_mem (nodes := 9) (host a :: others a ws) [] GoodT.nil (fun r hr => by
      rcases List.mem_cons.1 hr with rfl | hr
      · exact host_pre ha
      · exact hgo.pre r hr) (fun r hr => by
      rcases List.mem_cons.1 hr with rfl | hr
      · exact host_fit a ha.1
      · exact hf r (others_mem hr)) (by simp) (List.pairwise_cons.2 ⟨hne, hgo.sorted.imp (fun h e => by omega)⟩)
  have hm : fitT (host a :: others a ws) 9 = (host a :: others a ws).foldl (fun out r => ins out (r.fit 9)) [] := by unfold fitT; rw [List.take_of_length_le hlen]
  rw [hm]
  generalize (host a :: others a ws).foldl (fun out r => ins out (r.fit 9)) [] = more at *
  have hmem : ∀ t, t ∈ more ↔ t = host a ∨ t ∈ others a ws := fun t => by rw [h2]; simp
  have hfa : tfind more a = (host a, true) := h1.best ⟨(fun h => by cases h), fun _ => ⟨(hmem _).2 (.inl rfl), by rw [host_holds ha.1 ha.1]; simp, fun t ht _ => (h1.pre t ht).n1⟩⟩
  refine ⟨h1, hfa, ?_, ?_⟩
  · unfold tnext; rw [hfa]; rfl
  · by_cases e : a = x
    · exact .inl e
    · right
      have hh : (host a).holds x = false := by rw [host_holds ha.1 hx.1]; simpa using e
      obtain ⟨b1, b2⟩ := tfind_best (others a ws) x
      refine h1.best ⟨fun hb => ⟨(b1 hb).1, fun t ht => ?_⟩, fun hb => ⟨(hmem _).2 (.inr (b2 hb).1), (b2 hb).2.1, fun t ht hth => ?_⟩⟩
      · rcases (hmem t).1 ht with rfl | ht
        · exact hh
        · exact (b1 hb).2 t ht
      · rcases (hmem t).1 ht with rfl | ht
        · rw [hh] at hth; cases hth
        · exact (b2 hb).2.2 t ht hth
end Go.Th
