/-
  Tables that may be, and what is found in them. Plain lists, no program in sight.
-/
import Derived.Test.YtijobfkmchbpcaaTablePlain
namespace Go.Th
/-- A rule whose prefix may be. -/
structure Ru.Pre (r : Ru) : Prop where
  ok : r.Ok
  n0 : 0 ≤ r.n
  n1 : r.n ≤ 32
  host : r.a.toNat % 2 ^ sh r.n = 0
theorem lead_mod (a n : Int) : (lead a n).toNat % 2 ^ sh n = 0 := by
  unfold lead
  rw [Int.toNat_natCast, Nat.mul_mod_left]
theorem Ru.fit_pre (r : Ru) (nodes : Int) (h : r.Ok) (hn : 1 ≤ nodes ∧ nodes ≤ 4611686018427387904) : (r.fit nodes).Pre :=
  ⟨Ru.fit_ok r nodes h hn, by show 0 ≤ r.n % 33; omega, by show r.n % 33 ≤ 32; omega, lead_mod _ _⟩
/-- Two rules that hold one address and are as long are of one prefix. -/
theorem Ru.Pre.same {r s : Ru} (hr : r.Pre) (hs : s.Pre) {x : Int} (h1 : r.holds x = true) (h2 : s.holds x = true) (hn : r.n = s.n) : r.a = s.a := by
  have e1 := of_decide_eq_true h1
  have e2 := of_decide_eq_true h2
  unfold head at e1 e2
  rw [hn] at e1
  have e3 := e1.trans e2.symm
  have q1 := Nat.div_add_mod r.a.toNat (2 ^ sh s.n)
  have q2 := Nat.div_add_mod s.a.toNat (2 ^ sh s.n)
  have m1 := hr.host
  have m2 := hs.host
  rw [hn] at m1
  rw [m1, e3] at q1
  rw [m2] at q2
  have := hr.ok.a
  have := hs.ok.a
  omega
/-- The order of rules. -/
theorem icmp_neg (a b : Int) : icmp b a = -icmp a b := by unfold icmp; split <;> split <;> (try split) <;> omega
theorem Ru.cmp_neg (r s : Ru) : s.cmp r = -r.cmp s := by
  unfold Ru.cmp pcmp
  by_cases h : r.a = s.a
  · rw [if_pos h, if_pos h.symm, icmp_neg]
  · rw [if_neg h, if_neg (fun e => h e.symm), icmp_neg]
theorem Ru.cmp_zero (r s : Ru) : r.cmp s = 0 ↔ r.a = s.a ∧ r.n = s.n := by
  unfold Ru.cmp pcmp icmp
  split <;> split <;> (try split) <;> omega
theorem Ru.cmp_lt (r s : Ru) : r.cmp s < 0 ↔ r.a < s.a ∨ (r.a = s.a ∧ r.n < s.n) := by
  unfold Ru.cmp pcmp icmp
  split <;> split <;> (try split) <;> omega
theorem Ru.cmp_trans {r s t : Ru} (h1 : r.cmp s < 0) (h2 : s.cmp t < 0) : r.cmp t < 0 := by
  rw [Ru.cmp_lt] at *
  omega
theorem Ru.cmp_vals (r s : Ru) : r.cmp s = -1 ∨ r.cmp s = 0 ∨ r.cmp s = 1 := by
  unfold Ru.cmp pcmp icmp
  split <;> split <;> (try split) <;> omega
/-- In order, each prefix once. -/
def Sorted (l : List Ru) : Prop := l.Pairwise fun r s => r.cmp s < 0
theorem Sorted.key {l : List Ru} (h : Sorted l) {r s : Ru} (hr : r ∈ l) (hs : s ∈ l) (hz : r.cmp s = 0) : r = s := by
  induction l with
  | nil => cases hr
  | cons t l ih =>
    obtain ⟨h1, h2⟩ := List.pairwise_cons.1 h
    rcases List.mem_cons.1 hr with rfl | hr' <;> rcases List.mem_cons.1 hs with rfl | hs'
    · rfl
    · have := h1 s hs'; omega
    · have := h1 r hr'; have := Ru.cmp_neg r s; omega
    · exact ih h2 hr' hs'
/-- What Find tells, as a law: one of the longest that hold. -/
def IsBest (l : List Ru) (x : Int) (p : Ru × Bool) : Prop :=
  (p.2 = false → p.1 = Ru.zero ∧ ∀ r ∈ l, r.holds x = false) ∧ (p.2 = true → p.1 ∈ l ∧ p.1.holds x = true ∧ ∀ r ∈ l, r.holds x = true → r.n ≤ p.1.n)
theorem tfind_best (l : List Ru) (x : Int) : IsBest l x (tfind l x) := by
  have key : ∀ (m pre : List Ru) (p : Ru × Bool), IsBest pre x p → IsBest (pre ++ m) x (m.foldl (fstep x) p) := by
    intro m
    induction m with
    | nil => intro pre p h; simpa using h
    | cons r m ih =>
      intro pre p h
      rw [List.foldl_cons, show pre ++ r :: m = (pre ++ [r]) ++ m by simp]
      refine ih _ _ ?_
      obtain ⟨h1, h2⟩ := h
      unfold fstep
      split
      · rename_i hh
        refine ⟨fun h => ⟨(h1 h).1, fun s hs => ?_⟩, fun h => ⟨List.mem_append_left _ (h2 h).1, (h2 h).2.1, fun s hs hs2 => ?_⟩⟩
        · rcases List.mem_append.1 hs with hs | hs
          · exact (h1 h).2 s hs
          · rw [List.mem_singleton.1 hs]; exact hh
        · rcases List.mem_append.1 hs with hs | hs
          · exact (h2 h).2.2 s hs hs2
          · rw [List.mem_singleton.1 hs, hh] at hs2; cases hs2
      · rename_i hh
        have hh' : r.holds x = true := by simpa using hh
        split
        · rename_i hc
          refine ⟨fun h => (by rw [hc.1] at h; cases h), fun h => ⟨List.mem_append_left _ (h2 h).1, (h2 h).2.1, fun s hs hs2 => ?_⟩⟩
          rcases List.mem_append.1 hs with hs | hs
          · exact (h2 h).2.2 s hs hs2
          · rw [List.mem_singleton.1 hs]; exact hc.2
        · rename_i hc
          refine ⟨(fun h => by cases h), fun _ => ⟨List.mem_append_right _ (by simp), hh', fun s hs hs2 => ?_⟩⟩
          rcases List.mem_append.1 hs with hs | hs
          · cases hp : p.2 with
            | false => rw [(h1 hp).2 s hs] at hs2; cases hs2
            | true =>
              have := (h2 hp).2.2 s hs hs2
              have : ¬ r.n ≤ p.1.n := fun e => hc ⟨hp, e⟩
              show s.n ≤ r.n
              omega
          · rw [List.mem_singleton.1 hs]; exact Int.le_refl _
  have := key l [] (Ru.zero, false) ⟨fun _ => ⟨rfl, by simp⟩, by simp⟩
  unfold tfind
  simpa using this
/-- A table that may be, as far as Find goes. -/
structure GoodT (l : List Ru) : Prop where
  pre : ∀ r ∈ l, r.Pre
  sorted : Sorted l
theorem GoodT.uniq {l : List Ru} (h : GoodT l) {x : Int} {r s : Ru} (hr : r ∈ l) (hs : s ∈ l) (h1 : r.holds x = true) (h2 : s.holds x = true) (hn : r.n = s.n) : r = s :=
  h.sorted.key hr hs ((Ru.cmp_zero r s).2 ⟨(h.pre r hr).same (h.pre s hs) h1 h2 hn, hn⟩)
/-- The rule that is found is the only one of its kind. -/
theorem GoodT.best {l : List Ru} (h : GoodT l) {x : Int} {p : Ru × Bool} (hp : IsBest l x p) : tfind l x = p := by
  have hq := tfind_best l x
  generalize tfind l x = q at *
  obtain ⟨r, b⟩ := p
  obtain ⟨s, c⟩ := q
  cases b <;> cases c
  · have := (hp.1 rfl).1; have := (hq.1 rfl).1; simp_all
  · have h1 := (hq.2 rfl); have h2 := (hp.1 rfl).2 s h1.1; simp_all
  · have h1 := (hp.2 rfl); have h2 := (hq.1 rfl).2 r h1.1; simp_all
  · obtain ⟨a1, a2, a3⟩ := hp.2 rfl
    obtain ⟨b1, b2, b3⟩ := hq.2 rfl
    have c1 := a3 s b1 b2
    have c2 := b3 r a1 a2
    have : s = r := h.uniq b1 a1 b2 a2 (by show s.n = r.n; simp only at c1 c2; omega)
    rw [this]
/-! Fit makes tables that may be. -/
theorem GoodT.nil : GoodT [] := ⟨by simp, List.Pairwise.nil⟩
theorem place_le (out : List Ru) (s : Ru) : place out s ≤ out.length := by
  unfold place
  exact (List.takeWhile_sublist _).length_le
theorem mem_takeWhile (p : Ru → Bool) : ∀ (l : List Ru) (t : Ru), t ∈ l.takeWhile p → p t = true
  | [], t, h => by simp at h
  | u :: l, t, h => by
    rw [List.takeWhile_cons] at h
    split at h
    · rename_i hu
      rcases List.mem_cons.1 h with rfl | h
      · exact hu
      · exact mem_takeWhile p l t h
    · cases h
theorem place_low (out : List Ru) (s : Ru) : ∀ t ∈ out.take (place out s), t.cmp s < 0 := by
  intro t ht
  unfold place at ht
  rw [List.prefix_iff_eq_take.1 (List.takeWhile_prefix (below s) (l := out)) |>.symm] at ht
  exact of_decide_eq_true (mem_takeWhile _ _ _ ht)
theorem place_high (out : List Ru) (s t : Ru) (h : out[place out s]? = some t) : ¬ t.cmp s < 0 := by
  unfold place at h
  intro hc
  have key : ∀ (l : List Ru), l[(l.takeWhile (below s)).length]? = some t → False := by
    intro l
    induction l with
    | nil => simp
    | cons u l ih =>
      rw [List.takeWhile_cons]
      split
      · intro h; rw [List.length_cons, List.getElem?_cons_succ] at h; exact ih h
      · rename_i hb
        intro h
        simp at h
        subst h
        exact hb (decide_eq_true hc)
  exact key out h
theorem place_above {out : List Ru} (hs : Sorted out) (s : Ru) (hne : ∀ t, out[place out s]? = some t → t.cmp s ≠ 0) : ∀ t ∈ out.drop (place out s), s.cmp t < 0 := by
  intro t ht
  generalize hj : place out s = j at *
  cases hd : out[j]? with
  | none =>
    rw [List.drop_eq_nil_of_le (by simpa using hd)] at ht
    cases ht
  | some u =>
    have h1 := place_high out s u (by rw [hj]; exact hd)
    have h2 := hne u hd
    have h3 := Ru.cmp_neg u s
    have h4 : s.cmp u < 0 := by omega
    obtain ⟨hl, rfl⟩ := List.getElem?_eq_some_iff.1 hd
    rw [List.drop_eq_getElem_cons hl] at ht
    rcases List.mem_cons.1 ht with rfl | ht
    · exact h4
    · have hp : Sorted (out.drop j) := List.Pairwise.sublist (List.drop_sublist j out) hs
      rw [List.drop_eq_getElem_cons hl] at hp
      exact Ru.cmp_trans h4 ((List.pairwise_cons.1 hp).1 t ht)
/-- What is put: the row as it was, if its prefix is there; else one rule more. -/
theorem ins_cases {out : List Ru} (h : GoodT out) (s : Ru) : (ins out s = out ∧ ∃ t ∈ out, t.cmp s = 0) ∨ (ins out s = out.take (place out s) ++ s :: out.drop (place out s) ∧ (∀ t ∈ out, t.cmp s ≠ 0) ∧ (∀ t ∈ out.take (place out s), t.cmp s < 0) ∧ ∀ t ∈ out.drop (place out s), s.cmp t < 0) := by
  by_cases hz : ∃ t, out[place out s]? = some t ∧ t.cmp s = 0
  · obtain ⟨t, ht, hc⟩ := hz
    exact .inl ⟨ins_same rfl ht hc, t, List.mem_of_getElem? ht, hc⟩
  · have hne : ∀ t, out[place out s]? = some t → t.cmp s ≠ 0 := fun t ht hc => hz ⟨t, ht, hc⟩
    have hab := place_above h.sorted s hne
    have hlo := place_low out s
    refine .inr ⟨?_, fun t ht => ?_, hlo, hab⟩
    · cases hd : out[place out s]? with
      | none => exact ins_last rfl (by have := place_le out s; have := List.getElem?_eq_none_iff.1 hd; omega)
      | some u => exact ins_new rfl hd (hne u hd)
    · rw [← List.take_append_drop (place out s) out] at ht
      rcases List.mem_append.1 ht with ht | ht
      · have := hlo t ht; omega
      · have := hab t ht; have := Ru.cmp_neg s t; omega
theorem ins_good {out : List Ru} (h : GoodT out) {s : Ru} (hs : s.Pre) : GoodT (ins out s) := by
  rcases ins_cases h s with ⟨e, _⟩ | ⟨e, _, hlo, hab⟩
  · rw [e]; exact h
  · rw [e]
    refine ⟨fun t ht => ?_, ?_⟩
    · rcases List.mem_append.1 ht with ht | ht
      · exact h.pre t (List.mem_of_mem_take ht)
      · rcases List.mem_cons.1 ht with rfl | ht
        · exact hs
        · exact h.pre t (List.mem_of_mem_drop ht)
    · refine List.pairwise_append.2 ⟨List.Pairwise.sublist (List.take_sublist _ _) h.sorted, List.pairwise_cons.2 ⟨hab, List.Pairwise.sublist (List.drop_sublist _ _) h.sorted⟩, fun a ha b hb => ?_⟩
      rcases List.mem_cons.1 hb with rfl | hb
      · exact hlo a ha
      · exact Ru.cmp_trans (hlo a ha) (hab b hb)
theorem ins_length_same {out : List Ru} (h : GoodT out) {s : Ru} (hl : (ins out s).length = out.length) : ins out s = out := by
  rcases ins_cases h s with ⟨e, _⟩ | ⟨e, _⟩
  · exact e
  · rw [e, List.length_append, List.length_cons, List.length_take, List.length_drop] at hl
    have := place_le out s
    omega
theorem ins_length_more {out : List Ru} (h : GoodT out) {s : Ru} (hl : (ins out s).length ≠ out.length) : (∀ t, t ∈ ins out s ↔ t ∈ out ∨ t = s) ∧ ∀ t ∈ out, t.cmp s ≠ 0 := by
  rcases ins_cases h s with ⟨e, _⟩ | ⟨e, hne, _⟩
  · rw [e] at hl; exact absurd rfl hl
  · refine ⟨fun t => ?_, hne⟩
    rw [e]
    have hm : t ∈ out ↔ t ∈ out.take (place out s) ∨ t ∈ out.drop (place out s) := by
      rw [← List.mem_append, List.take_append_drop]
    rw [List.mem_append, List.mem_cons, hm]
    constructor
    · rintro (h | h | h)
      · exact .inl (.inl h)
      · exact .inr h
      · exact .inl (.inr h)
    · rintro ((h | h) | h)
      · exact .inl h
      · exact .inr (.inr h)
      · exact .inr (.inl h)
/-- Put behind a row that it is above of all of. -/
theorem ins_top {out : List Ru} {s : Ru} (h : ∀ t ∈ out, t.cmp s < 0) : ins out s = out ++ [s] := by
  have hp : place out s = out.length := place_at (fun i t _ ht => decide_eq_true (h t (List.mem_of_getElem? ht))) (Nat.le_refl _) (fun t ht => by have := (List.getElem?_eq_some_iff.1 ht).1; omega)
  rw [ins_last hp rfl, List.take_of_length_le (Nat.le_refl _), List.drop_eq_nil_of_le (Nat.le_refl _)]
def Sound (nodes : Int) : Prop := 1 ≤ nodes ∧ nodes ≤ 4611686018427387904
theorem fold_good {nodes : Int} (hn : Sound nodes) : ∀ (l out : List Ru), (∀ r ∈ l, r.Ok) → GoodT out → GoodT (l.foldl (fun out r => ins out (r.fit nodes)) out)
  | [], out, _, h => h
  | r :: l, out, hl, h => fold_good hn l _ (fun s hs => hl s (by simp [hs])) (ins_good h (Ru.fit_pre r nodes (hl r (by simp)) hn))
theorem fitT_good {nodes : Int} (hn : Sound nodes) (l : List Ru) (hl : ∀ r ∈ l, r.Ok) : GoodT (fitT l nodes) := fold_good hn _ [] (fun r hr => hl r (List.mem_of_mem_take hr)) GoodT.nil
/-- A rule that is made such is made so again. -/
theorem lead_lead (a n : Int) : lead (lead a n) n = lead a n := by
  unfold lead
  rw [Int.toNat_natCast, Nat.mul_div_cancel _ (Nat.lt_of_lt_of_le (by omega) (pow_sh n).1)]
theorem Ru.fit_fit (r : Ru) (nodes : Int) : (r.fit nodes).fit nodes = r.fit nodes := by
  unfold Ru.fit
  have h0 : 0 ≤ r.act % 3 ∧ r.act % 3 < 3 := by omega
  have hc : r.act % 3 = 0 ∨ r.act % 3 = 1 ∨ r.act % 3 = 2 := by omega
  simp only [Int.emod_emod_of_dvd _ (Int.dvd_refl _), lead_lead, Ru.mk.injEq, true_and]
  rcases hc with h | h | h <;> simp [h, Int.emod_emod_of_dvd _ (Int.dvd_refl _)]
/-- All its rules are as they are made. -/
def Fitted (nodes : Int) (l : List Ru) : Prop := ∀ r ∈ l, r.fit nodes = r
theorem ins_fitted {nodes : Int} {out : List Ru} (h : GoodT out) (hf : Fitted nodes out) (r : Ru) : Fitted nodes (ins out (r.fit nodes)) := by
  intro t ht
  rcases ins_cases h (r.fit nodes) with ⟨e, _⟩ | ⟨e, _⟩
  · rw [e] at ht; exact hf t ht
  · rw [e] at ht
    rcases List.mem_append.1 ht with ht | ht
    · exact hf t (List.mem_of_mem_take ht)
    · rcases List.mem_cons.1 ht with rfl | ht
      · exact Ru.fit_fit r nodes
      · exact hf t (List.mem_of_mem_drop ht)
theorem fold_fitted {nodes : Int} (hn : Sound nodes) : ∀ (l out : List Ru), (∀ r ∈ l, r.Ok) → GoodT out → Fitted nodes out → Fitted nodes (l.foldl (fun out r => ins out (r.fit nodes)) out)
  | [], out, _, _, h => h
  | r :: l, out, hl, hg, h => fold_fitted hn l _ (fun s hs => hl s (by simp [hs])) (ins_good hg (Ru.fit_pre r nodes (hl r (by simp)) hn)) (ins_fitted hg h r)
theorem fitT_fitted {nodes : Int} (hn : Sound nodes) (l : List Ru) (hl : ∀ r ∈ l, r.Ok) : Fitted nodes (fitT l nodes) := fold_fitted hn _ [] (fun r hr => hl r (List.mem_of_mem_take hr)) GoodT.nil (by intro r hr; cases hr)
/-- A table that may be is made of itself. -/
theorem fold_self {nodes : Int} : ∀ (l out : List Ru), Sorted (out ++ l) → Fitted nodes l → l.foldl (fun out r => ins out (r.fit nodes)) out = out ++ l
  | [], out, _, _ => by simp
  | r :: l, out, hs, hf => by
    rw [List.foldl_cons, hf r (by simp), ins_top (fun t ht => (List.pairwise_append.1 hs).2.2 t ht r (by simp)), fold_self l (out ++ [r]) (by simpa using hs) (fun s h => hf s (by simp [h]))]
    simp
theorem fitT_more {nodes : Int} {w : List Ru} (hg : GoodT w) (hf : Fitted nodes w) {r : Ru} (hr : r.fit nodes = r) (hl : w.length ≤ 19) : fitT (w ++ [r]) nodes = ins w r := by
  unfold fitT
  rw [List.take_of_length_le (by simp; omega), List.foldl_append, fold_self w [] (by simpa using hg.sorted) hf]
  simp [hr]
theorem fitT_length (l : List Ru) (nodes : Int) : (fitT l nodes).length ≤ min l.length 20 := by
  have h := fitTo_length l nodes (min l.length 20)
  rwa [fitTo_end nodes (Nat.le_refl _)] at h
/-- A rule more. -/
theorem find_more {w : List Ru} (hg : GoodT w) {r : Ru} (hr : r.Pre) (hl : (ins w r).length ≠ w.length) (x : Int) :
    tfind (ins w r) x = if r.holds x = true ∧ ((tfind w x).2 = false ∨ (tfind w x).1.n < r.n) then (r, true) else tfind w x := by
  obtain ⟨hm, hne⟩ := ins_length_more hg hl
  obtain ⟨h1, h2⟩ := tfind_best w x
  generalize tfind w x = p at *
  refine (ins_good hg hr).best ?_
  obtain ⟨s, b⟩ := p
  split
  · rename_i hc
    refine ⟨(fun h => by cases h), fun _ => ⟨(hm r).2 (.inr rfl), hc.1, fun t ht hth => ?_⟩⟩
    rcases (hm t).1 ht with ht | rfl
    · cases b with
      | false => have := (h1 rfl).2 t ht; rw [hth] at this; cases this
      | true =>
        have := (h2 rfl).2.2 t ht hth
        have : s.n < r.n := by rcases hc.2 with h | h; cases h; exact h
        show t.n ≤ r.n
        simp only at *
        omega
    · exact Int.le_refl _
  · rename_i hc
    refine ⟨fun hb => ⟨(h1 hb).1, fun t ht => ?_⟩, fun hb => ⟨(hm _).2 (.inl (h2 hb).1), (h2 hb).2.1, fun t ht hth => ?_⟩⟩
    · rcases (hm t).1 ht with ht | rfl
      · exact (h1 hb).2 t ht
      · cases hh : t.holds x with
        | false => rfl
        | true => exact absurd ⟨hh, .inl hb⟩ hc
    · rcases (hm t).1 ht with ht | rfl
      · exact (h2 hb).2.2 t ht hth
      · rcases Int.lt_or_le s.n t.n with h | h
        · exact absurd ⟨hth, .inr h⟩ hc
        · exact h
end Go.Th
