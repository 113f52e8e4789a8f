/-
  The walk of a region by a plan, where the last operation, that hangs on all the others, may do whatever it does: no class is asked of it. Plain theorems over any program.
-/
import Derived.Test.YteellpcagdnikaaReach
namespace Go.Th
open Go.RowKit
set_option linter.unusedVariables false
section
variable {P : Program} {ops : Array Oper} {G : World → World → Prop} {md : Region.Mode} {L : Nat}
/-- No class is asked of operation L. -/
def Gof (L : Nat) (G : World → World → Prop) (i : Nat) : World → World → Prop := fun w w' => i = L ∨ G w w'
def anyL (P : Program) (md : Region.Mode) (ops : Array Oper) (L : Nat) (G : World → World → Prop) (Q : Act → World → Prop) : Nat → Array Bool → Act → World → Prop
  | 0, listed, a, w => Region.ready md ops listed = [] ∧ Q a w
  | fuel + 1, listed, a, w =>
    (Region.ready md ops listed = [] → Q a w) ∧
    ∀ i ∈ Region.ready md ops listed, opG P ops (Gof L G i) i (anyL P md ops L G Q fuel (listed.setIfInBounds i true)) a w
theorem wpAny_of_anyL {Q : Act → World → Prop} {Q' : Exit → Act → World → Prop} (hQ : ∀ a w, Q a w → Q' .normal a w) : ∀ (fuel : Nat) (listed : Array Bool) (a : Act) (w : World), anyL P md ops L G Q fuel listed a w → wpAny P md ops Q' fuel listed a w
  | 0, _, _, _, h => ⟨h.1, hQ _ _ h.2⟩
  | fuel + 1, listed, a, w, h => by
    refine ⟨fun h0 => hQ _ _ (h.1 h0), fun i hi => ?_⟩
    have h1 := h.2 i hi
    unfold opG at h1
    unfold wpOp
    split
    · rename_i ho
      simp only [ho] at h1
      exact wpAny_of_anyL hQ fuel _ _ _ h1
    · rename_i o ho
      simp only [ho] at h1
      split
      · rename_i hw
        simp only [hw, if_true] at h1
        exact .inl (wp_weak (fun a' w' hh => wpAny_of_anyL hQ fuel _ _ _ hh.2) h1)
      · rename_i hw
        simp only [hw] at h1
        exact wpAny_of_anyL hQ fuel _ _ _ h1
theorem yields_opGof {i : Nat} {o : Oper} {v : Value} {a : Act} {w : World} (hr : ∀ x, G x x) (hi : ops[i]? = some o) (hy : YieldsG P ops G o v a w) {K : Act → World → Prop} (h : K (a.put o.dst v) w) : opG P ops (Gof L G i) i K a w := by
  have := hy.opG hr hi h
  unfold Go.Th.opG at *
  simp only [hi] at *
  split
  · rename_i hw
    simp only [hw, if_true] at this
    exact wp_weak (fun a' w' q => ⟨.inr q.1, q.2⟩) this
  · rename_i hw
    simp only [hw] at this
    exact this
/-- Operation j hangs on operation i, in so many steps. -/
def hangs (md : Region.Mode) (ops : Array Oper) : Nat → Nat → Nat → Bool
  | 0, _, _ => false
  | n + 1, j, i => match ops[j]? with
    | none => false
    | some o => o.after.any fun e => Region.binds md e && (e.on == i || hangs md ops n e.on i)
/-- Operation L hangs on all the others. -/
def lastB (md : Region.Mode) (ops : Array Oper) (L : Nat) : Bool := (List.range ops.size).all fun i => i == L || hangs md ops 4 L i
/-- What is listed has what it hangs on listed. -/
def ClosedL (md : Region.Mode) (ops : Array Oper) (listed : Array Bool) : Prop := ∀ k o, ops[k]? = some o → listed.getD k true = true → ∀ e ∈ o.after, Region.binds md e = true → listed.getD e.on true = true
theorem hangs_listed {listed : Array Bool} (hc : ClosedL md ops listed) {i : Nat} : ∀ (n j : Nat) (oj : Oper), ops[j]? = some oj → (∀ e ∈ oj.after, Region.binds md e = true → listed.getD e.on true = true) → hangs md ops n j i = true → listed.getD i true = true
  | 0, _, _, _, _, h => by cases h
  | n + 1, j, oj, hj, hl, h => by
    unfold hangs at h
    rw [hj] at h
    simp only [Array.any_eq_true', Bool.and_eq_true, Bool.or_eq_true, beq_iff_eq] at h
    obtain ⟨e, he, hb, h2⟩ := h
    have h3 := hl e he hb
    rcases h2 with h2 | h2
    · rw [← h2]; exact h3
    · cases ho : ops[e.on]? with
      | none => cases n <;> simp [hangs, ho] at h2
      | some o => exact hangs_listed hc n e.on o ho (hc _ _ ho h3) h2
theorem lastB_spec (h : lastB md ops L = true) {listed : Array Bool} (hc : ClosedL md ops listed) {i j : Nat} {oi oj : Oper} (hi : ops[i]? = some oi) (hj : ops[j]? = some oj) (hji : j ≠ i) (hun : listed.getD i true = false) (hall : ∀ e ∈ oj.after, Region.binds md e = true → listed.getD e.on true = true) : j ≠ L := by
  intro e
  subst e
  unfold lastB at h
  simp only [List.all_eq_true, List.mem_range, Bool.or_eq_true, beq_iff_eq] at h
  rcases h i (Array.getElem?_eq_some_iff.1 hi).1 with h | h
  · exact hji h.symm
  · have := hangs_listed hc 4 j oj hj hall h
    rw [hun] at this
    cases this
theorem getD_up {listed : Array Bool} {k : Nat} (h : listed.getD k false = true) : listed.getD k true = true := by
  unfold Array.getD at *
  split
  · rename_i hk; simpa [hk] using h
  · rfl
theorem ClosedL.set {listed : Array Bool} (hc : ClosedL md ops listed) {j : Nat} (hj : j ∈ Region.ready md ops listed) : ClosedL md ops (listed.setIfInBounds j true) := by
  obtain ⟨hjun, oj, hoj, hall⟩ := mem_ready.1 hj
  have up : ∀ k, listed.getD k true = true → (listed.setIfInBounds j true).getD k true = true := by
    intro k hk
    by_cases e : j = k
    · subst e
      simp [Array.getD]
    · rw [getD_set_ne true e]; exact hk
  intro k o hk hl e he hb
  by_cases ek : j = k
  · subst ek
    rw [hoj] at hk
    injection hk with hk
    subst hk
    exact up _ (getD_up (hall e he hb))
  · rw [getD_set_ne true ek] at hl
    exact up _ (hc k o hk hl e he hb)
theorem ClosedL.start : ClosedL md ops (Array.replicate ops.size false) := by
  intro k o hk hl
  have := (Array.getElem?_eq_some_iff.1 hk).1
  simp [Array.getD, this] at hl
theorem anyL_first {Q : Act → World → Prop} {i : Nat} {oi : Oper} {v : Value} (hG : ∀ x y z, G x y → G y z → G x z) (hr0 : ∀ x, G x x) (hLB : lastB md ops L = true) (hi : ops[i]? = some oi) (hsel : ∀ (j : Nat) (o : Oper) cs b, ops[j]? = some o → o.op ≠ .select cs b) :
    ∀ (fuel : Nat) (listed : Array Bool) (a : Act) (w : World), ClosedL md ops listed →
      (∀ j oj, ops[j]? = some oj → j ≠ i → listed.getD j true = false → (∀ e ∈ oj.after, Region.binds md e = true → e.on ≠ i) → oi.apart ops oj = true) →
      i ∈ Region.ready md ops listed → YieldsG P ops G oi v a w →
      anyL P md ops L G Q fuel (listed.setIfInBounds i true) (a.put oi.dst v) w → anyL P md ops L G Q (fuel + 1) listed a w := by
  intro fuel
  induction fuel with
  | zero =>
    intro listed a w hcl _ hr hy H
    refine ⟨fun h => (by rw [h] at hr; cases hr), fun j hj => ?_⟩
    by_cases hji : j = i
    · subst hji; exact yields_opGof hr0 hi hy H
    · have := ready_mono hj hji
      rw [H.1] at this
      cases this
  | succ fuel ih =>
    intro listed a w hcl hfree hr hy H
    refine ⟨fun h => (by rw [h] at hr; cases hr), fun j hj => ?_⟩
    by_cases hji : j = i
    · subst hji; exact yields_opGof hr0 hi hy H
    · have h1 := H.2 j (ready_mono hj hji)
      obtain ⟨hjun, oj, hoj, hall⟩ := mem_ready.1 hj
      have hnot : ∀ e ∈ oj.after, Region.binds md e = true → e.on ≠ i := fun e he hb heq => by
        have h1 := hall e he hb
        have h0 := (mem_ready.1 hr).1
        rw [heq] at h1
        rcases Nat.lt_or_ge i listed.size with h' | h'
        · simp [h'] at h0 h1; rw [h0] at h1; cases h1
        · simp [Array.getElem?_eq_none h'] at h1
      have hjL : j ≠ L := lastB_spec hLB hcl hi hoj hji (mem_ready.1 hr).1 (fun e he hb => getD_up (hall e he hb))
      have eG : Gof L G j = G := by funext x y; simp [Gof, hjL]
      rw [eG] at h1 ⊢
      have h2 := opG_put hG hoj (hfree j oj hoj hji hjun hnot) (fun cs b => hsel i oi cs b hi) (fun cs b => hsel j oj cs b hoj) hy h1
      have hfree' : ∀ k ok, ops[k]? = some ok → k ≠ i → (listed.setIfInBounds j true).getD k true = false →
          (∀ e ∈ ok.after, Region.binds md e = true → e.on ≠ i) → oi.apart ops ok = true := fun k ok hk hki hun hno => by
        refine hfree k ok hk hki ?_ hno
        by_cases hjk : j = k
        · subst hjk; exact hjun
        · rw [getD_set_ne true hjk] at hun; exact hun
      refine opG_mono (fun a' w' _ h3 => ih (listed.setIfInBounds j true) a' w' (hcl.set hj) hfree' (ready_mono hr (Ne.symm hji)) h3.1 ?_) h2
      rw [Array.setIfInBounds_comm _ _ hji]
      exact h3.2
def wpTreeL (P : Program) (ops : Array Oper) (L : Nat) (G : World → World → Prop) (Q : Act → World → Prop) (l : List Oper) : Tree → Act → World → Prop
  | .done, a, w => Q a w
  | .float s n t, a, w => wpQuiet P ops (G w) (fun a' => wpTreeL P ops L G Q l t a' w) ((l.drop s).take n) a
  | .one i t, a, w => wpList P ops (Anch (Gof L G i) w (wpTreeL P ops L G Q l t)) ((l.drop i).take 1) a w
  | .two i t j u, a, w => wpList P ops (Anch (Gof L G i) w (wpTreeL P ops L G Q l t)) ((l.drop i).take 1) a w ∧ wpList P ops (Anch (Gof L G j) w (wpTreeL P ops L G Q l u)) ((l.drop j).take 1) a w
  | .three i t j u k v, a, w => wpList P ops (Anch (Gof L G i) w (wpTreeL P ops L G Q l t)) ((l.drop i).take 1) a w ∧ wpList P ops (Anch (Gof L G j) w (wpTreeL P ops L G Q l u)) ((l.drop j).take 1) a w ∧ wpList P ops (Anch (Gof L G k) w (wpTreeL P ops L G Q l v)) ((l.drop k).take 1) a w
theorem anyL_floats {Q : Act → World → Prop} (hG : ∀ x y z, G x y → G y z → G x z) (hr0 : ∀ x, G x x) (hLB : lastB .any ops L = true) (hs : Region.noSelect ops = true) (l : List Oper) (hl : l.toArray = ops) (K : Act → World → Prop) (fuel : Nat) (w : World) :
    ∀ (n s : Nat) (listed : Array Bool) (a : Act), ClosedL .any ops listed → floatsB ops n s listed = true → (∀ a', K a' w → ClosedL .any ops (listAll n s listed) → anyL P .any ops L G Q fuel (listAll n s listed) a' w) →
      wpQuiet P ops (G w) (fun a' => K a' w) ((l.drop s).take n) a → anyL P .any ops L G Q (n + fuel) listed a w := by
  intro n
  induction n with
  | zero => intro s listed a hcl _ hK h; rw [Nat.zero_add]; rw [List.take_zero] at h; exact hK a h hcl
  | succ n ih =>
    intro s listed a hcl hB hK h
    simp only [floatsB, Bool.and_eq_true] at hB
    obtain ⟨⟨⟨hr, hf⟩, hc⟩, hB'⟩ := hB
    unfold calmAt at hc
    cases ho : ops[s]? with
    | none => rw [ho] at hc; simp at hc
    | some o =>
      rw [ho] at hc
      have hlt : s < l.length := by
        have := (Array.getElem?_eq_some_iff.1 ho).1
        rw [← hl] at this; simpa using this
      have hlo : l[s] = o := by
        have h1 := (Array.getElem?_eq_some_iff.1 ho).2
        subst hl
        simpa using h1
      rw [List.drop_eq_getElem_cons hlt, List.take_succ_cons, hlo] at h
      have hst : qOp P ops (G w) s (wpQuiet P ops (G w) (fun a' => K a' w) ((l.drop (s + 1)).take n)) a := by unfold qOp; simp only [ho]; exact h
      obtain ⟨v, hy, hK1⟩ := yieldsIn_of_qOp ho hst
      rw [show n + 1 + fuel = (n + fuel) + 1 by omega]
      exact anyL_first hG hr0 hLB ho (Region.noSelect_spec hs) (n + fuel) listed a w hcl (Region.free_spec ho hf) (by simpa using hr) (yieldsG_of_in hc hy)
        (ih (s + 1) _ _ (hcl.set (by simpa using hr)) hB' hK hK1)
theorem anyL_tree {Q : Act → World → Prop} (hG : ∀ x y z, G x y → G y z → G x z) (hr0 : ∀ x, G x x) (hLB : lastB .any ops L = true) (hs : Region.noSelect ops = true) (l : List Oper) (hl : l.toArray = ops) :
    ∀ (t : Tree) (listed : Array Bool) (a : Act) (w : World), ClosedL .any ops listed → t.okB ops listed = true → wpTreeL P ops L G Q l t a w → anyL P .any ops L G Q t.len listed a w
  | .done, listed, a, w, hcl, hB, h => ⟨by simpa [Tree.okB] using hB, h⟩
  | .float s n t, listed, a, w, hcl, hB, h => by
    simp only [Tree.okB, Bool.and_eq_true] at hB
    exact anyL_floats hG hr0 hLB hs l hl (wpTreeL P ops L G Q l t) t.len w n s listed a hcl hB.1 (fun a' h' hc' => anyL_tree hG hr0 hLB hs l hl t _ a' w hc' hB.2 h') h
  | .one i t, listed, a, w, hcl, hB, h => by
    simp only [Tree.okB, Bool.and_eq_true, decide_eq_true_eq] at hB
    refine ⟨fun h0 => absurd (hB.1 ▸ h0) (by simp), fun k hk => ?_⟩
    have hk' := hk
    rw [hB.1] at hk'
    have hk' := List.mem_singleton.1 hk'
    subst hk'
    exact opG_anch l hl hk (fun a w h => anyL_tree hG hr0 hLB hs l hl t _ a w (hcl.set hk) hB.2 h) h
  | .two i t j u, listed, a, w, hcl, hB, h => by
    simp only [Tree.okB, Bool.and_eq_true, decide_eq_true_eq, beq_iff_eq] at hB
    obtain ⟨⟨⟨h1, h2⟩, h3⟩, h4⟩ := hB
    refine ⟨fun h0 => absurd (h1 ▸ h0) (by simp), fun k hk => ?_⟩
    have hk' := hk
    rw [h1] at hk'
    simp at hk'
    rcases hk' with hk' | hk'
    · subst hk'
      exact opG_anch l hl hk (fun a w h => anyL_tree hG hr0 hLB hs l hl t _ a w (hcl.set hk) h3 h) h.1
    · subst hk'
      exact opG_anch l hl hk (fun a w h => by have := anyL_tree hG hr0 hLB hs l hl u _ a w (hcl.set hk) h4 h; rw [← h2] at this; exact this) h.2
  | .three i t j u m v, listed, a, w, hcl, hB, h => by
    simp only [Tree.okB, Bool.and_eq_true, decide_eq_true_eq, beq_iff_eq] at hB
    obtain ⟨⟨⟨⟨⟨h1, h2⟩, h2'⟩, h3⟩, h4⟩, h5⟩ := hB
    refine ⟨fun h0 => absurd (h1 ▸ h0) (by simp), fun k hk => ?_⟩
    have hk' := hk
    rw [h1] at hk'
    simp at hk'
    rcases hk' with hk' | hk' | hk'
    · subst hk'
      exact opG_anch l hl hk (fun a w h => anyL_tree hG hr0 hLB hs l hl t _ a w (hcl.set hk) h3 h) h.1
    · subst hk'
      exact opG_anch l hl hk (fun a w h => by have := anyL_tree hG hr0 hLB hs l hl u _ a w (hcl.set hk) h4 h; rw [← h2] at this; exact this) h.2.1
    · subst hk'
      exact opG_anch l hl hk (fun a w h => by have := anyL_tree hG hr0 hLB hs l hl v _ a w (hcl.set hk) h5 h; rw [← h2'] at this; exact this) h.2.2
/-- **A region that draws its order, walked by a plan of our own; the last operation is free.** -/
theorem wp_region_treeL (L : Nat) (t : Tree) (G : World → World → Prop) (hG : ∀ x y z, G x y → G y z → G x z) (hr0 : ∀ x, G x x) {id : Nat} {Q : Exit → Act → World → Prop} {a : Act} {w : World} {l : List Oper} (hm : P.follows .mixedOrders = true) (hLB : lastB .any l.toArray L = true) (hB : treeB l.toArray t = true)
    (h : ∀ K : Act → World → Prop, (∀ a w', Q .normal a w' → K a w') → wpTreeL P l.toArray L G K l t a w.drew) : (Code.region id l.toArray true).wp P Q a w := by
  simp only [treeB, Bool.and_eq_true, beq_iff_eq] at hB
  obtain ⟨⟨h1, h2⟩, h3⟩ := hB
  refine wp_region_any hm (wpAny_of_anyL (Q := Q .normal) (G := G) (L := L) (fun _ _ h => h) _ _ _ _ ?_)
  have := anyL_tree hG hr0 hLB h1 l rfl t _ a _ ClosedL.start h3 (h _ (fun _ _ h => h))
  rw [h2] at this
  exact this
theorem wpTreeL_done {Q : Act → World → Prop} {l : List Oper} {a : Act} {w : World} (h : Q a w) : wpTreeL P ops L G Q l .done a w := h
theorem wpTreeL_float {Q : Act → World → Prop} {l : List Oper} {a : Act} {w : World} {s n : Nat} {t : Tree}
    (h : ∀ K : Act → Prop, (∀ a', wpTreeL P ops L G Q l t a' w → K a') → wpQuiet P ops (G w) K ((l.drop s).take n) a) : wpTreeL P ops L G Q l (.float s n t) a w := h _ (fun _ h => h)
theorem wpTreeL_one {Q : Act → World → Prop} {l : List Oper} {a : Act} {w : World} {i : Nat} {t : Tree}
    (h : ∀ K : Act → World → Prop, (∀ a' w', wpTreeL P ops L G Q l t a' w' → K a' w') → wpList P ops (Anch (Gof L G i) w K) ((l.drop i).take 1) a w) : wpTreeL P ops L G Q l (.one i t) a w := h _ (fun _ _ h => h)
theorem wpTreeL_two {Q : Act → World → Prop} {l : List Oper} {a : Act} {w : World} {i j : Nat} {t u : Tree}
    (h1 : wpTreeL P ops L G Q l (.one i t) a w) (h2 : wpTreeL P ops L G Q l (.one j u) a w) : wpTreeL P ops L G Q l (.two i t j u) a w := ⟨h1, h2⟩
end
theorem anch_last {L : Nat} {G : World → World → Prop} {w w' : World} {K : Act → World → Prop} {a : Act} (h : K a w') : Anch (Gof L G L) w K .normal a w' := ⟨rfl, .inl rfl, h⟩
theorem anch_endL {L i : Nat} {G : World → World → Prop} {w w' : World} {K : Act → World → Prop} {a : Act} (hG : G w w') (h : K a w') : Anch (Gof L G i) w K .normal a w' := ⟨rfl, .inr hG, h⟩
end Go.Th
