/-
  network.Loop: the invariant over the nodes, plain.
-/
import Derived.Test.YtdmkiejaejlajaaNhSeen
namespace Go.Proofs.Ytdmkiejaejlajaa
open Go.Th
set_option linter.unusedVariables false
/-- After the nodes ahead of v: the marks, and the least node found to be in a loop. -/
structure LInv (ls : List (List Ru)) (a : Int) (n : Nat) (zs : List Int) (found : Bool) (best : Int) (v : Nat) : Prop where
  len : zs.length = n
  bnd : ∀ (i : Nat) (z : Int), zs[i]? = some z → 0 ≤ z ∧ z ≤ (v : Int)
  past : ∀ u : Nat, u < v → Seen n zs u
  closed : ∀ u, Seen n zs u → gof ls a u = true → (0 ≤ hof ls a u ∧ hof ls a u < n) → Seen n zs (hof ls a u)
  hno : found = false → ∀ u L, Seen n zs u → ¬ Cyc (hof ls a) (gof ls a) u L
  hso : found = true → (∃ L, L ≤ n ∧ Cyc (hof ls a) (gof ls a) best L) ∧ ∀ u L, Seen n zs u → Cyc (hof ls a) (gof ls a) u L → best ≤ u
theorem LInv.init (ls : List (List Ru)) (a : Int) (n : Nat) (best : Int) : LInv ls a n (List.replicate n 0) false best 0 := by
  have ns : ∀ u, ¬ Seen n (List.replicate n 0) u := fun u h => by
    obtain ⟨_, _, z, hz, hne⟩ := h
    rw [List.getElem?_replicate] at hz
    split at hz
    · injection hz with hz; exact hne hz.symm
    · cases hz
  have b0 : ∀ (i : Nat) (z : Int), (List.replicate n (0 : Int))[i]? = some z → 0 ≤ z ∧ z ≤ ((0 : Nat) : Int) := fun i z hz => by
    rw [List.getElem?_replicate] at hz
    split at hz
    · injection hz with hz; omega
    · cases hz
  exact ⟨by simp, b0, fun u h => absurd h (by omega), fun u h => absurd h (ns u), fun _ u L h => absurd h (ns u), fun h => by cases h⟩
/-- A node that was seen: nothing to do. -/
theorem LInv.skip {ls : List (List Ru)} {a : Int} {n v : Nat} {zs : List Int} {found : Bool} {best : Int} (h : LInv ls a n zs found best v) {z : Int} (hz : zs[v]? = some z) (hne : z ≠ 0) : LInv ls a n zs found best (v + 1) := by
  have hp : ∀ u : Nat, u < v + 1 → Seen n zs u := fun u hu => by
    by_cases e : u = v
    · subst e
      have := (List.getElem?_eq_some_iff.1 hz).1
      have := h.len
      exact ⟨by omega, by omega, z, by rw [Int.toNat_natCast]; exact hz, hne⟩
    · exact h.past u (by omega)
  exact ⟨h.len, fun i y hy => (by have := h.bnd i y hy; omega), hp, h.closed, h.hno, h.hso⟩
/-- At the end: every node was seen. -/
theorem LInv.all {ls : List (List Ru)} {a : Int} {n : Nat} {zs : List Int} {found : Bool} {best : Int} (h : LInv ls a n zs found best n) {u : Int} (h0 : 0 ≤ u ∧ u < n) : Seen n zs u := by
  have := h.past u.toNat (by omega)
  rw [Int.toNat_of_nonneg h0.1] at this
  exact this
theorem marks_bnd {ls : List (List Ru)} {a : Int} {v : Nat} {zs : List Int} (h : ∀ (i : Nat) (z : Int), zs[i]? = some z → 0 ≤ z ∧ z ≤ (v : Int)) : ∀ (k i : Nat) (z : Int), (marks ls a v zs k)[i]? = some z → 0 ≤ z ∧ z ≤ ((v + 1 : Nat) : Int)
  | 0, i, z, hz => by
    rw [marks] at hz
    by_cases e : v = i
    · subst e
      rw [List.getElem?_set] at hz
      simp only [if_true] at hz
      split at hz
      · injection hz with hz; omega
      · cases hz
    · rw [List.getElem?_set_ne e] at hz
      have := h i z hz
      omega
  | k + 1, i, z, hz => by
    rw [marks] at hz
    by_cases e : (sit ls a v (k + 1)).1.toNat = i
    · rw [List.getElem?_set] at hz
      rw [if_pos e] at hz
      split at hz
      · injection hz with hz; omega
      · cases hz
    · rw [List.getElem?_set_ne e] at hz
      exact marks_bnd h k i z hz
/-- The marks behind back are closed under steps, and hold v. -/
theorem LInv.marked {ls : List (List Ru)} {a : Int} {n v k : Nat} {zs zs' : List Int} {found ok : Bool} {best u : Int} (h : LInv ls a n zs found best v) (hv : v < n) (R : BackR ls a n v zs zs' u ok k) :
    (∀ x, Seen n zs' x ↔ Seen n zs x ∨ ∃ j, j ≤ k ∧ x = (sit ls a v j).1) ∧ (∀ x, Seen n zs' x → gof ls a x = true → (0 ≤ hof ls a x ∧ hof ls a x < n) → Seen n zs' (hof ls a x)) := by
  have hs : ∀ x, Seen n zs' x ↔ Seen n zs x ∨ ∃ j, j ≤ k ∧ x = (sit ls a v j).1 := fun x => by rw [R.got]; exact seen_marks h.len hv R.inn x
  refine ⟨hs, fun x hx hg hin => ?_⟩
  rcases (hs x).1 hx with hx | ⟨j, hj, rfl⟩
  · exact (hs _).2 (.inl (h.closed x hx hg hin))
  · have e : hof ls a (sit ls a v j).1 = (sit ls a v (j + 1)).1 := rfl
    have e2 : gof ls a (sit ls a v j).1 = (sit ls a v (j + 1)).2 := rfl
    rw [e] at hin ⊢
    rw [e2] at hg
    by_cases ej : j = k
    · subst ej
      rcases R.fin with ⟨_, h1 | h1⟩ | ⟨_, h2, _, z, hz, hne, _⟩
      · rw [h1] at hg; cases hg
      · exact absurd hin h1
      · exact ⟨h2.1, h2.2, z, hz, hne⟩
    · exact (hs _).2 (.inr ⟨j + 1, by omega, rfl⟩)
/-- The mark of a node of the way. -/
theorem marks_way {ls : List (List Ru)} {a : Int} {n v : Nat} {zs : List Int} (hl : zs.length = n) (hv : v < n) : ∀ {k : Nat}, (∀ j, j ≤ k → 0 ≤ (sit ls a v j).1 ∧ (sit ls a v j).1 < n) → ∀ j, j ≤ k → (marks ls a v zs k)[(sit ls a v j).1.toNat]? = some ((v : Int) + 1)
  | 0, h, j, hj => by
    obtain rfl : j = 0 := by omega
    rw [marks]
    show (zs.set v ((v : Int) + 1))[((v : Int)).toNat]? = _
    rw [Int.toNat_natCast, List.getElem?_set_self (by omega)]
  | k + 1, h, j, hj => by
    rw [marks]
    have h1 := h j hj
    by_cases e : (sit ls a v (k + 1)).1.toNat = (sit ls a v j).1.toNat
    · rw [e, List.getElem?_set_self (by rw [marks_len]; omega)]
    · rw [List.getElem?_set_ne e]
      refine marks_way hl hv (fun i hi => h i (by omega)) j ?_
      by_cases ej : j = k + 1
      · subst ej; exact absurd rfl e
      · omega
theorem marks_off {ls : List (List Ru)} {a : Int} {n v : Nat} {zs : List Int} {x : Int} (hx : 0 ≤ x) : ∀ {k : Nat}, (∀ j, j ≤ k → 0 ≤ (sit ls a v j).1 ∧ (sit ls a v j).1 < n) → (∀ j, j ≤ k → x ≠ (sit ls a v j).1) → (marks ls a v zs k)[x.toNat]? = zs[x.toNat]?
  | 0, h, ho => by
    have := ho 0 (Nat.le_refl _)
    have e : (sit ls a v 0).1 = (v : Int) := rfl
    rw [e] at this
    rw [marks, List.getElem?_set_ne (by omega)]
  | k + 1, h, ho => by
    have h1 := h (k + 1) (Nat.le_refl _)
    have h2 := ho (k + 1) (Nat.le_refl _)
    rw [marks, List.getElem?_set_ne (by omega)]
    exact marks_off hx (fun j hj => h j (by omega)) (fun j hj => ho j (by omega))
/-- Where back came to no loop, a node of the way that goes round had been seen. -/
theorem LInv.way {ls : List (List Ru)} {a : Int} {n v k : Nat} {zs zs' : List Int} {found : Bool} {best u : Int} (hls : ls.length = n) (h : LInv ls a n zs found best v) (hv : v < n) (R : BackR ls a n v zs zs' u false k)
    {j L : Nat} (hj : j ≤ k) (c : Cyc (hof ls a) (gof ls a) (sit ls a v j).1 L) : Seen n zs (sit ls a v j).1 := by
  have eit : ∀ t, (sit ls a v (t + j)).1 = itr (hof ls a) t (sit ls a v j).1 := fun t => by rw [sit_itr, sit_itr, itr_add]
  have hgo : (sit ls a v (k + 1)).2 = true := by
    have := c.all (k - j)
    rw [← eit, show k - j + j = k by omega] at this
    exact this
  have hin : 0 ≤ (sit ls a v (k + 1)).1 ∧ (sit ls a v (k + 1)).1 < n := by
    have := c.all (k + 1 - j)
    rw [← eit, show k + 1 - j + j = k + 1 by omega] at this
    have := gof_in this
    rw [hls] at this
    exact this
  rcases R.fin with ⟨_, h1 | h1⟩ | ⟨_, h2, _, z, hz, hne, hzv⟩
  · rw [hgo] at h1; cases h1
  · exact absurd hin h1
  · have hzv : z ≠ (v : Int) + 1 := fun e => by subst e; simp at hzv
    have hw : Seen n zs (sit ls a v (k + 1)).1 := by
      have hs := (seen_marks h.len hv R.inn (sit ls a v (k + 1)).1).1 ⟨h2.1, h2.2, z, by rw [← R.got]; exact hz, hne⟩
      rcases hs with hs | ⟨i, hi, e⟩
      · exact hs
      · have := marks_way h.len hv R.inn i hi
        rw [← e, ← R.got, hz] at this
        injection this with this
        exact absurd this hzv
    have hS : ∀ x, (Seen n zs x ∨ ¬ (0 ≤ x ∧ x < (n : Int))) → gof ls a x = true → (Seen n zs (hof ls a x) ∨ ¬ (0 ≤ hof ls a x ∧ hof ls a x < (n : Int))) := fun x hx hg => by
      have hxi := gof_in hg
      rw [hls] at hxi
      rcases hx with hx | hx
      · by_cases e : 0 ≤ hof ls a x ∧ hof ls a x < (n : Int)
        · exact .inl (h.closed x hx hg e)
        · exact .inr e
      · exact absurd hxi hx
    have := c.inn hS (t := k + 1 - j) (by rw [← eit, show k + 1 - j + j = k + 1 by omega]; exact .inl hw)
    rcases this with this | this
    · exact this
    · exact absurd (R.inn j hj) this
theorem LInv.away {ls : List (List Ru)} {a : Int} {n v k : Nat} {zs zs' : List Int} {found : Bool} {best u : Int} (hls : ls.length = n) (h : LInv ls a n zs found best v) (hv : v < n) (R : BackR ls a n v zs zs' u false k) : LInv ls a n zs' found best (v + 1) := by
  obtain ⟨hs, hc⟩ := h.marked hv R
  have old : ∀ x L, Seen n zs' x → Cyc (hof ls a) (gof ls a) x L → Seen n zs x := fun x L hx c => by
    rcases (hs x).1 hx with hx | ⟨j, hj, rfl⟩
    · exact hx
    · exact h.way hls hv R hj c
  have hp : ∀ x : Nat, x < v + 1 → Seen n zs' x := fun x hx => by
    by_cases e : x = v
    · subst e; exact (hs _).2 (.inr ⟨0, Nat.zero_le _, rfl⟩)
    · exact (hs _).2 (.inl (h.past x (by omega)))
  refine ⟨by rw [R.got, marks_len]; exact h.len, fun i z hz => ?_, hp, hc, fun hf x L hx c => h.hno hf x L (old x L hx c) c, fun hf => ⟨(h.hso hf).1, fun x L hx c => (h.hso hf).2 x L (old x L hx c) c⟩⟩
  rw [R.got] at hz
  exact marks_bnd h.bnd k i z hz
/-- Where back came to its own way: the node goes round, and every node of the way that does is in its loop. -/
theorem LInv.loop {ls : List (List Ru)} {a : Int} {n v k : Nat} {zs zs' : List Int} {found : Bool} {best u : Int} (h : LInv ls a n zs found best v) (hv : v < n) (R : BackR ls a n v zs zs' u true k) :
    ∃ L, L ≤ n ∧ Cyc (hof ls a) (gof ls a) u L ∧ ∀ j L', j ≤ k → Cyc (hof ls a) (gof ls a) (sit ls a v j).1 L' → ∃ t, (sit ls a v j).1 = itr (hof ls a) t u := by
  rcases R.fin with ⟨h0, _⟩ | ⟨h1, h2, hu, z, hz, hne, hzv⟩
  · cases h0
  · have hzv : z = (v : Int) + 1 := by simpa using hzv.symm
    have hi : ∃ i, i ≤ k ∧ u = (sit ls a v i).1 := by
      by_cases e : ∃ i, i ≤ k ∧ (sit ls a v (k + 1)).1 = (sit ls a v i).1
      · obtain ⟨i, hi, e⟩ := e
        exact ⟨i, hi, hu.trans e⟩
      · have := marks_off (zs := zs) (k := k) h2.1 R.inn (fun i hi e2 => e ⟨i, hi, e2⟩)
        rw [← R.got, hz] at this
        have := h.bnd _ z this.symm
        omega
    obtain ⟨i, hi, e⟩ := hi
    have eit : ∀ i t, (sit ls a v (t + i)).1 = itr (hof ls a) t (sit ls a v i).1 := fun i t => by rw [sit_itr, sit_itr, itr_add]
    refine ⟨k + 1 - i, by have := R.lt; omega, ⟨by omega, fun j hj => ?_, ?_⟩, fun j L' hj c => ?_⟩
    · rw [e, ← eit]
      have : gof ls a (sit ls a v (j + i)).1 = (sit ls a v (j + i + 1)).2 := rfl
      rw [this]
      by_cases ej : j + i = k
      · rw [ej]; exact h1
      · exact R.goes _ (by omega)
    · rw [e, ← eit, show k + 1 - i + i = k + 1 by omega, ← e]; exact hu.symm
    · obtain ⟨s, hs⟩ := c.home (k + 1 - j)
      refine ⟨s, ?_⟩
      rw [← eit, show k + 1 - j + j = k + 1 by omega, ← hu] at hs
      exact hs.symm
theorem mem_sits {ls : List (List Ru)} {a u : Int} {M : Nat} (c : Cyc (hof ls a) (gof ls a) u M) (t : Nat) : itr (hof ls a) t u ∈ sits ls a u M := by
  rw [c.mod t]
  unfold sits
  exact List.mem_map.2 ⟨t % M, List.mem_range.2 (Nat.mod_lt _ c.pos), by rw [sit_itr]⟩
theorem sits_mem {ls : List (List Ru)} {a u y : Int} {M : Nat} (h : y ∈ sits ls a u M) : ∃ t, y = itr (hof ls a) t u := by
  unfold sits at h
  obtain ⟨t, _, rfl⟩ := List.mem_map.1 h
  exact ⟨t, sit_itr ls a u t⟩
/-- The least of a loop's nodes. -/
def leastOf (ls : List (List Ru)) (a u : Int) (M : Nat) : Int := minOf u ((sits ls a u M).drop 1)
theorem sits_head {ls : List (List Ru)} {a u : Int} {M : Nat} (h : 1 ≤ M) : sits ls a u M = u :: (sits ls a u M).drop 1 := by
  obtain ⟨m, rfl⟩ : ∃ m, M = m + 1 := ⟨M - 1, by omega⟩
  unfold sits
  rw [List.range_succ_eq_map]
  rfl
theorem leastOf_le {ls : List (List Ru)} {a u y : Int} {M : Nat} (hM : 1 ≤ M) (h : y ∈ sits ls a u M) : leastOf ls a u M ≤ y := by
  rw [sits_head hM] at h
  rcases List.mem_cons.1 h with rfl | h
  · exact (minOf_le _ _).1
  · exact (minOf_le _ _).2 y h
theorem leastOf_mem {ls : List (List Ru)} {a u : Int} {M : Nat} (hM : 1 ≤ M) : leastOf ls a u M ∈ sits ls a u M := by
  rw [sits_head hM]
  rcases minOf_mem ((sits ls a u M).drop 1) u with h | h
  · unfold leastOf; rw [h]; exact List.mem_cons_self
  · exact List.mem_cons_of_mem _ h
theorem LInv.turn {ls : List (List Ru)} {a : Int} {n v k M : Nat} {zs zs' : List Int} {found : Bool} {best u : Int} (h : LInv ls a n zs found best v) (hv : v < n) (R : BackR ls a n v zs zs' u true k) (c : Cyc (hof ls a) (gof ls a) u M) (hM : M ≤ n) (b : Int)
    (hb : b = if found = false ∨ leastOf ls a u M < best then leastOf ls a u M else best) : LInv ls a n zs' true b (v + 1) := by
  obtain ⟨hs, hc⟩ := h.marked hv R
  obtain ⟨_, _, _, hall⟩ := h.loop hv R
  have hp : ∀ x : Nat, x < v + 1 → Seen n zs' x := fun x hx => by
    by_cases e : x = v
    · subst e; exact (hs _).2 (.inr ⟨0, Nat.zero_le _, rfl⟩)
    · exact (hs _).2 (.inl (h.past x (by omega)))
  have hlc : ∃ L, L ≤ n ∧ Cyc (hof ls a) (gof ls a) (leastOf ls a u M) L := by
    obtain ⟨t, ht⟩ := sits_mem (leastOf_mem (ls := ls) (a := a) (u := u) c.pos)
    exact ⟨M, hM, by rw [ht]; exact c.shift t⟩
  refine ⟨by rw [R.got, marks_len]; exact h.len, fun i z hz => ?_, hp, hc, fun hf => (by cases hf), fun _ => ⟨?_, fun x L hx cx => ?_⟩⟩
  · rw [R.got] at hz
    exact marks_bnd h.bnd k i z hz
  · rw [hb]
    split
    · exact hlc
    · rename_i hn
      have hf : found = true := by cases found <;> simp_all
      exact (h.hso hf).1
  · have way : (∃ j, j ≤ k ∧ x = (sit ls a v j).1) → leastOf ls a u M ≤ x := fun ⟨j, hj, e⟩ => by
      subst e
      obtain ⟨t, ht⟩ := hall j L hj cx
      rw [ht]
      exact leastOf_le c.pos (mem_sits c t)
    rw [hb]
    rcases (hs x).1 hx with hx | hx
    · cases hfo : found with
      | false => exact absurd cx (h.hno hfo x L hx)
      | true =>
        have := (h.hso hfo).2 x L hx cx
        split
        · rename_i hn
          rcases hn with hn | hn
          · cases hn
          · omega
        · exact this
    · have := way hx
      split
      · exact this
      · rename_i hn
        have : ¬ (leastOf ls a u M < best) := fun e => hn (.inr e)
        omega
end Go.Proofs.Ytdmkiejaejlajaa
