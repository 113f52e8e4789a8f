/-
  Networks that were made.
-/
import Derived.Test.YtjandnidljbkoaaGreatFTpEx
namespace Go.Th
def cntOf (ok : Bool) (j k : Nat) : Nat := if ok = true ∧ j < k then 1 else 0
theorem Sorted.index {l : List Ru} (h : Sorted l) {i j : Nat} {r : Ru} (hi : l[i]? = some r) (hj : l[j]? = some r) : i = j := by
  obtain ⟨h1, e1⟩ := List.getElem?_eq_some_iff.1 hi
  obtain ⟨h2, e2⟩ := List.getElem?_eq_some_iff.1 hj
  have hp := List.pairwise_iff_getElem.1 h
  have hz : r.cmp r = 0 := (Ru.cmp_zero _ _).2 ⟨rfl, rfl⟩
  rcases Nat.lt_trichotomy i j with h3 | h3 | h3
  · have := hp i j h1 h2 h3
    rw [e1, e2] at this; omega
  · exact h3
  · have := hp j i h2 h1 h3
    rw [e1, e2] at this; omega
theorem finds {ws : List Ru} (hg : GoodT ws) {x : Int} {r : Ru} {ok : Bool} (hf : tfind ws x = (r, ok)) : ∃ jb : Nat, (ok = true → jb < ws.length) ∧
    ∀ k t, ws[k]? = some t → (holds t.a t.n x = false ∧ cntOf ok jb (k + 1) = cntOf ok jb k) ∨ (ok = true ∧ holds t.a t.n x = true ∧ t.n < r.n ∧ cntOf ok jb (k + 1) = cntOf ok jb k) ∨
      (ok = true ∧ holds t.a t.n x = true ∧ r = t ∧ cntOf ok jb k = 0 ∧ cntOf ok jb (k + 1) = 1) := by
  have h1 := tfind_best ws x
  rw [hf] at h1
  cases ok with
  | false =>
    refine ⟨0, (fun h => by cases h), fun k t ht => .inl ⟨(h1.1 rfl).2 t (List.mem_of_getElem? ht), rfl⟩⟩
  | true =>
    obtain ⟨a1, a2, a3⟩ := h1.2 rfl
    obtain ⟨jb, hjl, hje⟩ := List.mem_iff_getElem.1 a1
    have hj : ws[jb]? = some r := by rw [List.getElem?_eq_getElem hjl, hje]
    refine ⟨jb, fun _ => hjl, fun k t ht => ?_⟩
    have hm := List.mem_of_getElem? ht
    have same : t ≠ r → cntOf true jb (k + 1) = cntOf true jb k := fun hne => by
      have : jb ≠ k := fun e => hne (by subst e; rw [hj] at ht; injection ht with ht; exact ht.symm)
      unfold cntOf
      by_cases h : jb < k
      · rw [if_pos (show true = true ∧ jb < k + 1 from ⟨rfl, by omega⟩), if_pos ⟨rfl, h⟩]
      · rw [if_neg (show ¬ (true = true ∧ jb < k + 1) from fun e => by have := e.2; omega), if_neg (fun e => h e.2)]
    cases hh : holds t.a t.n x with
    | false => exact .inl ⟨rfl, same (fun e => by subst e; have : t.holds x = false := hh; rw [this] at a2; cases a2)⟩
    | true =>
      right
      have c1 := a3 t hm hh
      rcases Int.lt_or_eq_of_le c1 with h | h
      · exact .inl ⟨rfl, rfl, h, same (fun e => by subst e; simp only at h; omega)⟩
      · right
        have e := hg.uniq hm a1 hh a2 h
        subst e
        have : k = jb := hg.sorted.index ht hj
        subst this
        exact ⟨rfl, rfl, rfl, by unfold cntOf; rw [if_neg (fun e => by have := e.2; omega)], by unfold cntOf; rw [if_pos ⟨rfl, by omega⟩]⟩
end Go.Th
namespace Go.Proofs.YtjandnidljbkoaaGreat
open Go.RowKit Go.Th
set_option linter.unusedVariables false
structure TBox (w : World) (g : Nat) (A : Option Addr) (n c : Nat) (ns : List Nd) : Prop where
  box : Box w g 34 #[.slice A n c]
  rd : NRd w w.heap.size A n c ns
  may : nmay (Nd.ls ns) = 0
  small : ∀ x ∈ ns, x.n ≤ 20
  nb : 1 ≤ n ∧ n ≤ 8
section
variable {w w' : World} {g : Nat} {A : Option Addr} {n c : Nat} {ns : List Nd}
theorem TBox.step (h : TBox w g A n c ns) (hb : Below w.heap.size w w') : TBox w' g A n c ns := ⟨h.box.step hb, (h.rd.step hb).heap, h.may, h.small, h.nb⟩
theorem TBox.len (h : TBox w g A n c ns) : (Nd.ls ns).length = n := by rw [Nd.ls_len]; exact h.rd.len
theorem TBox.net (h : TBox w g A n c ns) : NetOk (Nd.ls ns) := netok_of h.rd h.may
theorem pre_of {r : Ru} (hok : r.Ok) (h : pmay r.a r.n = 0) : r.Pre := by
  unfold pmay at h
  split at h
  · cases h
  · rename_i h1
    split at h
    · rename_i h2; exact ⟨hok, by omega, by omega, h2⟩
    · cases h
theorem NetOk.good {ls : List (List Ru)} (h : NetOk ls) : ∀ l ∈ ls, GoodT l := fun l hl => ⟨fun r hr => pre_of (h.pre l hl r hr).1 (h.pre l hl r hr).2, h.sorted l hl⟩
end
def FitNet (w : World) (e : Ending) (w' : World) : Prop := ∃ A n c ns, e = .returned (.agg #[.slice A n c]) ∧ NRd w' w'.heap.size A n c ns ∧ NOk (Nd.ls ns) ∧ (∀ x ∈ ns, x.n ≤ 20) ∧ (1 ≤ n ∧ n ≤ 8) ∧ Below w.heap.size w w'
theorem made_any (A : Option Addr) (n c : Nat) (ns : List Nd) (w : World) (ni : NetIn w A n c ns) (W : World) (hW : Below w.heap.size w W) : Calls Tryz.prog 15 #[.agg #[.slice A n c]] W (FitNet W) := by
  refine (netfit_any A n c ns W ni.n ni.each _ (ni.rd.below hW)).mono ?_
  rintro e w' ⟨A', m, c', ms, rfl, no, hms, hb⟩
  have hok : ∀ l ∈ Nd.ls ns, ∀ r ∈ l, r.Ok := by
    intro l hl r hr
    obtain ⟨x, hx, rfl⟩ := List.mem_map.1 hl
    exact ni.rd.ok x hx r hr
  obtain ⟨h1, h2, h3⟩ := nfit_size hok
  have hrd := no.rd
  refine ⟨A', m, c', ms, rfl, hrd, by rw [hms]; exact nfit_ok hok, fun x hx => ?_, ?_, hb⟩
  · have := (hrd.rk x hx).len
    have h4 := h1 x.l (by rw [← hms]; exact List.mem_map.2 ⟨x, hx, rfl⟩)
    omega
  · have := hrd.len
    rw [← hms, Nd.ls_len] at h2 h3
    omega
end Go.Proofs.YtjandnidljbkoaaGreat
