/-
  Certificates in boxes of the call's own: read, and changed. Whether two are the same, by their keys.
-/
import Derived.Test.YteellpcagdnikaaFitFree
import Derived.Test.YteellpcagdnikaaCertSameMore
import Derived.Test.YteellpcagdnikaaOpenCert
import Derived.Test.YteellpcagdnikaaCertMany
namespace Go.Th
open Go.RowKit
set_option linter.unusedVariables false
theorem psame_key : ∀ ps qs : List Pt, psame ps qs = decide (ps.map pkey = qs.map pkey)
  | [], [] => by simp [psame]
  | p :: ps, q :: qs => by
    simp only [psame, psame_key ps qs, List.map_cons, pkey]
    rw [Bool.eq_iff_iff]
    simp [and_assoc]
  | [], q :: qs => by simp [psame]
  | p :: ps, [] => by simp [psame]
theorem csame_yes {v v' d d' : Int} {ps qs : List Pt} {tr tr' : List Int} (h1 : v = v') (h2 : d = d') (h3 : tr = tr') (h4 : ps.map pkey = qs.map pkey) : csame v ps d tr v' qs d' tr' = true := by
  unfold csame
  rw [psame_key]
  simp [h1, h2, h3, h4]
theorem csame_no {v v' d d' : Int} {ps qs : List Pt} {tr tr' : List Int} (h : v ≠ v' ∨ d ≠ d' ∨ tr ≠ tr' ∨ ps.map pkey ≠ qs.map pkey) : csame v ps d tr v' qs d' tr' = false := by
  unfold csame
  rw [psame_key]
  rcases h with h | h | h | h <;> simp [h]
/-- A row and a box of unlike types share no block. -/
theorem Ow.box_ne {w : World} {b e k n c g : Nat} {t : TypeId} {cs : Array Value} {A : Option Addr} {xs : List Value} (h : Ow w b e k A n c xs) (hb : Box w g t cs) (hne : e ≠ t) : ∀ g', A = some ⟨g', 0, none⟩ → (some g : Option Nat) ≠ some g' := by
  intro g' hA e2
  injection e2 with e2
  subst e2
  obtain ⟨cur, fz, h1⟩ := h.type hA
  rw [hb.at_] at h1
  injection h1 with h1
  injection h1 with _ h1
  exact hne h1.symm
end Go.Th
namespace Go.Proofs.Yteellpcagdnikaa
open Go.RowKit Go.Th
set_option linter.unusedVariables false
theorem ty_pc : 26 ≠ 29 := by decide
theorem ty_ic : 3 ≠ 29 := by decide
/-- A certificate in a box: what a call reads. -/
structure CBox (w : World) (g : Nat) (v : Int) (Ap : Option Addr) (np cp : Nat) (d : Int) (At : Option Addr) (nt ct : Nat) (ps : List Pt) (tr : List Int) : Prop where
  box : Box w g 29 (Cv v Ap np cp d At nt ct)
  parts : PRd w w.heap.size Ap np cp ps
  trd : RdS iv w w.heap.size At nt ct tr
  npb : np ≤ 1000000
  ntb : nt ≤ 1000000
  sm : ∀ p ∈ ps, p.n ≤ 1000000
  trb : ∀ x ∈ tr, -9223372036854775808 ≤ x ∧ x ≤ 9223372036854775807
theorem PRd.heap' {w : World} {B : Nat} {A : Option Addr} {n c : Nat} {ps : List Pt} (h : PRd w B A n c ps) : PRd w w.heap.size A n c ps := h.heap
theorem CBox.step {w w' : World} {g : Nat} {v : Int} {Ap : Option Addr} {np cp : Nat} {d : Int} {At : Option Addr} {nt ct : Nat} {ps : List Pt} {tr : List Int} (h : CBox w g v Ap np cp d At nt ct ps tr) (hb : Below w.heap.size w w') : CBox w' g v Ap np cp d At nt ct ps tr :=
  ⟨h.box.step hb, (h.parts.step hb).heap, (h.trd.step hb).heap, h.npb, h.ntb, h.sm, h.trb⟩
/-- Whether two in boxes are the same. -/
theorem same_box {w : World} {g : Nat} {v : Int} {Ap : Option Addr} {np cp : Nat} {d : Int} {At : Option Addr} {nt ct : Nat} {ps : List Pt} {tr : List Int} (h : CBox w g v Ap np cp d At nt ct ps tr)
    {g' : Nat} {v' : Int} {Ap' : Option Addr} {np' cp' : Nat} {d' : Int} {At' : Option Addr} {nt' ct' : Nat} {ps' : List Pt} {tr' : List Int} (h' : CBox w g' v' Ap' np' cp' d' At' nt' ct' ps' tr') (b : Bool) (hb : csame v ps d tr v' ps' d' tr' = b) :
    Calls Try.prog 18 #[.agg #[.int .i64 v, .slice Ap np cp, .int .u32 d, .slice At nt ct], .agg #[.int .i64 v', .slice Ap' np' cp', .int .u32 d', .slice At' nt' ct']] w fun e w' => e = .returned (.bool b) ∧ Below w.heap.size w w' :=
  csame_any v Ap np cp d At nt ct v' Ap' np' cp' d' At' nt' ct' w (by have := h.npb; omega) (by have := h.ntb; omega) ps tr _ h.parts h.trd (fun p hp => by have := h.sm p hp; omega) (by have := h'.npb; omega) (by have := h'.ntb; omega) ps' tr' _ h'.parts h'.trd (fun p hp => by have := h'.sm p hp; omega) b (Lib.hid hb)
theorem may_box {w : World} {g : Nat} {v : Int} {Ap : Option Addr} {np cp : Nat} {d : Int} {At : Option Addr} {nt ct : Nat} {ps : List Pt} {tr : List Int} (h : CBox w g v Ap np cp d At nt ct ps tr) (nodes V : Int) (hV : cmay v ps d tr nodes = V) :
    Calls Try.prog 11 #[.agg #[.int .i64 v, .slice Ap np cp, .int .u32 d, .slice At nt ct], .int .i64 nodes] w fun e w' => e = .returned (.int .i64 V) ∧ Below w.heap.size w w' :=
  cmay_is v Ap np cp d At nt ct nodes w (by have := h.npb; omega) h.ntb ps tr _ (Nat.le_refl _) h.parts h.trd h.trb (fun p hp => by have := h.sm p hp; omega) V hV
theorem wl_cbox {ops : Array Oper} {rest : List Oper} {o : Oper} {a : Act} {Q : Exit → Act → World → Prop} {w : World} (hw : Region.wanted o (yielded ops a.tmps) = true) (x : Operand) (ho : o.op = .load 29 x) {g : Nat} {v : Int} {Ap : Option Addr} {np cp : Nat} {d : Int} {At : Option Addr} {nt ct : Nat} {ps : List Pt} {tr : List Int} (hx : a.eval x = .pointer (some ⟨g, 0, none⟩)) (hb : CBox w g v Ap np cp d At nt ct ps tr)
    (h : wpList Try.prog ops Q rest (a.put o.dst (.agg #[.int .i64 v, .slice Ap np cp, .int .u32 d, .slice At nt ct])) w) : wpList Try.prog ops Q (o :: rest) a w := wcv_box hw x ho hx hb.box h
/-- One of parts, all of the call's own. -/
structure XF (w : World) (base g : Nat) (v : Int) (A : Option Addr) (n c : Nat) (d : Int) (ps : List Pt) (N : Nat) : Prop where
  box : Box w g 29 (Cv v A n c d none 0 0)
  P : POw w base A n c ps N
theorem XF.c {w : World} {base g : Nat} {v : Int} {A : Option Addr} {n c : Nat} {d : Int} {ps : List Pt} {N : Nat} (h : XF w base g v A n c d ps N) (hok : ∀ p ∈ ps, p.Ok) (hn : n ≤ 1000000) (hN : N ≤ 1000000) : CBox w g v A n c d none 0 0 ps [] :=
  ⟨h.box, h.P.rd hok, RdS.nil _ _, hn, by omega, fun p hp => by rw [(h.P.rk p hp).2]; exact hN, by simp⟩
/-- A field of the box is set. -/
theorem POw.cert {w w' : World} {base n c N g : Nat} {A : Option Addr} {ps : List Pt} (h : POw w base A n c ps N) {cs : Array Value} (hb : Box w g 29 cs) (hg : w.grownBy w' (some g)) : POw w' base A n c ps N :=
  ⟨h.parts.grown hg (h.parts.ow.box_ne hb ty_pc), fun p hp => ⟨(h.rk p hp).1.grown hg ((h.rk p hp).1.ow.box_ne hb ty_ic), (h.rk p hp).2⟩, h.dis⟩
/-- One of a loop, all of the call's own. -/
structure XL (w : World) (base g : Nat) (v d : Int) (At : Option Addr) (nt ct : Nat) (tr : List Int) : Prop where
  box : Box w g 29 (Cv v none 0 0 d At nt ct)
  T : OwS iv w base 3 At nt ct tr
theorem XL.c {w : World} {base g : Nat} {v d : Int} {At : Option Addr} {nt ct : Nat} {tr : List Int} (h : XL w base g v d At nt ct tr) (hn : nt ≤ 1000000) (hb : ∀ x ∈ tr, -9223372036854775808 ≤ x ∧ x ≤ 9223372036854775807) : CBox w g v none 0 0 d At nt ct [] tr :=
  ⟨h.box, ⟨RdM.nil _ _, by simp, by simp⟩, h.T.rd, by omega, hn, by simp, hb⟩
theorem own_cert {α : Type} {f : α → Value} {w w' : World} {base n c g : Nat} {A : Option Addr} {xs : List α} (h : OwS f w base 3 A n c xs) {cs : Array Value} (hb : Box w g 29 cs) (hg : w.grownBy w' (some g)) : OwS f w' base 3 A n c xs :=
  h.grown hg (h.ow.box_ne hb ty_ic)
/-- A rank of a part is set. -/
theorem POw.setRank {w w' : World} {base n c N i gr : Nat} {A : Option Addr} {ps : List Pt} {p : Pt} (h : POw w base A n c ps N) (hp : ps[i]? = some p) (hA : p.A = some ⟨gr, 0, none⟩) (rk : List Int) (hr : OwS iv w' base 3 p.A p.n p.c rk) (hg : w.grownBy w' (some gr)) :
    POw w' base A n c (ps.set i ⟨p.fr, p.to, p.A, p.n, p.c, rk⟩) N := by
  have hil := (List.getElem?_eq_some_iff.1 hp).1
  have hpi : ps[i] = p := (List.getElem?_eq_some_iff.1 hp).2
  have hcs : (ps.set i ⟨p.fr, p.to, p.A, p.n, p.c, rk⟩).flatMap Pt.cs = ps.flatMap Pt.cs := by
    have : ∀ (l : List Pt) (i : Nat) (q : Pt), l[i]? = some p → q.cs = p.cs → (l.set i q).flatMap Pt.cs = l.flatMap Pt.cs := by
      intro l
      induction l with
      | nil => intro i q h; simp at h
      | cons x l ih =>
        intro i q h hq
        cases i with
        | zero => simp at h; subst h; simp [hq]
        | succ i => rw [List.set_cons_succ, List.flatMap_cons, List.flatMap_cons, ih i q (by simpa using h) hq]
    exact this ps i _ hp rfl
  have hne : ∀ q : Pt, rowOf q.A ≠ rowOf p.A → ∀ g', q.A = some ⟨g', 0, none⟩ → (some gr : Option Nat) ≠ some g' := fun q hq g' h e => by
    rw [hA, h] at hq
    injection e with e
    exact hq (by rw [e])
  refine ⟨⟨?_, by rw [List.length_set]; exact h.parts.len⟩, fun q hq => ?_, ?_⟩
  · have := (h.parts.grown hg (fun g' hA' e => by
      injection e with e
      subst e
      exact (h.rk p (List.mem_of_getElem? hp)).1.ow.apart h.parts.ow ty_ne.symm _ hA (by rw [hA']; rfl))).ow
    rw [hcs]
    exact this
  · obtain ⟨j, hj⟩ := List.getElem?_of_mem hq
    rw [List.getElem?_set] at hj
    by_cases e : i = j
    · subst e
      rw [if_pos rfl, if_pos hil] at hj
      injection hj with hj
      subst hj
      exact ⟨hr, (h.rk p (List.mem_of_getElem? hp)).2⟩
    · rw [if_neg e] at hj
      have hq2 := h.rk q (List.mem_of_getElem? hj)
      refine ⟨hq2.1.grown hg (hne q ?_), hq2.2⟩
      have hjl := (List.getElem?_eq_some_iff.1 hj).1
      have hqj : ps[j] = q := (List.getElem?_eq_some_iff.1 hj).2
      rcases Nat.lt_or_gt_of_ne e with hlt | hlt
      · have := List.pairwise_iff_getElem.1 h.dis i j hil hjl hlt
        rw [hpi, hqj] at this
        exact this.symm
      · have := List.pairwise_iff_getElem.1 h.dis j i hjl hil hlt
        rw [hpi, hqj] at this
        exact this
  · rw [List.pairwise_iff_getElem]
    intro a b ha hb hab
    have key : ∀ (x : Nat) (hx : x < (ps.set i ⟨p.fr, p.to, p.A, p.n, p.c, rk⟩).length), rowOf ((ps.set i ⟨p.fr, p.to, p.A, p.n, p.c, rk⟩)[x]).A = rowOf (ps[x]'(by rw [List.length_set] at hx; exact hx)).A := by
      intro x hx
      rw [List.getElem_set]
      split
      · rename_i e; subst e; rw [hpi]
      · rfl
    rw [key a ha, key b hb]
    exact List.pairwise_iff_getElem.1 h.dis a b _ _ hab
theorem fitfree_is (v : Int) (hv : bits .and .i64 v 1 ≠ 0) (Ap : Option Addr) (np cp : Nat) (d : Int) (At : Option Addr) (nt ct : Nat) (nodes : Nat) (hno : 1 ≤ nodes ∧ nodes ≤ 1000) (w : World) (hnp : np ≤ 9223372036854775807) (ps : List Pt) (B : Nat) (hp : PRd w B Ap np cp ps) (hsm : ∀ p ∈ ps, p.n ≤ 1048576) (l rs : List Int) (L : Nat) (hl : fcuts ps = l) (hrs : franksIn ps = rs) (hL : l.length = L) :
    Calls Try.prog 13 #[.agg #[.int .i64 v, .slice Ap np cp, .int .u32 d, .slice At nt ct], .int .i64 nodes] w (fun e w' => ∃ A' c' ps', e = .returned (.agg #[.int .i64 1, .slice A' L c', .int .u32 0, .slice none 0 0]) ∧ POw w' w.heap.size A' L c' ps' nodes ∧ FPs l rs nodes ps' ∧ Below w.heap.size w w') := by
  subst hl hrs hL
  refine (rcfit_free v hv Ap np cp d At nt ct nodes hno w hnp ps B hp hsm).mono ?_
  rintro e w' ⟨A', c', ps', h1, h2, h3, h4⟩
  have e1 := h3.len
  rw [e1] at h1 h2
  exact ⟨A', c', ps', h1, h2, h3, h4⟩
/-- How many parts Fit makes. -/
theorem fcuts_len {ps : List Pt} (hok : ∀ p ∈ ps, p.Ok) : 0 < (fcuts ps).length ∧ (fcuts ps).length ≤ 31 := by
  have h := pfit_row (m := (ps.take 12).map (·.fr)) (fun x hx => by
    obtain ⟨p, hp, rfl⟩ := List.mem_map.1 hx
    exact (hok p (List.mem_of_mem_take hp)).fr)
  refine ⟨?_, h.2⟩
  rcases Nat.eq_zero_or_pos (fcuts ps).length with e | e
  · have := h.1.head
    rw [show pfit _ = fcuts ps from rfl, List.eq_nil_of_length_eq_zero e] at this; cases this
  · exact e
theorem few_ok {ps : List Pt} (h : ∀ p ∈ ps, p.Ok) : ∀ p ∈ (ps.take 20).map Pt.few, p.Ok ∧ p.n ≤ 20 := fun p hp => by
  obtain ⟨q, hq, rfl⟩ := List.mem_map.1 hp
  exact ⟨⟨(h q (List.mem_of_mem_take hq)).fr, (h q (List.mem_of_mem_take hq)).to⟩, by show min q.n 20 ≤ 20; omega⟩
end Go.Proofs.Yteellpcagdnikaa
