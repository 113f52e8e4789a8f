/-
  What certificates are worth: the plain law. (Each address is sent as the cut ahead of it is; ranks that fall leave no way round; a trace leads round.)
-/
import Derived.Test.YtjandnidljbkoaaGreatSTpEx
namespace Go.Th
set_option linter.unusedVariables false
theorem div_is (x P q : Nat) (hP : 1 ≤ P) : q = x / P ↔ q * P ≤ x ∧ x ≤ q * P + (P - 1) := by
  constructor
  · rintro rfl
    have h1 := Nat.div_mul_le_self x P
    have h2 := Nat.mod_lt x hP
    have h3 := Nat.div_add_mod x P
    rw [Nat.mul_comm] at h3
    exact ⟨h1, by omega⟩
  · rintro ⟨h1, h2⟩
    exact (Nat.div_eq_of_lt_le h1 (by rw [Nat.succ_mul]; omega)).symm
theorem holds_iff {a n x : Int} (hx : 0 ≤ x) : holds a n x = true ↔ lead a n ≤ x ∧ x ≤ tailOf a n := by
  have hp := pow_sh n
  unfold holds head tailOf lead
  rw [decide_eq_true_eq, div_is x.toNat (2 ^ sh n) (a.toNat / 2 ^ sh n) hp.1]
  omega
theorem tfind_congr {x y : Int} : ∀ {l : List Ru}, (∀ r ∈ l, r.holds x = r.holds y) → tfind l x = tfind l y := by
  intro l h
  unfold tfind
  suffices ∀ (l : List Ru) (p : Ru × Bool), (∀ r ∈ l, r.holds x = r.holds y) → l.foldl (fstep x) p = l.foldl (fstep y) p from this l _ h
  intro l
  induction l with
  | nil => exact fun p _ => rfl
  | cons r l ih =>
    intro p h
    rw [List.foldl_cons, List.foldl_cons, show fstep x p r = fstep y p r by unfold fstep; rw [h r (by simp)]]
    exact ih _ fun s hs => h s (by simp [hs])
theorem lcuts_has : ∀ (l : List Ru) {ks : List Int} {r : Ru}, r ∈ l → lead r.a r.n ∈ lcuts ks l ∧ (tailOf r.a r.n ≠ 4294967295 → tailOf r.a r.n + 1 ∈ lcuts ks l)
  | q :: l, ks, r, h => by
    rcases List.mem_cons.1 h with rfl | h
    · refine ⟨lcuts_sub l ?_, fun hne => lcuts_sub l ?_⟩
      · unfold rcuts
        split <;> simp [mem_addK]
      · unfold rcuts
        rw [if_neg hne]
        simp [mem_addK]
    · exact lcuts_has l h
theorem ckeys_has {ls : List (List Ru)} {l : List Ru} {r : Ru} (hl : l ∈ ls) (hr : r ∈ l) : lead r.a r.n ∈ ckeys ls ∧ (tailOf r.a r.n ≠ 4294967295 → tailOf r.a r.n + 1 ∈ ckeys ls) := by
  have key : ∀ (ls : List (List Ru)) (ks : List Int) {x : Int}, x ∈ ks → x ∈ ls.foldl lcuts ks := by
    intro ls
    induction ls with
    | nil => exact fun ks x h => h
    | cons l ls ih => exact fun ks x h => ih _ (lcuts_sub l h)
  have key2 : ∀ (ls : List (List Ru)) (ks : List Int), l ∈ ls → lead r.a r.n ∈ ls.foldl lcuts ks ∧ (tailOf r.a r.n ≠ 4294967295 → tailOf r.a r.n + 1 ∈ ls.foldl lcuts ks) := by
    intro ls
    induction ls with
    | nil => exact fun ks h => (nomatch h)
    | cons q ls ih =>
      intro ks h
      rcases List.mem_cons.1 h with rfl | h
      · exact ⟨key ls _ (lcuts_has l hr).1, fun hne => key ls _ ((lcuts_has l hr).2 hne)⟩
      · exact ih _ h
  exact key2 ls [0] hl
theorem last_le {l : List Int} {a : Int} (h : ∃ x ∈ l, x ≤ a) : ∃ x ∈ l, x ≤ a ∧ ∀ y ∈ l, y ≤ a → y ≤ x := by
  induction l with
  | nil => obtain ⟨x, hx, _⟩ := h; cases hx
  | cons z l ih =>
    by_cases h2 : ∃ x ∈ l, x ≤ a
    · obtain ⟨x, h3, h4, h5⟩ := ih h2
      by_cases h6 : z ≤ a ∧ x < z
      · refine ⟨z, by simp, h6.1, fun y hy hya => ?_⟩
        rcases List.mem_cons.1 hy with rfl | hy
        · exact Int.le_refl _
        · have := h5 y hy hya; omega
      · refine ⟨x, by simp [h3], h4, fun y hy hya => ?_⟩
        rcases List.mem_cons.1 hy with rfl | hy
        · omega
        · exact h5 y hy hya
    · obtain ⟨x, hx, hxa⟩ := h
      rcases List.mem_cons.1 hx with rfl | hx
      · refine ⟨x, by simp, hxa, fun y hy hya => ?_⟩
        rcases List.mem_cons.1 hy with rfl | hy
        · exact Int.le_refl _
        · exact absurd ⟨y, hy, hya⟩ h2
      · exact absurd ⟨x, hx, hxa⟩ h2
theorem meet_has : ∀ (ps : List Pt) (b a : Int), meetF b ps = true → b ≤ a → a ≤ 4294967295 → ∃ p ∈ ps, p.fr ≤ a ∧ a ≤ p.to
  | [], b, a, h, h1, h2 => by
    simp only [meetF, decide_eq_true_eq] at h
    omega
  | p :: ps, b, a, h, h1, h2 => by
    simp only [meetF, Bool.and_eq_true, decide_eq_true_eq] at h
    by_cases e : a ≤ p.to
    · exact ⟨p, by simp, by omega, e⟩
    · obtain ⟨q, h3, h4⟩ := meet_has ps (p.to + 1) a h.2.2 (by omega) h2
      exact ⟨q, by simp [h3], h4⟩
theorem fall_no {h : Int → Int} {g : Int → Bool} (rk : Int → Int) (hf : ∀ u, g u = true → rk (h u) < rk u) {u : Int} {L : Nat} (c : Cyc h g u L) : False := by
  have key : ∀ j : Nat, rk (itr h j u) + j ≤ rk u := by
    intro j
    induction j with
    | zero => show rk u + 0 ≤ rk u; omega
    | succ j ih =>
      have := hf _ (c.all j)
      rw [itr]
      omega
  have h1 := key L
  rw [c.back] at h1
  have := c.pos
  omega
end Go.Th
namespace Go.Proofs.YtjandnidljbkoaaGreat
open Go.RowKit Go.Th
set_option linter.unusedVariables false
theorem nsize_mem {ns : List (List Ru)} {l : List Ru} (h : l ∈ ns) : l.length ≤ nsize ns := by
  obtain ⟨k, hk, e⟩ := List.mem_iff_getElem.1 h
  have h1 := nsize_take (k := k) (ns := ns) (l := l) (by rw [List.getElem?_eq_getElem hk, e])
  have h2 := nsize_take_le ns (k + 1)
  omega
theorem vec_const {ls : List (List Ru)} {x a : Int} (h0 : 0 ≤ x) (hxa : x ≤ a) (ha : a ≤ 4294967295) (hno : ∀ y ∈ ckeys ls, x < y → a < y) : vecOf ls a = vecOf ls x := by
  unfold vecOf
  refine List.map_congr_left fun l hl => ?_
  rw [tfind_congr (x := a) (y := x) fun r hr => ?_]
  obtain ⟨h1, h2⟩ := ckeys_has hl hr
  have i1 := holds_iff (a := r.a) (n := r.n) (x := x) h0
  have i2 := holds_iff (a := r.a) (n := r.n) (x := a) (by omega)
  have h3 := fun h => hno _ h1 h
  have h4 : x < tailOf r.a r.n + 1 → tailOf r.a r.n ≠ 4294967295 → a < tailOf r.a r.n + 1 := fun h hne => hno _ (h2 hne) h
  have e : holds r.a r.n a = true ↔ holds r.a r.n x = true := by
    rw [i1, i2]
    constructor
    · rintro ⟨h5, h6⟩
      exact ⟨by omega, by omega⟩
    · rintro ⟨h5, h6⟩
      refine ⟨by omega, ?_⟩
      by_cases hne : tailOf r.a r.n = 4294967295
      · omega
      · have := h4 (by omega) hne; omega
  show holds r.a r.n a = holds r.a r.n x
  exact Bool.eq_iff_iff.2 e
theorem hof_same {ls : List (List Ru)} (hN : NetOk ls) {a x : Int} (h : vecOf ls a = vecOf ls x) : hof ls a = hof ls x ∧ gof ls a = gof ls x :=
  ⟨by rw [hof_vec hN, hof_vec hN, h], by rw [gof_vec hN, gof_vec hN, h]⟩
theorem pts_all {ls : List (List Ru)} {ps : List Pt} (hok : ∀ l ∈ ls, ∀ r ∈ l, r.Ok) (hm : meetF 0 ps = true) (hp : ∀ p ∈ ps, p.Ok) {a : Int} (ha : 0 ≤ a ∧ a ≤ 4294967295) : ∃ p ∈ ps, ∃ x ∈ ptsOf (cutsOf ls) p, vecOf ls a = vecOf ls x := by
  obtain ⟨p, hpm, h1, h2⟩ := meet_has ps 0 a hm ha.1 ha.2
  obtain ⟨x, h3, h4, h5⟩ := last_le (l := ptsOf (cutsOf ls) p) (a := a) ⟨p.fr, by simp [ptsOf], h1⟩
  have hb := ptsOf_bound hok (hp p hpm)
  refine ⟨p, hpm, x, h3, vec_const (hb x h3).1 h4 ha.2 fun y hy hxy => ?_⟩
  by_cases hya : a < y
  · exact hya
  · exfalso
    have h6 := h5 p.fr (by simp [ptsOf]) h1
    have : y ∈ ptsOf (cutsOf ls) p := by
      unfold ptsOf insideF
      refine List.mem_cons_of_mem _ (List.mem_filter.2 ⟨mem_cutsOf.2 hy, ?_⟩)
      simp
      omega
    have := h5 y this (by omega)
    omega
theorem fallP_no {ls : List (List Ru)} {rk pts : List Int} {x : Int} (h : FallP ls rk pts) (hx : x ∈ pts) {u : Int} {L : Nat} (c : Cyc (hof ls x) (gof ls x) u L) : False :=
  fall_no (fun u => rk.getD u.toNat 0) (fun v hv => h x hx v (gof_in hv).1 (gof_in hv).2 hv) c
theorem free_sure {ls : List (List Ru)} (hN : NetOk ls) {ps : List Pt} (hm : meetF 0 ps = true) (hp : ∀ p ∈ ps, p.Ok) (hf : ∀ p ∈ ps, FallP ls p.rk (ptsOf (cutsOf ls) p)) {a : Int} (ha : 0 ≤ a ∧ a ≤ 4294967295) (u : Int) (L : Nat) : ¬ Cyc (hof ls a) (gof ls a) u L := by
  intro c
  obtain ⟨p, h1, x, h2, h3⟩ := pts_all hN.ok hm hp ha
  obtain ⟨e1, e2⟩ := hof_same hN h3
  rw [e1, e2] at c
  exact fallP_no (hf p h1) h2 c
theorem trace_cyc {ls : List (List Ru)} {d : Int} {tr : List Int} (h : TraceP ls d tr) : ∃ u, tr[0]? = some u ∧ Cyc (hof ls d) (gof ls d) u tr.length := by
  obtain ⟨h1, h2⟩ := h
  have hpos : 0 < tr.length := List.length_pos_iff.2 h1
  have key : ∀ j, j < tr.length → tr[j]? = some (itr (hof ls d) j (tr.getD 0 0)) := by
    intro j
    induction j with
    | zero => intro _; simp [itr, List.getD_eq_getElem?_getD, List.getElem?_eq_getElem hpos]
    | succ j ih =>
      intro hj
      have h3 := ih (by omega)
      have h4 := (h2 j _ h3).2
      rw [itr, h4]
      unfold nxt
      rw [if_pos hj]
      simp [List.getD_eq_getElem?_getD, List.getElem?_eq_getElem hj]
  refine ⟨tr.getD 0 0, by simp [List.getD_eq_getElem?_getD, List.getElem?_eq_getElem hpos], by omega, fun j hj => (h2 j _ (key j hj)).1, ?_⟩
  obtain ⟨m, hm⟩ : ∃ m, tr.length = m + 1 := ⟨tr.length - 1, by omega⟩
  have h3 := (h2 m _ (key m (by omega))).2
  rw [hm, itr, h3]
  unfold nxt
  rw [if_neg (by omega)]
theorem cyc_short {ls : List (List Ru)} {a u : Int} {L : Nat} (c : Cyc (hof ls a) (gof ls a) u L) : ∃ M, M ≤ ls.length ∧ Cyc (hof ls a) (gof ls a) u M := by
  obtain ⟨M, h1, h2, h3⟩ := c.least
  refine ⟨M, ?_, h1⟩
  have h4 := sits_nodup h1 h3
  have h5 := nodup_le ls.length ((sits ls a u M).map Int.toNat) (by
    rw [List.nodup_iff_pairwise_ne, List.pairwise_map]
    refine (List.nodup_iff_pairwise_ne.1 h4).imp_of_mem fun {x y} hx hy hne he => hne ?_
    have := sits_in h1 hx
    have := sits_in h1 hy
    omega) (fun x hx => by
    obtain ⟨y, hy, rfl⟩ := List.mem_map.1 hx
    have := sits_in h1 hy
    omega)
  rwa [List.length_map, sits_len] at h5
end Go.Proofs.YtjandnidljbkoaaGreat
