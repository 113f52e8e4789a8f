/-
  append, and what the row read before it still reads. Plain theorems over any program.
-/
import Derived.Test.YteellpcagdnikaaAppend
import Derived.Test.YteellpcagdnikaaKeep
namespace Go.Th
open Go.RowKit
set_option linter.unusedVariables false
section
variable {P : Program} {ops : Array Oper} {rest : List Oper} {o : Oper} {a : Act} {Q : Exit → Act → World → Prop} {w : World}
theorem append_keep {base : Nat} {t ty E : TypeId} {i : TypeInfo} {z : Value} {size bytes : Nat} (ht : P.underlying t = some (.slice E)) (hi : P.info? E = some i) (hz : i.zero = some z)
    (hsize : i.size = size) (hby : i.bytes = bytes) (hsz : 0 < size) {g n c : Nat} {xs : List Value} (hown : Ow w base E size (some ⟨g, 0, none⟩) n c xs)
    {ad : Addr} {m c' : Nat} {news : List Value} (hl : news.length = m * size) (hr : ∀ j u, news[j]? = some u → w.cell? (ad.add j) = some u) (h1 : ∀ u ∈ news, u.oneCell' = true)
    (h63 : n + m ≤ maxLen) (hbytes : (n + m) * bytes ≤ 140737488355328) {v' : Value} {w' : World}
    (hrun : (Builtin.append_ #[t, t] ty #[.slice (some ⟨g, 0, none⟩) n c, .slice (some ad) m c']).run P w = .ok v' w') :
    ∀ j, j < n * size → w'.cell? ⟨g, j, none⟩ = w.cell? ⟨g, j, none⟩ := by
  subst hsize hby
  intro j hj
  rcases hown.own.2 with ⟨hv, _⟩ | ⟨g', cap, cur, hv, hbg, hg, hnc, hcm, hcs, htake⟩
  · cases hv
  · injection hv with hv1 _ hv3
    injection hv1 with hv1
    injection hv1 with hv1
    subst hv1 hv3
    have hlt : g < w.heap.size := (Array.getElem?_eq_some_iff.1 hg).1
    have hle : n * i.size ≤ cur.size := by rw [hcs]; exact Nat.mul_le_mul_right _ hnc
    by_cases hroom : n + m ≤ c
    · have hfit : n * i.size + news.length ≤ cur.size := by rw [hl, hcs, ← Nat.add_mul]; exact Nat.mul_le_mul_right _ hroom
      have h := run_append_room (P := P) w t ty E i ht hi g n c cur hg ad m c' news hl hr h1 hroom hfit
      rw [hrun] at h
      injection h with _ h
      subst h
      have hx : (cur.toList.take (n * i.size) ++ news ++ cur.toList.drop (n * i.size + news.length))[j]? = cur.toList[j]? := by
        rw [List.append_assoc, List.getElem?_append_left (by rw [List.length_take, Array.length_toList]; omega), List.getElem?_take, if_pos hj]
      rw [cell_of_row _ g j _ E (0, 0) (setRow_heap w g cur _ E (0, 0) hg), cell_of_row w g j cur E (0, 0) hg]
      simpa using hx
    · have holds : ∀ j u, xs[j]? = some u → w.cell? ((⟨g, 0, none⟩ : Addr).add j) = some u := hown.own.cells (g := g) rfl
      have hsmall : n + m ≤ 9223372036854775807 := by simp only [maxLen] at h63; omega
      have h := run_append_grow (P := P) w t ty E i z ht hi hz ⟨g, 0, none⟩ n c xs hown.own.1 holds ad m c' news hl hr (by omega) (by omega) (growslice_fits (by omega) hbytes)
      rw [hrun] at h
      injection h with _ h
      subst h
      exact World.cell?_alloc_lt w.drew _ ⟨g, j, none⟩ hlt
/-- append to a row that is there: where it lies then, and what it read still reads. -/
theorem wl_appendK (hw : Region.wanted o (yielded ops a.tmps) = true) (s x : Operand) (t : TypeId)
    (ho : o.op = .call { callee := .builtin .append, args := #[s, x], argTypes := #[t, t] })
    {base E : Nat} {z : Value} {bytes : Nat} (el : El P t E z bytes) {α : Type} {f : α → Value} (hf : ∀ x, (f x).oneCell' = true)
    {g n c : Nat} (hs : a.eval s = .slice (some ⟨g, 0, none⟩) n c) {xs : List α} (hown : OwS f w base E (some ⟨g, 0, none⟩) n c xs)
    {B : Nat} {ad : Addr} {m c' : Nat} (hx : a.eval x = .slice (some ad) m c') {ys : List α} (hr : RdS f w B (some ad) m c' ys)
    (hbytes : (n + m) * bytes ≤ 140737488355328) (hpos : 0 < bytes) (hbase : base ≤ w.heap.size)
    (h : ∀ A'' c'' w', OwS f w' base E A'' (n + m) c'' (xs ++ ys) → w.grownBy w' (some g) → Below base w w' → (A'' = some ⟨g, 0, none⟩ ∨ A'' = some ⟨w.heap.size, 0, Option.none⟩) → (∀ j, j < n → w'.cell? ⟨g, j, none⟩ = w.cell? ⟨g, j, none⟩) → wpList P ops Q rest (a.put o.dst (.slice A'' (n + m) c'')) w') : wpList P ops Q (o :: rest) a w := by
  obtain ⟨i, hi, hz, hsize, hby⟩ := el.info
  have h63 : n + m ≤ maxLen := by
    have := Nat.le_mul_of_pos_right (n + m) hpos
    simp only [maxLen]; omega
  have hone : ∀ u ∈ ys.map f, u.oneCell' = true := by
    intro u hu
    obtain ⟨y, _, rfl⟩ := List.mem_map.1 hu
    exact hf y
  have hnl : (ys.map f).length = m * 1 := by rw [List.length_map, hr.len]; omega
  obtain ⟨A'', c'', w', hrun, h2, h3, h4⟩ := run_append (P := P) (ty := o.type) (c' := c') el.ht hi hz hsize hby (by rw [el.cells]; rfl) (by omega) hown.ow hnl hr.rd hone h63 hbytes hbase
  have hk := append_keep el.ht hi hz hsize hby (by omega) hown.ow hnl (hr.rd.cells rfl) hone h63 hbytes hrun
  refine wl_run hw ?_ (h A'' c'' w' ⟨by rw [← List.map_append] at h2; exact h2⟩ h3 ((Below.refl _ _).grown h3 hbase hown.ow.row_ge) h4 (fun j hj => hk j (by omega)))
  simp only [execOp, ho, resolve, invoke, builtin, Sem.run_bind, Sem.run_pure, Result.andThen, List.map_toArray, List.map_cons, List.map_nil, hs, hx, hrun]
/-- The same of elements of k cells. -/
theorem wm_appendK {α : Type} {f : α → List Value} {k : Nat} (hf : ∀ x, (f x).length = k) (hw : Region.wanted o (yielded ops a.tmps) = true) (s x : Operand) (t : TypeId)
    (ho : o.op = .call { callee := .builtin .append, args := #[s, x], argTypes := #[t, t] })
    {base E : Nat} {z : Value} {bytes : Nat} (el : ElM P t E z bytes k) (h1 : ∀ x, ∀ u ∈ f x, u.oneCell' = true)
    {g n c : Nat} (hs : a.eval s = .slice (some ⟨g, 0, none⟩) n c) {xs : List α} (hown : OwM f k w base E (some ⟨g, 0, none⟩) n c xs)
    {B : Nat} {ad : Addr} {m c' : Nat} (hx : a.eval x = .slice (some ad) m c') {ys : List α} (hr : RdM f w B (some ad) m c' ys)
    (hbytes : (n + m) * bytes ≤ 140737488355328) (hpos : 0 < bytes) (hbase : base ≤ w.heap.size)
    (h : ∀ A'' c'' w', OwM f k w' base E A'' (n + m) c'' (xs ++ ys) → w.grownBy w' (some g) → Below base w w' → (A'' = some ⟨g, 0, none⟩ ∨ A'' = some ⟨w.heap.size, 0, Option.none⟩) → (∀ j, j < n * k → w'.cell? ⟨g, j, none⟩ = w.cell? ⟨g, j, none⟩) → wpList P ops Q rest (a.put o.dst (.slice A'' (n + m) c'')) w') : wpList P ops Q (o :: rest) a w := by
  obtain ⟨i, hi, hz, hsize, hby⟩ := el.info
  have h63 : n + m ≤ maxLen := by
    have := Nat.le_mul_of_pos_right (n + m) hpos
    simp only [maxLen]; omega
  have hone : ∀ u ∈ ys.flatMap f, u.oneCell' = true := by
    intro u hu
    obtain ⟨y, _, hy⟩ := List.mem_flatMap.1 hu
    exact h1 y u hy
  have hnl : (ys.flatMap f).length = m * k := by rw [flat_length hf, hr.len]
  obtain ⟨A'', c'', w', hrun, h2, h3, h4⟩ := run_append (P := P) (ty := o.type) (c' := c') el.ht hi hz hsize hby el.cells el.pos hown.ow hnl hr.rd hone h63 hbytes hbase
  have hk := append_keep el.ht hi hz hsize hby el.pos hown.ow hnl (hr.rd.cells rfl) hone h63 hbytes hrun
  refine wl_run hw ?_ (h A'' c'' w' ⟨by rw [← List.flatMap_append] at h2; exact h2, by rw [List.length_append, hown.len, hr.len]⟩ h3 ((Below.refl _ _).grown h3 hbase hown.ow.row_ge) h4 hk)
  simp only [execOp, ho, resolve, invoke, builtin, Sem.run_bind, Sem.run_pure, Result.andThen, List.map_toArray, List.map_cons, List.map_nil, hs, hx, hrun]
end
end Go.Th
