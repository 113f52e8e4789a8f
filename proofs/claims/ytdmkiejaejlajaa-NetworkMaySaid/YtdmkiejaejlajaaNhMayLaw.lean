/-
  Networks of many nodes and of many rules: the plain law; append to a row of elements of many cells, and where it lies then.
-/
import Derived.Test.YtdmkiejaejlajaaNhPlainLaw
namespace Go.Th
open Go.RowKit
set_option linter.unusedVariables false
section
variable {P : Program} {ops : Array Oper} {rest : List Oper} {o : Oper} {a : Act} {Q : Exit → Act → World → Prop} {w : World} {α : Type} {f : α → List Value} {k : Nat}
theorem wm_appendA (hf : ∀ x, (f x).length = k) (hw : Region.wanted o (yielded ops a.tmps) = true) (s x : Operand) (t : TypeId)
    (ho : o.op = .call { callee := .builtin .append, args := #[s, x], argTypes := #[t, t] })
    {base E : Nat} {z : Value} {bytes : Nat} (el : ElM P t E z bytes k) (h1 : ∀ x, ∀ u ∈ f x, u.oneCell' = true)
    {A : Option Addr} {n c : Nat} (hs : a.eval s = .slice A n c) {xs : List α} (hown : OwM f k w base E A n c xs)
    {B : Nat} {A' : Option Addr} {m c' : Nat} (hx : a.eval x = .slice A' m c') {ys : List α} (hr : RdM f w B A' m c' ys)
    (hbytes : (n + m) * bytes ≤ 140737488355328) (hpos : 0 < bytes) (hbase : base ≤ w.heap.size)
    (h : ∀ A'' c'' w', OwM f k w' base E A'' (n + m) c'' (xs ++ ys) → w.grownBy w' (rowOf A) → Below base w w' → (A'' = A ∨ A'' = some ⟨w.heap.size, 0, Option.none⟩) → wpList P ops Q rest (a.put o.dst (.slice A'' (n + m) c'')) w') : wpList P ops Q (o :: rest) a w := by
  obtain ⟨i, hi, hz, hsize, hby⟩ := el.info
  have h63 : n + m ≤ maxLen := by
    have := Nat.le_mul_of_pos_right (n + m) hpos
    simp only [maxLen]; omega
  obtain ⟨A'', c'', w', hrun, h2, h3, h4⟩ := run_append (P := P) (ty := o.type) (c' := c') el.ht hi hz hsize hby el.cells el.pos hown.ow (news := ys.flatMap f) (by rw [flat_length hf, hr.len]) hr.rd (by
    intro u hu
    obtain ⟨y, _, hu⟩ := List.mem_flatMap.1 hu
    exact h1 y u hu) h63 hbytes hbase
  refine wl_run hw ?_ (h A'' c'' w' ⟨by rw [← List.flatMap_append] at h2; exact h2, by have := hown.len; have := hr.len; simp; omega⟩ h3 ((Below.refl _ _).grown h3 hbase hown.ow.row_ge) h4)
  simp only [execOp, ho, resolve, invoke, builtin, Sem.run_bind, Sem.run_pure, Result.andThen, List.map_toArray, List.map_cons, List.map_nil, hs, hx, hrun]
end
end Go.Th
namespace Go.Proofs.Ytdmkiejaejlajaa
open Go.RowKit Go.Th
set_option linter.unusedVariables false
def drR (j : Nat) : Ru := ⟨(j : Int), 32, 3, 0⟩
def drs (p k : Nat) : List Ru := (List.range k).map fun j => drR (2 * j + p)
theorem drs_snoc (p k : Nat) : drs p (k + 1) = drs p k ++ [drR (2 * k + p)] := by unfold drs; rw [List.range_succ, List.map_append]; rfl
theorem drs_len (p k : Nat) : (drs p k).length = k := by simp [drs]
def deep (i : Nat) : List (List Ru) := [drs 0 ((i + 1) / 2), drs 1 (i / 2)]
theorem deep_size (i : Nat) : nsize (deep i) = i := by
  unfold nsize deep
  simp [drs_len]
  omega
theorem sh32 : sh 32 = 0 := by decide +kernel
theorem drR_may (j : Nat) (nodes : Int) : (drR j).may nodes = 0 := by
  unfold Ru.may drR
  dsimp only
  have h : pmay (j : Int) 32 = 0 := by
    unfold pmay
    rw [if_neg (by omega), sh32, if_pos (by omega)]
  rw [if_neg (by rw [h]; simp), if_neg (by decide), if_pos (by decide), if_neg (by decide)]
theorem drs_sorted (p : Nat) (k : Nat) : Sorted (drs p k) := by
  unfold Sorted drs
  rw [List.pairwise_map]
  refine List.pairwise_lt_range.imp ?_
  intro i j hij
  refine (Ru.cmp_lt _ _).2 (.inl ?_)
  show ((2 * i + p : Nat) : Int) < ((2 * j + p : Nat) : Int)
  omega
theorem drs_may (p k : Nat) (nodes : Int) : tmay (drs p k) nodes = 0 := tmay_ok (drs_sorted p k) fun r hr => by
  obtain ⟨j, _, rfl⟩ := List.mem_map.1 hr
  exact drR_may _ _
theorem drR_ok {j : Nat} (h : j ≤ 10000) : (drR j).Ok := by refine ⟨?_, ?_, ?_, ?_⟩ <;> simp [drR] <;> omega
theorem deep_may (i : Nat) : nmay (deep i) = if 4096 < i then 12 else 0 := by
  unfold nmay
  rw [deep_size]
  by_cases h : 4096 < i
  · rw [if_pos (.inr h), if_pos h]
  · rw [if_neg (by simp [deep]; omega), if_neg h]
    refine nmayGo_zero.2 fun l hl => ?_
    simp only [deep, List.mem_cons, List.not_mem_nil, or_false] at hl
    rcases hl with rfl | rfl <;> exact drs_may _ _ _
def wideL (n : Nat) : List (List Ru) := (List.replicate n ([] : List Ru)).set 0 [sRu (n - 1)]
theorem wide_size {n : Nat} (h : 1 ≤ n) : nsize (wideL n) = 1 := by
  obtain ⟨m, rfl⟩ : ∃ m, n = m + 1 := ⟨n - 1, by omega⟩
  unfold nsize wideL
  rw [List.replicate_succ, List.set_cons_zero]
  simp
theorem wide_may {n : Nat} (h : 1 ≤ n) : nmay (wideL n) = if 256 < n then 12 else 0 := by
  unfold nmay
  rw [wide_size h]
  have hl : (wideL n).length = n := by simp [wideL]
  rw [hl]
  by_cases h2 : 256 < n
  · rw [if_pos (.inl h2), if_pos h2]
  · rw [if_neg (by omega), if_neg h2]
    refine nmayGo_zero.2 fun l hl => ?_
    rcases List.mem_or_eq_of_mem_set hl with hl | rfl
    · rw [List.eq_of_mem_replicate hl]; rfl
    · unfold tmay
      rw [tmayGo, if_neg (by simp [sRu_may (v := n - 1) (nodes := (n : Int)) (by omega)]), if_neg (by simp [outOf])]
      rfl
theorem odd_may {m : Nat} (h : 1 ≤ m) : nmay [[sRu m]] = 10 := by
  have hr : (sRu m).may 1 = 10 := by
    unfold Ru.may sRu
    dsimp only
    rw [if_neg (by rw [pmay0]; simp), if_pos rfl, if_pos (by omega)]
  unfold nmay
  rw [if_neg (by simp [nsize])]
  unfold nmayGo
  have : tmay [sRu m] ((([[sRu m]] : List (List Ru)).length : Nat) : Int) = 10 := by
    unfold tmay
    rw [show ((([[sRu m]] : List (List Ru)).length : Nat) : Int) = 1 from rfl, tmayGo, if_pos (by rw [hr]; decide), hr]
  rw [this]
  simp
end Go.Proofs.Ytdmkiejaejlajaa
