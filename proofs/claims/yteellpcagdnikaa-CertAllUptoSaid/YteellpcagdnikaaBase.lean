/-
  Words for memory that all walks of this seat share: a slice that reads as a list ('Rd'), a row of the call's own ('Ow'), and the steps of a walk over them. Plain theorems over any program.
-/
import Derived.WalkKit
import Derived.WalkSpells
import Derived.WalkLawsBesides
import Derived.Deep.QuietTactic
import Derived.BigQuiet
import Derived.Laws.BytesArg
import Derived.Lib.ConvBytes
import Derived.Lib.Hide
import Derived.Outline
import Derived.Maps.AppendAt
namespace Go.Th
open Go.RowKit

/-- A byte as a cell; a whole number as a cell. -/
def bv (b : UInt8) : Value := .int .u8 (b.toNat : Int)
def iv (n : Int) : Value := .int .i64 n
def uv (n : Int) : Value := .int .u32 n
theorem bv_one (bs : List UInt8) : ∀ u ∈ bs.map bv, u.oneCell' = true := by
  intro u hu
  obtain ⟨b, _, rfl⟩ := List.mem_map.1 hu
  rfl
theorem iv_one (bs : List Int) : ∀ u ∈ bs.map iv, u.oneCell' = true := by
  intro u hu
  obtain ⟨b, _, rfl⟩ := List.mem_map.1 hu
  rfl
theorem uv_one (bs : List Int) : ∀ u ∈ bs.map uv, u.oneCell' = true := by
  intro u hu
  obtain ⟨b, _, rfl⟩ := List.mem_map.1 hu
  rfl

/-! Bits of whole numbers that are not below 0. -/
theorem ofInt_nat (a : Nat) (h : a < 9223372036854775808) : (BitVec.ofInt 64 (a : Int)).toNat = a := by
  rw [BitVec.ofInt_natCast, BitVec.toNat_ofNat]
  exact Nat.mod_eq_of_lt (by omega)
theorem or_i64 (a b : Nat) (ha : a < 9223372036854775808) (hb : b < 9223372036854775808) : bits .or .i64 (a : Int) (b : Int) = ((a ||| b : Nat) : Int) := by
  have hx : a ||| b < 2 ^ 63 := Nat.or_lt_two_pow (by omega) (by omega)
  show IntKind.i64.wrap ((BitVec.ofInt 64 (a : Int) ||| BitVec.ofInt 64 (b : Int)).toNat : Int) = _
  rw [BitVec.toNat_or, ofInt_nat a ha, ofInt_nat b hb, IntKind.wrap_i64]
  omega
theorem and_i64 (a b : Nat) (ha : a < 9223372036854775808) (hb : b < 9223372036854775808) : bits .and .i64 (a : Int) (b : Int) = ((a &&& b : Nat) : Int) := by
  have hx : a &&& b < 2 ^ 63 := Nat.and_lt_two_pow _ (by omega)
  show IntKind.i64.wrap ((BitVec.ofInt 64 (a : Int) &&& BitVec.ofInt 64 (b : Int)).toNat : Int) = _
  rw [BitVec.toNat_and, ofInt_nat a ha, ofInt_nat b hb, IntKind.wrap_i64]
  omega
theorem and_mask (n : Int) (h0 : 0 ≤ n) (h1 : n < 9223372036854775808) (s : Nat) (hs : 1 ≤ s) (hs' : s ≤ 4) :
    bits .and .i64 n (wrap64 (wrap64 (2 ^ (8 * s)) - 1)) = ((n.toNat % 256 ^ s : Nat) : Int) := by
  obtain ⟨m, rfl⟩ := Int.eq_ofNat_of_zero_le h0
  have e : wrap64 (wrap64 (2 ^ (8 * s)) - 1) = ((2 ^ (8 * s) - 1 : Nat) : Int) := by
    have : s = 1 ∨ s = 2 ∨ s = 3 ∨ s = 4 := by omega
    rcases this with rfl | rfl | rfl | rfl <;> simp [wrap64]
  have hb : 2 ^ (8 * s) - 1 < 9223372036854775808 := by
    have : s = 1 ∨ s = 2 ∨ s = 3 ∨ s = 4 := by omega
    rcases this with rfl | rfl | rfl | rfl <;> simp
  rw [e, and_i64 m _ (by omega) hb, Nat.and_two_pow_sub_one_eq_mod, Int.toNat_natCast, show (256 : Nat) ^ s = 2 ^ (8 * s) by rw [Nat.pow_mul]]
theorem or_byte (v x : Nat) (hv : v < 16777216) (hx : x < 256) : bits .or .i64 ((v : Int) * 256) (x : Int) = ((v * 256 + x : Nat) : Int) := by
  have h : ((v : Int) * 256) = ((v * 256 : Nat) : Int) := by omega
  rw [h, or_i64 _ _ (by omega) (by omega)]
  have := Nat.shiftLeft_add_eq_or_of_lt (i := 8) (b := x) (by omega) v
  rw [Nat.shiftLeft_eq] at this
  rw [this]

/-- From address A on, below block B, the cells xs. -/
structure Rd (w : World) (B : Nat) (A : Option Addr) (xs : List Value) : Prop where
  at_ : ∀ j u, xs[j]? = some u → ∃ b o, A = some ⟨b, o, none⟩ ∧ b < B ∧ w.cell? ⟨b, o + j, none⟩ = some u

/-- A row of the call's own: n elements. -/
structure Ow (w : World) (base : Nat) (e : TypeId) (size : Nat) (A : Option Addr) (n c : Nat) (xs : List Value) : Prop where
  own : w.ownsRow base e size (.slice A n c) n xs

section
variable {w w' : World} {B B' size n c base : Nat} {A : Option Addr} {xs : List Value} {e : TypeId}

theorem Rd.nil (w : World) (B : Nat) (A : Option Addr) : Rd w B A [] := ⟨fun j u h => by simp at h⟩
theorem Rd.keep (h : Rd w B A xs) (hk : ∀ p : Addr, p.block < B → w'.cell? p = w.cell? p) : Rd w' B A xs :=
  ⟨fun j u hu => by
    obtain ⟨b, o, e, hb, hc⟩ := h.at_ j u hu
    exact ⟨b, o, e, hb, (hk _ hb).trans hc⟩⟩
theorem Rd.more (h : Rd w B A xs) (hB : B ≤ B') : Rd w B' A xs :=
  ⟨fun j u hu => by
    obtain ⟨b, o, e, hb, hc⟩ := h.at_ j u hu
    exact ⟨b, o, e, by omega, hc⟩⟩
theorem Rd.below (h : Rd w B A xs) (hb : Below B w w') : Rd w' B A xs := h.keep fun _ hp => hb.cell hp
theorem Rd.heap (h : Rd w B A xs) : Rd w w.heap.size A xs :=
  ⟨fun j u hu => by
    obtain ⟨b, o, e, hb, hc⟩ := h.at_ j u hu
    exact ⟨b, o, e, World.block_lt_of_cell? w ⟨b, o + j, none⟩ hc, hc⟩⟩
theorem Rd.drewN (h : Rd w B A xs) (k : Nat) : Rd (w.drewN k) B A xs := ⟨h.at_⟩
theorem Rd.drew (h : Rd w B A xs) : Rd w.drew B A xs := ⟨h.at_⟩
theorem Rd.alloc (h : Rd w B A xs) (o : Obj) : Rd (w.alloc o) B A xs := by
  refine ⟨fun j u hu => ?_⟩
  obtain ⟨b, o', e, hb, hc⟩ := h.at_ j u hu
  exact ⟨b, o', e, hb, (World.cell?_alloc_lt w o _ (World.block_lt_of_cell? w ⟨b, o' + j, none⟩ hc)).trans hc⟩
theorem Rd.grown {row : Option Nat} (h : Rd w B A xs) (hg : w.grownBy w' row) (hr : ∀ g, row = some g → B ≤ g) : Rd w' B A xs := by
  refine ⟨fun j u hu => ?_⟩
  obtain ⟨b, o', e, hb, hc⟩ := h.at_ j u hu
  exact ⟨b, o', e, hb, (World.cell?_of_block (hg.block b (World.block_lt_of_cell? w ⟨b, o' + j, none⟩ hc) (fun e => by have := hr _ e.symm; omega))).trans hc⟩
theorem Rd.new (w : World) (cs : Array Value) (e : TypeId) (fz : Nat × Nat) : Rd (w.alloc (.cells cs e fz)) (w.heap.size + 1) (some ⟨w.heap.size, 0, none⟩) cs.toList := by
  refine ⟨fun j u hu => ⟨w.heap.size, 0, rfl, by omega, ?_⟩⟩
  rw [cell_of_row _ w.heap.size (0 + j) cs e fz (heap_alloc_new w _)]
  simpa using hu
theorem Rd.drop (h : Rd w B A xs) (k m : Nat) (hm : m = k → xs.length ≤ k) : Rd w B (if m = k then A else A.map (·.add k)) (xs.drop k) := by
  refine ⟨fun j u hu => ?_⟩
  rw [List.getElem?_drop] at hu
  obtain ⟨b, o, e, hb, hc⟩ := h.at_ (k + j) u hu
  have hl : k + j < xs.length := by
    rcases Nat.lt_or_ge (k + j) xs.length with h' | h'
    · exact h'
    · rw [List.getElem?_eq_none h'] at hu; cases hu
  rw [if_neg (fun e => by have := hm e; omega)]
  subst e
  exact ⟨b, o + k, by simp only [Option.map_some, Addr.add_lit], hb, by rw [Nat.add_assoc]; exact hc⟩
theorem Rd.take (h : Rd w B A xs) (k : Nat) : Rd w B A (xs.take k) := by
  refine ⟨fun j u hu => ?_⟩
  rw [List.getElem?_take] at hu
  split at hu
  · exact h.at_ j u hu
  · cases hu
/-- The cells that a load of several reads. -/
theorem Rd.cells {ad : Addr} (h : Rd w B A xs) (hA : A = some ad) : ∀ j u, xs[j]? = some u → w.cell? (ad.add j) = some u := by
  intro j u hu
  obtain ⟨b, o, e, hb, hc⟩ := h.at_ j u hu
  rw [hA] at e
  injection e with e
  subst e
  rw [Addr.add_lit]
  exact hc

theorem Ow.len (h : Ow w base e size A n c xs) : xs.length = n * size := h.own.1
theorem Ow.cap (h : Ow w base e size A n c xs) : n ≤ c := by
  rcases h.own.2 with ⟨hv, hn⟩ | ⟨g, cap, cur, hv, _, _, hnc, _⟩
  · injection hv; omega
  · injection hv; omega
theorem Ow.capMax (h : Ow w base e size A n c xs) : c ≤ maxLen := by
  rcases h.own.2 with ⟨hv, hn⟩ | ⟨g, cap, cur, hv, _, _, hnc, hcm, _⟩
  · injection hv; simp [maxLen]; omega
  · injection hv; omega
theorem Ow.form (h : Ow w base e size A n c xs) : (A = none ∧ n = 0 ∧ c = 0) ∨ ∃ g, A = some ⟨g, 0, none⟩ ∧ base ≤ g ∧ g < w.heap.size := by
  rcases h.own.2 with ⟨hv, hn⟩ | ⟨g, cap, cur, hv, hb, hg, _⟩
  · injection hv with h1 h2 h3; exact .inl ⟨h1, h2, h3⟩
  · injection hv with h1 h2 h3; exact .inr ⟨g, h1, hb, (Array.getElem?_eq_some_iff.1 hg).1⟩
theorem Ow.rd (h : Ow w base e size A n c xs) : Rd w w.heap.size A xs := by
  refine ⟨fun j u hu => ?_⟩
  rcases h.form with ⟨rfl, rfl, rfl⟩ | ⟨g, rfl, hb, hlt⟩
  · have h0 : xs = [] := List.eq_nil_of_length_eq_zero (by simpa using h.len)
    subst h0
    simp at hu
  · refine ⟨g, 0, rfl, hlt, ?_⟩
    have := h.own.cells (g := g) rfl j u hu
    rwa [Addr.add_lit] at this
theorem Ow.keep (h : Ow w base e size A n c xs) {B : Nat} (hb : Below B w w') (hB : w.heap.size ≤ B) : Ow w' base e size A n c xs := by
  refine ⟨h.own.1, ?_⟩
  rcases h.own.2 with h1 | ⟨g, cap, cur, hv, hbg, hg, r⟩
  · exact .inl h1
  · exact .inr ⟨g, cap, cur, hv, hbg, (hb.block g (Nat.lt_of_lt_of_le (Array.getElem?_eq_some_iff.1 hg).1 hB)).trans hg, r⟩
theorem Ow.below (h : Ow w base e size A n c xs) (hb : Below w.heap.size w w') : Ow w' base e size A n c xs := h.keep hb (Nat.le_refl _)
theorem Ow.drewN (h : Ow w base e size A n c xs) (k : Nat) : Ow (w.drewN k) base e size A n c xs := ⟨h.own⟩
theorem Ow.grown {row : Option Nat} (h : Ow w base e size A n c xs) (hg : w.grownBy w' row) (hne : ∀ g, A = some ⟨g, 0, none⟩ → row ≠ some g) : Ow w' base e size A n c xs := by
  refine ⟨h.own.1, ?_⟩
  rcases h.own.2 with h1 | ⟨g, cap, cur, hv, hbg, hgg, r⟩
  · exact .inl h1
  · refine .inr ⟨g, cap, cur, hv, hbg, (hg.block g (Array.getElem?_eq_some_iff.1 hgg).1 ?_).trans hgg, r⟩
    injection hv with hA
    exact fun e => hne g hA e.symm
theorem Ow.base_le {base' : Nat} (h : Ow w base e size A n c xs) (hb : base' ≤ base) : Ow w base' e size A n c xs := by
  refine ⟨h.own.1, ?_⟩
  rcases h.own.2 with h1 | ⟨g, cap, cur, hv, hbg, hgg, r⟩
  · exact .inl h1
  · exact .inr ⟨g, cap, cur, hv, by omega, hgg, r⟩
theorem Ow.nil_ (w : World) (base : Nat) (e : TypeId) (size : Nat) : Ow w base e size Option.none 0 0 [] := ⟨World.ownsRow_nil w base e size⟩
/-- The block of a row, where it has one. -/
def rowOf : Option Addr → Option Nat
  | some a => some a.block
  | none => none
theorem Below.of_grown {B : Nat} {a : World} {row : Option Nat} (h : Below B a w) (hg : w.grownBy w' row) (hr : ∀ k, row = some k → B ≤ k) (hB : B ≤ w.heap.size) : Below B a w' := h.grown hg hB hr
theorem Ow.row_ge (h : Ow w base e size A n c xs) : ∀ k, rowOf A = some k → base ≤ k := by
  intro k hk
  rcases h.form with ⟨rfl, _⟩ | ⟨g, rfl, hb, _⟩
  · cases hk
  · cases hk; exact hb
end

/-! ### Slices of elements of one cell each, as lists -/
/-- The slice value '.slice A n c' reads as the list xs. -/
structure RdS {α : Type} (f : α → Value) (w : World) (B : Nat) (A : Option Addr) (n c : Nat) (xs : List α) : Prop where
  rd : Rd w B A (xs.map f)
  len : xs.length = n
  cap : n ≤ c
/-- The same, and the row is the call's own. -/
structure OwS {α : Type} (f : α → Value) (w : World) (base : Nat) (e : TypeId) (A : Option Addr) (n c : Nat) (xs : List α) : Prop where
  ow : Ow w base e 1 A n c (xs.map f)
section
variable {α : Type} {f : α → Value} {w w' : World} {B B' n c base : Nat} {A : Option Addr} {xs : List α} {e : TypeId}
theorem RdS.below (h : RdS f w B A n c xs) (hb : Below B w w') : RdS f w' B A n c xs := ⟨h.rd.below hb, h.len, h.cap⟩
theorem RdS.step (h : RdS f w B A n c xs) (hb : Below w.heap.size w w') : RdS f w' B A n c xs :=
  ⟨⟨fun j u hu => by
    obtain ⟨b, o, e, hB, hc⟩ := h.rd.at_ j u hu
    exact ⟨b, o, e, hB, (hb.cell (World.block_lt_of_cell? w ⟨b, o + j, none⟩ hc)).trans hc⟩⟩, h.len, h.cap⟩
theorem RdS.more (h : RdS f w B A n c xs) (hB : B ≤ B') : RdS f w B' A n c xs := ⟨h.rd.more hB, h.len, h.cap⟩
theorem RdS.heap (h : RdS f w B A n c xs) : RdS f w w.heap.size A n c xs := ⟨h.rd.heap, h.len, h.cap⟩
theorem RdS.alloc (h : RdS f w B A n c xs) (o : Obj) : RdS f (w.alloc o) B A n c xs := ⟨h.rd.alloc o, h.len, h.cap⟩
theorem RdS.drewN (h : RdS f w B A n c xs) (k : Nat) : RdS f (w.drewN k) B A n c xs := ⟨h.rd.drewN k, h.len, h.cap⟩
theorem RdS.grown {row : Option Nat} (h : RdS f w B A n c xs) (hg : w.grownBy w' row) (hr : ∀ g, row = some g → B ≤ g) : RdS f w' B A n c xs := ⟨h.rd.grown hg hr, h.len, h.cap⟩
theorem RdS.nil (w : World) (B : Nat) : RdS f w B none 0 0 [] := ⟨Rd.nil _ _ _, rfl, Nat.le_refl _⟩
theorem OwS.len (h : OwS f w base e A n c xs) : xs.length = n := by simpa using h.ow.len
theorem OwS.cap (h : OwS f w base e A n c xs) : n ≤ c := h.ow.cap
theorem OwS.capMax (h : OwS f w base e A n c xs) : c ≤ maxLen := h.ow.capMax
theorem OwS.rd (h : OwS f w base e A n c xs) : RdS f w w.heap.size A n c xs := ⟨h.ow.rd, h.len, h.cap⟩
theorem OwS.below (h : OwS f w base e A n c xs) (hb : Below w.heap.size w w') : OwS f w' base e A n c xs := ⟨h.ow.below hb⟩
theorem OwS.alloc (h : OwS f w base e A n c xs) (o : Obj) : OwS f (w.alloc o) base e A n c xs := h.below ((Below.refl _ _).alloc (Nat.le_refl _) o)
theorem OwS.drewN (h : OwS f w base e A n c xs) (k : Nat) : OwS f (w.drewN k) base e A n c xs := ⟨h.ow.drewN k⟩
theorem OwS.base_le {base' : Nat} (h : OwS f w base e A n c xs) (hb : base' ≤ base) : OwS f w base' e A n c xs := ⟨h.ow.base_le hb⟩
theorem OwS.nil_ (w : World) (base : Nat) (e : TypeId) : OwS f w base e Option.none 0 0 [] := ⟨Ow.nil_ _ _ _ _⟩
theorem OwS.grown {row : Option Nat} (h : OwS f w base e A n c xs) (hg : w.grownBy w' row) (hne : ∀ g, A = some ⟨g, 0, Option.none⟩ → row ≠ some g) : OwS f w' base e A n c xs := ⟨h.ow.grown hg hne⟩
theorem OwS.lit (w : World) (cs : Array Value) (n : Nat) (hb : base ≤ w.heap.size) (hm : n ≤ maxLen) (hn : xs.length = n) (hs : cs.toList = xs.map f) : OwS f (w.alloc (.cells cs e)) base e (some ⟨w.heap.size, 0, Option.none⟩) n n xs := by
  have h1 : cs.size = n * 1 := by rw [← Array.length_toList, hs]; simp [hn]
  refine ⟨⟨?_⟩⟩
  rw [← hs]
  exact World.ownsRow_lit w cs n hb hm h1
theorem OwS.lit' (w : World) (cs : Array Value) (n g : Nat) (hg : g = w.heap.size) (hb : base ≤ w.heap.size) (hm : n ≤ maxLen) (hn : xs.length = n) (hs : cs.toList = xs.map f) : OwS f (w.alloc (.cells cs e)) base e (some ⟨g, 0, Option.none⟩) n n xs := by
  subst hg
  exact OwS.lit w cs n hb hm hn hs
end
/-- One step more from where a call began. -/
theorem next {w w1 w2 : World} (h : Below w.heap.size w w1) (h2 : Below w1.heap.size w1 w2) : Below w.heap.size w w2 := h.trans (h2.mono h.size)
theorem below_alloc {B : Nat} (w : World) (h : B ≤ w.heap.size) (o : Obj) : Below B w (w.alloc o) := (Below.refl _ _).alloc h o
theorem heap_size_alloc (w : World) (o : Obj) : (w.alloc o).heap.size = w.heap.size + 1 := by simp
theorem below_alloc2 {B : Nat} (w : World) (h : B ≤ w.heap.size) (o o' : Obj) : Below B (w.alloc o) (w.alloc o') := by
  refine ⟨rfl, rfl, rfl, (by have h1 := heap_size_alloc w o; have h2 := heap_size_alloc w o'; omega), fun g hg => ?_⟩
  have h1 := (below_alloc w h o).block g hg
  have h2 := (below_alloc w h o').block g hg
  exact h2.trans h1.symm
theorem below_alloc2d {B : Nat} (w : World) (h : B ≤ w.heap.size) (o o' : Obj) : Below B (w.alloc o).drew (w.alloc o').drew :=
  have k := below_alloc2 w h o o'
  ⟨k.os, k.tape, k.output, k.size, k.block⟩
theorem bdrew {B : Nat} (w : World) (n : Nat) : Below B w (w.drewN n) := ⟨rfl, rfl, rfl, Nat.le_refl _, fun _ _ => rfl⟩

/-! ### Steps -/
section
variable {P : Program} {ops : Array Oper} {rest : List Oper} {o : Oper} {a : Act} {Q : Exit → Act → World → Prop} {w : World}

theorem wl_run {v : Value} {w' : World} (hw : Region.wanted o (yielded ops a.tmps) = true) (hr : (execOp a.eval o).run P w = .ok (.value v) w')
    (h : wpList P ops Q rest (a.put o.dst v) w') : wpList P ops Q (o :: rest) a w :=
  wpList_step fun K hK => by
    rw [if_pos hw]
    unfold Oper.wp
    rw [hr]
    exact hK _ _ h
theorem wl_run0 {w' : World} (hw : Region.wanted o (yielded ops a.tmps) = true) (hr : (execOp a.eval o).run P w = .ok .skip w')
    (h : wpList P ops Q rest (a.put o.dst undef) w') : wpList P ops Q (o :: rest) a w :=
  wpList_step fun K hK => by
    rw [if_pos hw]
    unfold Oper.wp
    rw [hr]
    exact hK _ _ h

theorem run_indexAt (T : TypeId) {E sz : Nat} (ht : P.underlying T = some (.slice E)) (hsz : (sizeOf E).run P w = .ok sz w) (ad : Addr) (n c : Nat) (k : IntKind) (I : Int) (h0 : 0 ≤ I) (h1 : I < n) :
    (Instr.indexAt T (.slice (some ad) n c) (.int k I)).run P w = .ok (.pointer (some (ad.add (I.toNat * sz)))) w := by
  simp [Instr.indexAt, run_underlying ht, asIntOf, h0, h1, hsz]

/-- s[i] of a slice of bytes: its address. -/
theorem wl_index_b (hw : Region.wanted o (yielded ops a.tmps) = true) (T : TypeId) (s i : Operand) (ho : o.op = .indexAddr T s i) {E : Nat} (ht : P.underlying T = some (.slice E)) (hsz : ∀ w, (sizeOf E).run P w = .ok 1 w)
    {A : Option Addr} {n c : Nat} {k : IntKind} {I : Int} (hs : a.eval s = .slice A n c) (hi : a.eval i = .int k I) (h0 : 0 ≤ I) (h1 : I < n)
    {B : Nat} {bs : List UInt8} (hn : n ≤ bs.length) (hr : Rd w B A (bs.map bv))
    (h : ∀ (p : Addr) (x : UInt8), Hid (bs[I.toNat]? = some x) → (x.toNat : Int) ≤ 255 → w.cell? p = some (.int .u8 (x.toNat : Int)) → wpList P ops Q rest (a.put o.dst (.pointer (some p))) w) :
    wpList P ops Q (o :: rest) a w := by
  have hl : I.toNat < bs.length := by omega
  obtain ⟨b, off, hA, hb, hc⟩ := hr.at_ I.toNat (bv bs[I.toNat]) (by rw [List.getElem?_map, List.getElem?_eq_getElem hl]; rfl)
  subst hA
  refine wl_run hw (v := .pointer (some ((⟨b, off, none⟩ : Addr).add (I.toNat * 1)))) (w' := w) ?_ ?_
  · simp only [execOp, ho, hs, hi, Sem.run_bind, run_indexAt T ht (hsz w) _ n c k I h0 h1, Result.andThen, Sem.run_pure]
  · refine h _ bs[I.toNat] (List.getElem?_eq_getElem hl) (by have := (bs[I.toNat]).toNat_lt; omega) ?_
    rw [Nat.mul_one, Addr.add_lit]
    exact hc

/-- s[i] of a slice of whole numbers. -/
theorem wl_index_i (hw : Region.wanted o (yielded ops a.tmps) = true) (T : TypeId) (s i : Operand) (ho : o.op = .indexAddr T s i) {E : Nat} (ht : P.underlying T = some (.slice E)) (hsz : ∀ w, (sizeOf E).run P w = .ok 1 w)
    {A : Option Addr} {n c : Nat} {k kk : IntKind} {I : Int} (hs : a.eval s = .slice A n c) (hi : a.eval i = .int k I) (h0 : 0 ≤ I) (h1 : I < n)
    {B : Nat} {zs : List Int} (hn : n ≤ zs.length) (hr : Rd w B A (zs.map (Value.int kk)))
    (h : ∀ (p : Addr) (x : Int), Hid (zs[I.toNat]? = some x) → w.cell? p = some (.int kk x) → wpList P ops Q rest (a.put o.dst (.pointer (some p))) w) :
    wpList P ops Q (o :: rest) a w := by
  have hl : I.toNat < zs.length := by omega
  obtain ⟨b, off, hA, hb, hc⟩ := hr.at_ I.toNat (.int kk zs[I.toNat]) (by rw [List.getElem?_map, List.getElem?_eq_getElem hl]; rfl)
  subst hA
  refine wl_run hw (v := .pointer (some ((⟨b, off, none⟩ : Addr).add (I.toNat * 1)))) (w' := w) ?_ ?_
  · simp only [execOp, ho, hs, hi, Sem.run_bind, run_indexAt T ht (hsz w) _ n c k I h0 h1, Result.andThen, Sem.run_pure]
  · refine h _ zs[I.toNat] (List.getElem?_eq_getElem hl) ?_
    rw [Nat.mul_one, Addr.add_lit]
    exact hc

/-- What a cut of a slice leaves. -/
theorem wl_cut (hw : Region.wanted o (yielded ops a.tmps) = true) (T : TypeId) (s : Operand) (lo hi mx : Option Operand) (ho : o.op = .slice T s lo hi mx) {E : Nat} (ht : P.underlying T = some (.slice E)) (hsz : ∀ w, (sizeOf E).run P w = .ok 1 w)
    {A : Option Addr} {n c : Nat} (hs : a.eval s = .slice A n c) (L H M : Nat)
    (hb : (Instr.sliceBounds true n c (lo.map a.eval) (hi.map a.eval) (mx.map a.eval)).run P w = .ok (L, H, M) w)
    (hLH : L ≤ H) (hHM : H ≤ M) {B : Nat} {xs : List Value} (hr : Rd w B A xs) (hn : xs.length = n) (hHn : H ≤ n)
    (h : ∀ A', Rd w B A' ((xs.take H).drop L) → wpList P ops Q rest (a.put o.dst (.slice A' (H - L) (M - L))) w) :
    wpList P ops Q (o :: rest) a w := by
  refine wl_run hw (v := .slice (if M = L then A else A.map (·.add (L * 1))) (H - L) (M - L)) (w' := w) ?_ ?_
  · simp only [execOp, ho, hs, Sem.run_bind, Instr.sliceAt, run_underlying ht, Instr.slice, hb, hsz, Result.andThen, Sem.run_pure]
  · refine h _ ?_
    rw [Nat.mul_one]
    exact (hr.take H).drop L M (fun e => by rw [List.length_take]; omega)
theorem bounds_l {n c L : Nat} (k : IntKind) (h : L ≤ n) : (Instr.sliceBounds true n c (some (.int k (L : Int))) Option.none Option.none).run P w = .ok (L, n, c) w := by
  simp [Instr.sliceBounds, run_sliceBound, (by omega : (L : Int) ≤ (n : Int)), (by omega : (0 : Int) ≤ (L : Int))]
theorem bounds_h {n c H : Nat} (k : IntKind) (h : H ≤ c) : (Instr.sliceBounds true n c Option.none (some (.int k (H : Int))) Option.none).run P w = .ok (0, H, c) w := by
  simp [Instr.sliceBounds, run_sliceBound, (by omega : (H : Int) ≤ (c : Int)), (by omega : (0 : Int) ≤ (H : Int))]
theorem bounds_lh {n c L H : Nat} (k k' : IntKind) (h : L ≤ H) (h' : H ≤ c) : (Instr.sliceBounds true n c (some (.int k (L : Int))) (some (.int k' (H : Int))) Option.none).run P w = .ok (L, H, c) w := by
  simp [Instr.sliceBounds, run_sliceBound, (by omega : (L : Int) ≤ (H : Int)), (by omega : (H : Int) ≤ (c : Int)), (by omega : (0 : Int) ≤ (L : Int)), (by omega : (0 : Int) ≤ (H : Int))]
theorem bounds_hm {n c H M : Nat} (k k' : IntKind) (h : H ≤ M) (h' : M ≤ c) : (Instr.sliceBounds true n c Option.none (some (.int k (H : Int))) (some (.int k' (M : Int)))).run P w = .ok (0, H, M) w := by
  simp [Instr.sliceBounds, run_sliceBound, (by omega : (H : Int) ≤ (M : Int)), (by omega : (M : Int) ≤ (c : Int)), (by omega : (0 : Int) ≤ (M : Int)), (by omega : (0 : Int) ≤ (H : Int))]
theorem bounds_lhm {n c L H M : Nat} (k k' k'' : IntKind) (h0 : L ≤ H) (h : H ≤ M) (h' : M ≤ c) : (Instr.sliceBounds true n c (some (.int k (L : Int))) (some (.int k' (H : Int))) (some (.int k'' (M : Int)))).run P w = .ok (L, H, M) w := by
  simp [Instr.sliceBounds, run_sliceBound, (by omega : (L : Int) ≤ (H : Int)), (by omega : (H : Int) ≤ (M : Int)), (by omega : (M : Int) ≤ (c : Int)), (by omega : (0 : Int) ≤ (M : Int)), (by omega : (0 : Int) ≤ (H : Int)), (by omega : (0 : Int) ≤ (L : Int))]

/-- string(s) of a slice of bytes. -/
theorem run_str {src dst E : Nat} (hs : P.underlying src = some (.slice E)) (he : P.underlying E = some (.int .u8)) (hd : P.underlying dst = some .string) {A : Option Addr} {n c B : Nat} {bs : List UInt8}
    (hn : bs.length = n) (hr : Rd w B A (bs.map bv)) : (convert src dst (.slice A n c)).run P w = .ok (.string ⟨bs.toArray⟩) w := by
  rcases A with _ | ad
  · have h0 : bs = [] := by
      rcases bs with _ | ⟨b, bs⟩
      · rfl
      · obtain ⟨_, _, e, _⟩ := hr.at_ 0 (bv b) rfl
        cases e
    subst h0
    rw [run_convert_bytes_nil w src E hs he n c dst hd]
    rfl
  · rw [run_convert_bytes_string w src dst E _ n c hs he hd]
    have hl : (loadCells ad n).run P w = .ok ((bs.map fun b => (b.toNat : Int)).map (Value.int .u8)).toArray w := by
      have := run_loadCells_list (P := P) w ad (bs.map bv) (hr.cells rfl)
      rw [List.length_map, hn] at this
      rw [this]
      simp [bv]
    rw [run_bytesToString w ad n c _ hl, foldl_push_bytes]
    simp only [ByteArray.empty, ByteArray.emptyWithCapacity, Result.ok.injEq, Value.string.injEq, ByteArray.mk.injEq, and_true]
    have e : (List.map (fun n : Int => UInt8.ofNat n.toNat) (bs.map fun b => (b.toNat : Int))) = bs := by
      rw [List.map_map]
      have e' : ((fun n : Int => UInt8.ofNat n.toNat) ∘ fun b : UInt8 => (b.toNat : Int)) = id := by funext b; simp
      rw [e']; simp
    rw [e]
    exact Array.empty_append
theorem wl_str (hw : Region.wanted o (yielded ops a.tmps) = true) (src dst : TypeId) (x : Operand) (ho : o.op = .convert src dst x) {E : Nat} (hs : P.underlying src = some (.slice E)) (he : P.underlying E = some (.int .u8)) (hd : P.underlying dst = some .string)
    {A : Option Addr} {n c B : Nat} (hx : a.eval x = .slice A n c) {bs : List UInt8} (hn : bs.length = n) (hr : Rd w B A (bs.map bv))
    (h : wpList P ops Q rest (a.put o.dst (.string ⟨bs.toArray⟩)) w) : wpList P ops Q (o :: rest) a w :=
  wl_run hw (by simp only [execOp, ho, hx, Sem.run_bind, run_str hs he hd hn hr, Result.andThen, Sem.run_pure]) h

/-- append(s, x...): s a row of the call's own, x whatever reads. -/
theorem run_append {base : Nat} {t ty E : TypeId} {i : TypeInfo} {z : Value} {size bytes : Nat} (ht : P.underlying t = some (.slice E)) (hi : P.info? E = some i) (hz : i.zero = some z)
    (hsize : i.size = size) (hby : i.bytes = bytes) (hzs : z.cells.size = size) (hsz : 0 < size)
    {A : Option Addr} {n c : Nat} {xs : List Value} (hown : Ow w base E size A n c xs)
    {B : Nat} {A' : Option Addr} {m c' : Nat} {news : List Value} (hl : news.length = m * size) (hr : Rd w B A' news) (h1 : ∀ u ∈ news, u.oneCell' = true)
    (h63 : n + m ≤ maxLen) (hbytes : (n + m) * bytes ≤ 140737488355328) (hbase : base ≤ w.heap.size) :
    ∃ A'' c'' w', (Builtin.append_ #[t, t] ty #[.slice A n c, .slice A' m c']).run P w = .ok (.slice A'' (n + m) c'') w' ∧ Ow w' base E size A'' (n + m) c'' (xs ++ news) ∧ w.grownBy w' (rowOf A) ∧
      (A'' = A ∨ A'' = some ⟨w.heap.size, 0, Option.none⟩) := by
  rcases A' with _ | ad
  · have hn : news = [] := by
      rcases news with _ | ⟨b, bs⟩
      · rfl
      · obtain ⟨_, _, e, _⟩ := hr.at_ 0 b rfl
        cases e
    subst hn
    have hm : m = 0 := by
      rcases Nat.eq_zero_or_pos m with h | h
      · exact h
      · have := Nat.mul_pos h hsz; simp at hl; omega
    subst hm
    refine ⟨A, c, w, ?_, ⟨by simpa using hown.own⟩, World.grownBy.refl w _, .inl rfl⟩
    rcases hown.own.2 with ⟨hv, hn⟩ | ⟨g, cap, cur, hv, _, _, hnc, _⟩
    · injection hv with h1 h2 h3
      subst h1 h2 h3
      simp [Builtin.append_, run_underlying ht, sizeOf, typeInfo, hi, Builtin.lenOf, Builtin.firstCells]
    · injection hv with h1 h2 h3
      subst h1 h3
      simp [Builtin.append_, run_underlying ht, sizeOf, typeInfo, hi, Builtin.lenOf, Builtin.firstCells, hnc, storeCells]
  · obtain ⟨v', w', hrun, h2, h3, _, h5⟩ := run_append_own_at (P := P) w base t ty E i z size bytes ht hi hz hsize hby hzs hsz _ n xs hown.own ad m c' news hl (hr.cells rfl) h1 h63 hbytes hbase
    have hrow : rowOf A = Value.ownBlock (.slice A n c) := by cases A <;> rfl
    rw [← hrow] at h3
    rcases h2.2 with ⟨hv, hn⟩ | ⟨g, cap, cur, hv, hbg, hg, hnc, hrest⟩
    · subst hv
      have e1 : n = 0 := by omega
      have e2 : m = 0 := by omega
      subst e1 e2
      refine ⟨Option.none, 0, w', hrun, ⟨h2⟩, h3, ?_⟩
      rcases h5 with h5 | h5
      · left
        cases A with
        | none => rfl
        | some a => simp [Value.ownBlock] at h5
      · simp [Value.ownBlock] at h5
    · subst hv
      refine ⟨some ⟨g, 0, Option.none⟩, cap, w', hrun, ⟨h2⟩, h3, ?_⟩
      rcases h5 with h5 | h5
      · left
        rcases hown.form with ⟨rfl, _⟩ | ⟨g', rfl, _⟩
        · simp [Value.ownBlock] at h5
        · simp only [Value.ownBlock, Option.some.injEq] at h5
          rw [h5]
      · right
        simp only [Value.ownBlock, Option.some.injEq] at h5
        rw [h5]
theorem wl_append (hw : Region.wanted o (yielded ops a.tmps) = true) (s x : Operand) (t : TypeId)
    (ho : o.op = .call { callee := .builtin .append, args := #[s, x], argTypes := #[t, t] })
    {base E : Nat} {i : TypeInfo} {z : Value} {size bytes : Nat} (ht : P.underlying t = some (.slice E)) (hi : P.info? E = some i) (hz : i.zero = some z)
    (hsize : i.size = size) (hby : i.bytes = bytes) (hzs : z.cells.size = size) (hsz : 0 < size)
    {A : Option Addr} {n c : Nat} (hs : a.eval s = .slice A n c) {xs : List Value} (hown : Ow w base E size A n c xs)
    {B : Nat} {A' : Option Addr} {m c' : Nat} (hx : a.eval x = .slice A' m c') {news : List Value} (hl : news.length = m * size) (hr : Rd w B A' news) (h1 : ∀ u ∈ news, u.oneCell' = true)
    (h63 : n + m ≤ maxLen) (hbytes : (n + m) * bytes ≤ 140737488355328) (hbase : base ≤ w.heap.size)
    (h : ∀ A'' c'' w', Ow w' base E size A'' (n + m) c'' (xs ++ news) → w.grownBy w' (rowOf A) → Below base w w' → wpList P ops Q rest (a.put o.dst (.slice A'' (n + m) c'')) w') : wpList P ops Q (o :: rest) a w := by
  obtain ⟨A'', c'', w', hrun, h2, h3, _⟩ := run_append (P := P) (ty := o.type) (c' := c') ht hi hz hsize hby hzs hsz hown hl hr h1 h63 hbytes hbase
  refine wl_run hw ?_ (h A'' c'' w' h2 h3 ((Below.refl _ _).grown h3 hbase hown.row_ge))
  simp only [execOp, ho, resolve, invoke, builtin, Sem.run_bind, Sem.run_pure, Result.andThen, List.map_toArray, List.map_cons, List.map_nil, hs, hx, hrun]

/-- s[i] of a row of the call's own: the place. -/
theorem wl_index_own (hw : Region.wanted o (yielded ops a.tmps) = true) (T : TypeId) (s i : Operand) (ho : o.op = .indexAddr T s i) {E : Nat} (ht : P.underlying T = some (.slice E)) {sz : Nat} (hsz : ∀ w, (sizeOf E).run P w = .ok sz w)
    {g n c : Nat} {k : IntKind} {I : Int} (hs : a.eval s = .slice (some ⟨g, 0, none⟩) n c) (hi : a.eval i = .int k I) (h0 : 0 ≤ I) (h1 : I < n)
    (h : wpList P ops Q rest (a.put o.dst (.pointer (some ⟨g, I.toNat * sz, none⟩))) w) : wpList P ops Q (o :: rest) a w := by
  refine wl_run hw ?_ h
  have := run_indexAt (P := P) (w := w) T ht (hsz w) ⟨g, 0, none⟩ n c k I h0 h1
  rw [Addr.add_lit, Nat.zero_add] at this
  simp only [execOp, ho, hs, hi, Sem.run_bind, this, Result.andThen, Sem.run_pure]

/-- A store of one cell into a row of the call's own. -/
theorem wl_store1 (hw : Region.wanted o (yielded ops a.tmps) = true) (T : TypeId) (x y : Operand) (ho : o.op = .store T x y) (hsz : ∀ w, (sizeOf T).run P w = .ok 1 w)
    {g j n c base e : Nat} {xs : List Value} (hx : a.eval x = .pointer (some ⟨g, j, none⟩)) {v : Value} (hy : a.eval y = v) (hv : v.oneCell' = true) (hvc : v.cells = #[v])
    (hown : Ow w base e 1 (some ⟨g, 0, none⟩) n c xs) (hj : j < n)
    (h : ∀ w', Ow w' base e 1 (some ⟨g, 0, none⟩) n c (xs.set j v) → w.grownBy w' (some g) → Below base w w' → wpList P ops Q rest (a.put o.dst undef) w') : wpList P ops Q (o :: rest) a w := by
  obtain ⟨h1, h2⟩ := hown.own.stored j v
  have hc := hown.own.cellAt j (by omega)
  have hf := hown.own.frozenAt j
  have hl := hown.len
  have hcs : w.cell? ⟨g, j, none⟩ = some xs[j] := by rw [hc]; exact List.getElem?_eq_getElem (by omega)
  have hbase : base ≤ g ∧ g < w.heap.size := by
    rcases hown.form with ⟨e, _⟩ | ⟨g', e, hb, hlt⟩
    · cases e
    · injection e with e; injection e with e; subst e; exact ⟨hb, hlt⟩
  refine wl_run0 hw ?_ (h _ ⟨h1⟩ h2 ((Below.refl _ _).grown h2 (by omega) (fun k hk => by injection hk with hk; omega)))
  have hst : (store ⟨g, j, none⟩ v).run P w = .ok () (w.setCell ⟨g, j, none⟩ v) := by
    rw [run_store P w _ v _ hv, hcs]
    simp [hf]
  simp [execOp, ho, hx, hy, Instr.storeAt, Instr.sureAddr, storeVar, hvc, hsz, storeCells, Addr.add_zero', hst]

theorem wl_store_int (hw : Region.wanted o (yielded ops a.tmps) = true) (T : TypeId) (x y : Operand) (ho : o.op = .store T x y) (hsz : ∀ w, (sizeOf T).run P w = .ok 1 w)
    {g j n c base e : Nat} {xs : List Value} (hx : a.eval x = .pointer (some ⟨g, j, none⟩)) {k : IntKind} {z : Int} (hy : a.eval y = .int k z)
    (hown : Ow w base e 1 (some ⟨g, 0, none⟩) n c xs) (hj : j < n)
    (h : ∀ w', Ow w' base e 1 (some ⟨g, 0, none⟩) n c (xs.set j (.int k z)) → w.grownBy w' (some g) → Below base w w' → wpList P ops Q rest (a.put o.dst undef) w') : wpList P ops Q (o :: rest) a w :=
  wl_store1 hw T x y ho hsz hx hy rfl rfl hown hj h

/-- make([]T, n). -/
theorem wl_make (hw : Region.wanted o (yielded ops a.tmps) = true) (l c : Operand) (t : TypeId) (ho : o.op = .makeSlice t l c)
    {base E : Nat} {i : TypeInfo} {z : Value} {size : Nat} (ht : P.underlying t = some (.slice E)) (hi : P.info? E = some i) (hz : i.zero = some z) (hsize : i.size = size)
    {kl kc : IntKind} {L C : Int} (n : Nat) (hl : a.eval l = .int kl L) (hc : a.eval c = .int kc C) (hL : L = (n : Int)) (hC : C = (n : Int)) (b2 : i.bytes * n ≤ 281474976710656) (b3 : n ≤ maxLen) (b4 : base ≤ w.heap.size)
    (h : ∀ g w', w.heap.size ≤ g → Ow w' base E size (some ⟨g, 0, none⟩) n n (madeCells z.cells (n * size)).toList → Below w.heap.size w w' → wpList P ops Q rest (a.put o.dst (.slice (some ⟨g, 0, none⟩) n n)) w') : wpList P ops Q (o :: rest) a w := by
  obtain ⟨w', hrun, r1, r2⟩ := run_make_full (P := P) w base t E i z size ht hi hz hsize kl kc n b2 b3 b4
  refine wl_run hw ?_ (h _ w' (Nat.le_refl _) ⟨r1⟩ ((Below.refl _ _).grown r2 (Nat.le_refl _) (fun k hk => by cases hk)))
  subst hL hC
  simp only [execOp, ho, hl, hc, Sem.run_bind, hrun, Result.andThen, Sem.run_pure]
/-- The same at elements of one cell. -/
theorem wl_make1 (hw : Region.wanted o (yielded ops a.tmps) = true) (l c : Operand) (t : TypeId) (ho : o.op = .makeSlice t l c)
    {base E : Nat} {i : TypeInfo} {z : Value} (ht : P.underlying t = some (.slice E)) (hi : P.info? E = some i) (hz : i.zero = some z) (hsize : i.size = 1) (hzc : z.cells = #[z])
    {kl kc : IntKind} {L C : Int} (n : Nat) (hl : a.eval l = .int kl L) (hc : a.eval c = .int kc C) (hL : L = (n : Int)) (hC : C = (n : Int)) (b2 : i.bytes * n ≤ 281474976710656) (b3 : n ≤ maxLen) (b4 : base ≤ w.heap.size)
    (h : ∀ g w', w.heap.size ≤ g → Ow w' base E 1 (some ⟨g, 0, none⟩) n n (List.replicate n z) → Below w.heap.size w w' → wpList P ops Q rest (a.put o.dst (.slice (some ⟨g, 0, none⟩) n n)) w') : wpList P ops Q (o :: rest) a w :=
  wl_make hw l c t ho ht hi hz hsize n hl hc hL hC b2 b3 b4 fun g w' h1 h2 h3 => h g w' h1 (by
    rw [hzc, Nat.mul_one, toList_madeCells_one] at h2
    exact h2) h3
/-- make([]T, 0, n). -/
theorem wl_make0 (hw : Region.wanted o (yielded ops a.tmps) = true) (l c : Operand) (t : TypeId) (ho : o.op = .makeSlice t l c)
    {base E : Nat} {i : TypeInfo} {z : Value} {size : Nat} (ht : P.underlying t = some (.slice E)) (hi : P.info? E = some i) (hz : i.zero = some z) (hsize : i.size = size)
    {kl kc : IntKind} {C : Int} (n : Nat) (hl : a.eval l = .int kl 0) (hc : a.eval c = .int kc C) (hC : C = (n : Int)) (b2 : i.bytes * n ≤ 281474976710656) (b3 : n ≤ maxLen) (b4 : base ≤ w.heap.size)
    (h : ∀ g w', w.heap.size ≤ g → Ow w' base E size (some ⟨g, 0, none⟩) 0 n [] → Below w.heap.size w w' → wpList P ops Q rest (a.put o.dst (.slice (some ⟨g, 0, none⟩) 0 n)) w') : wpList P ops Q (o :: rest) a w := by
  obtain ⟨w', hrun, r1, r2⟩ := run_make_own (P := P) w base t E i z size ht hi hz hsize kl kc n b2 b3 b4
  refine wl_run hw ?_ (h _ w' (Nat.le_refl _) ⟨r1⟩ ((Below.refl _ _).grown r2 (Nat.le_refl _) (fun k hk => by cases hk)))
  subst hC
  simp only [execOp, ho, hl, hc, Sem.run_bind, hrun, Result.andThen, Sem.run_pure]

/-! ### The same steps, said of lists -/
/-- A slice type and its elements, of one cell each. -/
structure El (P : Program) (t E : TypeId) (z : Value) (bytes : Nat) : Prop where
  ht : P.underlying t = some (.slice E)
  info : ∃ i, P.info? E = some i ∧ i.zero = some z ∧ i.size = 1 ∧ i.bytes = bytes
  cells : z.cells = #[z]
  size : ∀ w, (sizeOf E).run P w = .ok 1 w

/-- s[i] of a slice of bytes. -/
theorem wl_at_b (hw : Region.wanted o (yielded ops a.tmps) = true) (T : TypeId) (s i : Operand) (ho : o.op = .indexAddr T s i) {E bytes : Nat} {z : Value} (el : El P T E z bytes)
    {A : Option Addr} {n c : Nat} {k : IntKind} {I : Int} (hs : a.eval s = .slice A n c) (hi : a.eval i = .int k I) (h0 : 0 ≤ I) (h1 : I < n)
    {B : Nat} {bs : List UInt8} (hr : RdS bv w B A n c bs)
    (h : ∀ (p : Addr) (x : UInt8), Hid (bs[I.toNat]? = some x) → (x.toNat : Int) ≤ 255 → w.cell? p = some (.int .u8 (x.toNat : Int)) → wpList P ops Q rest (a.put o.dst (.pointer (some p))) w) :
    wpList P ops Q (o :: rest) a w :=
  wl_index_b hw T s i ho el.ht el.size hs hi h0 h1 (Nat.le_of_eq hr.len.symm) hr.rd h
/-- s[i] of a slice of ints. -/
theorem wl_at_i (hw : Region.wanted o (yielded ops a.tmps) = true) (T : TypeId) (s i : Operand) (ho : o.op = .indexAddr T s i) {E bytes : Nat} {z : Value} (el : El P T E z bytes)
    {A : Option Addr} {n c : Nat} {k : IntKind} {I : Int} (hs : a.eval s = .slice A n c) (hi : a.eval i = .int k I) (h0 : 0 ≤ I) (h1 : I < n)
    {B : Nat} {zs : List Int} (hr : RdS iv w B A n c zs)
    (h : ∀ (p : Addr) (x : Int), Hid (zs[I.toNat]? = some x) → w.cell? p = some (.int .i64 x) → wpList P ops Q rest (a.put o.dst (.pointer (some p))) w) :
    wpList P ops Q (o :: rest) a w :=
  wl_index_i hw T s i ho el.ht el.size hs hi h0 h1 (Nat.le_of_eq hr.len.symm) (kk := .i64) hr.rd h
theorem wl_at_u (hw : Region.wanted o (yielded ops a.tmps) = true) (T : TypeId) (s i : Operand) (ho : o.op = .indexAddr T s i) {E bytes : Nat} {z : Value} (el : El P T E z bytes)
    {A : Option Addr} {n c : Nat} {k : IntKind} {I : Int} (hs : a.eval s = .slice A n c) (hi : a.eval i = .int k I) (h0 : 0 ≤ I) (h1 : I < n)
    {B : Nat} {zs : List Int} (hr : RdS uv w B A n c zs)
    (h : ∀ (p : Addr) (x : Int), Hid (zs[I.toNat]? = some x) → w.cell? p = some (.int .u32 x) → wpList P ops Q rest (a.put o.dst (.pointer (some p))) w) :
    wpList P ops Q (o :: rest) a w :=
  wl_index_i hw T s i ho el.ht el.size hs hi h0 h1 (Nat.le_of_eq hr.len.symm) (kk := .u32) hr.rd h
/-- string(s) -/
theorem wl_strS (hw : Region.wanted o (yielded ops a.tmps) = true) (src dst : TypeId) (x : Operand) (ho : o.op = .convert src dst x) {E bytes : Nat} {z : Value} (el : El P src E z bytes) (he : P.underlying E = some (.int .u8)) (hd : P.underlying dst = some .string)
    {A : Option Addr} {n c B : Nat} (hx : a.eval x = .slice A n c) {bs : List UInt8} (hr : RdS bv w B A n c bs)
    (h : wpList P ops Q rest (a.put o.dst (.string ⟨bs.toArray⟩)) w) : wpList P ops Q (o :: rest) a w :=
  wl_str hw src dst x ho el.ht he hd hx hr.len hr.rd h
/-- A cut. 'hb' by bounds_l, bounds_h, bounds_lh, bounds_hm, bounds_lhm. -/
theorem wl_cutS (hw : Region.wanted o (yielded ops a.tmps) = true) (T : TypeId) (s : Operand) (lo hi mx : Option Operand) (ho : o.op = .slice T s lo hi mx) {E bytes : Nat} {z : Value} (el : El P T E z bytes)
    {α : Type} {f : α → Value} {A : Option Addr} {n c : Nat} (hs : a.eval s = .slice A n c) {L H M : Nat}
    (hb : (Instr.sliceBounds true n c (lo.map a.eval) (hi.map a.eval) (mx.map a.eval)).run P w = .ok (L, H, M) w)
    {B : Nat} {xs : List α} (hr : RdS f w B A n c xs) (hLH : L ≤ H) (hHM : H ≤ M) (hHn : H ≤ n)
    (h : ∀ A', RdS f w B A' (H - L) (M - L) ((xs.take H).drop L) → wpList P ops Q rest (a.put o.dst (.slice A' (H - L) (M - L))) w) :
    wpList P ops Q (o :: rest) a w :=
  wl_cut hw T s lo hi mx ho el.ht el.size hs L H M hb hLH hHM hr.rd (by rw [List.length_map]; exact hr.len) hHn fun A' hA => h A' ⟨by rw [← List.map_take, ← List.map_drop] at hA; exact hA, by rw [List.length_drop, List.length_take, hr.len]; omega, by omega⟩
section
variable (hw : Region.wanted o (yielded ops a.tmps) = true) (T : TypeId) (s : Operand) {E bytes : Nat} {z : Value} (el : El P T E z bytes)
    {α : Type} {f : α → Value} {A : Option Addr} {n c : Nat} (hs : a.eval s = .slice A n c) {B : Nat} {xs : List α} (hr : RdS f w B A n c xs)
include hw el hs hr
/-- s[l:] -/
theorem wl_cut_l (lo : Operand) (ho : o.op = .slice T s (some lo) Option.none Option.none) {k : IntKind} {I : Int} (hlo : a.eval lo = .int k I) (L : Nat) (hL : I = (L : Int) ∧ L ≤ n)
    (h : ∀ A', RdS f w B A' (n - L) (c - L) (xs.drop L) → wpList P ops Q rest (a.put o.dst (.slice A' (n - L) (c - L))) w) : wpList P ops Q (o :: rest) a w := by
  obtain ⟨rfl, hL⟩ := hL
  refine wl_cutS hw T s _ _ _ ho el hs (L := L) (H := n) (M := c) ?_ hr hL hr.cap (Nat.le_refl _) fun A' hA => h A' ?_
  · simp only [Option.map_some, Option.map_none, hlo]
    exact bounds_l k hL
  · rw [List.take_of_length_le (Nat.le_of_eq hr.len)] at hA
    exact hA
/-- s[:h] -/
theorem wl_cut_h (hi : Operand) (ho : o.op = .slice T s Option.none (some hi) Option.none) {k : IntKind} {I : Int} (hhi : a.eval hi = .int k I) (H : Nat) (hH : I = (H : Int) ∧ H ≤ n)
    (h : ∀ A', RdS f w B A' H c (xs.take H) → wpList P ops Q rest (a.put o.dst (.slice A' H c)) w) : wpList P ops Q (o :: rest) a w := by
  obtain ⟨rfl, hH⟩ := hH
  have hc := hr.cap
  refine wl_cutS hw T s _ _ _ ho el hs (L := 0) (H := H) (M := c) ?_ hr (Nat.zero_le _) (by omega) hH fun A' hA => h A' ?_
  · simp only [Option.map_some, Option.map_none, hhi]
    exact bounds_h k (by omega)
  · exact hA
/-- s[l:h] -/
theorem wl_cut_lh (lo hi : Operand) (ho : o.op = .slice T s (some lo) (some hi) Option.none) {k k' : IntKind} {I J : Int} (hlo : a.eval lo = .int k I) (hhi : a.eval hi = .int k' J) (L H : Nat) (hH : I = (L : Int) ∧ J = (H : Int) ∧ L ≤ H ∧ H ≤ n)
    (h : ∀ A', RdS f w B A' (H - L) (c - L) ((xs.take H).drop L) → wpList P ops Q rest (a.put o.dst (.slice A' (H - L) (c - L))) w) : wpList P ops Q (o :: rest) a w := by
  obtain ⟨rfl, rfl, hLH, hH⟩ := hH
  have hc := hr.cap
  refine wl_cutS hw T s _ _ _ ho el hs (L := L) (H := H) (M := c) ?_ hr hLH (by omega) hH h
  simp only [Option.map_some, Option.map_none, hlo, hhi]
  exact bounds_lh k k' hLH (by omega)
/-- s[:h:m] -/
theorem wl_cut_hm (hi mx : Operand) (ho : o.op = .slice T s Option.none (some hi) (some mx)) {k k' : IntKind} {I J : Int} (hhi : a.eval hi = .int k I) (hmx : a.eval mx = .int k' J) (H M : Nat) (hH : I = (H : Int) ∧ J = (M : Int) ∧ H ≤ M ∧ M ≤ n)
    (h : ∀ A', RdS f w B A' H M (xs.take H) → wpList P ops Q rest (a.put o.dst (.slice A' H M)) w) : wpList P ops Q (o :: rest) a w := by
  obtain ⟨rfl, rfl, hHM, hM⟩ := hH
  have hc := hr.cap
  refine wl_cutS hw T s _ _ _ ho el hs (L := 0) (H := H) (M := M) ?_ hr (Nat.zero_le _) hHM (by omega) fun A' hA => h A' ?_
  · simp only [Option.map_some, Option.map_none, hhi, hmx]
    exact bounds_hm k k' hHM (by omega)
  · exact hA
/-- s[l:h:m] -/
theorem wl_cut_lhm (lo hi mx : Operand) (ho : o.op = .slice T s (some lo) (some hi) (some mx)) {k k' k'' : IntKind} {I J K : Int} (hlo : a.eval lo = .int k I) (hhi : a.eval hi = .int k' J) (hmx : a.eval mx = .int k'' K) (L H M : Nat) (hH : I = (L : Int) ∧ J = (H : Int) ∧ K = (M : Int) ∧ L ≤ H ∧ H ≤ M ∧ M ≤ n)
    (h : ∀ A', RdS f w B A' (H - L) (M - L) ((xs.take H).drop L) → wpList P ops Q rest (a.put o.dst (.slice A' (H - L) (M - L))) w) : wpList P ops Q (o :: rest) a w := by
  obtain ⟨rfl, rfl, rfl, hLH, hHM, hM⟩ := hH
  have hc := hr.cap
  refine wl_cutS hw T s _ _ _ ho el hs (L := L) (H := H) (M := M) ?_ hr hLH hHM (by omega) h
  simp only [Option.map_some, hlo, hhi, hmx]
  exact bounds_lhm k k' k'' hLH hHM (by omega)
end
/-- append -/
theorem wl_appendS (hw : Region.wanted o (yielded ops a.tmps) = true) (s x : Operand) (t : TypeId)
    (ho : o.op = .call { callee := .builtin .append, args := #[s, x], argTypes := #[t, t] })
    {base E : Nat} {z : Value} {bytes : Nat} (el : El P t E z bytes) {α : Type} {f : α → Value} (hf : ∀ x, (f x).oneCell' = true)
    {A : Option Addr} {n c : Nat} (hs : a.eval s = .slice A n c) {xs : List α} (hown : OwS f w base E A n c xs)
    {B : Nat} {A' : Option Addr} {m c' : Nat} (hx : a.eval x = .slice A' m c') {ys : List α} (hr : RdS f w B A' m c' ys)
    (hbytes : (n + m) * bytes ≤ 140737488355328) (hpos : 0 < bytes) (hbase : base ≤ w.heap.size)
    (h : ∀ A'' c'' w', OwS f w' base E A'' (n + m) c'' (xs ++ ys) → w.grownBy w' (rowOf A) → Below base w w' → wpList P ops Q rest (a.put o.dst (.slice A'' (n + m) c'')) w') : wpList P ops Q (o :: rest) a w := by
  obtain ⟨i, hi, hz, hsize, hby⟩ := el.info
  have h63 : n + m ≤ maxLen := by
    have := Nat.le_mul_of_pos_right (n + m) hpos
    simp only [maxLen]; omega
  exact wl_append hw s x t ho el.ht hi hz hsize hby (by rw [el.cells]; rfl) (by omega) hs hown.ow hx (by rw [List.length_map, hr.len]; omega) hr.rd (by
    intro u hu
    obtain ⟨y, _, rfl⟩ := List.mem_map.1 hu
    exact hf y) h63 hbytes hbase fun A'' c'' w' h1 h2 h3 => h A'' c'' w' ⟨by rw [← List.map_append] at h1; exact h1⟩ h2 h3
/-- make([]T, n): 'n' elements x0. -/
theorem wl_makeS (hw : Region.wanted o (yielded ops a.tmps) = true) (l c : Operand) (t : TypeId) (ho : o.op = .makeSlice t l c)
    {base E : Nat} {z : Value} {bytes : Nat} (el : El P t E z bytes) {α : Type} {f : α → Value} (x0 : α) (hx0 : f x0 = z)
    {kl kc : IntKind} {L C : Int} (n : Nat) (hl : a.eval l = .int kl L) (hc : a.eval c = .int kc C) (hL : L = (n : Int)) (hC : C = (n : Int)) (b2 : bytes * n ≤ 281474976710656) (hpos : 0 < bytes) (b4 : base ≤ w.heap.size)
    (h : ∀ g w', w.heap.size ≤ g → OwS f w' base E (some ⟨g, 0, none⟩) n n (List.replicate n x0) → Below w.heap.size w w' → wpList P ops Q rest (a.put o.dst (.slice (some ⟨g, 0, none⟩) n n)) w') : wpList P ops Q (o :: rest) a w := by
  obtain ⟨i, hi, hz, hsize, hby⟩ := el.info
  have b3 : n ≤ maxLen := by
    have := Nat.le_mul_of_pos_left n hpos
    simp only [maxLen]; omega
  exact wl_make1 hw l c t ho el.ht hi hz hsize el.cells n hl hc hL hC (by rw [hby]; exact b2) b3 b4 fun g w' h1 h2 h3 => h g w' h1 ⟨by rw [List.map_replicate, hx0]; exact h2⟩ h3
theorem wl_make0S (hw : Region.wanted o (yielded ops a.tmps) = true) (l c : Operand) (t : TypeId) (ho : o.op = .makeSlice t l c)
    {base E : Nat} {z : Value} {bytes : Nat} (el : El P t E z bytes) {α : Type} {f : α → Value}
    {kl kc : IntKind} {C : Int} (n : Nat) (hl : a.eval l = .int kl 0) (hc : a.eval c = .int kc C) (hC : C = (n : Int)) (b2 : bytes * n ≤ 281474976710656) (hpos : 0 < bytes) (b4 : base ≤ w.heap.size)
    (h : ∀ g w', w.heap.size ≤ g → OwS f w' base E (some ⟨g, 0, none⟩) 0 n [] → Below w.heap.size w w' → wpList P ops Q rest (a.put o.dst (.slice (some ⟨g, 0, none⟩) 0 n)) w') : wpList P ops Q (o :: rest) a w := by
  obtain ⟨i, hi, hz, hsize, hby⟩ := el.info
  have b3 : n ≤ maxLen := by
    have := Nat.le_mul_of_pos_left n hpos
    simp only [maxLen]; omega
  exact wl_make0 hw l c t ho el.ht hi hz hsize n hl hc hC (by rw [hby]; exact b2) b3 b4 fun g w' h1 h2 h3 => h g w' h1 ⟨h2⟩ h3
theorem OwS.at0 {α : Type} {f : α → Value} {base e n c : Nat} {A : Option Addr} {xs : List α} (h : OwS f w base e A n c xs) (hn : 0 < n) : ∃ g, A = some ⟨g, 0, none⟩ ∧ base ≤ g := by
  rcases h.ow.form with ⟨_, h0, _⟩ | ⟨g, hA, hb, _⟩
  · omega
  · exact ⟨g, hA, hb⟩
/-- s[i] = x -/
theorem wl_setS (hw : Region.wanted o (yielded ops a.tmps) = true) (T : TypeId) (x y : Operand) (ho : o.op = .store T x y) (hsz : ∀ w, (sizeOf T).run P w = .ok 1 w) {α : Type} {f : α → Value}
    {g j n c base e : Nat} {xs : List α} (hx : a.eval x = .pointer (some ⟨g, j, none⟩)) {k : IntKind} {z : Int} (hy : a.eval y = .int k z) (v : α) (hv : f v = .int k z)
    (hown : OwS f w base e (some ⟨g, 0, none⟩) n c xs) (hj : j < n)
    (h : ∀ w', OwS f w' base e (some ⟨g, 0, none⟩) n c (xs.set j v) → w.grownBy w' (some g) → Below base w w' → wpList P ops Q rest (a.put o.dst undef) w') : wpList P ops Q (o :: rest) a w :=
  wl_store_int hw T x y ho hsz hx hy hown.ow hj fun w' h1 h2 h3 => h w' ⟨by rw [List.map_set, hv]; exact h1⟩ h2 h3
end
/-! ### Guards: an arm is tried at an operation of its kind alone ('with_reducible refine on_convert (.tmp 60) ?_; refine ..'). -/
section
variable {P : Program} {ops : Array Oper} {Q : Exit → Act → World → Prop} {rest : List Oper} {a : Act} {w : World}
theorem on_convert (x : Operand) {d src dst ty pos af g} (h : wpList P ops Q (⟨d, .convert src dst x, ty, pos, af, g⟩ :: rest) a w) : wpList P ops Q (⟨d, .convert src dst x, ty, pos, af, g⟩ :: rest) a w := h
theorem on_slice (s : Operand) {d T lo hi mx ty pos af g} (h : wpList P ops Q (⟨d, .slice T s lo hi mx, ty, pos, af, g⟩ :: rest) a w) : wpList P ops Q (⟨d, .slice T s lo hi mx, ty, pos, af, g⟩ :: rest) a w := h
theorem on_index (s : Operand) {d T i ty pos af g} (h : wpList P ops Q (⟨d, .indexAddr T s i, ty, pos, af, g⟩ :: rest) a w) : wpList P ops Q (⟨d, .indexAddr T s i, ty, pos, af, g⟩ :: rest) a w := h
theorem on_store {d T x y ty pos af g} (h : wpList P ops Q (⟨d, .store T x y, ty, pos, af, g⟩ :: rest) a w) : wpList P ops Q (⟨d, .store T x y, ty, pos, af, g⟩ :: rest) a w := h
theorem on_load (x : Operand) {d T ty pos af g} (h : wpList P ops Q (⟨d, .load T x, ty, pos, af, g⟩ :: rest) a w) : wpList P ops Q (⟨d, .load T x, ty, pos, af, g⟩ :: rest) a w := h
theorem on_make {d t l c ty pos af g} (h : wpList P ops Q (⟨d, .makeSlice t l c, ty, pos, af, g⟩ :: rest) a w) : wpList P ops Q (⟨d, .makeSlice t l c, ty, pos, af, g⟩ :: rest) a w := h
theorem on_append (s x : Operand) {d ats ty pos af g} (h : wpList P ops Q (⟨d, .call ⟨.builtin .append, #[s, x], ats⟩, ty, pos, af, g⟩ :: rest) a w) : wpList P ops Q (⟨d, .call ⟨.builtin .append, #[s, x], ats⟩, ty, pos, af, g⟩ :: rest) a w := h
end
end Go.Th
