/-
  Networks in memory: a row of nodes, each of them a row of rules.
-/
import Derived.Test.YtdmkiejaejlajaaNhPlain
namespace Go.Th
open Go.RowKit
set_option linter.unusedVariables false
/-- A node: where its rules lie, and these. -/
structure Nd where
  A : Option Addr
  n : Nat
  c : Nat
  l : List Ru
def sv (x : Nd) : Value := .slice x.A x.n x.c
theorem sv_one (x : Nd) : (sv x).oneCell' = true := rfl
theorem Ow.type {w : World} {b e k n c g : Nat} {A : Option Addr} {xs : List Value} (h : Ow w b e k A n c xs) (hA : A = some ⟨g, 0, none⟩) : ∃ cur fz, w.heap[g]? = some (.cells cur e fz) := by
  rcases h.own.2 with ⟨hv, _⟩ | ⟨g', cap, cur, hv, _, hg, _⟩
  · subst hA; cases hv
  · subst hA
    injection hv with hv
    injection hv with hv
    injection hv with hv
    subst hv
    exact ⟨_, _, hg⟩
/-- Rows of unlike types share no block. -/
theorem Ow.apart {w : World} {b e k n c b' e' k' n' c' : Nat} {A A' : Option Addr} {xs xs' : List Value} (h : Ow w b e k A n c xs) (h' : Ow w b' e' k' A' n' c' xs') (hne : e ≠ e') : ∀ g, A = some ⟨g, 0, none⟩ → rowOf A' ≠ some g := by
  intro g hA hr
  obtain ⟨cur, fz, h1⟩ := h.type hA
  rcases h'.form with ⟨e2, _⟩ | ⟨g', e2, _⟩
  · subst e2; cases hr
  · have : g' = g := by subst e2; simpa [rowOf] using hr
    subst this
    obtain ⟨cur', fz', h2⟩ := h'.type e2
    rw [h1] at h2
    injection h2 with h2
    injection h2 with _ h2
    exact hne h2
theorem El.m {P : Program} {t E : TypeId} {z : Value} {bytes : Nat} (el : El P t E z bytes) : ElM P t E z bytes 1 := ⟨el.ht, el.info, by rw [el.cells]; rfl, el.size, by omega⟩
def one1 {α : Type} (f : α → Value) (x : α) : List Value := [f x]
theorem one1_len {α : Type} (f : α → Value) (x : α) : (one1 f x).length = 1 := rfl
theorem flat_one1 {α : Type} (f : α → Value) : ∀ xs : List α, xs.flatMap (one1 f) = xs.map f
  | [] => rfl
  | x :: xs => by rw [List.flatMap_cons, List.map_cons, flat_one1 f xs]; rfl
theorem RdS.m {α : Type} {f : α → Value} {w : World} {B n c : Nat} {A : Option Addr} {xs : List α} (h : RdS f w B A n c xs) : RdM (one1 f) w B A n c xs := ⟨by rw [flat_one1]; exact h.rd, h.len, h.cap⟩
section
variable {P : Program} {ops : Array Oper} {rest : List Oper} {o : Oper} {a : Act} {C : World → Prop} {Q : Act → Prop} {α : Type} {f : α → List Value} {k : Nat}
/-- s[i] in a quiet walk: the place. -/
theorem wqk_at (hf : ∀ x, (f x).length = k) (hw : Region.wanted o (yielded ops a.tmps) = true) (T : TypeId) (s i : Operand) (ho : o.op = .indexAddr T s i) {E bytes : Nat} {z : Value} (el : ElM P T E z bytes k)
    {A : Option Addr} {n c : Nat} {kk : IntKind} {I : Int} (hs : a.eval s = .slice A n c) (hi : a.eval i = .int kk I) (h0 : 0 ≤ I) (h1 : I < n) {w0 : World} (hC0 : C w0)
    {B : Nat} {xs : List α} (hr : ∀ w, C w → RdM f w B A n c xs)
    (h : ∀ (b j : Nat) (x : α), Hid (xs[I.toNat]? = some x) → Hid (∀ w, C w → ∀ i v, (f x)[i]? = some v → w.cell? ⟨b, j + i, none⟩ = some v) → wpQuiet P ops C Q rest (a.put o.dst (.pointer (some ⟨b, j, none⟩)))) :
    wpQuiet P ops C Q (o :: rest) a := by
  have hl : I.toNat < xs.length := by have := (hr w0 hC0).len; omega
  obtain ⟨b, off, hA, hb, hc⟩ := (hr w0 hC0).cells hf (List.getElem?_eq_getElem hl) el.pos
  subst hA
  refine wq_run hw (v := .pointer (some ⟨b, off + I.toNat * k, none⟩)) (fun w hC => ?_) ?_
  · have := run_indexAt (P := P) (w := w) T el.ht (el.size w) ⟨b, off, none⟩ n c kk I h0 h1
    rw [Addr.add_lit] at this
    simp only [execOp, ho, hs, hi, Sem.run_bind, this, Result.andThen, Sem.run_pure]
  · refine h b _ xs[I.toNat] (List.getElem?_eq_getElem hl) fun w hC => ?_
    obtain ⟨b', off', hA', _, hc'⟩ := (hr w hC).cells hf (List.getElem?_eq_getElem hl) el.pos
    injection hA' with hA'
    injection hA' with e1 e2
    subst e1 e2
    exact hc'
/-- A node of a network, in a quiet walk: its place. -/
theorem wqn_at (hw : Region.wanted o (yielded ops a.tmps) = true) (T : TypeId) (s i : Operand) (ho : o.op = .indexAddr T s i) {E bytes : Nat} {z : Value} (el : El P T E z bytes)
    {A : Option Addr} {n c : Nat} {kk : IntKind} {I : Int} (hs : a.eval s = .slice A n c) (hi : a.eval i = .int kk I) (h0 : 0 ≤ I) (h1 : I < n) {w0 : World} (hC0 : C w0)
    {B : Nat} {xs : List Nd} (hr : ∀ w, C w → RdS sv w B A n c xs)
    (h : ∀ (b j : Nat) (x : Nd), Hid (xs[I.toNat]? = some x) → Hid (∀ w, C w → w.cell? ⟨b, j, none⟩ = some (.slice x.A x.n x.c)) → wpQuiet P ops C Q rest (a.put o.dst (.pointer (some ⟨b, j, none⟩)))) :
    wpQuiet P ops C Q (o :: rest) a :=
  wqk_at (one1_len sv) hw T s i ho el.m hs hi h0 h1 hC0 (fun w hC => (hr w hC).m) fun b j x hx hc => h b j x hx (Lib.hid fun w hC => hc.out w hC 0 _ rfl)
end
section
variable {P : Program} {ops : Array Oper} {rest : List Oper} {o : Oper} {a : Act} {Q : Exit → Act → World → Prop} {w : World}
/-- A node of a network: its place. -/
theorem wn_at (hw : Region.wanted o (yielded ops a.tmps) = true) (T : TypeId) (s i : Operand) (ho : o.op = .indexAddr T s i) {E bytes : Nat} {z : Value} (el : El P T E z bytes)
    {A : Option Addr} {n c : Nat} {kk : IntKind} {I : Int} (hs : a.eval s = .slice A n c) (hi : a.eval i = .int kk I) (h0 : 0 ≤ I) (h1 : I < n)
    {B : Nat} {xs : List Nd} (hr : RdS sv w B A n c xs)
    (h : ∀ (b j : Nat) (x : Nd), Hid (xs[I.toNat]? = some x) → b < B → w.cell? ⟨b, j, none⟩ = some (.slice x.A x.n x.c) → wpList P ops Q rest (a.put o.dst (.pointer (some ⟨b, j, none⟩))) w) :
    wpList P ops Q (o :: rest) a w :=
  wm_at (one1_len sv) hw T s i ho el.m hs hi h0 h1 hr.m fun b j x hx hb hc => h b j x hx hb (hc.out 0 _ rfl)
end
/-- A network that can be read. -/
structure NRd (w : World) (B : Nat) (A : Option Addr) (n c : Nat) (ns : List Nd) : Prop where
  rd : RdS sv w B A n c ns
  rk : ∀ x ∈ ns, RdM Ru.cs w B x.A x.n x.c x.l
  ok : ∀ x ∈ ns, ∀ r ∈ x.l, r.Ok
section
variable {w w' : World} {B B' n c : Nat} {A : Option Addr} {ns : List Nd}
theorem NRd.step (h : NRd w B A n c ns) (hb : Below w.heap.size w w') : NRd w' B A n c ns := ⟨h.rd.step hb, fun x hx => (h.rk x hx).step hb, h.ok⟩
theorem NRd.below (h : NRd w B A n c ns) (hb : Below B w w') : NRd w' B A n c ns := ⟨h.rd.below hb, fun x hx => (h.rk x hx).below hb, h.ok⟩
theorem NRd.more (h : NRd w B A n c ns) (hB : B ≤ B') : NRd w B' A n c ns := ⟨h.rd.more hB, fun x hx => (h.rk x hx).more hB, h.ok⟩
theorem NRd.heap (h : NRd w B A n c ns) : NRd w w.heap.size A n c ns := ⟨h.rd.heap, fun x hx => (h.rk x hx).heap, h.ok⟩
theorem NRd.alloc (h : NRd w B A n c ns) (o : Obj) : NRd (w.alloc o) B A n c ns := ⟨h.rd.alloc o, fun x hx => (h.rk x hx).alloc o, h.ok⟩
theorem NRd.nil (w : World) (B : Nat) : NRd w B none 0 0 [] := ⟨RdS.nil _ _, by simp, by simp⟩
theorem NRd.len (h : NRd w B A n c ns) : ns.length = n := h.rd.len
end
/-- A network of the call's own. -/
structure NO (e0 e1 : Nat) (w : World) (base : Nat) (A : Option Addr) (n c : Nat) (ns : List Nd) : Prop where
  row : OwS sv w base e0 A n c ns
  rk : ∀ x ∈ ns, OwM Ru.cs 4 w base e1 x.A x.n x.c x.l
  ok : ∀ x ∈ ns, ∀ r ∈ x.l, r.Ok
section
variable {e0 e1 : Nat} {w w' : World} {base base' n c : Nat} {A : Option Addr} {ns : List Nd}
theorem NO.nil (w : World) (base : Nat) : NO e0 e1 w base none 0 0 [] := ⟨OwS.nil_ _ _ _, by simp, by simp⟩
theorem NO.rd (h : NO e0 e1 w base A n c ns) : NRd w w.heap.size A n c ns := ⟨h.row.rd, fun p hp => (h.rk p hp).rd, h.ok⟩
theorem NO.base_le (h : NO e0 e1 w base A n c ns) (hb : base' ≤ base) : NO e0 e1 w base' A n c ns := ⟨h.row.base_le hb, fun p hp => (h.rk p hp).base_le hb, h.ok⟩
theorem NO.below (h : NO e0 e1 w base A n c ns) (hb : Below w.heap.size w w') : NO e0 e1 w' base A n c ns := ⟨h.row.below hb, fun p hp => (h.rk p hp).below hb, h.ok⟩
theorem NO.grown {row : Option Nat} (h : NO e0 e1 w base A n c ns) (hg : w.grownBy w' row) (hr : ∀ k, row = some k → k < base) : NO e0 e1 w' base A n c ns :=
  ⟨h.row.grown hg (fun g' hA e => by have := h.row.ow.row_ge g' (by rw [hA]; rfl); have := hr g' e; omega), fun p hp => (h.rk p hp).grown hg (fun g' hA e => by have := (h.rk p hp).ow.row_ge g' (by rw [hA]; rfl); have := hr g' e; omega), h.ok⟩
/-- One node more: the row may have moved. -/
theorem NO.more {A' : Option Addr} {c' : Nat} {x : Nd} (hne : e1 ≠ e0) (h : NO e0 e1 w base A n c ns) (hx : OwM Ru.cs 4 w base e1 x.A x.n x.c x.l) (hok : ∀ r ∈ x.l, r.Ok) (hg : w.grownBy w' (rowOf A)) (ho : OwS sv w' base e0 A' (n + 1) c' (ns ++ [x])) : NO e0 e1 w' base A' (n + 1) c' (ns ++ [x]) := by
  have key : ∀ q : Nd, OwM Ru.cs 4 w base e1 q.A q.n q.c q.l → OwM Ru.cs 4 w' base e1 q.A q.n q.c q.l := fun q hq => hq.grown hg (fun g hA e => hq.ow.apart h.row.ow hne g hA e)
  refine ⟨ho, fun q hq => ?_, fun q hq => ?_⟩
  · rcases List.mem_append.1 hq with hq | hq
    · exact key q (h.rk q hq)
    · rw [List.mem_singleton.1 hq]; exact key x hx
  · rcases List.mem_append.1 hq with hq | hq
    · exact h.ok q hq
    · rw [List.mem_singleton.1 hq]; exact hok
end
def Nd.ls (ns : List Nd) : List (List Ru) := ns.map Nd.l
theorem Nd.ls_get {ns : List Nd} {k : Nat} {x : Nd} (h : ns[k]? = some x) : (Nd.ls ns)[k]? = some x.l := by unfold Nd.ls; rw [List.getElem?_map, h]; rfl
theorem Nd.ls_len (ns : List Nd) : (Nd.ls ns).length = ns.length := by simp [Nd.ls]
end Go.Th
namespace Go.Proofs.Ytdmkiejaejlajaa
open Go.Th
theorem info_row : (Try.prog.info? 33).map (fun i => (i.zero, i.size, i.bytes)) = some (some (.slice none 0 0), 1, 24) := by kernel_rfl
theorem size_row (w : World) : (sizeOf 33).run Try.prog w = .ok 1 w := by kernel_rfl
theorem el_row : El Try.prog 22 33 (.slice none 0 0) 24 := ⟨Try.underlying22, info_parts info_row, rfl, size_row⟩
theorem ty_rows : 40 ≠ 33 := by decide
theorem st_net : St Try.prog 24 1 := ⟨⟨_, Try.underlying24⟩, by kernel_rfl⟩
end Go.Proofs.Ytdmkiejaejlajaa
