/-
  A network made one that may be, in a variable.
-/
import Derived.Test.YtgapcmodhcdebaaNfShown
import Derived.Test.YtgapcmodhcdebaaNetSame
import Derived.Test.YtgapcmodhcdebaaOpenNet
import Derived.Test.YtgapcmodhcdebaaNetfileTaken
namespace Go.Proofs.Ytgapcmodhcdebaa
open Go.RowKit Go.Th
set_option linter.unusedVariables false
structure NBox (w : World) (g : Nat) (A : Option Addr) (n c : Nat) (ns : List Nd) : Prop where
  box : Box w g 24 #[.slice A n c]
  rd : NRd w w.heap.size A n c ns
  ok : NOk (Nd.ls ns)
  small : ∀ x ∈ ns, x.n ≤ 20
  nb : 1 ≤ n ∧ n ≤ 8
theorem NBox.step {w w' : World} {g : Nat} {A : Option Addr} {n c : Nat} {ns : List Nd} (h : NBox w g A n c ns) (hb : Below w.heap.size w w') : NBox w' g A n c ns := ⟨h.box.step hb, (h.rd.step hb).heap, h.ok, h.small, h.nb⟩
theorem NBox.put {w : World} {g : Nat} {A : Option Addr} {n c : Nat} {ns : List Nd} (h : NBox w g A n c ns) (bs : List UInt8) (hb : fput 1179206193 (nbody (Nd.ls ns)) = bs) : Calls Try.prog 11 #[.agg #[.slice A n c]] w (RetBytes bs 0 w) :=
  netput_any A n c ns w _ h.rd h.ok.may (NRd.of_ls h.rd (nmay_rfit h.ok.may h.ok.ok)) bs hb
theorem NBox.size {w : World} {g : Nat} {A : Option Addr} {n c : Nat} {ns : List Nd} (h : NBox w g A n c ns) : nsize (Nd.ls ns) ≤ 160 := by
  have h1 : ∀ l ∈ Nd.ls ns, l.length ≤ 20 := fun l hl => by
    obtain ⟨x, hx, rfl⟩ := List.mem_map.1 hl
    rw [(h.rd.rk x hx).len]
    exact h.small x hx
  have h2 := nsize_le h1
  rw [Nd.ls_len, h.rd.len] at h2
  have := h.nb
  omega
theorem NBox.len {w : World} {g : Nat} {A : Option Addr} {n c : Nat} {ns : List Nd} (h : NBox w g A n c ns) : (nbody (Nd.ls ns)).length ≤ 2000 := by
  have h1 := nrows_le (Nd.ls ns) (fun l hl => by have := len_le_nsize hl; have := h.size; omega)
  have h2 := h.size
  have h3 := gsize_pos (Nd.ls ns).length
  have h4 := h.rd.len
  have h5 := h.nb
  unfold nbody
  rw [List.length_append, gput_length]
  rw [Nd.ls_len] at h1 h3 ⊢
  omega
/-- Fit's answer. -/
def FitNet (w : World) (e : Ending) (w' : World) : Prop := ∃ A n c ns, e = .returned (.agg #[.slice A n c]) ∧ NRd w' w'.heap.size A n c ns ∧ NOk (Nd.ls ns) ∧ (∀ x ∈ ns, x.n ≤ 20) ∧ (1 ≤ n ∧ n ≤ 8) ∧ Below w.heap.size w w'
theorem made_any (A : Option Addr) (n c : Nat) (ns : List Nd) (w : World) (ni : NetIn w A n c ns) (W : World) (hW : Below w.heap.size w W) : Calls Try.prog 19 #[.agg #[.slice A n c]] W (FitNet W) := by
  refine (netfit_any A n c ns W ni.n ni.each _ (ni.rd.below hW)).mono ?_
  rintro e w' ⟨A', m, c', ms, rfl, no, hms, hb⟩
  have hok : ∀ l ∈ Nd.ls ns, ∀ r ∈ l, r.Ok := by
    intro l hl r hr
    obtain ⟨x, hx, rfl⟩ := List.mem_map.1 hl
    exact ni.rd.ok x hx r hr
  obtain ⟨h1, h2, h3⟩ := nfit_size hok
  have hrd := no.rd
  refine ⟨A', m, c', ms, rfl, hrd, by rw [hms]; exact nfit_ok hok, fun x hx => ?_, ?_, hb⟩
  · have := (hrd.rk x hx).len
    have h4 := h1 x.l (by rw [← hms]; exact List.mem_map.2 ⟨x, hx, rfl⟩)
    omega
  · have := hrd.len
    rw [← hms, Nd.ls_len] at h2 h3
    omega
end Go.Proofs.Ytgapcmodhcdebaa
