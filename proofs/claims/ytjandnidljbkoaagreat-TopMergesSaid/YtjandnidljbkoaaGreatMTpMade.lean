/-
  Networks that were made.
-/
import Derived.Test.YtjandnidljbkoaaGreatMTpEx
namespace Go.Th
end Go.Th
namespace Go.Proofs.YtjandnidljbkoaaGreat
open Go.RowKit Go.Th
set_option linter.unusedVariables false
structure TBox (w : World) (g : Nat) (A : Option Addr) (n c : Nat) (ns : List Nd) : Prop where
  box : Box w g 34 #[.slice A n c]
  rd : NRd w w.heap.size A n c ns
  may : nmay (Nd.ls ns) = 0
  small : ∀ x ∈ ns, x.n ≤ 20
  nb : 1 ≤ n ∧ n ≤ 8
section
variable {w w' : World} {g : Nat} {A : Option Addr} {n c : Nat} {ns : List Nd}
theorem TBox.step (h : TBox w g A n c ns) (hb : Below w.heap.size w w') : TBox w' g A n c ns := ⟨h.box.step hb, (h.rd.step hb).heap, h.may, h.small, h.nb⟩
theorem TBox.len (h : TBox w g A n c ns) : (Nd.ls ns).length = n := by rw [Nd.ls_len]; exact h.rd.len
theorem TBox.net (h : TBox w g A n c ns) : NetOk (Nd.ls ns) := netok_of h.rd h.may
end
def FitNet (w : World) (e : Ending) (w' : World) : Prop := ∃ A n c ns, e = .returned (.agg #[.slice A n c]) ∧ NRd w' w'.heap.size A n c ns ∧ NOk (Nd.ls ns) ∧ (∀ x ∈ ns, x.n ≤ 20) ∧ (1 ≤ n ∧ n ≤ 8) ∧ Below w.heap.size w w'
theorem made_any (A : Option Addr) (n c : Nat) (ns : List Nd) (w : World) (ni : NetIn w A n c ns) (W : World) (hW : Below w.heap.size w W) : Calls Tryz.prog 15 #[.agg #[.slice A n c]] W (FitNet W) := by
  refine (netfit_any A n c ns W ni.n ni.each _ (ni.rd.below hW)).mono ?_
  rintro e w' ⟨A', m, c', ms, rfl, no, hms, hb⟩
  have hok : ∀ l ∈ Nd.ls ns, ∀ r ∈ l, r.Ok := by
    intro l hl r hr
    obtain ⟨x, hx, rfl⟩ := List.mem_map.1 hl
    exact ni.rd.ok x hx r hr
  obtain ⟨h1, h2, h3⟩ := nfit_size hok
  have hrd := no.rd
  refine ⟨A', m, c', ms, rfl, hrd, by rw [hms]; exact nfit_ok hok, fun x hx => ?_, ?_, hb⟩
  · have := (hrd.rk x hx).len
    have h4 := h1 x.l (by rw [← hms]; exact List.mem_map.2 ⟨x, hx, rfl⟩)
    omega
  · have := hrd.len
    rw [← hms, Nd.ls_len] at h2 h3
    omega
end Go.Proofs.YtjandnidljbkoaaGreat
