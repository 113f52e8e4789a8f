/-
  A network made one that may be, in a variable.
-/
import Derived.Test.YtdmkiejaejlajaaNhLaw
import Derived.Test.YtdmkiejaejlajaaNhOpen
namespace Go.Proofs.Ytdmkiejaejlajaa
open Go.RowKit Go.Th
set_option linter.unusedVariables false
/-- network.Loop's answer. -/
def LAns (ls : List (List Ru)) (n : Nat) (a : Int) (l : List Int) (ok : Bool) : Prop :=
  (ok = false ∧ l = [] ∧ ∀ u L, 0 ≤ u → u < (n : Int) → ¬ Cyc (hof ls a) (gof ls a) u L) ∨
  (ok = true ∧ ∃ best M, 0 ≤ best ∧ best < (n : Int) ∧ M ≤ n ∧ Cyc (hof ls a) (gof ls a) best M ∧ (∀ j, 0 < j → j < M → itr (hof ls a) j best ≠ best) ∧ l = sits ls a best M ∧ ∀ u L, 0 ≤ u → u < (n : Int) → Cyc (hof ls a) (gof ls a) u L → best ≤ u)
structure HBox (w : World) (g : Nat) (A : Option Addr) (n c : Nat) (ns : List Nd) : Prop where
  box : Box w g 24 #[.slice A n c]
  rd : NRd w w.heap.size A n c ns
  may : ∀ l ∈ Nd.ls ns, ∀ r ∈ l, r.may (Nd.ls ns).length = 0
  small : ∀ x ∈ ns, x.n ≤ 20
  nb : 1 ≤ n ∧ n ≤ 8
section
variable {w w' : World} {g : Nat} {A : Option Addr} {n c : Nat} {ns : List Nd}
theorem HBox.step (h : HBox w g A n c ns) (hb : Below w.heap.size w w') : HBox w' g A n c ns := ⟨h.box.step hb, (h.rd.step hb).heap, h.may, h.small, h.nb⟩
theorem HBox.len (h : HBox w g A n c ns) : (Nd.ls ns).length = n := by rw [Nd.ls_len]; exact h.rd.len
theorem HBox.inn (h : HBox w g A n c ns) (a : Int) : Inn (Nd.ls ns) a := inn_of_may h.may
theorem HBox.walk (h : HBox w g A n c ns) (a v K : Int) (ha : 0 ≤ a ∧ a ≤ 4294967295) (u : Int) (ok : Bool) (hw : Hid (walkT (Nd.ls ns) a v K = (u, ok))) :
    Calls Try.prog 12 #[.agg #[.slice A n c], .int .u32 a, .int .i64 v, .int .i64 K] w (RetIB (u, ok) w) :=
  walk_any A n c ns a v K w (by have := h.nb; omega) ha (fun x hx => by have := h.small x hx; omega) h.rd u ok hw
theorem HBox.stp (h : HBox w g A n c ns) (a v : Int) (ha : 0 ≤ a ∧ a ≤ 4294967295) (u : Int) (ok : Bool) (hw : Hid (nstep (Nd.ls ns) a v = (u, ok))) :
    Calls Try.prog 13 #[.agg #[.slice A n c], .int .u32 a, .int .i64 v] w (RetIB (u, ok) w) :=
  step_any A n c ns a v w (by have := h.nb; omega) ha (fun x hx => by have := h.small x hx; omega) w.heap.size h.rd u ok hw
theorem HBox.loop (h : HBox w g A n c ns) (a : Int) (ha : 0 ≤ a ∧ a ≤ 4294967295) :
    Calls Try.prog 15 #[.agg #[.slice A n c], .int .u32 a] w (fun e w' => ∃ Al nl cl l ok, e = .returned (.tuple #[.slice Al nl cl, .bool ok]) ∧ RdS iv w' w'.heap.size Al nl cl l ∧ Below w.heap.size w w' ∧ LAns (Nd.ls ns) n a l ok) :=
  loop_any A n c ns a w (by have := h.nb; omega) ha (fun x hx => by have := h.small x hx; omega) h.rd
end
/-- Fit's answer. -/
def FitNet (w : World) (e : Ending) (w' : World) : Prop := ∃ A n c ns, e = .returned (.agg #[.slice A n c]) ∧ NRd w' w'.heap.size A n c ns ∧ (∀ l ∈ Nd.ls ns, ∀ r ∈ l, r.may (Nd.ls ns).length = 0) ∧ (∀ x ∈ ns, x.n ≤ 20) ∧ (1 ≤ n ∧ n ≤ 8) ∧ Below w.heap.size w w'
theorem made_any (A : Option Addr) (n c : Nat) (ns : List Nd) (w : World) (ni : NetIn w A n c ns) (W : World) (hW : Below w.heap.size w W) : Calls Try.prog 11 #[.agg #[.slice A n c]] W (FitNet W) := by
  refine (netfit_any A n c ns W ni.n ni.each _ (ni.rd.below hW)).mono ?_
  rintro e w' ⟨A', m, c', ms, rfl, no, hms, hb⟩
  have hok : ∀ l ∈ Nd.ls ns, ∀ r ∈ l, r.Ok := by
    intro l hl r hr
    obtain ⟨x, hx, rfl⟩ := List.mem_map.1 hl
    exact ni.rd.ok x hx r hr
  have hm := nmany_bd (Nd.ls ns)
  have hS : Sound (nmany (Nd.ls ns) : Int) := ⟨by omega, by omega⟩
  have hall : ∀ t, (t ∈ Nd.ls ns ∨ t = []) → ∀ r ∈ t, r.Ok := by
    rintro t (ht | rfl) r hr
    · exact hok t ht r hr
    · cases hr
  have hrd := no.rd
  have hl := hrd.len
  have hl2 : (Nd.ls ms).length = nmany (Nd.ls ns) := by rw [hms, nfit_length]
  refine ⟨A', m, c', ms, rfl, hrd, fun l h => ?_, fun x hx => ?_, ?_, hb⟩
  · rw [hl2]
    rw [hms] at h
    obtain ⟨t, ht, rfl⟩ := nfit_each h
    exact fitted_may (by omega) (fitT_fitted hS t (hall t ht)) (fitT_ok t (nmany (Nd.ls ns)) (hall t ht) (by omega))
  · have h1 := (hrd.rk x hx).len
    have h2 : x.l ∈ nfit (Nd.ls ns) := by rw [← hms]; exact List.mem_map.2 ⟨x, hx, rfl⟩
    obtain ⟨t, ht, he⟩ := nfit_each h2
    have := fitT_length t (nmany (Nd.ls ns))
    rw [← he] at this
    omega
  · rw [Nd.ls_len] at hl2
    omega
end Go.Proofs.Ytdmkiejaejlajaa
