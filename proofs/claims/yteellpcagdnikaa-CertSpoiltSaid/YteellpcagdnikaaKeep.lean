/-
  The class: worlds in which some cells read as they did. Plain theorems over any program.
-/
import Derived.Test.YteellpcagdnikaaNewArms
namespace Go.Th
open Go.RowKit
set_option linter.unusedVariables false
structure KSStep (S : Addr → Prop) (w0 : World) where
  w : World
  h : ∀ a, S a → w.cell? a = w0.cell? a
instance (S : Addr → Prop) (w : World) : Nonempty (KSStep S w) := ⟨⟨w, fun _ _ => rfl⟩⟩
def KSReach (S : Addr → Prop) (w w' : World) : Prop := ∃ p : KSStep S w, w' = p.w
theorem KSReach.of {S : Addr → Prop} {w w' : World} (h : ∀ a, S a → w'.cell? a = w.cell? a) : KSReach S w w' := ⟨⟨w', h⟩, rfl⟩
theorem KSReach.refl (S : Addr → Prop) (w : World) : KSReach S w w := .of fun _ _ => rfl
theorem KSReach.trans (S : Addr → Prop) (x y z : World) (h1 : KSReach S x y) (h2 : KSReach S y z) : KSReach S x z := by
  obtain ⟨p, rfl⟩ := h1
  obtain ⟨q, rfl⟩ := h2
  exact .of fun a ha => (q.h a ha).trans (p.h a ha)
attribute [go_sem] KSReach
theorem ks_alloc {S : Addr → Prop} (w : World) (o : Obj) (h : ∀ a, S a → a.block < w.heap.size) : ∀ a, S a → (w.alloc o).cell? a = w.cell? a := fun a ha => World.cell?_alloc_lt w o a (h a ha)
end Go.Th
