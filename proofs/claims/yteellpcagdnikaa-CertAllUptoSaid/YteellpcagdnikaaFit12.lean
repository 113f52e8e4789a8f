/-
  The walk of the reference's Fit of a row of bounds.
-/
import Derived.Test.YteellpcagdnikaaPut
namespace Go.Proofs.Yteellpcagdnikaa
open Go.RowKit Go.Th
set_option linter.unusedVariables false
/-- The first k are put. -/
def FitRel (l : List Int) (n : Nat) (w : World) (s i : Value) (wr : World) : Prop := ∃ (k : Nat) (o : List Int) (A : Option Addr) (c : Nat), k ≤ n ∧ k ≤ 30 ∧ i = .int .i64 k ∧ s = .slice A o.length c ∧ Hid ((l.take k).foldl (fun o x => pput x o) [0] = o) ∧ Hid (Row0 o) ∧ o.length ≤ k + 1 ∧ RdS uv wr wr.heap.size A o.length c o ∧ Below w.heap.size w wr
set_option maxRecDepth 100000 in
theorem rfit_any (A : Option Addr) (n c : Nat) (l : List Int) (w : World) (hm : n ≤ 9223372036854775807) (B : Nat) (hr : RdS uv w B A n c l) (hl : ∀ x ∈ l, 0 ≤ x ∧ x ≤ 4294967295) :
    Calls Try.prog 23 #[.slice A n c] w (fun e w' => ∃ A' c', e = .returned (.slice A' (pfit l).length c') ∧ RdS uv w' w'.heap.size A' (pfit l).length c' (pfit l) ∧ Below w.heap.size w w') := by
  have HL := Lib.hid hl
  have Hlen := Lib.hid hr.len
  clear hl
  go_enter Try.func23, Try.ntmps23
  go_wp2
  go_loopw [3, 4] (fun s i wr => FitRel l n w s i wr) (fun _ i _ => n - (intOf i).toNat)
  case atStart => exact ⟨0, [0], _, 1, by omega, by omega, rfl, rfl, Lib.hid rfl, Lib.hid row0_one, by simp, (OwS.lit (base := w.heap.size) (e := 22) (xs := [0]) w #[.int .u32 0] 1 (Nat.le_refl _) (by simp [maxLen]) rfl rfl).rd, below_alloc w (Nat.le_refl _) _⟩
  case round =>
    obtain ⟨k, o, A1, c1, hk, hk30, rfl, rfl, hf, h0, hol, r1, hb⟩ := hrel
    have hrr := hr.step hb
    by_cases hlt : k < n
    · by_cases h30 : k < 30
      · obtain ⟨x, hx⟩ : ∃ x, l[k]? = some x := ⟨l[k]'(by have := Hlen.out; omega), List.getElem?_eq_getElem _⟩
        have Hx := Lib.hid hx
        have hxm := HL.out x (List.mem_of_getElem? hx)
        have Hst : Hid ((l.take (k + 1)).foldl (fun o x => pput x o) [0] = pput x o) := Lib.hid (by rw [List.take_add_one, hx, List.foldl_append, hf.out]; rfl)
        have hln := @pput_len x o
        clear hx
        go_wp2_with (first
          | ((with_reducible refine on_index (.tmp 17) ?_); refine wl_at_u rfl _ (.tmp 17) _ rfl el_u32 rfl rfl (by omega) (by omega) hrr ?_; intro p x' hx' hc1; have hxx := get_eq Hx.out hx'.out (by omega); subst hxx)
          | (go_at_call 32; refine (rput_any A1 _ c1 o _ (by omega) _ r1 x hxm h0.out.up).mono ?_; rintro e w1 ⟨A2, c2, rfl, r2, hb2⟩))
        go_roundw
        case rel => exact ⟨k + 1, pput x o, A2, c2, by omega, by omega, by go_num, rfl, Hst, Lib.hid (h0.out.put hxm), by omega, r2, hb.trans (hb2.mono hb.size)⟩
        case measure => simp [intOf]; omega
      · have e : pfit l = o := by rw [pfit, ← hf.out, show k = 30 by omega]
        go_wp2
        go_ret
        exact ⟨A1, c1, by rw [e]; rfl, by rw [e]; exact r1, hb⟩
    · have e : pfit l = o := by rw [pfit, ← hf.out, List.take_of_length_le (by have := Hlen.out; omega), List.take_of_length_le (by have := Hlen.out; omega)]
      go_wp2
      go_ret
      exact ⟨A1, c1, by rw [e]; rfl, by rw [e]; exact r1, hb⟩
end Go.Proofs.Yteellpcagdnikaa
