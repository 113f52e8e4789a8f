/-
  The walk of the reference's put.
-/
import Derived.Test.YteellpcagdnikaaPutLaw
import Derived.Test.YteellpcagdnikaaCuts
import Derived.Test.YteellpcagdnikaaAppend
import Derived.Test.YteellpcagdnikaaNewArms
namespace Go.Proofs.Yteellpcagdnikaa
open Go.RowKit Go.Th
set_option linter.unusedVariables false
set_option maxRecDepth 100000 in
theorem rput_any (A : Option Addr) (n c : Nat) (l : List Int) (w : World) (hm : n ≤ 1000000) (B : Nat) (hr : RdS uv w B A n c l) (a : Int) (ha : 0 ≤ a ∧ a ≤ 4294967295) (hs : l.Pairwise (· < ·)) :
    Calls Try.prog 32 #[.slice A n c, .int .u32 a] w (fun e w' => ∃ A' c', e = .returned (.slice A' (pput a l).length c') ∧ RdS uv w' w'.heap.size A' (pput a l).length c' (pput a l) ∧ Below w.heap.size w w') := by
  have HS := Lib.hid hs
  have Hlen := Lib.hid hr.len
  clear hs
  go_enter Try.func32, Try.ntmps32
  go_wp2
  go_loop [5] (fun i => ∃ k : Nat, k ≤ n ∧ i = .int .i64 k ∧ Hid (∀ x ∈ l.take k, x < a)) (fun i => n - (intOf i).toNat)
  case atStart => exact ⟨0, by omega, rfl, Lib.hid (by simp)⟩
  case round =>
    obtain ⟨k, hk, rfl, hf⟩ := hrel
    by_cases hlt : k < n
    · obtain ⟨x, hx⟩ : ∃ x, l[k]? = some x := ⟨l[k]'(by have := Hlen.out; omega), List.getElem?_eq_getElem _⟩
      have Hx := Lib.hid hx
      have hst : l.take (k + 1) = l.take k ++ [x] := by rw [List.take_add_one, hx]; rfl
      have Hst := Lib.hid hst
      clear hx hst
      by_cases hxa : x < a
      · go_wp2_with ((with_reducible refine on_index (.tmp 12) ?_); refine wl_at_u rfl _ (.tmp 12) _ rfl el_u32 rfl rfl (by omega) (by omega) hr ?_; intro p x' hx' hc1; have hxx := get_eq Hx.out hx'.out (by omega); subst hxx)
        go_round
        case rel => exact ⟨k + 1, by omega, by go_num, Lib.hid (by rw [Hst.out]; intro y hy; rcases List.mem_append.1 hy with hy | hy; exact hf.out y hy; rw [List.mem_singleton.1 hy]; exact hxa)⟩
        case measure => simp [intOf]; omega
      · have hway : ((x == a) = true ∧ pput a l = l) ∨ ((x == a) = false ∧ pput a l = l.take k ++ (a :: l.drop k)) := by
          have := pput_at (a := a) hf.out (fun y hy => by have := Hx.out; rw [this] at hy; injection hy with hy; omega)
          rw [Hx.out] at this
          by_cases e : x = a
          · subst e; exact .inl ⟨by simp, by simpa using this⟩
          · exact .inr ⟨by simpa using e, by simpa [e] using this⟩
        rcases hway with ⟨e1, e2⟩ | ⟨e1, e2⟩
        · go_wp2_with (first | ((with_reducible refine on_index (.tmp 12) ?_); refine wl_at_u rfl _ (.tmp 12) _ rfl el_u32 rfl rfl (by omega) (by omega) hr ?_; intro p1 x1 hx1 hc1; have hxx := get_eq Hx.out hx1.out (by omega); subst hxx) | ((with_reducible refine on_index (.tmp 26) ?_); refine wl_at_u rfl _ (.tmp 26) _ rfl el_u32 rfl rfl (by omega) (by omega) hr ?_; intro p2 x2 hx2 hc2; have hxx := get_eq Hx.out hx2.out (by omega); subst hxx))
          go_ret
          exact ⟨A, c, by rw [Hlen.out]; rfl, by rw [Hlen.out]; exact hr.heap, Below.refl _ _⟩
        · go_wp2_with (first | ((with_reducible refine on_index (.tmp 12) ?_); refine wl_at_u rfl _ (.tmp 12) _ rfl el_u32 rfl rfl (by omega) (by omega) hr ?_; intro p1 x1 hx1 hc1; have hxx := get_eq Hx.out hx1.out (by omega); subst hxx) | ((with_reducible refine on_index (.tmp 26) ?_); refine wl_at_u rfl _ (.tmp 26) _ rfl el_u32 rfl rfl (by omega) (by omega) hr ?_; intro p2 x2 hx2 hc2; have hxx := get_eq Hx.out hx2.out (by omega); subst hxx) | ((with_reducible refine on_slice (.tmp 36) ?_); refine wl_cut_l rfl _ (.tmp 36) el_u32 rfl (hr.alloc _) _ rfl rfl k (by omega) ?_; intro A36 r36) | ((with_reducible refine on_append (.tmp 35) (.tmp 38) ?_); refine wl_appendS rfl (.tmp 35) (.tmp 38) _ rfl el_u32 (f := uv) (fun _ => rfl) rfl (OwS.lit (base := w.heap.size) (e := 22) (xs := [a]) w #[.int .u32 a] 1 (Nat.le_refl _) (by simp [maxLen]) rfl rfl) rfl r36 (by omega) (by omega) (by simp) ?_; intro A3 c3 w3 ow3 hg3 hb3; have hrr := (hr.heap.alloc (.cells #[.int .u32 a] 22)).below hb3) | ((with_reducible refine on_slice (.tmp 41) ?_); refine wl_cut_h rfl _ (.tmp 41) el_u32 rfl (by first | exact hrr | exact hrr.alloc _) _ rfl rfl k (by omega) ?_; intro A43 r43) | ((with_reducible refine on_append (.tmp 40) (.tmp 43) ?_); refine wl_appendS rfl (.tmp 40) (.tmp 43) _ rfl el_u32 (f := uv) (fun _ => rfl) rfl (OwS.lit (base := w3.heap.size) (e := 22) (xs := []) w3 #[] 0 (Nat.le_refl _) (by simp [maxLen]) rfl rfl) rfl r43 (by omega) (by omega) (by simp) ?_; intro A4 c4 w4 ow4 hg4 hb4; have ow5 := ow4; rw [Nat.zero_add, List.nil_append] at ow5) | ((with_reducible refine on_append (.tmp 44) (.tmp 45) ?_); refine wl_appendS rfl (.tmp 44) (.tmp 45) _ rfl el_u32 (f := uv) (fun _ => rfl) rfl ow5 rfl ((ow3.rd.alloc (.cells #[] 22)).below hb4) (by omega) (by omega) (by have := hb4.size; simp at this; omega) ?_; intro A6 c6 w6 ow6 hg6 hb6))
          go_ret
          have L : min k l.length + (l.length - k + 1) = k + (1 + (n - k)) := by have := Hlen.out; omega
          rw [L]
          have z3 : w.heap.size ≤ w3.heap.size := by have := hb3.size; simp at this; omega
          exact ⟨A6, c6, rfl, ow6.rd, (((below_alloc w (Nat.le_refl _) _).trans hb3).trans (((below_alloc w3 (Nat.le_refl _) _).trans hb4).mono z3)).trans (hb6.mono z3)⟩
    · have e2 : pput a l = l.take k ++ (a :: l.drop k) := by
        have hn : l[k]? = none := List.getElem?_eq_none (by have := Hlen.out; omega)
        have := pput_at (a := a) hf.out (fun y hy => by rw [hn] at hy; cases hy)
        rw [hn] at this
        simpa using this
      go_wp2_with (first | ((with_reducible refine on_slice (.tmp 36) ?_); refine wl_cut_l rfl _ (.tmp 36) el_u32 rfl (hr.alloc _) _ rfl rfl k (by omega) ?_; intro A36 r36) | ((with_reducible refine on_append (.tmp 35) (.tmp 38) ?_); refine wl_appendS rfl (.tmp 35) (.tmp 38) _ rfl el_u32 (f := uv) (fun _ => rfl) rfl (OwS.lit (base := w.heap.size) (e := 22) (xs := [a]) w #[.int .u32 a] 1 (Nat.le_refl _) (by simp [maxLen]) rfl rfl) rfl r36 (by omega) (by omega) (by simp) ?_; intro A3 c3 w3 ow3 hg3 hb3; have hrr := (hr.heap.alloc (.cells #[.int .u32 a] 22)).below hb3) | ((with_reducible refine on_slice (.tmp 41) ?_); refine wl_cut_h rfl _ (.tmp 41) el_u32 rfl (by first | exact hrr | exact hrr.alloc _) _ rfl rfl k (by omega) ?_; intro A43 r43) | ((with_reducible refine on_append (.tmp 40) (.tmp 43) ?_); refine wl_appendS rfl (.tmp 40) (.tmp 43) _ rfl el_u32 (f := uv) (fun _ => rfl) rfl (OwS.lit (base := w3.heap.size) (e := 22) (xs := []) w3 #[] 0 (Nat.le_refl _) (by simp [maxLen]) rfl rfl) rfl r43 (by omega) (by omega) (by simp) ?_; intro A4 c4 w4 ow4 hg4 hb4; have ow5 := ow4; rw [Nat.zero_add, List.nil_append] at ow5) | ((with_reducible refine on_append (.tmp 44) (.tmp 45) ?_); refine wl_appendS rfl (.tmp 44) (.tmp 45) _ rfl el_u32 (f := uv) (fun _ => rfl) rfl ow5 rfl ((ow3.rd.alloc (.cells #[] 22)).below hb4) (by omega) (by omega) (by have := hb4.size; simp at this; omega) ?_; intro A6 c6 w6 ow6 hg6 hb6))
      go_ret
      have L : min k l.length + (l.length - k + 1) = k + (1 + (n - k)) := by have := Hlen.out; omega
      rw [L]
      have z3 : w.heap.size ≤ w3.heap.size := by have := hb3.size; simp at this; omega
      exact ⟨A6, c6, rfl, ow6.rd, (((below_alloc w (Nat.le_refl _) _).trans hb3).trans (((below_alloc w3 (Nat.le_refl _) _).trans hb4).mono z3)).trans (hb6.mono z3)⟩
end Go.Proofs.Yteellpcagdnikaa
