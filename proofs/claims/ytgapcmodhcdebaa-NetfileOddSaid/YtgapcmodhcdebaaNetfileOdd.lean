/-
  theseuslaw10.NetfileOdd: the walk.
-/
import Derived.Test.YtgapcmodhcdebaaNfMade
namespace Go.Proofs.Ytgapcmodhcdebaa
open Go.RowKit Go.Th
set_option linter.unusedVariables false
def oddR : Ru := ⟨167772160, 8, 2, 0⟩
theorem nd0 : inT [] = ([], 2) := by rfl
theorem nd1 (c : UInt8) : inT [128, c] = ([], 3) := by rfl
theorem nd2 (c : UInt8) : inT [130, 1, c] = ([], 12) := by rfl
theorem nd3 : inT [1, 84, 2, 160, 1] = ([], 12) := by rfl
theorem nd4 : inT [1, 83, 9, 1, 10, 0, 0, 0, 8, 2, 0, 0] = ([], 3) := by rfl
theorem nd5 : inT [1, 84, 1, 1] = ([], 2) := by rfl
theorem nd6 : inT [1, 84, 9, 0, 10, 0, 0, 0, 8, 2, 0, 0] = ([], 4) := by rfl
theorem nd7 : inT [2, 84, 9, 1, 10, 0, 0, 0, 8, 2, 0, 0] = ([], 2) := by rfl
theorem nd8 : inT [1, 84, 9, 1, 10, 0, 0, 1, 8, 2, 0, 0] = ([], 8) := by decide +kernel
theorem nd9 : inT [1, 84, 9, 1, 10, 0, 0, 0, 8, 2, 0, 0] = ([[oddR]], 0) := by decide +kernel
theorem nd_body : nbody [[oddR]] = [1, 84, 9, 1, 10, 0, 0, 0, 8, 2, 0, 0] := by decide +kernel
theorem nd_ok : NOk [[oddR]] := ⟨by decide +kernel, by intro l hl r hr; simp at hl; subst hl; simp at hr; subst hr; exact ⟨by decide, by decide, by decide, by decide⟩⟩
/-- With a byte behind the sum. -/
theorem ntk_after {ns : List (List Ru)} (h : NOk ns) (c : UInt8) : ∃ g, ntk (fput 1179206193 (nbody ns) ++ [c]) = ([], g) ∧ g ≠ 0 := by
  obtain ⟨b, hb⟩ : ∃ b, nbody ns = b := ⟨_, rfl⟩
  rw [hb]
  unfold ntk
  by_cases h1 : (ftake 1179206193 (fput 1179206193 b ++ [c])).2 ≠ 0
  · rw [if_pos h1]; exact ⟨_, rfl, h1⟩
  · rw [if_neg h1]
    simp only [ne_eq, Decidable.not_not] at h1
    obtain ⟨x, hx⟩ : ∃ x, (ftake 1179206193 (fput 1179206193 b ++ [c])).1 = x := ⟨_, rfl⟩
    have hp := fput_ftake (m := 1179206193) (bs := fput 1179206193 b ++ [c]) (x := x) (Prod.ext hx h1)
    have hl := congrArg List.length hp
    rw [fput_length, List.length_append, fput_length] at hl
    simp only [List.length_cons, List.length_nil] at hl
    have hm : ∀ y : List UInt8, (fput 1179206193 y).drop 4 = y ++ be (csum (fhead 1179206193 y)) 4 := fun y => by
      unfold fput
      rw [List.drop_append, fhead_length]
      have e2 : (fhead 1179206193 y).drop 4 = y := by
        have := List.drop_left (l₁ := be 1179206193 4) (l₂ := y)
        rwa [be_length] at this
      rw [e2, show 4 - (y.length + 4) = 0 by omega, List.drop_zero]
    have hd := congrArg (List.drop 4) hp
    rw [hm, List.drop_append, hm, fput_length, show 4 - (b.length + 8) = 0 by omega, List.drop_zero] at hd
    have ht := congrArg (List.take x.length) hd
    rw [List.take_left, List.append_assoc, List.take_append, List.take_of_length_le (show b.length ≤ x.length by omega)] at ht
    rw [hx]
    obtain ⟨t, ht0, ht1⟩ : ∃ t, t ≠ [] ∧ x = b ++ t := ⟨_, (fun e => by rw [e] at ht; simp at ht; rw [ht] at hl; omega), ht⟩
    refine ⟨4, ?_, by decide⟩
    rw [ht1, ← hb]
    exact inT_more h ht0
theorem z_rows9 : (Try.prog.info? 49).map (fun i => (i.zero.map Value.cells, i.size)) = some (some (Array.replicate 9 (.slice none 0 0)), 9) := by kernel_rfl
theorem z_want9 : (Try.prog.info? 50).map (fun i => (i.zero.map Value.cells, i.size)) = some (some (Array.replicate 9 (.int .i64 0)), 9) := by kernel_rfl
theorem ar_rows9 : ArT Try.prog 49 9 := ⟨⟨_, _, Try.underlying49⟩, by kernel_rfl⟩
theorem ar_want9 : ArT Try.prog 50 9 := ⟨⟨_, _, Try.underlying50⟩, by kernel_rfl⟩
set_option maxRecDepth 100000 in
set_option maxHeartbeats 4000000 in
theorem netfileOdd_core {w : World} (n0 : Nat) (hn0 : n0 ≤ 255) (cb : UInt8) :
    Calls Try.prog 8 #[.int .u8 n0, .int .u8 cb.toNat] w fun e w' => e = .returned (.bool true) ∧ Below w.heap.size w w' := by
  go_enter Try.func8, Try.ntmps8
  go_upto_region 2 with (go_at_call 10; refine (shown10 _).mono ?_; rintro e w1 ⟨rfl, BB⟩)
  go_upto_region 4 with (first
    | ((with_reducible refine on_sliceLit ?_); refine wl_lit rfl _ 8 _ rfl el_u8 bv_cells [10, 0, 0, 0, 8, 2, 0, 0] rfl (by omega) (by omega) (Nat.le_refl _) rfl ?_; intro g2 w2 _ _ o2 hb2; have BB := BB.trans (hb2.mono BB.size); have R0 := (Rws.nil w2).cons o2.rd)
    | ((with_reducible refine on_sliceLit ?_); refine wl_lit rfl _ 3 _ rfl el_u8 bv_cells [84, 9, 1] rfl (by omega) (by omega) (Nat.le_refl _) rfl ?_; intro g3 w3 _ _ o3 hb3; have o2 := o2.below hb3)
    | ((with_reducible refine on_append (.tmp 19) (.tmp 20) ?_); refine wl_appendS rfl (.tmp 19) (.tmp 20) _ rfl el_u8 (f := bv) (fun _ => rfl) rfl o3 rfl o2.rd (by omega) (by omega) hb3.size ?_; intro A7 c7 w7 o7 _ hb7; have H := hb3.trans hb7; have BB := BB.trans (H.mono BB.size); have R := (R0.step H).cons o7.rd))
  clear hb2 hb3 hb7 H o2 o3 o7 R0
  go_upto_region 5 with (first
    | ((with_reducible refine on_sliceLit ?_); refine wl_lit0 rfl _ rfl el_u8 bv (Nat.le_refl _) ?_; intro g22 w22 _ _ o22 hb22; have R := (R.step hb22).cons o22.rd; have BB := BB.trans (hb22.mono BB.size))
    | ((with_reducible refine on_sliceLit ?_); refine wl_lit rfl _ 2 _ rfl el_u8 bv_cells [128, cb] rfl (by omega) (by omega) (Nat.le_refl _) rfl ?_; intro g24 w24 _ _ o24 hb24; have R := (R.step hb24).cons o24.rd; have BB := BB.trans (hb24.mono BB.size))
    | ((with_reducible refine on_sliceLit ?_); refine wl_lit rfl _ 3 _ rfl el_u8 bv_cells [130, 1, cb] rfl (by omega) (by omega) (Nat.le_refl _) rfl ?_; intro g26 w26 _ _ o26 hb26; have R := (R.step hb26).cons o26.rd; have BB := BB.trans (hb26.mono BB.size))
    | ((with_reducible refine on_sliceLit ?_); refine wl_lit rfl _ 5 _ rfl el_u8 bv_cells [1, 84, 2, 160, 1] rfl (by omega) (by omega) (Nat.le_refl _) rfl ?_; intro g27 w27 _ _ o27 hb27; have R := (R.step hb27).cons o27.rd; have BB := BB.trans (hb27.mono BB.size))
    | ((with_reducible refine on_sliceLit ?_); refine wl_lit rfl _ 2 _ rfl el_u8 bv_cells [1, 83] rfl (by omega) (by omega) (Nat.le_refl _) rfl ?_; intro g28 w28 _ _ o28 hb28; have R0 := R; have BB0 := BB; have R := R.step hb28)
    | ((with_reducible refine on_slice (.tmp 29) ?_); refine wl_cut_l rfl _ _ el_u8 rfl (R.get (A := A7) (n := 3 + 8) (c := c7) (bs := [84, 9, 1] ++ [10, 0, 0, 0, 8, 2, 0, 0]) (by simp)) _ rfl rfl 1 (by omega) ?_; intro A30 r30)
    | ((with_reducible refine on_append (.tmp 28) (.tmp 30) ?_); refine wl_appendS rfl (.tmp 28) (.tmp 30) _ rfl el_u8 (f := bv) (fun _ => rfl) rfl o28 rfl r30 (by omega) (by omega) hb28.size ?_; intro A31 c31 w31 o31 _ hb31; have H := hb28.trans hb31; have R := (R0.step H).cons o31.rd; have BB := BB0.trans (H.mono BB0.size))
    | ((with_reducible refine on_sliceLit ?_); refine wl_lit rfl _ 4 _ rfl el_u8 bv_cells [1, 84, 1, 1] rfl (by omega) (by omega) (Nat.le_refl _) rfl ?_; intro g32 w32 _ _ o32 hb32; have R := (R.step hb32).cons o32.rd; have BB := BB.trans (hb32.mono BB.size))
    | ((with_reducible refine on_sliceLit ?_); refine wl_lit rfl _ 4 _ rfl el_u8 bv_cells [1, 84, 9, 0] rfl (by omega) (by omega) (Nat.le_refl _) rfl ?_; intro g33 w33 _ _ o33 hb33; have R0 := R; have BB0 := BB; have R := R.step hb33)
    | ((with_reducible refine on_append (.tmp 33) (.tmp 34) ?_); refine wl_appendS rfl (.tmp 33) (.tmp 34) _ rfl el_u8 (f := bv) (fun _ => rfl) rfl o33 rfl (R.get (A := some ⟨g2, 0, none⟩) (n := 8) (c := 8) (bs := [10, 0, 0, 0, 8, 2, 0, 0]) (by simp)) (by omega) (by omega) hb33.size ?_; intro A35 c35 w35 o35 _ hb35; have H := hb33.trans hb35; have R := (R0.step H).cons o35.rd; have BB := BB0.trans (H.mono BB0.size))
    | ((with_reducible refine on_sliceLit ?_); refine wl_lit rfl _ 1 _ rfl el_u8 bv_cells [2] rfl (by omega) (by omega) (Nat.le_refl _) rfl ?_; intro g36 w36 _ _ o36 hb36; have R0 := R; have BB0 := BB; have R := R.step hb36)
    | ((with_reducible refine on_append (.tmp 36) (.tmp 37) ?_); refine wl_appendS rfl (.tmp 36) (.tmp 37) _ rfl el_u8 (f := bv) (fun _ => rfl) rfl o36 rfl (R.get (A := A7) (n := 3 + 8) (c := c7) (bs := [84, 9, 1] ++ [10, 0, 0, 0, 8, 2, 0, 0]) (by simp)) (by omega) (by omega) hb36.size ?_; intro A38 c38 w38 o38 _ hb38; have H := hb36.trans hb38; have R := (R0.step H).cons o38.rd; have BB := BB0.trans (H.mono BB0.size))
    | ((with_reducible refine on_sliceLit ?_); refine wl_lit rfl _ 12 _ rfl el_u8 bv_cells [1, 84, 9, 1, 10, 0, 0, 1, 8, 2, 0, 0] rfl (by omega) (by omega) (Nat.le_refl _) rfl ?_; intro g39 w39 _ _ o39 hb39; have R := (R.step hb39).cons o39.rd; have BB := BB.trans (hb39.mono BB.size))
    | ((with_reducible refine on_alloc ?_); refine wl_newBox rfl _ rfl z_rows9 ?_; intro g8 w45 hg8 hl8 bg8 hb45)
    | ((with_reducible refine on_store_at (.tmp 8) ?_); refine wa_store (cs := Array.replicate 9 (.slice none 0 0)) rfl _ (.tmp 8) _ rfl ar_rows9 rfl rfl bg8 rfl rfl (by simp [Value.oneCell']) ?_; intro w46 bx46 hg46))
  have d46 := hb45.trans (below_of_grown (B := w39.heap.size) hg46 (fun j e => by injection e with e; omega) hb45.size)
  have R := R.step d46
  have BB := BB.trans (d46.mono BB.size)
  clear hb45 hg46 bg8 hl8 hg8 H o39 hb39 d46
  go_upto_region 6 with (first
    | ((with_reducible refine on_alloc ?_); refine wl_newBox rfl _ rfl z_want9 ?_; intro g9 w47 hg9 hl9 bg9 hb47)
    | ((with_reducible refine on_store_at (.tmp 9) ?_); refine wa_store (cs := Array.replicate 9 (.int .i64 0)) rfl _ (.tmp 9) _ rfl ar_want9 rfl rfl bg9 rfl rfl (by simp [Value.oneCell']) ?_; intro w48 bx48 hg48))
  have d48 := hb47.trans (below_of_grown (B := w46.heap.size) hg48 (fun j e => by injection e with e; omega) hb47.size)
  have R := R.step d48
  have BB := BB.trans (d48.mono BB.size)
  have bx8 := bx46.step d48
  clear hb47 hg48 bg9 hl9 hg9 bx46 d48
  have key : ∀ k : Nat, k < 9 → ∃ A n c bs er, w48.cell? ⟨g8, k, none⟩ = some (.slice A n c) ∧ RdS bv w48 w48.heap.size A n c bs ∧ n ≤ 20 ∧ inT bs = ([], er) ∧ ∀ w', Box w' g9 50 #[.int .i64 2, .int .i64 3, .int .i64 12, .int .i64 12, .int .i64 3, .int .i64 2, .int .i64 4, .int .i64 2, .int .i64 8] → w'.cell? ⟨g9, k, none⟩ = some (.int .i64 er) := by
    intro k hk
    rcases (by omega : k = 0 ∨ k = 1 ∨ k = 2 ∨ k = 3 ∨ k = 4 ∨ k = 5 ∨ k = 6 ∨ k = 7 ∨ k = 8) with rfl | rfl | rfl | rfl | rfl | rfl | rfl | rfl | rfl
    · exact ⟨_, _, _, _, _, bx8.cell 0, R.get (bs := []) (by simp), by omega, nd0, fun w' h => h.cell 0⟩
    · exact ⟨_, _, _, _, _, bx8.cell 1, R.get (bs := [128, cb]) (by simp), by omega, nd1 cb, fun w' h => h.cell 1⟩
    · exact ⟨_, _, _, _, _, bx8.cell 2, R.get (bs := [130, 1, cb]) (by simp), by omega, nd2 cb, fun w' h => h.cell 2⟩
    · exact ⟨_, _, _, _, _, bx8.cell 3, R.get (bs := [1, 84, 2, 160, 1]) (by simp), by omega, nd3, fun w' h => h.cell 3⟩
    · exact ⟨_, _, _, _, _, bx8.cell 4, R.get (bs := [1, 83, 9, 1, 10, 0, 0, 0, 8, 2, 0, 0]) (by simp), by omega, nd4, fun w' h => h.cell 4⟩
    · exact ⟨_, _, _, _, _, bx8.cell 5, R.get (bs := [1, 84, 1, 1]) (by simp), by omega, nd5, fun w' h => h.cell 5⟩
    · exact ⟨_, _, _, _, _, bx8.cell 6, R.get (bs := [1, 84, 9, 0, 10, 0, 0, 0, 8, 2, 0, 0]) (by simp), by omega, nd6, fun w' h => h.cell 6⟩
    · exact ⟨_, _, _, _, _, bx8.cell 7, R.get (bs := [2, 84, 9, 1, 10, 0, 0, 0, 8, 2, 0, 0]) (by simp), by omega, nd7, fun w' h => h.cell 7⟩
    · exact ⟨_, _, _, _, _, bx8.cell 8, R.get (bs := [1, 84, 9, 1, 10, 0, 0, 1, 8, 2, 0, 0]) (by simp), by omega, nd8, fun w' h => h.cell 8⟩
  have ra := (R.get (A := A7) (n := 11) (c := c7) (bs := [84, 9, 1, 10, 0, 0, 0, 8, 2, 0, 0]) (by simp))
  clear R
  obtain ⟨k, hk, hk11⟩ : ∃ k : Nat, (n0 : Int) % 9 = k ∧ k < 9 := ⟨n0 % 9, by omega, by omega⟩
  obtain ⟨A, n, c, bs, er, q1, rb, hn, ht, q2⟩ := key k hk11
  clear key
  go_upto_region 7 with fail
  rw [hk]
  obtain ⟨fb, hfb⟩ : ∃ f, fput 1179206193 bs = f := ⟨_, rfl⟩
  have lfb : fb.length ≤ 100 := by rw [← hfb, fput_length, rb.len]; omega
  have Hfb : Hid (ntk fb = ([], er)) := Lib.hid (by rw [← hfb, ntk_fput, ht])
  have Hq2 := Lib.hid q2
  clear ht q2
  go_upto_region 8 with (first
    | (go_at_call 18; refine (fput_any 1179206193 (by omega) 1179206193 rfl A n c w48 (by omega) bs rb).mono ?_; rw [hfb]; rintro e w51 ⟨A51, n51, c51, rfl, ow51, hb51⟩; have e51 := ow51.len)
    | (go_at_call 15; refine (nettake_is _ _ _ w51 (by omega) fb ow51.rd [] er Hfb).mono ?_; rintro e w52 ⟨A52, n52, c52, ns52, rfl, hp52, hk52, hb52⟩)
    | ((with_reducible refine on_alloc ?_); refine wl_newBox rfl _ rfl z_net ?_; intro g53 w53 hg53 hl53 bg53 hb53)
    | ((with_reducible refine on_store_at (.tmp 11) ?_); refine wb_store (cs := #[.slice none 0 0]) (cs' := #[.slice A52 n52 c52]) rfl _ (.tmp 11) _ rfl st_net rfl rfl bg53 rfl rfl (by simp [Value.oneCell']) ?_; intro w54 bx54 hg54))
  have hn52 : n52 = 0 := by have h2 := congrArg List.length hk52; rw [Nd.ls_len, hp52.len] at h2; simpa using h2
  subst hn52
  have b54 : Below w48.heap.size w48 w54 := by
    have a := hb53.trans (below_of_grown (B := w52.heap.size) hg54 (fun j e => by injection e with e; omega) hb53.size)
    have b := hb52.trans (a.mono hb52.size)
    exact hb51.trans (b.mono hb51.size)
  have ra := (ra.step b54).heap
  have by54 := bx48.step b54
  have B54 := BB.trans (b54.mono BB.size)
  obtain ⟨fo, hfo⟩ : ∃ f, fput 1179206193 (nbody [[oddR]]) = f := ⟨_, rfl⟩
  have lfo : fo.length = 20 := by rw [← hfo, fput_length, nd_body]; rfl
  have Hfo : Hid (ntk fo = ([[oddR]], 0)) := Lib.hid (by rw [← hfo, ntk_fput, nd_body]; exact nd9)
  have haf := ntk_after nd_ok cb
  rw [hfo] at haf
  obtain ⟨ga, hga, hga0⟩ := haf
  have Hga := Lib.hid hga
  have he9 : (ga != 0) = true := by simpa using hga0
  have hfo2 : fput 1179206193 ([1] ++ [84, 9, 1, 10, 0, 0, 0, 8, 2, 0, 0]) = fo := by rw [← hfo, nd_body]; rfl
  have Hfo2 := Lib.hid hfo2
  have Lfo := Lib.hid lfo
  clear b54 hb53 hg54 hb52 hb51 hg53 hl53 bg53 ow51 e51 bx48 bx8 hfb Hfb lfb rb q1 hfo hga hga0 hfo2 lfo hp52 hk52
  go_upto_region 9 with (first
    | ((with_reducible refine on_sliceLit ?_); refine wl_lit rfl _ 1 _ rfl el_u8 bv_cells [1] rfl (by omega) (by omega) (Nat.le_refl _) rfl ?_; intro g60 w60 _ _ o60 hb60; have ra' := ra.step hb60)
    | ((with_reducible refine on_append (.tmp 54) (.tmp 55) ?_); refine wl_appendS rfl (.tmp 54) (.tmp 55) _ rfl el_u8 (f := bv) (fun _ => rfl) rfl o60 rfl ra' (by omega) (by omega) hb60.size ?_; intro A62 c62 w62 o62 _ hb62; have H := hb60.trans hb62)
    | (go_at_call 18; refine (fput_any 1179206193 (by omega) 1179206193 rfl A62 _ c62 w62 (by omega) _ o62.rd).mono ?_; rw [Hfo2.out]; rintro e w65 ⟨A65, n65, c65, rfl, ow65, hb65⟩; have H := H.trans (hb65.mono H.size); have e65 := ow65.len)
    | (go_at_call 15; refine (nettake_is _ _ _ w65 (by have := Lfo.out; omega) fo ow65.rd [[oddR]] 0 Hfo).mono ?_; rintro e w66 ⟨A66, n66, c66, ns66, rfl, hp66, hk66, hb66⟩; have H := H.trans (hb66.mono H.size); have z66 := H.size)
    | ((with_reducible refine on_alloc ?_); refine wl_newBox rfl _ rfl z_net ?_; intro g67 w67 hg67 hl67 bg67 hb67; have H := H.trans (hb67.mono H.size))
    | ((with_reducible refine on_store_at (.tmp 13) ?_); refine wb_store (cs := #[.slice none 0 0]) (cs' := #[.slice A66 n66 c66]) rfl _ (.tmp 13) _ rfl st_net rfl rfl bg67 rfl rfl (by simp [Value.oneCell']) ?_; intro w68 bx68 hg68))
  have hn66 : n66 = 1 := by have h2 := congrArg List.length hk66; rw [Nd.ls_len, hp66.len] at h2; simpa using h2
  subst hn66
  have H68 := H.trans (below_of_grown (B := w54.heap.size) hg68 (fun j e => by injection e with e; omega) H.size)
  have d68 : Below w66.heap.size w66 w68 := hb67.trans (below_of_grown (B := w66.heap.size) hg68 (fun j e => by injection e with e; omega) hb67.size)
  have hp68 := (hp66.step d68).heap
  have ra := (ra.step H68).heap
  have bx54 := bx54.step H68
  have by54 := by54.step H68
  have B68 := B54.trans (H68.mono B54.size)
  clear H68 H d68 hg68 hb67 hg67 hl67 bg67 hb66 hp66 e65 ow65 hb65 o62 hb62 o60 hb60 ra' B54 z66 BB
  go_upto_region 10 with (first
    | ((with_reducible refine on_sliceLit ?_); refine wl_lit rfl _ 1 _ rfl el_u8 bv_cells [1] rfl (by omega) (by omega) (Nat.le_refl _) rfl ?_; intro g60 w60 _ _ o60 hb60; have ra' := ra.step hb60)
    | ((with_reducible refine on_append (.tmp 62) (.tmp 63) ?_); refine wl_appendS rfl (.tmp 62) (.tmp 63) _ rfl el_u8 (f := bv) (fun _ => rfl) rfl o60 rfl ra' (by omega) (by omega) hb60.size ?_; intro A62 c62 w62 o62 _ hb62; have H := hb60.trans hb62)
    | (go_at_call 18; refine (fput_any 1179206193 (by omega) 1179206193 rfl A62 _ c62 w62 (by omega) _ o62.rd).mono ?_; rw [Hfo2.out]; rintro e w65 ⟨A65, n65, c65, rfl, ow65, hb65⟩; have H := H.trans (hb65.mono H.size); have e65 : n65 = 20 := ow65.len.symm.trans Lfo.out; subst e65)
    | ((with_reducible refine on_sliceLit ?_); refine wl_lit rfl _ 1 _ rfl el_u8 bv_cells [cb] rfl (by omega) (by omega) (Nat.le_refl _) rfl ?_; intro g70 w70 _ _ o70 hb70; have o65 := ow65.below hb70; have H := H.trans (hb70.mono H.size))
    | ((with_reducible refine on_append (.tmp 65) (.tmp 67) ?_); refine wl_appendS rfl (.tmp 65) (.tmp 67) _ rfl el_u8 (f := bv) (fun _ => rfl) rfl o65 rfl o70.rd (by omega) (by omega) (by have := hb65.size; have := hb70.size; omega) ?_; intro A71 c71 w71 o71 _ hb71; have H := H.trans (hb71.mono (by have := hb60.size; have := hb62.size; omega)))
    | (go_at_call 15; refine (nettake_is _ _ _ w71 (by omega) _ o71.rd [] ga Hga).mono ?_; rintro e w72 ⟨A72, n72, c72, ns72, rfl, -, -, hb72⟩; have H := H.trans (hb72.mono H.size); have z72 := H.size)
    | ((with_reducible refine on_alloc ?_); refine wl_newBox rfl _ rfl z_net ?_; intro g73 w73 hg73 hl73 bg73 hb73; have H := H.trans (hb73.mono H.size))
    | ((with_reducible refine on_store_at (.tmp 15) ?_); refine wb_store (cs := #[.slice none 0 0]) (cs' := #[.slice A72 n72 c72]) rfl _ (.tmp 15) _ rfl st_net rfl rfl bg73 rfl rfl (by simp [Value.oneCell']) ?_; intro w74 bx74 hg74))
  have H74 := H.trans (below_of_grown (B := w68.heap.size) hg74 (fun j e => by injection e with e; omega) H.size)
  have y53 : w74.cell? ⟨g53, 0, none⟩ = some (.slice A52 0 c52) := (bx54.step H74).cell 0
  have yk := Hq2.out w74 (by54.step H74)
  have y67 : w74.cell? ⟨g67, 0, none⟩ = some (.slice A66 1 c66) := (bx68.step H74).cell 0
  have hp74 := hp68.step H74
  have kk := B68.trans (H74.mono B68.size)
  obtain ⟨x0, hx0⟩ : ∃ x, ns66 = [x] := by
    match ns66, hk66 with
    | [x], _ => exact ⟨x, rfl⟩
  subst hx0
  have hxl : x0.n = 1 := by
    have h1 := (hp74.rk x0 (by simp)).len
    have h2 : x0.l = [oddR] := by simpa [Nd.ls] using hk66
    rw [h2] at h1
    simpa using h1.symm
  clear H74 bx74 hg74 hb73 bg73 hg73 hl73 hb72 o71 hb71 o70 hb70 o65 ow65 hb65 o62 hb62 o60 hb60 ra' ra H by54 bx54 bx68 hp68 hk66
  go_wp2_with ((with_reducible refine on_index (.tmp 98) ?_); refine wn_at rfl _ (.tmp 98) _ rfl el_row rfl rfl (by omega) (by omega) hp74.rd ?_; intro b1 j1 r1 hr1 hb1 hc1; have hxx : x0 = r1 := (by have e := hr1.out; simpa using e); subst hxx; rw [hxl] at hc1)
  go_ret
  exact ⟨rfl, kk⟩
theorem netfileOdd_walk {w : World} (x : Int) (hx : 0 ≤ x ∧ x ≤ 255) (y : Int) (hy : 0 ≤ y ∧ y ≤ 255) :
    Calls Try.prog 8 #[.int .u8 x, .int .u8 y] w fun e w' => e = .returned (.bool true) ∧ Below w.heap.size w w' := by
  obtain ⟨x, rfl⟩ := Int.eq_ofNat_of_zero_le hx.1
  obtain ⟨y, rfl⟩ := Int.eq_ofNat_of_zero_le hy.1
  have hy2 : (UInt8.ofNat y).toNat = y := by rw [UInt8.toNat_ofNat']; omega
  have := netfileOdd_core (w := w) x (by omega) (UInt8.ofNat y)
  rw [hy2] at this
  exact this
end Go.Proofs.Ytgapcmodhcdebaa
