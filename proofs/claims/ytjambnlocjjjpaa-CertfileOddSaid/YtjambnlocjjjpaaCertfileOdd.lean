/-
  theseuslaw18.CertfileOdd: the walk.
-/
import Derived.Test.YtjambnlocjjjpaaLits
namespace Go.Proofs.Ytjambnlocjjjpaa
open Go.RowKit Go.Th
set_option linter.unusedVariables false
theorem od0 : ctake [] = ⟨0, [], 0, [], 0, 2⟩ := by rfl
theorem od1 (c : UInt8) : ctake [3, c] = ⟨0, [], 0, [], 0, 9⟩ := by rfl
theorem od2 : ctake [1] = ⟨0, [], 0, [], 0, 2⟩ := by rfl
theorem od3 (c : UInt8) : ctake [1, 130, 1, c] = ⟨0, [], 0, [], 0, 12⟩ := by rfl
theorem od4 (c : UInt8) : ctake [1, 1, 192, 2, c] = ⟨0, [], 0, [], 0, 12⟩ := by rfl
theorem od5 : ctake [1, 1, 1, 0, 0, 0, 0, 255] = ⟨0, [], 0, [], 0, 2⟩ := by rfl
theorem od6 : ctake [1, 1, 1, 0, 0, 0, 0, 255, 255, 255, 255] = ⟨0, [], 0, [], 0, 2⟩ := by rfl
theorem od7 : ctake [2, 1, 0, 0, 7] = ⟨0, [], 0, [], 0, 2⟩ := by rfl
theorem od8 : ctake [2, 1, 0, 0, 0, 7, 1] = ⟨0, [], 0, [], 0, 2⟩ := by rfl
theorem od_body : cbody 1 [(0, 4294967295, [0])] 0 [] 1 = [1, 1, 1, 0, 0, 0, 0, 255, 255, 255, 255, 0] := by decide +kernel
theorem od_in : CIn 1 [(0, 4294967295, [0])] 0 [] 1 := ⟨by omega, .inl ⟨rfl, rfl, rfl, by simp, by intro k hk; simp only [List.mem_cons, List.not_mem_nil, or_false] at hk; subst hk; exact ⟨by simp, by simp, rfl, by simp⟩⟩⟩
theorem od9 (c : UInt8) : ctake [1, 1, 1, 0, 0, 0, 0, 255, 255, 255, 255, 0, c] = ⟨0, [], 0, [], 0, 4⟩ := by
  have := ctake_more od_in (t := [c]) (by simp)
  rw [od_body] at this
  exact this
theorem od10 : ctake [1, 1, 1, 0, 0, 0, 0, 255, 255, 255, 255, 1] = ⟨0, [], 0, [], 0, 16⟩ := by rfl
theorem od11 : ctake [1, 1, 1, 0, 0, 0, 0, 255, 255, 255, 255, 0] = ⟨1, [(0, 4294967295, [0])], 0, [], 1, 0⟩ := by rfl
theorem z_rows : (Try.prog.info? 44).map (fun i => (i.zero.map Value.cells, i.size)) = some (some (Array.replicate 11 (.slice none 0 0)), 11) := by kernel_rfl
theorem z_want : (Try.prog.info? 45).map (fun i => (i.zero.map Value.cells, i.size)) = some (some (Array.replicate 11 (.int .i64 0)), 11) := by kernel_rfl
theorem ar_rows : ArT Try.prog 44 11 := ⟨⟨_, _, Try.underlying44⟩, by kernel_rfl⟩
theorem ar_want : ArT Try.prog 45 11 := ⟨⟨_, _, Try.underlying45⟩, by kernel_rfl⟩
set_option maxRecDepth 100000 in
set_option maxHeartbeats 4000000 in
theorem certfileOdd_core {w : World} (n0 : Nat) (hn0 : n0 ≤ 255) (cb : UInt8) :
    Calls Try.prog 5 #[.int .u8 n0, .int .u8 cb.toNat] w fun e w' => e = .returned (.bool true) ∧ Below w.heap.size w w' := by
  go_enter Try.func5, Try.ntmps5
  go_upto_region 2 with (go_at_call 8; refine (shown18 _).mono ?_; rintro e w1 ⟨rfl, BB⟩)
  go_upto_region 4 with (first
    | ((with_reducible refine on_sliceLit ?_); refine wl_lit rfl _ 8 _ rfl el_u8 bv_cells [0, 0, 0, 0, 255, 255, 255, 255] rfl (by omega) (by omega) (Nat.le_refl _) rfl ?_; intro g2 w2 _ _ o2 hb2; have BB := BB.trans (hb2.mono BB.size))
    | ((with_reducible refine on_sliceLit ?_); refine wl_lit rfl _ 3 _ rfl el_u8 bv_cells [1, 1, 1] rfl (by omega) (by omega) (Nat.le_refl _) rfl ?_; intro g3 w3 _ _ o3 hb3; have o2 := o2.below hb3)
    | ((with_reducible refine on_append (.tmp 19) (.tmp 20) ?_); refine wl_appendS rfl (.tmp 19) (.tmp 20) _ rfl el_u8 (f := bv) (fun _ => rfl) rfl o3 rfl o2.rd (by omega) (by omega) hb3.size ?_; intro A7 c7 w7 o7 _ hb7; have H := hb3.trans hb7; have BB := BB.trans (H.mono BB.size)))
  have R := (Rws.nil w7).cons o7.rd
  clear hb2 hb3 hb7 H o2 o3 o7
  go_upto_region 5 with (first
    | ((with_reducible refine on_sliceLit ?_); refine wl_lit0 rfl _ rfl el_u8 bv (Nat.le_refl _) ?_; intro g22 w22 _ _ o22 hb22; have R0 := R; have BB0 := BB; have R := (R.step hb22).cons o22.rd; have BB := BB.trans (hb22.mono BB.size))
    | ((with_reducible refine on_sliceLit ?_); refine wl_lit rfl _ 2 _ rfl el_u8 bv_cells [3, cb] rfl (by omega) (by omega) (Nat.le_refl _) rfl ?_; intro g24 w24 _ _ o24 hb24; have R := (R.step hb24).cons o24.rd; have BB := BB.trans (hb24.mono BB.size))
    | ((with_reducible refine on_sliceLit ?_); refine wl_lit rfl _ 1 _ rfl el_u8 bv_cells [1] rfl (by omega) (by omega) (Nat.le_refl _) rfl ?_; intro g25 w25 _ _ o25 hb25; (try have o36 := o36.below hb25); (try have H := H.trans (hb25.mono H.size)); (try have R := (R.step hb25).cons o25.rd); (try have BB := BB.trans (hb25.mono BB.size)))
    | ((with_reducible refine on_sliceLit ?_); refine wl_lit rfl _ 4 _ rfl el_u8 bv_cells [1, 130, 1, cb] rfl (by omega) (by omega) (Nat.le_refl _) rfl ?_; intro g27 w27 _ _ o27 hb27; have R := (R.step hb27).cons o27.rd; have BB := BB.trans (hb27.mono BB.size))
    | ((with_reducible refine on_sliceLit ?_); refine wl_lit rfl _ 5 _ rfl el_u8 bv_cells [1, 1, 192, 2, cb] rfl (by omega) (by omega) (Nat.le_refl _) rfl ?_; intro g29 w29 _ _ o29 hb29; have R := (R.step hb29).cons o29.rd; have BB := BB.trans (hb29.mono BB.size))
    | ((with_reducible refine on_sliceLit ?_); refine wl_lit rfl _ 8 _ rfl el_u8 bv_cells [1, 1, 1, 0, 0, 0, 0, 255] rfl (by omega) (by omega) (Nat.le_refl _) rfl ?_; intro g30 w30 _ _ o30 hb30; have R := (R.step hb30).cons o30.rd; have BB := BB.trans (hb30.mono BB.size))
    | ((with_reducible refine on_sliceLit ?_); refine wl_lit rfl _ 5 _ rfl el_u8 bv_cells [2, 1, 0, 0, 7] rfl (by omega) (by omega) (Nat.le_refl _) rfl ?_; intro g32 w32 _ _ o32 hb32; have R := (R.step hb32).cons o32.rd; have BB := BB.trans (hb32.mono BB.size))
    | ((with_reducible refine on_sliceLit ?_); refine wl_lit rfl _ 7 _ rfl el_u8 bv_cells [2, 1, 0, 0, 0, 7, 1] rfl (by omega) (by omega) (Nat.le_refl _) rfl ?_; intro g33 w33 _ _ o33 hb33; have R := (R.step hb33).cons o33.rd; have BB := BB.trans (hb33.mono BB.size))
    | ((with_reducible refine on_append (.tmp 34) (.tmp 35) ?_); refine wl_appendS rfl (.tmp 34) (.tmp 35) _ rfl el_u8 (f := bv) (fun _ => rfl) rfl o22 rfl (R.get (A := A7) (n := 3 + 8) (c := c7) (bs := [1, 1, 1] ++ [0, 0, 0, 0, 255, 255, 255, 255]) (by simp)) (by omega) (by omega) hb22.size ?_; intro A36 c36 w36 o36 _ hb36; have H := hb22.trans hb36)
    | ((with_reducible refine on_append (.tmp 40) (.tmp 41) ?_); refine wl_appendS rfl (.tmp 40) (.tmp 41) _ rfl el_u8 (f := bv) (fun _ => rfl) rfl o22 rfl (R.get (A := A7) (n := 3 + 8) (c := c7) (bs := [1, 1, 1] ++ [0, 0, 0, 0, 255, 255, 255, 255]) (by simp)) (by omega) (by omega) hb22.size ?_; intro A36 c36 w36 o36 _ hb36; have H := hb22.trans hb36)
    | ((with_reducible refine on_sliceLit ?_); refine wl_lit rfl _ 2 _ rfl el_u8 bv_cells [0, cb] rfl (by omega) (by omega) (Nat.le_refl _) rfl ?_; intro g38 w38 _ _ o38 hb38; have o36 := o36.below hb38; have H := H.trans (hb38.mono H.size))
    | ((with_reducible refine on_append (.tmp 36) (.tmp 38) ?_); refine wl_appendS rfl (.tmp 36) (.tmp 38) _ rfl el_u8 (f := bv) (fun _ => rfl) rfl o36 rfl o38.rd (by omega) (by omega) H.size ?_; intro A39 c39 w39 o39 _ hb39; have H := H.trans hb39; have R := (R0.step H).cons o39.rd; have BB := BB0.trans (H.mono BB0.size))
    | ((with_reducible refine on_append (.tmp 42) (.tmp 43) ?_); refine wl_appendS rfl (.tmp 42) (.tmp 43) _ rfl el_u8 (f := bv) (fun _ => rfl) rfl o36 rfl o25.rd (by omega) (by omega) H.size ?_; intro A44 c44 w44 o44 _ hb44; have H := H.trans hb44; have R := (R0.step H).cons o44.rd; have BB := BB0.trans (H.mono BB0.size))
    | ((with_reducible refine on_alloc ?_); refine wl_newBox rfl _ rfl z_rows ?_; intro g8 w45 hg8 hl8 bg8 hb45)
    | ((with_reducible refine on_store_at (.tmp 8) ?_); refine wa_store (cs := Array.replicate 11 (.slice none 0 0)) rfl _ (.tmp 8) _ rfl ar_rows rfl rfl bg8 rfl rfl (by simp [Value.oneCell']) ?_; intro w46 bx46 hg46))
  have d46 := hb45.trans (below_of_grown (B := w44.heap.size) hg46 (fun j e => by injection e with e; omega) hb45.size)
  have R := R.step d46
  have BB := BB.trans (d46.mono BB.size)
  clear hb45 hg46 bg8 hl8 hg8 H o44 hb44 d46
  go_upto_region 6 with (first
    | ((with_reducible refine on_alloc ?_); refine wl_newBox rfl _ rfl z_want ?_; intro g9 w47 hg9 hl9 bg9 hb47)
    | ((with_reducible refine on_store_at (.tmp 9) ?_); refine wa_store (cs := Array.replicate 11 (.int .i64 0)) rfl _ (.tmp 9) _ rfl ar_want rfl rfl bg9 rfl rfl (by simp [Value.oneCell']) ?_; intro w48 bx48 hg48))
  have d48 := hb47.trans (below_of_grown (B := w46.heap.size) hg48 (fun j e => by injection e with e; omega) hb47.size)
  have R := R.step d48
  have BB := BB.trans (d48.mono BB.size)
  have bx8 := bx46.step d48
  clear hb47 hg48 bg9 hl9 hg9 bx46 d48
  have key : ∀ k : Nat, k < 11 → ∃ A n c bs er, w48.cell? ⟨g8, k, none⟩ = some (.slice A n c) ∧ RdS bv w48 w48.heap.size A n c bs ∧ n ≤ 20 ∧ ctake bs = ⟨0, [], 0, [], 0, er⟩ ∧ ∀ w', Box w' g9 45 #[.int .i64 2, .int .i64 9, .int .i64 2, .int .i64 12, .int .i64 12, .int .i64 2, .int .i64 2, .int .i64 2, .int .i64 2, .int .i64 4, .int .i64 16] → w'.cell? ⟨g9, k, none⟩ = some (.int .i64 er) := by
    intro k hk
    rcases (by omega : k = 0 ∨ k = 1 ∨ k = 2 ∨ k = 3 ∨ k = 4 ∨ k = 5 ∨ k = 6 ∨ k = 7 ∨ k = 8 ∨ k = 9 ∨ k = 10) with rfl | rfl | rfl | rfl | rfl | rfl | rfl | rfl | rfl | rfl | rfl
    · exact ⟨_, _, _, _, _, bx8.cell 0, R.get (bs := []) (by simp), by omega, od0, fun w' h => h.cell 0⟩
    · exact ⟨_, _, _, _, _, bx8.cell 1, R.get (bs := [3, cb]) (by simp), by omega, od1 cb, fun w' h => h.cell 1⟩
    · exact ⟨_, _, _, _, _, bx8.cell 2, R.get (bs := [1]) (by simp), by omega, od2, fun w' h => h.cell 2⟩
    · exact ⟨_, _, _, _, _, bx8.cell 3, R.get (bs := [1, 130, 1, cb]) (by simp), by omega, od3 cb, fun w' h => h.cell 3⟩
    · exact ⟨_, _, _, _, _, bx8.cell 4, R.get (bs := [1, 1, 192, 2, cb]) (by simp), by omega, od4 cb, fun w' h => h.cell 4⟩
    · exact ⟨_, _, _, _, _, bx8.cell 5, R.get (bs := [1, 1, 1, 0, 0, 0, 0, 255]) (by simp), by omega, od5, fun w' h => h.cell 5⟩
    · exact ⟨_, _, _, _, _, bx8.cell 6, R.get (bs := [1, 1, 1, 0, 0, 0, 0, 255, 255, 255, 255]) (by simp), by omega, od6, fun w' h => h.cell 6⟩
    · exact ⟨_, _, _, _, _, bx8.cell 7, R.get (bs := [2, 1, 0, 0, 7]) (by simp), by omega, od7, fun w' h => h.cell 7⟩
    · exact ⟨_, _, _, _, _, bx8.cell 8, R.get (bs := [2, 1, 0, 0, 0, 7, 1]) (by simp), by omega, od8, fun w' h => h.cell 8⟩
    · exact ⟨_, _, _, _, _, bx8.cell 9, R.get (bs := [1, 1, 1, 0, 0, 0, 0, 255, 255, 255, 255, 0, cb]) (by simp), by omega, od9 cb, fun w' h => h.cell 9⟩
    · exact ⟨_, _, _, _, _, bx8.cell 10, R.get (bs := [1, 1, 1, 0, 0, 0, 0, 255, 255, 255, 255, 1]) (by simp), by omega, od10, fun w' h => h.cell 10⟩
  have ra := (R.get (A := A7) (n := 11) (c := c7) (bs := [1, 1, 1, 0, 0, 0, 0, 255, 255, 255, 255]) (by simp))
  clear R
  obtain ⟨k, hk, hk11⟩ : ∃ k : Nat, (n0 : Int) % 11 = k ∧ k < 11 := ⟨n0 % 11, by omega, by omega⟩
  obtain ⟨A, n, c, bs, er, q1, rb, hn, ht, q2⟩ := key k hk11
  clear key
  go_upto_region 7 with fail
  rw [hk]
  obtain ⟨fb, hfb⟩ : ∃ f, fput 1129468977 bs = f := ⟨_, rfl⟩
  have lfb : fb.length ≤ 100 := by rw [← hfb, fput_length, rb.len]; omega
  have Hfb : Hid (ftk fb = ⟨0, [], 0, [], 0, er⟩) := Lib.hid (by rw [← hfb, ftk_fput, ht])
  have Hq2 := Lib.hid q2
  clear ht q2
  go_upto_region 8 with (first
    | (go_at_call 15; refine (fput_any 1129468977 (by omega) 1129468977 rfl A n c w48 (by omega) bs rb).mono ?_; rw [hfb]; rintro e w51 ⟨A51, n51, c51, rfl, ow51, hb51⟩; have e51 := ow51.len)
    | (go_at_call 17; refine (cftake_is _ _ _ w51 (by omega) fb ow51.rd 0 [] 0 [] 0 er Hfb).mono ?_; rintro e w52 ⟨A52, n52, c52, T52, t52, u52, ps52, rfl, -, -, -, hb52⟩)
    | ((with_reducible refine on_alloc ?_); refine wl_newBox rfl _ rfl z_cert ?_; intro g53 w53 hg53 hl53 bg53 hb53)
    | ((with_reducible refine on_store_at (.tmp 11) ?_); refine wb_store (cs := Cv 0 none 0 0 0 none 0 0) (cs' := Cv 0 A52 n52 c52 0 T52 t52 u52) rfl _ (.tmp 11) _ rfl st_cert rfl rfl bg53 rfl rfl (by simp [Cv, Value.oneCell']) ?_; intro w54 bx54 hg54))
  have b54 : Below w48.heap.size w48 w54 := by
    have a := hb53.trans (below_of_grown (B := w52.heap.size) hg54 (fun j e => by injection e with e; omega) hb53.size)
    have b := hb52.trans (a.mono hb52.size)
    exact hb51.trans (b.mono hb51.size)
  have ra := (ra.step b54).heap
  have by54 := bx48.step b54
  have B54 := BB.trans (b54.mono BB.size)
  clear b54 hb53 hg54 hb52 hb51 hg53 hl53 bg53 ow51 e51 bx48 bx8 hfb Hfb lfb rb q1
  go_upto_region 9 with (first
    | ((with_reducible refine on_sliceLit ?_); refine wl_lit0 rfl _ rfl el_u8 bv (Nat.le_refl _) ?_; intro g60 w60 _ _ o60 hb60; have ra := ra.step hb60)
    | ((with_reducible refine on_append (.tmp 60) (.tmp 61) ?_); refine wl_appendS rfl (.tmp 60) (.tmp 61) _ rfl el_u8 (f := bv) (fun _ => rfl) rfl o60 rfl ra (by omega) (by omega) hb60.size ?_; intro A62 c62 w62 o62 _ hb62; have H := hb60.trans hb62)
    | ((with_reducible refine on_sliceLit ?_); refine wl_lit rfl _ 1 _ rfl el_u8 bv_cells [0] rfl (by omega) (by omega) (Nat.le_refl _) rfl ?_; intro g63 w63 _ _ o63 hb63; have o62 := o62.below hb63; have H := H.trans (hb63.mono H.size))
    | ((with_reducible refine on_append (.tmp 62) (.tmp 63) ?_); refine wl_appendS rfl (.tmp 62) (.tmp 63) _ rfl el_u8 (f := bv) (fun _ => rfl) rfl o62 rfl o63.rd (by omega) (by omega) H.size ?_; intro A64 c64 w64 o64 _ hb64; have H := H.trans hb64)
    | (go_at_call 15; refine (fput_any 1129468977 (by omega) 1129468977 rfl A64 _ c64 w64 (by omega) _ o64.rd).mono ?_; rintro e w65 ⟨A65, n65, c65, rfl, ow65, hb65⟩; have H := H.trans (hb65.mono H.size); have e65 := ow65.len)
    | (go_at_call 17; refine (cftake_is _ _ _ w65 (by rw [fput_length] at e65; simp at e65; omega) _ ow65.rd 1 [(0, 4294967295, [0])] 0 [] 1 0 (Lib.hid (by rw [ftk_fput]; exact od11))).mono ?_; rintro e w66 ⟨A66, n66, c66, T66, t66, u66, ps66, rfl, hp66, hk66, -, hb66⟩; have H := H.trans (hb66.mono H.size); have z66 := H.size)
    | ((with_reducible refine on_alloc ?_); refine wl_newBox rfl _ rfl z_cert ?_; intro g67 w67 hg67 hl67 bg67 hb67; have H := H.trans (hb67.mono H.size))
    | ((with_reducible refine on_store_at (.tmp 14) ?_); refine wb_store (cs := Cv 0 none 0 0 0 none 0 0) (cs' := Cv 1 A66 n66 c66 0 T66 t66 u66) rfl _ (.tmp 14) _ rfl st_cert rfl rfl bg67 rfl rfl (by simp [Cv, Value.oneCell']) ?_; intro w68 bx68 hg68))
  have hn66 : n66 = 1 := by
    have h1 := hp66.rd.len
    have h2 := congrArg List.length hk66
    simp at h2
    omega
  subst hn66
  have H68 := H.trans (below_of_grown (B := w54.heap.size) hg68 (fun j e => by injection e with e; omega) H.size)
  have y53 : w68.cell? ⟨g53, 0, none⟩ = some (.int .i64 0) := (bx54.step H68).cell 0
  have yk := Hq2.out w68 (by54.step H68)
  have y67 : w68.cell? ⟨g67, 0, none⟩ = some (.int .i64 1) := bx68.cell 0
  have y671 : w68.cell? ⟨g67, 1, none⟩ = some (.slice A66 1 c66) := bx68.cell 1
  have kk := B54.trans (H68.mono B54.size)
  clear H68 bx68 hg68 hb67 hb66 hb65 hb64 hb63 hb62 hb60 H by54 bx54 ow65 e65 o64 o63 o62 o60 ra hp66 hk66 bg67
  go_wp2
  go_ret
  exact ⟨rfl, kk⟩
theorem certfileOdd_walk {w : World} (x : Int) (hx : 0 ≤ x ∧ x ≤ 255) (y : Int) (hy : 0 ≤ y ∧ y ≤ 255) :
    Calls Try.prog 5 #[.int .u8 x, .int .u8 y] w fun e w' => e = .returned (.bool true) ∧ Below w.heap.size w w' := by
  obtain ⟨x, rfl⟩ := Int.eq_ofNat_of_zero_le hx.1
  obtain ⟨y, rfl⟩ := Int.eq_ofNat_of_zero_le hy.1
  have hy2 : (UInt8.ofNat y).toNat = y := by rw [UInt8.toNat_ofNat']; omega
  have := certfileOdd_core (w := w) x (by omega) (UInt8.ofNat y)
  rw [hy2] at this
  exact this
end Go.Proofs.Ytjambnlocjjjpaa
