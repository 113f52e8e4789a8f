/-
  theseuslaw18.CertfileBack: the walk.
-/
import Derived.Test.YtjambnlocjjjpaaCfBackLaw
namespace Go.Proofs.Ytjambnlocjjjpaa
open Go.RowKit Go.Th
set_option linter.unusedVariables false
set_option maxRecDepth 100000 in
set_option maxHeartbeats 4000000 in
theorem certfileBack_core {w : World} (v : Int) (Ap : Option Addr) (np cp : Nat) (d : Int) (At : Option Addr) (nt ct : Nat) (ps : List Pt) (tr : List Int) (ci : CertIn w v Ap np cp d At nt ct ps tr) (n0 n1 : Nat) (hn0 : n0 ≤ 65535) (hn1 : n1 ≤ 65535) (xb : UInt8) :
    Calls Try.prog 7 #[.agg #[.int .i64 v, .slice Ap np cp, .int .u32 d, .slice At nt ct], .agg #[.int .u16 n0, .int .u16 n1], .int .u8 xb.toNat] w fun e w' => e = .returned (.bool true) ∧ Below w.heap.size w w' := by
  have few1 := Lib.hid (made_any v Ap np cp d At nt ct ps tr w ci)
  clear ci
  go_enter Try.func7, Try.ntmps7
  go_upto_region 1 with fail
  have bx0 := (Box.new w (Cv v Ap np cp d At nt ct) 26).alloc (.cells #[.int .u16 n0, .int .u16 n1] 53)
  have bz0 := Box.new (w.alloc (.cells (Cv v Ap np cp d At nt ct) 26)) #[.int .u16 n0, .int .u16 n1] 53
  have k0 : Below w.heap.size w ((w.alloc (.cells (Cv v Ap np cp d At nt ct) 26)).alloc (.cells #[.int .u16 n0, .int .u16 n1] 53)) := (below_alloc w (Nat.le_refl _) _).alloc (by simp) _
  rw [heap_size_alloc] at bz0
  obtain ⟨w0, hw0⟩ : ∃ W, (w.alloc (.cells (Cv v Ap np cp d At nt ct) 26)).alloc (.cells #[.int .u16 n0, .int .u16 n1] 53) = W := ⟨_, rfl⟩
  have hg : (w.alloc (.cells #[.int .i64 v, .slice Ap np cp, .int .u32 d, .slice At nt ct] 26)).alloc (.cells #[.int .u16 n0, .int .u16 n1] 53) = w0 := hw0
  rw [hw0] at bx0 bz0 k0
  rw [hg]
  clear hg hw0
  go_upto_region 3 with (go_at_call 8; refine (shown18 _).mono ?_; rintro e w1 ⟨rfl, hb1⟩; have bx1 := bx0.step hb1; have bz1 := bz0.step hb1; have y0 : w1.cell? ⟨w.heap.size + 1, 0, none⟩ = some (.int .u16 n0) := bz1.cell 0; have y1 : w1.cell? ⟨w.heap.size + 1, 1, none⟩ = some (.int .u16 n1) := bz1.cell 1)
  have B1 := k0.trans (hb1.mono k0.size)
  obtain ⟨I, hI, hI2⟩ : ∃ I : Nat, 1 + (n0 : Int) % 64 = I ∧ (1 ≤ I ∧ I ≤ 64) := ⟨1 + n0 % 64, by omega, by omega⟩
  rw [hI]
  clear hI bx0 bz0 y0 y1 k0 hb1
  go_upto_region 4 with (first
    | ((with_reducible refine on_load (.tmp 3) ?_); refine wcv_box rfl (.tmp 3) rfl rfl bx1 ?_)
    | (go_at_call 10; refine (few1.out _ B1).mono ?_; rintro e w2 ⟨A2, N2, c2, M2, rfl, hb2, F2⟩)
    | (go_at_call 9; refine (F2 I (by omega)).mono ?_; rintro e w3 ⟨va, Aa, na, ca, da, Ta, ta, cta, psa, tra, rfl, hpa, hta, ina, maya, lena, npa, nta, sma, hb3⟩)
    | ((with_reducible refine on_alloc ?_); refine wl_newBox rfl _ rfl z_cert ?_; intro g8 w4 hg4 hl4 bg4 hb4)
    | ((with_reducible refine on_store_at (.tmp 9) ?_); refine wb_store (cs := Cv 0 none 0 0 0 none 0 0) (cs' := Cv va Aa na ca da Ta ta cta) rfl _ (.tmp 9) _ rfl st_cert rfl rfl bg4 rfl rfl (by simp [Cv, Value.oneCell']) ?_; intro w5 bx5 hg5))
  have bd5 := hb4.trans (below_of_grown (B := w3.heap.size) hg5 (fun j e => by injection e with e; omega) hb4.size)
  have M5 : MBox w5 g8 I va Aa na ca da Ta ta cta psa tra := ⟨bx5, (hpa.step bd5).heap, (hta.step bd5).heap, ina, maya, lena, npa, nta, sma⟩
  have b25 := hb2.trans ((hb3.trans (bd5.mono hb3.size)).mono hb2.size)
  have B5 := B1.trans (b25.mono B1.size)
  have bz5 := bz1.step b25
  clear bd5 b25 bx5 hpa hta ina maya lena npa nta sma hg5 hb4 bg4 hg4 hl4 hb3 F2 hb2 B1 bx1 bz1 few1
  obtain ⟨body, hbody⟩ : ∃ b, cbody va (psa.map pkey) da tra I = b := ⟨_, rfl⟩
  obtain ⟨fa, hfa⟩ : ∃ f, fput 1129468977 body = f := ⟨_, rfl⟩
  obtain ⟨L, hL⟩ : ∃ L, body.length = L := ⟨_, rfl⟩
  have hL2 : L ≤ 20000 := by rw [← hL, ← hbody]; exact M5.len
  have lfa : fa.length = L + 8 := by rw [← hfa, fput_length, hL]
  have hpt := ftk_put M5.inn (by rw [cmayK_of]; exact M5.may)
  have hmo := fun x => ftk_more M5.inn x
  have hct := fun q hq => @ftk_cut _ _ _ _ _ M5.inn (by rw [cmayK_of]; exact M5.may) q hq
  rw [hbody, hfa] at hpt
  rw [hbody] at hmo
  rw [hbody, hfa, hL] at hct
  have hpu := M5.put fa (by rw [hbody]; exact hfa)
  have hmid := fput_mid 1129468977 body
  rw [hfa, hL] at hmid
  obtain ⟨f, hf, hfE⟩ : ∃ f : Nat, (n1 : Int) % (8 * ((L : Int) + 8)) = (f : Int) ∧ f < 8 * (L + 8) := by
    obtain ⟨F, hF⟩ : ∃ F, 8 * (L + 8) = F := ⟨_, rfl⟩
    have hFi : 8 * ((L : Int) + 8) = (F : Int) := by omega
    exact ⟨n1 % F, by rw [hFi]; omega, by rw [hF]; exact Nat.mod_lt _ (by omega)⟩
  have hf0 : (8 * ((L : Int) + 8)) ≠ 0 := by omega
  obtain ⟨gf, hflip, hgf⟩ := ftk_flip body f (by rw [hL]; exact hfE)
  rw [hfa] at hflip
  have Hpt := Lib.hid hpt
  have Hmo := Lib.hid hmo
  have Hct := Lib.hid hct
  have Hpu := Lib.hid hpu
  have Hmid := Lib.hid hmid
  have Hflip := Lib.hid hflip
  have HL := Lib.hid hL
  have Lfa := Lib.hid lfa
  have Hbody := Lib.hid hbody
  clear hpt hmo hct hpu hmid hflip hL lfa hbody hfa
  go_upto_region 6 with (first
    | ((with_reducible refine on_load (.tmp 9) ?_); refine wcv_box rfl (.tmp 9) rfl rfl M5.box ?_)
    | (go_at_call 11; (with_reducible refine (Hpu.out).mono ?_); rintro e w6 ⟨P1, p1, q1, rfl, o1, hb6⟩; have e1 : p1 = L + 8 := o1.len.symm.trans Lfa.out; subst e1)
    | (go_at_call 17; refine (cftake_is P1 _ q1 _ (by omega) fa o1.rd va (psa.map pkey) da tra I 0 Hpt).mono ?_; rintro e w7 ⟨Ay, ny, cy, Ty, ty, cty, psy, rfl, hpy, hky, hty, hb7⟩)
    | ((with_reducible refine on_alloc ?_); refine wl_newBox rfl _ rfl z_cert ?_; intro g9 w8 hg8 hl8 bg8 hb8)
    | ((with_reducible refine on_store_at (.tmp 12) ?_); refine wb_store (cs := Cv 0 none 0 0 0 none 0 0) (cs' := Cv va Ay ny cy da Ty ty cty) rfl _ (.tmp 12) _ rfl st_cert rfl rfl bg8 rfl rfl (by simp [Cv, Value.oneCell']) ?_; intro w9 bx9 hg9))
  have bd9 := hb8.trans (below_of_grown (B := w7.heap.size) hg9 (fun j e => by injection e with e; omega) hb8.size)
  have o9 := (o1.below hb7).below bd9
  have py9 := (hpy.step bd9).heap
  have ty9 := (hty.step bd9).heap
  have k59 := hb6.trans ((hb7.trans (bd9.mono hb7.size)).mono hb6.size)
  have M9 := M5.step k59
  have B9 := B5.trans (k59.mono B5.size)
  have bz9 := bz5.step k59
  have hny : ny ≤ 31 := by
    have h1 := py9.rd.len
    have h2 := M9.parts.rd.len
    have h3 := congrArg List.length hky
    have := M9.npb
    simp at h3
    omega
  have hty2 : ty ≤ 64 := by
    have h1 := ty9.len
    have h2 := M9.trd.len
    have := M9.ntb
    omega
  have hsy : ∀ p ∈ psy, p.n ≤ 9223372036854775807 := fun p hp => by
    have h1 : pkey p ∈ psa.map pkey := by rw [← hky]; exact List.mem_map.2 ⟨p, hp, rfl⟩
    obtain ⟨p', hp', e'⟩ := List.mem_map.1 h1
    have h2 : p'.rk = p.rk := congrArg (fun k : PK => k.2.2) e'
    have h3 := (py9.rk p hp).len
    have h4 := (M9.parts.rk p' hp').len
    have h5 := M9.sm p' hp'
    rw [h2] at h4
    omega
  have Ksame := Lib.hid (csame_any va Ay ny cy da Ty ty cty va Aa na ca da Ta ta cta w9 (by omega) (by omega) psy tra _ py9 ty9 hsy (by have := M9.npb; omega) (by have := M9.ntb; omega) psa tra _ M9.parts M9.trd (fun p hp => by have := M9.sm p hp; omega) true (Lib.hid (csame_yes rfl rfl rfl hky)))
  have hd8 : decide ((L : Int) + 8 < 8) = false := decide_eq_false (by omega)
  clear hsy hny hty2 hky M5 B5 bz5 hb6 o1 hpy hty hb7 hb8 hl8 hg8 bg8 hg9 bd9 k59 Hpu py9 ty9
  go_upto_region 8 with (first
    | ((with_reducible refine on_load (.tmp 9) ?_); first | (refine wcv_box rfl (.tmp 9) rfl rfl M9.box ?_) | (refine wcv_box rfl (.tmp 9) rfl rfl M10.box ?_))
    | ((with_reducible refine on_load (.tmp 12) ?_); refine wcv_box rfl (.tmp 12) rfl rfl bx9 ?_)
    | (go_at_call 19; refine (Ksame.out).mono ?_; rintro e w10 ⟨rfl, hb10⟩; have M10 := M9.step hb10)
    | (go_at_call 21; refine (M10.size L (by rw [Hbody.out]; exact HL.out)).mono ?_; rintro e w11 ⟨rfl, hb11⟩))
  have b11 := hb10.trans (hb11.mono hb10.size)
  have o11 := o9.below b11
  have B11 := B9.trans (b11.mono B9.size)
  have bz11 := bz9.step b11
  have q61 : w11.cell? ⟨w.heap.size + 1, 1, none⟩ = some (.int .u16 n1) := bz11.cell 1
  clear b11 hb11 hb10 M9 M10 o9 B9 bz9 bx9 Ksame
  go_upto_region 9 with fail
  rw [hf]
  go_upto_region 10 with ((with_reducible refine on_append (.tmp 89) (.tmp 90) ?_); refine wl_appendS rfl (.tmp 89) (.tmp 90) _ rfl el_u8 (f := bv) (fun _ => rfl) rfl (OwS.lit (base := w11.heap.size) (e := 5) (xs := []) w11 #[] 0 (Nat.le_refl _) (by simp [maxLen]) rfl rfl) rfl (o11.rd.alloc _) (by omega) (by omega) (by simp) ?_; intro A12 c12 w12 how12 _ hb12; rw [Nat.zero_add, List.nil_append] at how12; have H12 : Below w11.heap.size w11 w12 := (below_alloc w11 (Nat.le_refl _) _).trans hb12; obtain ⟨g12, rfl, hg12⟩ := how12.at0 (by omega))
  have r11 := o11.rd
  have z11 := B11.size
  clear q61 bz11 hb12 o11
  obtain ⟨q, hq⟩ : ∃ q, f / 8 = q := ⟨_, rfl⟩
  obtain ⟨r, hr⟩ : ∃ r, f % 8 = r := ⟨_, rfl⟩
  have hw2 : IntKind.i64.wrap ((f : Int).tdiv 8) = (q : Int) := by
    rw [Int.tdiv_eq_ediv_of_nonneg (by omega), show (f : Int) / 8 = (q : Int) by omega]; simp (disch := omega) only [IntWalk.i64_in]
  have hw2b : IntKind.i64.wrap ((f : Int) / 8) = (q : Int) := by
    rw [show (f : Int) / 8 = (q : Int) by omega]; simp (disch := omega) only [IntWalk.i64_in]
  have hw3 : (f : Int).tmod 8 = (r : Int) := by rw [Int.tmod_eq_emod_of_nonneg (by omega)]; omega
  have hw3b : (f : Int) % 8 = (r : Int) := by omega
  have hq8 : (q : Int) < (L : Int) + 8 := by omega
  have hr8 : r < 8 := by omega
  obtain ⟨x, hx⟩ : ∃ x, fa[q]? = some x := ⟨fa[q]'(by have := Lfa.out; omega), List.getElem?_eq_getElem _⟩
  have hfl : Go.Th.flip fa f = fa.set q (x ^^^ UInt8.ofNat (2 ^ r)) := by
    unfold Go.Th.flip
    rw [hq, hr, List.getD_eq_getElem?_getD, hx]
    rfl
  obtain ⟨d, hd⟩ : ∃ d, UInt8.ofNat (2 ^ r) = d := ⟨_, rfl⟩
  obtain ⟨v, hv⟩ : ∃ v, x ^^^ d = v := ⟨_, rfl⟩
  have hx8 := x.toNat_lt
  have hd8' := d.toNat_lt
  have hxo : bits .xor .u8 (x.toNat : Int) (d.toNat : Int) = (v.toNat : Int) := by
    rw [← hv, UInt8.toNat_xor]; exact u8_xor_nat x.toNat d.toNat (by omega) (by omega)
  have hw4 : IntKind.u8.wrap (2 ^ r) = (d.toNat : Int) := by
    rw [← hd]
    have : r = 0 ∨ r = 1 ∨ r = 2 ∨ r = 3 ∨ r = 4 ∨ r = 5 ∨ r = 6 ∨ r = 7 := by omega
    rcases this with h | h | h | h | h | h | h | h <;> (rw [h]; rfl)
  rw [hd, hv] at hfl
  have hfs := Hflip.out
  rw [hfl] at hfs
  have Hfs := Lib.hid hfs
  have hcell : w12.cell? ⟨g12, q, none⟩ = some (.int .u8 (x.toNat : Int)) := OwS_cell how12 hx
  have hq9 : q < L + 8 := by omega
  have Hq := Lib.hid hq
  clear hd hv hfl hq hr hx Hflip hfs
  refine wp_region_still_tail 13 (by kernel_rfl) (by kernel_rfl) ?_
  simp only [List.take_succ_cons, List.take_zero, List.drop_succ_cons, List.drop_zero]
  repeat (first | ((with_reducible refine ons_ix (.tmp 95) ?_); refine ws_placeS rfl _ (.tmp 95) _ rfl el_u8 rfl rfl q (by omega) ?_) | ((with_reducible refine ons_ix (.tmp 92) ?_); refine ws_placeS rfl _ (.tmp 92) _ rfl el_u8 rfl rfl q (by omega) ?_) | still_step)
  refine wpStill_nil ?_
  change wpList _ _ _ _ _ w12.drew
  have how13 := how12.drewN 1
  have H13 := H12.drew
  clear H12 how12 hcell
  go_wp2_with ((with_reducible refine on_stx (.tmp 104) ?_); refine wl_setS rfl _ (.tmp 104) _ rfl size_u8 (f := bv) (g := g12) (j := q) rfl rfl v rfl how13 (by omega) ?_; intro w14 how14 hg14 hb14)
  have H14 : Below w11.heap.size w11 w14 := H13.trans hb14
  have zh14 := H14.size
  clear H13 hg14 hb14 how13 hxo hw4 hx8 hd8'
  go_upto_region 12 with (first
    | (go_at_call 17; refine (cftake_is _ _ _ w14 (by omega) (fa.set q v) how14.rd 0 [] 0 [] 0 gf Hfs).mono ?_; rintro e w15 ⟨A15, n15, c15, T15, t15, u15, ps15, rfl, -, -, -, hb15⟩)
    | ((with_reducible refine on_alloc ?_); refine wl_newBox rfl _ rfl z_cert ?_; intro g16 w16 hg16 hl16 bg16 hb16)
    | ((with_reducible refine on_store_at (.tmp 17) ?_); refine wb_store (cs := Cv 0 none 0 0 0 none 0 0) (cs' := Cv 0 A15 n15 c15 0 T15 t15 u15) rfl _ (.tmp 17) _ rfl st_cert rfl rfl bg16 rfl rfl (by simp [Cv, Value.oneCell']) ?_; intro w17 bx17 hg17))
  have H17 : Below w11.heap.size w11 w17 := by
    have a := hb16.trans (below_of_grown (B := w15.heap.size) hg17 (fun j e => by injection e with e; omega) hb16.size)
    have b := hb15.trans (a.mono hb15.size)
    exact H14.trans (b.mono zh14)
  have z17 := H17.size
  have r17 := r11.below H17
  clear hb15 hb16 hg16 hl16 bg16 bx17 hg17 how14 H14 zh14 Hfs
  go_upto_region 13 with (first
    | ((with_reducible refine on_slice (.tmp 113) ?_); refine wl_cut_lh rfl _ _ el_u8 rfl (r17.alloc _) _ _ rfl rfl rfl 4 (L + 4) (by omega) ?_; intro A18 r18; rw [Hmid.out] at r18)
    | ((with_reducible refine on_append (.tmp 112) (.tmp 117) ?_); refine wl_appendS rfl (.tmp 112) (.tmp 117) _ rfl el_u8 (f := bv) (fun _ => rfl) rfl (OwS.lit (base := w17.heap.size) (e := 5) (xs := []) w17 #[] 0 (Nat.le_refl _) (by simp [maxLen]) rfl rfl) rfl r18 (by omega) (by omega) (by simp) ?_; intro A19 c19 w19 ow19 _ hb19; rw [show 0 + (L + 4 - 4) = L by omega, List.nil_append] at ow19; have H19 : Below w17.heap.size w17 w19 := (below_alloc w17 (Nat.le_refl _) _).trans hb19)
    | ((with_reducible refine on_append (.tmp 118) (.tmp 120) ?_); refine wl_appendS rfl (.tmp 118) (.tmp 120) _ rfl el_u8 (f := bv) (fun _ => rfl) rfl (ow19.alloc _) rfl (OwS.lit (base := w19.heap.size) (e := 5) (xs := [xb]) w19 #[.int .u8 xb.toNat] 1 (Nat.le_refl _) (by simp [maxLen]) rfl rfl).rd (by omega) (by omega) (by have := H19.size; simp; omega) ?_; intro A20 c20 w20 ow20 _ hb20; have H20 : Below w17.heap.size w17 w20 := (H19.alloc H19.size _).trans hb20)
    | (go_at_call 15; refine (fput_any 1129468977 (by omega) 1129468977 rfl _ _ _ w20 (by omega) _ ow20.rd).mono ?_; rintro e w21 ⟨A21, n21, c21, rfl, ow21, hb21⟩; have e21 := ow21.len)
    | (go_at_call 17; refine (cftake_is _ _ _ w21 (by rw [fput_length, List.length_append, HL.out] at e21; simp at e21; omega) _ ow21.rd 0 [] 0 [] 0 4 (Lib.hid (Hmo.out xb))).mono ?_; rintro e w22 ⟨A22, n22, c22, T22, t22, u22, ps22, rfl, -, -, -, hb22⟩)
    | ((with_reducible refine on_alloc ?_); refine wl_newBox rfl _ rfl z_cert ?_; intro g23 w23 hg23 hl23 bg23 hb23)
    | ((with_reducible refine on_store_at (.tmp 20) ?_); refine wb_store (cs := Cv 0 none 0 0 0 none 0 0) (cs' := Cv 0 A22 n22 c22 0 T22 t22 u22) rfl _ (.tmp 20) _ rfl st_cert rfl rfl bg23 rfl rfl (by simp [Cv, Value.oneCell']) ?_; intro w24 bx24 hg24))
  have H24 : Below w11.heap.size w11 w24 := by
    have a := hb23.trans (below_of_grown (B := w22.heap.size) hg24 (fun j e => by injection e with e; omega) hb23.size)
    have b := hb22.trans (a.mono hb22.size)
    have c := hb21.trans (b.mono hb21.size)
    have d := H20.trans (c.mono H20.size)
    exact H17.trans (d.mono z17)
  have z24 := H24.size
  have r24 := r11.below H24
  obtain ⟨t, ht⟩ : ∃ t, ftk (fa.take q) = t := ⟨_, rfl⟩
  have hte := Hct.out q hq9
  rw [ht] at hte
  obtain ⟨v9, ks9, d9, tr9, N9, er9⟩ := t
  have he9 : (er9 != 0) = true := by simpa using hte
  have hdv : (f : Int) / 8 = (q : Int) := by have := Hq.out; omega
  have Ht := Lib.hid ht
  clear hb21 hb22 hb23 hg23 hl23 bg23 bx24 hg24 H20 hb20 H19 hb19 e21 ow21 ow20 ow19 H17 z17 r17 r18 ht hte
  go_upto_region 14 with (first
    | ((with_reducible refine on_slice (.tmp 128) ?_); refine wl_cut_h rfl _ _ el_u8 rfl r24 _ rfl rfl q (by omega) ?_; intro A25 r25)
    | (go_at_call 17; refine (cftake_is A25 q _ w24 (by omega) (fa.take q) (r25.more z24) v9 ks9 d9 tr9 N9 er9 Ht).mono ?_; rintro e w26 ⟨A26, n26, c26, T26, t26, u26, ps26, rfl, -, -, -, hb26⟩)
    | ((with_reducible refine on_alloc ?_); refine wl_newBox rfl _ rfl z_cert ?_; intro g27 w27 hg27 hl27 bg27 hb27)
    | ((with_reducible refine on_store_at (.tmp 23) ?_); refine wb_store (cs := Cv 0 none 0 0 0 none 0 0) (cs' := Cv v9 A26 n26 c26 d9 T26 t26 u26) rfl _ (.tmp 23) _ rfl st_cert rfl rfl bg27 rfl rfl (by simp [Cv, Value.oneCell']) ?_; intro w28 bx28 hg28))
  have H28 : Below w11.heap.size w11 w28 := by
    have a := hb27.trans (below_of_grown (B := w26.heap.size) hg28 (fun j e => by injection e with e; omega) hb27.size)
    have b := hb26.trans (a.mono hb26.size)
    exact H24.trans (b.mono z24)
  rcases hgf with rfl | rfl
  all_goals
    go_wp2
    go_ret
    exact ⟨rfl, B11.trans (H28.mono z11)⟩
theorem certfileBack_walk {w : World} (v : Int) (Ap : Option Addr) (np cp : Nat) (d : Int) (At : Option Addr) (nt ct : Nat) (ps : List Pt) (tr : List Int) (ci : CertIn w v Ap np cp d At nt ct ps tr) (zs : List Int) (hl : zs.length = 2) (hz : ∀ z ∈ zs, 0 ≤ z ∧ z ≤ 65535) (x : Int) (hx : 0 ≤ x ∧ x ≤ 255) :
    Calls Try.prog 7 #[.agg #[.int .i64 v, .slice Ap np cp, .int .u32 d, .slice At nt ct], .agg (zs.map (Value.int .u16)).toArray, .int .u8 x] w fun e w' => e = .returned (.bool true) ∧ Below w.heap.size w w' := by
  match zs, hl with
  | [k0, kb], _ =>
    have h0 := hz k0 (by simp)
    have h1 := hz kb (by simp)
    obtain ⟨k, rfl⟩ := Int.eq_ofNat_of_zero_le h0.1
    obtain ⟨j, rfl⟩ := Int.eq_ofNat_of_zero_le h1.1
    obtain ⟨y, rfl⟩ := Int.eq_ofNat_of_zero_le hx.1
    have hy : (UInt8.ofNat y).toNat = y := by rw [UInt8.toNat_ofNat']; omega
    have := certfileBack_core v Ap np cp d At nt ct ps tr ci k j (by omega) (by omega) (UInt8.ofNat y)
    rw [hy] at this
    exact this
end Go.Proofs.Ytjambnlocjjjpaa
