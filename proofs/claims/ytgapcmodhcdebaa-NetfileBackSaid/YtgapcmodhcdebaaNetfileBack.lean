/-
  theseuslaw10.NetfileBack: the walk.
-/
import Derived.Test.YtgapcmodhcdebaaNfMade
import Derived.Deep.DeepCutAuto
namespace Go.Proofs.Ytgapcmodhcdebaa
open Go.RowKit Go.Th
set_option linter.unusedVariables false
set_option maxRecDepth 100000 in
set_option maxHeartbeats 4000000 in
theorem netfileBack_core {w : World} (A : Option Addr) (n c : Nat) (ns : List Nd) (ni : NetIn w A n c ns) (n1 : Nat) (hn1 : n1 ≤ 65535) (xb : UInt8) :
    Calls Try.prog 4 #[.agg #[.slice A n c], .int .u16 n1, .int .u8 xb.toNat] w fun e w' => e = .returned (.bool true) ∧ Below w.heap.size w w' := by
  have K1 := Lib.hid (made_any A n c ns w ni)
  clear ni
  have k0 := below_alloc w (Nat.le_refl _) (.cells #[.slice A n c] 24)
  have b0 := Box.new w #[.slice A n c] 24
  go_enter Try.func4, Try.ntmps4
  go_upto_region 2 with (go_at_call 10; refine (shown10 _).mono ?_; rintro e w1 ⟨rfl, hb1⟩; have bx1 := b0.step hb1)
  have B1 := k0.trans (hb1.mono k0.size)
  clear k0 b0 hb1
  go_upto_region 3 with (first
    | ((with_reducible refine on_load (.tmp 3) ?_); refine wb_load rfl _ (.tmp 3) rfl st_net rfl bx1 rfl ?_)
    | (go_at_call 19; refine (K1.out _ B1).mono ?_; rintro e w2 ⟨Aa, na, ca, nsa, rfl, hra, oka, sma, nba, hb2⟩)
    | ((with_reducible refine on_alloc ?_); refine wl_newBox rfl _ rfl z_net ?_; intro ga w3 hg3 hl3 bg3 hb3)
    | ((with_reducible refine on_store_at (.tmp 8) ?_); refine wb_store (cs := #[.slice none 0 0]) (cs' := #[.slice Aa na ca]) rfl _ (.tmp 8) _ rfl st_net rfl rfl bg3 rfl rfl (by simp [Value.oneCell']) ?_; intro w4 bx4 hg4))
  have bd4 := hb3.trans (below_of_grown (B := w2.heap.size) hg4 (fun j e => by injection e with e; omega) hb3.size)
  have M5 : NBox w4 ga Aa na ca nsa := ⟨bx4, (hra.step bd4).heap, oka, sma, nba⟩
  have b14 := hb2.trans (bd4.mono hb2.size)
  have B5 := B1.trans (b14.mono B1.size)
  clear bd4 b14 bx4 hra oka sma nba hg4 hb3 bg3 hg3 hl3 hb2 B1 bx1 K1
  obtain ⟨body, hbody⟩ : ∃ b, nbody (Nd.ls nsa) = b := ⟨_, rfl⟩
  obtain ⟨fa, hfa⟩ : ∃ f, fput 1179206193 body = f := ⟨_, rfl⟩
  obtain ⟨L, hL⟩ : ∃ L, body.length = L := ⟨_, rfl⟩
  have hL2 : L ≤ 20000 := by rw [← hL, ← hbody]; have := M5.len; omega
  have lfa : fa.length = L + 8 := by rw [← hfa, fput_length, hL]
  have hpt : ntk fa = (Nd.ls nsa, 0) := by rw [← hfa, ← hbody, ntk_fput, inT_put M5.ok]
  have hmo : ∀ x, ntk (fput 1179206193 (body ++ [x])) = ([], 4) := fun x => by rw [ntk_fput, ← hbody]; exact inT_more M5.ok (by simp)
  have hct := fun q hq => @ntk_cut _ M5.ok q hq
  rw [hbody, hfa, hL] at hct
  have hpu := M5.put fa (by rw [hbody]; exact hfa)
  have hmid := fput_mid 1179206193 body
  rw [hfa, hL] at hmid
  obtain ⟨f, hf, hfE⟩ : ∃ f : Nat, (n1 : Int) % (8 * ((L : Int) + 8)) = (f : Int) ∧ f < 8 * (L + 8) := by
    obtain ⟨F, hF⟩ : ∃ F, 8 * (L + 8) = F := ⟨_, rfl⟩
    have hFi : 8 * ((L : Int) + 8) = (F : Int) := by omega
    exact ⟨n1 % F, by rw [hFi]; omega, by rw [hF]; exact Nat.mod_lt _ (by omega)⟩
  have hf0 : (8 * ((L : Int) + 8)) ≠ 0 := by omega
  obtain ⟨gf, hflip, hgf⟩ := ntk_flip body f (by rw [hL]; exact hfE)
  rw [hfa] at hflip
  have Hpt := Lib.hid hpt
  have Hmo := Lib.hid hmo
  have Hct := Lib.hid hct
  have Hpu := Lib.hid hpu
  have Hmid := Lib.hid hmid
  have Hflip := Lib.hid hflip
  have HL := Lib.hid hL
  have Lfa := Lib.hid lfa
  clear hpt hmo hct hpu hmid hflip hL lfa hbody hfa
  go_upto_region 5 with (first
    | ((with_reducible refine on_load (.tmp 8) ?_); refine wb_load rfl _ (.tmp 8) rfl st_net rfl M5.box rfl ?_)
    | (go_at_call 11; (with_reducible refine (Hpu.out).mono ?_); rintro e w6 ⟨P1, p1, q1, rfl, o1, hb6⟩; have e1 : p1 = L + 8 := o1.len.symm.trans Lfa.out; subst e1)
    | (go_at_call 15; refine (nettake_is P1 _ q1 _ (by omega) fa o1.rd (Nd.ls nsa) 0 Hpt).mono ?_; rintro e w7 ⟨Ay, ny, cy, nsy, rfl, hpy, hky, hb7⟩)
    | ((with_reducible refine on_alloc ?_); refine wl_newBox rfl _ rfl z_net ?_; intro g9 w8 hg8 hl8 bg8 hb8)
    | ((with_reducible refine on_store_at (.tmp 11) ?_); refine wb_store (cs := #[.slice none 0 0]) (cs' := #[.slice Ay ny cy]) rfl _ (.tmp 11) _ rfl st_net rfl rfl bg8 rfl rfl (by simp [Value.oneCell']) ?_; intro w9 bx9 hg9))
  have bd9 := hb8.trans (below_of_grown (B := w7.heap.size) hg9 (fun j e => by injection e with e; omega) hb8.size)
  have o9 := (o1.below hb7).below bd9
  have py9 := (hpy.step bd9).heap
  have k59 := hb6.trans ((hb7.trans (bd9.mono hb7.size)).mono hb6.size)
  have M9 := M5.step k59
  have B9 := B5.trans (k59.mono B5.size)
  have hny : ny ≤ 8 := by
    have h1 := py9.len
    have h2 := M9.rd.len
    have h3 := congrArg List.length hky
    have := M9.nb
    rw [Nd.ls_len, Nd.ls_len] at h3
    omega
  have hsy : ∀ x ∈ nsy, x.n ≤ 1000000 := fun x hx => by
    have h1 : x.l ∈ Nd.ls nsa := by rw [← hky]; exact List.mem_map.2 ⟨x, hx, rfl⟩
    obtain ⟨y, hy, e'⟩ := List.mem_map.1 h1
    have h3 := (py9.rk x hx).len
    have h4 := (M9.rd.rk y hy).len
    have h5 := M9.small y hy
    rw [e'] at h4
    omega
  have Ksame := Lib.hid (rsame9_any Ay ny cy nsy Aa na ca nsa w9 (by omega) (by have := M9.nb; omega) _ _ py9 M9.rd hsy (fun x hx => by have := M9.small x hx; omega) true (Lib.hid (decide_eq_true hky)))
  have hd8 : decide ((L : Int) + 8 < 8) = false := decide_eq_false (by omega)
  clear hsy hny hky M5 B5 hb6 o1 hpy hb7 hb8 hl8 hg8 bg8 hg9 bd9 k59 Hpu py9
  go_upto_region 7 with (first
    | ((with_reducible refine on_load (.tmp 8) ?_); refine wb_load rfl _ (.tmp 8) rfl st_net rfl M9.box rfl ?_)
    | ((with_reducible refine on_load (.tmp 11) ?_); refine wb_load rfl _ (.tmp 11) rfl st_net rfl bx9 rfl ?_)
    | (go_at_call 17; refine (Ksame.out).mono ?_; rintro e w11 ⟨rfl, b11⟩))
  have o11 := o9.below b11
  have B11 := B9.trans (b11.mono B9.size)
  clear b11 M9 o9 B9 bx9 Ksame
  go_upto_region 8 with fail
  rw [hf]
  go_upto_region 9 with ((with_reducible refine on_append (.tmp 61) (.tmp 62) ?_); refine wl_appendS rfl (.tmp 61) (.tmp 62) _ rfl el_u8 (f := bv) (fun _ => rfl) rfl (OwS.lit (base := w11.heap.size) (e := 5) (xs := []) w11 #[] 0 (Nat.le_refl _) (by simp [maxLen]) rfl rfl) rfl (o11.rd.alloc _) (by omega) (by omega) (by simp) ?_; intro A12 c12 w12 how12 _ hb12; rw [Nat.zero_add, List.nil_append] at how12; have H12 : Below w11.heap.size w11 w12 := (below_alloc w11 (Nat.le_refl _) _).trans hb12; obtain ⟨g12, rfl, hg12⟩ := how12.at0 (by omega))
  have r11 := o11.rd
  have z11 := B11.size
  clear hb12 o11
  obtain ⟨q, hq⟩ : ∃ q, f / 8 = q := ⟨_, rfl⟩
  obtain ⟨r, hr⟩ : ∃ r, f % 8 = r := ⟨_, rfl⟩
  have hw2 : IntKind.i64.wrap ((f : Int).tdiv 8) = (q : Int) := by
    rw [Int.tdiv_eq_ediv_of_nonneg (by omega), show (f : Int) / 8 = (q : Int) by omega]; simp (disch := omega) only [IntWalk.i64_in]
  have hw2b : IntKind.i64.wrap ((f : Int) / 8) = (q : Int) := by
    rw [show (f : Int) / 8 = (q : Int) by omega]; simp (disch := omega) only [IntWalk.i64_in]
  have hw3 : (f : Int).tmod 8 = (r : Int) := by rw [Int.tmod_eq_emod_of_nonneg (by omega)]; omega
  have hw3b : (f : Int) % 8 = (r : Int) := by omega
  have hq8 : (q : Int) < (L : Int) + 8 := by omega
  have hr8 : r < 8 := by omega
  obtain ⟨x, hx⟩ : ∃ x, fa[q]? = some x := ⟨fa[q]'(by have := Lfa.out; omega), List.getElem?_eq_getElem _⟩
  have hfl : Go.Th.flip fa f = fa.set q (x ^^^ UInt8.ofNat (2 ^ r)) := by
    unfold Go.Th.flip
    rw [hq, hr, List.getD_eq_getElem?_getD, hx]
    rfl
  obtain ⟨d, hd⟩ : ∃ d, UInt8.ofNat (2 ^ r) = d := ⟨_, rfl⟩
  obtain ⟨v, hv⟩ : ∃ v, x ^^^ d = v := ⟨_, rfl⟩
  have hx8 := x.toNat_lt
  have hd8' := d.toNat_lt
  have hxo : bits .xor .u8 (x.toNat : Int) (d.toNat : Int) = (v.toNat : Int) := by
    rw [← hv, UInt8.toNat_xor]; exact u8_xor_nat x.toNat d.toNat (by omega) (by omega)
  have hw4 : IntKind.u8.wrap (2 ^ r) = (d.toNat : Int) := by
    rw [← hd]
    have : r = 0 ∨ r = 1 ∨ r = 2 ∨ r = 3 ∨ r = 4 ∨ r = 5 ∨ r = 6 ∨ r = 7 := by omega
    rcases this with h | h | h | h | h | h | h | h <;> (rw [h]; rfl)
  rw [hd, hv] at hfl
  have hfs := Hflip.out
  rw [hfl] at hfs
  have Hfs := Lib.hid hfs
  have hcell : w12.cell? ⟨g12, q, none⟩ = some (.int .u8 (x.toNat : Int)) := OwS_cell how12 hx
  have hq9 : q < L + 8 := by omega
  have Hq := Lib.hid hq
  clear hd hv hfl hq hr hx Hflip hfs
  refine wp_region_still_tail 13 (by kernel_rfl) (by kernel_rfl) ?_
  simp only [List.take_succ_cons, List.take_zero, List.drop_succ_cons, List.drop_zero]
  repeat (first | ((with_reducible refine ons_ix (.tmp 67) ?_); refine ws_placeS rfl _ (.tmp 67) _ rfl el_u8 rfl rfl q (by omega) ?_) | ((with_reducible refine ons_ix (.tmp 64) ?_); refine ws_placeS rfl _ (.tmp 64) _ rfl el_u8 rfl rfl q (by omega) ?_) | still_step)
  refine wpStill_nil ?_
  change wpList _ _ _ _ _ w12.drew
  have how13 := how12.drewN 1
  have H13 := H12.drew
  clear H12 how12 hcell
  go_wp2_with ((with_reducible refine on_stx (.tmp 76) ?_); refine wl_setS rfl _ (.tmp 76) _ rfl size_u8 (f := bv) (g := g12) (j := q) rfl rfl v rfl how13 (by omega) ?_; intro w14 how14 hg14 hb14)
  have H14 : Below w11.heap.size w11 w14 := H13.trans hb14
  have zh14 := H14.size
  clear H13 hg14 hb14 how13 hxo hw4 hx8 hd8'
  go_upto_region 11 with (first
    | (go_at_call 15; refine (nettake_is _ _ _ w14 (by omega) (fa.set q v) how14.rd [] gf Hfs).mono ?_; rintro e w15 ⟨A15, n15, c15, ns15, rfl, -, -, hb15⟩)
    | ((with_reducible refine on_alloc ?_); refine wl_newBox rfl _ rfl z_net ?_; intro g16 w16 hg16 hl16 bg16 hb16)
    | ((with_reducible refine on_store_at (.tmp 15) ?_); refine wb_store (cs := #[.slice none 0 0]) (cs' := #[.slice A15 n15 c15]) rfl _ (.tmp 15) _ rfl st_net rfl rfl bg16 rfl rfl (by simp [Value.oneCell']) ?_; intro w17 bx17 hg17))
  have H17 : Below w11.heap.size w11 w17 := by
    have a := hb16.trans (below_of_grown (B := w15.heap.size) hg17 (fun j e => by injection e with e; omega) hb16.size)
    have b := hb15.trans (a.mono hb15.size)
    exact H14.trans (b.mono zh14)
  have z17 := H17.size
  have r17 := r11.below H17
  clear hb15 hb16 hg16 hl16 bg16 bx17 hg17 how14 H14 zh14 Hfs
  obtain ⟨gc, hgc, hgc0⟩ := Hct.out q hq9
  have Hgc := Lib.hid hgc
  have he9 : (gc != 0) = true := by simpa using hgc0
  have hdv : (f : Int) / 8 = (q : Int) := by have := Hq.out; omega
  clear hgc hgc0
  go_upto_region 12 with (first
    | ((with_reducible refine on_slice (.tmp 83) ?_); refine wl_cut_h rfl _ _ el_u8 rfl r17 _ rfl rfl q (by omega) ?_; intro A25 r25)
    | (go_at_call 15; refine (nettake_is A25 q _ w17 (by omega) (fa.take q) (r25.more z17) [] gc Hgc).mono ?_; rintro e w22 ⟨A22, n22, c22, ns22, rfl, hp22, hk22, hb22⟩)
    | ((with_reducible refine on_alloc ?_); refine wl_newBox rfl _ rfl z_net ?_; intro g23 w23 hg23 hl23 bg23 hb23)
    | ((with_reducible refine on_store_at (.tmp 17) ?_); refine wb_store (cs := #[.slice none 0 0]) (cs' := #[.slice A22 n22 c22]) rfl _ (.tmp 17) _ rfl st_net rfl rfl bg23 rfl rfl (by simp [Value.oneCell']) ?_; intro w24 bx24 hg24))
  have hn22 : n22 = 0 := by have h2 := congrArg List.length hk22; rw [Nd.ls_len, hp22.len] at h2; simpa using h2
  subst hn22
  have H24 : Below w11.heap.size w11 w24 := by
    have a := hb23.trans (below_of_grown (B := w22.heap.size) hg24 (fun j e => by injection e with e; omega) hb23.size)
    have b := hb22.trans (a.mono hb22.size)
    exact H17.trans (b.mono z17)
  have z24 := H24.size
  have r24 := r11.below H24
  clear hb22 hb23 hg23 hl23 bg23 hg24 H17 z17 r17 r25 hp22 hk22
  go_upto_region 13 with (first
    | ((with_reducible refine on_slice (.tmp 92) ?_); refine wl_cut_lh rfl _ _ el_u8 rfl (r24.alloc _) _ _ rfl rfl rfl 4 (L + 4) (by omega) ?_; intro A18 r18; rw [Hmid.out] at r18)
    | ((with_reducible refine on_append (.tmp 91) (.tmp 96) ?_); refine wl_appendS rfl (.tmp 91) (.tmp 96) _ rfl el_u8 (f := bv) (fun _ => rfl) rfl (OwS.lit (base := w24.heap.size) (e := 5) (xs := []) w24 #[] 0 (Nat.le_refl _) (by simp [maxLen]) rfl rfl) rfl r18 (by omega) (by omega) (by simp) ?_; intro A19 c19 w19 ow19 _ hb19; rw [show 0 + (L + 4 - 4) = L by omega, List.nil_append] at ow19; have H19 : Below w24.heap.size w24 w19 := (below_alloc w24 (Nat.le_refl _) _).trans hb19)
    | ((with_reducible refine on_append (.tmp 97) (.tmp 99) ?_); refine wl_appendS rfl (.tmp 97) (.tmp 99) _ rfl el_u8 (f := bv) (fun _ => rfl) rfl (ow19.alloc _) rfl (OwS.lit (base := w19.heap.size) (e := 5) (xs := [xb]) w19 #[.int .u8 xb.toNat] 1 (Nat.le_refl _) (by simp [maxLen]) rfl rfl).rd (by omega) (by omega) (by have := H19.size; simp; omega) ?_; intro A20 c20 w20 ow20 _ hb20; have H20 : Below w24.heap.size w24 w20 := (H19.alloc H19.size _).trans hb20)
    | (go_at_call 18; refine (fput_any 1179206193 (by omega) 1179206193 rfl _ _ _ w20 (by omega) _ ow20.rd).mono ?_; rintro e w21 ⟨A21, n21, c21, rfl, ow21, hb21⟩; have e21 := ow21.len)
    | (go_at_call 15; refine (nettake_is _ _ _ w21 (by rw [fput_length, List.length_append, HL.out] at e21; simp at e21; omega) _ ow21.rd [] 4 (Lib.hid (Hmo.out xb))).mono ?_; rintro e w26 ⟨A26, n26, c26, ns26, rfl, -, -, hb26⟩)
    | ((with_reducible refine on_alloc ?_); refine wl_newBox rfl _ rfl z_net ?_; intro g27 w27 hg27 hl27 bg27 hb27)
    | ((with_reducible refine on_store_at (.tmp 19) ?_); refine wb_store (cs := #[.slice none 0 0]) (cs' := #[.slice A26 n26 c26]) rfl _ (.tmp 19) _ rfl st_net rfl rfl bg27 rfl rfl (by simp [Value.oneCell']) ?_; intro w28 bx28 hg28))
  have D28 : Below w24.heap.size w24 w28 := by
    have a := hb27.trans (below_of_grown (B := w26.heap.size) hg28 (fun j e => by injection e with e; omega) hb27.size)
    have b := hb26.trans (a.mono hb26.size)
    have c := hb21.trans (b.mono hb21.size)
    exact H20.trans (c.mono H20.size)
  have y24 : w28.cell? ⟨g23, 0, none⟩ = some (.slice A22 0 c22) := (bx24.step D28).cell 0
  have H28 := H24.trans (D28.mono z24)
  clear D28 hb21 hb26 hb27 hg27 hl27 bg27 bx28 hg28 H20 hb20 H19 hb19 e21 ow21 ow20 ow19 H24 z24 r18 r24
  rcases hgf with rfl | rfl
  all_goals
    go_wp2
    go_ret
    exact ⟨rfl, B11.trans (H28.mono z11)⟩
theorem netfileBack_walk {w : World} (A : Option Addr) (n c : Nat) (ns : List Nd) (ni : NetIn w A n c ns) (z : Int) (hz : 0 ≤ z ∧ z ≤ 65535) (x : Int) (hx : 0 ≤ x ∧ x ≤ 255) :
    Calls Try.prog 4 #[.agg #[.slice A n c], .int .u16 z, .int .u8 x] w fun e w' => e = .returned (.bool true) ∧ Below w.heap.size w w' := by
  obtain ⟨k, rfl⟩ := Int.eq_ofNat_of_zero_le hz.1
  obtain ⟨y, rfl⟩ := Int.eq_ofNat_of_zero_le hx.1
  have hy : (UInt8.ofNat y).toNat = y := by rw [UInt8.toNat_ofNat']; omega
  have := netfileBack_core A n c ns ni k (by omega) (UInt8.ofNat y)
  rw [hy] at this
  exact this
end Go.Proofs.Ytgapcmodhcdebaa
