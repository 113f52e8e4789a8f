/-
  theseuslaw09.NetworkWalks: the walk.
-/
import Derived.Test.YtdmkiejaejlajaaNhMade
import Derived.Deep.DeepCutAuto
namespace Go.Proofs.Ytdmkiejaejlajaa
open Go.RowKit Go.Th
set_option linter.unusedVariables false
theorem walks_sum {ls : List (List Ru)} {a v u t s : Int} {ok is all : Bool} {i k : Nat} (hI : Inn ls a) (hv : 0 ≤ v ∧ v < (ls.length : Int)) (hi : i ≤ 15) (hk : k ≤ 15) (h1 : walkT ls a v (i : Int) = (u, ok)) (h2 : walkT ls a u (k : Int) = (t, is)) (h3 : walkT ls a v ((i : Int) + (k : Int)) = (s, all)) : all = (ok && is) ∧ (all = true → s = t) := by
  rw [walkT_in hv (by omega)] at h1
  rw [show ((i : Int) + (k : Int)) = ((i + k : Nat) : Int) by omega, walkT_in hv (by omega)] at h3
  cases ok with
  | true =>
    have e1 : (wgo ls a v i).2 = true := by rw [h1]
    have e2 := wgo_val e1
    rw [h1] at e2
    have g1 := wgo_true.1 e1
    obtain rfl : u = itr (hof ls a) i v := e2
    rw [walkT_in (hI.itr hv i g1) (by omega)] at h2
    have key : (wgo ls a v (i + k)).2 = true ↔ (wgo ls a (itr (hof ls a) i v) k).2 = true := by
      rw [wgo_true, wgo_true]
      constructor
      · intro h j hj
        rw [← itr_add]
        exact h _ (by omega)
      · intro h j hj
        by_cases e : j < i
        · exact g1 j e
        · have := h (j - i) (by omega)
          rwa [← itr_add, show j - i + i = j by omega] at this
    rw [h2, h3] at key
    dsimp only at key
    refine ⟨by cases all <;> cases is <;> simp_all, fun h => ?_⟩
    subst h
    have e3 : (wgo ls a v (i + k)).2 = true := by rw [h3]
    have e4 : (wgo ls a (itr (hof ls a) i v) k).2 = true := by rw [h2]; exact key.1 rfl
    have e5 := wgo_val e3
    have e6 := wgo_val e4
    rw [h3] at e5
    rw [h2, ← itr_add] at e6
    rw [Nat.add_comm] at e5
    exact e5.trans e6.symm
  | false =>
    have e1 : ¬ (wgo ls a v i).2 = true := by rw [h1]; simp
    have e2 : ¬ (wgo ls a v (i + k)).2 = true := by
      intro h
      exact e1 (wgo_true.2 (fun j hj => wgo_true.1 h j (by omega)))
    rw [h3] at e2
    cases all with
    | true => exact absurd rfl e2
    | false => exact ⟨rfl, fun h => by cases h⟩
set_option maxRecDepth 100000 in
set_option maxHeartbeats 4000000 in
theorem networkWalks_walk {w : World} (A : Option Addr) (n c : Nat) (ns : List Nd) (ni : NetIn w A n c ns) (a : Int) (ha : 0 ≤ a ∧ a ≤ 4294967295) (zs : List Int) (hl : zs.length = 3) (hz : ∀ z ∈ zs, 0 ≤ z ∧ z ≤ 255) :
    Calls Try.prog 3 #[.agg #[.slice A n c], .int .u32 a, .agg (zs.map (Value.int .u8)).toArray] w fun e w' => e = .returned (.bool true) ∧ Below w.heap.size w w' := by
  match zs, hl with
  | [z0, z1, z2], _ =>
  obtain ⟨x0, rfl⟩ := Int.eq_ofNat_of_zero_le (hz z0 (by simp)).1
  obtain ⟨x1, rfl⟩ := Int.eq_ofNat_of_zero_le (hz z1 (by simp)).1
  obtain ⟨x2, rfl⟩ := Int.eq_ofNat_of_zero_le (hz z2 (by simp)).1
  have hx0 : x0 ≤ 255 := by have := (hz x0 (by simp)).2; omega
  have hx1 : x1 ≤ 255 := by have := (hz x1 (by simp)).2; omega
  have hx2 : x2 ≤ 255 := by have := (hz x2 (by simp)).2; omega
  show Calls Try.prog 3 #[.agg #[.slice A n c], .int .u32 a, .agg #[.int .u8 (x0 : Int), .int .u8 (x1 : Int), .int .u8 (x2 : Int)]] w _
  have K1 := Lib.hid (made_any A n c ns w ni)
  clear ni hz
  have k0 : Below w.heap.size w ((w.alloc (.cells #[.slice A n c] 24)).alloc (.cells #[.int .u8 (x0 : Int), .int .u8 (x1 : Int), .int .u8 (x2 : Int)] 26)) := (below_alloc w (Nat.le_refl _) _).alloc (by simp) _
  have b0 := (Box.new w #[.slice A n c] 24).alloc (.cells #[.int .u8 (x0 : Int), .int .u8 (x1 : Int), .int .u8 (x2 : Int)] 26)
  have b1 := Box.new (w.alloc (.cells #[.slice A n c] 24)) #[.int .u8 (x0 : Int), .int .u8 (x1 : Int), .int .u8 (x2 : Int)] 26
  rw [heap_size_alloc] at b1
  go_enter Try.func3, Try.ntmps3
  go_upto_region 1 with fail
  obtain ⟨w0, hw0⟩ : ∃ W, (w.alloc (.cells #[.slice A n c] 24)).alloc (.cells #[.int .u8 (x0 : Int), .int .u8 (x1 : Int), .int .u8 (x2 : Int)] 26) = W := ⟨_, rfl⟩
  rw [hw0] at k0 b0 b1 ⊢
  clear hw0
  go_upto_region 2 with (go_at_call 10; refine (shown9 _).mono ?_; rintro e w1 ⟨rfl, hb1⟩; have bx1 := b0.step hb1; have by1 := b1.step hb1)
  have B1 := k0.trans (hb1.mono k0.size)
  clear k0 b0 b1 hb1
  go_upto_region 3 with (first
    | ((with_reducible refine on_load (.tmp 3) ?_); refine wb_load rfl _ (.tmp 3) rfl st_net rfl bx1 rfl ?_)
    | (go_at_call 11; refine (K1.out _ B1).mono ?_; rintro e w2 ⟨Aa, na, ca, nsa, rfl, hra, oka, sma, nba, hb2⟩)
    | ((with_reducible refine on_alloc ?_); refine wl_newBox rfl _ rfl z_net ?_; intro ga w3 hg3 hl3 bg3 hb3)
    | ((with_reducible refine on_store_at (.tmp 8) ?_); refine wb_store (cs := #[.slice none 0 0]) (cs' := #[.slice Aa na ca]) rfl _ (.tmp 8) _ rfl st_net rfl rfl bg3 rfl rfl (by simp [Value.oneCell']) ?_; intro w4 bx4 hg4))
  have bd4 := hb3.trans (below_of_grown (B := w2.heap.size) hg4 (fun j e => by injection e with e; omega) hb3.size)
  have M4 : HBox w4 ga Aa na ca nsa := ⟨bx4, (hra.step bd4).heap, oka, sma, nba⟩
  have b14 := hb2.trans (bd4.mono hb2.size)
  have B4 := B1.trans (b14.mono B1.size)
  have by4 := by1.step b14
  clear bd4 b14 bx4 hra oka sma nba hg4 hb3 bg3 hg3 hl3 hb2 B1 bx1 by1 K1
  have c0 : w4.cell? ⟨w.heap.size + 1, 0, none⟩ = some (.int .u8 (x0 : Int)) := by4.cell 0
  have c1 : w4.cell? ⟨w.heap.size + 1, 1, none⟩ = some (.int .u8 (x1 : Int)) := by4.cell 1
  have c2 : w4.cell? ⟨w.heap.size + 1, 2, none⟩ = some (.int .u8 (x2 : Int)) := by4.cell 2
  have cn : w4.cell? ⟨ga, 0, none⟩ = some (.slice Aa na ca) := M4.box.cell 0
  have hnb := M4.nb
  go_upto_region 6 with fail
  have ev : (x0 : Int) % (na : Int) = ((x0 % na : Nat) : Int) := rfl
  have ei : (x1 : Int) % 16 = ((x1 % 16 : Nat) : Int) := rfl
  have ek : (x2 : Int) % 16 = ((x2 % 16 : Nat) : Int) := rfl
  rw [ev, ei, ek]
  obtain ⟨v, hv⟩ : ∃ v, x0 % na = v := ⟨_, rfl⟩
  obtain ⟨i, hi⟩ : ∃ i, x1 % 16 = i := ⟨_, rfl⟩
  obtain ⟨k, hk⟩ : ∃ k, x2 % 16 = k := ⟨_, rfl⟩
  rw [hv, hi, hk]
  have hvn : v < na := by rw [← hv]; exact Nat.mod_lt _ (by omega)
  have hi2 : i ≤ 15 := by omega
  have hk2 : k ≤ 15 := by omega
  clear ev ei ek hv hi hk c0 c1 c2 cn by4
  have hlen := M4.len
  have hV : 0 ≤ (v : Int) ∧ (v : Int) < ((Nd.ls nsa).length : Int) := by rw [hlen]; omega
  obtain ⟨⟨u, ok⟩, h1⟩ : ∃ p, walkT (Nd.ls nsa) a (v : Int) (i : Int) = p := ⟨_, rfl⟩
  obtain ⟨⟨t, is⟩, h2⟩ : ∃ p, walkT (Nd.ls nsa) a u (k : Int) = p := ⟨_, rfl⟩
  obtain ⟨⟨s, all⟩, h3⟩ : ∃ p, walkT (Nd.ls nsa) a (v : Int) ((i : Int) + (k : Int)) = p := ⟨_, rfl⟩
  obtain ⟨⟨p, g⟩, h4⟩ : ∃ p, nstep (Nd.ls nsa) a (v : Int) = p := ⟨_, rfl⟩
  have h5 : walkT (Nd.ls nsa) a (v : Int) 1 = (p, g) := by
    have := walkT_in (K := 1) hV (a := a) (by omega)
    rw [show ((1 : Nat) : Int) = 1 from rfl] at this
    rw [this, wgo, wgo, if_pos rfl]
    exact h4
  have h6 : walkT (Nd.ls nsa) a (v : Int) 0 = ((v : Int), true) := by
    have := walkT_in (K := 0) hV (a := a) (by omega)
    rw [show ((0 : Nat) : Int) = 0 from rfl] at this
    rw [this, wgo]
  obtain ⟨hall, hst⟩ := walks_sum (M4.inn a) hV hi2 hk2 h1 h2 h3
  obtain ⟨x, hx1⟩ : ∃ x, nsa[v]? = some x := ⟨nsa[v]'(by rw [Nd.ls_len] at hlen; omega), List.getElem?_eq_getElem _⟩
  have hxm := List.mem_of_getElem? hx1
  have h7 : tnext x.l a = (p, g) := by rw [nstep_at a hx1] at h4; exact h4
  have hxr := M4.rd.rk x hxm
  have hxo := M4.rd.ok x hxm
  have hxn := M4.small x hxm
  have K7 := Lib.hid (fun w1 (hb : Below w4.heap.size w4 w1) => next_any x.A x.n x.c x.l a w1 (by omega) _ (hxr.step hb) hxo ha)
  rw [h7] at K7
  have H1 := Lib.hid h1
  have H2 := Lib.hid h2
  have H3 := Lib.hid h3
  have H4 := Lib.hid h4
  have H5 := Lib.hid h5
  have H6 := Lib.hid h6
  have Hst := Lib.hid hst
  have Hall := Lib.hid hall
  have Hx1 := Lib.hid hx1
  have Hlen := Lib.hid hlen
  clear h1 h2 h3 h4 h5 h6 hst hall hx1 hxm h7 hxr hxo hxn hlen hV
  go_upto_region 7 with (first
    | ((with_reducible refine on_load (.tmp 8) ?_); refine wb_load rfl _ (.tmp 8) rfl st_net rfl M4.box rfl ?_)
    | (go_at_call 12; refine (M4.walk a _ _ ha u ok H1).mono ?_; rintro e w5 ⟨rfl, hb5⟩))
  have M5 := M4.step hb5
  go_upto_region 8 with (first
    | ((with_reducible refine on_load (.tmp 8) ?_); refine wb_load rfl _ (.tmp 8) rfl st_net rfl M5.box rfl ?_)
    | (go_at_call 12; refine (M5.walk a _ _ ha t is H2).mono ?_; rintro e w6 ⟨rfl, hb6⟩))
  have M6 := M5.step hb6
  go_upto_region 9 with (first
    | ((with_reducible refine on_load (.tmp 8) ?_); refine wb_load rfl _ (.tmp 8) rfl st_net rfl M6.box rfl ?_)
    | (go_at_call 12; refine (M6.walk a _ _ ha s all H3).mono ?_; rintro e w7 ⟨rfl, hb7⟩))
  have M7 := M6.step hb7
  go_upto_region 10 with (first
    | ((with_reducible refine on_load (.tmp 8) ?_); refine wb_load rfl _ (.tmp 8) rfl st_net rfl M7.box rfl ?_)
    | (go_at_call 12; refine (M7.walk a _ _ ha p g H5).mono ?_; rintro e w8 ⟨rfl, hb8⟩))
  have M8 := M7.step hb8
  go_upto_region 11 with (first
    | ((with_reducible refine on_load (.tmp 8) ?_); refine wb_load rfl _ (.tmp 8) rfl st_net rfl M8.box rfl ?_)
    | (go_at_call 13; refine (M8.stp a _ ha p g H4).mono ?_; rintro e w9 ⟨rfl, hb9⟩))
  have M9 := M8.step hb9
  go_upto_region 12 with (first
    | ((with_reducible refine on_load (.tmp 8) ?_); refine wb_load rfl _ (.tmp 8) rfl st_net rfl M9.box rfl ?_)
    | (go_at_call 12; refine (M9.walk a _ _ ha v true H6).mono ?_; rintro e w10 ⟨rfl, hb10⟩))
  have M10 := M9.step hb10
  have b410 := ((((hb5.trans (hb6.mono hb5.size)).trans (hb7.mono (by have := hb5.size; have := hb6.size; omega))).trans (hb8.mono (by have := hb5.size; have := hb6.size; have := hb7.size; omega))).trans (hb9.mono (by have := hb5.size; have := hb6.size; have := hb7.size; have := hb8.size; omega))).trans (hb10.mono (by have := hb5.size; have := hb6.size; have := hb7.size; have := hb8.size; have := hb9.size; omega))
  have B10 := B4.trans (b410.mono B4.size)
  clear hb5 hb6 hb7 hb8 hb9 hb10 M4 M5 M6 M7 M8 M9 B4 H1 H2 H3 H4 H5 H6
  have cn : w10.cell? ⟨ga, 0, none⟩ = some (.slice Aa na ca) := M10.box.cell 0
  have hr10 := M10.rd.rd
  go_upto_region 13 with (first
    | ((with_reducible refine on_index (.tmp 93) ?_); refine wn_at rfl _ (.tmp 93) _ rfl el_row rfl rfl (by omega) (by omega) hr10 ?_; intro b j y hy hbB hc; have hxx : x = y := (by have e := hy.out; rw [Int.toNat_natCast, Hx1.out] at e; injection e); subst hxx)
    | (go_at_call 14; refine (K7.out _ b410).mono ?_; rintro e w11 ⟨rfl, hb11⟩))
  have B11 := B10.trans (hb11.mono B10.size)
  have hpp : (p == p) = true := by simp
  have hvv : ((v : Int) == (v : Int)) = true := by simp
  have hall := Hall.out
  clear Hx1 Hlen cn hr10 M10 K7
  cases ok <;> cases is <;> (try (simp at hall)) <;> subst hall
  rotate_left 3
  · have hs := Hst.out rfl
    subst hs
    have hss : (s == s) = true := by simp
    clear Hst Hall
    cases g
    all_goals go_wp2
    all_goals go_ret
    all_goals exact ⟨rfl, B11⟩
  all_goals clear Hst Hall
  all_goals cases g
  all_goals go_wp2
  all_goals go_ret
  all_goals exact ⟨rfl, B11⟩
end Go.Proofs.Ytdmkiejaejlajaa
