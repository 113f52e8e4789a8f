/-
  atoms.Atoms.At: an address has its atom's vector.
-/
import Derived.Test.YtjandnidljbkoaaGreatMTpThin
namespace Go.Proofs.YtjandnidljbkoaaGreat
open Go.RowKit Go.Th
set_option linter.unusedVariables false
theorem atom_of {ls : List (List Ru)} (hN : NetOk ls) {a : Int} (ha : 0 ≤ a ∧ a ≤ 4294967295) : ∃ (i p : Nat), upTo (atomsOf ls).fr a = i + 1 ∧ i < (atomsOf ls).fr.length ∧ (atomsOf ls).wh[i]? = some (p : Int) ∧ p < (atomsOf ls).vs.length ∧ (atomsOf ls).vs[p]? = some (vecOf ls a) := by
  have A := atOk (vecOf ls) (cutsOf ls)
  obtain ⟨hs, hb⟩ := atoms_fr hN
  have hz := atoms_head hN
  obtain ⟨u, hu⟩ : ∃ u, upTo (atomsOf ls).fr a = u := ⟨_, rfl⟩
  have hul := upTo_le (atomsOf ls).fr a
  rw [hu] at hul
  have hu0 : u ≠ 0 := fun e => by
    subst e
    rw [List.head?_eq_getElem?] at hz
    have := upTo_at (l := (atomsOf ls).fr) (a := a) (y := 0) (by rw [hu]; exact hz)
    omega
  obtain ⟨i, rfl⟩ : ∃ i, u = i + 1 := ⟨u - 1, by omega⟩
  obtain ⟨x, hx, hxa⟩ := upTo_lt (l := (atomsOf ls).fr) (a := a) (k := i) (by omega)
  have hwl : (atomsOf ls).fr.length = (atomsOf ls).wh.length := A.len
  obtain ⟨q, hq⟩ : ∃ q, (atomsOf ls).wh[i]? = some q := ⟨_, List.getElem?_eq_getElem (by omega)⟩
  have hqr : 0 ≤ q ∧ q < ((atomsOf ls).vs.length : Int) := A.rng q (List.mem_of_getElem? hq)
  obtain ⟨p, rfl⟩ := Int.eq_ofNat_of_zero_le hqr.1
  have hv : (atomsOf ls).vs[(p : Int).toNat]? = some (vecOf ls x) := A.val i x p hx hq
  rw [Int.toNat_natCast] at hv
  have hend : a ≤ endOf (atomsOf ls).fr i := by
    unfold endOf
    split
    · rename_i hlt
      have := upTo_at (l := (atomsOf ls).fr) (a := a) (y := (atomsOf ls).fr[i + 1]) (by rw [hu]; exact List.getElem?_eq_getElem hlt)
      rw [List.getD_eq_getElem?_getD, List.getElem?_eq_getElem hlt]
      simp only [Option.getD_some]
      omega
    · exact ha.2
  have hc := atoms_const hN hx hxa hend
  exact ⟨i, p, hu, by omega, hq, by omega, by rw [hv, hc]⟩
set_option maxRecDepth 100000 in
set_option maxHeartbeats 2000000 in
theorem aat_any (ls : List (List Ru)) (hN : NetOk ls) (n BL : Nat) (A1 : Option Addr) (n1 c1 : Nat) (A2 : Option Addr) (c2 : Nat) (A3 : Option Addr) (n3 c3 : Nat) (gs : List Nat) (w : World) (hn : n ≤ 100000)
    (hA : AtR 23 3 38 w BL n A1 n1 c1 A2 n1 c2 A3 n3 c3 (atomsOf ls).fr (atomsOf ls).wh (atomsOf ls).vs gs) (a : Int) (ha : 0 ≤ a ∧ a ≤ 4294967295) :
    Calls Tryz.prog 23 #[.agg #[.slice A1 n1 c1, .slice A2 n1 c2, .slice A3 n3 c3], .int .u32 a] w (fun e w' => ∃ A' c', e = .returned (.tuple #[.slice A' n c', .bool true]) ∧ OwS iv w' w.heap.size 3 A' n c' (vecOf ls a) ∧ Below w.heap.size w w') := by
  obtain ⟨i, p, hu, hi, hp, hpl, hv⟩ := atom_of hN ha
  have hl1 := hA.oF.rd.len
  have hl2 := hA.oW.rd.len
  have hl3 := hA.oV.rd.len
  have hlv := hA.len
  have hal := atoms_len hN
  obtain ⟨g, hg⟩ : ∃ g, gs[p]? = some g := ⟨_, List.getElem?_eq_getElem (by omega)⟩
  have hvr : OwS iv w BL 3 (some ⟨g, 0, none⟩) n n (vecOf ls a) := hA.vec (g, vecOf ls a) (by
    refine List.mem_of_getElem? (i := p) ?_
    rw [List.getElem?_zip_eq_some]
    exact ⟨hg, hv⟩)
  have Hp := Lib.hid hp
  have Hg := Lib.hid hg
  have k0 := below_alloc w (Nat.le_refl _) (.cells #[.slice A1 n1 c1, .slice A2 n1 c2, .slice A3 n3 c3] 59)
  have b0 := Box.new w #[.slice A1 n1 c1, .slice A2 n1 c2, .slice A3 n3 c3] 59
  obtain ⟨W0, hW0⟩ : ∃ W, w.alloc (.cells #[.slice A1 n1 c1, .slice A2 n1 c2, .slice A3 n3 c3] 59) = W := ⟨_, rfl⟩
  rw [hW0] at k0 b0
  have y0 : W0.cell? ⟨w.heap.size, 0, none⟩ = some (.slice A1 n1 c1) := b0.cell 0
  have y1 : W0.cell? ⟨w.heap.size, 1, none⟩ = some (.slice A2 n1 c2) := b0.cell 1
  have y2 : W0.cell? ⟨w.heap.size, 2, none⟩ = some (.slice A3 n3 c3) := b0.cell 2
  have rF := (hA.oF.below k0).rd
  have rW := (hA.oW.below k0).rd
  have rV := (hA.oV.below k0).rd
  have rr := (hvr.below k0).rd
  have K1 := Lib.hid (cat_any A1 n1 c1 (atomsOf ls).fr a W0 (by omega) _ rF (i + 1) hu)
  have K2 := Lib.hid (sclone_any (some ⟨g, 0, none⟩) n n (vecOf ls a) W0 hn _ rr)
  have hi1 : i < n1 := by omega
  have hp3 : p < n3 := by omega
  have d1 : decide ((n1 : Int) ≤ i) = false := decide_eq_false (by omega)
  have d2 : decide ((n3 : Int) ≤ p) = false := decide_eq_false (by omega)
  have e1 : ((i + 1 : Nat) : Int) - 1 = (i : Int) := by omega
  rw [e1] at K1
  clear hu hi hp hpl hv hl1 hl2 hl3 hlv hal hg hvr hA rr rF e1
  go_enter Tryz.func23, Tryz.ntmps23
  go_upto_region 1 with fail
  clear hW0
  go_wp2_with (first
    | (go_at_call 63; refine (K1.out).mono ?_; rintro e w1 ⟨rfl, rfl⟩)
    | ((with_reducible refine on_index (.tmp 22) ?_); refine wl_at_i rfl _ (.tmp 22) _ rfl el_int rfl rfl (by omega) (by omega) rW ?_; intro p1 y1 hy1 hc1; have hxx : (p : Int) = y1 := get_eq Hp.out hy1.out (by omega); subst hxx)
    | ((with_reducible refine on_index (.tmp 36) ?_); refine wm_at (one1_len (vrow n)) rfl _ (.tmp 36) _ rfl el_rowi.m rfl rfl (by omega) (by omega) rV.m ?_; intro b j y hy hbB hc; have hxx : g = y := get_eq Hg.out hy.out (by omega); subst hxx; have hc1 : W0.cell? ⟨b, j, none⟩ = some (.slice (some ⟨g, 0, none⟩) n n) := hc.out 0 _ rfl)
    | (go_at_call 64; refine (K2.out).mono ?_; rintro e w2 ⟨A', c', rfl, o2, hb2⟩))
  go_ret2
  exact ⟨A', c', rfl, o2.base_le k0.size, k0.trans (hb2.mono k0.size)⟩
end Go.Proofs.YtjandnidljbkoaaGreat
