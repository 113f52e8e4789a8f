/-
  certfile's reader: lists and parts.
-/
import Derived.Test.YtjambnlocjjjpaaCfRead
namespace Go.Proofs.Ytjambnlocjjjpaa
open Go.RowKit Go.Th
set_option linter.unusedVariables false
theorem grown_below {w w' : World} {row : Option Nat} (h : Below w.heap.size w w') : w.grownBy w' row := ⟨h.os, h.tape, h.output, h.size, fun k hk _ => h.block k hk⟩
theorem grown_new {w w1 w2 : World} {row row2 : Option Nat} (h : w.grownBy w1 row) (h2 : w1.grownBy w2 row2) (hr : ∀ k, row2 = some k → w.heap.size ≤ k) : w.grownBy w2 row := by
  refine ⟨h2.os.trans h.os, h2.tape.trans h.tape, h2.output.trans h.output, Nat.le_trans h.size h2.size, fun k hk hne => ?_⟩
  exact (h2.block k (Nat.lt_of_lt_of_le hk h.size) (fun e => by have := hr k e.symm; omega)).trans (h.block k hk hne)
theorem Rr.grown {w w' : World} {lo B g : Nat} {nodes : Int} {r : Rs} {row : Option Nat} (h : Rr w lo B g nodes r) (hg : w.grownBy w' row) (hne : ∀ k, row = some k → g < k ∨ (k < lo ∧ k < g)) : Rr w' lo B g nodes r := by
  obtain ⟨⟨A, n, c, hbx, hr, hn, hlo⟩, hge⟩ := h
  refine ⟨⟨A, n, c, hbx.grown hg (fun e => by have := hne g e; omega), ⟨⟨fun j u hu => ?_⟩, hr.len, hr.cap⟩, hn, hlo⟩, hge⟩
  obtain ⟨b, o, e, hB, hc⟩ := hr.rd.at_ j u hu
  have hb := hlo b (by rw [e]; rfl)
  refine ⟨b, o, e, hB, (World.cell?_of_block (hg.block b (World.block_lt_of_cell? w ⟨b, o + j, none⟩ hc) (fun e => ?_))).trans hc⟩
  have := hne b e.symm
  omega
theorem rlist_go {α : Type} {one : Rs → α × Rs} {n : Nat} {acc : List α} {r : Rs} (h : (one r).2.2 = 0) : rlist one (n + 1) acc r = rlist one n (acc ++ [(one r).1]) (one r).2 := by
  rw [rlist, if_neg (by simpa using h)]
theorem rlist_stop {α : Type} {one : Rs → α × Rs} {n : Nat} {acc : List α} {r : Rs} (h : (one r).2.2 ≠ 0) : rlist one (n + 1) acc r = ([], (one r).2) := by
  rw [rlist, if_pos h]
def ListRel (lo B g : Nat) (nodes : Int) (n : Nat) (r : Rs) (w : World) (all i : Value) (wr : World) : Prop :=
  ∃ (k c : Nat) (A : Option Addr) (acc : List Int) (rk : Rs), k ≤ n ∧ i = .int .i64 k ∧ all = .slice A k c ∧ OwS iv wr (w.heap.size + 1) 3 A k c acc ∧ Rr wr lo B g nodes rk ∧ w.grownBy wr (some g) ∧ w.heap.size + 1 ≤ wr.heap.size ∧ Box wr w.heap.size 85 #[.func (.func 37) #[] #[]] ∧ Hid (rlist rgrp n [] r = rlist rgrp (n - k) acc rk)
set_option maxRecDepth 100000 in
set_option maxHeartbeats 4000000 in
theorem rdlist_any (lo B g : Nat) (nodes : Int) (r : Rs) (n : Nat) (hn : n ≤ 1000000) (w : World) (h : Rr w lo B g nodes r) :
    Calls Try.prog 38 #[.agg #[.func (.func 37) #[] #[]], .pointer (some ⟨g, 0, none⟩), .int .i64 n] w (fun e w' => ∃ A m c, e = .returned (.slice A m c) ∧ OwS iv w' w.heap.size 3 A m c (rlist rgrp n [] r).1 ∧ Rr w' lo B g nodes (rlist rgrp n [] r).2 ∧ w.grownBy w' (some g)) := by
  obtain ⟨L, hL⟩ : ∃ L, rlist rgrp n [] r = L := ⟨_, rfl⟩
  rw [hL]
  have HL := Lib.hid hL
  clear hL
  have hgl := h.lt
  go_enter Try.func38, Try.ntmps38
  go_wp2_with fail
  go_loopw [7, 10] (fun all i wr => ListRel lo B g nodes n r w all i wr) (fun _ i _ => n - (intOf i).toNat)
  case atStart =>
    have k0 := below_alloc w (Nat.le_refl _) (.cells #[.func (.func 37) #[] #[]] 85)
    exact ⟨0, 0, none, [], r, by omega, rfl, rfl, OwS.nil_ _ _ _, h.below k0, grown_below k0, by simp, Box.new _ _ _, Lib.hid rfl⟩
  case round =>
    obtain ⟨k, c, A, acc, rk, hk, rfl, rfl, ow, R, hg, hsz, bl, hl⟩ := hrel
    have y0 : wr.cell? ⟨w.heap.size, 0, none⟩ = some (.func (.func 37) #[] #[]) := bl.cell 0
    have hrow : ∀ g', A = some ⟨g', 0, none⟩ → w.heap.size + 1 ≤ g' := fun g' hA => ow.ow.row_ge g' (by rw [hA]; rfl)
    have Hrow := Lib.hid hrow
    clear hrow
    by_cases hlt : k < n
    · obtain ⟨x, hx⟩ : ∃ x, rgrp rk = x := ⟨_, rfl⟩
      have hc := rdgrp_any lo B g nodes rk wr R
      rw [hx] at hc
      have Hc := Lib.hid hc
      clear hc
      by_cases he : x.2.2 = 0
      · have hl2 := hl.out
        rw [show n - k = (n - (k + 1)) + 1 by omega, rlist_go (by rw [hx]; exact he), hx] at hl2
        have Hl2 := Lib.hid hl2
        clear hl2 hl hx
        have he2 : (x.2.2 == 0) = true := by simpa using he
        have He := Lib.hid he
        clear he
        go_wp2_with (first
          | (go_at_call 37; refine (Hc.out).mono ?_; rintro e w1 ⟨rfl, R1, g1⟩; obtain ⟨⟨Ar, nr, cr, bxr, hrr, hnr, hlr⟩, hge⟩ := R1; rw [He.out] at bxr; have z2 : w1.cell? ⟨g, 2, none⟩ = some (.int .i64 0) := bxr.cell 2; have ow1 := ow.grown g1 (fun g' hA e => by have := Hrow.out g' hA; injection e with e; omega); have bl1 := bl.grown g1 (fun e => by injection e with e; omega); have hs1 := g1.size)
          | ((with_reducible refine on_append (.tmp 21) (.tmp 23) ?_); refine wl_appendS rfl (.tmp 21) (.tmp 23) _ rfl el_int (f := iv) (fun _ => rfl) rfl (ow1.alloc (.cells #[.int .i64 x.1] 3)) rfl (OwS.lit (base := w1.heap.size) (e := 3) (xs := [x.1]) w1 #[.int .i64 x.1] 1 (Nat.le_refl _) (by simp [maxLen]) rfl rfl).rd (by omega) (by omega) (by simp; omega) ?_; intro A8 c8 w8 ow8 hg8 hb8))
        go_roundw
        case rel =>
          have k1 := below_alloc w1 (Nat.le_refl _) (.cells #[.int .i64 x.1] 3)
          have hra : ∀ j, rowOf A = some j → w.heap.size + 1 ≤ j := fun j hj => ow.ow.row_ge j hj
          have R1 : Rr w1 lo B g nodes x.2 := ⟨⟨Ar, nr, cr, by rw [He.out]; exact bxr, hrr, hnr, hlr⟩, hge⟩
          have R8 := (R1.below k1).grown hg8 (fun j e => by have := hra j e; omega)
          have bl8 := (bl1.step k1).grown hg8 (fun e => by have := hra _ e; omega)
          have G1 := grown_trans hg g1
          have G2 := grown_new (row2 := none) G1 (grown_below k1) (fun j e => by cases e)
          have G8 := grown_new G2 hg8 (fun j e => by have := hra j e; omega)
          exact ⟨k + 1, c8, A8, acc ++ [x.1], x.2, by omega, by go_num, rfl, ow8, R8, G8, by have := hg8.size; have := k1.size; omega, bl8, Hl2⟩
        case measure => simp [intOf]; omega
      · have hl2 := hl.out
        rw [show n - k = (n - (k + 1)) + 1 by omega, rlist_stop (by rw [hx]; exact he), hx, HL.out] at hl2
        have Hl2 := Lib.hid hl2
        clear hl2 hl hx
        have he2 : (x.2.2 != 0) = true := by simpa using he
        clear he
        go_wp2_with (go_at_call 37; refine (Hc.out).mono ?_; rintro e w1 ⟨rfl, R1, g1⟩; have z2 : w1.cell? ⟨g, 2, none⟩ = some (.int .i64 x.2.2) := by obtain ⟨⟨Ar, nr, cr, bxr, hrr, hnr, hlr⟩, hge⟩ := R1; exact bxr.cell 2)
        go_ret
        rw [Hl2.out]
        exact ⟨none, 0, 0, rfl, OwS.nil_ _ _ _, R1, grown_trans hg g1⟩
    · obtain rfl : k = n := by omega
      go_wp2
      go_ret
      have hl2 := hl.out
      rw [HL.out, Nat.sub_self] at hl2
      subst hl2
      exact ⟨A, _, c, rfl, ow.base_le (by omega), R, hg⟩
theorem rnum_bd (s : Nat) (r : Rs) : 0 ≤ (rnum s r).1 ∧ (rnum s r).1 < 256 ^ s := by
  have hp : (0 : Int) < 256 ^ s := Int.pow_pos (by decide)
  unfold rnum
  split
  · exact ⟨by simp, hp⟩
  · split
    · exact ⟨by simp, hp⟩
    · have hv := val_lt (r.1.take s)
      have hl : (r.1.take s).length = s := by rw [List.length_take]; omega
      rw [hl] at hv
      exact ⟨by simp, by simpa using (by exact_mod_cast hv : ((val (r.1.take s) : Nat) : Int) < ((256 ^ s : Nat) : Int))⟩
theorem grown_box {w w' : World} {row : Option Nat} {g : Nat} (h : w.grownBy w' row) (hg : row = some g) {w2 : World} (h2 : w'.grownBy w2 (some g)) : w.grownBy w2 (some g) := by
  subst hg
  exact grown_trans h h2
set_option maxRecDepth 100000 in
set_option maxHeartbeats 4000000 in
theorem rdpart_any (lo B g nodes : Nat) (hno : nodes ≤ 256) (r : Rs) (w : World) (h : Rr w lo B g nodes r) :
    Calls Try.prog 35 #[.pointer (some ⟨g, 0, none⟩)] w (fun e w' => ∃ A m c, e = .returned (.agg #[.int .u32 (rpart nodes r).1.1, .int .u32 (rpart nodes r).1.2.1, .slice A m c]) ∧ OwS iv w' w.heap.size 3 A m c (rpart nodes r).1.2.2 ∧ Rr w' lo B g nodes (rpart nodes r).2 ∧ w.grownBy w' (some g)) := by
  have hgl := h.lt
  have hf := rnum_bd 4 r
  have ht := rnum_bd 4 (rnum 4 r).2
  unfold rpart
  simp only [Int.toNat_natCast]
  obtain ⟨f, hF⟩ : ∃ f, rnum 4 r = f := ⟨_, rfl⟩
  have hc1 := fun w1 h1 => rdnum_any lo B g nodes r 4 4 rfl (by omega) w1 h1
  rw [hF] at hf ht hc1 ⊢
  obtain ⟨t, hT⟩ : ∃ t, rnum 4 f.2 = t := ⟨_, rfl⟩
  have hc2 := fun w1 h1 => rdnum_any lo B g nodes f.2 4 4 rfl (by omega) w1 h1
  rw [hT] at ht hc2 ⊢
  have Hc1 := Lib.hid hc1
  have Hc2 := Lib.hid hc2
  have hf' : 0 ≤ f.1 ∧ f.1 ≤ 4294967295 := ⟨hf.1, by have := hf.2; simp at this; omega⟩
  have ht' : 0 ≤ t.1 ∧ t.1 ≤ 4294967295 := ⟨ht.1, by have := ht.2; simp at this; omega⟩
  clear hc1 hc2 hF hT hf ht
  have k0 := below_alloc w (Nat.le_refl _) (.cells #[.int .u32 0, .int .u32 0, .slice none 0 0] 38)
  have R0 := h.below k0
  have b0 : Box (w.alloc (.cells #[.int .u32 0, .int .u32 0, .slice none 0 0] 38)) w.heap.size 38 Pt.zero.cs.toArray := Box.new w _ _
  clear h
  go_enter Try.func35, Try.ntmps35
  go_wp2_with (first
    | (go_at_call 32; (with_reducible refine (Hc1.out _ R0).mono ?_); rintro e w1 ⟨rfl, R1, g1⟩)
    | (go_at_call 32; (with_reducible refine (Hc2.out _ R1).mono ?_); rintro e w2 ⟨rfl, R2, g2⟩; have n2 : w2.cell? ⟨g, 1, none⟩ = some (.int .i64 nodes) := by obtain ⟨⟨Ar, nr, cr, bxr, hrr, hnr, hlr⟩, hge⟩ := R2; exact bxr.cell 1)
    | (go_at_call 38; refine (rdlist_any lo B g nodes _ nodes (by omega) _ R2).mono ?_; rintro e w3 ⟨A3, m3, c3, rfl, ow3, R3, g3⟩; have bx3 := ((b0.grown g1 (fun e => by injection e with e; omega)).grown g2 (fun e => by injection e with e; omega)).grown g3 (fun e => by injection e with e; omega))
    | ((with_reducible refine on_store_at (.tmp 2) ?_); refine wpt_store (r := Pt.zero) (s := ⟨f.1, t.1, A3, m3, c3, []⟩) rfl _ (.tmp 2) _ rfl st_part rfl rfl bx3 ?_; intro w4 bp4 hg4))
  have hs0 : (w.alloc (.cells #[.int .u32 0, .int .u32 0, .slice none 0 0] 38)).heap.size = w.heap.size + 1 := heap_size_alloc _ _
  have h1 := g1.size
  have h2 := g2.size
  refine bodyPost_ret (v := .agg #[.int .u32 f.1, .int .u32 t.1, .slice A3 m3 c3]) ?_ rfl ⟨A3, m3, c3, rfl, ?_, ?_, ?_⟩
  · exact results_cell_row rfl _ w4 w.heap.size 38 _ (0, 0) _ rfl bp4.at_ Try.underlying38 rfl st_part.size
  · exact (ow3.grown hg4 (fun g' hA e => by have := ow3.ow.row_ge g' (by rw [hA]; rfl); injection e with e; omega)).base_le (by omega)
  · exact R3.grown hg4 (fun j e => by injection e with e; omega)
  · have G1 := grown_trans (grown_below (row := some g) k0) g1
    exact grown_new (grown_trans (grown_trans G1 g2) g3) hg4 (fun j e => by injection e with e; omega)
/-- Parts and ranks of the call's own. -/
structure PO (w : World) (base : Nat) (A : Option Addr) (n c : Nat) (ps : List Pt) : Prop where
  row : OwM Pt.cs 3 w base 38 A n c ps
  rk : ∀ p ∈ ps, OwS iv w base 3 p.A p.n p.c p.rk
  ok : ∀ p ∈ ps, p.Ok
theorem PO.nil (w : World) (base : Nat) : PO w base none 0 0 [] := ⟨OwM.nil_ _ _ _, by simp, by simp⟩
theorem PO.rd {w : World} {base n c : Nat} {A : Option Addr} {ps : List Pt} (h : PO w base A n c ps) : PRd w w.heap.size A n c ps := ⟨h.row.rd, fun p hp => (h.rk p hp).rd, h.ok⟩
theorem PO.base_le {w : World} {base base' n c : Nat} {A : Option Addr} {ps : List Pt} (h : PO w base A n c ps) (hb : base' ≤ base) : PO w base' A n c ps := ⟨h.row.base_le hb, fun p hp => (h.rk p hp).base_le hb, h.ok⟩
theorem PO.below {w w' : World} {base n c : Nat} {A : Option Addr} {ps : List Pt} (h : PO w base A n c ps) (hb : Below w.heap.size w w') : PO w' base A n c ps := ⟨h.row.below hb, fun p hp => (h.rk p hp).below hb, h.ok⟩
theorem PO.grown {w w' : World} {base n c : Nat} {A : Option Addr} {ps : List Pt} {row : Option Nat} (h : PO w base A n c ps) (hg : w.grownBy w' row) (hr : ∀ k, row = some k → k < base) : PO w' base A n c ps :=
  ⟨h.row.grown hg (fun g' hA e => by have := h.row.ow.row_ge g' (by rw [hA]; rfl); have := hr g' e; omega), fun p hp => (h.rk p hp).grown hg (fun g' hA e => by have := (h.rk p hp).ow.row_ge g' (by rw [hA]; rfl); have := hr g' e; omega), h.ok⟩
theorem rlist_all {α : Type} {one : Rs → α × Rs} {P : α → Prop} (h : ∀ r, P (one r).1) : ∀ (n : Nat) (acc : List α) (r : Rs), (∀ x ∈ acc, P x) → ∀ x ∈ (rlist one n acc r).1, P x
  | 0, acc, r, ha => ha
  | n + 1, acc, r, ha => by
    rw [rlist]
    split
    · simp
    · refine rlist_all h n _ _ fun x hx => ?_
      rcases List.mem_append.1 hx with hx | hx
      · exact ha x hx
      · obtain rfl := by simpa using hx
        exact h r
theorem rlist_len {α : Type} {one : Rs → α × Rs} : ∀ (n : Nat) (acc : List α) (r : Rs), (rlist one n acc r).1.length ≤ acc.length + n
  | 0, acc, r => by simp [rlist]
  | n + 1, acc, r => by
    rw [rlist]
    split
    · simp
    · have := rlist_len (one := one) n (acc ++ [(one r).1]) (one r).2
      simp at this
      omega
theorem rgrp_bd (r : Rs) : 0 ≤ (rgrp r).1 ∧ (rgrp r).1 < 268435456 := by
  unfold rgrp
  split
  · simp
  · split
    · simp
    · rcases gtake_what r.1 with h | h | ⟨n, k, h, hn, _⟩
      · rw [h.1]; simp
      · rw [h]; simp
      · rw [h]; simp; omega
theorem rcnt_bd (most : Int) (hm : 0 ≤ most) (r : Rs) : 0 ≤ (rcnt most r).1 ∧ (rcnt most r).1 ≤ most := by
  have := rgrp_bd r
  unfold rcnt
  split
  · exact ⟨by simp, hm⟩
  · exact ⟨this.1, by omega⟩
def PartsRel (lo B g nodes : Nat) (n : Nat) (r : Rs) (w : World) (all i : Value) (wr : World) : Prop :=
  ∃ (k c : Nat) (A : Option Addr) (ps : List Pt) (rk : Rs), k ≤ n ∧ i = .int .i64 k ∧ all = .slice A k c ∧ OwM Pt.cs 3 wr (w.heap.size + 1) 38 A k c ps ∧ (∀ p ∈ ps, OwS iv wr (w.heap.size + 1) 3 p.A p.n p.c p.rk) ∧ (∀ p ∈ ps, p.Ok) ∧ Rr wr lo B g nodes rk ∧ w.grownBy wr (some g) ∧ w.heap.size + 1 ≤ wr.heap.size ∧ Box wr w.heap.size 80 #[.func (.func 35) #[] #[]] ∧ Hid (rlist (rpart nodes) n [] r = rlist (rpart nodes) (n - k) (ps.map pkey) rk)
theorem rpart_bd (nodes : Int) (r : Rs) : (0 ≤ (rpart nodes r).1.1 ∧ (rpart nodes r).1.1 ≤ 4294967295) ∧ (0 ≤ (rpart nodes r).1.2.1 ∧ (rpart nodes r).1.2.1 ≤ 4294967295) := by
  have h1 := rnum_bd 4 r
  have h2 := rnum_bd 4 (rnum 4 r).2
  unfold rpart
  simp at h1 h2 ⊢
  omega
theorem ty_pi : 38 ≠ 3 := by decide
set_option maxRecDepth 100000 in
set_option maxHeartbeats 4000000 in
theorem rdparts_any (lo B g nodes : Nat) (hno : nodes ≤ 256) (r : Rs) (n : Nat) (hn : n ≤ 1000000) (w : World) (h : Rr w lo B g nodes r) :
    Calls Try.prog 36 #[.agg #[.func (.func 35) #[] #[]], .pointer (some ⟨g, 0, none⟩), .int .i64 n] w (fun e w' => ∃ A m c ps, e = .returned (.slice A m c) ∧ PO w' w.heap.size A m c ps ∧ Hid (ps.map pkey = (rlist (rpart nodes) n [] r).1) ∧ Rr w' lo B g nodes (rlist (rpart nodes) n [] r).2 ∧ w.grownBy w' (some g)) := by
  obtain ⟨L, hL⟩ : ∃ L, rlist (rpart nodes) n [] r = L := ⟨_, rfl⟩
  rw [hL]
  have HL := Lib.hid hL
  clear hL
  have hgl := h.lt
  go_enter Try.func36, Try.ntmps36
  go_wp2_with fail
  go_loopw [7, 10] (fun all i wr => PartsRel lo B g nodes n r w all i wr) (fun _ i _ => n - (intOf i).toNat)
  case atStart =>
    have k0 := below_alloc w (Nat.le_refl _) (.cells #[.func (.func 35) #[] #[]] 80)
    exact ⟨0, 0, none, [], r, by omega, rfl, rfl, OwM.nil_ _ _ _, by simp, by simp, h.below k0, grown_below k0, by simp, Box.new _ _ _, Lib.hid rfl⟩
  case round =>
    obtain ⟨k, c, A, ps, rk, hk, rfl, rfl, ow, orr, hok, R, hg, hsz, bl, hl⟩ := hrel
    have y0 : wr.cell? ⟨w.heap.size, 0, none⟩ = some (.func (.func 35) #[] #[]) := bl.cell 0
    have Orr := Lib.hid orr
    have Hok := Lib.hid hok
    clear orr hok
    by_cases hlt : k < n
    · have hbd := rpart_bd nodes rk
      obtain ⟨x, hx⟩ : ∃ x, rpart nodes rk = x := ⟨_, rfl⟩
      have hc := rdpart_any lo B g nodes hno rk wr R
      rw [hx] at hc hbd
      have Hc := Lib.hid hc
      have Hbd := Lib.hid hbd
      clear hc hbd
      by_cases he : x.2.2 = 0
      · have hl2 := hl.out
        rw [show n - k = (n - (k + 1)) + 1 by omega, rlist_go (by rw [hx]; exact he), hx] at hl2
        have Hl2 := Lib.hid hl2
        clear hl2 hl hx
        have he2 : (x.2.2 == 0) = true := by simpa using he
        have He := Lib.hid he
        clear he
        go_wp2_with (first
          | (go_at_call 35; refine (Hc.out).mono ?_; rintro e w1 ⟨A3, m3, c3, rfl, ow3, R1, g1⟩; obtain ⟨p, hp⟩ : ∃ p : Pt, p = ⟨x.1.1, x.1.2.1, A3, m3, c3, x.1.2.2⟩ := ⟨_, rfl⟩)
          | ((with_reducible refine on_alloc ?_); refine wl_newBox rfl _ rfl z_part ?_; intro g5 w5 hg5 hl5 bp5 hb5)
          | ((with_reducible refine on_store_at (.tmp 8) ?_); refine wpt_store (r := Pt.zero) (s := ⟨x.1.1, x.1.2.1, A3, m3, c3, x.1.2.2⟩) rfl _ (.tmp 8) _ rfl st_part rfl rfl bp5 ?_; intro w6 bp6 hg6; have B6 : Below w1.heap.size w1 w6 := hb5.trans (below_of_grown hg6 (fun j e => by injection e with e; omega) hb5.size); have ow1 := ((ow.grown g1 (fun g' hA e => by have := ow.ow.row_ge g' (by rw [hA]; rfl); injection e with e; omega))).below B6; have R6 := R1.below B6; have z2 : w6.cell? ⟨g, 2, none⟩ = some (.int .i64 0) := by obtain ⟨⟨Ar, nr, cr, bxr, hrr, hnr, hlr⟩, hge⟩ := R6; rw [He.out] at bxr; exact bxr.cell 2)
          | ((with_reducible refine on_load (.tmp 8) ?_); refine wpt_box rfl _ (.tmp 8) rfl st_part rfl bp6 ?_)
          | ((with_reducible refine on_append (.tmp 21) (.tmp 23) ?_); refine wm_append Pt.cs_length rfl (.tmp 21) (.tmp 23) _ rfl el_part Pt.one rfl (ow1.alloc _) rfl (OwM.lit' (base := w6.heap.size) (e := 38) (xs := [⟨x.1.1, x.1.2.1, A3, m3, c3, x.1.2.2⟩]) Pt.cs_length w6 _ 1 _ rfl (Nat.le_refl _) (by simp [maxLen]) rfl rfl).rd (by omega) (by omega) (by have := B6.size; have := g1.size; simp; omega) ?_; intro A8 c8 w8 ow8 hg8 hb8))
        go_roundw
        case rel =>
          have k7 := below_alloc w6 (Nat.le_refl _) (.cells #[.int .u32 x.1.1, .int .u32 x.1.2.1, .slice A3 m3 c3] 38)
          have hra : ∀ j, rowOf A = some j → w.heap.size + 1 ≤ j := fun j hj => ow.ow.row_ge j hj
          have hs1 := g1.size
          have ow7 := ow1.below k7
          have rank : ∀ q : Pt, OwS iv w1 (w.heap.size + 1) 3 q.A q.n q.c q.rk → OwS iv w8 (w.heap.size + 1) 3 q.A q.n q.c q.rk := fun q hq => by
            have h7 := (hq.below B6).below k7
            exact h7.grown hg8 (h7.ow.apart ow7.ow (fun e => ty_pi e.symm))
          have hps : ∀ q ∈ ps ++ [⟨x.1.1, x.1.2.1, A3, m3, c3, x.1.2.2⟩], OwS iv w8 (w.heap.size + 1) 3 q.A q.n q.c q.rk := fun q hq => by
            rcases List.mem_append.1 hq with hq | hq
            · exact rank q ((Orr.out q hq).grown g1 (fun g' hA e => by have := (Orr.out q hq).ow.row_ge g' (by rw [hA]; rfl); injection e with e; omega))
            · obtain rfl : q = ⟨x.1.1, x.1.2.1, A3, m3, c3, x.1.2.2⟩ := by simpa using hq
              exact rank _ (ow3.base_le (by omega))
          have hok8 : ∀ q ∈ ps ++ [(⟨x.1.1, x.1.2.1, A3, m3, c3, x.1.2.2⟩ : Pt)], q.Ok := fun q hq => by
            rcases List.mem_append.1 hq with hq | hq
            · exact Hok.out q hq
            · obtain rfl : q = ⟨x.1.1, x.1.2.1, A3, m3, c3, x.1.2.2⟩ := by simpa using hq
              exact ⟨Hbd.out.1, Hbd.out.2⟩
          have R8 := (R6.below k7).grown hg8 (fun j e => by have := hra j e; omega)
          have bl8 := (((bl.grown g1 (fun e => by injection e with e; omega)).step B6).step k7).grown hg8 (fun e => by have := hra _ e; omega)
          have G1 := grown_trans hg g1
          have G2 := grown_new (row2 := none) G1 (grown_below B6) (fun j e => by cases e)
          have G3 := grown_new (row2 := none) G2 (grown_below k7) (fun j e => by cases e)
          have G8 := grown_new G3 hg8 (fun j e => by have := hra j e; omega)
          exact ⟨k + 1, c8, A8, _, x.2, by omega, by go_num, rfl, ow8, hps, hok8, R8, G8, by have := hg8.size; have := k7.size; have := B6.size; omega, bl8, by rw [List.map_append]; exact Hl2⟩
        case measure => simp [intOf]; omega
      · have hl2 := hl.out
        rw [show n - k = (n - (k + 1)) + 1 by omega, rlist_stop (by rw [hx]; exact he), hx, HL.out] at hl2
        have Hl2 := Lib.hid hl2
        clear hl2 hl hx
        have he2 : (x.2.2 != 0) = true := by simpa using he
        clear he
        go_wp2_with (first
          | (go_at_call 35; refine (Hc.out).mono ?_; rintro e w1 ⟨A3, m3, c3, rfl, ow3, R1, g1⟩)
          | ((with_reducible refine on_alloc ?_); refine wl_newBox rfl _ rfl z_part ?_; intro g5 w5 hg5 hl5 bp5 hb5)
          | ((with_reducible refine on_store_at (.tmp 8) ?_); refine wpt_store (r := Pt.zero) (s := ⟨x.1.1, x.1.2.1, A3, m3, c3, x.1.2.2⟩) rfl _ (.tmp 8) _ rfl st_part rfl rfl bp5 ?_; intro w6 bp6 hg6; have B6 : Below w1.heap.size w1 w6 := hb5.trans (below_of_grown hg6 (fun j e => by injection e with e; omega) hb5.size); have R6 := R1.below B6; have z2 : w6.cell? ⟨g, 2, none⟩ = some (.int .i64 x.2.2) := by obtain ⟨⟨Ar, nr, cr, bxr, hrr, hnr, hlr⟩, hge⟩ := R6; exact bxr.cell 2))
        go_ret
        rw [Hl2.out]
        exact ⟨none, 0, 0, [], rfl, PO.nil _ _, Lib.hid rfl, R6, grown_new (row2 := none) (grown_trans hg g1) (grown_below B6) (fun j e => by cases e)⟩
    · obtain rfl : k = n := by omega
      go_wp2
      go_ret
      have hl2 := hl.out
      rw [HL.out, Nat.sub_self] at hl2
      subst hl2
      exact ⟨A, _, c, ps, rfl, ⟨ow.base_le (by omega), fun p hp => (Orr.out p hp).base_le (by omega), Hok.out⟩, Lib.hid rfl, R, hg⟩
end Go.Proofs.Ytjambnlocjjjpaa
