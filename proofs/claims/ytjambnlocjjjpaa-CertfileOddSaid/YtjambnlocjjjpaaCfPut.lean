/-
  certfile.Put of a certificate that may be.
-/
import Derived.Test.YtjambnlocjjjpaaCfWrite
import Derived.Deep.DeepCutAuto
namespace Go.Proofs.Ytjambnlocjjjpaa
open Go.RowKit Go.Th
set_option linter.unusedVariables false
theorem rowB_one (s : Nat) (z : Int) : rowB s [z] = be z.toNat s := by simp [rowB]
theorem gN_one (z : Int) : gN [z] = gput z.toNat := by simp [gN]
set_option maxRecDepth 100000 in
set_option maxHeartbeats 4000000 in
theorem cfput_loops (Ap : Option Addr) (cp : Nat) (d : Int) (At : Option Addr) (nt ct : Nat) (nodes : Nat) (w : World) (hn : nodes ≤ 256) (hd : 0 ≤ d ∧ d ≤ 4294967295) (hnt : nt ≤ 256) (B : Nat) (hB : B ≤ w.heap.size) (hp : PRd w B Ap 0 cp []) (tr : List Int) (ht : RdS iv w B At nt ct tr) (htr : ∀ x ∈ tr, 0 ≤ x ∧ x < 268435456) (hm : cmay 2 [] d tr nodes = 0) :
    Calls Try.prog 11 #[.agg #[.int .i64 2, .slice Ap 0 cp, .int .u32 d, .slice At nt ct], .int .i64 nodes] w (RetBs (fput 1129468977 (cbody 2 [] d tr nodes)) 0 w) := by
  have hl := ht.len
  subst hl
  have hmay := fun w1 (hb : Below w.heap.size w w1) => cmay_is 2 Ap 0 cp d At tr.length ct nodes w1 (by omega) (by omega) [] tr B (Nat.le_trans hB hb.size) (hp.step hb) (ht.step hb) (fun x hx => by have := htr x hx; omega) (by simp) 0 hm
  have n1 : decide ((nodes : Int) < 0) = false := by simp
  have n2 : decide ((nodes : Int) > 256) = false := by simp; omega
  have bx := Box.new w (Cv 2 Ap 0 cp d At tr.length ct) 26
  have k1 := below_alloc w (Nat.le_refl _) (.cells (Cv 2 Ap 0 cp d At tr.length ct) 26)
  have Hmay := Lib.hid hmay
  have Hm := Lib.hid hm
  have Htr := Lib.hid htr
  have Hd := Lib.hid hd
  clear hmay hm htr hd
  go_enter Try.func11, Try.ntmps11
  go_upto_region 6 with (first
    | ((with_reducible refine on_load (.tmp 2) ?_); refine wcv_box rfl (.tmp 2) rfl rfl bx ?_)
    | (go_at_call 20; refine (Hmay.out _ k1).mono ?_; rintro e w2 ⟨rfl, hb2⟩))
  have bx2 := bx.step hb2
  have gl2 : w.heap.size < w2.heap.size := bx2.lt
  have k2 := k1.trans (hb2.mono k1.size)
  have ht2 := (ht.step k2).heap
  clear bx k1 hb2 Hmay hp ht
  go_upto_region 7 with fail
  have W3 : Wr (w2.alloc (.cells #[.slice none 0 0, .int .i64 0] 63)) w2.heap.size w2.heap.size [] := ⟨⟨none, 0, 0, Box.new _ _ _, OwS.nil_ _ _ _⟩, Nat.le_refl _⟩
  have B3 : WBel w2.heap.size w2 (w2.alloc (.cells #[.slice none 0 0, .int .i64 0] 63)) := .of_below (Nat.le_refl _) (below_alloc w2 (Nat.le_refl _) _)
  obtain ⟨w3, hw3⟩ : ∃ W, w2.alloc (.cells #[.slice none 0 0, .int .i64 0] 63) = W := ⟨_, rfl⟩
  rw [hw3] at W3 B3 ⊢
  clear hw3
  have bx3 := bx2.below B3.b gl2
  have c0 : w3.cell? ⟨w.heap.size, 0, none⟩ = some (.int .i64 2) := bx3.cell 0
  go_upto_region 8 with (go_at_call 24; refine (wnum_lit w2.heap.size w2.heap.size [] 1 [2] 1 #[.int .i64 2] w3 B3.b.size W3 (by simp) (by omega) (by simp [Fits]) rfl (by omega) rfl).mono ?_; rintro e w4 ⟨rfl, W4, B4⟩)
  have B4' := B3.trans B4
  clear B4 W3 B3 bx3 c0
  rw [List.nil_append, rowB_one] at W4
  go_upto_region 9 with (go_at_call 25; refine (wgroup_lit w2.heap.size w2.heap.size _ [(nodes : Int)] 1 #[.int .i64 nodes] w4 B4'.b.size W4 (by simp [be_length]) (by simp; omega) rfl (by omega) rfl).mono ?_; rintro e w5 ⟨rfl, W5, B5⟩)
  have B5' := B4'.trans B5
  clear B5 W4 B4'
  rw [gN_one] at W5
  have bx5 := bx2.below B5'.b gl2
  have c0 : w5.cell? ⟨w.heap.size, 0, none⟩ = some (.int .i64 2) := bx5.cell 0
  have c2 : w5.cell? ⟨w.heap.size, 2, none⟩ = some (.int .u32 d) := bx5.cell 2
  have hd := Hd.out
  go_upto_region 18 with (go_at_call 24; refine (wnum_lit w2.heap.size w2.heap.size _ 4 [d] 1 #[.int .i64 d] w5 B5'.b.size W5 (by simp [be_length, gput_length]; have := gsize_pos nodes; omega) (by omega) (by simp [Fits]; omega) rfl (by omega) rfl).mono ?_; rintro e w6 ⟨rfl, W6, B6⟩)
  have B6' := B5'.trans B6
  clear B6 W5 B5' bx5 c0 c2
  rw [rowB_one] at W6
  have bx6 := bx2.below B6'.b gl2
  have c3 : w6.cell? ⟨w.heap.size, 3, none⟩ = some (.slice At tr.length ct) := bx6.cell 3
  go_upto_region 19 with (go_at_call 25; refine (wgroup_lit w2.heap.size w2.heap.size _ [(tr.length : Int)] 1 #[.int .i64 tr.length] w6 B6'.b.size W6 (by simp [be_length, gput_length]; have := gsize_pos nodes; omega) (by simp; omega) rfl (by omega) rfl).mono ?_; rintro e w7 ⟨rfl, W7, B7⟩)
  have B7' := B6'.trans B7
  clear B7 W6 B6' bx6 c3
  rw [gN_one] at W7
  have bx7 := bx2.below B7'.b gl2
  have c3 : w7.cell? ⟨w.heap.size, 3, none⟩ = some (.slice At tr.length ct) := bx7.cell 3
  have ht7 := ht2.below B7'.b
  go_upto_region 20 with (go_at_call 25; refine (wgroup_any w2.heap.size w2.heap.size _ At _ ct tr w7 B7'.b.size W7 (by simp [be_length, gput_length]; have := gsize_pos nodes; have := gsize_pos tr.length; omega) Htr.out (by omega) ht7.heap (Apart.below ht7 (Nat.le_refl _))).mono ?_; rintro e w8 ⟨rfl, W8, B8⟩)
  have B8' := B7'.trans B8
  clear B8 W7 B7' bx7 c3 ht7
  have e8 : ∀ ns : Nat, (((be (2 : Int).toNat 1 ++ gput ns) ++ be d.toNat 4) ++ gput (tr.length : Int).toNat) ++ gN tr = cbody 2 [] d tr ns := fun ns => by simp [cbody]
  rw [Int.toNat_natCast, e8] at W8
  have hl8 : (cbody 2 [] d tr nodes).length ≤ 10000 := by
    have h1 := gN_len tr
    rw [← e8]
    simp only [List.length_append, be_length, gput_length]
    have := gsize_pos nodes; have := gsize_pos (tr.length : Int).toNat; omega
  obtain ⟨cb, hcb⟩ : ∃ cb, cbody 2 [] d tr nodes = cb := ⟨_, rfl⟩
  rw [hcb] at W8 hl8
  have Hcb := Lib.hid hcb
  clear hcb e8
  obtain ⟨⟨A, n, c, bw, ow⟩, hge⟩ := W8
  have hnl := ow.len
  subst hnl
  have y0 : w8.cell? ⟨w2.heap.size, 0, none⟩ = some (.slice A cb.length c) := bw.cell 0
  have y1 : w8.cell? ⟨w2.heap.size, 1, none⟩ = some (.int .i64 0) := bw.cell 1
  go_wp2_with (go_at_call 15; refine (fput_any 1129468977 (by omega) 1129468977 rfl A cb.length c w8 (by omega) cb ow.rd).mono ?_; rintro e w9 ⟨A9, n9, c9, rfl, ow9, hb9⟩)
  go_ret2
  rw [← Hcb.out] at ow9
  exact ⟨A9, n9, c9, rfl, ow9.base_le (Nat.le_trans k2.size B8'.b.size), (k2.trans (B8'.b.mono k2.size)).trans (hb9.mono (Nat.le_trans k2.size B8'.b.size))⟩
/-- The loop over the parts. -/
def CfRel (base g np : Nat) (pre : List UInt8) (ks : List PK) (w : World) (i : Value) (wr : World) : Prop :=
  ∃ k : Nat, k ≤ np ∧ i = .int .i64 k ∧ Wr wr base g (pre ++ pbodies (ks.take k)) ∧ WBel base w wr
theorem pbodies_take {ks : List PK} {k : Nat} {p : PK} (h : ks[k]? = some p) : pbodies (ks.take (k + 1)) = pbodies (ks.take k) ++ pbody p := by
  simp [pbodies, List.take_add_one, h]
theorem pbodies_le (ks : List PK) (k : Nat) : (pbodies (ks.take k)).length ≤ (pbodies ks).length := by
  have e : pbodies ks = pbodies (ks.take k) ++ pbodies (ks.drop k) := by
    unfold pbodies
    rw [← List.flatMap_append, List.take_append_drop]
  rw [e, List.length_append]
  omega
theorem rowB_two (s : Nat) (a b : Int) : rowB s [a, b] = be a.toNat s ++ be b.toNat s := by simp [rowB]
set_option maxRecDepth 100000 in
set_option maxHeartbeats 4000000 in
theorem cfput_free (Ap : Option Addr) (np cp : Nat) (At : Option Addr) (ct : Nat) (nodes : Nat) (w : World) (hn : nodes ≤ 256) (ps : List Pt) (B : Nat) (hB : B ≤ w.heap.size) (hp : PRd w B Ap np cp ps) (ht : RdS iv w B At 0 ct []) (hin : np ≤ 8193 ∧ ∀ p ∈ ps, PKin nodes (pkey p)) (hm : cmay 1 ps 0 [] nodes = 0) (hlen : (cbody 1 (ps.map pkey) 0 [] nodes).length ≤ 1000000) :
    Calls Try.prog 11 #[.agg #[.int .i64 1, .slice Ap np cp, .int .u32 0, .slice At 0 ct], .int .i64 nodes] w (RetBs (fput 1129468977 (cbody 1 (ps.map pkey) 0 [] nodes)) 0 w) := by
  obtain ⟨hnp, hks⟩ := hin
  have hsm : ∀ p ∈ ps, p.n ≤ 256 := fun p hp2 => by
    have h1 := (hks p hp2).2.2.1
    have h2 := (hp.rk p hp2).len
    have h3 : ((p.rk.length : Nat) : Int) = nodes := h1
    omega
  have hpl := hp.rd.len
  have hmay := fun w1 (hb : Below w.heap.size w w1) => cmay_is 1 Ap np cp 0 At 0 ct nodes w1 (by omega) (by omega) ps [] B (Nat.le_trans hB hb.size) (hp.step hb) (ht.step hb) (by simp) (fun p hp2 => by have := hsm p hp2; omega) 0 hm
  have n1 : decide ((nodes : Int) < 0) = false := by simp
  have n2 : decide ((nodes : Int) > 256) = false := by simp; omega
  have bx := Box.new w (Cv 1 Ap np cp 0 At 0 ct) 26
  have k1 := below_alloc w (Nat.le_refl _) (.cells (Cv 1 Ap np cp 0 At 0 ct) 26)
  have Hmay := Lib.hid hmay
  have Hm := Lib.hid hm
  have Hks := Lib.hid hks
  have Hsm := Lib.hid hsm
  have Hpl := Lib.hid hpl
  have Hlen := Lib.hid hlen
  clear hmay hm hks hsm hpl hlen
  go_enter Try.func11, Try.ntmps11
  go_upto_region 6 with (first
    | ((with_reducible refine on_load (.tmp 2) ?_); refine wcv_box rfl (.tmp 2) rfl rfl bx ?_)
    | (go_at_call 20; refine (Hmay.out _ k1).mono ?_; rintro e w2 ⟨rfl, hb2⟩))
  have bx2 := bx.step hb2
  have gl2 : w.heap.size < w2.heap.size := bx2.lt
  have k2 := k1.trans (hb2.mono k1.size)
  have hp2 := (hp.step k2).heap
  clear bx k1 hb2 Hmay hp ht
  go_upto_region 7 with fail
  have W3 : Wr (w2.alloc (.cells #[.slice none 0 0, .int .i64 0] 63)) w2.heap.size w2.heap.size [] := ⟨⟨none, 0, 0, Box.new _ _ _, OwS.nil_ _ _ _⟩, Nat.le_refl _⟩
  have B3 : WBel w2.heap.size w2 (w2.alloc (.cells #[.slice none 0 0, .int .i64 0] 63)) := .of_below (Nat.le_refl _) (below_alloc w2 (Nat.le_refl _) _)
  obtain ⟨w3, hw3⟩ : ∃ W, w2.alloc (.cells #[.slice none 0 0, .int .i64 0] 63) = W := ⟨_, rfl⟩
  rw [hw3] at W3 B3 ⊢
  clear hw3
  have bx3 := bx2.below B3.b gl2
  have c0 : w3.cell? ⟨w.heap.size, 0, none⟩ = some (.int .i64 1) := bx3.cell 0
  go_upto_region 8 with (go_at_call 24; refine (wnum_lit w2.heap.size w2.heap.size [] 1 [1] 1 #[.int .i64 1] w3 B3.b.size W3 (by simp) (by omega) (by simp [Fits]) rfl (by omega) rfl).mono ?_; rintro e w4 ⟨rfl, W4, B4⟩)
  have B4' := B3.trans B4
  clear B4 W3 B3 bx3 c0
  rw [List.nil_append, rowB_one] at W4
  go_upto_region 9 with (go_at_call 25; refine (wgroup_lit w2.heap.size w2.heap.size _ [(nodes : Int)] 1 #[.int .i64 nodes] w4 B4'.b.size W4 (by simp [be_length]) (by simp; omega) rfl (by omega) rfl).mono ?_; rintro e w5 ⟨rfl, W5, B5⟩)
  have B5' := B4'.trans B5
  clear B5 W4 B4'
  rw [gN_one] at W5
  have bx5 := bx2.below B5'.b gl2
  have c0 : w5.cell? ⟨w.heap.size, 0, none⟩ = some (.int .i64 1) := bx5.cell 0
  have c1 : w5.cell? ⟨w.heap.size, 1, none⟩ = some (.slice Ap np cp) := bx5.cell 1
  go_upto_region 11 with (go_at_call 25; refine (wgroup_lit w2.heap.size w2.heap.size _ [(np : Int)] 1 #[.int .i64 np] w5 B5'.b.size W5 (by simp [be_length, gput_length]; have := gsize_pos nodes; omega) (by simp; omega) rfl (by omega) rfl).mono ?_; rintro e w6 ⟨rfl, W6, B6⟩)
  have B6' := B5'.trans B6
  clear B6 W5 B5' bx5 c0 c1
  rw [gN_one] at W6
  have bx6 := bx2.below B6'.b gl2
  have c1 : w6.cell? ⟨w.heap.size, 1, none⟩ = some (.slice Ap np cp) := bx6.cell 1
  have hp6 := hp2.below B6'.b
  have e8 : ((be (1 : Int).toNat 1 ++ gput (nodes : Int).toNat) ++ gput (np : Int).toNat) ++ pbodies (ps.map pkey) = cbody 1 (ps.map pkey) 0 [] nodes := by simp [cbody, Hpl.out]
  obtain ⟨pre, hpre⟩ : ∃ pre, (be (1 : Int).toNat 1 ++ gput (nodes : Int).toNat) ++ gput (np : Int).toNat = pre := ⟨_, rfl⟩
  rw [hpre] at W6 e8
  clear hpre
  have E8 := Lib.hid e8
  clear e8
  go_wp2_with fail
  go_loopw [45] (fun i wr => CfRel w2.heap.size w2.heap.size np pre (ps.map pkey) w6 i wr) (fun i _ => np - (intOf i).toNat)
  case atStart => exact ⟨0, by omega, rfl, by simpa [pbodies] using W6, .refl _ _⟩
  case round =>
    obtain ⟨k, hk, rfl, WR, hb⟩ := hrel
    have hpr := hp6.below hb.b
    have hkl : (pre ++ pbodies ((ps.map pkey).take k)).length ≤ 1000000 := by
      have h1 := Hlen.out
      rw [← E8.out] at h1
      have h2 := pbodies_le (ps.map pkey) k
      simp only [List.length_append] at h1 ⊢
      omega
    have hbr := Nat.le_trans B6'.b.size hb.b.size
    by_cases hlt : k < np
    · obtain ⟨p, hpk⟩ : ∃ p, ps[k]? = some p := ⟨ps[k]'(by have := Hpl.out; omega), List.getElem?_eq_getElem _⟩
      have hpm := List.mem_of_getElem? hpk
      obtain ⟨q1, q2, q3, q4⟩ := Hks.out p hpm
      have hpn := Hsm.out p hpm
      have Hpb := Lib.hid (pbodies_take (ks := ps.map pkey) (k := k) (p := pkey p) (by rw [List.getElem?_map, hpk]; rfl))
      have hrk := hpr.rk p hpm
      have Hpk := Lib.hid hpk
      have q1a : 0 ≤ p.fr ∧ p.fr ≤ 4294967295 := q1
      have q2a : 0 ≤ p.to ∧ p.to ≤ 4294967295 := q2
      have Q4 := Lib.hid q4
      clear hpk hpm q1 q2 q3 q4
      obtain ⟨cs, hcs⟩ : ∃ cs, pre ++ pbodies ((ps.map pkey).take k) = cs := ⟨_, rfl⟩
      rw [hcs] at WR hkl
      have Hcs := Lib.hid hcs
      clear hcs
      go_wp2_with (first
        | ((with_reducible refine on_index (.tmp 43) ?_); refine wm_at Pt.cs_length rfl _ (.tmp 43) _ rfl el_part rfl rfl (by omega) (by omega) hpr.rd ?_; intro b1 j1 r1 hr1 hb1 hc1; have hxx : p = r1 := get_eq Hpk.out hr1.out (by omega); subst hxx)
        | ((with_reducible refine on_load (.tmp 47) ?_); refine wpt_load rfl _ (.tmp 47) rfl st_part rfl hc1 ?_)
        | ((with_reducible refine on_alloc ?_); refine wl_newBox rfl _ rfl z_part ?_; intro g5 w7 hg5 hl5 bp5 hb5)
        | ((with_reducible refine on_store_at (.tmp 9) ?_); refine wpt_store (r := Pt.zero) (s := p) rfl _ (.tmp 9) _ rfl st_part rfl rfl bp5 ?_; intro w8 bp6 hg6; have u0 : w8.cell? ⟨g5, 0, none⟩ = some (.int .u32 p.fr) := bp6.cell 0; have u1 : w8.cell? ⟨g5, 1, none⟩ = some (.int .u32 p.to) := bp6.cell 1; have bb8 : Below wr.heap.size wr w8 := hb5.trans (below_of_grown hg6 (fun j e => by injection e with e; omega) hb5.size); have WR8 := WR.below bb8)
        | (go_at_call 24; refine (wnum_lit w2.heap.size w2.heap.size cs 4 [p.fr, p.to] 2 #[.int .i64 p.fr, .int .i64 p.to] w8 (by have := bb8.size; omega) WR8 (by omega) (by omega) (by simp [Fits]; omega) rfl (by omega) rfl).mono ?_; rintro e w9 ⟨rfl, WR9, B9⟩; have bp9 := box_wbel bp6 B9 (by decide) (by decide); have u2 : w9.cell? ⟨g5, 2, none⟩ = some (.slice p.A p.n p.c) := bp9.cell 2; have B9' := (WBel.of_below hbr bb8).trans B9; have hrk9 := hrk.below B9'.b)
        | (go_at_call 25; refine (wgroup_any w2.heap.size w2.heap.size _ p.A p.n p.c p.rk w9 (by have := B9'.b.size; omega) WR9 (by simp [rowB_length]; omega) Q4.out (by omega) hrk9.heap (Apart.below hrk9 (Nat.le_refl _))).mono ?_; rintro e w10 ⟨rfl, W10, B10⟩))
      go_roundw
      case rel =>
        rw [rowB_two, List.append_assoc, List.append_assoc] at W10
        have ec : pre ++ pbodies ((ps.map pkey).take (k + 1)) = cs ++ (be p.fr.toNat 4 ++ (be p.to.toNat 4 ++ gN p.rk)) := by rw [Hpb.out, ← Hcs.out, List.append_assoc]; rfl
        exact ⟨k + 1, by omega, by go_num, by rw [ec]; exact W10, (hb.trans B9').trans B10⟩
      case measure => simp [intOf]; omega
    · obtain rfl : k = np := by omega
      have ek : pre ++ pbodies ((ps.map pkey).take k) = cbody 1 (ps.map pkey) 0 [] nodes := by rw [List.take_of_length_le (by simp [Hpl.out]), E8.out]
      obtain ⟨cb, hcb⟩ : ∃ cb, cbody 1 (ps.map pkey) 0 [] nodes = cb := ⟨_, rfl⟩
      rw [ek, hcb] at WR hkl
      have Hcb := Lib.hid hcb
      clear ek hcb
      have B8' := B6'.trans hb
      obtain ⟨⟨A, n, c, bw, ow⟩, hge⟩ := WR
      have hnl := ow.len
      subst hnl
      have y0 : wr.cell? ⟨w2.heap.size, 0, none⟩ = some (.slice A cb.length c) := bw.cell 0
      have y1 : wr.cell? ⟨w2.heap.size, 1, none⟩ = some (.int .i64 0) := bw.cell 1
      go_wp2_with (go_at_call 15; refine (fput_any 1129468977 (by omega) 1129468977 rfl A cb.length c wr (by omega) cb ow.rd).mono ?_; rintro e w9 ⟨A9, n9, c9, rfl, ow9, hb9⟩)
      go_ret2
      rw [← Hcb.out] at ow9
      exact ⟨A9, n9, c9, rfl, ow9.base_le (Nat.le_trans k2.size B8'.b.size), (k2.trans (B8'.b.mono k2.size)).trans (hb9.mono (Nat.le_trans k2.size B8'.b.size))⟩
/-- Put of a certificate that may be: its bytes. -/
theorem cfput_any (v : Int) (Ap : Option Addr) (np cp : Nat) (d : Int) (At : Option Addr) (nt ct : Nat) (nodes : Int) (w : World) (ps : List Pt) (tr : List Int) (B : Nat) (hB : B ≤ w.heap.size) (hp : PRd w B Ap np cp ps) (ht : RdS iv w B At nt ct tr) (hin : CIn v (ps.map pkey) d tr nodes) (hm : cmay v ps d tr nodes = 0) (hlen : (cbody v (ps.map pkey) d tr nodes).length ≤ 1000000) (bs : List UInt8) (hbs : fput 1129468977 (cbody v (ps.map pkey) d tr nodes) = bs) :
    Calls Try.prog 11 #[.agg #[.int .i64 v, .slice Ap np cp, .int .u32 d, .slice At nt ct], .int .i64 nodes] w (RetBs bs 0 w) := by
  subst hbs
  obtain ⟨⟨h1, h2⟩, hk⟩ := hin
  obtain ⟨N, rfl⟩ := Int.eq_ofNat_of_zero_le h1
  have hl1 := hp.rd.len
  have hl2 := ht.len
  rcases hk with ⟨rfl, rfl, rfl, a, b⟩ | ⟨rfl, a, b, c, e⟩
  · obtain rfl : nt = 0 := by simpa using hl2.symm
    exact cfput_free Ap np cp At ct N w (by omega) ps B hB hp ht ⟨by simpa [hl1] using a, fun p hp2 => b _ (List.mem_map.2 ⟨p, hp2, rfl⟩)⟩ hm hlen
  · obtain rfl : ps = [] := by simpa using a
    obtain rfl : np = 0 := by simpa using hl1.symm
    exact cfput_loops Ap cp d At nt ct N w (by omega) b (by omega) B hB hp tr ht e hm
end Go.Proofs.Ytjambnlocjjjpaa
