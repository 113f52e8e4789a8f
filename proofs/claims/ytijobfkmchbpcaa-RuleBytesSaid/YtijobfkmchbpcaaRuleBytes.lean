/-
  theseuslaw07.RuleBytes: the walk.
-/
import Derived.Test.YtijobfkmchbpcaaRuleBackLaw
import Derived.Test.YtijobfkmchbpcaaRuleOrder
import Derived.Test.YtijobfkmchbpcaaNumRow
import Derived.Deep.DeepCutAuto
namespace Go.Th
open Go.RowKit
theorem OwS.apart {α : Type} {f : α → Value} {w w' : World} {base e n c g : Nat} {A : Option Addr} {xs : List α} (h : OwS f w base e A n c xs) (hg : w.grownBy w' (some g)) (hlt : g < base) : OwS f w' base e A n c xs :=
  h.grown hg (fun g2 hA e => by
    injection e with e
    rcases h.ow.form with ⟨e2, _⟩ | ⟨g', e2, hb, _⟩
    · rw [e2] at hA; cases hA
    · rw [e2] at hA; injection hA with hA; injection hA with hA; omega)
end Go.Th
namespace Go.Proofs.Ytijobfkmchbpcaa
open Go.RowKit Go.Th
set_option linter.unusedVariables false
theorem bytes_cat2 (x y : List UInt8) : ((⟨x.toArray⟩ : ByteArray) ++ ⟨y.toArray⟩) = ⟨(x ++ y).toArray⟩ := by
  apply ByteArray.ext
  simp [ByteArray.data_append]
theorem bytes_list (x : List UInt8) : (⟨x.toArray⟩ : ByteArray).toList = x := by simp
theorem bytes_cat3 (a b c p : List UInt8) (h : p = a ++ b ++ c) : ((⟨a.toArray⟩ : ByteArray) ++ ⟨b.toArray⟩ ++ ⟨c.toArray⟩).toList = p := by
  rw [bytes_cat2, bytes_cat2, bytes_list, h]
theorem put_bad (r : Ru) (h : 0 ≤ r.a ∧ r.a ≤ 4294967295) (hf : ∃ j, j < 4 ∧ ¬ Fit1 r j) (w : World) : Calls Try.prog 22 #[.agg #[.int .u32 r.a, .int .i64 r.n, .int .i64 r.act, .int .i64 r.next]] w fun e w' => ∃ A c, e = .returned (.tuple #[.slice A 0 c, .int .i64 1]) ∧ Below w.heap.size w w' := by
  refine (rulePut r h w).mono fun e w' hh => ?_
  obtain ⟨A, n, c, rfl, how, hb⟩ := hh.2 hf
  have hn : n = 0 := how.len.symm
  subst hn
  exact ⟨A, c, rfl, hb⟩
set_option maxRecDepth 100000 in
set_option maxHeartbeats 8000000 in
theorem ruleBytes_walk (x : Ru) {w : World} (hx : x.Ok) (wh : Int) (hwh : 0 ≤ wh ∧ wh ≤ 255) (by_ : Int) (hby : 0 ≤ by_ ∧ by_ ≤ 65535) :
    Calls Try.prog 6 #[x.v, .int .u8 wh, .int .u16 by_] w fun e w' => e = .returned (.bool true) ∧ Below w.heap.size w w' := by
  show Calls Try.prog 6 #[.agg #[.int .u32 x.a, .int .i64 x.n, .int .i64 x.act, .int .i64 x.next], .int .u8 wh, .int .u16 by_] w _
  obtain ⟨hwh0, hwh1⟩ := hwh
  obtain ⟨hby0, hby1⟩ := hby
  obtain ⟨r, hrr⟩ : ∃ r, x.fit 256 = r := ⟨_, rfl⟩
  have hfr : ∀ j, j < 4 → Fit1 r j := by rw [← hrr]; exact fit1_fit x hx
  have hor : r.Ok := by rw [← hrr]; exact Ru.fit_ok x _ hx (by omega)
  have h0 : 0 ≤ r.a ∧ r.a < 4294967296 := hfr 0 (by omega)
  have h1 : 0 ≤ r.n ∧ r.n < 256 := hfr 1 (by omega)
  have h2 : 0 ≤ r.act ∧ r.act < 256 := hfr 2 (by omega)
  have h3 : 0 ≤ r.next ∧ r.next < 65536 := hfr 3 (by omega)
  have hm3 : wh % 3 = 0 ∨ wh % 3 = 1 ∨ wh % 3 = 2 := by omega
  have hrow : ∀ z ∈ [r.n, r.act], Fits 1 z := by
    intro z hz
    simp only [List.mem_cons, List.not_mem_nil, or_false] at hz
    rcases hz with rfl | rfl
    · exact ⟨h1.1, by omega⟩
    · exact ⟨h2.1, by omega⟩
  have hcat : pre r 4 = be r.a.toNat 4 ++ rowB 1 [r.n, r.act] ++ be r.next.toNat 2 := by
    rw [pre_four]
    simp [rowB, List.append_assoc]
  obtain ⟨p, hp⟩ : ∃ p, pre r 4 = p := ⟨_, rfl⟩
  obtain ⟨pa, hpa⟩ : ∃ l, be r.a.toNat 4 = l := ⟨_, rfl⟩
  obtain ⟨pb, hpb⟩ : ∃ l, rowB 1 [r.n, r.act] = l := ⟨_, rfl⟩
  obtain ⟨pc, hpc⟩ : ∃ l, be r.next.toNat 2 = l := ⟨_, rfl⟩
  rw [hp, hpa, hpb, hpc] at hcat
  have Hrr := Lib.hid hrr
  have Hfr := Lib.hid hfr
  have Hor := Lib.hid hor
  have Hp := Lib.hid hp
  have Hpa := Lib.hid hpa
  have Hpb := Lib.hid hpb
  have Hpc := Lib.hid hpc
  have H0 := Lib.hid h0
  have H3 := Lib.hid h3
  have Hrow := Lib.hid hrow
  have Hcat := Lib.hid hcat
  clear hrr hfr hor hp hpa hpb hpc h0 h1 h2 h3 hrow hcat
  go_enter Try.func6, Try.ntmps6
  go_wp2_with fail
  refine (shown7 _).mono ?_
  rintro e w1 ⟨rfl, hb1⟩
  have bxx := (Box.new w x.cs.toArray 25).step hb1
  have B1 : Below w.heap.size w w1 := (below_alloc w (Nat.le_refl _) (.cells x.cs.toArray 25)).trans (hb1.mono (by simp))
  have z1 := B1.size
  clear hb1
  go_wp2_with ((with_reducible refine on_load (.tmp 3) ?_); refine wr_box rfl _ (.tmp 3) rfl st_rule rfl bxx ?_)
  refine (rfit_is x 256 w1 hx (by omega) r Hrr.out).mono ?_
  rintro e w2 ⟨rfl, hb2⟩
  have B2 := B1.trans (hb2.mono z1)
  have z2 := B2.size
  go_upto_region 3 with ((with_reducible refine on_store_at (.tmp 8) ?_); refine wr_store (r := ⟨0, 0, 0, 0⟩) (s := r) rfl _ (.tmp 8) _ rfl st_rule rfl rfl (Box.new w2 _ _) ?_; intro w3 bx8 hg3)
  have B3 := B2.trans ((below_alloc w2 z2 (.cells (Ru.cs ⟨0, 0, 0, 0⟩).toArray 25)).trans (below_of_grown hg3 (fun j e => by injection e with e; omega) (by simp; omega)))
  have z3 := B3.size
  have hg2 : w2.heap.size < w3.heap.size := bx8.lt
  clear bxx hb2 hg3
  go_wp2_with ((with_reducible refine on_load (.tmp 8) ?_); refine wr_box rfl _ (.tmp 8) rfl st_rule rfl bx8 ?_)
  refine (put_fits r Hor.out.a Hfr.out p Hp.out w3).mono ?_
  rintro e w4 ⟨A9, c9, rfl, ow9, hb4⟩
  have B4 := B3.trans (hb4.mono z3)
  have z4 := B4.size
  have bx84 := bx8.step hb4
  obtain ⟨c0, c1, c2, c3⟩ := bx84.rule
  have ha0 := H0.out.1
  have ha1 := H0.out.2
  have s34 := hb4.size
  clear bx8 hb4
  go_wp2_with fail
  refine (put_yes r.a 4 w4 (by omega) (by omega) H0.out.1 (by have := H0.out; omega)).mono ?_
  rintro e w5 ⟨A11, c11, rfl, ow11, hb5⟩
  rw [Hpa.out] at ow11
  have B5 := B4.trans (hb5.mono z4)
  have z5 := B5.size
  have bx85 := bx84.step hb5
  have ow9 := ow9.below hb5
  have s45 := hb5.size
  clear c0 c1 c2 c3 bx84 hb5
  obtain ⟨c0, c1, c2, c3⟩ := bx85.rule
  go_wp2_with fail
  have olit := OwS.lit (base := w5.heap.size) (e := 3) (f := iv) (xs := [r.n, r.act]) w5 #[.int .i64 r.n, .int .i64 r.act] 2 (Nat.le_refl _) (by simp [maxLen]) rfl rfl
  refine (row_any 1 (some ⟨w5.heap.size, 0, none⟩) 2 2 _ (by omega) (by omega) (by omega) [r.n, r.act] _ (Nat.le_refl _) olit.rd).mono ?_
  rintro e w6 hh
  obtain ⟨A13, c13, rfl, ow13, hb6⟩ := hh.1 Hrow.out
  rw [Hpb.out] at ow13
  have hb56 : Below w5.heap.size w5 w6 := (below_alloc w5 (Nat.le_refl _) _).trans (hb6.mono (by simp))
  have ow13 := ow13.base_le (base' := w5.heap.size) (by simp)
  have B6 := B5.trans (hb56.mono z5)
  have z6 := B6.size
  have bx86 := bx85.step hb56
  have ow9 := ow9.below hb56
  have ow11 := ow11.below hb56
  have s56 := hb56.size
  clear c0 c1 c2 c3 bx85 hb6 hh olit
  obtain ⟨c0, c1, c2, c3⟩ := bx86.rule
  go_wp2_with fail
  refine (put_yes r.next 2 w6 (by omega) (by omega) H3.out.1 (by have := H3.out; omega)).mono ?_
  rintro e w7 ⟨A15, c15, rfl, ow15, hb7⟩
  rw [Hpc.out] at ow15
  have B7 := B6.trans (hb7.mono z6)
  have z7 := B7.size
  have bx87 := bx86.step hb7
  have ow9 := ow9.below hb7
  have ow11 := ow11.below hb7
  have ow13 := ow13.below hb7
  clear c0 c1 c2 c3 bx86 hb7
  obtain ⟨c0, c1, c2, c3⟩ := bx87.rule
  have f1 := bx87.frozen 1
  have f2 := bx87.frozen 2
  have f3 := bx87.frozen 3
  rcases hm3 with hm3 | hm3 | hm3
  · obtain ⟨bxA, gA⟩ := bx87.setCell 1 (.int .i64 (256 + by_))
    have bxA : Box _ w2.heap.size 25 (Ru.cs ⟨r.a, 256 + by_, r.act, r.next⟩).toArray := bxA
    have o9 := ow9.apart gA hg2
    have o11 := ow11.apart gA (by omega)
    have o13 := ow13.apart gA (by omega)
    have o15 := ow15.apart gA (by omega)
    have B8 := B7.trans (below_of_grown gA (fun j e => by injection e with e; omega) z7)
    go_upto_region 13 with fail
    generalize w7.setCell ⟨w2.heap.size, 1, none⟩ (.int .i64 (256 + by_)) = w8 at bxA o9 o11 o13 o15 B8 ⊢
    clear c0 c1 c2 c3 f1 f2 f3 bx87 ow9 ow11 ow13 ow15 gA
    have z8 := B8.size
    go_wp2_with ((with_reducible refine on_load (.tmp 8) ?_); refine wr_box (r := ⟨r.a, 256 + by_, r.act, r.next⟩) rfl _ (.tmp 8) rfl st_rule rfl bxA ?_)
    refine (put_bad ⟨r.a, 256 + by_, r.act, r.next⟩ Hor.out.a ⟨1, by omega, fun h => by have h : 0 ≤ 256 + by_ ∧ 256 + by_ < 256 := h; omega⟩ w8).mono ?_
    rintro e w9 ⟨A17, c17, rfl, hb9⟩
    have o9 := (o9.below hb9).rd
    have o11 := (o11.below hb9).rd
    have o13 := (o13.below hb9).rd
    have o15 := (o15.below hb9).rd
    have hcat3 := bytes_cat3 pa pb pc p Hcat.out
    have la : pa.length = 4 := o11.len
    have lb : pb.length = 2 := o13.len
    have lc : pc.length = 2 := o15.len
    have la2 : pa.length < 5 := by omega
    have lb2 : pb.length < 3 := by omega
    have lc2 : pc.length < 3 := by omega
    clear la lb lc
    go_wp2_with (first
      | ((with_reducible refine on_convert (.tmp 90) ?_); refine wl_strS rfl _ _ (.tmp 90) rfl el_u8 Try.underlying5 Try.underlying9 rfl o9 ?_)
      | ((with_reducible refine on_convert (.tmp 92) ?_); refine wl_strS rfl _ _ (.tmp 92) rfl el_u8 Try.underlying5 Try.underlying9 rfl o11 ?_)
      | ((with_reducible refine on_convert (.tmp 94) ?_); refine wl_strS rfl _ _ (.tmp 94) rfl el_u8 Try.underlying5 Try.underlying9 rfl o13 ?_)
      | ((with_reducible refine on_convert (.tmp 97) ?_); refine wl_strS rfl _ _ (.tmp 97) rfl el_u8 Try.underlying5 Try.underlying9 rfl o15 ?_))
    go_ret
    exact ⟨rfl, B8.trans (hb9.mono z8)⟩
  · obtain ⟨bxA, gA⟩ := bx87.setCell 2 (.int .i64 (-1 - by_))
    have bxA : Box _ w2.heap.size 25 (Ru.cs ⟨r.a, r.n, -1 - by_, r.next⟩).toArray := bxA
    have o9 := ow9.apart gA hg2
    have o11 := ow11.apart gA (by omega)
    have o13 := ow13.apart gA (by omega)
    have o15 := ow15.apart gA (by omega)
    have B8 := B7.trans (below_of_grown gA (fun j e => by injection e with e; omega) z7)
    go_upto_region 13 with fail
    generalize w7.setCell ⟨w2.heap.size, 2, none⟩ (.int .i64 (-1 - by_)) = w8 at bxA o9 o11 o13 o15 B8 ⊢
    clear c0 c1 c2 c3 f1 f2 f3 bx87 ow9 ow11 ow13 ow15 gA
    have z8 := B8.size
    go_wp2_with ((with_reducible refine on_load (.tmp 8) ?_); refine wr_box (r := ⟨r.a, r.n, -1 - by_, r.next⟩) rfl _ (.tmp 8) rfl st_rule rfl bxA ?_)
    refine (put_bad ⟨r.a, r.n, -1 - by_, r.next⟩ Hor.out.a ⟨2, by omega, fun h => by have h : 0 ≤ -1 - by_ ∧ -1 - by_ < 256 := h; omega⟩ w8).mono ?_
    rintro e w9 ⟨A17, c17, rfl, hb9⟩
    have o9 := (o9.below hb9).rd
    have o11 := (o11.below hb9).rd
    have o13 := (o13.below hb9).rd
    have o15 := (o15.below hb9).rd
    have hcat3 := bytes_cat3 pa pb pc p Hcat.out
    have la : pa.length = 4 := o11.len
    have lb : pb.length = 2 := o13.len
    have lc : pc.length = 2 := o15.len
    have la2 : pa.length < 5 := by omega
    have lb2 : pb.length < 3 := by omega
    have lc2 : pc.length < 3 := by omega
    clear la lb lc
    go_wp2_with (first
      | ((with_reducible refine on_convert (.tmp 90) ?_); refine wl_strS rfl _ _ (.tmp 90) rfl el_u8 Try.underlying5 Try.underlying9 rfl o9 ?_)
      | ((with_reducible refine on_convert (.tmp 92) ?_); refine wl_strS rfl _ _ (.tmp 92) rfl el_u8 Try.underlying5 Try.underlying9 rfl o11 ?_)
      | ((with_reducible refine on_convert (.tmp 94) ?_); refine wl_strS rfl _ _ (.tmp 94) rfl el_u8 Try.underlying5 Try.underlying9 rfl o13 ?_)
      | ((with_reducible refine on_convert (.tmp 97) ?_); refine wl_strS rfl _ _ (.tmp 97) rfl el_u8 Try.underlying5 Try.underlying9 rfl o15 ?_))
    go_ret
    exact ⟨rfl, B8.trans (hb9.mono z8)⟩
  · obtain ⟨bxA, gA⟩ := bx87.setCell 3 (.int .i64 (65536 + by_))
    have bxA : Box _ w2.heap.size 25 (Ru.cs ⟨r.a, r.n, r.act, 65536 + by_⟩).toArray := bxA
    have o9 := ow9.apart gA hg2
    have o11 := ow11.apart gA (by omega)
    have o13 := ow13.apart gA (by omega)
    have o15 := ow15.apart gA (by omega)
    have B8 := B7.trans (below_of_grown gA (fun j e => by injection e with e; omega) z7)
    go_upto_region 13 with fail
    generalize w7.setCell ⟨w2.heap.size, 3, none⟩ (.int .i64 (65536 + by_)) = w8 at bxA o9 o11 o13 o15 B8 ⊢
    clear c0 c1 c2 c3 f1 f2 f3 bx87 ow9 ow11 ow13 ow15 gA
    have z8 := B8.size
    go_wp2_with ((with_reducible refine on_load (.tmp 8) ?_); refine wr_box (r := ⟨r.a, r.n, r.act, 65536 + by_⟩) rfl _ (.tmp 8) rfl st_rule rfl bxA ?_)
    refine (put_bad ⟨r.a, r.n, r.act, 65536 + by_⟩ Hor.out.a ⟨3, by omega, fun h => by have h : 0 ≤ 65536 + by_ ∧ 65536 + by_ < 65536 := h; omega⟩ w8).mono ?_
    rintro e w9 ⟨A17, c17, rfl, hb9⟩
    have o9 := (o9.below hb9).rd
    have o11 := (o11.below hb9).rd
    have o13 := (o13.below hb9).rd
    have o15 := (o15.below hb9).rd
    have hcat3 := bytes_cat3 pa pb pc p Hcat.out
    have la : pa.length = 4 := o11.len
    have lb : pb.length = 2 := o13.len
    have lc : pc.length = 2 := o15.len
    have la2 : pa.length < 5 := by omega
    have lb2 : pb.length < 3 := by omega
    have lc2 : pc.length < 3 := by omega
    clear la lb lc
    go_wp2_with (first
      | ((with_reducible refine on_convert (.tmp 90) ?_); refine wl_strS rfl _ _ (.tmp 90) rfl el_u8 Try.underlying5 Try.underlying9 rfl o9 ?_)
      | ((with_reducible refine on_convert (.tmp 92) ?_); refine wl_strS rfl _ _ (.tmp 92) rfl el_u8 Try.underlying5 Try.underlying9 rfl o11 ?_)
      | ((with_reducible refine on_convert (.tmp 94) ?_); refine wl_strS rfl _ _ (.tmp 94) rfl el_u8 Try.underlying5 Try.underlying9 rfl o13 ?_)
      | ((with_reducible refine on_convert (.tmp 97) ?_); refine wl_strS rfl _ _ (.tmp 97) rfl el_u8 Try.underlying5 Try.underlying9 rfl o15 ?_))
    go_ret
    exact ⟨rfl, B8.trans (hb9.mono z8)⟩
end Go.Proofs.Ytijobfkmchbpcaa
