/-
  theseuslaw17.CertSpoilt: the walk, where a loop is made.
-/
import Derived.Test.YteellpcagdnikaaCertUnlike
import Derived.Test.YteellpcagdnikaaCertSpoiltLaw
import Derived.Test.YteellpcagdnikaaAppendK
namespace Go.Proofs.Yteellpcagdnikaa
open Go.RowKit Go.Th
set_option linter.unusedVariables false
/-- What the second one is behind the switch, and what is wanted. -/
def SpRel (B g9 : Nat) (v : Int) (d : Int) (ps8 : List Pt) (tr8 : List Int) (D : Nat) (w6 : World) (s11 : Value) (wx : World) : Prop :=
  ∃ (want : Int) (b : Bool) (v9 : Int) (A9 : Option Addr) (n9 c9 : Nat) (d9 : Int) (T9 : Option Addr) (nt9 ct9 : Nat) (ps9 : List Pt) (tr9 : List Int), s11 = .int .i64 want ∧ CBox wx g9 v9 A9 n9 c9 d9 T9 nt9 ct9 ps9 tr9 ∧ Hid (cmay v9 ps9 d9 tr9 D = want) ∧ Hid (csame v ps8 d tr8 v9 ps9 d9 tr9 = b) ∧ (want == 0) = b ∧ Below B w6 wx
set_option maxRecDepth 100000 in
set_option maxHeartbeats 4000000 in
theorem certSpoilt_loops (v : Int) (hv : bits .and .i64 v 1 = 0) (Ap : Option Addr) (np cp : Nat) (d : Int) (At : Option Addr) (nt ct : Nat) (ps : List Pt) (tr : List Int) {w : World} (ci : CertIn w v Ap np cp d At nt ct ps tr) (m0 k0 kb : Nat) (hm0 : m0 ≤ 255) (hk0 : k0 ≤ 255) (hkb : kb ≤ 255) :
    Calls Try.prog 8 #[.agg #[.int .i64 v, .slice Ap np cp, .int .u32 d, .slice At nt ct], .int .u8 m0, .agg #[.int .u8 k0, .int .u8 kb]] w fun e w' => e = .returned (.bool true) ∧ Below w.heap.size w w' := by
  obtain ⟨N, hN⟩ : ∃ N, min np 20 = N := ⟨_, rfl⟩
  obtain ⟨M, hM⟩ : ∃ M, min nt 20 = M := ⟨_, rfl⟩
  have HN := Lib.hid hN
  have HM := Lib.hid hM
  have hM1 : M ≤ 20 := by omega
  clear hN hM
  have bx := (Box.new w (Cv v Ap np cp d At nt ct) 29).alloc (.cells #[.int .u8 k0, .int .u8 kb] 45)
  have bk := Box.new (w.alloc (.cells (Cv v Ap np cp d At nt ct) 29)) #[.int .u8 k0, .int .u8 kb] 45
  rw [heap_size_alloc] at bk
  have k1 := (below_alloc w (Nat.le_refl _) (.cells (Cv v Ap np cp d At nt ct) 29)).alloc (by simp) (.cells #[.int .u8 k0, .int .u8 kb] 45)
  obtain ⟨K, hK, hK4⟩ : ∃ K, k0 % 8 = K ∧ K < 8 := ⟨_, rfl, Nat.mod_lt _ (by omega)⟩
  have HK : Hid ((k0 : Int) % 8 = (K : Int)) := Lib.hid (by omega)
  obtain ⟨D, hD⟩ : ∃ D, 1 + m0 % 8 = D := ⟨_, rfl⟩
  have hD1 : 1 ≤ D ∧ D ≤ 8 := by omega
  obtain ⟨hD2, hD3⟩ := hD1
  have HD : Hid (1 + (m0 : Int) % 8 = (D : Int)) := Lib.hid (by omega)
  obtain ⟨out, hout⟩ : ∃ out, ftrace D (tr.take 20) = out := ⟨_, rfl⟩
  obtain ⟨hF, hFn⟩ := ftrace_ok (n := D) (by omega) (tr.take 20)
  rw [hout] at hF hFn
  have hF3 : out.length ≤ D := FTr.len hF
  have hF0 : 0 < out.length := List.length_pos_iff.2 hFn
  have HF := Lib.hid hF
  have HFn := Lib.hid hFn
  obtain ⟨L, hL⟩ : ∃ L, out.length = L := ⟨_, rfl⟩
  rw [hL] at hF3 hF0
  have HL := Lib.hid hL
  have hd := ci.db
  have few := Lib.hid (fun W (h : Below w.heap.size w W) => few17_any v Ap np cp d At nt ct W ci.npb ci.ntb ps tr _ (ci.parts.below h) (ci.trd.below h) (fun p hp => (ci.each p hp).1) N M HN.out HM.out)
  have fit := Lib.hid (fun (W : World) A c (h : Below w.heap.size w W) => by
    have := rcfit_loops v hv A N c d At M ct D (by omega) W (by omega) (tr.take 20) _ ((ci.trd.below h).few 20 M HM.out)
    rw [hout, hL] at this
    exact this)
  have hbd : ∀ x ∈ out, -9223372036854775808 ≤ x ∧ x ≤ 9223372036854775807 := fun x hx => by have := hF.rng x hx; omega
  have Hbd := Lib.hid hbd
  have hm8 := Lib.hid (hF.may hFn d)
  clear hK hout hF hFn hL ci hbd hD
  go_enter Try.func8, Try.ntmps8
  go_wp2_with fail
  refine (shown17 _).mono ?_
  rintro e w1 ⟨rfl, hb1⟩
  have bx1 := bx.step hb1
  have bk1 := bk.step hb1
  have B1 := k1.trans (hb1.mono k1.size)
  go_upto_region 3 with fail
  rw [HD.out]
  go_upto_region 4 with (first
    | ((with_reducible refine on_load (.tmp 3) ?_); refine wcv_box rfl (.tmp 3) rfl rfl bx1 ?_)
    | (go_at_call 14; refine (few.out _ B1).mono ?_; rintro e w2 ⟨A2, c2, rfl, ow2, hb2⟩; have B2 := B1.trans (hb2.mono B1.size))
    | (go_at_call 13; refine (fit.out _ A2 c2 B2).mono ?_; rintro e w3 ⟨A3, c3, rfl, ow3, hb3⟩)
    | ((with_reducible refine on_alloc ?_); refine wl_newBox rfl _ rfl z_cert ?_; intro g8 w4 hg4 hl4 bg4 hb4)
    | ((with_reducible refine on_store_at (.tmp 9) ?_); refine wb_store (cs := Cv 0 none 0 0 0 none 0 0) (cs' := Cv 2 none 0 0 d A3 L c3) rfl _ (.tmp 9) _ rfl st_cert rfl rfl bg4 rfl rfl (by simp [Cv, Value.oneCell']) ?_; intro w5 bx5 hg5))
  have C8 : CBox w5 g8 2 none 0 0 d A3 L c3 [] out := XL.c ⟨bx5, own_cert (ow3.below hb4) bg4 hg5⟩ (by omega) Hbd.out
  have B25 := hb2.trans ((hb3.trans ((hb4.trans (below_of_grown (B := w3.heap.size) hg5 (fun j e => by injection e with e; omega) hb4.size)).mono hb3.size)).mono hb2.size)
  have B5 := B1.trans (B25.mono B1.size)
  have bx25 := bx1.step B25
  have bk25 := bk1.step B25
  clear hb2 hb3 hb4 hg5 bg4 bx5 ow3 ow2 B2 bx1 B1 hb1 k1 bx B25 hg4 hl4 bk bk1
  clear w4
  clear w3
  clear w2
  clear w1
  rename World => w1
  go_upto_region 5 with (first
    | ((with_reducible refine on_load (.tmp 3) ?_); refine wcv_box rfl (.tmp 3) rfl rfl bx25 ?_)
    | (go_at_call 14; refine (few.out _ B5).mono ?_; rintro e w2 ⟨A5, c5, rfl, ow2, hb2⟩; have B2 := B5.trans (hb2.mono B5.size))
    | (go_at_call 13; refine (fit.out _ A5 c5 B2).mono ?_; rintro e w3 ⟨A6, c6, rfl, ow3, hb3⟩)
    | ((with_reducible refine on_alloc ?_); refine wl_newBox rfl _ rfl z_cert ?_; intro g9 w4 hg4 hl4 bg4 hb4)
    | ((with_reducible refine on_store_at (.tmp 10) ?_); refine wb_store (cs := Cv 0 none 0 0 0 none 0 0) (cs' := Cv 2 none 0 0 d A6 L c6) rfl _ (.tmp 10) _ rfl st_cert rfl rfl bg4 rfl rfl (by simp [Cv, Value.oneCell']) ?_; intro w5 bx5 hg5))
  have B15 := hb2.trans ((hb3.trans ((hb4.trans (below_of_grown (B := w3.heap.size) hg5 (fun j e => by injection e with e; omega) hb4.size)).mono hb3.size)).mono hb2.size)
  have X9 : XL w5 w1.heap.size g9 2 d A6 L c6 out := ⟨bx5, (own_cert (ow3.below hb4) bg4 hg5).base_le hb2.size⟩
  have hgB : w1.heap.size ≤ g9 := Nat.le_trans hb2.size (Nat.le_trans hb3.size hg4)
  have bk5 := bk25.step B15
  clear hb2 hb3 hb4 hg5 bg4 bx5 ow3 ow2 B2 hg4 hl4 bk25 bx25
  clear w4
  clear w3
  clear w2
  rename World => w5
  have C5 := C8.step B15
  have X5 := X9.c (by omega) Hbd.out
  go_wp2_with ((with_reducible refine on_load (.tmp 9) ?_); refine wl_cbox rfl (.tmp 9) rfl rfl C5 ?_)
  refine (may_box C5 D 0 hm8.out).mono ?_
  rintro e wd ⟨rfl, hbd⟩
  have C6 := C5.step hbd
  have X6 := X5.step hbd
  go_wp2_with (first | ((with_reducible refine on_load (.tmp 9) ?_); refine wl_cbox rfl (.tmp 9) rfl rfl C6 ?_) | ((with_reducible refine on_load (.tmp 10) ?_); refine wl_cbox rfl (.tmp 10) rfl rfl X6 ?_))
  refine (same_box C6 X6 true (csame_yes rfl rfl rfl rfl)).mono ?_
  rintro e we ⟨rfl, hbe⟩
  have B56 := hbd.trans (hbe.mono hbd.size)
  have B16 := B15.trans (B56.mono B15.size)
  have X7 : XL we w1.heap.size g9 2 d A6 L c6 out := ⟨X9.box.step B56, X9.T.below B56⟩
  have bk7 := bk5.step B56
  have y8 : we.cell? ⟨g8, 0, none⟩ = some (.int .i64 2) := (C8.step B16).box.cell 0
  have yk0 : we.cell? ⟨w.heap.size + 1, 0, none⟩ = some (.int .u8 k0) := bk7.cell 0
  have yk1 : we.cell? ⟨w.heap.size + 1, 1, none⟩ = some (.int .u8 kb) := bk7.cell 1
  clear C5 X5 C6 X6 hbd hbe X9 bk5 B15 B56
  clear wd
  clear w5
  rename World => w6
  go_upto_block 0 with fail
  rw [HK.out]
  go_cut [11] (fun s11 wx => SpRel w1.heap.size g9 2 d [] out D w6 s11 wx)
  case first =>
    have zB := B16.size
    have d0 : w6.cell? ⟨g9, 0, none⟩ = some (.int .i64 2) := X7.box.cell 0
    have d1 : w6.cell? ⟨g9, 1, none⟩ = some (.slice none 0 0) := X7.box.cell 1
    have d2 : w6.cell? ⟨g9, 2, none⟩ = some (.int .u32 d) := X7.box.cell 2
    have d3 : w6.cell? ⟨g9, 3, none⟩ = some (.slice A6 L c6) := X7.box.cell 3
    have f0 := X7.box.frozen 0
    have f1 := X7.box.frozen 1
    have f2 := X7.box.frozen 2
    have f3 := X7.box.frozen 3
    have zg := X7.box.lt
    have hways : K = 0 ∨ K = 1 ∨ K = 2 ∨ K = 3 ∨ K = 4 ∨ K = 5 ∨ K = 6 ∨ K = 7 := by omega
    rcases hways with rfl | rfl | rfl | rfl | rfl | rfl | rfl | rfl
    · -- another verdict
      have bS := X7.box.setCell 0 (.int .i64 (3 + (kb : Int)))
      go_wp2
      go_meet
      case rel => exact ⟨9, false, 3 + (kb : Int), none, 0, 0, d, A6, L, c6, [], out, rfl, XL.c ⟨bS.1, own_cert X7.T X7.box bS.2⟩ (by omega) Hbd.out, Lib.hid (spoil_act _ (by omega) _ _ _ _), Lib.hid (csame_no (.inl (by omega))), rfl, below_of_grown bS.2 (fun j e => by injection e with e; omega) zB⟩
    · -- a part
      have k1 : (w6.alloc (.cells #[.int .u32 0, .int .u32 0, .slice none 0 0] 26)).cell? ⟨g9, 1, none⟩ = some (.slice none 0 0) := (X7.box.alloc (.cells #[.int .u32 0, .int .u32 0, .slice none 0 0] 26)).cell 1
      have fz1 : (w6.alloc (.cells #[.int .u32 0, .int .u32 0, .slice none 0 0] 26)).frozen? ⟨g9, 1, none⟩ = false := (X7.box.alloc (.cells #[.int .u32 0, .int .u32 0, .slice none 0 0] 26)).frozen 1
      have bS := X7.box.setCell 1 (.slice (some ⟨w6.heap.size, 0, none⟩) 1 1)
      have hsz : w6.heap.size = (w6.setCell ⟨g9, 1, none⟩ (.slice (some ⟨w6.heap.size, 0, none⟩) 1 1)).heap.size := by simp
      have pw : OwM Pt.cs 3 ((w6.setCell ⟨g9, 1, none⟩ (.slice (some ⟨w6.heap.size, 0, none⟩) 1 1)).alloc (.cells #[.int .u32 0, .int .u32 0, .slice none 0 0] 26)) w1.heap.size 26 (some ⟨w6.heap.size, 0, none⟩) 1 1 [Pt.zero] := OwM.lit' Pt.cs_length _ _ 1 _ hsz (by rw [← hsz]; exact zB) (by simp [maxLen]) rfl rfl
      have hB : Below w1.heap.size w6 ((w6.setCell ⟨g9, 1, none⟩ (.slice (some ⟨w6.heap.size, 0, none⟩) 1 1)).alloc (.cells #[.int .u32 0, .int .u32 0, .slice none 0 0] 26)) := (below_of_grown bS.2 (fun j e => by injection e with e; omega) zB).trans (below_alloc _ (by rw [← hsz]; exact zB) _)
      have oT := (own_cert X7.T X7.box bS.2).alloc (.cells #[.int .u32 0, .int .u32 0, .slice none 0 0] 26)
      have bB := bS.1.alloc (.cells #[.int .u32 0, .int .u32 0, .slice none 0 0] 26)
      clear hsz bS
      go_wp2
      go_meet
      case rel => exact ⟨3, false, 2, _, 1, 1, d, A6, L, c6, [Pt.zero], out, rfl, ⟨bB, ⟨pw.rd, (fun p hp => by rw [List.mem_singleton.1 hp]; exact RdS.nil _ _), (fun p hp => by rw [List.mem_singleton.1 hp]; exact ⟨by decide, by decide⟩)⟩, oT.rd, by omega, by omega, (fun p hp => by rw [List.mem_singleton.1 hp]; show 0 ≤ 1000000; omega), Hbd.out⟩, Lib.hid (lspoil_form _ _ _ _ (by simp)), Lib.hid (csame_no (.inr (.inr (.inr (by simp))))), rfl, hB⟩
    · -- no trace
      have bS := X7.box.setCell 3 (.slice none 0 0)
      go_wp2
      go_meet
      case rel => exact ⟨12, false, 2, none, 0, 0, d, none, 0, 0, [], [], rfl, XL.c ⟨bS.1, OwS.nil_ _ w1.heap.size _⟩ (by omega) (by simp), Lib.hid (lspoil_nil _ _), Lib.hid (csame_no (.inr (.inr (.inl HFn.out)))), rfl, below_of_grown bS.2 (fun j e => by injection e with e; omega) zB⟩
    · -- a node that there is not
      obtain ⟨gt, rfl, hgt⟩ := X7.T.at0 hF0
      go_wp2_with (first
        | ((with_reducible refine on_index (.tmp 109) ?_); refine wl_placeS rfl _ (.tmp 109) _ rfl el_int rfl rfl 0 (by omega) ?_)
        | ((with_reducible refine on_store_at (.tmp 111) ?_); refine wl_setS rfl _ (.tmp 111) _ rfl size_int (f := iv) (g := gt) (j := 0) rfl rfl (D : Int) rfl X7.T hF0 ?_; intro w8 ow8 hg8 hb8))
      have bx8 := X7.box.grown hg8 (fun e => by injection e with e; exact own_cert_row X7.T.ow X7.box (by rw [e]; rfl))
      go_meet
      case rel => exact ⟨10, false, 2, none, 0, 0, d, _, L, c6, [], out.set 0 D, rfl, XL.c ⟨bx8, ow8⟩ (by omega) (fun x hx => by rcases List.mem_or_eq_of_mem_set hx with h | h; exact Hbd.out x h; rw [h]; omega), Lib.hid (lspoil_node HF.out HFn.out d), Lib.hid (csame_no (.inr (.inr (.inl (fun e => by
        have e2 : (out.set 0 (D : Int))[0]? = some (D : Int) := List.getElem?_set_self (by rw [HL.out]; exact hF0)
        rw [← e] at e2
        have := HF.out.rng D (List.mem_of_getElem? e2)
        omega))))), rfl, hb8⟩
    · -- a node twice
      rcases Nat.lt_or_ge L D with hLD | hLD
      · obtain ⟨gt, rfl, hgt⟩ := X7.T.at0 hF0
        have hT := X7.T.lt
        obtain ⟨y, hy⟩ : ∃ y, out[0]? = some y := ⟨out[0]'(by rw [HL.out]; exact hF0), List.getElem?_eq_getElem _⟩
        have Hy := Lib.hid hy
        have ey : w6.cell? ⟨gt, 0, none⟩ = some (.int .i64 y) := by
          have := X7.T.ow.own.cellAt 0 (by omega)
          rw [this, List.getElem?_map, hy]
          rfl
        clear hy
        have hrow := Lib.hid (own_cert_row X7.T.ow X7.box)
        have q3 : ∀ q : KSStep (fun a => a = ⟨g9, 3, none⟩ ∨ a = ⟨gt, 0, none⟩) w6.drew, q.w.cell? ⟨g9, 3, none⟩ = some (.slice (some ⟨gt, 0, none⟩) L c6) := fun q => (q.h _ (.inl rfl)).trans d3
        have q0 : ∀ q : KSStep (fun a => a = ⟨g9, 3, none⟩ ∨ a = ⟨gt, 0, none⟩) w6.drew, q.w.cell? ⟨gt, 0, none⟩ = some (.int .i64 y) := fun q => (q.h _ (.inr rfl)).trans ey
        have hS : ∀ a : Addr, (a = ⟨g9, 3, none⟩ ∨ a = ⟨gt, 0, none⟩) → a.block < w6.drew.heap.size := fun a ha => by rcases ha with rfl | rfl; exact zg; exact hT.2
        go_upto_region 40 with fail
        refine wp_region_treeL 9 (.float 0 6 (.one 6 (.one 7 (.float 8 1 (.one 9 .done))))) (Th.KSReach (fun a => a = ⟨g9, 3, none⟩ ∨ a = ⟨gt, 0, none⟩)) (Th.KSReach.trans _) (Th.KSReach.refl _) (by kernel_rfl) (by kernel_rfl) (by kernel_rfl) (fun KT hKT => ?_)
        refine wpTreeL_float (fun KF hKF => ?_)
        simp only [List.drop, List.take]
        repeat (first | go_big_quiet_skip | ((with_reducible refine onq_index (.tmp 131) ?_); refine wq_placeS rfl _ (.tmp 131) _ rfl el_int rfl rfl 0 (by omega) ?_) | go_big_quiet_step (fail) | quiet_step (fail))
        refine wpQuiet_nil ?_
        refine hKF _ ?_
        clear hKF KF
        refine wpTreeL_one (fun KO hKO => ?_)
        simp only [List.drop, List.take]
        go_wp2_with (first | ((with_reducible refine on_append (.tmp 129) (.tmp 134) ?_); refine wl_appendK rfl (.tmp 129) (.tmp 134) _ rfl el_int (f := iv) (fun _ => rfl) rfl ((X7.T.below (bdrew1 w6)).alloc (.cells #[.int .i64 y] 3)) rfl (OwS.lit (base := w6.heap.size) (e := 3) (xs := [y]) w6.drew #[.int .i64 y] 1 (Nat.le_refl _) (by simp [maxLen]) rfl rfl).rd (by omega) (by omega) (by simp; omega) ?_; intro A8 c8 w8 ow8 hg8 hb8 hA8 hk8; have bx8 := (X7.box.drew.alloc (.cells #[.int .i64 y] 3)).grown hg8 (fun e => by injection e with e; exact hrow.out (by rw [← e]; rfl)); have k3 : w8.cell? ⟨g9, 3, none⟩ = some (.slice (some ⟨gt, 0, none⟩) L c6) := bx8.cell 3; have fz3 := bx8.frozen 3; have bS := bx8.setCell 3 (.slice A8 (L + 1) c8); have ks : ∀ a : Addr, (a = ⟨g9, 3, none⟩ ∨ a = ⟨gt, 0, none⟩) → w8.cell? a = (w6.drew.alloc (.cells #[.int .i64 y] 3)).cell? a := (fun a ha => by rcases ha with rfl | rfl; exact k3.trans ((X7.box.drew.alloc (.cells #[.int .i64 y] 3)).cell 3).symm; exact hk8 0 hF0); have ow9 := own_cert ow8 bx8 bS.2; have B8 := ((bdrew1' w6 : Below w1.heap.size w6 w6.drew).trans (below_alloc w6.drew zB (.cells #[.int .i64 y] 3))).trans (hb8.trans (below_of_grown (B := w1.heap.size) bS.2 (fun j e => by injection e with e; omega) (by have := bx8.lt; omega)))))
        refine anch_endL (Th.KSReach.of (by first | exact fun _ _ => rfl | assumption | (exact ks_alloc _ _ (by assumption)))) (hKO _ _ ?_)
        clear hKO KO
        refine wpTreeL_one (fun KO hKO => ?_)
        simp only [List.drop, List.take]
        go_wp2_with (first | ((with_reducible refine on_append (.tmp 129) (.tmp 134) ?_); refine wl_appendK rfl (.tmp 129) (.tmp 134) _ rfl el_int (f := iv) (fun _ => rfl) rfl ((X7.T.below (bdrew1 w6)).alloc (.cells #[.int .i64 y] 3)) rfl (OwS.lit (base := w6.heap.size) (e := 3) (xs := [y]) w6.drew #[.int .i64 y] 1 (Nat.le_refl _) (by simp [maxLen]) rfl rfl).rd (by omega) (by omega) (by simp; omega) ?_; intro A8 c8 w8 ow8 hg8 hb8 hA8 hk8; have bx8 := (X7.box.drew.alloc (.cells #[.int .i64 y] 3)).grown hg8 (fun e => by injection e with e; exact hrow.out (by rw [← e]; rfl)); have k3 : w8.cell? ⟨g9, 3, none⟩ = some (.slice (some ⟨gt, 0, none⟩) L c6) := bx8.cell 3; have fz3 := bx8.frozen 3; have bS := bx8.setCell 3 (.slice A8 (L + 1) c8); have ks : ∀ a : Addr, (a = ⟨g9, 3, none⟩ ∨ a = ⟨gt, 0, none⟩) → w8.cell? a = (w6.drew.alloc (.cells #[.int .i64 y] 3)).cell? a := (fun a ha => by rcases ha with rfl | rfl; exact k3.trans ((X7.box.drew.alloc (.cells #[.int .i64 y] 3)).cell 3).symm; exact hk8 0 hF0); have ow9 := own_cert ow8 bx8 bS.2; have B8 := ((bdrew1' w6 : Below w1.heap.size w6 w6.drew).trans (below_alloc w6.drew zB (.cells #[.int .i64 y] 3))).trans (hb8.trans (below_of_grown (B := w1.heap.size) bS.2 (fun j e => by injection e with e; omega) (by have := bx8.lt; omega)))))
        refine anch_endL (Th.KSReach.of (by first | exact fun _ _ => rfl | assumption | (exact ks_alloc _ _ (by assumption)))) (hKO _ _ ?_)
        clear hKO KO
        refine wpTreeL_float (fun KF hKF => ?_)
        simp only [List.drop, List.take]
        repeat (first | go_big_quiet_skip | ((with_reducible refine onq_index (.tmp 131) ?_); refine wq_placeS rfl _ (.tmp 131) _ rfl el_int rfl rfl 0 (by omega) ?_) | go_big_quiet_step (fail) | quiet_step (fail))
        refine wpQuiet_nil ?_
        refine hKF _ ?_
        clear hKF KF
        refine wpTreeL_one (fun KO hKO => ?_)
        simp only [List.drop, List.take]
        go_wp2_with (first | ((with_reducible refine on_append (.tmp 129) (.tmp 134) ?_); refine wl_appendK rfl (.tmp 129) (.tmp 134) _ rfl el_int (f := iv) (fun _ => rfl) rfl ((X7.T.below (bdrew1 w6)).alloc (.cells #[.int .i64 y] 3)) rfl (OwS.lit (base := w6.heap.size) (e := 3) (xs := [y]) w6.drew #[.int .i64 y] 1 (Nat.le_refl _) (by simp [maxLen]) rfl rfl).rd (by omega) (by omega) (by simp; omega) ?_; intro A8 c8 w8 ow8 hg8 hb8 hA8 hk8; have bx8 := (X7.box.drew.alloc (.cells #[.int .i64 y] 3)).grown hg8 (fun e => by injection e with e; exact hrow.out (by rw [← e]; rfl)); have k3 : w8.cell? ⟨g9, 3, none⟩ = some (.slice (some ⟨gt, 0, none⟩) L c6) := bx8.cell 3; have fz3 := bx8.frozen 3; have bS := bx8.setCell 3 (.slice A8 (L + 1) c8); have ks : ∀ a : Addr, (a = ⟨g9, 3, none⟩ ∨ a = ⟨gt, 0, none⟩) → w8.cell? a = (w6.drew.alloc (.cells #[.int .i64 y] 3)).cell? a := (fun a ha => by rcases ha with rfl | rfl; exact k3.trans ((X7.box.drew.alloc (.cells #[.int .i64 y] 3)).cell 3).symm; exact hk8 0 hF0); have ow9 := own_cert ow8 bx8 bS.2; have B8 := ((bdrew1' w6 : Below w1.heap.size w6 w6.drew).trans (below_alloc w6.drew zB (.cells #[.int .i64 y] 3))).trans (hb8.trans (below_of_grown (B := w1.heap.size) bS.2 (fun j e => by injection e with e; omega) (by have := bx8.lt; omega)))))
        refine anch_last (hKO _ _ ?_)
        clear hKO KO
        refine wpTreeL_done ?_
        refine hKT _ _ ?_
        clear hKT KT
        clear q3 q0 hS
        go_wp2
        go_meet
        case rel => exact ⟨17, false, 2, none, 0, 0, d, A8, L + 1, c8, [], out ++ [y], rfl, XL.c ⟨bS.1, ow9⟩ (by omega) (fun x hx => by rcases List.mem_append.1 hx with h | h; exact Hbd.out x h; rw [List.mem_singleton.1 h]; exact Hbd.out y (List.mem_of_getElem? Hy.out)), Lib.hid (lspoil_twice HF.out d (by rw [HL.out]; exact hLD) y Hy.out), Lib.hid (csame_no (.inr (.inr (.inl (fun e => by have := congrArg List.length e; simp at this))))), rfl, B8⟩
      · have hno : ¬ L < D := by omega
        go_wp2
        go_meet
        case rel => exact ⟨0, true, 2, none, 0, 0, d, A6, L, c6, [], out, rfl, X7.c (by omega) Hbd.out, hm8, Lib.hid (csame_yes rfl rfl rfl rfl), rfl, Below.refl _ _⟩
    · -- two turned
      rcases Nat.lt_or_ge 1 L with hL1 | hL1
      · obtain ⟨gt, rfl, hgt⟩ := X7.T.at0 hF0
        have hT := X7.T.lt
        obtain ⟨y, hy⟩ : ∃ y, out[0]? = some y := ⟨out[0]'(by rw [HL.out]; exact hF0), List.getElem?_eq_getElem _⟩
        obtain ⟨z, hz⟩ : ∃ z, out[1]? = some z := ⟨out[1]'(by rw [HL.out]; exact hL1), List.getElem?_eq_getElem _⟩
        have Hy := Lib.hid hy
        have Hz := Lib.hid hz
        have ez : w6.cell? ⟨gt, 1, none⟩ = some (.int .i64 z) := by
          have := X7.T.ow.own.cellAt 1 (by omega)
          rw [this, List.getElem?_map, hz]
          rfl
        clear hy hz
        have hrow := Lib.hid (own_cert_row X7.T.ow X7.box)
        have q3 : ∀ q : Step w6.heap.size w6.drew, q.w.cell? ⟨g9, 3, none⟩ = some (.slice (some ⟨gt, 0, none⟩) L c6) := fun q => (X7.box.drew.step q.h).cell 3
        have q1 : ∀ q : Step w6.heap.size w6.drew, q.w.cell? ⟨gt, 1, none⟩ = some (.int .i64 z) := fun q => (q.h.cell (p := ⟨gt, 1, none⟩) hT.2).trans ez
        have hmo : (1 : Int) < L := by omega
        go_upto_region 48 with fail
        refine wp_region_treeL 7 (.float 0 7 (.one 7 .done)) (Th.Reach (w6.heap.size)) (Th.Reach.trans _) (Th.Reach.refl _) (by kernel_rfl) (by kernel_rfl) (by kernel_rfl) (fun KT hKT => ?_)
        refine wpTreeL_float (fun KF hKF => ?_)
        simp only [List.drop, List.take]
        repeat (first | go_big_quiet_skip | ((with_reducible refine onq_index (.tmp 166) ?_); refine wq_placeS rfl _ (.tmp 166) _ rfl el_int rfl rfl 1 (by omega) ?_) | ((with_reducible refine onq_index (.tmp 164) ?_); refine wq_placeS rfl _ (.tmp 164) _ rfl el_int rfl rfl 0 (by omega) ?_) | go_big_quiet_step (fail) | quiet_step (fail))
        refine wpQuiet_nil ?_
        refine hKF _ ?_
        clear hKF KF
        refine wpTreeL_one (fun KO hKO => ?_)
        simp only [List.drop, List.take]
        go_wp2_with (first | ((with_reducible refine on_store_at (.tmp 169) ?_); refine wl_setS rfl _ (.tmp 169) _ rfl size_int (f := iv) (g := gt) (j := 0) rfl rfl z rfl (X7.T.below (bdrew1 w6)) hF0 ?_; intro w8 ow8 hg8 hb8))
        refine anch_last (hKO _ _ ?_)
        clear hKO KO
        refine wpTreeL_done ?_
        refine hKT _ _ ?_
        clear hKT KT
        have bx8 := (X7.box.drew).grown hg8 (fun e => by injection e with e; exact hrow.out (by rw [← e]; rfl))
        have B8 : Below w1.heap.size w6 w8 := (bdrew1' w6).trans hb8
        have C8' := C8.step (B16.trans B8)
        have s3 : ∀ q : Step w8.heap.size w8.drew, q.w.cell? ⟨g9, 3, none⟩ = some (.slice (some ⟨gt, 0, none⟩) L c6) := fun q => (bx8.drew.step q.h).cell 3
        have s8 : ∀ q : Step w8.heap.size w8.drew, q.w.cell? ⟨g8, 3, none⟩ = some (.slice A3 L c3) := fun q => (C8'.box.drew.step q.h).cell 3
        have hrC : RdC iv (Th.Reach w8.heap.size w8.drew) w8.heap.size A3 L c3 out := ⟨fun v hv => (C8'.trd.step (bdrew1 w8)).step hv.below⟩
        clear q3 q1
        go_upto_region 49 with fail
        refine wp_region_treeL 7 (.float 0 7 (.one 7 .done)) (Th.Reach (w8.heap.size)) (Th.Reach.trans _) (Th.Reach.refl _) (by kernel_rfl) (by kernel_rfl) (by kernel_rfl) (fun KT hKT => ?_)
        refine wpTreeL_float (fun KF hKF => ?_)
        simp only [List.drop, List.take]
        repeat (first | go_big_quiet_skip | ((with_reducible refine onq_index (.tmp 173) ?_); refine wq_at_i rfl _ (.tmp 173) _ rfl el_int rfl rfl (by omega) (by omega) (Th.Reach.refl _ _) hrC ?_; intro p1 x1 hx1 hc1; have hxx := get_eq Hy.out hx1.out (by omega); subst hxx; have f1 : ∀ q : Step _ _, q.w.cell? p1 = some (.int .i64 y) := fun q => hc1 q.w ⟨q, rfl⟩) | ((with_reducible refine onq_index (.tmp 171) ?_); refine wq_placeS rfl _ (.tmp 171) _ rfl el_int rfl rfl 1 (by omega) ?_) | go_big_quiet_step (fail) | quiet_step (fail))
        refine wpQuiet_nil ?_
        refine hKF _ ?_
        clear hKF KF
        refine wpTreeL_one (fun KO hKO => ?_)
        simp only [List.drop, List.take]
        go_wp2_with (first | ((with_reducible refine on_store_at (.tmp 176) ?_); refine wl_setS rfl _ (.tmp 176) _ rfl size_int (f := iv) (g := gt) (j := 1) rfl rfl y rfl (ow8.below (bdrew1 w8)) hL1 ?_; intro w10 ow10 hg10 hb10))
        refine anch_last (hKO _ _ ?_)
        clear hKO KO
        refine wpTreeL_done ?_
        refine hKT _ _ ?_
        clear hKT KT
        have bx10 := (bx8.drew).grown hg10 (fun e => by injection e with e; exact hrow.out (by rw [← e]; rfl))
        have B10 : Below w1.heap.size w6 w10 := B8.trans ((bdrew1' w8).trans hb10)
        clear s3 s8 hrC
        go_wp2
        go_meet
        case rel => exact ⟨17, false, 2, none, 0, 0, d, _, L, c6, [], (out.set 0 z).set 1 y, rfl, XL.c ⟨bx10, ow10⟩ (by omega) (fun x hx => by
          rcases List.mem_or_eq_of_mem_set hx with h | h
          · rcases List.mem_or_eq_of_mem_set h with h | h
            · exact Hbd.out x h
            · rw [h]; exact Hbd.out z (List.mem_of_getElem? Hz.out)
          · rw [h]; exact Hbd.out y (List.mem_of_getElem? Hy.out)), Lib.hid (lspoil_swap HF.out HFn.out d y z Hy.out Hz.out), Lib.hid (csame_no (.inr (.inr (.inl (fun e => by
            have e2 := lspoil_swap HF.out HFn.out d y z Hy.out Hz.out
            rw [← e, hm8.out] at e2
            omega))))), rfl, B10⟩
      · have hno : ¬ (1 : Int) < L := by omega
        have hno2 : ¬ 1 < L := by omega
        go_wp2
        go_meet
        case rel => exact ⟨0, true, 2, none, 0, 0, d, A6, L, c6, [], out, rfl, X7.c (by omega) Hbd.out, hm8, Lib.hid (csame_yes rfl rfl rfl rfl), rfl, Below.refl _ _⟩
    all_goals
      go_wp2
      go_meet
      case rel => exact ⟨0, true, 2, none, 0, 0, d, A6, L, c6, [], out, rfl, X7.c (by omega) Hbd.out, hm8, Lib.hid (csame_yes rfl rfl rfl rfl), rfl, Below.refl _ _⟩
  case rest =>
    obtain ⟨want, b, v9, A9, n9, c9, d9, T9, nt9, ct9, ps9, tr9, rfl, X, hmay, hsame, hwb, hb⟩ := hcut
    have C9 := C8.step (B16.trans hb)
    have B9 := B5.trans ((B16.trans hb).mono B5.size)
    have hwb2 : decide (want = 0) = b := by rw [← hwb, Bool.eq_iff_iff]; simp
    clear hb
    go_wp2_with ((with_reducible refine on_load (.tmp 10) ?_); refine wl_cbox rfl (.tmp 10) rfl rfl X ?_)
    refine (may_box X D want hmay.out).mono ?_
    rintro e wd ⟨rfl, hbd⟩
    have C10 := C9.step hbd
    have X10 := X.step hbd
    go_wp2_with (first | ((with_reducible refine on_load (.tmp 9) ?_); refine wl_cbox rfl (.tmp 9) rfl rfl C10 ?_) | ((with_reducible refine on_load (.tmp 10) ?_); refine wl_cbox rfl (.tmp 10) rfl rfl X10 ?_))
    refine (same_box C10 X10 b hsame.out).mono ?_
    rintro e we ⟨rfl, hbe⟩
    go_wp2
    go_ret
    exact ⟨rfl, B9.trans ((hbd.trans (hbe.mono hbd.size)).mono B9.size)⟩
end Go.Proofs.Yteellpcagdnikaa
