/-
  theseuslaw07.RuleOrder: the walk.
-/
import Derived.Test.YtijobfkmchbpcaaRuleShown
import Derived.Test.YtijobfkmchbpcaaRuleOrderLaw
import Derived.Deep.DeepCutAuto
namespace Go.Th
open Go.RowKit
theorem Box.kept {w2 w3 : World} {g : Nat} {t : TypeId} {cs : Array Value} (h : Box w2 g t cs) (o : Obj) (hg : (w2.alloc o).grownBy w3 (some w2.heap.size)) : Box w3 g t cs :=
  (h.alloc o).grown hg (fun e => by injection e with e; have := h.lt; omega)
end Go.Th
namespace Go.Proofs.Ytijobfkmchbpcaa
open Go.RowKit Go.Th
set_option linter.unusedVariables false
theorem rfit_is (r : Ru) (nodes : Int) (w : World) (hr : r.Ok) (hn : 1 ≤ nodes ∧ nodes ≤ 4611686018427387904) (s : Ru) (hs : r.fit nodes = s) :
    Calls Try.prog 17 #[.agg #[.int .u32 r.a, .int .i64 r.n, .int .i64 r.act, .int .i64 r.next], .int .i64 nodes] w fun e w' => e = .returned (.agg #[.int .u32 s.a, .int .i64 s.n, .int .i64 s.act, .int .i64 s.next]) ∧ Below w.heap.size w w' := by
  have := rfit_any r nodes w hr hn
  rw [hs] at this
  exact this
set_option maxRecDepth 100000 in
set_option maxHeartbeats 8000000 in
theorem ruleOrder_core (x y : Ru) (hx : x.Ok) (hy : y.Ok) (n0 n1 : Int) (h0 : 0 ≤ n0 ∧ n0 ≤ 255) (h1 : 0 ≤ n1 ∧ n1 ≤ 255) (w : World) :
    Calls Try.prog 14 #[.agg #[.int .u32 x.a, .int .i64 x.n, .int .i64 x.act, .int .i64 x.next], .agg #[.int .u32 y.a, .int .i64 y.n, .int .i64 y.act, .int .i64 y.next], .agg #[.int .u8 n0, .int .u8 n1]] w fun e w' => e = .returned (.bool true) ∧ Below w.heap.size w w' := by
  obtain ⟨h00, h01⟩ := h0
  obtain ⟨h10, h11⟩ := h1
  obtain ⟨a, ha⟩ : ∃ a, x.fit (1 + n0) = a := ⟨_, rfl⟩
  obtain ⟨b, hb⟩ : ∃ b, y.fit (1 + n0) = b := ⟨_, rfl⟩
  have hoa : a.Ok := by rw [← ha]; exact Ru.fit_ok x _ hx (by omega)
  have hob : b.Ok := by rw [← hb]; exact Ru.fit_ok y _ hy (by omega)
  have hma : a.may (1 + n0) = 0 := by rw [← ha]; exact Ru.fit_may x _ (by omega) hx
  obtain ⟨cc, hc⟩ : ∃ c, pcmp a.a a.n b.a b.n = c := ⟨_, rfl⟩
  have hcb := pcmp_bd a.a a.n b.a b.n
  have hcn := pcmp_neg a.a a.n b.a b.n
  rw [hc] at hcb hcn
  obtain ⟨hcb1, hcb2⟩ := hcb
  have hot : (⟨a.a, a.n, 3, 0⟩ : Ru).Ok := ⟨hoa.a, hoa.n, ⟨by show (-9223372036854775808 : Int) ≤ 3; decide, by show (3 : Int) ≤ 9223372036854775807; decide⟩, ⟨by show (-9223372036854775808 : Int) ≤ 0; decide, by show (0 : Int) ≤ 9223372036854775807; decide⟩⟩
  obtain ⟨v, hv⟩ : ∃ v, a.may 0 = v := ⟨_, rfl⟩
  have hways := Ru.may_none hma
  rw [hv] at hways
  have K1 := Lib.hid (fun W => pcmp_any a.a a.n b.a b.n W hoa.a hob.a)
  rw [hc] at K1
  have K2 := Lib.hid (fun W => cmp_is a b W hoa hob _ hc)
  have K3 := Lib.hid (fun W => cmp_is b a W hob hoa _ hcn)
  have K4 := Lib.hid (fun W => cmp_is a ⟨a.a, a.n, 3, 0⟩ W hoa hot 0 (pcmp_self _ _))
  have K5 := Lib.hid (fun W => may_is a (1 + n0) W hoa _ hma)
  have K6 := Lib.hid (fun W => may_is a (1 + n0 + n1) W hoa _ (Ru.may_more hma (by omega)))
  have K7 := Lib.hid (fun W => may_is ⟨a.a, a.n, 3, 0⟩ 0 W hot _ (Ru.may_drop hma))
  have K8 := Lib.hid (fun W => may_is a 0 W hoa _ hv)
  have Ha := Lib.hid ha
  have Hb := Lib.hid hb
  have Hways := Lib.hid hways
  clear ha hb hma hc hcn hot hv hways hoa hob
  go_enter Try.func14, Try.ntmps14
  go_wp2_with fail
  refine (shown7 _).mono ?_
  rintro e w1 ⟨rfl, hb1⟩
  have bxx := (((Box.new w x.cs.toArray 25).alloc (.cells y.cs.toArray 25)).alloc (.cells #[.int .u8 n0, .int .u8 n1] 60)).step hb1
  have bxy := ((Box.new (w.alloc (.cells x.cs.toArray 25)) y.cs.toArray 25).alloc (.cells #[.int .u8 n0, .int .u8 n1] 60)).step hb1
  have bxn := (Box.new ((w.alloc (.cells x.cs.toArray 25)).alloc (.cells y.cs.toArray 25)) #[.int .u8 n0, .int .u8 n1] 60).step hb1
  rw [heap_size_alloc] at bxy
  rw [heap_size_alloc, heap_size_alloc] at bxn
  have B1 : Below w.heap.size w w1 := (((below_alloc w (Nat.le_refl _) (.cells x.cs.toArray 25)).alloc (by simp) (.cells y.cs.toArray 25)).alloc (by simp; omega) (.cells #[.int .u8 n0, .int .u8 n1] 60)).trans (hb1.mono (by simp; omega))
  have z1 := B1.size
  have q0 := bxn.cell 0
  clear hb1
  go_wp2_with ((with_reducible refine on_load (.tmp 3) ?_); refine wr_box rfl _ (.tmp 3) rfl st_rule rfl bxx ?_)
  refine (rfit_is x (1 + n0) w1 hx (by omega) a Ha.out).mono ?_
  rintro e w2 ⟨rfl, hb2⟩
  have B2 := B1.trans (hb2.mono z1)
  have z2 := B2.size
  go_upto_region 4 with ((with_reducible refine on_store_at (.tmp 9) ?_); refine wr_store (r := ⟨0, 0, 0, 0⟩) (s := a) rfl _ (.tmp 9) _ rfl st_rule rfl rfl (Box.new w2 _ _) ?_; intro w3 bx9 hg3)
  have byy := (bxy.step hb2).kept (.cells (Ru.cs ⟨0, 0, 0, 0⟩).toArray 25) hg3
  have bnn := (bxn.step hb2).kept (.cells (Ru.cs ⟨0, 0, 0, 0⟩).toArray 25) hg3
  have B3 := B2.trans ((below_alloc w2 z2 (.cells (Ru.cs ⟨0, 0, 0, 0⟩).toArray 25)).trans (below_of_grown hg3 (fun j e => by injection e with e; omega) (by simp; omega)))
  have z3 := B3.size
  clear bxx bxy bxn q0 hg3 hb2
  go_wp2_with ((with_reducible refine on_load (.tmp 4) ?_); refine wr_box rfl _ (.tmp 4) rfl st_rule rfl byy ?_)
  refine (rfit_is y (1 + n0) w3 hy (by omega) b Hb.out).mono ?_
  rintro e w4 ⟨rfl, hb4⟩
  have B4 := B3.trans (hb4.mono z3)
  have z4 := B4.size
  go_upto_region 5 with ((with_reducible refine on_store_at (.tmp 10) ?_); refine wr_store (r := ⟨0, 0, 0, 0⟩) (s := b) rfl _ (.tmp 10) _ rfl st_rule rfl rfl (Box.new w4 _ _) ?_; intro w5 bx10 hg5)
  have b9 := (bx9.step hb4).kept (.cells (Ru.cs ⟨0, 0, 0, 0⟩).toArray 25) hg5
  have bnn := (bnn.step hb4).kept (.cells (Ru.cs ⟨0, 0, 0, 0⟩).toArray 25) hg5
  have B5 := B4.trans ((below_alloc w4 z4 (.cells (Ru.cs ⟨0, 0, 0, 0⟩).toArray 25)).trans (below_of_grown hg5 (fun j e => by injection e with e; omega) (by simp; omega)))
  have z5 := B5.size
  clear bx9 byy hg5 hb4
  go_wp2_with (first
    | ((with_reducible refine on_load (.tmp 9) ?_); refine wr_box rfl _ (.tmp 9) rfl st_rule rfl b9 ?_)
    | ((with_reducible refine on_load (.tmp 10) ?_); refine wr_box rfl _ (.tmp 10) rfl st_rule rfl bx10 ?_))
  refine (K2.out w5).mono ?_
  rintro e w6 ⟨rfl, hb6⟩
  have B6 := B5.trans (hb6.mono z5)
  have z6 := B6.size
  have b96 := b9.step hb6
  go_upto_region 7 with (first
    | ((with_reducible refine on_load (.tmp 9) ?_); refine wr_box rfl _ (.tmp 9) rfl st_rule rfl b96 ?_)
    | ((with_reducible refine on_store_at (.tmp 12) ?_); refine wr_store (r := ⟨0, 0, 0, 0⟩) (s := a) rfl _ (.tmp 12) _ rfl st_rule rfl rfl (Box.new w6 _ _) ?_; intro w7 bx12 hg7))
  have b97 := b96.kept (.cells (Ru.cs ⟨0, 0, 0, 0⟩).toArray 25) hg7
  have b107 := (bx10.step hb6).kept (.cells (Ru.cs ⟨0, 0, 0, 0⟩).toArray 25) hg7
  have bn7 := (bnn.step hb6).kept (.cells (Ru.cs ⟨0, 0, 0, 0⟩).toArray 25) hg7
  have B7 := B6.trans ((below_alloc w6 z6 (.cells (Ru.cs ⟨0, 0, 0, 0⟩).toArray 25)).trans (below_of_grown hg7 (fun j e => by injection e with e; omega) (by simp; omega)))
  have z7 := B7.size
  have l9 := b96.lt
  have l10 := (bx10.step hb6).lt
  have ln := (bnn.step hb6).lt
  obtain ⟨c0, c1, c2, c3⟩ := bx12.rule
  have f2 := bx12.frozen 2
  obtain ⟨bxA, gA⟩ := bx12.setCell 2 (.int .i64 3)
  have c3' : (w7.setCell ⟨w6.heap.size, 2, none⟩ (.int .i64 3)).cell? ⟨w6.heap.size, 3, none⟩ = some (.int .i64 a.next) := bxA.cell 3
  have f3 := bxA.frozen 3
  obtain ⟨bxB, gB⟩ := bxA.setCell 3 (.int .i64 0)
  have b99 := (b97.grown gA (fun e => by injection e with e; omega)).grown gB (fun e => by injection e with e; omega)
  have b109 := (b107.grown gA (fun e => by injection e with e; omega)).grown gB (fun e => by injection e with e; omega)
  have bn9 := (bn7.grown gA (fun e => by injection e with e; omega)).grown gB (fun e => by injection e with e; omega)
  have B9 := (B7.trans (below_of_grown gA (fun j e => by injection e with e; omega) z7)).trans (below_of_grown gB (fun j e => by injection e with e; omega) (below_of_grown (B := w.heap.size) gA (fun j e => by injection e with e; omega) z7 |>.size |> Nat.le_trans z7))
  have b129 : Box _ w6.heap.size 25 (Ru.cs ⟨a.a, a.n, 3, 0⟩).toArray := bxB
  clear b9 bnn b96 b97 b107 bn7 bx10 hb6 hg7 bx12 bxA bxB c0 c1 gA gB
  go_upto_region 9 with fail
  generalize (w7.setCell ⟨w6.heap.size, 2, none⟩ (.int .i64 3)).setCell ⟨w6.heap.size, 3, none⟩ (.int .i64 0) = w9 at b99 b109 bn9 b129 B9 ⊢
  clear c2 c3 c3' f2 f3
  have y9 := b99.reach
  have y10 := b109.reach
  have y12 := b129.reach
  obtain ⟨p0, p1, p2, p3⟩ := b99.reachC
  obtain ⟨r0, r1, r2, r3⟩ := b109.reachC
  have g1 : ∀ q : Step w9.heap.size w9, q.w.cell? ⟨w.heap.size + 1 + 1, 1, none⟩ = some (.int .u8 n1) := fun q => (bn9.step q.h).cell 1
  have K1 : Hid (∀ W, Calls Try.prog 39 #[.int .u32 a.a, .int .i64 a.n, .int .u32 b.a, .int .i64 b.n] W (fun e w' => e = .returned (.int .i64 cc) ∧ W = w')) := K1
  have z9 := B9.size
  have hw2 : ((a.act == 1) = true ∧ (a.act != 1) = false ∧ v = 10) ∨ ((a.act == 1) = false ∧ (a.act != 1) = true ∧ v = 0) := by
    rcases Hways.out with ⟨h1, h2⟩ | ⟨h1, h2⟩
    · exact .inl ⟨h1, by simp [bne, h1], h2⟩
    · exact .inr ⟨h1, by simp [bne, h1], h2⟩
  rcases hw2 with ⟨h1, h1b, rfl⟩ | ⟨h1, h1b, rfl⟩
  all_goals
    refine wp_region_reach (by kernel_rfl) (by kernel_rfl) ?_
    repeat (first | go_big_quiet_skip | ((with_reducible refine onq_load (.tmp 9) ?_); refine wqr_box rfl _ (.tmp 9) rfl st_rule rfl y9 ?_) | ((with_reducible refine onq_load (.tmp 10) ?_); refine wqr_box rfl _ (.tmp 10) rfl st_rule rfl y10 ?_) | ((with_reducible refine onq_load (.tmp 12) ?_); refine wqr_box (r := ⟨a.a, a.n, 3, 0⟩) rfl _ (.tmp 12) rfl st_rule rfl y12 ?_) | go_big_quiet_step (first | (with_reducible exact Calls.reach_same (K1.out _)) | (with_reducible exact Calls.reach (K3.out _)) | (with_reducible exact Calls.reach (K4.out _)) | (with_reducible exact Calls.reach (K5.out _)) | (with_reducible exact Calls.reach (K6.out _)) | (with_reducible exact Calls.reach (K7.out _)) | (with_reducible exact Calls.reach (K8.out _))) | quiet_step (first | (with_reducible exact Calls.reach_same (K1.out _)) | (with_reducible exact Calls.reach (K3.out _)) | (with_reducible exact Calls.reach (K4.out _)) | (with_reducible exact Calls.reach (K5.out _)) | (with_reducible exact Calls.reach (K6.out _)) | (with_reducible exact Calls.reach (K7.out _)) | (with_reducible exact Calls.reach (K8.out _))))
    refine wpQuiet_nil ?_
    rintro _ ⟨q, rfl⟩
    have hqw20 := q.h
    obtain ⟨w20, hw20'⟩ : ∃ W, q.w = W := ⟨_, rfl⟩
    rw [hw20'] at hqw20 ⊢
    clear hw20' q
    go_wp2
    go_ret
    exact ⟨rfl, B9.trans (hqw20.mono z9)⟩
theorem ruleOrder_walk (x : Ru) {w : World} (hx : x.Ok) (y : Ru) (hy : y.Ok) (ks : List Int) (hl : ks.length = 2) (hk : ∀ z ∈ ks, 0 ≤ z ∧ z ≤ 255) :
    Calls Try.prog 14 #[x.v, y.v, .agg (ks.map (Value.int .u8)).toArray] w fun e w' => e = .returned (.bool true) ∧ Below w.heap.size w w' := by
  match ks, hl, hk with
  | [k0, k1], _, hk => exact ruleOrder_core x y hx hy k0 k1 (hk k0 (by simp)) (hk k1 (by simp)) w
end Go.Proofs.Ytijobfkmchbpcaa
