/-
  The walks of layer 7 (rule) and of its reference that take a rule by its value.
-/
import Derived.Test.YtijobfkmchbpcaaPrefixRef
import Derived.Test.YtijobfkmchbpcaaRuleMem
import Derived.Test.YtijobfkmchbpcaaRegion
namespace Go.Proofs.Ytijobfkmchbpcaa
open Go.RowKit Go.Th
set_option linter.unusedVariables false
/-- A value comes back; what was in memory is as it was. -/
def RetB (v : Value) (w : World) (e : Ending) (w' : World) : Prop := e = .returned v ∧ Below w.heap.size w w'
theorem rcmp_any (r s : Ru) (w : World) (hr : r.Ok) (hs : s.Ok) : Calls Try.prog 34 #[r.v, s.v] w (RetB (.int .i64 (r.cmp s)) w) := by
  have H1 := Lib.hid hr.a
  have H2 := Lib.hid hs.a
  obtain ⟨ra, rn, rac, rne⟩ := r
  obtain ⟨sa, sn, sac, sne⟩ := s
  show Calls Try.prog 34 #[.agg #[.int .u32 ra, .int .i64 rn, .int .i64 rac, .int .i64 rne], .agg #[.int .u32 sa, .int .i64 sn, .int .i64 sac, .int .i64 sne]] w (RetB (.int .i64 (pcmp ra rn sa sn)) w)
  clear hr hs
  go_enter Try.func34, Try.ntmps34
  go_wp2_with (go_at_call 39; refine (pcmp_any _ _ _ _ _ H1.out H2.out).mono ?_; rintro e w' ⟨rfl, rfl⟩)
  go_ret
  exact ⟨rfl, (below_alloc w (Nat.le_refl _) _).trans (below_alloc _ (by simp) _)⟩
theorem rrcmp_any (r s : Ru) (w : World) : Calls Try.prog 38 #[r.v, s.v] w (RetB (.int .i64 (r.cmp s)) w) := by
  obtain ⟨ra, rn, rac, rne⟩ := r
  obtain ⟨sa, sn, sac, sne⟩ := s
  show Calls Try.prog 38 #[.agg #[.int .u32 ra, .int .i64 rn, .int .i64 rac, .int .i64 rne], .agg #[.int .u32 sa, .int .i64 sn, .int .i64 sac, .int .i64 sne]] w (RetB (.int .i64 (pcmp ra rn sa sn)) w)
  go_enter Try.func38, Try.ntmps38
  go_wp2_with (go_at_call 49; refine (rpcmp_any _ _ _ _ _).mono ?_; rintro e w' ⟨rfl, rfl⟩)
  go_ret
  exact ⟨rfl, (below_alloc w (Nat.le_refl _) _).trans (below_alloc _ (by simp) _)⟩
theorem rmask_still (n : Int) (w : World) : Calls Try.prog 40 #[.int .i64 n] w (fun e w' => e = .returned (.int .u32 (maskN n : Nat)) ∧ w' = w) := (rmask_any n w).mono fun _ _ ⟨h1, h2⟩ => ⟨h1, h2.symm⟩
set_option maxRecDepth 100000 in
set_option maxHeartbeats 2000000 in
theorem rfit_any (r : Ru) (nodes : Int) (w : World) (hr : r.Ok) (hn : 1 ≤ nodes ∧ nodes ≤ 4611686018427387904) :
    Calls Try.prog 17 #[r.v, .int .i64 nodes] w (RetB (r.fit nodes).v w) := by
  obtain ⟨ra, rn, rac, rne⟩ := r
  obtain ⟨hn1, hn2⟩ := hn
  have hla := lead_and ra (rn % 33) hr.a
  obtain ⟨t1, ht1⟩ : ∃ t, rn.tmod 33 = t := ⟨_, rfl⟩
  obtain ⟨t2, ht2⟩ : ∃ t, rac.tmod 3 = t := ⟨_, rfl⟩
  obtain ⟨t3, ht3⟩ : ∃ t, rne.tmod nodes = t := ⟨_, rfl⟩
  have b1 := tmod_bd rn 33 (by omega)
  have b2 := tmod_bd rac 3 (by omega)
  have b3 := tmod_bd rne nodes (by omega)
  have u1 := tmod_up rn 33
  have u2 := tmod_up rac 3
  have u3 := tmod_up rne nodes
  rw [ht1] at b1 u1
  rw [ht2] at b2 u2
  rw [ht3] at b3 u3
  obtain ⟨b11, b12⟩ := b1
  obtain ⟨b21, b22⟩ := b2
  obtain ⟨b31, b32⟩ := b3
  obtain ⟨n, hnn⟩ : ∃ n, rn % 33 = n := ⟨_, rfl⟩
  obtain ⟨c, hcc⟩ : ∃ c, rac % 3 = c := ⟨_, rfl⟩
  obtain ⟨x, hxx⟩ : ∃ x, rne % nodes = x := ⟨_, rfl⟩
  have bn : 0 ≤ n ∧ n ≤ 32 := by omega
  have bc : c = 0 ∨ c = 1 ∨ c = 2 := by omega
  have hfit : (Ru.mk ra rn rac rne).fit nodes = ⟨lead ra n, n, if c = 0 then 3 else c, if c = 1 then x else 0⟩ := by unfold Ru.fit; simp only [hnn, hcc, hxx]
  rw [hfit]
  rw [hnn] at u1 hla
  rw [hcc] at u2
  rw [hxx] at u3
  obtain ⟨l, hl⟩ : ∃ l, lead ra n = l := ⟨_, rfl⟩
  rw [hl] at hla ⊢
  obtain ⟨m, hm⟩ : ∃ m, maskN n = m := ⟨_, rfl⟩
  have hms : ∀ w : World, Calls Try.prog 40 #[.int .i64 n] w (fun e w' => e = .returned (.int .u32 (m : Nat)) ∧ w' = w) := fun w => by
    have := rmask_still n w
    rwa [hm] at this
  have Hms := Lib.hid hms
  clear hms
  rw [hm] at hla
  clear hr hfit hnn hcc hxx hl hm
  show Calls Try.prog 17 #[.agg #[.int .u32 ra, .int .i64 rn, .int .i64 rac, .int .i64 rne], .int .i64 nodes] w _
  rcases bc with rfl | rfl | rfl
  all_goals go_enter Try.func17, Try.ntmps17
  all_goals go_wp2
  all_goals have hq0 : ∀ q : Step (w.heap.size + 2) ((w.alloc (.cells #[.int .u32 ra, .int .i64 rn, .int .i64 rac, .int .i64 rne] 25)).alloc (.cells #[.int .u32 0, .int .i64 0, .int .i64 0, .int .i64 0] 25)).drew, q.w.cell? ⟨w.heap.size, 0, none⟩ = some (.int .u32 ra) := fun q => q.cell (by simp) (by go_simp)
  all_goals have hq2 : ∀ q : Step (w.heap.size + 2) ((w.alloc (.cells #[.int .u32 ra, .int .i64 rn, .int .i64 rac, .int .i64 rne] 25)).alloc (.cells #[.int .u32 0, .int .i64 0, .int .i64 0, .int .i64 0] 25)).drew, q.w.cell? ⟨w.heap.size, 2, none⟩ = some (.int .i64 rac) := fun q => q.cell (by simp) (by go_simp)
  all_goals
    refine wp_region_tree (.float 0 3 (.float 5 6 (.two 3 (.float 4 1 (.float 11 1 (.one 12 (.one 13 .done)))) 12 (.one 3 (.float 4 1 (.float 11 1 (.one 13 .done))))))) (Th.Reach (w.heap.size + 2)) (Th.Reach.trans _) (Th.Reach.refl _) (by kernel_rfl) (by kernel_rfl) (fun KT hKT => ?_)
    refine wpTree_float (fun KF hKF => ?_)
    simp only [List.drop, List.take]
    repeat (first | go_big_quiet_skip | go_big_quiet_step (fail) | quiet_step (fail))
    refine wpQuiet_nil ?_
    refine hKF _ ?_
    clear hKF KF
    refine wpTree_float (fun KF hKF => ?_)
    simp only [List.drop, List.take]
    repeat (first | go_big_quiet_skip | go_big_quiet_step (fail) | quiet_step (fail))
    refine wpQuiet_nil ?_
    refine hKF _ ?_
    clear hKF KF
    refine wpTree_two ?_ ?_
    refine wpTree_one (fun KO hKO => ?_)
    simp only [List.drop, List.take]
    go_wp2_with (first | go_at_call 40; refine (Hms.out _).mono ?_; rintro e w9 ⟨rfl, rfl⟩)
    refine anch_end (Th.Reach.of (by first | exact Below.refl _ _ | exact below_alloc _ (by first | omega | (simp; done) | (simp; omega)) _ | exact below_alloc2 _ (by first | omega | (simp; done) | (simp; omega)) _ _ | exact below_alloc2d _ (by simp) _ _ | exact bdrew _ _ | assumption | (exact Below.mono (by assumption) (by first | (simp; done) | (simp; omega) | omega | assumption)))) (hKO _ _ ?_)
    clear hKO KO
    refine wpTree_float (fun KF hKF => ?_)
    simp only [List.drop, List.take]
    repeat (first | go_big_quiet_skip | go_big_quiet_step (fail) | quiet_step (fail))
    refine wpQuiet_nil ?_
    refine hKF _ ?_
    clear hKF KF
    refine wpTree_float (fun KF hKF => ?_)
    simp only [List.drop, List.take]
    repeat (first | go_big_quiet_skip | go_big_quiet_step (fail) | quiet_step (fail))
    refine wpQuiet_nil ?_
    refine hKF _ ?_
    clear hKF KF
    refine wpTree_one (fun KO hKO => ?_)
    simp only [List.drop, List.take]
    go_wp2_with (first | go_at_call 40; refine (Hms.out _).mono ?_; rintro e w9 ⟨rfl, rfl⟩)
    refine anch_end (Th.Reach.of (by first | exact Below.refl _ _ | exact below_alloc _ (by first | omega | (simp; done) | (simp; omega)) _ | exact below_alloc2 _ (by first | omega | (simp; done) | (simp; omega)) _ _ | exact below_alloc2d _ (by simp) _ _ | exact bdrew _ _ | assumption | (exact Below.mono (by assumption) (by first | (simp; done) | (simp; omega) | omega | assumption)))) (hKO _ _ ?_)
    clear hKO KO
    refine wpTree_one (fun KO hKO => ?_)
    simp only [List.drop, List.take]
    go_wp2_with (first | go_at_call 40; refine (Hms.out _).mono ?_; rintro e w9 ⟨rfl, rfl⟩)
    refine anch_end (Th.Reach.of (by first | exact Below.refl _ _ | exact below_alloc _ (by first | omega | (simp; done) | (simp; omega)) _ | exact below_alloc2 _ (by first | omega | (simp; done) | (simp; omega)) _ _ | exact below_alloc2d _ (by simp) _ _ | exact bdrew _ _ | assumption | (exact Below.mono (by assumption) (by first | (simp; done) | (simp; omega) | omega | assumption)))) (hKO _ _ ?_)
    clear hKO KO
    refine wpTree_done ?_
    refine hKT _ _ ?_
    clear hKT KT
    rotate_left 1
    refine wpTree_one (fun KO hKO => ?_)
    simp only [List.drop, List.take]
    go_wp2_with (first | go_at_call 40; refine (Hms.out _).mono ?_; rintro e w9 ⟨rfl, rfl⟩)
    refine anch_end (Th.Reach.of (by first | exact Below.refl _ _ | exact below_alloc _ (by first | omega | (simp; done) | (simp; omega)) _ | exact below_alloc2 _ (by first | omega | (simp; done) | (simp; omega)) _ _ | exact below_alloc2d _ (by simp) _ _ | exact bdrew _ _ | assumption | (exact Below.mono (by assumption) (by first | (simp; done) | (simp; omega) | omega | assumption)))) (hKO _ _ ?_)
    clear hKO KO
    refine wpTree_one (fun KO hKO => ?_)
    simp only [List.drop, List.take]
    go_wp2_with (first | go_at_call 40; refine (Hms.out _).mono ?_; rintro e w9 ⟨rfl, rfl⟩)
    refine anch_end (Th.Reach.of (by first | exact Below.refl _ _ | exact below_alloc _ (by first | omega | (simp; done) | (simp; omega)) _ | exact below_alloc2 _ (by first | omega | (simp; done) | (simp; omega)) _ _ | exact below_alloc2d _ (by simp) _ _ | exact bdrew _ _ | assumption | (exact Below.mono (by assumption) (by first | (simp; done) | (simp; omega) | omega | assumption)))) (hKO _ _ ?_)
    clear hKO KO
    refine wpTree_float (fun KF hKF => ?_)
    simp only [List.drop, List.take]
    repeat (first | go_big_quiet_skip | go_big_quiet_step (fail) | quiet_step (fail))
    refine wpQuiet_nil ?_
    refine hKF _ ?_
    clear hKF KF
    refine wpTree_float (fun KF hKF => ?_)
    simp only [List.drop, List.take]
    repeat (first | go_big_quiet_skip | go_big_quiet_step (fail) | quiet_step (fail))
    refine wpQuiet_nil ?_
    refine hKF _ ?_
    clear hKF KF
    refine wpTree_one (fun KO hKO => ?_)
    simp only [List.drop, List.take]
    go_wp2_with (first | go_at_call 40; refine (Hms.out _).mono ?_; rintro e w9 ⟨rfl, rfl⟩)
    refine anch_end (Th.Reach.of (by first | exact Below.refl _ _ | exact below_alloc _ (by first | omega | (simp; done) | (simp; omega)) _ | exact below_alloc2 _ (by first | omega | (simp; done) | (simp; omega)) _ _ | exact below_alloc2d _ (by simp) _ _ | exact bdrew _ _ | assumption | (exact Below.mono (by assumption) (by first | (simp; done) | (simp; omega) | omega | assumption)))) (hKO _ _ ?_)
    clear hKO KO
    refine wpTree_done ?_
    refine hKT _ _ ?_
    clear hKT KT
    rotate_right 1
  all_goals clear hq0 hq2
  all_goals go_wp2
  all_goals first
    | exact bodyPost_ret (v := .agg #[.int .u32 l, .int .i64 n, .int .i64 3, .int .i64 0]) (by simp [results, Try.results17, go_sem]) rfl ⟨rfl, (by repeat (first | exact Below.refl _ _ | refine Below.drew ?_ | refine Below.alloc ?_ (by first | (simp; done) | (simp; omega)) _ | refine Below.setCell ?_ (by first | (simp; done) | (simp; omega)) _ | assumption))⟩
    | exact bodyPost_ret (v := .agg #[.int .u32 l, .int .i64 n, .int .i64 1, .int .i64 x]) (by simp [results, Try.results17, go_sem]) rfl ⟨rfl, (by repeat (first | exact Below.refl _ _ | refine Below.drew ?_ | refine Below.alloc ?_ (by first | (simp; done) | (simp; omega)) _ | refine Below.setCell ?_ (by first | (simp; done) | (simp; omega)) _ | assumption))⟩
    | exact bodyPost_ret (v := .agg #[.int .u32 l, .int .i64 n, .int .i64 2, .int .i64 0]) (by simp [results, Try.results17, go_sem]) rfl ⟨rfl, (by repeat (first | exact Below.refl _ _ | refine Below.drew ?_ | refine Below.alloc ?_ (by first | (simp; done) | (simp; omega)) _ | refine Below.setCell ?_ (by first | (simp; done) | (simp; omega)) _ | assumption))⟩
end Go.Proofs.Ytijobfkmchbpcaa
