/-
  theseuslaw17.CertFirst: the walk.
-/
import Derived.Test.YteellpcagdnikaaCertTraces
import Derived.Test.YteellpcagdnikaaNewArms
import Derived.Test.YteellpcagdnikaaAppend
namespace Go.Proofs.Yteellpcagdnikaa
open Go.RowKit Go.Th
set_option linter.unusedVariables false
theorem bits_fin2 : ∀ m : Fin 256, (m.1 &&& 16 = 0 ∨ m.1 &&& 16 = 16) ∧ (m.1 &&& 32 = 0 ∨ m.1 &&& 32 = 32) := by decide +kernel
theorem z_cert : (Try.prog.info? 29).map (fun i => (i.zero.map Value.cells, i.size)) = some (some (Cv 0 none 0 0 0 none 0 0), 4) := by kernel_rfl
theorem fill_two (p q : Pt) : Instr.fill (fun i => some (i * 3, 3)) ((Array.range (2 * 3)).map ((Value.agg #[.int .u32 0, .int .u32 0, .slice none 0 0]).cells[· % (Value.agg #[.int .u32 0, .int .u32 0, .slice none 0 0]).cells.size]!)) [(0, Value.agg #[.int .u32 p.fr, .int .u32 p.to, .slice p.A p.n p.c]), (1, Value.agg #[.int .u32 q.fr, .int .u32 q.to, .slice q.A q.n q.c])] = some ([p, q].flatMap Pt.cs).toArray := by
  have e : (Array.range (2 * 3)).map ((Value.agg #[.int .u32 0, .int .u32 0, .slice none 0 0]).cells[· % (Value.agg #[.int .u32 0, .int .u32 0, .slice none 0 0]).cells.size]!) = #[.int .u32 0, .int .u32 0, .slice none 0 0, .int .u32 0, .int .u32 0, .slice none 0 0] := by kernel_rfl
  rw [e]
  simp [Instr.fill, Value.cells, Pt.cs]
/-- The certificate of CertFirst in memory. -/
structure FMem (w : World) (b g gp g0 g1 : Nat) (v : Int) (d : Int) (At : Option Addr) (nt ct : Nat) (tr : List Int) (p0 p1 : Pt) : Prop where
  box : Box w g 29 (Cv v (some ⟨gp, 0, none⟩) 2 2 d At nt ct)
  parts : OwM Pt.cs 3 w b 26 (some ⟨gp, 0, none⟩) 2 2 [p0, p1]
  r0 : OwS iv w b 3 (some ⟨g0, 0, none⟩) p0.n p0.c p0.rk
  r1 : OwS iv w b 3 (some ⟨g1, 0, none⟩) p1.n p1.c p1.rk
  a0 : p0.A = some ⟨g0, 0, none⟩
  a1 : p1.A = some ⟨g1, 0, none⟩
  tr : OwS iv w b 3 At nt ct tr
  trn : ∀ g', At = some ⟨g', 0, none⟩ → g' ≠ g
  ne : g ≠ gp ∧ g ≠ g0 ∧ g ≠ g1 ∧ gp ≠ g0 ∧ gp ≠ g1 ∧ g0 ≠ g1
  ge : b ≤ g
theorem parts_rk {w : World} {b n c : Nat} {e : TypeId} {A : Option Addr} {x0 y0 : Int} {A0 : Option Addr} {n0 c0 : Nat} {k0 : List Int} {x1 y1 : Int} {A1 : Option Addr} {n1 c1 : Nat} {k1 : List Int} (h : OwM Pt.cs 3 w b e A n c [⟨x0, y0, A0, n0, c0, k0⟩, ⟨x1, y1, A1, n1, c1, k1⟩]) (r0 r1 : List Int) : OwM Pt.cs 3 w b e A n c [⟨x0, y0, A0, n0, c0, r0⟩, ⟨x1, y1, A1, n1, c1, r1⟩] := ⟨h.ow, h.len⟩
theorem own_ne {g g' : Nat} (h : g ≠ g') : ∀ x, (some (⟨g, 0, none⟩ : Addr)) = some ⟨x, 0, none⟩ → (some g' : Option Nat) ≠ some x := fun x hA e => by
  injection e with e; injection hA with hA; injection hA with hA; omega
theorem box_ne {g g' : Nat} (h : g ≠ g') : (some g' : Option Nat) ≠ some g := fun e => by injection e with e; omega
/-- What is wrong, and what is told. -/
def FLaw (N AT : Nat) (v d : Int) (nt n0 : Nat) (rk0 : List Int) (fr1 : Int) (rk1 : List Int) (want : Int) : Prop :=
  (v = 1 ∧ d = 0 ∧ nt = 0 ∧ fr1 = AT ∧ n0 = N ∧ rk0 = List.replicate N 0 ∧ rk1 = List.replicate N 0 ∧ want = 0) ∨
  (v = 1 ∧ d = 0 ∧ nt = 0 ∧ fr1 = AT ∧ n0 = N ∧ rk0 = List.replicate N 0 ∧ rk1 = (List.replicate N (0 : Int)).set (N - 1) (N : Int) ∧ want = 16) ∨
  (v = 1 ∧ d = 0 ∧ nt = 0 ∧ fr1 = AT ∧ n0 = N + 1 ∧ want = 1) ∨
  (v = 1 ∧ d = 0 ∧ nt = 0 ∧ fr1 = (AT : Int) - 1 ∧ want = 15) ∨
  (v = 1 ∧ (d ≠ 0 ∨ nt ≠ 0) ∧ want = 3) ∨ (v < 0 ∧ want = 9)
theorem zeros_in {N : Nat} (hN : 1 ≤ N) : ∀ x ∈ List.replicate N (0 : Int), 0 ≤ x ∧ x < (N : Int) := fun x hx => by
  rw [(List.mem_replicate.1 hx).2]; omega
theorem FLaw.ok {N AT : Nat} {v d : Int} {nt n0 : Nat} {rk0 : List Int} {fr1 : Int} {rk1 : List Int} {want : Int} (h : FLaw N AT v d nt n0 rk0 fr1 rk1 want) (hN : 1 ≤ N) (hA1 : 1 ≤ AT) (hA2 : AT < 4294967296) (A0 A1 : Option Addr) (c0 : Nat) (tr : List Int) (htr : tr.length = nt) (h0 : rk0.length = n0) (h1 : rk1.length = N) :
    cmay v [⟨0, (AT : Int) - 1, A0, n0, c0, rk0⟩, ⟨fr1, 4294967295, A1, N, N, rk1⟩] d tr N = want := by
  have hm : fr1 = AT → meetF 0 [⟨0, (AT : Int) - 1, A0, n0, c0, rk0⟩, ⟨fr1, 4294967295, A1, N, N, rk1⟩] = true := fun e => by
    simp only [meetF, Bool.and_eq_true, decide_eq_true_eq]
    refine ⟨trivial, by omega, by omega, by omega, by omega⟩
  have hm2 : fr1 = (AT : Int) - 1 → meetF 0 [⟨0, (AT : Int) - 1, A0, n0, c0, rk0⟩, ⟨fr1, 4294967295, A1, N, N, rk1⟩] = false := fun e => by
    have : decide (fr1 = (AT : Int) - 1 + 1) = false := decide_eq_false (by omega)
    simp only [meetF, this, Bool.false_and, Bool.and_false]
  unfold cmay
  rcases h with ⟨rfl, rfl, rfl, rfl, rfl, rfl, rfl, rfl⟩ | ⟨rfl, rfl, rfl, rfl, rfl, rfl, rfl, rfl⟩ | ⟨rfl, rfl, rfl, rfl, rfl, rfl⟩ | ⟨rfl, rfl, rfl, rfl, rfl⟩ | ⟨rfl, hq, rfl⟩ | ⟨hv, rfl⟩
  · rw [if_pos rfl]
    unfold cfree
    rw [if_neg (by omega), if_neg (by simp), if_neg (by rw [hm rfl]; simp)]
    simp only [ranks]
    rw [if_neg (by omega), if_neg (by rw [any_outs_no (zeros_in hN)]; simp), if_neg (by omega), if_neg (by rw [any_outs_no (zeros_in hN)]; simp)]
  · rw [if_pos rfl]
    unfold cfree
    rw [if_neg (by omega), if_neg (by simp), if_neg (by rw [hm rfl]; simp)]
    simp only [ranks]
    have hmem : (n0 : Int) ∈ (List.replicate n0 (0 : Int)).set (n0 - 1) n0 := List.mem_of_getElem? (List.getElem?_set_self (i := n0 - 1) (by rw [List.length_replicate]; omega))
    rw [if_neg (by omega), if_neg (by rw [any_outs_no (zeros_in hN)]; simp), if_neg (by omega), if_pos (any_outs_yes hmem (Int.le_refl _))]
  · rw [if_pos rfl]
    unfold cfree
    rw [if_neg (by omega), if_neg (by simp), if_neg (by rw [hm rfl]; simp)]
    simp only [ranks]
    rw [if_pos (by omega)]
  · rw [if_pos rfl]
    unfold cfree
    rw [if_neg (by omega), if_neg (by simp), if_pos (hm2 rfl)]
  · rw [if_pos rfl]
    unfold cfree
    rw [if_pos (by omega)]
  · rw [if_neg (by omega), if_neg (by omega)]
def FRel (q : Int → Int → Nat → Int → Nat → List Int → Prop) (N AT b g : Nat) (w1 : World) (s11 : Value) (wx : World) : Prop :=
  ∃ (gp g0 g1 : Nat) (v d : Int) (At : Option Addr) (nt ct : Nat) (tr : List Int) (n0 c0 : Nat) (rk0 : List Int) (fr1 : Int) (rk1 : List Int) (want : Int), s11 = .int .i64 want ∧ FMem wx b g gp g0 g1 v d At nt ct tr ⟨0, (AT : Int) - 1, some ⟨g0, 0, none⟩, n0, c0, rk0⟩ ⟨fr1, 4294967295, some ⟨g1, 0, none⟩, N, N, rk1⟩ ∧ Below b w1 wx ∧ Hid (FLaw N AT v d nt n0 rk0 fr1 rk1 want) ∧ nt ≤ 1 ∧ Hid (∀ x ∈ tr, x = 0) ∧ Hid (nt = 0 → At = none ∧ ct = 0 ∧ tr = []) ∧ 1 ≤ n0 ∧ n0 ≤ 9 ∧ 0 ≤ fr1 ∧ fr1 ≤ 4294967295 ∧ q v d nt fr1 n0 rk0
set_option maxRecDepth 100000 in
set_option maxHeartbeats 8000000 in
theorem certFirst_core (m0 : Nat) (h0 : m0 ≤ 255) (m : Nat) (hm : m < 256) (aa : Nat) (haa : aa < 4294967296) {w : World} :
    Calls Try.prog 3 #[.int .u8 m0, .int .u8 m, .int .u32 aa] w fun e w' => e = .returned (.bool true) ∧ Below w.heap.size w w' := by
  obtain ⟨N, hN⟩ : ∃ N, 1 + m0 % 8 = N := ⟨_, rfl⟩
  have hN1 : 1 ≤ N ∧ N ≤ 8 := by omega
  have hN2 : 1 + (m0 : Int) % 8 = (N : Int) := by omega
  have hor : bits .or .u32 (aa : Int) 1 = ((aa ||| 1 : Nat) : Int) := Go.u32_or_nat aa 1 haa (by omega)
  have hol : aa ||| 1 < 4294967296 := Nat.or_lt_two_pow (n := 32) haa (by omega)
  have hog : 1 ≤ aa ||| 1 := by
    rcases Nat.eq_zero_or_pos (aa ||| 1) with h | h
    · have h2 : (aa ||| 1).testBit 0 = true := by rw [Nat.testBit_or]; simp
      rw [h] at h2
      simp at h2
    · exact h
  obtain ⟨AT, hAT⟩ : ∃ AT, aa ||| 1 = AT := ⟨_, rfl⟩
  rw [hAT] at hor hol hog
  obtain ⟨hN3, hN4⟩ := hN1
  clear hN hAT
  have H1 := Lib.hid (show bits .and .u8 (m : Int) 1 = ((m &&& 1 : Nat) : Int) from Go.u8_and_nat m 1 hm (by omega))
  have H2 := Lib.hid (show bits .and .u8 (m : Int) 2 = ((m &&& 2 : Nat) : Int) from Go.u8_and_nat m 2 hm (by omega))
  have H4 := Lib.hid (show bits .and .u8 (m : Int) 4 = ((m &&& 4 : Nat) : Int) from Go.u8_and_nat m 4 hm (by omega))
  have H8 := Lib.hid (show bits .and .u8 (m : Int) 8 = ((m &&& 8 : Nat) : Int) from Go.u8_and_nat m 8 hm (by omega))
  have H16 := Lib.hid (show bits .and .u8 (m : Int) 16 = ((m &&& 16 : Nat) : Int) from Go.u8_and_nat m 16 hm (by omega))
  have H32 := Lib.hid (show bits .and .u8 (m : Int) 32 = ((m &&& 32 : Nat) : Int) from Go.u8_and_nat m 32 hm (by omega))
  obtain ⟨d1, d2, d4, d8⟩ := bits_fin ⟨m, hm⟩
  obtain ⟨d16, d32⟩ := bits_fin2 ⟨m, hm⟩
  simp only at d1 d2 d4 d8 d16 d32
  have D16 := Lib.hid d16
  have D32 := Lib.hid d32
  clear d16 d32
  have HN2 := Lib.hid hN2
  clear hN2
  go_enter Try.func3, Try.ntmps3
  go_wp2_with fail
  refine (shown17 _).mono ?_
  rintro e w1 ⟨rfl, hb1⟩
  go_upto_region 4 with fail
  rw [HN2.out]
  have D1 := Lib.hid d1
  have D2 := Lib.hid d2
  have D4 := Lib.hid d4
  have D8 := Lib.hid d8
  have Hor := Lib.hid hor
  clear d1 d2 d4 d8 hor
  have hd : w1.heap.size ≤ w1.drew.heap.size := Nat.le_refl _
  go_cut [10] (fun s10 wx => ∃ g gp g0 g1, s10 = .pointer (some ⟨g, 0, none⟩) ∧ FMem wx w1.heap.size g gp g0 g1 1 0 none 0 0 [] ⟨0, (AT : Int) - 1, some ⟨g0, 0, none⟩, N, N, List.replicate N 0⟩ ⟨AT, 4294967295, some ⟨g1, 0, none⟩, N, N, List.replicate N 0⟩ ∧ Below w1.heap.size w1 wx)
  case first =>
    refine wp_region_tree (.float 0 3 (.float 5 2 (.three 3 (.float 4 1 (.two 7 (.float 8 1 (.two 9 (.float 10 1 (.one 11 (.one 12 .done))) 11 (.one 9 (.float 10 1 (.one 12 .done))))) 11 (.one 7 (.float 8 1 (.one 9 (.float 10 1 (.one 12 .done))))))) 7 (.float 8 1 (.two 3 (.float 4 1 (.two 9 (.float 10 1 (.one 11 (.one 12 .done))) 11 (.one 9 (.float 10 1 (.one 12 .done))))) 11 (.one 3 (.float 4 1 (.one 9 (.float 10 1 (.one 12 .done))))))) 11 (.two 3 (.float 4 1 (.one 7 (.float 8 1 (.one 9 (.float 10 1 (.one 12 .done)))))) 7 (.float 8 1 (.one 3 (.float 4 1 (.one 9 (.float 10 1 (.one 12 .done)))))))))) (Th.Reach w1.heap.size) (Th.Reach.trans _) (Th.Reach.refl _) (by kernel_rfl) (by kernel_rfl) (fun KT hKT => ?_)
    refine wpTree_float (fun KF hKF => ?_)
    simp only [List.drop, List.take]
    repeat (first | go_big_quiet_skip | go_big_quiet_step (fail) | quiet_step (fail))
    refine wpQuiet_nil ?_
    refine hKF _ ?_
    clear hKF KF
    refine wpTree_float (fun KF hKF => ?_)
    simp only [List.drop, List.take]
    repeat (first | go_big_quiet_skip | go_big_quiet_step (fail) | quiet_step (fail))
    refine wpQuiet_nil ?_
    refine hKF _ ?_
    clear hKF KF
    refine wpTree_three ?_ ?_ ?_
    refine wpTree_one (fun KO hKO => ?_)
    simp only [List.drop, List.take]
    go_wp2_with (first | ((with_reducible refine on_makeL (.tmp 21) ?_); refine wl_makeS (base := w1.heap.size) rfl _ _ _ rfl el_int (f := iv) 0 rfl N rfl rfl rfl rfl (by omega) (by omega) (by omega) ?_; intro g0 w3 hg0 how0 hb3; have l0 := how0.lt.2; have s3 := hb3.size; have u3 : Below w1.heap.size _ _ := hb3.mono (by omega); (try have how1 := how1.below hb3); (try have owp := owp.below hb3); (try have bxc := bxc.step hb3)) | ((with_reducible refine on_makeL (.tmp 25) ?_); refine wl_makeS (base := w1.heap.size) rfl _ _ _ rfl el_int (f := iv) 0 rfl N rfl rfl rfl rfl (by omega) (by omega) (by omega) ?_; intro g1 w7 hg1 how1 hb7; have l1 := how1.lt.2; have s7 := hb7.size; have u7 : Below w1.heap.size _ _ := hb7.mono (by omega); (try have how0 := how0.below hb7); (try have owp := owp.below hb7); (try have bxc := bxc.step hb7)) | ((with_reducible refine on_sliceLit ?_); refine wl_sliceM (base := w1.heap.size) rfl _ 2 _ rfl el_part Pt.cs_length [⟨0, (AT : Int) - 1, some ⟨g0, 0, none⟩, N, N, List.replicate N 0⟩, ⟨AT, 4294967295, some ⟨g1, 0, none⟩, N, N, List.replicate N 0⟩] rfl (by omega) (by omega) (by omega) rfl (fill_two ⟨0, (AT : Int) - 1, some ⟨g0, 0, none⟩, N, N, List.replicate N 0⟩ ⟨AT, 4294967295, some ⟨g1, 0, none⟩, N, N, List.replicate N 0⟩) ?_; intro gp w9 hgp lp owp hb9; have s9 := hb9.size; have u9 : Below w1.heap.size _ _ := hb9.mono (by omega); (try have how0 := how0.below hb9); (try have how1 := how1.below hb9); (try have bxc := bxc.step hb9)) | ((with_reducible refine on_alloc ?_); refine wl_newBox rfl _ rfl z_cert ?_; intro g w11 hg lg bxc hb11; have s11 := hb11.size; have u11 : Below w1.heap.size _ _ := hb11.mono (by omega); (try have how0 := how0.below hb11); (try have how1 := how1.below hb11); (try have owp := owp.below hb11)) | ((with_reducible refine on_store_at (.tmp 10) ?_); refine wb_store (cs := Cv 0 none 0 0 0 none 0 0) (cs' := Cv 1 (some ⟨gp, 0, none⟩) 2 2 0 none 0 0) rfl _ (.tmp 10) _ rfl st_cert rfl rfl bxc rfl rfl (by simp [Cv, Value.oneCell']) ?_; intro w12 bxc hg12; have u12 : Below w1.heap.size _ _ := below_of_grown hg12 (fun j e => by injection e with e; omega) (by omega)))
    refine anch_end (Th.Reach.of (by first | exact Below.refl _ _ | exact below_alloc _ (by first | omega | (simp; done) | (simp; omega)) _ | exact below_alloc2 _ (by first | omega | (simp; done) | (simp; omega)) _ _ | exact below_alloc2d _ (by simp) _ _ | exact bdrew _ _ | assumption | (exact Below.mono (by assumption) (by first | (simp; done) | (simp; omega) | omega | assumption)))) (hKO _ _ ?_)
    clear hKO KO
    refine wpTree_float (fun KF hKF => ?_)
    simp only [List.drop, List.take]
    repeat (first | go_big_quiet_skip | go_big_quiet_step (fail) | quiet_step (fail))
    refine wpQuiet_nil ?_
    refine hKF _ ?_
    clear hKF KF
    refine wpTree_two ?_ ?_
    refine wpTree_one (fun KO hKO => ?_)
    simp only [List.drop, List.take]
    go_wp2_with (first | ((with_reducible refine on_makeL (.tmp 21) ?_); refine wl_makeS (base := w1.heap.size) rfl _ _ _ rfl el_int (f := iv) 0 rfl N rfl rfl rfl rfl (by omega) (by omega) (by omega) ?_; intro g0 w3 hg0 how0 hb3; have l0 := how0.lt.2; have s3 := hb3.size; have u3 : Below w1.heap.size _ _ := hb3.mono (by omega); (try have how1 := how1.below hb3); (try have owp := owp.below hb3); (try have bxc := bxc.step hb3)) | ((with_reducible refine on_makeL (.tmp 25) ?_); refine wl_makeS (base := w1.heap.size) rfl _ _ _ rfl el_int (f := iv) 0 rfl N rfl rfl rfl rfl (by omega) (by omega) (by omega) ?_; intro g1 w7 hg1 how1 hb7; have l1 := how1.lt.2; have s7 := hb7.size; have u7 : Below w1.heap.size _ _ := hb7.mono (by omega); (try have how0 := how0.below hb7); (try have owp := owp.below hb7); (try have bxc := bxc.step hb7)) | ((with_reducible refine on_sliceLit ?_); refine wl_sliceM (base := w1.heap.size) rfl _ 2 _ rfl el_part Pt.cs_length [⟨0, (AT : Int) - 1, some ⟨g0, 0, none⟩, N, N, List.replicate N 0⟩, ⟨AT, 4294967295, some ⟨g1, 0, none⟩, N, N, List.replicate N 0⟩] rfl (by omega) (by omega) (by omega) rfl (fill_two ⟨0, (AT : Int) - 1, some ⟨g0, 0, none⟩, N, N, List.replicate N 0⟩ ⟨AT, 4294967295, some ⟨g1, 0, none⟩, N, N, List.replicate N 0⟩) ?_; intro gp w9 hgp lp owp hb9; have s9 := hb9.size; have u9 : Below w1.heap.size _ _ := hb9.mono (by omega); (try have how0 := how0.below hb9); (try have how1 := how1.below hb9); (try have bxc := bxc.step hb9)) | ((with_reducible refine on_alloc ?_); refine wl_newBox rfl _ rfl z_cert ?_; intro g w11 hg lg bxc hb11; have s11 := hb11.size; have u11 : Below w1.heap.size _ _ := hb11.mono (by omega); (try have how0 := how0.below hb11); (try have how1 := how1.below hb11); (try have owp := owp.below hb11)) | ((with_reducible refine on_store_at (.tmp 10) ?_); refine wb_store (cs := Cv 0 none 0 0 0 none 0 0) (cs' := Cv 1 (some ⟨gp, 0, none⟩) 2 2 0 none 0 0) rfl _ (.tmp 10) _ rfl st_cert rfl rfl bxc rfl rfl (by simp [Cv, Value.oneCell']) ?_; intro w12 bxc hg12; have u12 : Below w1.heap.size _ _ := below_of_grown hg12 (fun j e => by injection e with e; omega) (by omega)))
    refine anch_end (Th.Reach.of (by first | exact Below.refl _ _ | exact below_alloc _ (by first | omega | (simp; done) | (simp; omega)) _ | exact below_alloc2 _ (by first | omega | (simp; done) | (simp; omega)) _ _ | exact below_alloc2d _ (by simp) _ _ | exact bdrew _ _ | assumption | (exact Below.mono (by assumption) (by first | (simp; done) | (simp; omega) | omega | assumption)))) (hKO _ _ ?_)
    clear hKO KO
    refine wpTree_float (fun KF hKF => ?_)
    simp only [List.drop, List.take]
    repeat (first | go_big_quiet_skip | go_big_quiet_step (fail) | quiet_step (fail))
    refine wpQuiet_nil ?_
    refine hKF _ ?_
    clear hKF KF
    refine wpTree_two ?_ ?_
    refine wpTree_one (fun KO hKO => ?_)
    simp only [List.drop, List.take]
    go_wp2_with (first | ((with_reducible refine on_makeL (.tmp 21) ?_); refine wl_makeS (base := w1.heap.size) rfl _ _ _ rfl el_int (f := iv) 0 rfl N rfl rfl rfl rfl (by omega) (by omega) (by omega) ?_; intro g0 w3 hg0 how0 hb3; have l0 := how0.lt.2; have s3 := hb3.size; have u3 : Below w1.heap.size _ _ := hb3.mono (by omega); (try have how1 := how1.below hb3); (try have owp := owp.below hb3); (try have bxc := bxc.step hb3)) | ((with_reducible refine on_makeL (.tmp 25) ?_); refine wl_makeS (base := w1.heap.size) rfl _ _ _ rfl el_int (f := iv) 0 rfl N rfl rfl rfl rfl (by omega) (by omega) (by omega) ?_; intro g1 w7 hg1 how1 hb7; have l1 := how1.lt.2; have s7 := hb7.size; have u7 : Below w1.heap.size _ _ := hb7.mono (by omega); (try have how0 := how0.below hb7); (try have owp := owp.below hb7); (try have bxc := bxc.step hb7)) | ((with_reducible refine on_sliceLit ?_); refine wl_sliceM (base := w1.heap.size) rfl _ 2 _ rfl el_part Pt.cs_length [⟨0, (AT : Int) - 1, some ⟨g0, 0, none⟩, N, N, List.replicate N 0⟩, ⟨AT, 4294967295, some ⟨g1, 0, none⟩, N, N, List.replicate N 0⟩] rfl (by omega) (by omega) (by omega) rfl (fill_two ⟨0, (AT : Int) - 1, some ⟨g0, 0, none⟩, N, N, List.replicate N 0⟩ ⟨AT, 4294967295, some ⟨g1, 0, none⟩, N, N, List.replicate N 0⟩) ?_; intro gp w9 hgp lp owp hb9; have s9 := hb9.size; have u9 : Below w1.heap.size _ _ := hb9.mono (by omega); (try have how0 := how0.below hb9); (try have how1 := how1.below hb9); (try have bxc := bxc.step hb9)) | ((with_reducible refine on_alloc ?_); refine wl_newBox rfl _ rfl z_cert ?_; intro g w11 hg lg bxc hb11; have s11 := hb11.size; have u11 : Below w1.heap.size _ _ := hb11.mono (by omega); (try have how0 := how0.below hb11); (try have how1 := how1.below hb11); (try have owp := owp.below hb11)) | ((with_reducible refine on_store_at (.tmp 10) ?_); refine wb_store (cs := Cv 0 none 0 0 0 none 0 0) (cs' := Cv 1 (some ⟨gp, 0, none⟩) 2 2 0 none 0 0) rfl _ (.tmp 10) _ rfl st_cert rfl rfl bxc rfl rfl (by simp [Cv, Value.oneCell']) ?_; intro w12 bxc hg12; have u12 : Below w1.heap.size _ _ := below_of_grown hg12 (fun j e => by injection e with e; omega) (by omega)))
    refine anch_end (Th.Reach.of (by first | exact Below.refl _ _ | exact below_alloc _ (by first | omega | (simp; done) | (simp; omega)) _ | exact below_alloc2 _ (by first | omega | (simp; done) | (simp; omega)) _ _ | exact below_alloc2d _ (by simp) _ _ | exact bdrew _ _ | assumption | (exact Below.mono (by assumption) (by first | (simp; done) | (simp; omega) | omega | assumption)))) (hKO _ _ ?_)
    clear hKO KO
    refine wpTree_float (fun KF hKF => ?_)
    simp only [List.drop, List.take]
    repeat (first | go_big_quiet_skip | go_big_quiet_step (fail) | quiet_step (fail))
    refine wpQuiet_nil ?_
    refine hKF _ ?_
    clear hKF KF
    refine wpTree_one (fun KO hKO => ?_)
    simp only [List.drop, List.take]
    go_wp2_with (first | ((with_reducible refine on_makeL (.tmp 21) ?_); refine wl_makeS (base := w1.heap.size) rfl _ _ _ rfl el_int (f := iv) 0 rfl N rfl rfl rfl rfl (by omega) (by omega) (by omega) ?_; intro g0 w3 hg0 how0 hb3; have l0 := how0.lt.2; have s3 := hb3.size; have u3 : Below w1.heap.size _ _ := hb3.mono (by omega); (try have how1 := how1.below hb3); (try have owp := owp.below hb3); (try have bxc := bxc.step hb3)) | ((with_reducible refine on_makeL (.tmp 25) ?_); refine wl_makeS (base := w1.heap.size) rfl _ _ _ rfl el_int (f := iv) 0 rfl N rfl rfl rfl rfl (by omega) (by omega) (by omega) ?_; intro g1 w7 hg1 how1 hb7; have l1 := how1.lt.2; have s7 := hb7.size; have u7 : Below w1.heap.size _ _ := hb7.mono (by omega); (try have how0 := how0.below hb7); (try have owp := owp.below hb7); (try have bxc := bxc.step hb7)) | ((with_reducible refine on_sliceLit ?_); refine wl_sliceM (base := w1.heap.size) rfl _ 2 _ rfl el_part Pt.cs_length [⟨0, (AT : Int) - 1, some ⟨g0, 0, none⟩, N, N, List.replicate N 0⟩, ⟨AT, 4294967295, some ⟨g1, 0, none⟩, N, N, List.replicate N 0⟩] rfl (by omega) (by omega) (by omega) rfl (fill_two ⟨0, (AT : Int) - 1, some ⟨g0, 0, none⟩, N, N, List.replicate N 0⟩ ⟨AT, 4294967295, some ⟨g1, 0, none⟩, N, N, List.replicate N 0⟩) ?_; intro gp w9 hgp lp owp hb9; have s9 := hb9.size; have u9 : Below w1.heap.size _ _ := hb9.mono (by omega); (try have how0 := how0.below hb9); (try have how1 := how1.below hb9); (try have bxc := bxc.step hb9)) | ((with_reducible refine on_alloc ?_); refine wl_newBox rfl _ rfl z_cert ?_; intro g w11 hg lg bxc hb11; have s11 := hb11.size; have u11 : Below w1.heap.size _ _ := hb11.mono (by omega); (try have how0 := how0.below hb11); (try have how1 := how1.below hb11); (try have owp := owp.below hb11)) | ((with_reducible refine on_store_at (.tmp 10) ?_); refine wb_store (cs := Cv 0 none 0 0 0 none 0 0) (cs' := Cv 1 (some ⟨gp, 0, none⟩) 2 2 0 none 0 0) rfl _ (.tmp 10) _ rfl st_cert rfl rfl bxc rfl rfl (by simp [Cv, Value.oneCell']) ?_; intro w12 bxc hg12; have u12 : Below w1.heap.size _ _ := below_of_grown hg12 (fun j e => by injection e with e; omega) (by omega)))
    refine anch_end (Th.Reach.of (by first | exact Below.refl _ _ | exact below_alloc _ (by first | omega | (simp; done) | (simp; omega)) _ | exact below_alloc2 _ (by first | omega | (simp; done) | (simp; omega)) _ _ | exact below_alloc2d _ (by simp) _ _ | exact bdrew _ _ | assumption | (exact Below.mono (by assumption) (by first | (simp; done) | (simp; omega) | omega | assumption)))) (hKO _ _ ?_)
    clear hKO KO
    refine wpTree_one (fun KO hKO => ?_)
    simp only [List.drop, List.take]
    go_wp2_with (first | ((with_reducible refine on_makeL (.tmp 21) ?_); refine wl_makeS (base := w1.heap.size) rfl _ _ _ rfl el_int (f := iv) 0 rfl N rfl rfl rfl rfl (by omega) (by omega) (by omega) ?_; intro g0 w3 hg0 how0 hb3; have l0 := how0.lt.2; have s3 := hb3.size; have u3 : Below w1.heap.size _ _ := hb3.mono (by omega); (try have how1 := how1.below hb3); (try have owp := owp.below hb3); (try have bxc := bxc.step hb3)) | ((with_reducible refine on_makeL (.tmp 25) ?_); refine wl_makeS (base := w1.heap.size) rfl _ _ _ rfl el_int (f := iv) 0 rfl N rfl rfl rfl rfl (by omega) (by omega) (by omega) ?_; intro g1 w7 hg1 how1 hb7; have l1 := how1.lt.2; have s7 := hb7.size; have u7 : Below w1.heap.size _ _ := hb7.mono (by omega); (try have how0 := how0.below hb7); (try have owp := owp.below hb7); (try have bxc := bxc.step hb7)) | ((with_reducible refine on_sliceLit ?_); refine wl_sliceM (base := w1.heap.size) rfl _ 2 _ rfl el_part Pt.cs_length [⟨0, (AT : Int) - 1, some ⟨g0, 0, none⟩, N, N, List.replicate N 0⟩, ⟨AT, 4294967295, some ⟨g1, 0, none⟩, N, N, List.replicate N 0⟩] rfl (by omega) (by omega) (by omega) rfl (fill_two ⟨0, (AT : Int) - 1, some ⟨g0, 0, none⟩, N, N, List.replicate N 0⟩ ⟨AT, 4294967295, some ⟨g1, 0, none⟩, N, N, List.replicate N 0⟩) ?_; intro gp w9 hgp lp owp hb9; have s9 := hb9.size; have u9 : Below w1.heap.size _ _ := hb9.mono (by omega); (try have how0 := how0.below hb9); (try have how1 := how1.below hb9); (try have bxc := bxc.step hb9)) | ((with_reducible refine on_alloc ?_); refine wl_newBox rfl _ rfl z_cert ?_; intro g w11 hg lg bxc hb11; have s11 := hb11.size; have u11 : Below w1.heap.size _ _ := hb11.mono (by omega); (try have how0 := how0.below hb11); (try have how1 := how1.below hb11); (try have owp := owp.below hb11)) | ((with_reducible refine on_store_at (.tmp 10) ?_); refine wb_store (cs := Cv 0 none 0 0 0 none 0 0) (cs' := Cv 1 (some ⟨gp, 0, none⟩) 2 2 0 none 0 0) rfl _ (.tmp 10) _ rfl st_cert rfl rfl bxc rfl rfl (by simp [Cv, Value.oneCell']) ?_; intro w12 bxc hg12; have u12 : Below w1.heap.size _ _ := below_of_grown hg12 (fun j e => by injection e with e; omega) (by omega)))
    refine anch_end (Th.Reach.of (by first | exact Below.refl _ _ | exact below_alloc _ (by first | omega | (simp; done) | (simp; omega)) _ | exact below_alloc2 _ (by first | omega | (simp; done) | (simp; omega)) _ _ | exact below_alloc2d _ (by simp) _ _ | exact bdrew _ _ | assumption | (exact Below.mono (by assumption) (by first | (simp; done) | (simp; omega) | omega | assumption)))) (hKO _ _ ?_)
    clear hKO KO
    refine wpTree_done ?_
    refine hKT _ _ ?_
    clear hKT KT
    rotate_left 1
    refine wpTree_one (fun KO hKO => ?_)
    simp only [List.drop, List.take]
    go_wp2_with (first | ((with_reducible refine on_makeL (.tmp 21) ?_); refine wl_makeS (base := w1.heap.size) rfl _ _ _ rfl el_int (f := iv) 0 rfl N rfl rfl rfl rfl (by omega) (by omega) (by omega) ?_; intro g0 w3 hg0 how0 hb3; have l0 := how0.lt.2; have s3 := hb3.size; have u3 : Below w1.heap.size _ _ := hb3.mono (by omega); (try have how1 := how1.below hb3); (try have owp := owp.below hb3); (try have bxc := bxc.step hb3)) | ((with_reducible refine on_makeL (.tmp 25) ?_); refine wl_makeS (base := w1.heap.size) rfl _ _ _ rfl el_int (f := iv) 0 rfl N rfl rfl rfl rfl (by omega) (by omega) (by omega) ?_; intro g1 w7 hg1 how1 hb7; have l1 := how1.lt.2; have s7 := hb7.size; have u7 : Below w1.heap.size _ _ := hb7.mono (by omega); (try have how0 := how0.below hb7); (try have owp := owp.below hb7); (try have bxc := bxc.step hb7)) | ((with_reducible refine on_sliceLit ?_); refine wl_sliceM (base := w1.heap.size) rfl _ 2 _ rfl el_part Pt.cs_length [⟨0, (AT : Int) - 1, some ⟨g0, 0, none⟩, N, N, List.replicate N 0⟩, ⟨AT, 4294967295, some ⟨g1, 0, none⟩, N, N, List.replicate N 0⟩] rfl (by omega) (by omega) (by omega) rfl (fill_two ⟨0, (AT : Int) - 1, some ⟨g0, 0, none⟩, N, N, List.replicate N 0⟩ ⟨AT, 4294967295, some ⟨g1, 0, none⟩, N, N, List.replicate N 0⟩) ?_; intro gp w9 hgp lp owp hb9; have s9 := hb9.size; have u9 : Below w1.heap.size _ _ := hb9.mono (by omega); (try have how0 := how0.below hb9); (try have how1 := how1.below hb9); (try have bxc := bxc.step hb9)) | ((with_reducible refine on_alloc ?_); refine wl_newBox rfl _ rfl z_cert ?_; intro g w11 hg lg bxc hb11; have s11 := hb11.size; have u11 : Below w1.heap.size _ _ := hb11.mono (by omega); (try have how0 := how0.below hb11); (try have how1 := how1.below hb11); (try have owp := owp.below hb11)) | ((with_reducible refine on_store_at (.tmp 10) ?_); refine wb_store (cs := Cv 0 none 0 0 0 none 0 0) (cs' := Cv 1 (some ⟨gp, 0, none⟩) 2 2 0 none 0 0) rfl _ (.tmp 10) _ rfl st_cert rfl rfl bxc rfl rfl (by simp [Cv, Value.oneCell']) ?_; intro w12 bxc hg12; have u12 : Below w1.heap.size _ _ := below_of_grown hg12 (fun j e => by injection e with e; omega) (by omega)))
    refine anch_end (Th.Reach.of (by first | exact Below.refl _ _ | exact below_alloc _ (by first | omega | (simp; done) | (simp; omega)) _ | exact below_alloc2 _ (by first | omega | (simp; done) | (simp; omega)) _ _ | exact below_alloc2d _ (by simp) _ _ | exact bdrew _ _ | assumption | (exact Below.mono (by assumption) (by first | (simp; done) | (simp; omega) | omega | assumption)))) (hKO _ _ ?_)
    clear hKO KO
    refine wpTree_one (fun KO hKO => ?_)
    simp only [List.drop, List.take]
    go_wp2_with (first | ((with_reducible refine on_makeL (.tmp 21) ?_); refine wl_makeS (base := w1.heap.size) rfl _ _ _ rfl el_int (f := iv) 0 rfl N rfl rfl rfl rfl (by omega) (by omega) (by omega) ?_; intro g0 w3 hg0 how0 hb3; have l0 := how0.lt.2; have s3 := hb3.size; have u3 : Below w1.heap.size _ _ := hb3.mono (by omega); (try have how1 := how1.below hb3); (try have owp := owp.below hb3); (try have bxc := bxc.step hb3)) | ((with_reducible refine on_makeL (.tmp 25) ?_); refine wl_makeS (base := w1.heap.size) rfl _ _ _ rfl el_int (f := iv) 0 rfl N rfl rfl rfl rfl (by omega) (by omega) (by omega) ?_; intro g1 w7 hg1 how1 hb7; have l1 := how1.lt.2; have s7 := hb7.size; have u7 : Below w1.heap.size _ _ := hb7.mono (by omega); (try have how0 := how0.below hb7); (try have owp := owp.below hb7); (try have bxc := bxc.step hb7)) | ((with_reducible refine on_sliceLit ?_); refine wl_sliceM (base := w1.heap.size) rfl _ 2 _ rfl el_part Pt.cs_length [⟨0, (AT : Int) - 1, some ⟨g0, 0, none⟩, N, N, List.replicate N 0⟩, ⟨AT, 4294967295, some ⟨g1, 0, none⟩, N, N, List.replicate N 0⟩] rfl (by omega) (by omega) (by omega) rfl (fill_two ⟨0, (AT : Int) - 1, some ⟨g0, 0, none⟩, N, N, List.replicate N 0⟩ ⟨AT, 4294967295, some ⟨g1, 0, none⟩, N, N, List.replicate N 0⟩) ?_; intro gp w9 hgp lp owp hb9; have s9 := hb9.size; have u9 : Below w1.heap.size _ _ := hb9.mono (by omega); (try have how0 := how0.below hb9); (try have how1 := how1.below hb9); (try have bxc := bxc.step hb9)) | ((with_reducible refine on_alloc ?_); refine wl_newBox rfl _ rfl z_cert ?_; intro g w11 hg lg bxc hb11; have s11 := hb11.size; have u11 : Below w1.heap.size _ _ := hb11.mono (by omega); (try have how0 := how0.below hb11); (try have how1 := how1.below hb11); (try have owp := owp.below hb11)) | ((with_reducible refine on_store_at (.tmp 10) ?_); refine wb_store (cs := Cv 0 none 0 0 0 none 0 0) (cs' := Cv 1 (some ⟨gp, 0, none⟩) 2 2 0 none 0 0) rfl _ (.tmp 10) _ rfl st_cert rfl rfl bxc rfl rfl (by simp [Cv, Value.oneCell']) ?_; intro w12 bxc hg12; have u12 : Below w1.heap.size _ _ := below_of_grown hg12 (fun j e => by injection e with e; omega) (by omega)))
    refine anch_end (Th.Reach.of (by first | exact Below.refl _ _ | exact below_alloc _ (by first | omega | (simp; done) | (simp; omega)) _ | exact below_alloc2 _ (by first | omega | (simp; done) | (simp; omega)) _ _ | exact below_alloc2d _ (by simp) _ _ | exact bdrew _ _ | assumption | (exact Below.mono (by assumption) (by first | (simp; done) | (simp; omega) | omega | assumption)))) (hKO _ _ ?_)
    clear hKO KO
    refine wpTree_float (fun KF hKF => ?_)
    simp only [List.drop, List.take]
    repeat (first | go_big_quiet_skip | go_big_quiet_step (fail) | quiet_step (fail))
    refine wpQuiet_nil ?_
    refine hKF _ ?_
    clear hKF KF
    refine wpTree_one (fun KO hKO => ?_)
    simp only [List.drop, List.take]
    go_wp2_with (first | ((with_reducible refine on_makeL (.tmp 21) ?_); refine wl_makeS (base := w1.heap.size) rfl _ _ _ rfl el_int (f := iv) 0 rfl N rfl rfl rfl rfl (by omega) (by omega) (by omega) ?_; intro g0 w3 hg0 how0 hb3; have l0 := how0.lt.2; have s3 := hb3.size; have u3 : Below w1.heap.size _ _ := hb3.mono (by omega); (try have how1 := how1.below hb3); (try have owp := owp.below hb3); (try have bxc := bxc.step hb3)) | ((with_reducible refine on_makeL (.tmp 25) ?_); refine wl_makeS (base := w1.heap.size) rfl _ _ _ rfl el_int (f := iv) 0 rfl N rfl rfl rfl rfl (by omega) (by omega) (by omega) ?_; intro g1 w7 hg1 how1 hb7; have l1 := how1.lt.2; have s7 := hb7.size; have u7 : Below w1.heap.size _ _ := hb7.mono (by omega); (try have how0 := how0.below hb7); (try have owp := owp.below hb7); (try have bxc := bxc.step hb7)) | ((with_reducible refine on_sliceLit ?_); refine wl_sliceM (base := w1.heap.size) rfl _ 2 _ rfl el_part Pt.cs_length [⟨0, (AT : Int) - 1, some ⟨g0, 0, none⟩, N, N, List.replicate N 0⟩, ⟨AT, 4294967295, some ⟨g1, 0, none⟩, N, N, List.replicate N 0⟩] rfl (by omega) (by omega) (by omega) rfl (fill_two ⟨0, (AT : Int) - 1, some ⟨g0, 0, none⟩, N, N, List.replicate N 0⟩ ⟨AT, 4294967295, some ⟨g1, 0, none⟩, N, N, List.replicate N 0⟩) ?_; intro gp w9 hgp lp owp hb9; have s9 := hb9.size; have u9 : Below w1.heap.size _ _ := hb9.mono (by omega); (try have how0 := how0.below hb9); (try have how1 := how1.below hb9); (try have bxc := bxc.step hb9)) | ((with_reducible refine on_alloc ?_); refine wl_newBox rfl _ rfl z_cert ?_; intro g w11 hg lg bxc hb11; have s11 := hb11.size; have u11 : Below w1.heap.size _ _ := hb11.mono (by omega); (try have how0 := how0.below hb11); (try have how1 := how1.below hb11); (try have owp := owp.below hb11)) | ((with_reducible refine on_store_at (.tmp 10) ?_); refine wb_store (cs := Cv 0 none 0 0 0 none 0 0) (cs' := Cv 1 (some ⟨gp, 0, none⟩) 2 2 0 none 0 0) rfl _ (.tmp 10) _ rfl st_cert rfl rfl bxc rfl rfl (by simp [Cv, Value.oneCell']) ?_; intro w12 bxc hg12; have u12 : Below w1.heap.size _ _ := below_of_grown hg12 (fun j e => by injection e with e; omega) (by omega)))
    refine anch_end (Th.Reach.of (by first | exact Below.refl _ _ | exact below_alloc _ (by first | omega | (simp; done) | (simp; omega)) _ | exact below_alloc2 _ (by first | omega | (simp; done) | (simp; omega)) _ _ | exact below_alloc2d _ (by simp) _ _ | exact bdrew _ _ | assumption | (exact Below.mono (by assumption) (by first | (simp; done) | (simp; omega) | omega | assumption)))) (hKO _ _ ?_)
    clear hKO KO
    refine wpTree_done ?_
    refine hKT _ _ ?_
    clear hKT KT
    rotate_right 1
    rotate_left 2
    refine wpTree_one (fun KO hKO => ?_)
    simp only [List.drop, List.take]
    go_wp2_with (first | ((with_reducible refine on_makeL (.tmp 21) ?_); refine wl_makeS (base := w1.heap.size) rfl _ _ _ rfl el_int (f := iv) 0 rfl N rfl rfl rfl rfl (by omega) (by omega) (by omega) ?_; intro g0 w3 hg0 how0 hb3; have l0 := how0.lt.2; have s3 := hb3.size; have u3 : Below w1.heap.size _ _ := hb3.mono (by omega); (try have how1 := how1.below hb3); (try have owp := owp.below hb3); (try have bxc := bxc.step hb3)) | ((with_reducible refine on_makeL (.tmp 25) ?_); refine wl_makeS (base := w1.heap.size) rfl _ _ _ rfl el_int (f := iv) 0 rfl N rfl rfl rfl rfl (by omega) (by omega) (by omega) ?_; intro g1 w7 hg1 how1 hb7; have l1 := how1.lt.2; have s7 := hb7.size; have u7 : Below w1.heap.size _ _ := hb7.mono (by omega); (try have how0 := how0.below hb7); (try have owp := owp.below hb7); (try have bxc := bxc.step hb7)) | ((with_reducible refine on_sliceLit ?_); refine wl_sliceM (base := w1.heap.size) rfl _ 2 _ rfl el_part Pt.cs_length [⟨0, (AT : Int) - 1, some ⟨g0, 0, none⟩, N, N, List.replicate N 0⟩, ⟨AT, 4294967295, some ⟨g1, 0, none⟩, N, N, List.replicate N 0⟩] rfl (by omega) (by omega) (by omega) rfl (fill_two ⟨0, (AT : Int) - 1, some ⟨g0, 0, none⟩, N, N, List.replicate N 0⟩ ⟨AT, 4294967295, some ⟨g1, 0, none⟩, N, N, List.replicate N 0⟩) ?_; intro gp w9 hgp lp owp hb9; have s9 := hb9.size; have u9 : Below w1.heap.size _ _ := hb9.mono (by omega); (try have how0 := how0.below hb9); (try have how1 := how1.below hb9); (try have bxc := bxc.step hb9)) | ((with_reducible refine on_alloc ?_); refine wl_newBox rfl _ rfl z_cert ?_; intro g w11 hg lg bxc hb11; have s11 := hb11.size; have u11 : Below w1.heap.size _ _ := hb11.mono (by omega); (try have how0 := how0.below hb11); (try have how1 := how1.below hb11); (try have owp := owp.below hb11)) | ((with_reducible refine on_store_at (.tmp 10) ?_); refine wb_store (cs := Cv 0 none 0 0 0 none 0 0) (cs' := Cv 1 (some ⟨gp, 0, none⟩) 2 2 0 none 0 0) rfl _ (.tmp 10) _ rfl st_cert rfl rfl bxc rfl rfl (by simp [Cv, Value.oneCell']) ?_; intro w12 bxc hg12; have u12 : Below w1.heap.size _ _ := below_of_grown hg12 (fun j e => by injection e with e; omega) (by omega)))
    refine anch_end (Th.Reach.of (by first | exact Below.refl _ _ | exact below_alloc _ (by first | omega | (simp; done) | (simp; omega)) _ | exact below_alloc2 _ (by first | omega | (simp; done) | (simp; omega)) _ _ | exact below_alloc2d _ (by simp) _ _ | exact bdrew _ _ | assumption | (exact Below.mono (by assumption) (by first | (simp; done) | (simp; omega) | omega | assumption)))) (hKO _ _ ?_)
    clear hKO KO
    refine wpTree_one (fun KO hKO => ?_)
    simp only [List.drop, List.take]
    go_wp2_with (first | ((with_reducible refine on_makeL (.tmp 21) ?_); refine wl_makeS (base := w1.heap.size) rfl _ _ _ rfl el_int (f := iv) 0 rfl N rfl rfl rfl rfl (by omega) (by omega) (by omega) ?_; intro g0 w3 hg0 how0 hb3; have l0 := how0.lt.2; have s3 := hb3.size; have u3 : Below w1.heap.size _ _ := hb3.mono (by omega); (try have how1 := how1.below hb3); (try have owp := owp.below hb3); (try have bxc := bxc.step hb3)) | ((with_reducible refine on_makeL (.tmp 25) ?_); refine wl_makeS (base := w1.heap.size) rfl _ _ _ rfl el_int (f := iv) 0 rfl N rfl rfl rfl rfl (by omega) (by omega) (by omega) ?_; intro g1 w7 hg1 how1 hb7; have l1 := how1.lt.2; have s7 := hb7.size; have u7 : Below w1.heap.size _ _ := hb7.mono (by omega); (try have how0 := how0.below hb7); (try have owp := owp.below hb7); (try have bxc := bxc.step hb7)) | ((with_reducible refine on_sliceLit ?_); refine wl_sliceM (base := w1.heap.size) rfl _ 2 _ rfl el_part Pt.cs_length [⟨0, (AT : Int) - 1, some ⟨g0, 0, none⟩, N, N, List.replicate N 0⟩, ⟨AT, 4294967295, some ⟨g1, 0, none⟩, N, N, List.replicate N 0⟩] rfl (by omega) (by omega) (by omega) rfl (fill_two ⟨0, (AT : Int) - 1, some ⟨g0, 0, none⟩, N, N, List.replicate N 0⟩ ⟨AT, 4294967295, some ⟨g1, 0, none⟩, N, N, List.replicate N 0⟩) ?_; intro gp w9 hgp lp owp hb9; have s9 := hb9.size; have u9 : Below w1.heap.size _ _ := hb9.mono (by omega); (try have how0 := how0.below hb9); (try have how1 := how1.below hb9); (try have bxc := bxc.step hb9)) | ((with_reducible refine on_alloc ?_); refine wl_newBox rfl _ rfl z_cert ?_; intro g w11 hg lg bxc hb11; have s11 := hb11.size; have u11 : Below w1.heap.size _ _ := hb11.mono (by omega); (try have how0 := how0.below hb11); (try have how1 := how1.below hb11); (try have owp := owp.below hb11)) | ((with_reducible refine on_store_at (.tmp 10) ?_); refine wb_store (cs := Cv 0 none 0 0 0 none 0 0) (cs' := Cv 1 (some ⟨gp, 0, none⟩) 2 2 0 none 0 0) rfl _ (.tmp 10) _ rfl st_cert rfl rfl bxc rfl rfl (by simp [Cv, Value.oneCell']) ?_; intro w12 bxc hg12; have u12 : Below w1.heap.size _ _ := below_of_grown hg12 (fun j e => by injection e with e; omega) (by omega)))
    refine anch_end (Th.Reach.of (by first | exact Below.refl _ _ | exact below_alloc _ (by first | omega | (simp; done) | (simp; omega)) _ | exact below_alloc2 _ (by first | omega | (simp; done) | (simp; omega)) _ _ | exact below_alloc2d _ (by simp) _ _ | exact bdrew _ _ | assumption | (exact Below.mono (by assumption) (by first | (simp; done) | (simp; omega) | omega | assumption)))) (hKO _ _ ?_)
    clear hKO KO
    refine wpTree_float (fun KF hKF => ?_)
    simp only [List.drop, List.take]
    repeat (first | go_big_quiet_skip | go_big_quiet_step (fail) | quiet_step (fail))
    refine wpQuiet_nil ?_
    refine hKF _ ?_
    clear hKF KF
    refine wpTree_one (fun KO hKO => ?_)
    simp only [List.drop, List.take]
    go_wp2_with (first | ((with_reducible refine on_makeL (.tmp 21) ?_); refine wl_makeS (base := w1.heap.size) rfl _ _ _ rfl el_int (f := iv) 0 rfl N rfl rfl rfl rfl (by omega) (by omega) (by omega) ?_; intro g0 w3 hg0 how0 hb3; have l0 := how0.lt.2; have s3 := hb3.size; have u3 : Below w1.heap.size _ _ := hb3.mono (by omega); (try have how1 := how1.below hb3); (try have owp := owp.below hb3); (try have bxc := bxc.step hb3)) | ((with_reducible refine on_makeL (.tmp 25) ?_); refine wl_makeS (base := w1.heap.size) rfl _ _ _ rfl el_int (f := iv) 0 rfl N rfl rfl rfl rfl (by omega) (by omega) (by omega) ?_; intro g1 w7 hg1 how1 hb7; have l1 := how1.lt.2; have s7 := hb7.size; have u7 : Below w1.heap.size _ _ := hb7.mono (by omega); (try have how0 := how0.below hb7); (try have owp := owp.below hb7); (try have bxc := bxc.step hb7)) | ((with_reducible refine on_sliceLit ?_); refine wl_sliceM (base := w1.heap.size) rfl _ 2 _ rfl el_part Pt.cs_length [⟨0, (AT : Int) - 1, some ⟨g0, 0, none⟩, N, N, List.replicate N 0⟩, ⟨AT, 4294967295, some ⟨g1, 0, none⟩, N, N, List.replicate N 0⟩] rfl (by omega) (by omega) (by omega) rfl (fill_two ⟨0, (AT : Int) - 1, some ⟨g0, 0, none⟩, N, N, List.replicate N 0⟩ ⟨AT, 4294967295, some ⟨g1, 0, none⟩, N, N, List.replicate N 0⟩) ?_; intro gp w9 hgp lp owp hb9; have s9 := hb9.size; have u9 : Below w1.heap.size _ _ := hb9.mono (by omega); (try have how0 := how0.below hb9); (try have how1 := how1.below hb9); (try have bxc := bxc.step hb9)) | ((with_reducible refine on_alloc ?_); refine wl_newBox rfl _ rfl z_cert ?_; intro g w11 hg lg bxc hb11; have s11 := hb11.size; have u11 : Below w1.heap.size _ _ := hb11.mono (by omega); (try have how0 := how0.below hb11); (try have how1 := how1.below hb11); (try have owp := owp.below hb11)) | ((with_reducible refine on_store_at (.tmp 10) ?_); refine wb_store (cs := Cv 0 none 0 0 0 none 0 0) (cs' := Cv 1 (some ⟨gp, 0, none⟩) 2 2 0 none 0 0) rfl _ (.tmp 10) _ rfl st_cert rfl rfl bxc rfl rfl (by simp [Cv, Value.oneCell']) ?_; intro w12 bxc hg12; have u12 : Below w1.heap.size _ _ := below_of_grown hg12 (fun j e => by injection e with e; omega) (by omega)))
    refine anch_end (Th.Reach.of (by first | exact Below.refl _ _ | exact below_alloc _ (by first | omega | (simp; done) | (simp; omega)) _ | exact below_alloc2 _ (by first | omega | (simp; done) | (simp; omega)) _ _ | exact below_alloc2d _ (by simp) _ _ | exact bdrew _ _ | assumption | (exact Below.mono (by assumption) (by first | (simp; done) | (simp; omega) | omega | assumption)))) (hKO _ _ ?_)
    clear hKO KO
    refine wpTree_float (fun KF hKF => ?_)
    simp only [List.drop, List.take]
    repeat (first | go_big_quiet_skip | go_big_quiet_step (fail) | quiet_step (fail))
    refine wpQuiet_nil ?_
    refine hKF _ ?_
    clear hKF KF
    refine wpTree_one (fun KO hKO => ?_)
    simp only [List.drop, List.take]
    go_wp2_with (first | ((with_reducible refine on_makeL (.tmp 21) ?_); refine wl_makeS (base := w1.heap.size) rfl _ _ _ rfl el_int (f := iv) 0 rfl N rfl rfl rfl rfl (by omega) (by omega) (by omega) ?_; intro g0 w3 hg0 how0 hb3; have l0 := how0.lt.2; have s3 := hb3.size; have u3 : Below w1.heap.size _ _ := hb3.mono (by omega); (try have how1 := how1.below hb3); (try have owp := owp.below hb3); (try have bxc := bxc.step hb3)) | ((with_reducible refine on_makeL (.tmp 25) ?_); refine wl_makeS (base := w1.heap.size) rfl _ _ _ rfl el_int (f := iv) 0 rfl N rfl rfl rfl rfl (by omega) (by omega) (by omega) ?_; intro g1 w7 hg1 how1 hb7; have l1 := how1.lt.2; have s7 := hb7.size; have u7 : Below w1.heap.size _ _ := hb7.mono (by omega); (try have how0 := how0.below hb7); (try have owp := owp.below hb7); (try have bxc := bxc.step hb7)) | ((with_reducible refine on_sliceLit ?_); refine wl_sliceM (base := w1.heap.size) rfl _ 2 _ rfl el_part Pt.cs_length [⟨0, (AT : Int) - 1, some ⟨g0, 0, none⟩, N, N, List.replicate N 0⟩, ⟨AT, 4294967295, some ⟨g1, 0, none⟩, N, N, List.replicate N 0⟩] rfl (by omega) (by omega) (by omega) rfl (fill_two ⟨0, (AT : Int) - 1, some ⟨g0, 0, none⟩, N, N, List.replicate N 0⟩ ⟨AT, 4294967295, some ⟨g1, 0, none⟩, N, N, List.replicate N 0⟩) ?_; intro gp w9 hgp lp owp hb9; have s9 := hb9.size; have u9 : Below w1.heap.size _ _ := hb9.mono (by omega); (try have how0 := how0.below hb9); (try have how1 := how1.below hb9); (try have bxc := bxc.step hb9)) | ((with_reducible refine on_alloc ?_); refine wl_newBox rfl _ rfl z_cert ?_; intro g w11 hg lg bxc hb11; have s11 := hb11.size; have u11 : Below w1.heap.size _ _ := hb11.mono (by omega); (try have how0 := how0.below hb11); (try have how1 := how1.below hb11); (try have owp := owp.below hb11)) | ((with_reducible refine on_store_at (.tmp 10) ?_); refine wb_store (cs := Cv 0 none 0 0 0 none 0 0) (cs' := Cv 1 (some ⟨gp, 0, none⟩) 2 2 0 none 0 0) rfl _ (.tmp 10) _ rfl st_cert rfl rfl bxc rfl rfl (by simp [Cv, Value.oneCell']) ?_; intro w12 bxc hg12; have u12 : Below w1.heap.size _ _ := below_of_grown hg12 (fun j e => by injection e with e; omega) (by omega)))
    refine anch_end (Th.Reach.of (by first | exact Below.refl _ _ | exact below_alloc _ (by first | omega | (simp; done) | (simp; omega)) _ | exact below_alloc2 _ (by first | omega | (simp; done) | (simp; omega)) _ _ | exact below_alloc2d _ (by simp) _ _ | exact bdrew _ _ | assumption | (exact Below.mono (by assumption) (by first | (simp; done) | (simp; omega) | omega | assumption)))) (hKO _ _ ?_)
    clear hKO KO
    refine wpTree_done ?_
    refine hKT _ _ ?_
    clear hKT KT
    rotate_right 2
    rotate_left 3
    refine wpTree_one (fun KO hKO => ?_)
    simp only [List.drop, List.take]
    go_wp2_with (first | ((with_reducible refine on_makeL (.tmp 21) ?_); refine wl_makeS (base := w1.heap.size) rfl _ _ _ rfl el_int (f := iv) 0 rfl N rfl rfl rfl rfl (by omega) (by omega) (by omega) ?_; intro g0 w3 hg0 how0 hb3; have l0 := how0.lt.2; have s3 := hb3.size; have u3 : Below w1.heap.size _ _ := hb3.mono (by omega); (try have how1 := how1.below hb3); (try have owp := owp.below hb3); (try have bxc := bxc.step hb3)) | ((with_reducible refine on_makeL (.tmp 25) ?_); refine wl_makeS (base := w1.heap.size) rfl _ _ _ rfl el_int (f := iv) 0 rfl N rfl rfl rfl rfl (by omega) (by omega) (by omega) ?_; intro g1 w7 hg1 how1 hb7; have l1 := how1.lt.2; have s7 := hb7.size; have u7 : Below w1.heap.size _ _ := hb7.mono (by omega); (try have how0 := how0.below hb7); (try have owp := owp.below hb7); (try have bxc := bxc.step hb7)) | ((with_reducible refine on_sliceLit ?_); refine wl_sliceM (base := w1.heap.size) rfl _ 2 _ rfl el_part Pt.cs_length [⟨0, (AT : Int) - 1, some ⟨g0, 0, none⟩, N, N, List.replicate N 0⟩, ⟨AT, 4294967295, some ⟨g1, 0, none⟩, N, N, List.replicate N 0⟩] rfl (by omega) (by omega) (by omega) rfl (fill_two ⟨0, (AT : Int) - 1, some ⟨g0, 0, none⟩, N, N, List.replicate N 0⟩ ⟨AT, 4294967295, some ⟨g1, 0, none⟩, N, N, List.replicate N 0⟩) ?_; intro gp w9 hgp lp owp hb9; have s9 := hb9.size; have u9 : Below w1.heap.size _ _ := hb9.mono (by omega); (try have how0 := how0.below hb9); (try have how1 := how1.below hb9); (try have bxc := bxc.step hb9)) | ((with_reducible refine on_alloc ?_); refine wl_newBox rfl _ rfl z_cert ?_; intro g w11 hg lg bxc hb11; have s11 := hb11.size; have u11 : Below w1.heap.size _ _ := hb11.mono (by omega); (try have how0 := how0.below hb11); (try have how1 := how1.below hb11); (try have owp := owp.below hb11)) | ((with_reducible refine on_store_at (.tmp 10) ?_); refine wb_store (cs := Cv 0 none 0 0 0 none 0 0) (cs' := Cv 1 (some ⟨gp, 0, none⟩) 2 2 0 none 0 0) rfl _ (.tmp 10) _ rfl st_cert rfl rfl bxc rfl rfl (by simp [Cv, Value.oneCell']) ?_; intro w12 bxc hg12; have u12 : Below w1.heap.size _ _ := below_of_grown hg12 (fun j e => by injection e with e; omega) (by omega)))
    refine anch_end (Th.Reach.of (by first | exact Below.refl _ _ | exact below_alloc _ (by first | omega | (simp; done) | (simp; omega)) _ | exact below_alloc2 _ (by first | omega | (simp; done) | (simp; omega)) _ _ | exact below_alloc2d _ (by simp) _ _ | exact bdrew _ _ | assumption | (exact Below.mono (by assumption) (by first | (simp; done) | (simp; omega) | omega | assumption)))) (hKO _ _ ?_)
    clear hKO KO
    refine wpTree_float (fun KF hKF => ?_)
    simp only [List.drop, List.take]
    repeat (first | go_big_quiet_skip | go_big_quiet_step (fail) | quiet_step (fail))
    refine wpQuiet_nil ?_
    refine hKF _ ?_
    clear hKF KF
    refine wpTree_two ?_ ?_
    refine wpTree_one (fun KO hKO => ?_)
    simp only [List.drop, List.take]
    go_wp2_with (first | ((with_reducible refine on_makeL (.tmp 21) ?_); refine wl_makeS (base := w1.heap.size) rfl _ _ _ rfl el_int (f := iv) 0 rfl N rfl rfl rfl rfl (by omega) (by omega) (by omega) ?_; intro g0 w3 hg0 how0 hb3; have l0 := how0.lt.2; have s3 := hb3.size; have u3 : Below w1.heap.size _ _ := hb3.mono (by omega); (try have how1 := how1.below hb3); (try have owp := owp.below hb3); (try have bxc := bxc.step hb3)) | ((with_reducible refine on_makeL (.tmp 25) ?_); refine wl_makeS (base := w1.heap.size) rfl _ _ _ rfl el_int (f := iv) 0 rfl N rfl rfl rfl rfl (by omega) (by omega) (by omega) ?_; intro g1 w7 hg1 how1 hb7; have l1 := how1.lt.2; have s7 := hb7.size; have u7 : Below w1.heap.size _ _ := hb7.mono (by omega); (try have how0 := how0.below hb7); (try have owp := owp.below hb7); (try have bxc := bxc.step hb7)) | ((with_reducible refine on_sliceLit ?_); refine wl_sliceM (base := w1.heap.size) rfl _ 2 _ rfl el_part Pt.cs_length [⟨0, (AT : Int) - 1, some ⟨g0, 0, none⟩, N, N, List.replicate N 0⟩, ⟨AT, 4294967295, some ⟨g1, 0, none⟩, N, N, List.replicate N 0⟩] rfl (by omega) (by omega) (by omega) rfl (fill_two ⟨0, (AT : Int) - 1, some ⟨g0, 0, none⟩, N, N, List.replicate N 0⟩ ⟨AT, 4294967295, some ⟨g1, 0, none⟩, N, N, List.replicate N 0⟩) ?_; intro gp w9 hgp lp owp hb9; have s9 := hb9.size; have u9 : Below w1.heap.size _ _ := hb9.mono (by omega); (try have how0 := how0.below hb9); (try have how1 := how1.below hb9); (try have bxc := bxc.step hb9)) | ((with_reducible refine on_alloc ?_); refine wl_newBox rfl _ rfl z_cert ?_; intro g w11 hg lg bxc hb11; have s11 := hb11.size; have u11 : Below w1.heap.size _ _ := hb11.mono (by omega); (try have how0 := how0.below hb11); (try have how1 := how1.below hb11); (try have owp := owp.below hb11)) | ((with_reducible refine on_store_at (.tmp 10) ?_); refine wb_store (cs := Cv 0 none 0 0 0 none 0 0) (cs' := Cv 1 (some ⟨gp, 0, none⟩) 2 2 0 none 0 0) rfl _ (.tmp 10) _ rfl st_cert rfl rfl bxc rfl rfl (by simp [Cv, Value.oneCell']) ?_; intro w12 bxc hg12; have u12 : Below w1.heap.size _ _ := below_of_grown hg12 (fun j e => by injection e with e; omega) (by omega)))
    refine anch_end (Th.Reach.of (by first | exact Below.refl _ _ | exact below_alloc _ (by first | omega | (simp; done) | (simp; omega)) _ | exact below_alloc2 _ (by first | omega | (simp; done) | (simp; omega)) _ _ | exact below_alloc2d _ (by simp) _ _ | exact bdrew _ _ | assumption | (exact Below.mono (by assumption) (by first | (simp; done) | (simp; omega) | omega | assumption)))) (hKO _ _ ?_)
    clear hKO KO
    refine wpTree_float (fun KF hKF => ?_)
    simp only [List.drop, List.take]
    repeat (first | go_big_quiet_skip | go_big_quiet_step (fail) | quiet_step (fail))
    refine wpQuiet_nil ?_
    refine hKF _ ?_
    clear hKF KF
    refine wpTree_two ?_ ?_
    refine wpTree_one (fun KO hKO => ?_)
    simp only [List.drop, List.take]
    go_wp2_with (first | ((with_reducible refine on_makeL (.tmp 21) ?_); refine wl_makeS (base := w1.heap.size) rfl _ _ _ rfl el_int (f := iv) 0 rfl N rfl rfl rfl rfl (by omega) (by omega) (by omega) ?_; intro g0 w3 hg0 how0 hb3; have l0 := how0.lt.2; have s3 := hb3.size; have u3 : Below w1.heap.size _ _ := hb3.mono (by omega); (try have how1 := how1.below hb3); (try have owp := owp.below hb3); (try have bxc := bxc.step hb3)) | ((with_reducible refine on_makeL (.tmp 25) ?_); refine wl_makeS (base := w1.heap.size) rfl _ _ _ rfl el_int (f := iv) 0 rfl N rfl rfl rfl rfl (by omega) (by omega) (by omega) ?_; intro g1 w7 hg1 how1 hb7; have l1 := how1.lt.2; have s7 := hb7.size; have u7 : Below w1.heap.size _ _ := hb7.mono (by omega); (try have how0 := how0.below hb7); (try have owp := owp.below hb7); (try have bxc := bxc.step hb7)) | ((with_reducible refine on_sliceLit ?_); refine wl_sliceM (base := w1.heap.size) rfl _ 2 _ rfl el_part Pt.cs_length [⟨0, (AT : Int) - 1, some ⟨g0, 0, none⟩, N, N, List.replicate N 0⟩, ⟨AT, 4294967295, some ⟨g1, 0, none⟩, N, N, List.replicate N 0⟩] rfl (by omega) (by omega) (by omega) rfl (fill_two ⟨0, (AT : Int) - 1, some ⟨g0, 0, none⟩, N, N, List.replicate N 0⟩ ⟨AT, 4294967295, some ⟨g1, 0, none⟩, N, N, List.replicate N 0⟩) ?_; intro gp w9 hgp lp owp hb9; have s9 := hb9.size; have u9 : Below w1.heap.size _ _ := hb9.mono (by omega); (try have how0 := how0.below hb9); (try have how1 := how1.below hb9); (try have bxc := bxc.step hb9)) | ((with_reducible refine on_alloc ?_); refine wl_newBox rfl _ rfl z_cert ?_; intro g w11 hg lg bxc hb11; have s11 := hb11.size; have u11 : Below w1.heap.size _ _ := hb11.mono (by omega); (try have how0 := how0.below hb11); (try have how1 := how1.below hb11); (try have owp := owp.below hb11)) | ((with_reducible refine on_store_at (.tmp 10) ?_); refine wb_store (cs := Cv 0 none 0 0 0 none 0 0) (cs' := Cv 1 (some ⟨gp, 0, none⟩) 2 2 0 none 0 0) rfl _ (.tmp 10) _ rfl st_cert rfl rfl bxc rfl rfl (by simp [Cv, Value.oneCell']) ?_; intro w12 bxc hg12; have u12 : Below w1.heap.size _ _ := below_of_grown hg12 (fun j e => by injection e with e; omega) (by omega)))
    refine anch_end (Th.Reach.of (by first | exact Below.refl _ _ | exact below_alloc _ (by first | omega | (simp; done) | (simp; omega)) _ | exact below_alloc2 _ (by first | omega | (simp; done) | (simp; omega)) _ _ | exact below_alloc2d _ (by simp) _ _ | exact bdrew _ _ | assumption | (exact Below.mono (by assumption) (by first | (simp; done) | (simp; omega) | omega | assumption)))) (hKO _ _ ?_)
    clear hKO KO
    refine wpTree_float (fun KF hKF => ?_)
    simp only [List.drop, List.take]
    repeat (first | go_big_quiet_skip | go_big_quiet_step (fail) | quiet_step (fail))
    refine wpQuiet_nil ?_
    refine hKF _ ?_
    clear hKF KF
    refine wpTree_one (fun KO hKO => ?_)
    simp only [List.drop, List.take]
    go_wp2_with (first | ((with_reducible refine on_makeL (.tmp 21) ?_); refine wl_makeS (base := w1.heap.size) rfl _ _ _ rfl el_int (f := iv) 0 rfl N rfl rfl rfl rfl (by omega) (by omega) (by omega) ?_; intro g0 w3 hg0 how0 hb3; have l0 := how0.lt.2; have s3 := hb3.size; have u3 : Below w1.heap.size _ _ := hb3.mono (by omega); (try have how1 := how1.below hb3); (try have owp := owp.below hb3); (try have bxc := bxc.step hb3)) | ((with_reducible refine on_makeL (.tmp 25) ?_); refine wl_makeS (base := w1.heap.size) rfl _ _ _ rfl el_int (f := iv) 0 rfl N rfl rfl rfl rfl (by omega) (by omega) (by omega) ?_; intro g1 w7 hg1 how1 hb7; have l1 := how1.lt.2; have s7 := hb7.size; have u7 : Below w1.heap.size _ _ := hb7.mono (by omega); (try have how0 := how0.below hb7); (try have owp := owp.below hb7); (try have bxc := bxc.step hb7)) | ((with_reducible refine on_sliceLit ?_); refine wl_sliceM (base := w1.heap.size) rfl _ 2 _ rfl el_part Pt.cs_length [⟨0, (AT : Int) - 1, some ⟨g0, 0, none⟩, N, N, List.replicate N 0⟩, ⟨AT, 4294967295, some ⟨g1, 0, none⟩, N, N, List.replicate N 0⟩] rfl (by omega) (by omega) (by omega) rfl (fill_two ⟨0, (AT : Int) - 1, some ⟨g0, 0, none⟩, N, N, List.replicate N 0⟩ ⟨AT, 4294967295, some ⟨g1, 0, none⟩, N, N, List.replicate N 0⟩) ?_; intro gp w9 hgp lp owp hb9; have s9 := hb9.size; have u9 : Below w1.heap.size _ _ := hb9.mono (by omega); (try have how0 := how0.below hb9); (try have how1 := how1.below hb9); (try have bxc := bxc.step hb9)) | ((with_reducible refine on_alloc ?_); refine wl_newBox rfl _ rfl z_cert ?_; intro g w11 hg lg bxc hb11; have s11 := hb11.size; have u11 : Below w1.heap.size _ _ := hb11.mono (by omega); (try have how0 := how0.below hb11); (try have how1 := how1.below hb11); (try have owp := owp.below hb11)) | ((with_reducible refine on_store_at (.tmp 10) ?_); refine wb_store (cs := Cv 0 none 0 0 0 none 0 0) (cs' := Cv 1 (some ⟨gp, 0, none⟩) 2 2 0 none 0 0) rfl _ (.tmp 10) _ rfl st_cert rfl rfl bxc rfl rfl (by simp [Cv, Value.oneCell']) ?_; intro w12 bxc hg12; have u12 : Below w1.heap.size _ _ := below_of_grown hg12 (fun j e => by injection e with e; omega) (by omega)))
    refine anch_end (Th.Reach.of (by first | exact Below.refl _ _ | exact below_alloc _ (by first | omega | (simp; done) | (simp; omega)) _ | exact below_alloc2 _ (by first | omega | (simp; done) | (simp; omega)) _ _ | exact below_alloc2d _ (by simp) _ _ | exact bdrew _ _ | assumption | (exact Below.mono (by assumption) (by first | (simp; done) | (simp; omega) | omega | assumption)))) (hKO _ _ ?_)
    clear hKO KO
    refine wpTree_one (fun KO hKO => ?_)
    simp only [List.drop, List.take]
    go_wp2_with (first | ((with_reducible refine on_makeL (.tmp 21) ?_); refine wl_makeS (base := w1.heap.size) rfl _ _ _ rfl el_int (f := iv) 0 rfl N rfl rfl rfl rfl (by omega) (by omega) (by omega) ?_; intro g0 w3 hg0 how0 hb3; have l0 := how0.lt.2; have s3 := hb3.size; have u3 : Below w1.heap.size _ _ := hb3.mono (by omega); (try have how1 := how1.below hb3); (try have owp := owp.below hb3); (try have bxc := bxc.step hb3)) | ((with_reducible refine on_makeL (.tmp 25) ?_); refine wl_makeS (base := w1.heap.size) rfl _ _ _ rfl el_int (f := iv) 0 rfl N rfl rfl rfl rfl (by omega) (by omega) (by omega) ?_; intro g1 w7 hg1 how1 hb7; have l1 := how1.lt.2; have s7 := hb7.size; have u7 : Below w1.heap.size _ _ := hb7.mono (by omega); (try have how0 := how0.below hb7); (try have owp := owp.below hb7); (try have bxc := bxc.step hb7)) | ((with_reducible refine on_sliceLit ?_); refine wl_sliceM (base := w1.heap.size) rfl _ 2 _ rfl el_part Pt.cs_length [⟨0, (AT : Int) - 1, some ⟨g0, 0, none⟩, N, N, List.replicate N 0⟩, ⟨AT, 4294967295, some ⟨g1, 0, none⟩, N, N, List.replicate N 0⟩] rfl (by omega) (by omega) (by omega) rfl (fill_two ⟨0, (AT : Int) - 1, some ⟨g0, 0, none⟩, N, N, List.replicate N 0⟩ ⟨AT, 4294967295, some ⟨g1, 0, none⟩, N, N, List.replicate N 0⟩) ?_; intro gp w9 hgp lp owp hb9; have s9 := hb9.size; have u9 : Below w1.heap.size _ _ := hb9.mono (by omega); (try have how0 := how0.below hb9); (try have how1 := how1.below hb9); (try have bxc := bxc.step hb9)) | ((with_reducible refine on_alloc ?_); refine wl_newBox rfl _ rfl z_cert ?_; intro g w11 hg lg bxc hb11; have s11 := hb11.size; have u11 : Below w1.heap.size _ _ := hb11.mono (by omega); (try have how0 := how0.below hb11); (try have how1 := how1.below hb11); (try have owp := owp.below hb11)) | ((with_reducible refine on_store_at (.tmp 10) ?_); refine wb_store (cs := Cv 0 none 0 0 0 none 0 0) (cs' := Cv 1 (some ⟨gp, 0, none⟩) 2 2 0 none 0 0) rfl _ (.tmp 10) _ rfl st_cert rfl rfl bxc rfl rfl (by simp [Cv, Value.oneCell']) ?_; intro w12 bxc hg12; have u12 : Below w1.heap.size _ _ := below_of_grown hg12 (fun j e => by injection e with e; omega) (by omega)))
    refine anch_end (Th.Reach.of (by first | exact Below.refl _ _ | exact below_alloc _ (by first | omega | (simp; done) | (simp; omega)) _ | exact below_alloc2 _ (by first | omega | (simp; done) | (simp; omega)) _ _ | exact below_alloc2d _ (by simp) _ _ | exact bdrew _ _ | assumption | (exact Below.mono (by assumption) (by first | (simp; done) | (simp; omega) | omega | assumption)))) (hKO _ _ ?_)
    clear hKO KO
    refine wpTree_done ?_
    refine hKT _ _ ?_
    clear hKT KT
    rotate_left 1
    refine wpTree_one (fun KO hKO => ?_)
    simp only [List.drop, List.take]
    go_wp2_with (first | ((with_reducible refine on_makeL (.tmp 21) ?_); refine wl_makeS (base := w1.heap.size) rfl _ _ _ rfl el_int (f := iv) 0 rfl N rfl rfl rfl rfl (by omega) (by omega) (by omega) ?_; intro g0 w3 hg0 how0 hb3; have l0 := how0.lt.2; have s3 := hb3.size; have u3 : Below w1.heap.size _ _ := hb3.mono (by omega); (try have how1 := how1.below hb3); (try have owp := owp.below hb3); (try have bxc := bxc.step hb3)) | ((with_reducible refine on_makeL (.tmp 25) ?_); refine wl_makeS (base := w1.heap.size) rfl _ _ _ rfl el_int (f := iv) 0 rfl N rfl rfl rfl rfl (by omega) (by omega) (by omega) ?_; intro g1 w7 hg1 how1 hb7; have l1 := how1.lt.2; have s7 := hb7.size; have u7 : Below w1.heap.size _ _ := hb7.mono (by omega); (try have how0 := how0.below hb7); (try have owp := owp.below hb7); (try have bxc := bxc.step hb7)) | ((with_reducible refine on_sliceLit ?_); refine wl_sliceM (base := w1.heap.size) rfl _ 2 _ rfl el_part Pt.cs_length [⟨0, (AT : Int) - 1, some ⟨g0, 0, none⟩, N, N, List.replicate N 0⟩, ⟨AT, 4294967295, some ⟨g1, 0, none⟩, N, N, List.replicate N 0⟩] rfl (by omega) (by omega) (by omega) rfl (fill_two ⟨0, (AT : Int) - 1, some ⟨g0, 0, none⟩, N, N, List.replicate N 0⟩ ⟨AT, 4294967295, some ⟨g1, 0, none⟩, N, N, List.replicate N 0⟩) ?_; intro gp w9 hgp lp owp hb9; have s9 := hb9.size; have u9 : Below w1.heap.size _ _ := hb9.mono (by omega); (try have how0 := how0.below hb9); (try have how1 := how1.below hb9); (try have bxc := bxc.step hb9)) | ((with_reducible refine on_alloc ?_); refine wl_newBox rfl _ rfl z_cert ?_; intro g w11 hg lg bxc hb11; have s11 := hb11.size; have u11 : Below w1.heap.size _ _ := hb11.mono (by omega); (try have how0 := how0.below hb11); (try have how1 := how1.below hb11); (try have owp := owp.below hb11)) | ((with_reducible refine on_store_at (.tmp 10) ?_); refine wb_store (cs := Cv 0 none 0 0 0 none 0 0) (cs' := Cv 1 (some ⟨gp, 0, none⟩) 2 2 0 none 0 0) rfl _ (.tmp 10) _ rfl st_cert rfl rfl bxc rfl rfl (by simp [Cv, Value.oneCell']) ?_; intro w12 bxc hg12; have u12 : Below w1.heap.size _ _ := below_of_grown hg12 (fun j e => by injection e with e; omega) (by omega)))
    refine anch_end (Th.Reach.of (by first | exact Below.refl _ _ | exact below_alloc _ (by first | omega | (simp; done) | (simp; omega)) _ | exact below_alloc2 _ (by first | omega | (simp; done) | (simp; omega)) _ _ | exact below_alloc2d _ (by simp) _ _ | exact bdrew _ _ | assumption | (exact Below.mono (by assumption) (by first | (simp; done) | (simp; omega) | omega | assumption)))) (hKO _ _ ?_)
    clear hKO KO
    refine wpTree_one (fun KO hKO => ?_)
    simp only [List.drop, List.take]
    go_wp2_with (first | ((with_reducible refine on_makeL (.tmp 21) ?_); refine wl_makeS (base := w1.heap.size) rfl _ _ _ rfl el_int (f := iv) 0 rfl N rfl rfl rfl rfl (by omega) (by omega) (by omega) ?_; intro g0 w3 hg0 how0 hb3; have l0 := how0.lt.2; have s3 := hb3.size; have u3 : Below w1.heap.size _ _ := hb3.mono (by omega); (try have how1 := how1.below hb3); (try have owp := owp.below hb3); (try have bxc := bxc.step hb3)) | ((with_reducible refine on_makeL (.tmp 25) ?_); refine wl_makeS (base := w1.heap.size) rfl _ _ _ rfl el_int (f := iv) 0 rfl N rfl rfl rfl rfl (by omega) (by omega) (by omega) ?_; intro g1 w7 hg1 how1 hb7; have l1 := how1.lt.2; have s7 := hb7.size; have u7 : Below w1.heap.size _ _ := hb7.mono (by omega); (try have how0 := how0.below hb7); (try have owp := owp.below hb7); (try have bxc := bxc.step hb7)) | ((with_reducible refine on_sliceLit ?_); refine wl_sliceM (base := w1.heap.size) rfl _ 2 _ rfl el_part Pt.cs_length [⟨0, (AT : Int) - 1, some ⟨g0, 0, none⟩, N, N, List.replicate N 0⟩, ⟨AT, 4294967295, some ⟨g1, 0, none⟩, N, N, List.replicate N 0⟩] rfl (by omega) (by omega) (by omega) rfl (fill_two ⟨0, (AT : Int) - 1, some ⟨g0, 0, none⟩, N, N, List.replicate N 0⟩ ⟨AT, 4294967295, some ⟨g1, 0, none⟩, N, N, List.replicate N 0⟩) ?_; intro gp w9 hgp lp owp hb9; have s9 := hb9.size; have u9 : Below w1.heap.size _ _ := hb9.mono (by omega); (try have how0 := how0.below hb9); (try have how1 := how1.below hb9); (try have bxc := bxc.step hb9)) | ((with_reducible refine on_alloc ?_); refine wl_newBox rfl _ rfl z_cert ?_; intro g w11 hg lg bxc hb11; have s11 := hb11.size; have u11 : Below w1.heap.size _ _ := hb11.mono (by omega); (try have how0 := how0.below hb11); (try have how1 := how1.below hb11); (try have owp := owp.below hb11)) | ((with_reducible refine on_store_at (.tmp 10) ?_); refine wb_store (cs := Cv 0 none 0 0 0 none 0 0) (cs' := Cv 1 (some ⟨gp, 0, none⟩) 2 2 0 none 0 0) rfl _ (.tmp 10) _ rfl st_cert rfl rfl bxc rfl rfl (by simp [Cv, Value.oneCell']) ?_; intro w12 bxc hg12; have u12 : Below w1.heap.size _ _ := below_of_grown hg12 (fun j e => by injection e with e; omega) (by omega)))
    refine anch_end (Th.Reach.of (by first | exact Below.refl _ _ | exact below_alloc _ (by first | omega | (simp; done) | (simp; omega)) _ | exact below_alloc2 _ (by first | omega | (simp; done) | (simp; omega)) _ _ | exact below_alloc2d _ (by simp) _ _ | exact bdrew _ _ | assumption | (exact Below.mono (by assumption) (by first | (simp; done) | (simp; omega) | omega | assumption)))) (hKO _ _ ?_)
    clear hKO KO
    refine wpTree_float (fun KF hKF => ?_)
    simp only [List.drop, List.take]
    repeat (first | go_big_quiet_skip | go_big_quiet_step (fail) | quiet_step (fail))
    refine wpQuiet_nil ?_
    refine hKF _ ?_
    clear hKF KF
    refine wpTree_one (fun KO hKO => ?_)
    simp only [List.drop, List.take]
    go_wp2_with (first | ((with_reducible refine on_makeL (.tmp 21) ?_); refine wl_makeS (base := w1.heap.size) rfl _ _ _ rfl el_int (f := iv) 0 rfl N rfl rfl rfl rfl (by omega) (by omega) (by omega) ?_; intro g0 w3 hg0 how0 hb3; have l0 := how0.lt.2; have s3 := hb3.size; have u3 : Below w1.heap.size _ _ := hb3.mono (by omega); (try have how1 := how1.below hb3); (try have owp := owp.below hb3); (try have bxc := bxc.step hb3)) | ((with_reducible refine on_makeL (.tmp 25) ?_); refine wl_makeS (base := w1.heap.size) rfl _ _ _ rfl el_int (f := iv) 0 rfl N rfl rfl rfl rfl (by omega) (by omega) (by omega) ?_; intro g1 w7 hg1 how1 hb7; have l1 := how1.lt.2; have s7 := hb7.size; have u7 : Below w1.heap.size _ _ := hb7.mono (by omega); (try have how0 := how0.below hb7); (try have owp := owp.below hb7); (try have bxc := bxc.step hb7)) | ((with_reducible refine on_sliceLit ?_); refine wl_sliceM (base := w1.heap.size) rfl _ 2 _ rfl el_part Pt.cs_length [⟨0, (AT : Int) - 1, some ⟨g0, 0, none⟩, N, N, List.replicate N 0⟩, ⟨AT, 4294967295, some ⟨g1, 0, none⟩, N, N, List.replicate N 0⟩] rfl (by omega) (by omega) (by omega) rfl (fill_two ⟨0, (AT : Int) - 1, some ⟨g0, 0, none⟩, N, N, List.replicate N 0⟩ ⟨AT, 4294967295, some ⟨g1, 0, none⟩, N, N, List.replicate N 0⟩) ?_; intro gp w9 hgp lp owp hb9; have s9 := hb9.size; have u9 : Below w1.heap.size _ _ := hb9.mono (by omega); (try have how0 := how0.below hb9); (try have how1 := how1.below hb9); (try have bxc := bxc.step hb9)) | ((with_reducible refine on_alloc ?_); refine wl_newBox rfl _ rfl z_cert ?_; intro g w11 hg lg bxc hb11; have s11 := hb11.size; have u11 : Below w1.heap.size _ _ := hb11.mono (by omega); (try have how0 := how0.below hb11); (try have how1 := how1.below hb11); (try have owp := owp.below hb11)) | ((with_reducible refine on_store_at (.tmp 10) ?_); refine wb_store (cs := Cv 0 none 0 0 0 none 0 0) (cs' := Cv 1 (some ⟨gp, 0, none⟩) 2 2 0 none 0 0) rfl _ (.tmp 10) _ rfl st_cert rfl rfl bxc rfl rfl (by simp [Cv, Value.oneCell']) ?_; intro w12 bxc hg12; have u12 : Below w1.heap.size _ _ := below_of_grown hg12 (fun j e => by injection e with e; omega) (by omega)))
    refine anch_end (Th.Reach.of (by first | exact Below.refl _ _ | exact below_alloc _ (by first | omega | (simp; done) | (simp; omega)) _ | exact below_alloc2 _ (by first | omega | (simp; done) | (simp; omega)) _ _ | exact below_alloc2d _ (by simp) _ _ | exact bdrew _ _ | assumption | (exact Below.mono (by assumption) (by first | (simp; done) | (simp; omega) | omega | assumption)))) (hKO _ _ ?_)
    clear hKO KO
    refine wpTree_done ?_
    refine hKT _ _ ?_
    clear hKT KT
    rotate_right 1
    rotate_left 2
    refine wpTree_one (fun KO hKO => ?_)
    simp only [List.drop, List.take]
    go_wp2_with (first | ((with_reducible refine on_makeL (.tmp 21) ?_); refine wl_makeS (base := w1.heap.size) rfl _ _ _ rfl el_int (f := iv) 0 rfl N rfl rfl rfl rfl (by omega) (by omega) (by omega) ?_; intro g0 w3 hg0 how0 hb3; have l0 := how0.lt.2; have s3 := hb3.size; have u3 : Below w1.heap.size _ _ := hb3.mono (by omega); (try have how1 := how1.below hb3); (try have owp := owp.below hb3); (try have bxc := bxc.step hb3)) | ((with_reducible refine on_makeL (.tmp 25) ?_); refine wl_makeS (base := w1.heap.size) rfl _ _ _ rfl el_int (f := iv) 0 rfl N rfl rfl rfl rfl (by omega) (by omega) (by omega) ?_; intro g1 w7 hg1 how1 hb7; have l1 := how1.lt.2; have s7 := hb7.size; have u7 : Below w1.heap.size _ _ := hb7.mono (by omega); (try have how0 := how0.below hb7); (try have owp := owp.below hb7); (try have bxc := bxc.step hb7)) | ((with_reducible refine on_sliceLit ?_); refine wl_sliceM (base := w1.heap.size) rfl _ 2 _ rfl el_part Pt.cs_length [⟨0, (AT : Int) - 1, some ⟨g0, 0, none⟩, N, N, List.replicate N 0⟩, ⟨AT, 4294967295, some ⟨g1, 0, none⟩, N, N, List.replicate N 0⟩] rfl (by omega) (by omega) (by omega) rfl (fill_two ⟨0, (AT : Int) - 1, some ⟨g0, 0, none⟩, N, N, List.replicate N 0⟩ ⟨AT, 4294967295, some ⟨g1, 0, none⟩, N, N, List.replicate N 0⟩) ?_; intro gp w9 hgp lp owp hb9; have s9 := hb9.size; have u9 : Below w1.heap.size _ _ := hb9.mono (by omega); (try have how0 := how0.below hb9); (try have how1 := how1.below hb9); (try have bxc := bxc.step hb9)) | ((with_reducible refine on_alloc ?_); refine wl_newBox rfl _ rfl z_cert ?_; intro g w11 hg lg bxc hb11; have s11 := hb11.size; have u11 : Below w1.heap.size _ _ := hb11.mono (by omega); (try have how0 := how0.below hb11); (try have how1 := how1.below hb11); (try have owp := owp.below hb11)) | ((with_reducible refine on_store_at (.tmp 10) ?_); refine wb_store (cs := Cv 0 none 0 0 0 none 0 0) (cs' := Cv 1 (some ⟨gp, 0, none⟩) 2 2 0 none 0 0) rfl _ (.tmp 10) _ rfl st_cert rfl rfl bxc rfl rfl (by simp [Cv, Value.oneCell']) ?_; intro w12 bxc hg12; have u12 : Below w1.heap.size _ _ := below_of_grown hg12 (fun j e => by injection e with e; omega) (by omega)))
    refine anch_end (Th.Reach.of (by first | exact Below.refl _ _ | exact below_alloc _ (by first | omega | (simp; done) | (simp; omega)) _ | exact below_alloc2 _ (by first | omega | (simp; done) | (simp; omega)) _ _ | exact below_alloc2d _ (by simp) _ _ | exact bdrew _ _ | assumption | (exact Below.mono (by assumption) (by first | (simp; done) | (simp; omega) | omega | assumption)))) (hKO _ _ ?_)
    clear hKO KO
    refine wpTree_one (fun KO hKO => ?_)
    simp only [List.drop, List.take]
    go_wp2_with (first | ((with_reducible refine on_makeL (.tmp 21) ?_); refine wl_makeS (base := w1.heap.size) rfl _ _ _ rfl el_int (f := iv) 0 rfl N rfl rfl rfl rfl (by omega) (by omega) (by omega) ?_; intro g0 w3 hg0 how0 hb3; have l0 := how0.lt.2; have s3 := hb3.size; have u3 : Below w1.heap.size _ _ := hb3.mono (by omega); (try have how1 := how1.below hb3); (try have owp := owp.below hb3); (try have bxc := bxc.step hb3)) | ((with_reducible refine on_makeL (.tmp 25) ?_); refine wl_makeS (base := w1.heap.size) rfl _ _ _ rfl el_int (f := iv) 0 rfl N rfl rfl rfl rfl (by omega) (by omega) (by omega) ?_; intro g1 w7 hg1 how1 hb7; have l1 := how1.lt.2; have s7 := hb7.size; have u7 : Below w1.heap.size _ _ := hb7.mono (by omega); (try have how0 := how0.below hb7); (try have owp := owp.below hb7); (try have bxc := bxc.step hb7)) | ((with_reducible refine on_sliceLit ?_); refine wl_sliceM (base := w1.heap.size) rfl _ 2 _ rfl el_part Pt.cs_length [⟨0, (AT : Int) - 1, some ⟨g0, 0, none⟩, N, N, List.replicate N 0⟩, ⟨AT, 4294967295, some ⟨g1, 0, none⟩, N, N, List.replicate N 0⟩] rfl (by omega) (by omega) (by omega) rfl (fill_two ⟨0, (AT : Int) - 1, some ⟨g0, 0, none⟩, N, N, List.replicate N 0⟩ ⟨AT, 4294967295, some ⟨g1, 0, none⟩, N, N, List.replicate N 0⟩) ?_; intro gp w9 hgp lp owp hb9; have s9 := hb9.size; have u9 : Below w1.heap.size _ _ := hb9.mono (by omega); (try have how0 := how0.below hb9); (try have how1 := how1.below hb9); (try have bxc := bxc.step hb9)) | ((with_reducible refine on_alloc ?_); refine wl_newBox rfl _ rfl z_cert ?_; intro g w11 hg lg bxc hb11; have s11 := hb11.size; have u11 : Below w1.heap.size _ _ := hb11.mono (by omega); (try have how0 := how0.below hb11); (try have how1 := how1.below hb11); (try have owp := owp.below hb11)) | ((with_reducible refine on_store_at (.tmp 10) ?_); refine wb_store (cs := Cv 0 none 0 0 0 none 0 0) (cs' := Cv 1 (some ⟨gp, 0, none⟩) 2 2 0 none 0 0) rfl _ (.tmp 10) _ rfl st_cert rfl rfl bxc rfl rfl (by simp [Cv, Value.oneCell']) ?_; intro w12 bxc hg12; have u12 : Below w1.heap.size _ _ := below_of_grown hg12 (fun j e => by injection e with e; omega) (by omega)))
    refine anch_end (Th.Reach.of (by first | exact Below.refl _ _ | exact below_alloc _ (by first | omega | (simp; done) | (simp; omega)) _ | exact below_alloc2 _ (by first | omega | (simp; done) | (simp; omega)) _ _ | exact below_alloc2d _ (by simp) _ _ | exact bdrew _ _ | assumption | (exact Below.mono (by assumption) (by first | (simp; done) | (simp; omega) | omega | assumption)))) (hKO _ _ ?_)
    clear hKO KO
    refine wpTree_float (fun KF hKF => ?_)
    simp only [List.drop, List.take]
    repeat (first | go_big_quiet_skip | go_big_quiet_step (fail) | quiet_step (fail))
    refine wpQuiet_nil ?_
    refine hKF _ ?_
    clear hKF KF
    refine wpTree_one (fun KO hKO => ?_)
    simp only [List.drop, List.take]
    go_wp2_with (first | ((with_reducible refine on_makeL (.tmp 21) ?_); refine wl_makeS (base := w1.heap.size) rfl _ _ _ rfl el_int (f := iv) 0 rfl N rfl rfl rfl rfl (by omega) (by omega) (by omega) ?_; intro g0 w3 hg0 how0 hb3; have l0 := how0.lt.2; have s3 := hb3.size; have u3 : Below w1.heap.size _ _ := hb3.mono (by omega); (try have how1 := how1.below hb3); (try have owp := owp.below hb3); (try have bxc := bxc.step hb3)) | ((with_reducible refine on_makeL (.tmp 25) ?_); refine wl_makeS (base := w1.heap.size) rfl _ _ _ rfl el_int (f := iv) 0 rfl N rfl rfl rfl rfl (by omega) (by omega) (by omega) ?_; intro g1 w7 hg1 how1 hb7; have l1 := how1.lt.2; have s7 := hb7.size; have u7 : Below w1.heap.size _ _ := hb7.mono (by omega); (try have how0 := how0.below hb7); (try have owp := owp.below hb7); (try have bxc := bxc.step hb7)) | ((with_reducible refine on_sliceLit ?_); refine wl_sliceM (base := w1.heap.size) rfl _ 2 _ rfl el_part Pt.cs_length [⟨0, (AT : Int) - 1, some ⟨g0, 0, none⟩, N, N, List.replicate N 0⟩, ⟨AT, 4294967295, some ⟨g1, 0, none⟩, N, N, List.replicate N 0⟩] rfl (by omega) (by omega) (by omega) rfl (fill_two ⟨0, (AT : Int) - 1, some ⟨g0, 0, none⟩, N, N, List.replicate N 0⟩ ⟨AT, 4294967295, some ⟨g1, 0, none⟩, N, N, List.replicate N 0⟩) ?_; intro gp w9 hgp lp owp hb9; have s9 := hb9.size; have u9 : Below w1.heap.size _ _ := hb9.mono (by omega); (try have how0 := how0.below hb9); (try have how1 := how1.below hb9); (try have bxc := bxc.step hb9)) | ((with_reducible refine on_alloc ?_); refine wl_newBox rfl _ rfl z_cert ?_; intro g w11 hg lg bxc hb11; have s11 := hb11.size; have u11 : Below w1.heap.size _ _ := hb11.mono (by omega); (try have how0 := how0.below hb11); (try have how1 := how1.below hb11); (try have owp := owp.below hb11)) | ((with_reducible refine on_store_at (.tmp 10) ?_); refine wb_store (cs := Cv 0 none 0 0 0 none 0 0) (cs' := Cv 1 (some ⟨gp, 0, none⟩) 2 2 0 none 0 0) rfl _ (.tmp 10) _ rfl st_cert rfl rfl bxc rfl rfl (by simp [Cv, Value.oneCell']) ?_; intro w12 bxc hg12; have u12 : Below w1.heap.size _ _ := below_of_grown hg12 (fun j e => by injection e with e; omega) (by omega)))
    refine anch_end (Th.Reach.of (by first | exact Below.refl _ _ | exact below_alloc _ (by first | omega | (simp; done) | (simp; omega)) _ | exact below_alloc2 _ (by first | omega | (simp; done) | (simp; omega)) _ _ | exact below_alloc2d _ (by simp) _ _ | exact bdrew _ _ | assumption | (exact Below.mono (by assumption) (by first | (simp; done) | (simp; omega) | omega | assumption)))) (hKO _ _ ?_)
    clear hKO KO
    refine wpTree_float (fun KF hKF => ?_)
    simp only [List.drop, List.take]
    repeat (first | go_big_quiet_skip | go_big_quiet_step (fail) | quiet_step (fail))
    refine wpQuiet_nil ?_
    refine hKF _ ?_
    clear hKF KF
    refine wpTree_one (fun KO hKO => ?_)
    simp only [List.drop, List.take]
    go_wp2_with (first | ((with_reducible refine on_makeL (.tmp 21) ?_); refine wl_makeS (base := w1.heap.size) rfl _ _ _ rfl el_int (f := iv) 0 rfl N rfl rfl rfl rfl (by omega) (by omega) (by omega) ?_; intro g0 w3 hg0 how0 hb3; have l0 := how0.lt.2; have s3 := hb3.size; have u3 : Below w1.heap.size _ _ := hb3.mono (by omega); (try have how1 := how1.below hb3); (try have owp := owp.below hb3); (try have bxc := bxc.step hb3)) | ((with_reducible refine on_makeL (.tmp 25) ?_); refine wl_makeS (base := w1.heap.size) rfl _ _ _ rfl el_int (f := iv) 0 rfl N rfl rfl rfl rfl (by omega) (by omega) (by omega) ?_; intro g1 w7 hg1 how1 hb7; have l1 := how1.lt.2; have s7 := hb7.size; have u7 : Below w1.heap.size _ _ := hb7.mono (by omega); (try have how0 := how0.below hb7); (try have owp := owp.below hb7); (try have bxc := bxc.step hb7)) | ((with_reducible refine on_sliceLit ?_); refine wl_sliceM (base := w1.heap.size) rfl _ 2 _ rfl el_part Pt.cs_length [⟨0, (AT : Int) - 1, some ⟨g0, 0, none⟩, N, N, List.replicate N 0⟩, ⟨AT, 4294967295, some ⟨g1, 0, none⟩, N, N, List.replicate N 0⟩] rfl (by omega) (by omega) (by omega) rfl (fill_two ⟨0, (AT : Int) - 1, some ⟨g0, 0, none⟩, N, N, List.replicate N 0⟩ ⟨AT, 4294967295, some ⟨g1, 0, none⟩, N, N, List.replicate N 0⟩) ?_; intro gp w9 hgp lp owp hb9; have s9 := hb9.size; have u9 : Below w1.heap.size _ _ := hb9.mono (by omega); (try have how0 := how0.below hb9); (try have how1 := how1.below hb9); (try have bxc := bxc.step hb9)) | ((with_reducible refine on_alloc ?_); refine wl_newBox rfl _ rfl z_cert ?_; intro g w11 hg lg bxc hb11; have s11 := hb11.size; have u11 : Below w1.heap.size _ _ := hb11.mono (by omega); (try have how0 := how0.below hb11); (try have how1 := how1.below hb11); (try have owp := owp.below hb11)) | ((with_reducible refine on_store_at (.tmp 10) ?_); refine wb_store (cs := Cv 0 none 0 0 0 none 0 0) (cs' := Cv 1 (some ⟨gp, 0, none⟩) 2 2 0 none 0 0) rfl _ (.tmp 10) _ rfl st_cert rfl rfl bxc rfl rfl (by simp [Cv, Value.oneCell']) ?_; intro w12 bxc hg12; have u12 : Below w1.heap.size _ _ := below_of_grown hg12 (fun j e => by injection e with e; omega) (by omega)))
    refine anch_end (Th.Reach.of (by first | exact Below.refl _ _ | exact below_alloc _ (by first | omega | (simp; done) | (simp; omega)) _ | exact below_alloc2 _ (by first | omega | (simp; done) | (simp; omega)) _ _ | exact below_alloc2d _ (by simp) _ _ | exact bdrew _ _ | assumption | (exact Below.mono (by assumption) (by first | (simp; done) | (simp; omega) | omega | assumption)))) (hKO _ _ ?_)
    clear hKO KO
    refine wpTree_done ?_
    refine hKT _ _ ?_
    clear hKT KT
    rotate_right 2
    rotate_left 3
    refine wpTree_one (fun KO hKO => ?_)
    simp only [List.drop, List.take]
    go_wp2_with (first | ((with_reducible refine on_makeL (.tmp 21) ?_); refine wl_makeS (base := w1.heap.size) rfl _ _ _ rfl el_int (f := iv) 0 rfl N rfl rfl rfl rfl (by omega) (by omega) (by omega) ?_; intro g0 w3 hg0 how0 hb3; have l0 := how0.lt.2; have s3 := hb3.size; have u3 : Below w1.heap.size _ _ := hb3.mono (by omega); (try have how1 := how1.below hb3); (try have owp := owp.below hb3); (try have bxc := bxc.step hb3)) | ((with_reducible refine on_makeL (.tmp 25) ?_); refine wl_makeS (base := w1.heap.size) rfl _ _ _ rfl el_int (f := iv) 0 rfl N rfl rfl rfl rfl (by omega) (by omega) (by omega) ?_; intro g1 w7 hg1 how1 hb7; have l1 := how1.lt.2; have s7 := hb7.size; have u7 : Below w1.heap.size _ _ := hb7.mono (by omega); (try have how0 := how0.below hb7); (try have owp := owp.below hb7); (try have bxc := bxc.step hb7)) | ((with_reducible refine on_sliceLit ?_); refine wl_sliceM (base := w1.heap.size) rfl _ 2 _ rfl el_part Pt.cs_length [⟨0, (AT : Int) - 1, some ⟨g0, 0, none⟩, N, N, List.replicate N 0⟩, ⟨AT, 4294967295, some ⟨g1, 0, none⟩, N, N, List.replicate N 0⟩] rfl (by omega) (by omega) (by omega) rfl (fill_two ⟨0, (AT : Int) - 1, some ⟨g0, 0, none⟩, N, N, List.replicate N 0⟩ ⟨AT, 4294967295, some ⟨g1, 0, none⟩, N, N, List.replicate N 0⟩) ?_; intro gp w9 hgp lp owp hb9; have s9 := hb9.size; have u9 : Below w1.heap.size _ _ := hb9.mono (by omega); (try have how0 := how0.below hb9); (try have how1 := how1.below hb9); (try have bxc := bxc.step hb9)) | ((with_reducible refine on_alloc ?_); refine wl_newBox rfl _ rfl z_cert ?_; intro g w11 hg lg bxc hb11; have s11 := hb11.size; have u11 : Below w1.heap.size _ _ := hb11.mono (by omega); (try have how0 := how0.below hb11); (try have how1 := how1.below hb11); (try have owp := owp.below hb11)) | ((with_reducible refine on_store_at (.tmp 10) ?_); refine wb_store (cs := Cv 0 none 0 0 0 none 0 0) (cs' := Cv 1 (some ⟨gp, 0, none⟩) 2 2 0 none 0 0) rfl _ (.tmp 10) _ rfl st_cert rfl rfl bxc rfl rfl (by simp [Cv, Value.oneCell']) ?_; intro w12 bxc hg12; have u12 : Below w1.heap.size _ _ := below_of_grown hg12 (fun j e => by injection e with e; omega) (by omega)))
    refine anch_end (Th.Reach.of (by first | exact Below.refl _ _ | exact below_alloc _ (by first | omega | (simp; done) | (simp; omega)) _ | exact below_alloc2 _ (by first | omega | (simp; done) | (simp; omega)) _ _ | exact below_alloc2d _ (by simp) _ _ | exact bdrew _ _ | assumption | (exact Below.mono (by assumption) (by first | (simp; done) | (simp; omega) | omega | assumption)))) (hKO _ _ ?_)
    clear hKO KO
    refine wpTree_two ?_ ?_
    refine wpTree_one (fun KO hKO => ?_)
    simp only [List.drop, List.take]
    go_wp2_with (first | ((with_reducible refine on_makeL (.tmp 21) ?_); refine wl_makeS (base := w1.heap.size) rfl _ _ _ rfl el_int (f := iv) 0 rfl N rfl rfl rfl rfl (by omega) (by omega) (by omega) ?_; intro g0 w3 hg0 how0 hb3; have l0 := how0.lt.2; have s3 := hb3.size; have u3 : Below w1.heap.size _ _ := hb3.mono (by omega); (try have how1 := how1.below hb3); (try have owp := owp.below hb3); (try have bxc := bxc.step hb3)) | ((with_reducible refine on_makeL (.tmp 25) ?_); refine wl_makeS (base := w1.heap.size) rfl _ _ _ rfl el_int (f := iv) 0 rfl N rfl rfl rfl rfl (by omega) (by omega) (by omega) ?_; intro g1 w7 hg1 how1 hb7; have l1 := how1.lt.2; have s7 := hb7.size; have u7 : Below w1.heap.size _ _ := hb7.mono (by omega); (try have how0 := how0.below hb7); (try have owp := owp.below hb7); (try have bxc := bxc.step hb7)) | ((with_reducible refine on_sliceLit ?_); refine wl_sliceM (base := w1.heap.size) rfl _ 2 _ rfl el_part Pt.cs_length [⟨0, (AT : Int) - 1, some ⟨g0, 0, none⟩, N, N, List.replicate N 0⟩, ⟨AT, 4294967295, some ⟨g1, 0, none⟩, N, N, List.replicate N 0⟩] rfl (by omega) (by omega) (by omega) rfl (fill_two ⟨0, (AT : Int) - 1, some ⟨g0, 0, none⟩, N, N, List.replicate N 0⟩ ⟨AT, 4294967295, some ⟨g1, 0, none⟩, N, N, List.replicate N 0⟩) ?_; intro gp w9 hgp lp owp hb9; have s9 := hb9.size; have u9 : Below w1.heap.size _ _ := hb9.mono (by omega); (try have how0 := how0.below hb9); (try have how1 := how1.below hb9); (try have bxc := bxc.step hb9)) | ((with_reducible refine on_alloc ?_); refine wl_newBox rfl _ rfl z_cert ?_; intro g w11 hg lg bxc hb11; have s11 := hb11.size; have u11 : Below w1.heap.size _ _ := hb11.mono (by omega); (try have how0 := how0.below hb11); (try have how1 := how1.below hb11); (try have owp := owp.below hb11)) | ((with_reducible refine on_store_at (.tmp 10) ?_); refine wb_store (cs := Cv 0 none 0 0 0 none 0 0) (cs' := Cv 1 (some ⟨gp, 0, none⟩) 2 2 0 none 0 0) rfl _ (.tmp 10) _ rfl st_cert rfl rfl bxc rfl rfl (by simp [Cv, Value.oneCell']) ?_; intro w12 bxc hg12; have u12 : Below w1.heap.size _ _ := below_of_grown hg12 (fun j e => by injection e with e; omega) (by omega)))
    refine anch_end (Th.Reach.of (by first | exact Below.refl _ _ | exact below_alloc _ (by first | omega | (simp; done) | (simp; omega)) _ | exact below_alloc2 _ (by first | omega | (simp; done) | (simp; omega)) _ _ | exact below_alloc2d _ (by simp) _ _ | exact bdrew _ _ | assumption | (exact Below.mono (by assumption) (by first | (simp; done) | (simp; omega) | omega | assumption)))) (hKO _ _ ?_)
    clear hKO KO
    refine wpTree_float (fun KF hKF => ?_)
    simp only [List.drop, List.take]
    repeat (first | go_big_quiet_skip | go_big_quiet_step (fail) | quiet_step (fail))
    refine wpQuiet_nil ?_
    refine hKF _ ?_
    clear hKF KF
    refine wpTree_one (fun KO hKO => ?_)
    simp only [List.drop, List.take]
    go_wp2_with (first | ((with_reducible refine on_makeL (.tmp 21) ?_); refine wl_makeS (base := w1.heap.size) rfl _ _ _ rfl el_int (f := iv) 0 rfl N rfl rfl rfl rfl (by omega) (by omega) (by omega) ?_; intro g0 w3 hg0 how0 hb3; have l0 := how0.lt.2; have s3 := hb3.size; have u3 : Below w1.heap.size _ _ := hb3.mono (by omega); (try have how1 := how1.below hb3); (try have owp := owp.below hb3); (try have bxc := bxc.step hb3)) | ((with_reducible refine on_makeL (.tmp 25) ?_); refine wl_makeS (base := w1.heap.size) rfl _ _ _ rfl el_int (f := iv) 0 rfl N rfl rfl rfl rfl (by omega) (by omega) (by omega) ?_; intro g1 w7 hg1 how1 hb7; have l1 := how1.lt.2; have s7 := hb7.size; have u7 : Below w1.heap.size _ _ := hb7.mono (by omega); (try have how0 := how0.below hb7); (try have owp := owp.below hb7); (try have bxc := bxc.step hb7)) | ((with_reducible refine on_sliceLit ?_); refine wl_sliceM (base := w1.heap.size) rfl _ 2 _ rfl el_part Pt.cs_length [⟨0, (AT : Int) - 1, some ⟨g0, 0, none⟩, N, N, List.replicate N 0⟩, ⟨AT, 4294967295, some ⟨g1, 0, none⟩, N, N, List.replicate N 0⟩] rfl (by omega) (by omega) (by omega) rfl (fill_two ⟨0, (AT : Int) - 1, some ⟨g0, 0, none⟩, N, N, List.replicate N 0⟩ ⟨AT, 4294967295, some ⟨g1, 0, none⟩, N, N, List.replicate N 0⟩) ?_; intro gp w9 hgp lp owp hb9; have s9 := hb9.size; have u9 : Below w1.heap.size _ _ := hb9.mono (by omega); (try have how0 := how0.below hb9); (try have how1 := how1.below hb9); (try have bxc := bxc.step hb9)) | ((with_reducible refine on_alloc ?_); refine wl_newBox rfl _ rfl z_cert ?_; intro g w11 hg lg bxc hb11; have s11 := hb11.size; have u11 : Below w1.heap.size _ _ := hb11.mono (by omega); (try have how0 := how0.below hb11); (try have how1 := how1.below hb11); (try have owp := owp.below hb11)) | ((with_reducible refine on_store_at (.tmp 10) ?_); refine wb_store (cs := Cv 0 none 0 0 0 none 0 0) (cs' := Cv 1 (some ⟨gp, 0, none⟩) 2 2 0 none 0 0) rfl _ (.tmp 10) _ rfl st_cert rfl rfl bxc rfl rfl (by simp [Cv, Value.oneCell']) ?_; intro w12 bxc hg12; have u12 : Below w1.heap.size _ _ := below_of_grown hg12 (fun j e => by injection e with e; omega) (by omega)))
    refine anch_end (Th.Reach.of (by first | exact Below.refl _ _ | exact below_alloc _ (by first | omega | (simp; done) | (simp; omega)) _ | exact below_alloc2 _ (by first | omega | (simp; done) | (simp; omega)) _ _ | exact below_alloc2d _ (by simp) _ _ | exact bdrew _ _ | assumption | (exact Below.mono (by assumption) (by first | (simp; done) | (simp; omega) | omega | assumption)))) (hKO _ _ ?_)
    clear hKO KO
    refine wpTree_float (fun KF hKF => ?_)
    simp only [List.drop, List.take]
    repeat (first | go_big_quiet_skip | go_big_quiet_step (fail) | quiet_step (fail))
    refine wpQuiet_nil ?_
    refine hKF _ ?_
    clear hKF KF
    refine wpTree_one (fun KO hKO => ?_)
    simp only [List.drop, List.take]
    go_wp2_with (first | ((with_reducible refine on_makeL (.tmp 21) ?_); refine wl_makeS (base := w1.heap.size) rfl _ _ _ rfl el_int (f := iv) 0 rfl N rfl rfl rfl rfl (by omega) (by omega) (by omega) ?_; intro g0 w3 hg0 how0 hb3; have l0 := how0.lt.2; have s3 := hb3.size; have u3 : Below w1.heap.size _ _ := hb3.mono (by omega); (try have how1 := how1.below hb3); (try have owp := owp.below hb3); (try have bxc := bxc.step hb3)) | ((with_reducible refine on_makeL (.tmp 25) ?_); refine wl_makeS (base := w1.heap.size) rfl _ _ _ rfl el_int (f := iv) 0 rfl N rfl rfl rfl rfl (by omega) (by omega) (by omega) ?_; intro g1 w7 hg1 how1 hb7; have l1 := how1.lt.2; have s7 := hb7.size; have u7 : Below w1.heap.size _ _ := hb7.mono (by omega); (try have how0 := how0.below hb7); (try have owp := owp.below hb7); (try have bxc := bxc.step hb7)) | ((with_reducible refine on_sliceLit ?_); refine wl_sliceM (base := w1.heap.size) rfl _ 2 _ rfl el_part Pt.cs_length [⟨0, (AT : Int) - 1, some ⟨g0, 0, none⟩, N, N, List.replicate N 0⟩, ⟨AT, 4294967295, some ⟨g1, 0, none⟩, N, N, List.replicate N 0⟩] rfl (by omega) (by omega) (by omega) rfl (fill_two ⟨0, (AT : Int) - 1, some ⟨g0, 0, none⟩, N, N, List.replicate N 0⟩ ⟨AT, 4294967295, some ⟨g1, 0, none⟩, N, N, List.replicate N 0⟩) ?_; intro gp w9 hgp lp owp hb9; have s9 := hb9.size; have u9 : Below w1.heap.size _ _ := hb9.mono (by omega); (try have how0 := how0.below hb9); (try have how1 := how1.below hb9); (try have bxc := bxc.step hb9)) | ((with_reducible refine on_alloc ?_); refine wl_newBox rfl _ rfl z_cert ?_; intro g w11 hg lg bxc hb11; have s11 := hb11.size; have u11 : Below w1.heap.size _ _ := hb11.mono (by omega); (try have how0 := how0.below hb11); (try have how1 := how1.below hb11); (try have owp := owp.below hb11)) | ((with_reducible refine on_store_at (.tmp 10) ?_); refine wb_store (cs := Cv 0 none 0 0 0 none 0 0) (cs' := Cv 1 (some ⟨gp, 0, none⟩) 2 2 0 none 0 0) rfl _ (.tmp 10) _ rfl st_cert rfl rfl bxc rfl rfl (by simp [Cv, Value.oneCell']) ?_; intro w12 bxc hg12; have u12 : Below w1.heap.size _ _ := below_of_grown hg12 (fun j e => by injection e with e; omega) (by omega)))
    refine anch_end (Th.Reach.of (by first | exact Below.refl _ _ | exact below_alloc _ (by first | omega | (simp; done) | (simp; omega)) _ | exact below_alloc2 _ (by first | omega | (simp; done) | (simp; omega)) _ _ | exact below_alloc2d _ (by simp) _ _ | exact bdrew _ _ | assumption | (exact Below.mono (by assumption) (by first | (simp; done) | (simp; omega) | omega | assumption)))) (hKO _ _ ?_)
    clear hKO KO
    refine wpTree_float (fun KF hKF => ?_)
    simp only [List.drop, List.take]
    repeat (first | go_big_quiet_skip | go_big_quiet_step (fail) | quiet_step (fail))
    refine wpQuiet_nil ?_
    refine hKF _ ?_
    clear hKF KF
    refine wpTree_one (fun KO hKO => ?_)
    simp only [List.drop, List.take]
    go_wp2_with (first | ((with_reducible refine on_makeL (.tmp 21) ?_); refine wl_makeS (base := w1.heap.size) rfl _ _ _ rfl el_int (f := iv) 0 rfl N rfl rfl rfl rfl (by omega) (by omega) (by omega) ?_; intro g0 w3 hg0 how0 hb3; have l0 := how0.lt.2; have s3 := hb3.size; have u3 : Below w1.heap.size _ _ := hb3.mono (by omega); (try have how1 := how1.below hb3); (try have owp := owp.below hb3); (try have bxc := bxc.step hb3)) | ((with_reducible refine on_makeL (.tmp 25) ?_); refine wl_makeS (base := w1.heap.size) rfl _ _ _ rfl el_int (f := iv) 0 rfl N rfl rfl rfl rfl (by omega) (by omega) (by omega) ?_; intro g1 w7 hg1 how1 hb7; have l1 := how1.lt.2; have s7 := hb7.size; have u7 : Below w1.heap.size _ _ := hb7.mono (by omega); (try have how0 := how0.below hb7); (try have owp := owp.below hb7); (try have bxc := bxc.step hb7)) | ((with_reducible refine on_sliceLit ?_); refine wl_sliceM (base := w1.heap.size) rfl _ 2 _ rfl el_part Pt.cs_length [⟨0, (AT : Int) - 1, some ⟨g0, 0, none⟩, N, N, List.replicate N 0⟩, ⟨AT, 4294967295, some ⟨g1, 0, none⟩, N, N, List.replicate N 0⟩] rfl (by omega) (by omega) (by omega) rfl (fill_two ⟨0, (AT : Int) - 1, some ⟨g0, 0, none⟩, N, N, List.replicate N 0⟩ ⟨AT, 4294967295, some ⟨g1, 0, none⟩, N, N, List.replicate N 0⟩) ?_; intro gp w9 hgp lp owp hb9; have s9 := hb9.size; have u9 : Below w1.heap.size _ _ := hb9.mono (by omega); (try have how0 := how0.below hb9); (try have how1 := how1.below hb9); (try have bxc := bxc.step hb9)) | ((with_reducible refine on_alloc ?_); refine wl_newBox rfl _ rfl z_cert ?_; intro g w11 hg lg bxc hb11; have s11 := hb11.size; have u11 : Below w1.heap.size _ _ := hb11.mono (by omega); (try have how0 := how0.below hb11); (try have how1 := how1.below hb11); (try have owp := owp.below hb11)) | ((with_reducible refine on_store_at (.tmp 10) ?_); refine wb_store (cs := Cv 0 none 0 0 0 none 0 0) (cs' := Cv 1 (some ⟨gp, 0, none⟩) 2 2 0 none 0 0) rfl _ (.tmp 10) _ rfl st_cert rfl rfl bxc rfl rfl (by simp [Cv, Value.oneCell']) ?_; intro w12 bxc hg12; have u12 : Below w1.heap.size _ _ := below_of_grown hg12 (fun j e => by injection e with e; omega) (by omega)))
    refine anch_end (Th.Reach.of (by first | exact Below.refl _ _ | exact below_alloc _ (by first | omega | (simp; done) | (simp; omega)) _ | exact below_alloc2 _ (by first | omega | (simp; done) | (simp; omega)) _ _ | exact below_alloc2d _ (by simp) _ _ | exact bdrew _ _ | assumption | (exact Below.mono (by assumption) (by first | (simp; done) | (simp; omega) | omega | assumption)))) (hKO _ _ ?_)
    clear hKO KO
    refine wpTree_done ?_
    refine hKT _ _ ?_
    clear hKT KT
    rotate_left 1
    refine wpTree_one (fun KO hKO => ?_)
    simp only [List.drop, List.take]
    go_wp2_with (first | ((with_reducible refine on_makeL (.tmp 21) ?_); refine wl_makeS (base := w1.heap.size) rfl _ _ _ rfl el_int (f := iv) 0 rfl N rfl rfl rfl rfl (by omega) (by omega) (by omega) ?_; intro g0 w3 hg0 how0 hb3; have l0 := how0.lt.2; have s3 := hb3.size; have u3 : Below w1.heap.size _ _ := hb3.mono (by omega); (try have how1 := how1.below hb3); (try have owp := owp.below hb3); (try have bxc := bxc.step hb3)) | ((with_reducible refine on_makeL (.tmp 25) ?_); refine wl_makeS (base := w1.heap.size) rfl _ _ _ rfl el_int (f := iv) 0 rfl N rfl rfl rfl rfl (by omega) (by omega) (by omega) ?_; intro g1 w7 hg1 how1 hb7; have l1 := how1.lt.2; have s7 := hb7.size; have u7 : Below w1.heap.size _ _ := hb7.mono (by omega); (try have how0 := how0.below hb7); (try have owp := owp.below hb7); (try have bxc := bxc.step hb7)) | ((with_reducible refine on_sliceLit ?_); refine wl_sliceM (base := w1.heap.size) rfl _ 2 _ rfl el_part Pt.cs_length [⟨0, (AT : Int) - 1, some ⟨g0, 0, none⟩, N, N, List.replicate N 0⟩, ⟨AT, 4294967295, some ⟨g1, 0, none⟩, N, N, List.replicate N 0⟩] rfl (by omega) (by omega) (by omega) rfl (fill_two ⟨0, (AT : Int) - 1, some ⟨g0, 0, none⟩, N, N, List.replicate N 0⟩ ⟨AT, 4294967295, some ⟨g1, 0, none⟩, N, N, List.replicate N 0⟩) ?_; intro gp w9 hgp lp owp hb9; have s9 := hb9.size; have u9 : Below w1.heap.size _ _ := hb9.mono (by omega); (try have how0 := how0.below hb9); (try have how1 := how1.below hb9); (try have bxc := bxc.step hb9)) | ((with_reducible refine on_alloc ?_); refine wl_newBox rfl _ rfl z_cert ?_; intro g w11 hg lg bxc hb11; have s11 := hb11.size; have u11 : Below w1.heap.size _ _ := hb11.mono (by omega); (try have how0 := how0.below hb11); (try have how1 := how1.below hb11); (try have owp := owp.below hb11)) | ((with_reducible refine on_store_at (.tmp 10) ?_); refine wb_store (cs := Cv 0 none 0 0 0 none 0 0) (cs' := Cv 1 (some ⟨gp, 0, none⟩) 2 2 0 none 0 0) rfl _ (.tmp 10) _ rfl st_cert rfl rfl bxc rfl rfl (by simp [Cv, Value.oneCell']) ?_; intro w12 bxc hg12; have u12 : Below w1.heap.size _ _ := below_of_grown hg12 (fun j e => by injection e with e; omega) (by omega)))
    refine anch_end (Th.Reach.of (by first | exact Below.refl _ _ | exact below_alloc _ (by first | omega | (simp; done) | (simp; omega)) _ | exact below_alloc2 _ (by first | omega | (simp; done) | (simp; omega)) _ _ | exact below_alloc2d _ (by simp) _ _ | exact bdrew _ _ | assumption | (exact Below.mono (by assumption) (by first | (simp; done) | (simp; omega) | omega | assumption)))) (hKO _ _ ?_)
    clear hKO KO
    refine wpTree_float (fun KF hKF => ?_)
    simp only [List.drop, List.take]
    repeat (first | go_big_quiet_skip | go_big_quiet_step (fail) | quiet_step (fail))
    refine wpQuiet_nil ?_
    refine hKF _ ?_
    clear hKF KF
    refine wpTree_one (fun KO hKO => ?_)
    simp only [List.drop, List.take]
    go_wp2_with (first | ((with_reducible refine on_makeL (.tmp 21) ?_); refine wl_makeS (base := w1.heap.size) rfl _ _ _ rfl el_int (f := iv) 0 rfl N rfl rfl rfl rfl (by omega) (by omega) (by omega) ?_; intro g0 w3 hg0 how0 hb3; have l0 := how0.lt.2; have s3 := hb3.size; have u3 : Below w1.heap.size _ _ := hb3.mono (by omega); (try have how1 := how1.below hb3); (try have owp := owp.below hb3); (try have bxc := bxc.step hb3)) | ((with_reducible refine on_makeL (.tmp 25) ?_); refine wl_makeS (base := w1.heap.size) rfl _ _ _ rfl el_int (f := iv) 0 rfl N rfl rfl rfl rfl (by omega) (by omega) (by omega) ?_; intro g1 w7 hg1 how1 hb7; have l1 := how1.lt.2; have s7 := hb7.size; have u7 : Below w1.heap.size _ _ := hb7.mono (by omega); (try have how0 := how0.below hb7); (try have owp := owp.below hb7); (try have bxc := bxc.step hb7)) | ((with_reducible refine on_sliceLit ?_); refine wl_sliceM (base := w1.heap.size) rfl _ 2 _ rfl el_part Pt.cs_length [⟨0, (AT : Int) - 1, some ⟨g0, 0, none⟩, N, N, List.replicate N 0⟩, ⟨AT, 4294967295, some ⟨g1, 0, none⟩, N, N, List.replicate N 0⟩] rfl (by omega) (by omega) (by omega) rfl (fill_two ⟨0, (AT : Int) - 1, some ⟨g0, 0, none⟩, N, N, List.replicate N 0⟩ ⟨AT, 4294967295, some ⟨g1, 0, none⟩, N, N, List.replicate N 0⟩) ?_; intro gp w9 hgp lp owp hb9; have s9 := hb9.size; have u9 : Below w1.heap.size _ _ := hb9.mono (by omega); (try have how0 := how0.below hb9); (try have how1 := how1.below hb9); (try have bxc := bxc.step hb9)) | ((with_reducible refine on_alloc ?_); refine wl_newBox rfl _ rfl z_cert ?_; intro g w11 hg lg bxc hb11; have s11 := hb11.size; have u11 : Below w1.heap.size _ _ := hb11.mono (by omega); (try have how0 := how0.below hb11); (try have how1 := how1.below hb11); (try have owp := owp.below hb11)) | ((with_reducible refine on_store_at (.tmp 10) ?_); refine wb_store (cs := Cv 0 none 0 0 0 none 0 0) (cs' := Cv 1 (some ⟨gp, 0, none⟩) 2 2 0 none 0 0) rfl _ (.tmp 10) _ rfl st_cert rfl rfl bxc rfl rfl (by simp [Cv, Value.oneCell']) ?_; intro w12 bxc hg12; have u12 : Below w1.heap.size _ _ := below_of_grown hg12 (fun j e => by injection e with e; omega) (by omega)))
    refine anch_end (Th.Reach.of (by first | exact Below.refl _ _ | exact below_alloc _ (by first | omega | (simp; done) | (simp; omega)) _ | exact below_alloc2 _ (by first | omega | (simp; done) | (simp; omega)) _ _ | exact below_alloc2d _ (by simp) _ _ | exact bdrew _ _ | assumption | (exact Below.mono (by assumption) (by first | (simp; done) | (simp; omega) | omega | assumption)))) (hKO _ _ ?_)
    clear hKO KO
    refine wpTree_float (fun KF hKF => ?_)
    simp only [List.drop, List.take]
    repeat (first | go_big_quiet_skip | go_big_quiet_step (fail) | quiet_step (fail))
    refine wpQuiet_nil ?_
    refine hKF _ ?_
    clear hKF KF
    refine wpTree_one (fun KO hKO => ?_)
    simp only [List.drop, List.take]
    go_wp2_with (first | ((with_reducible refine on_makeL (.tmp 21) ?_); refine wl_makeS (base := w1.heap.size) rfl _ _ _ rfl el_int (f := iv) 0 rfl N rfl rfl rfl rfl (by omega) (by omega) (by omega) ?_; intro g0 w3 hg0 how0 hb3; have l0 := how0.lt.2; have s3 := hb3.size; have u3 : Below w1.heap.size _ _ := hb3.mono (by omega); (try have how1 := how1.below hb3); (try have owp := owp.below hb3); (try have bxc := bxc.step hb3)) | ((with_reducible refine on_makeL (.tmp 25) ?_); refine wl_makeS (base := w1.heap.size) rfl _ _ _ rfl el_int (f := iv) 0 rfl N rfl rfl rfl rfl (by omega) (by omega) (by omega) ?_; intro g1 w7 hg1 how1 hb7; have l1 := how1.lt.2; have s7 := hb7.size; have u7 : Below w1.heap.size _ _ := hb7.mono (by omega); (try have how0 := how0.below hb7); (try have owp := owp.below hb7); (try have bxc := bxc.step hb7)) | ((with_reducible refine on_sliceLit ?_); refine wl_sliceM (base := w1.heap.size) rfl _ 2 _ rfl el_part Pt.cs_length [⟨0, (AT : Int) - 1, some ⟨g0, 0, none⟩, N, N, List.replicate N 0⟩, ⟨AT, 4294967295, some ⟨g1, 0, none⟩, N, N, List.replicate N 0⟩] rfl (by omega) (by omega) (by omega) rfl (fill_two ⟨0, (AT : Int) - 1, some ⟨g0, 0, none⟩, N, N, List.replicate N 0⟩ ⟨AT, 4294967295, some ⟨g1, 0, none⟩, N, N, List.replicate N 0⟩) ?_; intro gp w9 hgp lp owp hb9; have s9 := hb9.size; have u9 : Below w1.heap.size _ _ := hb9.mono (by omega); (try have how0 := how0.below hb9); (try have how1 := how1.below hb9); (try have bxc := bxc.step hb9)) | ((with_reducible refine on_alloc ?_); refine wl_newBox rfl _ rfl z_cert ?_; intro g w11 hg lg bxc hb11; have s11 := hb11.size; have u11 : Below w1.heap.size _ _ := hb11.mono (by omega); (try have how0 := how0.below hb11); (try have how1 := how1.below hb11); (try have owp := owp.below hb11)) | ((with_reducible refine on_store_at (.tmp 10) ?_); refine wb_store (cs := Cv 0 none 0 0 0 none 0 0) (cs' := Cv 1 (some ⟨gp, 0, none⟩) 2 2 0 none 0 0) rfl _ (.tmp 10) _ rfl st_cert rfl rfl bxc rfl rfl (by simp [Cv, Value.oneCell']) ?_; intro w12 bxc hg12; have u12 : Below w1.heap.size _ _ := below_of_grown hg12 (fun j e => by injection e with e; omega) (by omega)))
    refine anch_end (Th.Reach.of (by first | exact Below.refl _ _ | exact below_alloc _ (by first | omega | (simp; done) | (simp; omega)) _ | exact below_alloc2 _ (by first | omega | (simp; done) | (simp; omega)) _ _ | exact below_alloc2d _ (by simp) _ _ | exact bdrew _ _ | assumption | (exact Below.mono (by assumption) (by first | (simp; done) | (simp; omega) | omega | assumption)))) (hKO _ _ ?_)
    clear hKO KO
    refine wpTree_float (fun KF hKF => ?_)
    simp only [List.drop, List.take]
    repeat (first | go_big_quiet_skip | go_big_quiet_step (fail) | quiet_step (fail))
    refine wpQuiet_nil ?_
    refine hKF _ ?_
    clear hKF KF
    refine wpTree_one (fun KO hKO => ?_)
    simp only [List.drop, List.take]
    go_wp2_with (first | ((with_reducible refine on_makeL (.tmp 21) ?_); refine wl_makeS (base := w1.heap.size) rfl _ _ _ rfl el_int (f := iv) 0 rfl N rfl rfl rfl rfl (by omega) (by omega) (by omega) ?_; intro g0 w3 hg0 how0 hb3; have l0 := how0.lt.2; have s3 := hb3.size; have u3 : Below w1.heap.size _ _ := hb3.mono (by omega); (try have how1 := how1.below hb3); (try have owp := owp.below hb3); (try have bxc := bxc.step hb3)) | ((with_reducible refine on_makeL (.tmp 25) ?_); refine wl_makeS (base := w1.heap.size) rfl _ _ _ rfl el_int (f := iv) 0 rfl N rfl rfl rfl rfl (by omega) (by omega) (by omega) ?_; intro g1 w7 hg1 how1 hb7; have l1 := how1.lt.2; have s7 := hb7.size; have u7 : Below w1.heap.size _ _ := hb7.mono (by omega); (try have how0 := how0.below hb7); (try have owp := owp.below hb7); (try have bxc := bxc.step hb7)) | ((with_reducible refine on_sliceLit ?_); refine wl_sliceM (base := w1.heap.size) rfl _ 2 _ rfl el_part Pt.cs_length [⟨0, (AT : Int) - 1, some ⟨g0, 0, none⟩, N, N, List.replicate N 0⟩, ⟨AT, 4294967295, some ⟨g1, 0, none⟩, N, N, List.replicate N 0⟩] rfl (by omega) (by omega) (by omega) rfl (fill_two ⟨0, (AT : Int) - 1, some ⟨g0, 0, none⟩, N, N, List.replicate N 0⟩ ⟨AT, 4294967295, some ⟨g1, 0, none⟩, N, N, List.replicate N 0⟩) ?_; intro gp w9 hgp lp owp hb9; have s9 := hb9.size; have u9 : Below w1.heap.size _ _ := hb9.mono (by omega); (try have how0 := how0.below hb9); (try have how1 := how1.below hb9); (try have bxc := bxc.step hb9)) | ((with_reducible refine on_alloc ?_); refine wl_newBox rfl _ rfl z_cert ?_; intro g w11 hg lg bxc hb11; have s11 := hb11.size; have u11 : Below w1.heap.size _ _ := hb11.mono (by omega); (try have how0 := how0.below hb11); (try have how1 := how1.below hb11); (try have owp := owp.below hb11)) | ((with_reducible refine on_store_at (.tmp 10) ?_); refine wb_store (cs := Cv 0 none 0 0 0 none 0 0) (cs' := Cv 1 (some ⟨gp, 0, none⟩) 2 2 0 none 0 0) rfl _ (.tmp 10) _ rfl st_cert rfl rfl bxc rfl rfl (by simp [Cv, Value.oneCell']) ?_; intro w12 bxc hg12; have u12 : Below w1.heap.size _ _ := below_of_grown hg12 (fun j e => by injection e with e; omega) (by omega)))
    refine anch_end (Th.Reach.of (by first | exact Below.refl _ _ | exact below_alloc _ (by first | omega | (simp; done) | (simp; omega)) _ | exact below_alloc2 _ (by first | omega | (simp; done) | (simp; omega)) _ _ | exact below_alloc2d _ (by simp) _ _ | exact bdrew _ _ | assumption | (exact Below.mono (by assumption) (by first | (simp; done) | (simp; omega) | omega | assumption)))) (hKO _ _ ?_)
    clear hKO KO
    refine wpTree_done ?_
    refine hKT _ _ ?_
    clear hKT KT
    rotate_right 1
    rotate_left 2
    all_goals
      go_wp2
      go_meet
      case rel => exact ⟨g, gp, g0, g1, rfl, ⟨bxc, owp.grown hg12 (fun g' hA e => by injection e with e; injection hA with hA; injection hA with hA; omega), how0.grown hg12 (fun g' hA e => by injection e with e; injection hA with hA; injection hA with hA; omega), how1.grown hg12 (fun g' hA e => by injection e with e; injection hA with hA; injection hA with hA; omega), rfl, rfl, OwS.nil_ _ _ _, (fun g' h => by cases h), by omega, by omega⟩, by
        refine Below.trans ?_ u12
        repeat (first | exact bdrew _ _ | refine Below.trans ?_ u3 | refine Below.trans ?_ u7 | refine Below.trans ?_ u9 | refine Below.trans ?_ u11)⟩
  case rest =>
    obtain ⟨g, gp, g0, g1, rfl, M, B⟩ := hcut
    have zz := Below.size hb1
    go_upto_if 32 with fail
    go_cut [11] (fun s11 wx => FRel (fun v d nt fr1 n0 rk0 => v = 1 ∧ d = 0 ∧ nt = 0 ∧ fr1 = AT ∧ n0 = N ∧ rk0 = List.replicate N 0) N AT w1.heap.size g w1 s11 wx)
    case first =>
      rcases D1.out with d | d
      · have e1 : bits .and .u8 (m : Int) 1 = 0 := by have h := H1.out; rw [d] at h; exact h
        clear d
        go_wp2_with fail
        go_meet
        case rel => exact ⟨gp, g0, g1, 1, 0, none, 0, 0, [], N, N, _, AT, _, 0, rfl, M, B, Lib.hid (.inl ⟨rfl, rfl, rfl, rfl, rfl, rfl, rfl, rfl⟩), by omega, Lib.hid (by simp), Lib.hid (fun _ => ⟨rfl, rfl, rfl⟩), hN3, by omega, by omega, by omega, rfl, rfl, rfl, rfl, rfl, rfl⟩
      · have e1 : bits .and .u8 (m : Int) 1 = 1 := by have h := H1.out; rw [d] at h; exact h
        clear d
        have c1 : wc.cell? ⟨g, 1, none⟩ = some (.slice (some ⟨gp, 0, none⟩) 2 2) := M.box.cell 1
        have p5 : wc.cell? ⟨gp, 5, none⟩ = some (.slice (some ⟨g1, 0, none⟩) N N) := (M.parts.cellAt Pt.cs_length (i := 1) (j := 2) rfl rfl).1
        have ow1 : OwS iv wc w1.heap.size 3 (some ⟨g1, 0, none⟩) N N (List.replicate N (0 : Int)) := M.r1
        go_wp2_with (first
          | ((with_reducible refine on_index (.tmp 34) ?_); refine wm_place rfl _ (.tmp 34) _ rfl el_part rfl rfl 1 (by omega) ?_)
          | ((with_reducible refine on_index (.tmp 37) ?_); refine wl_placeS rfl _ (.tmp 37) _ rfl el_int rfl rfl (N - 1) (by omega) ?_)
          | ((with_reducible refine on_store_at (.tmp 41) ?_); refine wl_setS rfl _ (.tmp 41) _ rfl size_int (f := iv) (g := g1) (j := N - 1) rfl rfl N rfl ow1 (by omega) ?_; intro w5 ow5 hg5 hb5))
        go_meet
        case rel => exact ⟨gp, g0, g1, 1, 0, none, 0, 0, [], N, N, _, AT, _, 16, rfl, ⟨M.box.grown hg5 (box_ne M.ne.2.2.1), parts_rk (M.parts.grown hg5 (own_ne M.ne.2.2.2.2.1)) _ _, M.r0.grown hg5 (own_ne M.ne.2.2.2.2.2), ow5, rfl, rfl, OwS.nil_ _ _ _, (fun g' h => by cases h), M.ne, M.ge⟩, B.trans (hb5.mono (by omega)), Lib.hid (.inr (.inl ⟨rfl, rfl, rfl, rfl, rfl, rfl, rfl, rfl⟩)), by omega, Lib.hid (by simp), Lib.hid (fun _ => ⟨rfl, rfl, rfl⟩), hN3, by omega, by omega, by omega, rfl, rfl, rfl, rfl, rfl, rfl⟩
    case rest =>
      clear M B
      obtain ⟨gp, g0, g1, v, d, At, nt, ct, tr, n0, c0, rk0, fr1, rk1, want, rfl, M, B, L, nt1, tz, tn, n01, n02, f1, f2, q1, q2, q3, q4, q5, q6⟩ := hcut
      subst q1 q2 q3 q4 q5 q6
      obtain ⟨rfl, rfl, rfl⟩ := tn.out rfl
      clear tn
      go_upto_if 44 with fail
      go_cut [11] (fun s11 wx => FRel (fun v d nt fr1 n0 rk0 => v = 1 ∧ d = 0 ∧ nt = 0 ∧ fr1 = AT) n0 AT w1.heap.size g w1 s11 wx)
      case first =>
        rcases D2.out with d | d
        · have e2 : bits .and .u8 (m : Int) 2 = 0 := by have h := H2.out; rw [d] at h; exact h
          clear d
          go_wp2_with fail
          go_meet
          case rel => exact ⟨gp, g0, g1, 1, 0, none, 0, 0, [], n0, c0, _, AT, rk1, want, rfl, M, B, L, nt1, tz, Lib.hid (fun _ => ⟨rfl, rfl, rfl⟩), n01, n02, f1, f2, rfl, rfl, rfl, rfl⟩
        · have e2 : bits .and .u8 (m : Int) 2 = 2 := by have h := H2.out; rw [d] at h; exact h
          clear d
          have y1 : ∀ q : KStep g wc.drew, q.w.cell? ⟨g, 1, none⟩ = some (.slice (some ⟨gp, 0, none⟩) 2 2) := fun q => (M.box.drew.keep q).cell 1
          have y2 : wc.drew.cell? ⟨gp, 2, none⟩ = some (.slice (some ⟨g0, 0, none⟩) n0 c0) := ((M.parts.drewN 1).cellAt Pt.cs_length (i := 0) (j := 2) rfl rfl).1
          have y3 : (wc.alloc (.cells #[.int .i64 (-1)] 3)).drew.cell? ⟨gp, 2, none⟩ = some (.slice (some ⟨g0, 0, none⟩) n0 c0) := (((M.parts.drewN 1).alloc (.cells #[.int .i64 (-1)] 3)).cellAt Pt.cs_length (i := 0) (j := 2) rfl rfl).1
          have zc := M.box.lt
          have lp := M.parts.lt
          have l0 := M.r0.lt
          have l1 := M.r1.lt
          have ow0 : OwS iv wc w1.heap.size 3 (some ⟨g0, 0, none⟩) n0 c0 (List.replicate n0 (0 : Int)) := M.r0
          go_upto_region 10 with fail
          have hd2 : w1.heap.size ≤ wc.heap.size := B.size
          have zd : g < wc.drew.heap.size := zc
          have ne := M.ne
          have ge := M.ge
          have hr : rowOf (some (⟨g0, 0, none⟩ : Addr)) = some g0 := rfl
          have Mb := M.box
          have Mp := M.parts
          have M1 := M.r1
          clear M
          refine wp_region_tree (.float 0 6 (.two 6 (.one 7 (.one 8 (.float 9 2 (.one 11 .done)))) 7 (.one 6 (.one 8 (.float 9 2 (.one 11 .done)))))) (Th.KReach g) (Th.KReach.trans _) (Th.KReach.refl _) (by kernel_rfl) (by kernel_rfl) (fun KT hKT => ?_)
          refine wpTree_float (fun KF hKF => ?_)
          simp only [List.drop, List.take]
          repeat (first | go_big_quiet_skip | ((with_reducible refine onq_index (.tmp 48) ?_); refine wqm_place rfl _ (.tmp 48) _ rfl el_part rfl rfl 0 (by omega) ?_) | ((with_reducible refine onq_index (.tmp 46) ?_); refine wqm_place rfl _ (.tmp 46) _ rfl el_part rfl rfl 0 (by omega) ?_) | go_big_quiet_step (fail) | quiet_step (fail))
          refine wpQuiet_nil ?_
          refine hKF _ ?_
          clear hKF KF
          refine wpTree_two ?_ ?_
          refine wpTree_one (fun KO hKO => ?_)
          simp only [List.drop, List.take]
          go_wp2_with (first | ((with_reducible refine on_append (.tmp 51) (.tmp 52) ?_); refine wl_appendA rfl (.tmp 51) (.tmp 52) _ rfl el_int (f := iv) (fun _ => rfl) rfl ((ow0.below (bdrew1 wc)).alloc (.cells #[.int .i64 (-1)] 3)) rfl (OwS.lit (base := wc.heap.size) (e := 3) (xs := [(-1 : Int)]) wc.drew #[.int .i64 (-1)] 1 (Nat.le_refl _) (by simp [maxLen]) rfl rfl).rd (by omega) (by omega) (by simp; omega) ?_; intro A8 c8 w8 ow8 hg8 hb8 hA8; have hg8' : World.grownBy _ w8 (some g0) := hg8; have pw8 := ((Mp.below (bdrew1 wc)).alloc (.cells #[.int .i64 (-1)] 3)).grown hg8' (own_ne ne.2.2.2.1); have k2 : w8.cell? ⟨gp, 2, none⟩ = some (.slice (some ⟨g0, 0, none⟩) n0 c0) := (pw8.cellAt Pt.cs_length (i := 0) (j := 2) rfl rfl).1; have fz2 : w8.frozen? ⟨gp, 2, none⟩ = false := (pw8.cellAt Pt.cs_length (i := 0) (j := 2) rfl rfl).2; have pS := pw8.setAt Pt.cs_length (i := 0) (j := 2) (x' := ⟨0, (AT : Int) - 1, A8, n0 + 1, c8, List.replicate n0 0 ++ [-1]⟩) (v := .slice A8 (n0 + 1) c8) rfl (by omega) rfl; have z8 := hb8.size; have kg : w8.heap[g]? = _ := keep_grown hg8' (by simp; omega) (box_ne ne.2.1); have kS : (w8.setCell ⟨gp, 2, none⟩ (.slice A8 (n0 + 1) c8)).heap[g]? = _ := keep_grown pS.2 (by simp at z8; omega) (box_ne ne.1)))
          refine anch_end (Th.KReach.of (by first | exact rfl | assumption | (simp; done) | (exact keep_alloc _ _ (by assumption)))) (hKO _ _ ?_)
          clear hKO KO
          refine wpTree_one (fun KO hKO => ?_)
          simp only [List.drop, List.take]
          go_wp2_with (first | ((with_reducible refine on_append (.tmp 51) (.tmp 52) ?_); refine wl_appendA rfl (.tmp 51) (.tmp 52) _ rfl el_int (f := iv) (fun _ => rfl) rfl ((ow0.below (bdrew1 wc)).alloc (.cells #[.int .i64 (-1)] 3)) rfl (OwS.lit (base := wc.heap.size) (e := 3) (xs := [(-1 : Int)]) wc.drew #[.int .i64 (-1)] 1 (Nat.le_refl _) (by simp [maxLen]) rfl rfl).rd (by omega) (by omega) (by simp; omega) ?_; intro A8 c8 w8 ow8 hg8 hb8 hA8; have hg8' : World.grownBy _ w8 (some g0) := hg8; have pw8 := ((Mp.below (bdrew1 wc)).alloc (.cells #[.int .i64 (-1)] 3)).grown hg8' (own_ne ne.2.2.2.1); have k2 : w8.cell? ⟨gp, 2, none⟩ = some (.slice (some ⟨g0, 0, none⟩) n0 c0) := (pw8.cellAt Pt.cs_length (i := 0) (j := 2) rfl rfl).1; have fz2 : w8.frozen? ⟨gp, 2, none⟩ = false := (pw8.cellAt Pt.cs_length (i := 0) (j := 2) rfl rfl).2; have pS := pw8.setAt Pt.cs_length (i := 0) (j := 2) (x' := ⟨0, (AT : Int) - 1, A8, n0 + 1, c8, List.replicate n0 0 ++ [-1]⟩) (v := .slice A8 (n0 + 1) c8) rfl (by omega) rfl; have z8 := hb8.size; have kg : w8.heap[g]? = _ := keep_grown hg8' (by simp; omega) (box_ne ne.2.1); have kS : (w8.setCell ⟨gp, 2, none⟩ (.slice A8 (n0 + 1) c8)).heap[g]? = _ := keep_grown pS.2 (by simp at z8; omega) (box_ne ne.1)))
          refine anch_end (Th.KReach.of (by first | exact rfl | assumption | (simp; done) | (exact keep_alloc _ _ (by assumption)))) (hKO _ _ ?_)
          clear hKO KO
          refine wpTree_one (fun KO hKO => ?_)
          simp only [List.drop, List.take]
          go_wp2_with (first | ((with_reducible refine on_append (.tmp 51) (.tmp 52) ?_); refine wl_appendA rfl (.tmp 51) (.tmp 52) _ rfl el_int (f := iv) (fun _ => rfl) rfl ((ow0.below (bdrew1 wc)).alloc (.cells #[.int .i64 (-1)] 3)) rfl (OwS.lit (base := wc.heap.size) (e := 3) (xs := [(-1 : Int)]) wc.drew #[.int .i64 (-1)] 1 (Nat.le_refl _) (by simp [maxLen]) rfl rfl).rd (by omega) (by omega) (by simp; omega) ?_; intro A8 c8 w8 ow8 hg8 hb8 hA8; have hg8' : World.grownBy _ w8 (some g0) := hg8; have pw8 := ((Mp.below (bdrew1 wc)).alloc (.cells #[.int .i64 (-1)] 3)).grown hg8' (own_ne ne.2.2.2.1); have k2 : w8.cell? ⟨gp, 2, none⟩ = some (.slice (some ⟨g0, 0, none⟩) n0 c0) := (pw8.cellAt Pt.cs_length (i := 0) (j := 2) rfl rfl).1; have fz2 : w8.frozen? ⟨gp, 2, none⟩ = false := (pw8.cellAt Pt.cs_length (i := 0) (j := 2) rfl rfl).2; have pS := pw8.setAt Pt.cs_length (i := 0) (j := 2) (x' := ⟨0, (AT : Int) - 1, A8, n0 + 1, c8, List.replicate n0 0 ++ [-1]⟩) (v := .slice A8 (n0 + 1) c8) rfl (by omega) rfl; have z8 := hb8.size; have kg : w8.heap[g]? = _ := keep_grown hg8' (by simp; omega) (box_ne ne.2.1); have kS : (w8.setCell ⟨gp, 2, none⟩ (.slice A8 (n0 + 1) c8)).heap[g]? = _ := keep_grown pS.2 (by simp at z8; omega) (box_ne ne.1)))
          refine anch_end (Th.KReach.of (by first | exact rfl | assumption | (simp; done) | (exact keep_alloc _ _ (by assumption)))) (hKO _ _ ?_)
          clear hKO KO
          refine wpTree_float (fun KF hKF => ?_)
          simp only [List.drop, List.take]
          repeat (first | go_big_quiet_skip | ((with_reducible refine onq_index (.tmp 48) ?_); refine wqm_place rfl _ (.tmp 48) _ rfl el_part rfl rfl 0 (by omega) ?_) | ((with_reducible refine onq_index (.tmp 46) ?_); refine wqm_place rfl _ (.tmp 46) _ rfl el_part rfl rfl 0 (by omega) ?_) | go_big_quiet_step (fail) | quiet_step (fail))
          refine wpQuiet_nil ?_
          refine hKF _ ?_
          clear hKF KF
          refine wpTree_one (fun KO hKO => ?_)
          simp only [List.drop, List.take]
          go_wp2_with (first | ((with_reducible refine on_append (.tmp 51) (.tmp 52) ?_); refine wl_appendA rfl (.tmp 51) (.tmp 52) _ rfl el_int (f := iv) (fun _ => rfl) rfl ((ow0.below (bdrew1 wc)).alloc (.cells #[.int .i64 (-1)] 3)) rfl (OwS.lit (base := wc.heap.size) (e := 3) (xs := [(-1 : Int)]) wc.drew #[.int .i64 (-1)] 1 (Nat.le_refl _) (by simp [maxLen]) rfl rfl).rd (by omega) (by omega) (by simp; omega) ?_; intro A8 c8 w8 ow8 hg8 hb8 hA8; have hg8' : World.grownBy _ w8 (some g0) := hg8; have pw8 := ((Mp.below (bdrew1 wc)).alloc (.cells #[.int .i64 (-1)] 3)).grown hg8' (own_ne ne.2.2.2.1); have k2 : w8.cell? ⟨gp, 2, none⟩ = some (.slice (some ⟨g0, 0, none⟩) n0 c0) := (pw8.cellAt Pt.cs_length (i := 0) (j := 2) rfl rfl).1; have fz2 : w8.frozen? ⟨gp, 2, none⟩ = false := (pw8.cellAt Pt.cs_length (i := 0) (j := 2) rfl rfl).2; have pS := pw8.setAt Pt.cs_length (i := 0) (j := 2) (x' := ⟨0, (AT : Int) - 1, A8, n0 + 1, c8, List.replicate n0 0 ++ [-1]⟩) (v := .slice A8 (n0 + 1) c8) rfl (by omega) rfl; have z8 := hb8.size; have kg : w8.heap[g]? = _ := keep_grown hg8' (by simp; omega) (box_ne ne.2.1); have kS : (w8.setCell ⟨gp, 2, none⟩ (.slice A8 (n0 + 1) c8)).heap[g]? = _ := keep_grown pS.2 (by simp at z8; omega) (box_ne ne.1)))
          refine anch_end (Th.KReach.of (by first | exact rfl | assumption | (simp; done) | (exact keep_alloc _ _ (by assumption)))) (hKO _ _ ?_)
          clear hKO KO
          refine wpTree_done ?_
          refine hKT _ _ ?_
          clear hKT KT
          rotate_left 1
          refine wpTree_one (fun KO hKO => ?_)
          simp only [List.drop, List.take]
          go_wp2_with (first | ((with_reducible refine on_append (.tmp 51) (.tmp 52) ?_); refine wl_appendA rfl (.tmp 51) (.tmp 52) _ rfl el_int (f := iv) (fun _ => rfl) rfl ((ow0.below (bdrew1 wc)).alloc (.cells #[.int .i64 (-1)] 3)) rfl (OwS.lit (base := wc.heap.size) (e := 3) (xs := [(-1 : Int)]) wc.drew #[.int .i64 (-1)] 1 (Nat.le_refl _) (by simp [maxLen]) rfl rfl).rd (by omega) (by omega) (by simp; omega) ?_; intro A8 c8 w8 ow8 hg8 hb8 hA8; have hg8' : World.grownBy _ w8 (some g0) := hg8; have pw8 := ((Mp.below (bdrew1 wc)).alloc (.cells #[.int .i64 (-1)] 3)).grown hg8' (own_ne ne.2.2.2.1); have k2 : w8.cell? ⟨gp, 2, none⟩ = some (.slice (some ⟨g0, 0, none⟩) n0 c0) := (pw8.cellAt Pt.cs_length (i := 0) (j := 2) rfl rfl).1; have fz2 : w8.frozen? ⟨gp, 2, none⟩ = false := (pw8.cellAt Pt.cs_length (i := 0) (j := 2) rfl rfl).2; have pS := pw8.setAt Pt.cs_length (i := 0) (j := 2) (x' := ⟨0, (AT : Int) - 1, A8, n0 + 1, c8, List.replicate n0 0 ++ [-1]⟩) (v := .slice A8 (n0 + 1) c8) rfl (by omega) rfl; have z8 := hb8.size; have kg : w8.heap[g]? = _ := keep_grown hg8' (by simp; omega) (box_ne ne.2.1); have kS : (w8.setCell ⟨gp, 2, none⟩ (.slice A8 (n0 + 1) c8)).heap[g]? = _ := keep_grown pS.2 (by simp at z8; omega) (box_ne ne.1)))
          refine anch_end (Th.KReach.of (by first | exact rfl | assumption | (simp; done) | (exact keep_alloc _ _ (by assumption)))) (hKO _ _ ?_)
          clear hKO KO
          refine wpTree_one (fun KO hKO => ?_)
          simp only [List.drop, List.take]
          go_wp2_with (first | ((with_reducible refine on_append (.tmp 51) (.tmp 52) ?_); refine wl_appendA rfl (.tmp 51) (.tmp 52) _ rfl el_int (f := iv) (fun _ => rfl) rfl ((ow0.below (bdrew1 wc)).alloc (.cells #[.int .i64 (-1)] 3)) rfl (OwS.lit (base := wc.heap.size) (e := 3) (xs := [(-1 : Int)]) wc.drew #[.int .i64 (-1)] 1 (Nat.le_refl _) (by simp [maxLen]) rfl rfl).rd (by omega) (by omega) (by simp; omega) ?_; intro A8 c8 w8 ow8 hg8 hb8 hA8; have hg8' : World.grownBy _ w8 (some g0) := hg8; have pw8 := ((Mp.below (bdrew1 wc)).alloc (.cells #[.int .i64 (-1)] 3)).grown hg8' (own_ne ne.2.2.2.1); have k2 : w8.cell? ⟨gp, 2, none⟩ = some (.slice (some ⟨g0, 0, none⟩) n0 c0) := (pw8.cellAt Pt.cs_length (i := 0) (j := 2) rfl rfl).1; have fz2 : w8.frozen? ⟨gp, 2, none⟩ = false := (pw8.cellAt Pt.cs_length (i := 0) (j := 2) rfl rfl).2; have pS := pw8.setAt Pt.cs_length (i := 0) (j := 2) (x' := ⟨0, (AT : Int) - 1, A8, n0 + 1, c8, List.replicate n0 0 ++ [-1]⟩) (v := .slice A8 (n0 + 1) c8) rfl (by omega) rfl; have z8 := hb8.size; have kg : w8.heap[g]? = _ := keep_grown hg8' (by simp; omega) (box_ne ne.2.1); have kS : (w8.setCell ⟨gp, 2, none⟩ (.slice A8 (n0 + 1) c8)).heap[g]? = _ := keep_grown pS.2 (by simp at z8; omega) (box_ne ne.1)))
          refine anch_end (Th.KReach.of (by first | exact rfl | assumption | (simp; done) | (exact keep_alloc _ _ (by assumption)))) (hKO _ _ ?_)
          clear hKO KO
          refine wpTree_one (fun KO hKO => ?_)
          simp only [List.drop, List.take]
          go_wp2_with (first | ((with_reducible refine on_append (.tmp 51) (.tmp 52) ?_); refine wl_appendA rfl (.tmp 51) (.tmp 52) _ rfl el_int (f := iv) (fun _ => rfl) rfl ((ow0.below (bdrew1 wc)).alloc (.cells #[.int .i64 (-1)] 3)) rfl (OwS.lit (base := wc.heap.size) (e := 3) (xs := [(-1 : Int)]) wc.drew #[.int .i64 (-1)] 1 (Nat.le_refl _) (by simp [maxLen]) rfl rfl).rd (by omega) (by omega) (by simp; omega) ?_; intro A8 c8 w8 ow8 hg8 hb8 hA8; have hg8' : World.grownBy _ w8 (some g0) := hg8; have pw8 := ((Mp.below (bdrew1 wc)).alloc (.cells #[.int .i64 (-1)] 3)).grown hg8' (own_ne ne.2.2.2.1); have k2 : w8.cell? ⟨gp, 2, none⟩ = some (.slice (some ⟨g0, 0, none⟩) n0 c0) := (pw8.cellAt Pt.cs_length (i := 0) (j := 2) rfl rfl).1; have fz2 : w8.frozen? ⟨gp, 2, none⟩ = false := (pw8.cellAt Pt.cs_length (i := 0) (j := 2) rfl rfl).2; have pS := pw8.setAt Pt.cs_length (i := 0) (j := 2) (x' := ⟨0, (AT : Int) - 1, A8, n0 + 1, c8, List.replicate n0 0 ++ [-1]⟩) (v := .slice A8 (n0 + 1) c8) rfl (by omega) rfl; have z8 := hb8.size; have kg : w8.heap[g]? = _ := keep_grown hg8' (by simp; omega) (box_ne ne.2.1); have kS : (w8.setCell ⟨gp, 2, none⟩ (.slice A8 (n0 + 1) c8)).heap[g]? = _ := keep_grown pS.2 (by simp at z8; omega) (box_ne ne.1)))
          refine anch_end (Th.KReach.of (by first | exact rfl | assumption | (simp; done) | (exact keep_alloc _ _ (by assumption)))) (hKO _ _ ?_)
          clear hKO KO
          refine wpTree_float (fun KF hKF => ?_)
          simp only [List.drop, List.take]
          repeat (first | go_big_quiet_skip | ((with_reducible refine onq_index (.tmp 48) ?_); refine wqm_place rfl _ (.tmp 48) _ rfl el_part rfl rfl 0 (by omega) ?_) | ((with_reducible refine onq_index (.tmp 46) ?_); refine wqm_place rfl _ (.tmp 46) _ rfl el_part rfl rfl 0 (by omega) ?_) | go_big_quiet_step (fail) | quiet_step (fail))
          refine wpQuiet_nil ?_
          refine hKF _ ?_
          clear hKF KF
          refine wpTree_one (fun KO hKO => ?_)
          simp only [List.drop, List.take]
          go_wp2_with (first | ((with_reducible refine on_append (.tmp 51) (.tmp 52) ?_); refine wl_appendA rfl (.tmp 51) (.tmp 52) _ rfl el_int (f := iv) (fun _ => rfl) rfl ((ow0.below (bdrew1 wc)).alloc (.cells #[.int .i64 (-1)] 3)) rfl (OwS.lit (base := wc.heap.size) (e := 3) (xs := [(-1 : Int)]) wc.drew #[.int .i64 (-1)] 1 (Nat.le_refl _) (by simp [maxLen]) rfl rfl).rd (by omega) (by omega) (by simp; omega) ?_; intro A8 c8 w8 ow8 hg8 hb8 hA8; have hg8' : World.grownBy _ w8 (some g0) := hg8; have pw8 := ((Mp.below (bdrew1 wc)).alloc (.cells #[.int .i64 (-1)] 3)).grown hg8' (own_ne ne.2.2.2.1); have k2 : w8.cell? ⟨gp, 2, none⟩ = some (.slice (some ⟨g0, 0, none⟩) n0 c0) := (pw8.cellAt Pt.cs_length (i := 0) (j := 2) rfl rfl).1; have fz2 : w8.frozen? ⟨gp, 2, none⟩ = false := (pw8.cellAt Pt.cs_length (i := 0) (j := 2) rfl rfl).2; have pS := pw8.setAt Pt.cs_length (i := 0) (j := 2) (x' := ⟨0, (AT : Int) - 1, A8, n0 + 1, c8, List.replicate n0 0 ++ [-1]⟩) (v := .slice A8 (n0 + 1) c8) rfl (by omega) rfl; have z8 := hb8.size; have kg : w8.heap[g]? = _ := keep_grown hg8' (by simp; omega) (box_ne ne.2.1); have kS : (w8.setCell ⟨gp, 2, none⟩ (.slice A8 (n0 + 1) c8)).heap[g]? = _ := keep_grown pS.2 (by simp at z8; omega) (box_ne ne.1)))
          refine anch_end (Th.KReach.of (by first | exact rfl | assumption | (simp; done) | (exact keep_alloc _ _ (by assumption)))) (hKO _ _ ?_)
          clear hKO KO
          refine wpTree_done ?_
          refine hKT _ _ ?_
          clear hKT KT
          rotate_right 1
          all_goals
            go_wp2
            go_meet
            case rel =>
              have hgg : ∃ g0', A8 = some ⟨g0', 0, none⟩ ∧ (g ≠ g0' ∧ gp ≠ g0' ∧ g0' ≠ g1) := by
                rcases hA8 with e | e
                · exact ⟨_, e, ne.2.1, ne.2.2.2.1, ne.2.2.2.2.2⟩
                · exact ⟨_, e, by simp; omega, by simp; omega, by simp; omega⟩
              obtain ⟨g0', rfl, hn1, hn2, hn3⟩ := hgg
              have Mb8 := ((Mb.drew.alloc (.cells #[.int .i64 (-1)] 3)).grown hg8' (box_ne ne.2.1)).grown pS.2 (box_ne ne.1)
              have r08 := ow8.grown pS.2 (own_ne (fun e => hn2 e.symm))
              have M18 := (((M1.below (bdrew1 wc)).alloc (.cells #[.int .i64 (-1)] 3)).grown hg8' (own_ne (fun e => ne.2.2.2.2.2 e.symm))).grown pS.2 (own_ne (fun e => ne.2.2.2.2.1 e.symm))
              have Bf := B.trans (((bdrew _ _ : Below w1.heap.size wc wc.drew).trans (below_alloc wc.drew (Nat.le_trans hd2 (Nat.le_refl _)) (.cells #[.int .i64 (-1)] 3))).trans (hb8.trans (below_of_grown (B := w1.heap.size) pS.2 (fun j e => by injection e with e; omega) (by simp at z8; omega))))
              exact ⟨gp, g0', g1, 1, 0, none, 0, 0, [], n0 + 1, c8, _, AT, rk1, 1, rfl, ⟨Mb8, parts_rk pS.1 _ _, r08, M18, rfl, rfl, OwS.nil_ _ _ _, (fun g' h => by cases h), by omega, ge⟩, Bf, Lib.hid (.inr (.inr (.inl ⟨rfl, rfl, rfl, rfl, rfl, rfl⟩))), by omega, Lib.hid (by simp), Lib.hid (fun _ => ⟨rfl, rfl, rfl⟩), by omega, by omega, f1, f2, rfl, rfl, rfl, rfl⟩
      case rest =>
      clear M B
      obtain ⟨gp, g0, g1, v, d, At, nt, ct, tr, N0, c0, rk0, fr1, rk1, want, rfl, M, B, L, nt1, tz, tn, n01, n02, f1, f2, q1, q2, q3, q4⟩ := hcut
      subst q1 q2 q3 q4
      obtain ⟨rfl, rfl, rfl⟩ := tn.out rfl
      clear tn
      go_upto_if 58 with fail
      go_cut [11] (fun s11 wx => FRel (fun v d nt fr1 n0 rk0 => v = 1 ∧ d = 0 ∧ nt = 0) n0 AT w1.heap.size g w1 s11 wx)
      case first =>
        rcases D4.out with d | d
        · have e4 : bits .and .u8 (m : Int) 4 = 0 := by have h := H4.out; rw [d] at h; exact h
          clear d
          go_wp2_with fail
          go_meet
          case rel => exact ⟨gp, g0, g1, 1, 0, none, 0, 0, [], N0, c0, rk0, AT, rk1, want, rfl, M, B, L, nt1, tz, Lib.hid (fun _ => ⟨rfl, rfl, rfl⟩), n01, n02, f1, f2, rfl, rfl, rfl⟩
        · have e4 : bits .and .u8 (m : Int) 4 = 4 := by have h := H4.out; rw [d] at h; exact h
          clear d
          have ne := M.ne
          have ge := M.ge
          have lp := M.parts.lt
          have c1 : wc.cell? ⟨g, 1, none⟩ = some (.slice (some ⟨gp, 0, none⟩) 2 2) := M.box.cell 1
          have k3 : wc.cell? ⟨gp, 3, none⟩ = some (.int .u32 (AT : Int)) := (M.parts.cellAt Pt.cs_length (i := 1) (j := 0) rfl rfl).1
          have fz3 : wc.frozen? ⟨gp, 3, none⟩ = false := (M.parts.cellAt Pt.cs_length (i := 1) (j := 0) (v := .int .u32 (AT : Int)) rfl rfl).2
          have pS := M.parts.setAt Pt.cs_length (i := 1) (j := 0) (x' := ⟨(AT : Int) - 1, 4294967295, some ⟨g1, 0, none⟩, n0, n0, rk1⟩) (v := .int .u32 ((AT : Int) - 1)) rfl (by omega) rfl
          have M2 := FMem.mk (M.box.grown pS.2 (box_ne ne.1)) pS.1 (M.r0.grown pS.2 (own_ne (fun e => ne.2.2.2.1 e.symm))) (M.r1.grown pS.2 (own_ne (fun e => ne.2.2.2.2.1 e.symm))) rfl rfl (OwS.nil_ _ _ _) (fun g' h => by cases h) ne ge
          have Bf := B.trans (below_of_grown (B := w1.heap.size) pS.2 (fun j e => by injection e with e; omega) B.size)
          clear pS
          go_wp2_with ((with_reducible refine on_index (.tmp 60) ?_); refine wm_place rfl _ (.tmp 60) _ rfl el_part rfl rfl 1 (by omega) ?_)
          go_meet
          case rel => exact ⟨gp, g0, g1, 1, 0, none, 0, 0, [], N0, c0, rk0, (AT : Int) - 1, rk1, 15, rfl, M2, Bf, Lib.hid (.inr (.inr (.inr (.inl ⟨rfl, rfl, rfl, rfl, rfl⟩)))), nt1, tz, Lib.hid (fun _ => ⟨rfl, rfl, rfl⟩), n01, n02, by omega, by omega, rfl, rfl, rfl⟩
      case rest =>
      clear M B
      obtain ⟨gp, g0, g1, v, d, At, nt, ct, tr, N0, c0, rk0, fr1, rk1, want, rfl, M, B, L, nt1, tz, tn, n01, n02, f1, f2, q1, q2, q3⟩ := hcut
      subst q1 q2 q3
      obtain ⟨rfl, rfl, rfl⟩ := tn.out rfl
      clear tn
      go_upto_if 67 with fail
      go_cut [11] (fun s11 wx => FRel (fun v d nt fr1 n0 rk0 => v = 1 ∧ d = 0) n0 AT w1.heap.size g w1 s11 wx)
      case first =>
        rcases D8.out with d | d
        · have e8 : bits .and .u8 (m : Int) 8 = 0 := by have h := H8.out; rw [d] at h; exact h
          clear d
          go_wp2_with fail
          go_meet
          case rel => exact ⟨gp, g0, g1, 1, 0, none, 0, 0, [], N0, c0, rk0, fr1, rk1, want, rfl, M, B, L, nt1, tz, Lib.hid (fun _ => ⟨rfl, rfl, rfl⟩), n01, n02, f1, f2, rfl, rfl⟩
        · have e8 : bits .and .u8 (m : Int) 8 = 8 := by have h := H8.out; rw [d] at h; exact h
          clear d
          have ne := M.ne
          have ge := M.ge
          have zc := M.box.lt
          have zB := B.size
          have k3 : (wc.alloc (.cells #[.int .i64 0] 3)).cell? ⟨g, 3, none⟩ = some (.slice none 0 0) := (M.box.alloc (.cells #[.int .i64 0] 3)).cell 3
          have fz3 : (wc.alloc (.cells #[.int .i64 0] 3)).frozen? ⟨g, 3, none⟩ = false := (M.box.alloc (.cells #[.int .i64 0] 3)).frozen 3
          have bS := M.box.setCell 3 (.slice (some ⟨wc.heap.size, 0, none⟩) 1 1)
          have hsz : wc.heap.size = (wc.setCell ⟨g, 3, none⟩ (.slice (some ⟨wc.heap.size, 0, none⟩) 1 1)).heap.size := by simp
          have trn := OwS.lit' (f := iv) (base := w1.heap.size) (e := 3) (xs := [(0 : Int)]) (wc.setCell ⟨g, 3, none⟩ (.slice (some ⟨wc.heap.size, 0, none⟩) 1 1)) #[.int .i64 0] 1 wc.heap.size hsz (by rw [← hsz]; exact zB) (by simp [maxLen]) rfl rfl
          have M2 := FMem.mk (bS.1.alloc (.cells #[.int .i64 0] 3)) ((M.parts.grown bS.2 (own_ne (fun e => ne.1 e.symm))).alloc (.cells #[.int .i64 0] 3)) ((M.r0.grown bS.2 (own_ne (fun e => ne.2.1 e.symm))).alloc (.cells #[.int .i64 0] 3)) ((M.r1.grown bS.2 (own_ne (fun e => ne.2.2.1 e.symm))).alloc (.cells #[.int .i64 0] 3)) rfl rfl trn (fun g' h => by injection h with h; injection h with h; omega) ne ge
          have Bf : Below w1.heap.size w1 ((wc.setCell ⟨g, 3, none⟩ (.slice (some ⟨wc.heap.size, 0, none⟩) 1 1)).alloc (.cells #[.int .i64 0] 3)) := (B.trans (below_of_grown (B := w1.heap.size) bS.2 (fun j e => by injection e with e; omega) zB)).trans (below_alloc _ (by rw [← hsz]; exact zB) _)
          clear bS hsz trn
          go_wp2_with fail
          go_meet
          case rel => exact ⟨gp, g0, g1, 1, 0, _, 1, 1, [0], N0, c0, rk0, fr1, rk1, 3, rfl, M2, Bf, Lib.hid (.inr (.inr (.inr (.inr (.inl ⟨rfl, .inr (by omega), rfl⟩))))), by omega, Lib.hid (by simp), Lib.hid (fun h => absurd h (by omega)), n01, n02, f1, f2, rfl, rfl⟩
      case rest =>
      clear M B
      obtain ⟨gp, g0, g1, v, d, At, nt, ct, tr, N0, c0, rk0, fr1, rk1, want, rfl, M, B, L, nt1, tz, tn5, n01, n02, f1, f2, q1, q2⟩ := hcut
      subst q1 q2
      go_upto_if 72 with fail
      go_cut [11] (fun s11 wx => FRel (fun v d nt fr1 n0 rk0 => v = 1) n0 AT w1.heap.size g w1 s11 wx)
      case first =>
        rcases D16.out with d | d
        · have e16 : bits .and .u8 (m : Int) 16 = 0 := by have h := H16.out; rw [d] at h; exact h
          clear d
          go_wp2_with fail
          go_meet
          case rel => exact ⟨gp, g0, g1, 1, 0, At, nt, ct, tr, N0, c0, rk0, fr1, rk1, want, rfl, M, B, L, nt1, tz, tn5, n01, n02, f1, f2, rfl⟩
        · have e16 : bits .and .u8 (m : Int) 16 = 16 := by have h := H16.out; rw [d] at h; exact h
          clear d
          have ne := M.ne
          have ge := M.ge
          have zc := M.box.lt
          have zB := B.size
          have k3 : wc.cell? ⟨g, 2, none⟩ = some (.int .u32 0) := M.box.cell 2
          have fz3 := M.box.frozen 2
          have bS := M.box.setCell 2 (.int .u32 (AT : Int))
          have M2 := FMem.mk bS.1 (M.parts.grown bS.2 (own_ne (fun e => ne.1 e.symm))) (M.r0.grown bS.2 (own_ne (fun e => ne.2.1 e.symm))) (M.r1.grown bS.2 (own_ne (fun e => ne.2.2.1 e.symm))) rfl rfl (M.tr.grown bS.2 (fun g' h e => by injection e with e; exact M.trn g' h e.symm)) M.trn ne ge
          have Bf := B.trans (below_of_grown (B := w1.heap.size) bS.2 (fun j e => by injection e with e; omega) zB)
          clear bS
          go_wp2_with fail
          go_meet
          case rel => exact ⟨gp, g0, g1, 1, AT, At, nt, ct, tr, N0, c0, rk0, fr1, rk1, 3, rfl, M2, Bf, Lib.hid (.inr (.inr (.inr (.inr (.inl ⟨rfl, .inl (by omega), rfl⟩))))), nt1, tz, tn5, n01, n02, f1, f2, rfl⟩
      case rest =>
      clear M B
      obtain ⟨gp, g0, g1, v, d, At, nt, ct, tr, N0, c0, rk0, fr1, rk1, want, rfl, M, B, L, nt1, tz, tn6, n01, n02, f1, f2, q1⟩ := hcut
      subst q1
      go_upto_if 77 with fail
      go_cut [11] (fun s11 wx => FRel (fun v d nt fr1 n0 rk0 => True) n0 AT w1.heap.size g w1 s11 wx)
      case first =>
        rcases D32.out with dd | dd
        · have e32 : bits .and .u8 (m : Int) 32 = 0 := by have h := H32.out; rw [dd] at h; exact h
          clear dd
          go_wp2_with fail
          go_meet
          case rel => exact ⟨gp, g0, g1, 1, d, At, nt, ct, tr, N0, c0, rk0, fr1, rk1, want, rfl, M, B, L, nt1, tz, tn6, n01, n02, f1, f2, trivial⟩
        · have e32 : bits .and .u8 (m : Int) 32 = 32 := by have h := H32.out; rw [dd] at h; exact h
          clear dd
          have ne := M.ne
          have ge := M.ge
          have zc := M.box.lt
          have zB := B.size
          have k3 : wc.cell? ⟨g, 0, none⟩ = some (.int .i64 1) := M.box.cell 0
          have fz3 := M.box.frozen 0
          have bS := M.box.setCell 0 (.int .i64 (-1 - (aa : Int)))
          have M2 := FMem.mk bS.1 (M.parts.grown bS.2 (own_ne (fun e => ne.1 e.symm))) (M.r0.grown bS.2 (own_ne (fun e => ne.2.1 e.symm))) (M.r1.grown bS.2 (own_ne (fun e => ne.2.2.1 e.symm))) rfl rfl (M.tr.grown bS.2 (fun g' h e => by injection e with e; exact M.trn g' h e.symm)) M.trn ne ge
          have Bf := B.trans (below_of_grown (B := w1.heap.size) bS.2 (fun j e => by injection e with e; omega) zB)
          clear bS
          go_wp2_with fail
          go_meet
          case rel => exact ⟨gp, g0, g1, -1 - (aa : Int), d, At, nt, ct, tr, N0, c0, rk0, fr1, rk1, 9, rfl, M2, Bf, Lib.hid (.inr (.inr (.inr (.inr (.inr ⟨by omega, rfl⟩))))), nt1, tz, tn6, n01, n02, f1, f2, trivial⟩
      case rest =>
      clear M B
      obtain ⟨gp, g0, g1, v, d, At, nt, ct, tr, N0, c0, rk0, fr1, rk1, want, rfl, M, B, L, nt1, tz, tn, n01, n02, f1, f2, _⟩ := hcut
      have hcall := cmay_is v (some ⟨gp, 0, none⟩) 2 2 d At nt ct n0 wc (by omega) (by omega) _ tr wc.heap.size (Nat.le_refl _) ⟨M.parts.rd, pt_mem2 M.r0.rd M.r1.rd, pt_mem2 ⟨⟨by show (0 : Int) ≤ 0; omega, by show (0 : Int) ≤ 4294967295; omega⟩, ⟨by show (0 : Int) ≤ (AT : Int) - 1; omega, by show (AT : Int) - 1 ≤ 4294967295; omega⟩⟩ ⟨⟨f1, f2⟩, ⟨by show (0 : Int) ≤ 4294967295; omega, by show (4294967295 : Int) ≤ 4294967295; omega⟩⟩⟩ M.tr.rd (fun x hx => by rw [tz.out x hx]; omega) (pt_mem2 (by show N0 ≤ 9223372036854775807; omega) (by show n0 ≤ 9223372036854775807; omega)) want (L.out.ok hN3 hog hol _ _ c0 tr M.tr.len M.r0.len M.r1.len)
      have Hc := Lib.hid hcall
      have bx := M.box
      have Bw : Below w.heap.size w wc := hb1.trans (B.mono zz)
      have zw := Bw.size
      clear hcall M L tz tn B HN2
      go_wp2_with ((with_reducible refine on_load (.tmp 10) ?_); refine wcv_box rfl (.tmp 10) rfl rfl bx ?_)
      refine Hc.out.mono ?_
      rintro e w9 ⟨rfl, hb9⟩
      go_wp2
      go_ret
      exact ⟨rfl, Bw.trans (hb9.mono zw)⟩
theorem certFirst_walk (nb : Int) {w : World} (hnb : 0 ≤ nb ∧ nb ≤ 255) (bt : Int) (hbt : 0 ≤ bt ∧ bt ≤ 255) (a : Int) (ha : 0 ≤ a ∧ a ≤ 4294967295) :
    Calls Try.prog 3 #[.int .u8 nb, .int .u8 bt, .int .u32 a] w fun e w' => e = .returned (.bool true) ∧ Below w.heap.size w w' := by
  obtain ⟨m0, rfl⟩ := Int.eq_ofNat_of_zero_le hnb.1
  obtain ⟨m, rfl⟩ := Int.eq_ofNat_of_zero_le hbt.1
  obtain ⟨aa, rfl⟩ := Int.eq_ofNat_of_zero_le ha.1
  exact certFirst_core m0 (by omega) m (by omega) aa (by omega)
end Go.Proofs.Yteellpcagdnikaa
