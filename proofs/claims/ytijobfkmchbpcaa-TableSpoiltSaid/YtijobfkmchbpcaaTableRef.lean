/-
  The walks of layer 8's reference.
-/
import Derived.Test.YtijobfkmchbpcaaTable
namespace Go.Proofs.Ytijobfkmchbpcaa
open Go.RowKit Go.Th
set_option linter.unusedVariables false
/-- The outer loop: k rules were put. -/
def FitRel (l : List Ru) (nodes : Int) (n : Nat) (w : World) (out i : Value) (wr : World) : Prop :=
  ∃ (k m c : Nat) (A : Option Addr), k ≤ min n 20 ∧ out = .slice A m c ∧ i = .int .i64 k ∧ m ≤ k ∧ OwM Ru.cs 4 wr w.heap.size 25 A m c (fitTo l nodes k) ∧ Below w.heap.size w wr
/-- The inner loop: j rules are below. -/
def PlaceRel (out : List Ru) (s : Ru) (m c g base : Nat) (A : Option Addr) (w1 : World) (at_ : Value) (wr : World) : Prop :=
  ∃ j : Nat, j ≤ m ∧ at_ = .int .i64 j ∧ Hid (∀ i t, i < j → out[i]? = some t → below s t = true) ∧ Box wr g 25 s.cs.toArray ∧ OwM Ru.cs 4 wr base 25 A m c out ∧ Below base w1 wr
set_option maxHeartbeats 2000000 in
set_option maxRecDepth 100000 in
theorem fit_any (A : Option Addr) (n c : Nat) (l : List Ru) (nodes : Int) (w : World) (hm : n ≤ 9223372036854775807) (B : Nat) (hr : RdM Ru.cs w B A n c l) (hok : ∀ r ∈ l, r.Ok) (hn : 1 ≤ nodes ∧ nodes ≤ 4611686018427387904) :
    Calls Try.prog 16 #[.slice A n c, .int .i64 nodes] w fun e w' => ∃ A' m c', e = .returned (.slice A' m c') ∧ m ≤ 20 ∧ OwM Ru.cs 4 w' w.heap.size 25 A' m c' (fitT l nodes) ∧ Below w.heap.size w w' := by
  have Hok := Lib.hid hok
  have Hn := Lib.hid hn
  clear hok hn
  go_enter Try.func16, Try.ntmps16
  go_wp2
  go_loopw [5, 6] (fun out i wr => FitRel l nodes n w out i wr) (fun _ i _ => 20 - (intOf i).toNat)
  case atStart => exact ⟨0, 0, 0, _, by omega, rfl, rfl, by omega, OwM.lit Ru.cs_length w #[] 0 (Nat.le_refl _) (by simp [maxLen]) rfl rfl, (by repeat (first | exact Below.refl _ _ | refine Below.drew ?_ | refine Below.alloc ?_ (by first | (simp; done) | (simp; omega)) _ | refine Below.setCell ?_ (by first | (simp; done) | (simp; omega)) _ | assumption))⟩
  case round =>
    obtain ⟨k, m, c1, A1, hk, rfl, rfl, hmk, how, hb⟩ := hrel
    have hrk : RdM Ru.cs wr B A n c l := hr.step hb
    have hlen := hrk.len
    by_cases hlt : k < min n 20
    · obtain ⟨r, hrk0⟩ : ∃ r, l[k]? = some r := ⟨l[k]'(by omega), List.getElem?_eq_getElem _⟩
      have hro := Hok.out r (List.mem_of_getElem? hrk0)
      have hsn := fitTo_snoc nodes hrk0 (by omega)
      obtain ⟨s, hs⟩ : ∃ s, r.fit nodes = s := ⟨_, rfl⟩
      have hfit : ∀ W, Calls Try.prog 17 #[r.v, .int .i64 nodes] W (RetB (.agg #[.int .u32 s.a, .int .i64 s.n, .int .i64 s.act, .int .i64 s.next]) W) := fun W => by
        have := rfit_any r nodes W hro Hn.out
        rw [hs] at this
        exact this
      rw [hs] at hsn
      obtain ⟨out, ho⟩ : ∃ out, fitTo l nodes k = out := ⟨_, rfl⟩
      rw [ho] at how hsn
      have Hfit := Lib.hid hfit
      have Hsn := Lib.hid hsn
      have Hrk := Lib.hid hrk0
      have hk20 : k < 20 := by omega
      have hkn : k < n := by omega
      clear hsn hrk0 hro hfit hs ho
      have hbs := hb.size
      go_wp2_with (first
        | ((with_reducible refine on_index (.tmp 21) ?_); refine wm_at Ru.cs_length rfl _ _ _ rfl el_rule rfl rfl (by omega) (by omega) hrk ?_; intro b1 j1 r1 hr1 hb1 hc1; have hxx : r = r1 := (by have e := hr1.out; rw [Int.toNat_natCast, Hrk.out] at e; injection e); subst hxx)
        | ((with_reducible refine on_load (.tmp 23) ?_); refine wr_load rfl _ _ rfl st_rule rfl hc1 ?_)
        | (go_at_call 17; refine (Hfit.out _).mono ?_; rintro e w1 ⟨rfl, hb1⟩))
      have hbox : Box (w1.alloc (.cells s.cs.toArray 25)) w1.heap.size 25 s.cs.toArray := Box.new w1 _ _
      have how1 := (how.below hb1).alloc (.cells s.cs.toArray 25)
      have hb2 : Below w.heap.size w (w1.alloc (.cells s.cs.toArray 25)) := (hb.trans (hb1.mono hbs)).alloc (Nat.le_trans hbs hb1.size) _
      have hw1 : w.heap.size ≤ w1.heap.size := Nat.le_trans hbs hb1.size
      go_loopw [8] (fun at_ wq => PlaceRel out s m c1 w1.heap.size w.heap.size A1 w at_ wq) (fun at_ _ => m - (intOf at_).toNat)
      case atStart => exact ⟨0, by omega, rfl, (fun i t hi => absurd hi (by omega)), hbox, how1, hb2⟩
      case round =>
        clear hbox how1 hb2 hrk how hb hlen hb1 hc1 hr1
        obtain ⟨j, hj, rfl, hbel, hbox, how, hb⟩ := hrel
        have hol := how.len
        have hxs := how.rd.reach
        have hbx := hbox.reach
        have hwq := hb.size
        by_cases hjm : j < m
        · obtain ⟨t, ht⟩ : ∃ t, out[j]? = some t := ⟨out[j]'(by omega), List.getElem?_eq_getElem _⟩
          obtain ⟨v, hv⟩ : ∃ v, t.cmp s = v := ⟨_, rfl⟩
          have hcmp : ∀ W, Calls Try.prog 38 #[t.v, s.v] W (fun e w' => e = .returned (.int .i64 v) ∧ Below W.heap.size W w') := fun W => by
            have := rrcmp_any t s W
            rw [hv] at this
            exact this
          have hbt : below s t = decide (v < 0) := by unfold below; rw [hv]
          have Ht := Lib.hid ht
          have Hv := Lib.hid hv
          have Hbt := Lib.hid hbt
          have Hcmp := Lib.hid hcmp
          clear ht hv hbt hcmp
          have hvw : v < 0 ∨ (0 ≤ v ∧ (v == 0) = true) ∨ (0 ≤ v ∧ (v == 0) = false) := by
            by_cases h1 : v < 0
            · exact .inl h1
            · by_cases h2 : v = 0
              · exact .inr (.inl ⟨by omega, by simp [h2]⟩)
              · exact .inr (.inr ⟨by omega, by simp [h2]⟩)
          rcases hvw with hv | ⟨hv, hv0⟩ | ⟨hv, hv0⟩
          · have hbel2 : ∀ i u, i < j + 1 → out[i]? = some u → below s u = true := by
              intro i u hi hu
              rcases Nat.lt_or_ge i j with h1 | h1
              · exact hbel.out i u h1 hu
              · have : i = j := by omega
                subst this
                rw [Ht.out] at hu
                injection hu with hu
                subst hu
                rw [Hbt.out]
                simpa using hv
            have Hbel2 := Lib.hid hbel2
            clear hbel2
            go_wp2
            refine wp_region_reach (by kernel_rfl) (by kernel_rfl) ?_
            repeat (first | (refine wqr_at rfl _ (.tmp 32) _ rfl el_rule rfl rfl (by omega) (by omega) (Th.Reach.refl _ _) hxs ?_; intro b2 j2 t2 ht2 hc2; have hxx : t = t2 := (by have e := ht2.out; rw [Int.toNat_natCast, Ht.out] at e; injection e); subst hxx) | (refine wqr_load rfl _ (.tmp 34) rfl st_rule rfl hc2 ?_) | (refine wqr_box rfl _ (.tmp 7) rfl st_rule rfl hbx ?_) | go_big_quiet_step (exact Calls.reach (Hcmp.out _)) | quiet_step (exact Calls.reach (Hcmp.out _)))
            refine wpQuiet_nil ?_
            rintro _ ⟨q, rfl⟩
            have hqw5 := q.h
            obtain ⟨w5, hw5'⟩ : ∃ W, q.w = W := ⟨_, rfl⟩
            rw [hw5'] at hqw5 ⊢
            clear hw5' q
            go_wp2
            go_roundw
            case rel => exact ⟨j + 1, by omega, by go_num, Hbel2.out, hbox.step hqw5, how.below hqw5, hb.trans (hqw5.mono hwq)⟩
            case measure => simp [intOf]; omega
          · have hp : place out s = j := place_at hbel.out (by omega) (fun u hu => by rw [Ht.out] at hu; injection hu with hu; subst hu; rw [Hbt.out]; simpa using hv)
            have hins : ins out s = out := ins_same hp Ht.out (by rw [Hv.out]; simpa using hv0)
            have Hins := Lib.hid hins
            clear hp hins
            go_wp2
            refine wp_region_reach (by kernel_rfl) (by kernel_rfl) ?_
            repeat (first | (refine wqr_at rfl _ (.tmp 32) _ rfl el_rule rfl rfl (by omega) (by omega) (Th.Reach.refl _ _) hxs ?_; intro b2 j2 t2 ht2 hc2; have hxx : t = t2 := (by have e := ht2.out; rw [Int.toNat_natCast, Ht.out] at e; injection e); subst hxx) | (refine wqr_load rfl _ (.tmp 34) rfl st_rule rfl hc2 ?_) | (refine wqr_box rfl _ (.tmp 7) rfl st_rule rfl hbx ?_) | go_big_quiet_step (exact Calls.reach (Hcmp.out _)) | quiet_step (exact Calls.reach (Hcmp.out _)))
            refine wpQuiet_nil ?_
            rintro _ ⟨q, rfl⟩
            have hqw5 := q.h
            obtain ⟨w5, hw5'⟩ : ∃ W, q.w = W := ⟨_, rfl⟩
            rw [hw5'] at hqw5 ⊢
            clear hw5' q
            have how := how.below hqw5
            have hbox := hbox.step hqw5
            have hb := hb.trans (hqw5.mono hwq)
            have hxs := how.rd.reach
            have hbx := hbox.reach
            have hwq := hb.size
            clear hc2
            go_wp2
            refine wp_region_reach (by kernel_rfl) (by kernel_rfl) ?_
            repeat (first | (refine wqr_at rfl _ (.tmp 47) _ rfl el_rule rfl rfl (by omega) (by omega) (Th.Reach.refl _ _) hxs ?_; intro b2 j2 t2 ht2 hc2; have hxx : t = t2 := (by have e := ht2.out; rw [Int.toNat_natCast, Ht.out] at e; injection e); subst hxx) | (refine wqr_load rfl _ (.tmp 49) rfl st_rule rfl hc2 ?_) | (refine wqr_box rfl _ (.tmp 7) rfl st_rule rfl hbx ?_) | go_big_quiet_step (exact Calls.reach (Hcmp.out _)) | quiet_step (exact Calls.reach (Hcmp.out _)))
            refine wpQuiet_nil ?_
            rintro _ ⟨q, rfl⟩
            have hqw6 := q.h
            obtain ⟨w6, hw6'⟩ : ∃ W, q.w = W := ⟨_, rfl⟩
            rw [hw6'] at hqw6 ⊢
            clear hw6' q
            go_wp2
            go_roundw
            case rel => exact ⟨k + 1, m, c1, A1, by omega, rfl, by go_num, by omega, (by rw [Hsn.out, Hins.out]; exact how.below hqw6), hb.trans (hqw6.mono hwq)⟩
            case measure => simp [intOf]; omega
          · have hp : place out s = j := place_at hbel.out (by omega) (fun u hu => by rw [Ht.out] at hu; injection hu with hu; subst hu; rw [Hbt.out]; simpa using hv)
            have hins : ins out s = out.take j ++ s :: out.drop j := ins_new hp Ht.out (by rw [Hv.out]; simpa using hv0)
            have Hins := Lib.hid hins
            clear hp hins
            go_wp2
            refine wp_region_reach (by kernel_rfl) (by kernel_rfl) ?_
            repeat (first | (refine wqr_at rfl _ (.tmp 32) _ rfl el_rule rfl rfl (by omega) (by omega) (Th.Reach.refl _ _) hxs ?_; intro b2 j2 t2 ht2 hc2; have hxx : t = t2 := (by have e := ht2.out; rw [Int.toNat_natCast, Ht.out] at e; injection e); subst hxx) | (refine wqr_load rfl _ (.tmp 34) rfl st_rule rfl hc2 ?_) | (refine wqr_box rfl _ (.tmp 7) rfl st_rule rfl hbx ?_) | go_big_quiet_step (exact Calls.reach (Hcmp.out _)) | quiet_step (exact Calls.reach (Hcmp.out _)))
            refine wpQuiet_nil ?_
            rintro _ ⟨q, rfl⟩
            have hqw5 := q.h
            obtain ⟨w5, hw5'⟩ : ∃ W, q.w = W := ⟨_, rfl⟩
            rw [hw5'] at hqw5 ⊢
            clear hw5' q
            have how := how.below hqw5
            have hbox := hbox.step hqw5
            have hb := hb.trans (hqw5.mono hwq)
            have hxs := how.rd.reach
            have hbx := hbox.reach
            have hwq := hb.size
            clear hc2
            go_wp2
            refine wp_region_reach (by kernel_rfl) (by kernel_rfl) ?_
            repeat (first | (refine wqr_at rfl _ (.tmp 47) _ rfl el_rule rfl rfl (by omega) (by omega) (Th.Reach.refl _ _) hxs ?_; intro b2 j2 t2 ht2 hc2; have hxx : t = t2 := (by have e := ht2.out; rw [Int.toNat_natCast, Ht.out] at e; injection e); subst hxx) | (refine wqr_load rfl _ (.tmp 49) rfl st_rule rfl hc2 ?_) | (refine wqr_box rfl _ (.tmp 7) rfl st_rule rfl hbx ?_) | go_big_quiet_step (exact Calls.reach (Hcmp.out _)) | quiet_step (exact Calls.reach (Hcmp.out _)))
            refine wpQuiet_nil ?_
            rintro _ ⟨q, rfl⟩
            have hqw6 := q.h
            obtain ⟨w6, hw6'⟩ : ∃ W, q.w = W := ⟨_, rfl⟩
            rw [hw6'] at hqw6 ⊢
            clear hw6' q
            have how := how.below hqw6
            have hbox := hbox.step hqw6
            have hb := hb.trans (hqw6.mono hwq)
            clear hc2 hxs hbx hwq
            go_wp2
            have hb60 := hb.size
            refine wp_region_tree (.float 0 1 (.float 2 3 (.one 1 (.one 5 (.float 6 1 .done))))) (Th.Reach (w6.heap.size)) (Th.Reach.trans _) (Th.Reach.refl _) (by kernel_rfl) (by kernel_rfl) (fun KT hKT => ?_)
            refine wpTree_float (fun KF hKF => ?_)
            simp only [List.drop, List.take]
            repeat (first | (refine wqr_box rfl _ (.tmp 7) rfl st_rule rfl (hbox.drew).reach ?_) | (refine wqm_cut_l Ru.cs_length rfl _ (.tmp 57) el_rule rfl (how.rd.drew).reach (Th.Reach.refl _ _) _ rfl rfl j (by omega) ?_; intro A59 r59) | go_big_quiet_step (fail) | quiet_step (fail))
            refine wpQuiet_nil ?_
            refine hKF _ ?_
            clear hKF KF
            refine wpTree_float (fun KF hKF => ?_)
            simp only [List.drop, List.take]
            repeat (first | (refine wqr_box rfl _ (.tmp 7) rfl st_rule rfl (hbox.drew).reach ?_) | (refine wqm_cut_l Ru.cs_length rfl _ (.tmp 57) el_rule rfl (how.rd.drew).reach (Th.Reach.refl _ _) _ rfl rfl j (by omega) ?_; intro A59 r59) | go_big_quiet_step (fail) | quiet_step (fail))
            refine wpQuiet_nil ?_
            refine hKF _ ?_
            clear hKF KF
            refine wpTree_one (fun KO hKO => ?_)
            simp only [List.drop, List.take]
            go_wp2_with (first | (with_reducible refine on_append (.tmp 56) (.tmp 59) ?_); refine wm_append Ru.cs_length rfl (.tmp 56) (.tmp 59) _ rfl el_rule Ru.one rfl (OwM.lit (base := w6.heap.size) (e := 25) (xs := [s]) Ru.cs_length w6.drew #[.int .u32 s.a, .int .i64 s.n, .int .i64 s.act, .int .i64 s.next] 1 (Nat.le_refl _) (by simp [maxLen]) rfl rfl) rfl (r59 _ (Th.Reach.of (below_alloc w6.drew (Nat.le_refl _) _))) (by omega) (by omega) (by first | (simp; done) | (simp; omega) | omega) ?_; intro A60 c60 w60 how60 hg60 hb61)
            refine anch_end (Th.Reach.of (by first | exact Below.refl _ _ | exact below_alloc _ (by first | omega | (simp; done) | (simp; omega)) _ | exact below_alloc2 _ (by first | omega | (simp; done) | (simp; omega)) _ _ | exact below_alloc2d _ (by simp) _ _ | exact bdrew _ _ | assumption | (exact Below.mono (by assumption) (by first | (simp; done) | (simp; omega) | omega | assumption)))) (hKO _ _ ?_)
            clear hKO KO
            refine wpTree_one (fun KO hKO => ?_)
            simp only [List.drop, List.take]
            go_wp2_with (first | (with_reducible refine on_append (.tmp 56) (.tmp 59) ?_); refine wm_append Ru.cs_length rfl (.tmp 56) (.tmp 59) _ rfl el_rule Ru.one rfl (OwM.lit (base := w6.heap.size) (e := 25) (xs := [s]) Ru.cs_length w6.drew #[.int .u32 s.a, .int .i64 s.n, .int .i64 s.act, .int .i64 s.next] 1 (Nat.le_refl _) (by simp [maxLen]) rfl rfl) rfl (r59 _ (Th.Reach.of (below_alloc w6.drew (Nat.le_refl _) _))) (by omega) (by omega) (by first | (simp; done) | (simp; omega) | omega) ?_; intro A60 c60 w60 how60 hg60 hb61)
            refine anch_end (Th.Reach.of (by first | exact Below.refl _ _ | exact below_alloc _ (by first | omega | (simp; done) | (simp; omega)) _ | exact below_alloc2 _ (by first | omega | (simp; done) | (simp; omega)) _ _ | exact below_alloc2d _ (by simp) _ _ | exact bdrew _ _ | assumption | (exact Below.mono (by assumption) (by first | (simp; done) | (simp; omega) | omega | assumption)))) (hKO _ _ ?_)
            clear hKO KO
            refine wpTree_float (fun KF hKF => ?_)
            simp only [List.drop, List.take]
            repeat (first | (refine wqr_box rfl _ (.tmp 7) rfl st_rule rfl (hbox.drew).reach ?_) | (refine wqm_cut_l Ru.cs_length rfl _ (.tmp 57) el_rule rfl (how.rd.drew).reach (Th.Reach.refl _ _) _ rfl rfl j (by omega) ?_; intro A59 r59) | go_big_quiet_step (fail) | quiet_step (fail))
            refine wpQuiet_nil ?_
            refine hKF _ ?_
            clear hKF KF
            refine wpTree_done ?_
            refine hKT _ _ ?_
            clear hKT KT
            have H60 : Below w6.heap.size w6 w60 := ((bdrew1 w6).trans (below_alloc w6.drew (Nat.le_refl _) _)).trans hb61
            have how6 := (how.below H60).rd
            clear hg60 hb61 r59 hbox
            go_wp2_with (first
              | ((with_reducible refine on_slice (.tmp 62) ?_); refine wm_cut_h Ru.cs_length rfl _ _ el_rule rfl (how6.alloc _) _ rfl rfl j (by omega) ?_; intro A64 r64)
              | ((with_reducible refine on_append (.tmp 61) (.tmp 64) ?_); refine wm_append Ru.cs_length rfl (.tmp 61) (.tmp 64) _ rfl el_rule Ru.one rfl (OwM.lit (base := w60.heap.size) (e := 25) (xs := []) Ru.cs_length w60 #[] 0 (Nat.le_refl _) (by simp [maxLen]) rfl rfl) rfl r64 (by omega) (by omega) (by first | (simp; done) | (simp; omega) | omega) ?_; intro A65 c65 w65 how65 hg65 hb65; rw [Nat.zero_add, List.nil_append] at how65; have H65 : Below w60.heap.size w60 w65 := (below_alloc w60 (Nat.le_refl _) _).trans hb65; have r60 := (how60.below H65).rd)
              | ((with_reducible refine on_append (.tmp 65) (.tmp 66) ?_); refine wm_append Ru.cs_length rfl (.tmp 65) (.tmp 66) _ rfl el_rule Ru.one rfl how65 rfl r60 (by omega) (by omega) H65.size ?_; intro A67 c67 w67 how67 _ hb67))
            go_roundw
            case rel => exact ⟨k + 1, j + (1 + (m - j)), c67, A67, by omega, rfl, by go_num, by omega, (by rw [Hsn.out, Hins.out]; exact how67.base_le (Nat.le_trans hb60 H60.size)), (hb.trans (H60.mono hb60)).trans ((H65.trans hb67).mono (Nat.le_trans hb60 H60.size))⟩
            case measure => simp [intOf]; omega
        · have hjm' : j = m := by omega
          have hp : place out s = j := place_at hbel.out (by omega) (fun u hu => by have := (List.getElem?_eq_some_iff.1 hu).1; omega)
          have hins : ins out s = out.take j ++ s :: out.drop j := ins_last hp (by omega)
          have Hins := Lib.hid hins
          have hjm2 : decide (j < m) = false := by simp; omega
          clear hp hins hjm' hjm
          go_wp2
          refine wp_region_reach (by kernel_rfl) (by kernel_rfl) ?_
          repeat (first | go_big_quiet_step (fail) | quiet_step (fail))
          refine wpQuiet_nil ?_
          rintro _ ⟨q, rfl⟩
          have hqw5 := q.h
          obtain ⟨w5, hw5'⟩ : ∃ W, q.w = W := ⟨_, rfl⟩
          rw [hw5'] at hqw5 ⊢
          clear hw5' q
          have how := how.below hqw5
          have hbox := hbox.step hqw5
          have hb := hb.trans (hqw5.mono hwq)
          have hwq := hb.size
          clear hxs hbx
          go_wp2
          refine wp_region_reach (by kernel_rfl) (by kernel_rfl) ?_
          repeat (first | go_big_quiet_step (fail) | quiet_step (fail))
          refine wpQuiet_nil ?_
          rintro _ ⟨q, rfl⟩
          have hqw6 := q.h
          obtain ⟨w6, hw6'⟩ : ∃ W, q.w = W := ⟨_, rfl⟩
          rw [hw6'] at hqw6 ⊢
          clear hw6' q
          have how := how.below hqw6
          have hbox := hbox.step hqw6
          have hb := hb.trans (hqw6.mono hwq)
          clear hwq
          go_wp2
          have hb60 := hb.size
          refine wp_region_tree (.float 0 1 (.float 2 3 (.one 1 (.one 5 (.float 6 1 .done))))) (Th.Reach (w6.heap.size)) (Th.Reach.trans _) (Th.Reach.refl _) (by kernel_rfl) (by kernel_rfl) (fun KT hKT => ?_)
          refine wpTree_float (fun KF hKF => ?_)
          simp only [List.drop, List.take]
          repeat (first | (refine wqr_box rfl _ (.tmp 7) rfl st_rule rfl (hbox.drew).reach ?_) | (refine wqm_cut_l Ru.cs_length rfl _ (.tmp 57) el_rule rfl (how.rd.drew).reach (Th.Reach.refl _ _) _ rfl rfl j (by omega) ?_; intro A59 r59) | go_big_quiet_step (fail) | quiet_step (fail))
          refine wpQuiet_nil ?_
          refine hKF _ ?_
          clear hKF KF
          refine wpTree_float (fun KF hKF => ?_)
          simp only [List.drop, List.take]
          repeat (first | (refine wqr_box rfl _ (.tmp 7) rfl st_rule rfl (hbox.drew).reach ?_) | (refine wqm_cut_l Ru.cs_length rfl _ (.tmp 57) el_rule rfl (how.rd.drew).reach (Th.Reach.refl _ _) _ rfl rfl j (by omega) ?_; intro A59 r59) | go_big_quiet_step (fail) | quiet_step (fail))
          refine wpQuiet_nil ?_
          refine hKF _ ?_
          clear hKF KF
          refine wpTree_one (fun KO hKO => ?_)
          simp only [List.drop, List.take]
          go_wp2_with (first | (with_reducible refine on_append (.tmp 56) (.tmp 59) ?_); refine wm_append Ru.cs_length rfl (.tmp 56) (.tmp 59) _ rfl el_rule Ru.one rfl (OwM.lit (base := w6.heap.size) (e := 25) (xs := [s]) Ru.cs_length w6.drew #[.int .u32 s.a, .int .i64 s.n, .int .i64 s.act, .int .i64 s.next] 1 (Nat.le_refl _) (by simp [maxLen]) rfl rfl) rfl (r59 _ (Th.Reach.of (below_alloc w6.drew (Nat.le_refl _) _))) (by omega) (by omega) (by first | (simp; done) | (simp; omega) | omega) ?_; intro A60 c60 w60 how60 hg60 hb61)
          refine anch_end (Th.Reach.of (by first | exact Below.refl _ _ | exact below_alloc _ (by first | omega | (simp; done) | (simp; omega)) _ | exact below_alloc2 _ (by first | omega | (simp; done) | (simp; omega)) _ _ | exact below_alloc2d _ (by simp) _ _ | exact bdrew _ _ | assumption | (exact Below.mono (by assumption) (by first | (simp; done) | (simp; omega) | omega | assumption)))) (hKO _ _ ?_)
          clear hKO KO
          refine wpTree_one (fun KO hKO => ?_)
          simp only [List.drop, List.take]
          go_wp2_with (first | (with_reducible refine on_append (.tmp 56) (.tmp 59) ?_); refine wm_append Ru.cs_length rfl (.tmp 56) (.tmp 59) _ rfl el_rule Ru.one rfl (OwM.lit (base := w6.heap.size) (e := 25) (xs := [s]) Ru.cs_length w6.drew #[.int .u32 s.a, .int .i64 s.n, .int .i64 s.act, .int .i64 s.next] 1 (Nat.le_refl _) (by simp [maxLen]) rfl rfl) rfl (r59 _ (Th.Reach.of (below_alloc w6.drew (Nat.le_refl _) _))) (by omega) (by omega) (by first | (simp; done) | (simp; omega) | omega) ?_; intro A60 c60 w60 how60 hg60 hb61)
          refine anch_end (Th.Reach.of (by first | exact Below.refl _ _ | exact below_alloc _ (by first | omega | (simp; done) | (simp; omega)) _ | exact below_alloc2 _ (by first | omega | (simp; done) | (simp; omega)) _ _ | exact below_alloc2d _ (by simp) _ _ | exact bdrew _ _ | assumption | (exact Below.mono (by assumption) (by first | (simp; done) | (simp; omega) | omega | assumption)))) (hKO _ _ ?_)
          clear hKO KO
          refine wpTree_float (fun KF hKF => ?_)
          simp only [List.drop, List.take]
          repeat (first | (refine wqr_box rfl _ (.tmp 7) rfl st_rule rfl (hbox.drew).reach ?_) | (refine wqm_cut_l Ru.cs_length rfl _ (.tmp 57) el_rule rfl (how.rd.drew).reach (Th.Reach.refl _ _) _ rfl rfl j (by omega) ?_; intro A59 r59) | go_big_quiet_step (fail) | quiet_step (fail))
          refine wpQuiet_nil ?_
          refine hKF _ ?_
          clear hKF KF
          refine wpTree_done ?_
          refine hKT _ _ ?_
          clear hKT KT
          have H60 : Below w6.heap.size w6 w60 := ((bdrew1 w6).trans (below_alloc w6.drew (Nat.le_refl _) _)).trans hb61
          have how6 := (how.below H60).rd
          clear hg60 hb61 r59 hbox
          go_wp2_with (first
            | ((with_reducible refine on_slice (.tmp 62) ?_); refine wm_cut_h Ru.cs_length rfl _ _ el_rule rfl (how6.alloc _) _ rfl rfl j (by omega) ?_; intro A64 r64)
            | ((with_reducible refine on_append (.tmp 61) (.tmp 64) ?_); refine wm_append Ru.cs_length rfl (.tmp 61) (.tmp 64) _ rfl el_rule Ru.one rfl (OwM.lit (base := w60.heap.size) (e := 25) (xs := []) Ru.cs_length w60 #[] 0 (Nat.le_refl _) (by simp [maxLen]) rfl rfl) rfl r64 (by omega) (by omega) (by first | (simp; done) | (simp; omega) | omega) ?_; intro A65 c65 w65 how65 hg65 hb65; rw [Nat.zero_add, List.nil_append] at how65; have H65 : Below w60.heap.size w60 w65 := (below_alloc w60 (Nat.le_refl _) _).trans hb65; have r60 := (how60.below H65).rd)
            | ((with_reducible refine on_append (.tmp 65) (.tmp 66) ?_); refine wm_append Ru.cs_length rfl (.tmp 65) (.tmp 66) _ rfl el_rule Ru.one rfl how65 rfl r60 (by omega) (by omega) H65.size ?_; intro A67 c67 w67 how67 _ hb67))
          go_roundw
          case rel => exact ⟨k + 1, j + (1 + (m - j)), c67, A67, by omega, rfl, by go_num, by omega, (by rw [Hsn.out, Hins.out]; exact how67.base_le (Nat.le_trans hb60 H60.size)), (hb.trans (H60.mono hb60)).trans ((H65.trans hb67).mono (Nat.le_trans hb60 H60.size))⟩
          case measure => simp [intOf]; omega
    · have hkn : fitTo l nodes k = fitT l nodes := fitTo_end nodes (by omega)
      rw [hkn] at how
      have hk3 : (k : Int) ≥ n ∨ ((k : Int) < n ∧ (k : Int) ≥ 20) := by omega
      rcases hk3 with hk3 | ⟨hk3, hk4⟩
      all_goals go_wp2
      all_goals go_ret
      all_goals exact ⟨A1, m, c1, rfl, by omega, how, hb⟩
end Go.Proofs.Ytijobfkmchbpcaa
