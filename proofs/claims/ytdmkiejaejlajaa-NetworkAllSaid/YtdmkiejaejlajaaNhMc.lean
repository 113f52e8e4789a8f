/-
  Laid together by wip/tools/merge.py out of: TableRef, NumPlain, Num, NumRefB, Append, RulePut, RuleTake, RuleRef, RuleShown, TableLessLaw, RuleBackLaw, RuleAll, NewArms, Keep, AppendK, RegionL, LitsP, Open, OpenRule, Part, PartMem, CertMeet, SetB, CertMay, CertRef, CertRefMay, CertSame.
-/
import Derived.WalkKit
import Derived.Laws.ResultCell
import Derived.Deep.DeepCutAuto
import Derived.Great.BuildSlice
import Derived.Great.FillDense
import Derived.ProofKit
import Derived.OpenShut
import Derived.ShutString
import Derived.ChangeOld
import Derived.Deep.Slices
import Derived.Deep.Fields
import Derived.Lib.SmallJoins
import Derived.Maps.OwnOps
import Derived.Maps.OwnSet
import Derived.Maps.Keyed
import Derived.Test.YtdmkiejaejlajaaNhMa
import Derived.Test.YtdmkiejaejlajaaNhMb

/-! ### TableRef -/
namespace Go.Proofs.Ytdmkiejaejlajaa
open Go.RowKit Go.Th
set_option linter.unusedVariables false
/-- The outer loop: k rules were put. -/
def FitRel (l : List Ru) (nodes : Int) (n : Nat) (w : World) (out i : Value) (wr : World) : Prop :=
  ∃ (k m c : Nat) (A : Option Addr), k ≤ min n 20 ∧ out = .slice A m c ∧ i = .int .i64 k ∧ m ≤ k ∧ OwM Ru.cs 4 wr w.heap.size 40 A m c (fitTo l nodes k) ∧ Below w.heap.size w wr
/-- The inner loop: j rules are below. -/
def PlaceRel (out : List Ru) (s : Ru) (m c g base : Nat) (A : Option Addr) (w1 : World) (at_ : Value) (wr : World) : Prop :=
  ∃ j : Nat, j ≤ m ∧ at_ = .int .i64 j ∧ Hid (∀ i t, i < j → out[i]? = some t → below s t = true) ∧ Box wr g 40 s.cs.toArray ∧ OwM Ru.cs 4 wr base 40 A m c out ∧ Below base w1 wr
set_option maxHeartbeats 2000000 in
set_option maxRecDepth 100000 in
theorem fit_any (A : Option Addr) (n c : Nat) (l : List Ru) (nodes : Int) (w : World) (hm : n ≤ 9223372036854775807) (B : Nat) (hr : RdM Ru.cs w B A n c l) (hok : ∀ r ∈ l, r.Ok) (hn : 1 ≤ nodes ∧ nodes ≤ 4611686018427387904) :
    Calls Try.prog 25 #[.slice A n c, .int .i64 nodes] w fun e w' => ∃ A' m c', e = .returned (.slice A' m c') ∧ m ≤ 20 ∧ OwM Ru.cs 4 w' w.heap.size 40 A' m c' (fitT l nodes) ∧ Below w.heap.size w w' := by
  have Hok := Lib.hid hok
  have Hn := Lib.hid hn
  clear hok hn
  go_enter Try.func25, Try.ntmps25
  go_wp2
  go_loopw [5, 6] (fun out i wr => FitRel l nodes n w out i wr) (fun _ i _ => 20 - (intOf i).toNat)
  case atStart => exact ⟨0, 0, 0, _, by omega, rfl, rfl, by omega, OwM.lit Ru.cs_length w #[] 0 (Nat.le_refl _) (by simp [maxLen]) rfl rfl, (by repeat (first | exact Below.refl _ _ | refine Below.drew ?_ | refine Below.alloc ?_ (by first | (simp; done) | (simp; omega)) _ | refine Below.setCell ?_ (by first | (simp; done) | (simp; omega)) _ | assumption))⟩
  case round =>
    obtain ⟨k, m, c1, A1, hk, rfl, rfl, hmk, how, hb⟩ := hrel
    have hrk : RdM Ru.cs wr B A n c l := hr.step hb
    have hlen := hrk.len
    by_cases hlt : k < min n 20
    · obtain ⟨r, hrk0⟩ : ∃ r, l[k]? = some r := ⟨l[k]'(by omega), List.getElem?_eq_getElem _⟩
      have hro := Hok.out r (List.mem_of_getElem? hrk0)
      have hsn := fitTo_snoc nodes hrk0 (by omega)
      obtain ⟨s, hs⟩ : ∃ s, r.fit nodes = s := ⟨_, rfl⟩
      have hfit : ∀ W, Calls Try.prog 35 #[r.v, .int .i64 nodes] W (RetB (.agg #[.int .u32 s.a, .int .i64 s.n, .int .i64 s.act, .int .i64 s.next]) W) := fun W => by
        have := rfit_any r nodes W hro Hn.out
        rw [hs] at this
        exact this
      rw [hs] at hsn
      obtain ⟨out, ho⟩ : ∃ out, fitTo l nodes k = out := ⟨_, rfl⟩
      rw [ho] at how hsn
      have Hfit := Lib.hid hfit
      have Hsn := Lib.hid hsn
      have Hrk := Lib.hid hrk0
      have hk20 : k < 20 := by omega
      have hkn : k < n := by omega
      clear hsn hrk0 hro hfit hs ho
      have hbs := hb.size
      go_wp2_with (first
        | ((with_reducible refine on_index (.tmp 21) ?_); refine wm_at Ru.cs_length rfl _ _ _ rfl el_rule rfl rfl (by omega) (by omega) hrk ?_; intro b1 j1 r1 hr1 hb1 hc1; have hxx : r = r1 := (by have e := hr1.out; rw [Int.toNat_natCast, Hrk.out] at e; injection e); subst hxx)
        | ((with_reducible refine on_load (.tmp 23) ?_); refine wr_load rfl _ _ rfl st_rule rfl hc1 ?_)
        | (go_at_call 35; refine (Hfit.out _).mono ?_; rintro e w1 ⟨rfl, hb1⟩))
      have hbox : Box (w1.alloc (.cells s.cs.toArray 40)) w1.heap.size 40 s.cs.toArray := Box.new w1 _ _
      have how1 := (how.below hb1).alloc (.cells s.cs.toArray 40)
      have hb2 : Below w.heap.size w (w1.alloc (.cells s.cs.toArray 40)) := (hb.trans (hb1.mono hbs)).alloc (Nat.le_trans hbs hb1.size) _
      have hw1 : w.heap.size ≤ w1.heap.size := Nat.le_trans hbs hb1.size
      go_loopw [8] (fun at_ wq => PlaceRel out s m c1 w1.heap.size w.heap.size A1 w at_ wq) (fun at_ _ => m - (intOf at_).toNat)
      case atStart => exact ⟨0, by omega, rfl, (fun i t hi => absurd hi (by omega)), hbox, how1, hb2⟩
      case round =>
        clear hbox how1 hb2 hrk how hb hlen hb1 hc1 hr1
        obtain ⟨j, hj, rfl, hbel, hbox, how, hb⟩ := hrel
        have hol := how.len
        have hxs := how.rd.reach
        have hbx := hbox.reach
        have hwq := hb.size
        by_cases hjm : j < m
        · obtain ⟨t, ht⟩ : ∃ t, out[j]? = some t := ⟨out[j]'(by omega), List.getElem?_eq_getElem _⟩
          obtain ⟨v, hv⟩ : ∃ v, t.cmp s = v := ⟨_, rfl⟩
          have hcmp : ∀ W, Calls Try.prog 36 #[t.v, s.v] W (fun e w' => e = .returned (.int .i64 v) ∧ Below W.heap.size W w') := fun W => by
            have := rrcmp_any t s W
            rw [hv] at this
            exact this
          have hbt : below s t = decide (v < 0) := by unfold below; rw [hv]
          have Ht := Lib.hid ht
          have Hv := Lib.hid hv
          have Hbt := Lib.hid hbt
          have Hcmp := Lib.hid hcmp
          clear ht hv hbt hcmp
          have hvw : v < 0 ∨ (0 ≤ v ∧ (v == 0) = true) ∨ (0 ≤ v ∧ (v == 0) = false) := by
            by_cases h1 : v < 0
            · exact .inl h1
            · by_cases h2 : v = 0
              · exact .inr (.inl ⟨by omega, by simp [h2]⟩)
              · exact .inr (.inr ⟨by omega, by simp [h2]⟩)
          rcases hvw with hv | ⟨hv, hv0⟩ | ⟨hv, hv0⟩
          · have hbel2 : ∀ i u, i < j + 1 → out[i]? = some u → below s u = true := by
              intro i u hi hu
              rcases Nat.lt_or_ge i j with h1 | h1
              · exact hbel.out i u h1 hu
              · have : i = j := by omega
                subst this
                rw [Ht.out] at hu
                injection hu with hu
                subst hu
                rw [Hbt.out]
                simpa using hv
            have Hbel2 := Lib.hid hbel2
            clear hbel2
            go_wp2
            refine wp_region_reach (by kernel_rfl) (by kernel_rfl) ?_
            repeat (first | go_big_quiet_skip | (refine wqr_at rfl _ (.tmp 32) _ rfl el_rule rfl rfl (by omega) (by omega) (Th.Reach.refl _ _) hxs ?_; intro b2 j2 t2 ht2 hc2; have hxx : t = t2 := (by have e := ht2.out; rw [Int.toNat_natCast, Ht.out] at e; injection e); subst hxx) | (refine wqr_load rfl _ (.tmp 34) rfl st_rule rfl hc2 ?_) | (refine wqr_box rfl _ (.tmp 7) rfl st_rule rfl hbx ?_) | go_big_quiet_step (exact Calls.reach (Hcmp.out _)) | quiet_step (exact Calls.reach (Hcmp.out _)))
            refine wpQuiet_nil ?_
            rintro _ ⟨q, rfl⟩
            have hqw5 := q.h
            obtain ⟨w5, hw5'⟩ : ∃ W, q.w = W := ⟨_, rfl⟩
            rw [hw5'] at hqw5 ⊢
            clear hw5' q
            go_wp2
            go_roundw
            case rel => exact ⟨j + 1, by omega, by go_num, Hbel2.out, hbox.step hqw5, how.below hqw5, hb.trans (hqw5.mono hwq)⟩
            case measure => simp [intOf]; omega
          · have hp : place out s = j := place_at hbel.out (by omega) (fun u hu => by rw [Ht.out] at hu; injection hu with hu; subst hu; rw [Hbt.out]; simpa using hv)
            have hins : ins out s = out := ins_same hp Ht.out (by rw [Hv.out]; simpa using hv0)
            have Hins := Lib.hid hins
            clear hp hins
            go_wp2
            refine wp_region_reach (by kernel_rfl) (by kernel_rfl) ?_
            repeat (first | go_big_quiet_skip | (refine wqr_at rfl _ (.tmp 32) _ rfl el_rule rfl rfl (by omega) (by omega) (Th.Reach.refl _ _) hxs ?_; intro b2 j2 t2 ht2 hc2; have hxx : t = t2 := (by have e := ht2.out; rw [Int.toNat_natCast, Ht.out] at e; injection e); subst hxx) | (refine wqr_load rfl _ (.tmp 34) rfl st_rule rfl hc2 ?_) | (refine wqr_box rfl _ (.tmp 7) rfl st_rule rfl hbx ?_) | go_big_quiet_step (exact Calls.reach (Hcmp.out _)) | quiet_step (exact Calls.reach (Hcmp.out _)))
            refine wpQuiet_nil ?_
            rintro _ ⟨q, rfl⟩
            have hqw5 := q.h
            obtain ⟨w5, hw5'⟩ : ∃ W, q.w = W := ⟨_, rfl⟩
            rw [hw5'] at hqw5 ⊢
            clear hw5' q
            have how := how.below hqw5
            have hbox := hbox.step hqw5
            have hb := hb.trans (hqw5.mono hwq)
            have hxs := how.rd.reach
            have hbx := hbox.reach
            have hwq := hb.size
            clear hc2
            go_wp2
            refine wp_region_reach (by kernel_rfl) (by kernel_rfl) ?_
            repeat (first | go_big_quiet_skip | (refine wqr_at rfl _ (.tmp 47) _ rfl el_rule rfl rfl (by omega) (by omega) (Th.Reach.refl _ _) hxs ?_; intro b2 j2 t2 ht2 hc2; have hxx : t = t2 := (by have e := ht2.out; rw [Int.toNat_natCast, Ht.out] at e; injection e); subst hxx) | (refine wqr_load rfl _ (.tmp 49) rfl st_rule rfl hc2 ?_) | (refine wqr_box rfl _ (.tmp 7) rfl st_rule rfl hbx ?_) | go_big_quiet_step (exact Calls.reach (Hcmp.out _)) | quiet_step (exact Calls.reach (Hcmp.out _)))
            refine wpQuiet_nil ?_
            rintro _ ⟨q, rfl⟩
            have hqw6 := q.h
            obtain ⟨w6, hw6'⟩ : ∃ W, q.w = W := ⟨_, rfl⟩
            rw [hw6'] at hqw6 ⊢
            clear hw6' q
            go_wp2
            go_roundw
            case rel => exact ⟨k + 1, m, c1, A1, by omega, rfl, by go_num, by omega, (by rw [Hsn.out, Hins.out]; exact how.below hqw6), hb.trans (hqw6.mono hwq)⟩
            case measure => simp [intOf]; omega
          · have hp : place out s = j := place_at hbel.out (by omega) (fun u hu => by rw [Ht.out] at hu; injection hu with hu; subst hu; rw [Hbt.out]; simpa using hv)
            have hins : ins out s = out.take j ++ s :: out.drop j := ins_new hp Ht.out (by rw [Hv.out]; simpa using hv0)
            have Hins := Lib.hid hins
            clear hp hins
            go_wp2
            refine wp_region_reach (by kernel_rfl) (by kernel_rfl) ?_
            repeat (first | go_big_quiet_skip | (refine wqr_at rfl _ (.tmp 32) _ rfl el_rule rfl rfl (by omega) (by omega) (Th.Reach.refl _ _) hxs ?_; intro b2 j2 t2 ht2 hc2; have hxx : t = t2 := (by have e := ht2.out; rw [Int.toNat_natCast, Ht.out] at e; injection e); subst hxx) | (refine wqr_load rfl _ (.tmp 34) rfl st_rule rfl hc2 ?_) | (refine wqr_box rfl _ (.tmp 7) rfl st_rule rfl hbx ?_) | go_big_quiet_step (exact Calls.reach (Hcmp.out _)) | quiet_step (exact Calls.reach (Hcmp.out _)))
            refine wpQuiet_nil ?_
            rintro _ ⟨q, rfl⟩
            have hqw5 := q.h
            obtain ⟨w5, hw5'⟩ : ∃ W, q.w = W := ⟨_, rfl⟩
            rw [hw5'] at hqw5 ⊢
            clear hw5' q
            have how := how.below hqw5
            have hbox := hbox.step hqw5
            have hb := hb.trans (hqw5.mono hwq)
            have hxs := how.rd.reach
            have hbx := hbox.reach
            have hwq := hb.size
            clear hc2
            go_wp2
            refine wp_region_reach (by kernel_rfl) (by kernel_rfl) ?_
            repeat (first | go_big_quiet_skip | (refine wqr_at rfl _ (.tmp 47) _ rfl el_rule rfl rfl (by omega) (by omega) (Th.Reach.refl _ _) hxs ?_; intro b2 j2 t2 ht2 hc2; have hxx : t = t2 := (by have e := ht2.out; rw [Int.toNat_natCast, Ht.out] at e; injection e); subst hxx) | (refine wqr_load rfl _ (.tmp 49) rfl st_rule rfl hc2 ?_) | (refine wqr_box rfl _ (.tmp 7) rfl st_rule rfl hbx ?_) | go_big_quiet_step (exact Calls.reach (Hcmp.out _)) | quiet_step (exact Calls.reach (Hcmp.out _)))
            refine wpQuiet_nil ?_
            rintro _ ⟨q, rfl⟩
            have hqw6 := q.h
            obtain ⟨w6, hw6'⟩ : ∃ W, q.w = W := ⟨_, rfl⟩
            rw [hw6'] at hqw6 ⊢
            clear hw6' q
            have how := how.below hqw6
            have hbox := hbox.step hqw6
            have hb := hb.trans (hqw6.mono hwq)
            clear hc2 hxs hbx hwq
            go_wp2
            have hb60 := hb.size
            refine wp_region_tree (.float 0 1 (.float 2 3 (.one 1 (.one 5 (.float 6 1 .done))))) (Th.Reach (w6.heap.size)) (Th.Reach.trans _) (Th.Reach.refl _) (by kernel_rfl) (by kernel_rfl) (fun KT hKT => ?_)
            refine wpTree_float (fun KF hKF => ?_)
            simp only [List.drop, List.take]
            repeat (first | go_big_quiet_skip | (refine wqr_box rfl _ (.tmp 7) rfl st_rule rfl (hbox.drew).reach ?_) | (refine wqm_cut_l Ru.cs_length rfl _ (.tmp 57) el_rule rfl (how.rd.drew).reach (Th.Reach.refl _ _) _ rfl rfl j (by omega) ?_; intro A59 r59) | go_big_quiet_step (fail) | quiet_step (fail))
            refine wpQuiet_nil ?_
            refine hKF _ ?_
            clear hKF KF
            refine wpTree_float (fun KF hKF => ?_)
            simp only [List.drop, List.take]
            repeat (first | go_big_quiet_skip | (refine wqr_box rfl _ (.tmp 7) rfl st_rule rfl (hbox.drew).reach ?_) | (refine wqm_cut_l Ru.cs_length rfl _ (.tmp 57) el_rule rfl (how.rd.drew).reach (Th.Reach.refl _ _) _ rfl rfl j (by omega) ?_; intro A59 r59) | go_big_quiet_step (fail) | quiet_step (fail))
            refine wpQuiet_nil ?_
            refine hKF _ ?_
            clear hKF KF
            refine wpTree_one (fun KO hKO => ?_)
            simp only [List.drop, List.take]
            go_wp2_with (first | (with_reducible refine on_append (.tmp 56) (.tmp 59) ?_); refine wm_append Ru.cs_length rfl (.tmp 56) (.tmp 59) _ rfl el_rule Ru.one rfl (OwM.lit (base := w6.heap.size) (e := 40) (xs := [s]) Ru.cs_length w6.drew #[.int .u32 s.a, .int .i64 s.n, .int .i64 s.act, .int .i64 s.next] 1 (Nat.le_refl _) (by simp [maxLen]) rfl rfl) rfl (r59 _ (Th.Reach.of (below_alloc w6.drew (Nat.le_refl _) _))) (by omega) (by omega) (by first | (simp; done) | (simp; omega) | omega) ?_; intro A60 c60 w60 how60 hg60 hb61)
            refine anch_end (Th.Reach.of (by first | exact Below.refl _ _ | exact below_alloc _ (by first | omega | (simp; done) | (simp; omega)) _ | exact below_alloc2 _ (by first | omega | (simp; done) | (simp; omega)) _ _ | exact below_alloc2d _ (by simp) _ _ | exact bdrew _ _ | assumption | (exact Below.mono (by assumption) (by first | (simp; done) | (simp; omega) | omega | assumption)))) (hKO _ _ ?_)
            clear hKO KO
            refine wpTree_one (fun KO hKO => ?_)
            simp only [List.drop, List.take]
            go_wp2_with (first | (with_reducible refine on_append (.tmp 56) (.tmp 59) ?_); refine wm_append Ru.cs_length rfl (.tmp 56) (.tmp 59) _ rfl el_rule Ru.one rfl (OwM.lit (base := w6.heap.size) (e := 40) (xs := [s]) Ru.cs_length w6.drew #[.int .u32 s.a, .int .i64 s.n, .int .i64 s.act, .int .i64 s.next] 1 (Nat.le_refl _) (by simp [maxLen]) rfl rfl) rfl (r59 _ (Th.Reach.of (below_alloc w6.drew (Nat.le_refl _) _))) (by omega) (by omega) (by first | (simp; done) | (simp; omega) | omega) ?_; intro A60 c60 w60 how60 hg60 hb61)
            refine anch_end (Th.Reach.of (by first | exact Below.refl _ _ | exact below_alloc _ (by first | omega | (simp; done) | (simp; omega)) _ | exact below_alloc2 _ (by first | omega | (simp; done) | (simp; omega)) _ _ | exact below_alloc2d _ (by simp) _ _ | exact bdrew _ _ | assumption | (exact Below.mono (by assumption) (by first | (simp; done) | (simp; omega) | omega | assumption)))) (hKO _ _ ?_)
            clear hKO KO
            refine wpTree_float (fun KF hKF => ?_)
            simp only [List.drop, List.take]
            repeat (first | go_big_quiet_skip | (refine wqr_box rfl _ (.tmp 7) rfl st_rule rfl (hbox.drew).reach ?_) | (refine wqm_cut_l Ru.cs_length rfl _ (.tmp 57) el_rule rfl (how.rd.drew).reach (Th.Reach.refl _ _) _ rfl rfl j (by omega) ?_; intro A59 r59) | go_big_quiet_step (fail) | quiet_step (fail))
            refine wpQuiet_nil ?_
            refine hKF _ ?_
            clear hKF KF
            refine wpTree_done ?_
            refine hKT _ _ ?_
            clear hKT KT
            have H60 : Below w6.heap.size w6 w60 := ((bdrew1 w6).trans (below_alloc w6.drew (Nat.le_refl _) _)).trans hb61
            have how6 := (how.below H60).rd
            clear hg60 hb61 r59 hbox
            go_wp2_with (first
              | ((with_reducible refine on_slice (.tmp 62) ?_); refine wm_cut_h Ru.cs_length rfl _ _ el_rule rfl (how6.alloc _) _ rfl rfl j (by omega) ?_; intro A64 r64)
              | ((with_reducible refine on_append (.tmp 61) (.tmp 64) ?_); refine wm_append Ru.cs_length rfl (.tmp 61) (.tmp 64) _ rfl el_rule Ru.one rfl (OwM.lit (base := w60.heap.size) (e := 40) (xs := []) Ru.cs_length w60 #[] 0 (Nat.le_refl _) (by simp [maxLen]) rfl rfl) rfl r64 (by omega) (by omega) (by first | (simp; done) | (simp; omega) | omega) ?_; intro A65 c65 w65 how65 hg65 hb65; rw [Nat.zero_add, List.nil_append] at how65; have H65 : Below w60.heap.size w60 w65 := (below_alloc w60 (Nat.le_refl _) _).trans hb65; have r60 := (how60.below H65).rd)
              | ((with_reducible refine on_append (.tmp 65) (.tmp 66) ?_); refine wm_append Ru.cs_length rfl (.tmp 65) (.tmp 66) _ rfl el_rule Ru.one rfl how65 rfl r60 (by omega) (by omega) H65.size ?_; intro A67 c67 w67 how67 _ hb67))
            go_roundw
            case rel => exact ⟨k + 1, j + (1 + (m - j)), c67, A67, by omega, rfl, by go_num, by omega, (by rw [Hsn.out, Hins.out]; exact how67.base_le (Nat.le_trans hb60 H60.size)), (hb.trans (H60.mono hb60)).trans ((H65.trans hb67).mono (Nat.le_trans hb60 H60.size))⟩
            case measure => simp [intOf]; omega
        · have hjm' : j = m := by omega
          have hp : place out s = j := place_at hbel.out (by omega) (fun u hu => by have := (List.getElem?_eq_some_iff.1 hu).1; omega)
          have hins : ins out s = out.take j ++ s :: out.drop j := ins_last hp (by omega)
          have Hins := Lib.hid hins
          have hjm2 : decide (j < m) = false := by simp; omega
          clear hp hins hjm' hjm
          go_wp2
          refine wp_region_reach (by kernel_rfl) (by kernel_rfl) ?_
          repeat (first | go_big_quiet_skip | go_big_quiet_step (fail) | quiet_step (fail))
          refine wpQuiet_nil ?_
          rintro _ ⟨q, rfl⟩
          have hqw5 := q.h
          obtain ⟨w5, hw5'⟩ : ∃ W, q.w = W := ⟨_, rfl⟩
          rw [hw5'] at hqw5 ⊢
          clear hw5' q
          have how := how.below hqw5
          have hbox := hbox.step hqw5
          have hb := hb.trans (hqw5.mono hwq)
          have hwq := hb.size
          clear hxs hbx
          go_wp2
          refine wp_region_reach (by kernel_rfl) (by kernel_rfl) ?_
          repeat (first | go_big_quiet_skip | go_big_quiet_step (fail) | quiet_step (fail))
          refine wpQuiet_nil ?_
          rintro _ ⟨q, rfl⟩
          have hqw6 := q.h
          obtain ⟨w6, hw6'⟩ : ∃ W, q.w = W := ⟨_, rfl⟩
          rw [hw6'] at hqw6 ⊢
          clear hw6' q
          have how := how.below hqw6
          have hbox := hbox.step hqw6
          have hb := hb.trans (hqw6.mono hwq)
          clear hwq
          go_wp2
          have hb60 := hb.size
          refine wp_region_tree (.float 0 1 (.float 2 3 (.one 1 (.one 5 (.float 6 1 .done))))) (Th.Reach (w6.heap.size)) (Th.Reach.trans _) (Th.Reach.refl _) (by kernel_rfl) (by kernel_rfl) (fun KT hKT => ?_)
          refine wpTree_float (fun KF hKF => ?_)
          simp only [List.drop, List.take]
          repeat (first | go_big_quiet_skip | (refine wqr_box rfl _ (.tmp 7) rfl st_rule rfl (hbox.drew).reach ?_) | (refine wqm_cut_l Ru.cs_length rfl _ (.tmp 57) el_rule rfl (how.rd.drew).reach (Th.Reach.refl _ _) _ rfl rfl j (by omega) ?_; intro A59 r59) | go_big_quiet_step (fail) | quiet_step (fail))
          refine wpQuiet_nil ?_
          refine hKF _ ?_
          clear hKF KF
          refine wpTree_float (fun KF hKF => ?_)
          simp only [List.drop, List.take]
          repeat (first | go_big_quiet_skip | (refine wqr_box rfl _ (.tmp 7) rfl st_rule rfl (hbox.drew).reach ?_) | (refine wqm_cut_l Ru.cs_length rfl _ (.tmp 57) el_rule rfl (how.rd.drew).reach (Th.Reach.refl _ _) _ rfl rfl j (by omega) ?_; intro A59 r59) | go_big_quiet_step (fail) | quiet_step (fail))
          refine wpQuiet_nil ?_
          refine hKF _ ?_
          clear hKF KF
          refine wpTree_one (fun KO hKO => ?_)
          simp only [List.drop, List.take]
          go_wp2_with (first | (with_reducible refine on_append (.tmp 56) (.tmp 59) ?_); refine wm_append Ru.cs_length rfl (.tmp 56) (.tmp 59) _ rfl el_rule Ru.one rfl (OwM.lit (base := w6.heap.size) (e := 40) (xs := [s]) Ru.cs_length w6.drew #[.int .u32 s.a, .int .i64 s.n, .int .i64 s.act, .int .i64 s.next] 1 (Nat.le_refl _) (by simp [maxLen]) rfl rfl) rfl (r59 _ (Th.Reach.of (below_alloc w6.drew (Nat.le_refl _) _))) (by omega) (by omega) (by first | (simp; done) | (simp; omega) | omega) ?_; intro A60 c60 w60 how60 hg60 hb61)
          refine anch_end (Th.Reach.of (by first | exact Below.refl _ _ | exact below_alloc _ (by first | omega | (simp; done) | (simp; omega)) _ | exact below_alloc2 _ (by first | omega | (simp; done) | (simp; omega)) _ _ | exact below_alloc2d _ (by simp) _ _ | exact bdrew _ _ | assumption | (exact Below.mono (by assumption) (by first | (simp; done) | (simp; omega) | omega | assumption)))) (hKO _ _ ?_)
          clear hKO KO
          refine wpTree_one (fun KO hKO => ?_)
          simp only [List.drop, List.take]
          go_wp2_with (first | (with_reducible refine on_append (.tmp 56) (.tmp 59) ?_); refine wm_append Ru.cs_length rfl (.tmp 56) (.tmp 59) _ rfl el_rule Ru.one rfl (OwM.lit (base := w6.heap.size) (e := 40) (xs := [s]) Ru.cs_length w6.drew #[.int .u32 s.a, .int .i64 s.n, .int .i64 s.act, .int .i64 s.next] 1 (Nat.le_refl _) (by simp [maxLen]) rfl rfl) rfl (r59 _ (Th.Reach.of (below_alloc w6.drew (Nat.le_refl _) _))) (by omega) (by omega) (by first | (simp; done) | (simp; omega) | omega) ?_; intro A60 c60 w60 how60 hg60 hb61)
          refine anch_end (Th.Reach.of (by first | exact Below.refl _ _ | exact below_alloc _ (by first | omega | (simp; done) | (simp; omega)) _ | exact below_alloc2 _ (by first | omega | (simp; done) | (simp; omega)) _ _ | exact below_alloc2d _ (by simp) _ _ | exact bdrew _ _ | assumption | (exact Below.mono (by assumption) (by first | (simp; done) | (simp; omega) | omega | assumption)))) (hKO _ _ ?_)
          clear hKO KO
          refine wpTree_float (fun KF hKF => ?_)
          simp only [List.drop, List.take]
          repeat (first | go_big_quiet_skip | (refine wqr_box rfl _ (.tmp 7) rfl st_rule rfl (hbox.drew).reach ?_) | (refine wqm_cut_l Ru.cs_length rfl _ (.tmp 57) el_rule rfl (how.rd.drew).reach (Th.Reach.refl _ _) _ rfl rfl j (by omega) ?_; intro A59 r59) | go_big_quiet_step (fail) | quiet_step (fail))
          refine wpQuiet_nil ?_
          refine hKF _ ?_
          clear hKF KF
          refine wpTree_done ?_
          refine hKT _ _ ?_
          clear hKT KT
          have H60 : Below w6.heap.size w6 w60 := ((bdrew1 w6).trans (below_alloc w6.drew (Nat.le_refl _) _)).trans hb61
          have how6 := (how.below H60).rd
          clear hg60 hb61 r59 hbox
          go_wp2_with (first
            | ((with_reducible refine on_slice (.tmp 62) ?_); refine wm_cut_h Ru.cs_length rfl _ _ el_rule rfl (how6.alloc _) _ rfl rfl j (by omega) ?_; intro A64 r64)
            | ((with_reducible refine on_append (.tmp 61) (.tmp 64) ?_); refine wm_append Ru.cs_length rfl (.tmp 61) (.tmp 64) _ rfl el_rule Ru.one rfl (OwM.lit (base := w60.heap.size) (e := 40) (xs := []) Ru.cs_length w60 #[] 0 (Nat.le_refl _) (by simp [maxLen]) rfl rfl) rfl r64 (by omega) (by omega) (by first | (simp; done) | (simp; omega) | omega) ?_; intro A65 c65 w65 how65 hg65 hb65; rw [Nat.zero_add, List.nil_append] at how65; have H65 : Below w60.heap.size w60 w65 := (below_alloc w60 (Nat.le_refl _) _).trans hb65; have r60 := (how60.below H65).rd)
            | ((with_reducible refine on_append (.tmp 65) (.tmp 66) ?_); refine wm_append Ru.cs_length rfl (.tmp 65) (.tmp 66) _ rfl el_rule Ru.one rfl how65 rfl r60 (by omega) (by omega) H65.size ?_; intro A67 c67 w67 how67 _ hb67))
          go_roundw
          case rel => exact ⟨k + 1, j + (1 + (m - j)), c67, A67, by omega, rfl, by go_num, by omega, (by rw [Hsn.out, Hins.out]; exact how67.base_le (Nat.le_trans hb60 H60.size)), (hb.trans (H60.mono hb60)).trans ((H65.trans hb67).mono (Nat.le_trans hb60 H60.size))⟩
          case measure => simp [intOf]; omega
    · have hkn : fitTo l nodes k = fitT l nodes := fitTo_end nodes (by omega)
      rw [hkn] at how
      have hk3 : (k : Int) ≥ n ∨ ((k : Int) < n ∧ (k : Int) ≥ 20) := by omega
      rcases hk3 with hk3 | ⟨hk3, hk4⟩
      all_goals go_wp2
      all_goals go_ret
      all_goals exact ⟨A1, m, c1, rfl, by omega, how, hb⟩
end Go.Proofs.Ytdmkiejaejlajaa

/-! ### NumPlain -/
namespace Go.Th
/-- n as s bytes, the highest one first. -/
def be (n : Nat) : Nat → List UInt8
  | 0 => []
  | s + 1 => be (n / 256) s ++ [UInt8.ofNat n]
theorem be_length (s : Nat) : ∀ n, (be n s).length = s := by
  induction s with
  | zero => intro n; rfl
  | succ s ih => intro n; simp [be, ih]
/-- The number of some bytes, behind a number. -/
def valFrom (a : Nat) (bs : List UInt8) : Nat := bs.foldl (fun a b => a * 256 + b.toNat) a
def val (bs : List UInt8) : Nat := valFrom 0 bs
theorem valFrom_append (a : Nat) (xs ys : List UInt8) : valFrom a (xs ++ ys) = valFrom (valFrom a xs) ys := by simp [valFrom]
theorem val_snoc (xs : List UInt8) (b : UInt8) : val (xs ++ [b]) = val xs * 256 + b.toNat := by simp [val, valFrom]
theorem valFrom_eq (bs : List UInt8) : ∀ a, valFrom a bs = a * 256 ^ bs.length + val bs := by
  induction bs with
  | nil => intro a; simp [valFrom, val]
  | cons b bs ih =>
    intro a
    have h1 : valFrom a (b :: bs) = valFrom (a * 256 + b.toNat) bs := rfl
    have h2 : val (b :: bs) = valFrom (0 * 256 + b.toNat) bs := rfl
    rw [h1, h2, ih, ih (0 * 256 + b.toNat), List.length_cons, Nat.pow_succ, Nat.add_mul, Nat.zero_mul, Nat.zero_add, Nat.mul_assoc, Nat.mul_comm 256, Nat.add_assoc]
theorem val_append (xs ys : List UInt8) : val (xs ++ ys) = val xs * 256 ^ ys.length + val ys := by
  show valFrom 0 (xs ++ ys) = _
  rw [valFrom_append, valFrom_eq]
  rfl
theorem val_lt (bs : List UInt8) : val bs < 256 ^ bs.length := by
  suffices h : ∀ bs : List UInt8, ∀ xs : List UInt8, bs = xs.reverse → val bs < 256 ^ bs.length from h bs bs.reverse (by simp)
  intro bs xs h
  subst h
  induction xs with
  | nil => simp [val, valFrom]
  | cons b xs ih =>
    rw [List.reverse_cons, val_snoc, List.length_append, List.length_singleton, Nat.pow_succ]
    have := b.toNat_lt
    omega
theorem val_be (s : Nat) : ∀ n, n < 256 ^ s → val (be n s) = n := by
  induction s with
  | zero => intro n h; simp at h; subst h; rfl
  | succ s ih =>
    intro n h
    rw [Nat.pow_succ] at h
    rw [be, val_snoc, ih (n / 256) (by omega)]
    simp
    omega
theorem be_val (bs : List UInt8) : be (val bs) bs.length = bs := by
  suffices h : ∀ xs : List UInt8, be (val xs.reverse) xs.reverse.length = xs.reverse by
    have := h bs.reverse
    simpa using this
  intro xs
  induction xs with
  | nil => rfl
  | cons b xs ih =>
    rw [List.reverse_cons, val_snoc, List.length_append, List.length_singleton, be]
    have hb := b.toNat_lt
    rw [show (val xs.reverse * 256 + b.toNat) / 256 = val xs.reverse by omega, ih]
    congr 2
    apply UInt8.toNat_inj.1
    simp
/-- Byte j of them. -/
theorem be_get (s : Nat) : ∀ n i, i < s → (be n s)[s - 1 - i]? = some (UInt8.ofNat (n / 256 ^ i)) := by
  induction s with
  | zero => intro n i h; omega
  | succ s ih =>
    intro n i h
    rw [be]
    rcases Nat.eq_zero_or_pos i with h0 | h0
    · subst h0
      rw [List.getElem?_append_right (by rw [be_length]; omega), be_length]
      simp
    · rw [List.getElem?_append_left (by rw [be_length]; omega)]
      have := ih (n / 256) (i - 1) (by omega)
      rw [show s + 1 - 1 - i = s - 1 - (i - 1) by omega, this, Nat.div_div_eq_div_mul, ← Nat.pow_succ', show (i - 1).succ = i by omega]
theorem val_take_succ (bs : List UInt8) (k : Nat) (x : UInt8) (h : bs[k]? = some x) : val (bs.take (k + 1)) = val (bs.take k) * 256 + x.toNat := by
  rw [List.take_add_one, h]
  exact val_snoc _ _
/-- The round of Put's loop. -/
theorem be_fill (n s i : Nat) (h : i < s) : (List.replicate (s - i) (0 : UInt8) ++ (be n s).drop (s - i)).set (s - 1 - i) (UInt8.ofNat (n / 256 ^ i)) = List.replicate (s - (i + 1)) 0 ++ (be n s).drop (s - (i + 1)) := by
  apply List.ext_getElem?
  intro j
  rw [List.getElem?_set]
  have hl := be_length s n
  by_cases hj : s - 1 - i = j
  · subst hj
    rw [if_pos rfl, if_pos (by simp; omega), List.getElem?_append_right (by simp; omega), List.getElem?_drop, List.length_replicate]
    rw [show s - (i + 1) + (s - 1 - i - (s - (i + 1))) = s - 1 - i by omega, be_get s n i h]
  · rw [if_neg hj]
    rcases Nat.lt_or_ge j (s - (i + 1)) with h1 | h1
    · rw [List.getElem?_append_left (by simp; omega), List.getElem?_append_left (by simp; omega), List.getElem?_replicate, List.getElem?_replicate, if_pos (by omega), if_pos h1]
    · rw [List.getElem?_append_right (by simp; omega), List.getElem?_append_right (by simp; omega), List.getElem?_drop, List.getElem?_drop, List.length_replicate, List.length_replicate]
      congr 1
      omega
theorem val_cons (b : UInt8) (bs : List UInt8) : val (b :: bs) = b.toNat * 256 ^ bs.length + val bs := by
  have := val_append [b] bs
  simpa [val, valFrom] using this
/-- Of rows of one length the less number has the less bytes. -/
theorem less_val : ∀ xs ys : List UInt8, xs.length = ys.length → Op.bytesLess xs ys = decide (val xs < val ys)
  | [], [], _ => by simp [Op.bytesLess, val, valFrom]
  | a :: xs, b :: ys, h => by
    have hl : xs.length = ys.length := by simpa using h
    have ih := less_val xs ys hl
    have h1 := val_lt xs
    have h2 := val_lt ys
    rw [Op.bytesLess, ih, val_cons, val_cons, hl]
    rw [hl] at h1
    generalize 256 ^ ys.length = K at *
    rcases Nat.lt_trichotomy a.toNat b.toNat with h3 | h3 | h3
    · have e1 : a < b := h3
      have e2 : a.toNat * K + val xs < b.toNat * K + val ys := by
        have : (a.toNat + 1) * K ≤ b.toNat * K := Nat.mul_le_mul_right K h3
        rw [Nat.add_mul] at this
        omega
      simp [e1, e2]
    · have e1 : a = b := UInt8.toNat_inj.1 h3
      subst e1
      simp
    · have e1 : ¬ a < b := fun h => by have : a.toNat < b.toNat := h; omega
      have e0 : a ≠ b := fun h => by subst h; omega
      have e2 : ¬ a.toNat * K + val xs < b.toNat * K + val ys := by
        have : (b.toNat + 1) * K ≤ a.toNat * K := Nat.mul_le_mul_right K h3
        rw [Nat.add_mul] at this
        omega
      simp [e1, e2, e0]
theorem less_be (x y s : Nat) (hx : x < 256 ^ s) (hy : y < 256 ^ s) : Op.bytesLess (be x s) (be y s) = decide (x < y) := by
  rw [less_val _ _ (by rw [be_length, be_length]), val_be s x hx, val_be s y hy]
theorem be_inj (x y s : Nat) (hx : x < 256 ^ s) (hy : y < 256 ^ s) : be x s = be y s ↔ x = y := by
  refine ⟨fun h => ?_, fun h => by rw [h]⟩
  rw [← val_be s x hx, h, val_be s y hy]
theorem beq_be (x y s : Nat) (hx : x < 256 ^ s) (hy : y < 256 ^ s) : (be x s == be y s) = decide (x = y) := by
  rw [Bool.eq_iff_iff, beq_iff_eq, decide_eq_true_iff, be_inj x y s hx hy]
theorem beq_be' (x y s : Nat) (hx : x < 256 ^ s) (hy : y < 256 ^ s) : (be x s == be y s) = ((x : Int) == (y : Int)) := by
  rw [beq_be x y s hx hy, Bool.eq_iff_iff, beq_iff_eq, decide_eq_true_iff]
  omega
/-- One byte more ahead. -/
theorem be_cons (k : Nat) : ∀ n, be n (k + 1) = UInt8.ofNat (n / 256 ^ k) :: be n k := by
  induction k with
  | zero => intro n; simp [be]
  | succ k ih =>
    intro n
    rw [be, ih (n / 256), be, Nat.div_div_eq_div_mul, Nat.pow_succ', List.cons_append]
theorem be_mod (s : Nat) : ∀ n, be (n % 256 ^ s) s = be n s := by
  induction s with
  | zero => intro n; rfl
  | succ s ih =>
    intro n
    have h1 : n % 256 ^ (s + 1) / 256 = n / 256 % 256 ^ s := by
      rw [Nat.pow_succ', Nat.mod_mul_right_div_self]
    have h2 : UInt8.ofNat (n % 256 ^ (s + 1)) = UInt8.ofNat n := by
      apply UInt8.toNat_inj.1
      simp only [UInt8.toNat_ofNat']
      rw [Nat.pow_succ]
      exact Nat.mod_mul_left_mod n (256 ^ s) 256
    rw [be, be, h1, h2, ih]
/-- More bytes: noughts ahead. -/
theorem be_wide (x s : Nat) : ∀ k, x < 256 ^ s → be x (k + s) = List.replicate k 0 ++ be x s := by
  induction s generalizing x with
  | zero =>
    intro k h
    have hx : x = 0 := by simpa using h
    subst hx
    clear h
    induction k with
    | zero => rfl
    | succ k ih =>
      have : be 0 (k + 1 + 0) = be 0 (k + 0) ++ [0] := rfl
      rw [this, ih]
      simp [be, List.replicate_succ']
  | succ s ih =>
    intro k h
    rw [Nat.pow_succ] at h
    rw [← Nat.add_assoc, be, be, ih (x / 256) k (by omega), List.append_assoc]
end Go.Th

/-! ### Num -/
namespace Go.Proofs.Ytdmkiejaejlajaa
open Go.RowKit Go.Th
/-- A row of the call's own, and a whole number, are returned; what was there is as it was. -/
def RetRow (w : World) (n : Nat) (bs : List UInt8) (er : Int) (e : Ending) (w' : World) : Prop :=
  ∃ A c, e = .returned (.tuple #[.slice A n c, .int .i64 er]) ∧ OwS bv w' w.heap.size 5 A n c bs ∧ Below w.heap.size w w'

theorem put_byte (n : Int) (h3 : 0 ≤ n) (i : Nat) : bv (UInt8.ofNat (n.toNat / 256 ^ i)) = .int .u8 (n / 2 ^ (8 * i) % 256) := by
  obtain ⟨m, rfl⟩ := Int.eq_ofNat_of_zero_le h3
  simp only [bv, Value.int.injEq, true_and, UInt8.toNat_ofNat', Int.toNat_natCast]
  have e3 : (256 : Nat) ^ i = 2 ^ (8 * i) := by rw [Nat.pow_mul]
  rw [e3, Int.natCast_emod, Int.natCast_ediv, Int.natCast_pow]
  rfl

/-- Nothing, and a whole number other than 0. -/
def RetNil (er : Int) (w : World) (e : Ending) (w' : World) : Prop := e = .returned (.tuple #[.slice none 0 0, .int .i64 er]) ∧ w = w'

/-- Two whole numbers, the world as it was. -/
def RetNum (n er : Int) (w : World) (e : Ending) (w' : World) : Prop := e = .returned (.tuple #[.int .i64 n, .int .i64 er]) ∧ w = w'

end Go.Proofs.Ytdmkiejaejlajaa

/-! ### NumRefB -/
namespace Go.Proofs.Ytdmkiejaejlajaa
open Go.RowKit Go.Th
theorem and_255 (x : Nat) (h : x < 9223372036854775808) : bits .and .i64 (x : Int) 255 = ((x % 256 : Nat) : Int) := by
  have := and_i64 x 255 h (by omega)
  rw [show x &&& 255 = x % 256 from Nat.and_two_pow_sub_one_eq_mod x 8] at this
  exact this

theorem and_byte (x : Int) : ∃ b : UInt8, bv b = .int .u8 (bits .and .i64 x 255 % 256) :=
  ⟨UInt8.ofNat (bits .and .i64 x 255 % 256).toNat, by simp only [bv, UInt8.toNat_ofNat', Value.int.injEq, true_and]; omega⟩
/-- Does a number fit s bytes? -/
def Fits (s : Nat) (n : Int) : Prop := 0 ≤ n ∧ n.toNat < 256 ^ s
/-- Nothing, and a whole number; what was there is as it was. -/
def RetNone (er : Int) (w : World) (e : Ending) (w' : World) : Prop := e = .returned (.tuple #[.slice none 0 0, .int .i64 er]) ∧ Below w.heap.size w w'
end Go.Proofs.Ytdmkiejaejlajaa

/-! ### Append -/
namespace Go.Th
open Go.RowKit
section
variable {P : Program} {ops : Array Oper} {rest : List Oper} {o : Oper} {a : Act} {Q : Exit → Act → World → Prop} {w : World}
/-- append, and where the row lies then. -/
theorem wl_appendA (hw : Region.wanted o (yielded ops a.tmps) = true) (s x : Operand) (t : TypeId)
    (ho : o.op = .call { callee := .builtin .append, args := #[s, x], argTypes := #[t, t] })
    {base E : Nat} {z : Value} {bytes : Nat} (el : El P t E z bytes) {α : Type} {f : α → Value} (hf : ∀ x, (f x).oneCell' = true)
    {A : Option Addr} {n c : Nat} (hs : a.eval s = .slice A n c) {xs : List α} (hown : OwS f w base E A n c xs)
    {B : Nat} {A' : Option Addr} {m c' : Nat} (hx : a.eval x = .slice A' m c') {ys : List α} (hr : RdS f w B A' m c' ys)
    (hbytes : (n + m) * bytes ≤ 140737488355328) (hpos : 0 < bytes) (hbase : base ≤ w.heap.size)
    (h : ∀ A'' c'' w', OwS f w' base E A'' (n + m) c'' (xs ++ ys) → w.grownBy w' (rowOf A) → Below base w w' → (A'' = A ∨ A'' = some ⟨w.heap.size, 0, Option.none⟩) → wpList P ops Q rest (a.put o.dst (.slice A'' (n + m) c'')) w') : wpList P ops Q (o :: rest) a w := by
  obtain ⟨i, hi, hz, hsize, hby⟩ := el.info
  have h63 : n + m ≤ maxLen := by
    have := Nat.le_mul_of_pos_right (n + m) hpos
    simp only [maxLen]; omega
  obtain ⟨A'', c'', w', hrun, h2, h3, h4⟩ := run_append (P := P) (ty := o.type) (c' := c') el.ht hi hz hsize hby (by rw [el.cells]; rfl) (by omega) hown.ow (news := ys.map f) (by rw [List.length_map, hr.len]; omega) hr.rd (by
    intro u hu
    obtain ⟨y, _, rfl⟩ := List.mem_map.1 hu
    exact hf y) h63 hbytes hbase
  refine wl_run hw ?_ (h A'' c'' w' ⟨by rw [← List.map_append] at h2; exact h2⟩ h3 ((Below.refl _ _).grown h3 hbase hown.ow.row_ge) h4)
  simp only [execOp, ho, resolve, invoke, builtin, Sem.run_bind, Sem.run_pure, Result.andThen, List.map_toArray, List.map_cons, List.map_nil, hs, hx, hrun]
end
end Go.Th

/-! ### RulePut -/
namespace Go.Proofs.Ytdmkiejaejlajaa
open Go.RowKit Go.Th
set_option linter.unusedVariables false
/-- A part of a rule: its number, and how many bytes it has. -/
def gv (r : Ru) : Nat → Int
  | 0 => r.a
  | 1 => r.n
  | 2 => r.act
  | _ => r.next
def gs : Nat → Nat
  | 0 => 4
  | 1 => 1
  | 2 => 1
  | _ => 2
def Fit1 (r : Ru) (i : Nat) : Prop := 0 ≤ gv r i ∧ gv r i < 256 ^ gs i
def pre (r : Ru) : Nat → List UInt8
  | 0 => []
  | k + 1 => pre r k ++ be (gv r k).toNat (gs k)
theorem pre_length (r : Ru) : (pre r 4).length = 8 := by simp [pre, be_length, gs]
theorem pre_le (r : Ru) : ∀ k, k ≤ 4 → (pre r k).length ≤ 8
  | 0, _ => by simp [pre]
  | 1, _ => by simp [pre, be_length, gs]
  | 2, _ => by simp [pre, be_length, gs]
  | 3, _ => by simp [pre, be_length, gs]
  | 4, _ => by simp [pre, be_length, gs]
  | k + 5, h => by omega
/-- A row of bytes of the call's own, and an error's number. -/
def RetBytes (bs : List UInt8) (er : Int) (w : World) (e : Ending) (w' : World) : Prop :=
  ∃ A n c, e = .returned (.tuple #[.slice A n c, .int .i64 er]) ∧ OwS bv w' w.heap.size 5 A n c bs ∧ Below w.heap.size w w'
end Go.Proofs.Ytdmkiejaejlajaa

/-! ### RuleTake -/
namespace Go.Proofs.Ytdmkiejaejlajaa
open Go.RowKit Go.Th
set_option linter.unusedVariables false
/-- The rule of bytes. -/
def rtk (bs : List UInt8) : Ru := ⟨val (bs.take 4), val ((bs.drop 4).take 1), val ((bs.drop 5).take 1), val ((bs.drop 6).take 2)⟩
def off : Nat → Nat
  | 0 => 0
  | 1 => 4
  | 2 => 5
  | 3 => 6
  | _ => 8
def stage (bs : List UInt8) : Nat → Ru
  | 0 => ⟨0, 0, 0, 0⟩
  | 1 => ⟨val (bs.take 4), 0, 0, 0⟩
  | 2 => ⟨val (bs.take 4), val ((bs.drop 4).take 1), 0, 0⟩
  | 3 => ⟨val (bs.take 4), val ((bs.drop 4).take 1), val ((bs.drop 5).take 1), 0⟩
  | _ => rtk bs
def RetRu (r : Ru) (er : Int) (w : World) (e : Ending) (w' : World) : Prop :=
  e = .returned (.tuple #[.agg #[.int .u32 r.a, .int .i64 r.n, .int .i64 r.act, .int .i64 r.next], .int .i64 er]) ∧ Below w.heap.size w w'
end Go.Proofs.Ytdmkiejaejlajaa

/-! ### RuleRef -/
namespace Go.Proofs.Ytdmkiejaejlajaa
open Go.RowKit Go.Th
set_option linter.unusedVariables false
theorem ends_at (r : Ru) (k : Nat) (h : ∀ j, j < k → Fit1 r j) (hf : Fit1 r k) : ∀ j, j < k + 1 → Fit1 r j := fun j hj => by
  rcases Nat.lt_or_ge j k with h1 | h1
  · exact h j h1
  · have : j = k := by omega
    subst this
    exact hf
theorem val_one (bs : List UInt8) (j : Nat) (x : UInt8) (h : bs[j]? = some x) : val ((bs.drop j).take 1) = x.toNat := by
  have e : (bs.drop j).take 1 = [x] := by
    have h2 : (bs.drop j)[0]? = some x := by rw [List.getElem?_drop]; simpa using h
    match hd : bs.drop j, h2 with
    | y :: ys, h2 => simp at h2; simp [h2]
  rw [e]
  simp [val, valFrom]
end Go.Proofs.Ytdmkiejaejlajaa

/-! ### RuleShown -/
namespace Go.Proofs.Ytdmkiejaejlajaa
open Go.RowKit Go.Th
set_option linter.unusedVariables false
theorem fit_10 : ∀ j, j < 4 → Fit1 ⟨167772160, 8, 1, 3⟩ j := by
  intro j hj
  have : j = 0 ∨ j = 1 ∨ j = 2 ∨ j = 3 := by omega
  rcases this with rfl | rfl | rfl | rfl <;> (unfold Fit1 gv gs; decide)
theorem pre_10 : pre ⟨167772160, 8, 1, 3⟩ 4 = [10, 0, 0, 0, 8, 1, 0, 3] := by decide +kernel
theorem rtk_10 : rtk [10, 0, 0, 0, 8, 1, 0, 3] = ⟨167772160, 8, 1, 3⟩ := by decide +kernel
end Go.Proofs.Ytdmkiejaejlajaa

/-! ### TableLessLaw -/
namespace Go.Th
/-- Rules that are made such as may be, may be. -/
theorem Ru.fit_may (r : Ru) (nodes : Int) (hn : 1 ≤ nodes) (_h : r.Ok) : (r.fit nodes).may nodes = 0 := by
  have hp : pmay (r.fit nodes).a (r.fit nodes).n = 0 := by
    unfold pmay
    rw [if_neg (by show ¬ (r.n % 33 < 0 ∨ 32 < r.n % 33); omega)]
    exact if_pos (lead_mod r.a (r.n % 33))
  have h3 := Int.emod_nonneg r.next (b := nodes) (by omega)
  have h4 := Int.emod_lt_of_pos r.next (b := nodes) (by omega)
  unfold Ru.may
  rw [if_neg (by simp [hp])]
  show (if (if r.act % 3 = 0 then 3 else r.act % 3) = 1 then (if (if r.act % 3 = 1 then r.next % nodes else 0) < 0 ∨ nodes ≤ (if r.act % 3 = 1 then r.next % nodes else 0) then (10 : Int) else 0) else if (if r.act % 3 = 0 then 3 else r.act % 3) = 2 ∨ (if r.act % 3 = 0 then 3 else r.act % 3) = 3 then (if (if r.act % 3 = 1 then r.next % nodes else 0) ≠ 0 then 10 else 0) else 9) = 0
  have hc : r.act % 3 = 0 ∨ r.act % 3 = 1 ∨ r.act % 3 = 2 := by omega
  rcases hc with h0 | h0 | h0 <;> simp [h0] <;> omega
theorem fitted_may {nodes : Int} (hn : 1 ≤ nodes) {l : List Ru} (hf : Fitted nodes l) (ho : ∀ r ∈ l, r.Ok) : ∀ r ∈ l, r.may nodes = 0 := fun r hr => by
  have := Ru.fit_may r nodes hn (ho r hr)
  rwa [hf r hr] at this
theorem cmp_one {r s : Ru} (h : r.cmp s < 0) : s.cmp r = 1 := by
  have h1 := Ru.cmp_neg r s
  have h2 := Ru.cmp_vals r s
  omega
theorem tmayGo_ok {nodes : Int} : ∀ (l : List Ru) (p : Option Ru), (∀ q, p = some q → ∀ r ∈ l, q.cmp r < 0) → Sorted l → (∀ r ∈ l, r.may nodes = 0) → tmayGo nodes p l = 0
  | [], _, _, _, _ => rfl
  | r :: l, p, hp, hs, hm => by
    obtain ⟨h1, h2⟩ := List.pairwise_cons.1 hs
    rw [tmayGo, if_neg (by simp [hm r (by simp)])]
    have ho : outOf p r = false := by
      cases p with
      | none => rfl
      | some q => show decide (r.cmp q ≠ 1) = false; have := cmp_one (hp q rfl r (by simp)); simp [this]
    rw [if_neg (by simp [ho])]
    exact tmayGo_ok l (some r) (fun q hq => by injection hq with hq; subst hq; exact h1) h2 (fun s hs => hm s (by simp [hs]))
theorem tmay_ok {l : List Ru} {nodes : Int} (hs : Sorted l) (hm : ∀ r ∈ l, r.may nodes = 0) : tmay l nodes = 0 := tmayGo_ok l none (fun q h => by cases h) hs hm
/-- Without the rule at place k. -/
def less (l : List Ru) (k : Nat) : List Ru := l.take k ++ l.drop (k + 1)
theorem less_sub (l : List Ru) (k : Nat) : (less l k).Sublist l := by
  have h1 : (l.drop (k + 1)).Sublist (l.drop k) := by rw [← List.drop_drop]; exact List.drop_sublist _ _
  have h2 := List.Sublist.append (List.Sublist.refl (l.take k)) h1
  rw [List.take_append_drop] at h2
  exact h2
theorem less_mem {l : List Ru} {k : Nat} {r t : Ru} (hk : l[k]? = some r) : t ∈ l ↔ t ∈ less l k ∨ t = r := by
  obtain ⟨hl, rfl⟩ := List.getElem?_eq_some_iff.1 hk
  have e : l = l.take k ++ l[k] :: l.drop (k + 1) := by rw [← List.drop_eq_getElem_cons hl, List.take_append_drop]
  constructor
  · intro h
    rw [e] at h
    unfold less
    rcases List.mem_append.1 h with h | h
    · exact .inl (List.mem_append_left _ h)
    · rcases List.mem_cons.1 h with h | h
      · exact .inr h
      · exact .inl (List.mem_append_right _ h)
  · rintro (h | rfl)
    · exact (less_sub l k).mem h
    · exact List.getElem_mem hl
theorem less_not {l : List Ru} (hg : GoodT l) {k : Nat} {r : Ru} (hk : l[k]? = some r) : r ∉ less l k := by
  obtain ⟨hl, rfl⟩ := List.getElem?_eq_some_iff.1 hk
  have e : l = l.take k ++ l[k] :: l.drop (k + 1) := by rw [← List.drop_eq_getElem_cons hl, List.take_append_drop]
  have hs : Sorted l := hg.sorted
  unfold Sorted at hs
  rw [e] at hs
  obtain ⟨_, h2, h3⟩ := List.pairwise_append.1 hs
  obtain ⟨h4, _⟩ := List.pairwise_cons.1 h2
  intro h
  have hz : (l[k]).cmp l[k] = 0 := (Ru.cmp_zero _ _).2 ⟨rfl, rfl⟩
  rcases List.mem_append.1 h with h | h
  · have := h3 _ h (l[k]) (List.mem_cons.2 (.inl rfl)); omega
  · have := h4 _ h; omega
theorem less_good {l : List Ru} (hg : GoodT l) (k : Nat) : GoodT (less l k) := ⟨fun r hr => hg.pre r ((less_sub l k).mem hr), List.Pairwise.sublist (less_sub l k) hg.sorted⟩
theorem less_find {l : List Ru} (hg : GoodT l) {k : Nat} {t : Ru} (hk : l[k]? = some t) (x : Int) {r s : Ru} {ok is : Bool} (hr : tfind l x = (r, ok)) (hs : tfind (less l k) x = (s, is)) :
    (ok = true ∧ r = t ∧ (is = true → s.n < r.n)) ∨ (ok = true ∧ r ≠ t ∧ r ∈ l ∧ t ∈ l ∧ s = r ∧ is = ok) ∨ (ok = false ∧ s = r ∧ is = ok) := by
  have h1 := tfind_best l x
  have h2 := tfind_best (less l k) x
  rw [hr] at h1
  rw [hs] at h2
  have hgl := less_good hg k
  cases ok with
  | false =>
    right; right
    obtain ⟨e1, e2⟩ := h1.1 rfl
    have := hgl.best (x := x) (p := (r, false)) ⟨fun _ => ⟨e1, fun u hu => e2 u ((less_sub l k).mem hu)⟩, fun h => by cases h⟩
    rw [hs] at this
    injection this with a b
    exact ⟨rfl, a, b⟩
  | true =>
    obtain ⟨a1, a2, a3⟩ := h1.2 rfl
    by_cases e : r = t
    · left
      refine ⟨rfl, e, fun hi => ?_⟩
      obtain ⟨b1, b2, b3⟩ := h2.2 hi
      have hsl := (less_sub l k).mem b1
      have c1 := a3 s hsl b2
      rcases Int.lt_or_eq_of_le c1 with h | h
      · exact h
      · have := hg.uniq hsl a1 b2 a2 h
        subst this
        rw [e] at b1
        exact absurd b1 (less_not hg hk)
    · right; left
      have hrl : r ∈ less l k := by
        rcases (less_mem hk).1 a1 with h | h
        · exact h
        · exact absurd h e
      have := hgl.best (x := x) (p := (r, true)) ⟨(fun h => by cases h), fun _ => ⟨hrl, a2, fun u hu hh => a3 u ((less_sub l k).mem hu) hh⟩⟩
      rw [hs] at this
      injection this with a b
      exact ⟨rfl, e, a1, List.mem_of_getElem? hk, a, b⟩
/-- Two rules of a table part in their address or their length. -/
theorem GoodT.part {l : List Ru} (hg : GoodT l) {r t : Ru} (hr : r ∈ l) (ht : t ∈ l) (h : r ≠ t) : (r.a == t.a) = false ∨ ((r.a == t.a) = true ∧ (r.n == t.n) = false) := by
  by_cases e : r.a = t.a
  · right
    refine ⟨by simp [e], ?_⟩
    by_cases e2 : r.n = t.n
    · exact absurd (hg.sorted.key hr ht ((Ru.cmp_zero _ _).2 ⟨e, e2⟩)) h
    · simp [e2]
  · left; simp [e]
end Go.Th

/-! ### RuleBackLaw -/
namespace Go.Proofs.Ytdmkiejaejlajaa
open Go.RowKit Go.Th
set_option linter.unusedVariables false
theorem fit1_all {r : Ru} (ha : 0 ≤ r.a ∧ r.a < 4294967296) (hn : 0 ≤ r.n ∧ r.n < 256) (hc : 0 ≤ r.act ∧ r.act < 256) (hx : 0 ≤ r.next ∧ r.next < 65536) : ∀ j, j < 4 → Fit1 r j := by
  intro j hj
  have : j = 0 ∨ j = 1 ∨ j = 2 ∨ j = 3 := by omega
  rcases this with rfl | rfl | rfl | rfl
  · exact ha
  · exact hn
  · exact hc
  · exact hx
theorem fit1_fit (r : Ru) (h : r.Ok) : ∀ j, j < 4 → Fit1 (r.fit 256) j := by
  have hl := lead_bd r.a (r.n % 33) h.a
  refine fit1_all ⟨hl.1, ?_⟩ ⟨?_, ?_⟩ ⟨?_, ?_⟩ ⟨?_, ?_⟩
  · show lead r.a (r.n % 33) < 4294967296; omega
  · show 0 ≤ r.n % 33; omega
  · show r.n % 33 < 256; omega
  · show 0 ≤ (if r.act % 3 = 0 then 3 else r.act % 3); split <;> omega
  · show (if r.act % 3 = 0 then 3 else r.act % 3) < 256; split <;> omega
  · show 0 ≤ (if r.act % 3 = 1 then r.next % 256 else 0); split <;> omega
  · show (if r.act % 3 = 1 then r.next % 256 else 0) < 65536; split <;> omega
theorem fit1_rtk (bs : List UInt8) : ∀ j, j < 4 → Fit1 (rtk bs) j := by
  have v4 := val_lt (bs.take 4)
  have v1 := val_lt ((bs.drop 4).take 1)
  have v2 := val_lt ((bs.drop 5).take 1)
  have v3 := val_lt ((bs.drop 6).take 2)
  have p : ∀ (l : List UInt8) (k : Nat), (256 : Nat) ^ (l.take k).length ≤ 256 ^ k := fun l k => Nat.pow_le_pow_right (by decide) (by rw [List.length_take]; omega)
  have p4 := p bs 4
  have p1 := p (bs.drop 4) 1
  have p2 := p (bs.drop 5) 1
  have p3 := p (bs.drop 6) 2
  refine fit1_all ⟨?_, ?_⟩ ⟨?_, ?_⟩ ⟨?_, ?_⟩ ⟨?_, ?_⟩ <;> (unfold rtk; simp only; omega)
theorem pre_four (r : Ru) : pre r 4 = be r.a.toNat 4 ++ be r.n.toNat 1 ++ be r.act.toNat 1 ++ be r.next.toNat 2 := rfl
theorem rtk_pre (r : Ru) (h : ∀ j, j < 4 → Fit1 r j) (rest : List UInt8) : rtk (pre r 4 ++ rest) = r := by
  have h0 : 0 ≤ r.a ∧ r.a < 4294967296 := h 0 (by omega)
  have h1 : 0 ≤ r.n ∧ r.n < 256 := h 1 (by omega)
  have h2 : 0 ≤ r.act ∧ r.act < 256 := h 2 (by omega)
  have h3 : 0 ≤ r.next ∧ r.next < 65536 := h 3 (by omega)
  have e : pre r 4 ++ rest = be r.a.toNat 4 ++ (be r.n.toNat 1 ++ (be r.act.toNat 1 ++ (be r.next.toNat 2 ++ rest))) := by
    rw [pre_four]; simp only [List.append_assoc]
  have d4 : (pre r 4 ++ rest).drop 4 = be r.n.toNat 1 ++ (be r.act.toNat 1 ++ (be r.next.toNat 2 ++ rest)) := by
    rw [e]; exact List.drop_left' (be_length _ _)
  have d5 : (pre r 4 ++ rest).drop 5 = be r.act.toNat 1 ++ (be r.next.toNat 2 ++ rest) := by
    rw [show (5 : Nat) = 4 + 1 from rfl, ← List.drop_drop, d4]; exact List.drop_left' (be_length _ _)
  have d6 : (pre r 4 ++ rest).drop 6 = be r.next.toNat 2 ++ rest := by
    rw [show (6 : Nat) = 5 + 1 from rfl, ← List.drop_drop, d5]; exact List.drop_left' (be_length _ _)
  have t0 : (pre r 4 ++ rest).take 4 = be r.a.toNat 4 := by rw [e]; exact List.take_left' (be_length _ _)
  have t1 : ((pre r 4 ++ rest).drop 4).take 1 = be r.n.toNat 1 := by rw [d4]; exact List.take_left' (be_length _ _)
  have t2 : ((pre r 4 ++ rest).drop 5).take 1 = be r.act.toNat 1 := by rw [d5]; exact List.take_left' (be_length _ _)
  have t3 : ((pre r 4 ++ rest).drop 6).take 2 = be r.next.toNat 2 := by rw [d6]; exact List.take_left' (be_length _ _)
  unfold rtk
  rw [t0, t1, t2, t3, val_be 4 _ (by omega), val_be 1 _ (by omega), val_be 1 _ (by omega), val_be 2 _ (by omega)]
  obtain ⟨a, n, act, next⟩ := r
  simp only at h0 h1 h2 h3
  simp only [Ru.mk.injEq]
  omega
theorem pre_rtk {bs : List UInt8} (h : 8 ≤ bs.length) : pre (rtk bs) 4 = bs.take 8 := by
  have e : ∀ (l : List UInt8) (k : Nat), k ≤ l.length → be (val (l.take k)) k = l.take k := fun l k hk => by
    have := be_val (l.take k)
    rwa [List.length_take, Nat.min_eq_left hk] at this
  rw [pre_four]
  show be (val (bs.take 4) : Int).toNat 4 ++ be (val ((bs.drop 4).take 1) : Int).toNat 1 ++ be (val ((bs.drop 5).take 1) : Int).toNat 1 ++ be (val ((bs.drop 6).take 2) : Int).toNat 2 = _
  rw [Int.toNat_natCast, Int.toNat_natCast, Int.toNat_natCast, Int.toNat_natCast, e bs 4 (by omega), e (bs.drop 4) 1 (by rw [List.length_drop]; omega), e (bs.drop 5) 1 (by rw [List.length_drop]; omega), e (bs.drop 6) 2 (by rw [List.length_drop]; omega)]
  rw [show (8 : Nat) = 4 + (1 + (1 + 2)) from rfl, List.take_add, List.take_add, List.drop_drop, List.take_add, List.drop_drop]
  simp only [List.append_assoc]
/-- The place of few's result. -/
def fewB (A : Option Addr) (n c : Nat) : Option Addr := if n ≤ 30 then A else cutA A 0 c
theorem fewRB {A : Option Addr} {n c N : Nat} (hN : min n 30 = N) {w : World} {B : Nat} {bs : List UInt8} (hr : RdS bv w B A n c bs) : RdS bv w B (fewB A n c) N c (bs.take 30) := by
  have hc := hr.cap
  unfold fewB
  split
  · rename_i h
    have e : N = n := by omega
    rw [e, List.take_of_length_le (by rw [hr.len]; omega)]
    exact hr
  · have e : N = 30 := by omega
    rw [e]
    exact hr.cut 0 30 c (by omega) (by omega) (by omega)
end Go.Proofs.Ytdmkiejaejlajaa

/-! ### RuleAll -/
namespace Go.Th
open Go.RowKit
theorem Box.two0 {w : World} {g : Nat} {t : TypeId} {x y : Ru} (h : Box w g t (x.cs ++ y.cs).toArray) : ∀ i v, x.cs[i]? = some v → w.cell? ⟨g, 0 + i, none⟩ = some v := fun i v hi => by
  have hl : i < x.cs.length := (List.getElem?_eq_some_iff.1 hi).1
  rw [Nat.zero_add, h.cell i, List.getElem?_toArray, List.getElem?_append_left hl, hi]
theorem Box.two1 {w : World} {g : Nat} {t : TypeId} {x y : Ru} (h : Box w g t (x.cs ++ y.cs).toArray) : ∀ i v, y.cs[i]? = some v → w.cell? ⟨g, 4 + i, none⟩ = some v := fun i v hi => by
  rw [h.cell (4 + i), List.getElem?_toArray, List.getElem?_append_right (by rw [Ru.cs_length]; omega), Ru.cs_length, Nat.add_sub_cancel_left, hi]
end Go.Th
namespace Go.Proofs.Ytdmkiejaejlajaa
open Go.RowKit Go.Th
set_option linter.unusedVariables false
end Go.Proofs.Ytdmkiejaejlajaa

/-! ### NewArms -/
namespace Go.Th
open Go.RowKit
set_option linter.unusedVariables false
section
variable {P : Program} {ops : Array Oper} {rest : List Oper} {o : Oper} {a : Act} {Q : Exit → Act → World → Prop} {w : World}
/-- A variable is made; where it lies is a name. -/
theorem wl_newBox (hw : Region.wanted o (yielded ops a.tmps) = true) (T : TypeId) (ho : o.op = .alloc T) {cs : Array Value} {k : Nat} (hz : (P.info? T).map (fun i => (i.zero.map Value.cells, i.size)) = some (some cs, k))
    (h : ∀ g w', w.heap.size ≤ g → g < w'.heap.size → Box w' g T cs → Below w.heap.size w w' → wpList P ops Q rest (a.put o.dst (.pointer (some ⟨g, 0, none⟩))) w') : wpList P ops Q (o :: rest) a w := by
  cases hi : P.info? T with
  | none => rw [hi] at hz; simp at hz
  | some i =>
    rw [hi] at hz
    simp only [Option.map_some, Option.some.injEq, Prod.mk.injEq, Option.map_eq_some_iff] at hz
    obtain ⟨⟨z, hz1, hz2⟩, _⟩ := hz
    refine wl_run hw (v := .pointer (some ⟨w.heap.size, 0, none⟩)) ?_ (h _ (w.alloc (.cells cs T)) (Nat.le_refl _) (by simp) (Box.new w cs T) (below_alloc w (Nat.le_refl _) _))
    simp [execOp, ho, Instr.alloc, zeroValue, typeInfo, hi, hz1, newVar, newRow, hz2]
/-- A slice literal is made. -/
theorem wl_sliceM (hw : Region.wanted o (yielded ops a.tmps) = true) (T : TypeId) (n : Nat) (parts : Array (Nat × Operand)) (ho : o.op = .buildSlice T n parts) {E bytes k : Nat} {z : Value} (el : ElM P T E z bytes k) {α : Type} {f : α → List Value} (hf : ∀ x, (f x).length = k) {base : Nat} (xs : List α) (hx : xs.length = n)
    (hs : n * k ≤ 16777216) (hn : 0 < n) (hb : base ≤ w.heap.size)
    {vs : List (Nat × Value)} (hv : parts.toList.map (fun (i, x) => (i, a.eval x)) = vs) (hc : Instr.fill (fun i => some (i * k, k)) ((Array.range (n * k)).map (z.cells[· % z.cells.size]!)) vs = some (xs.flatMap f).toArray)
    (h : ∀ g w', w.heap.size ≤ g → g < w'.heap.size → OwM f k w' base E (some ⟨g, 0, none⟩) n n xs → Below w.heap.size w w' → wpList P ops Q rest (a.put o.dst (.slice (some ⟨g, 0, none⟩) n n)) w') : wpList P ops Q (o :: rest) a w := by
  obtain ⟨i, hi, hz, hk, hby⟩ := el.info
  have hpos : 0 < n * k := Nat.mul_pos hn el.pos
  refine wl_run hw (v := .slice (some ⟨w.heap.size, 0, none⟩) n n) ?_ (h _ (w.alloc (.cells (xs.flatMap f).toArray E)) (Nat.le_refl _) (by simp) (OwM.lit hf w _ n hb (by simp only [maxLen]; have := Nat.le_mul_of_pos_right n el.pos; omega) hx rfl) (below_alloc w (Nat.le_refl _) _))
  simp only [execOp, ho, Sem.run_bind, run_buildSlice w T E n _ _ i z el.ht hi hz (by rw [hk]; omega) (by rw [hk]; omega) (by rw [hk, Array.toList_map]; exact hv ▸ hc), Result.andThen_ok, Sem.run_pure]
theorem on_makeL (l : Operand) {d t c ty pos af g} (h : wpList P ops Q (⟨d, .makeSlice t l c, ty, pos, af, g⟩ :: rest) a w) : wpList P ops Q (⟨d, .makeSlice t l c, ty, pos, af, g⟩ :: rest) a w := h
theorem on_alloc {T : TypeId} {d ty pos af g} (h : wpList P ops Q (⟨d, .alloc T, ty, pos, af, g⟩ :: rest) a w) : wpList P ops Q (⟨d, .alloc T, ty, pos, af, g⟩ :: rest) a w := h
theorem on_sliceLit {T : TypeId} {n : Nat} {ps d ty pos af g} (h : wpList P ops Q (⟨d, .buildSlice T n ps, ty, pos, af, g⟩ :: rest) a w) : wpList P ops Q (⟨d, .buildSlice T n ps, ty, pos, af, g⟩ :: rest) a w := h
theorem OwS.lt {α : Type} {f : α → Value} {base e n c g : Nat} {w : World} {xs : List α} (h : OwS f w base e (some ⟨g, 0, none⟩) n c xs) : base ≤ g ∧ g < w.heap.size := by
  rcases h.ow.form with ⟨e, _⟩ | ⟨g', e, hb, hl⟩
  · cases e
  · injection e with e; injection e with e; subst e; exact ⟨hb, hl⟩
theorem OwM.lt {α : Type} {f : α → List Value} {k base e n c g : Nat} {w : World} {xs : List α} (h : OwM f k w base e (some ⟨g, 0, none⟩) n c xs) : base ≤ g ∧ g < w.heap.size := by
  rcases h.ow.form with ⟨e, _⟩ | ⟨g', e, hb, hl⟩
  · cases e
  · injection e with e; injection e with e; subst e; exact ⟨hb, hl⟩
end
section
variable {P : Program} {ops : Array Oper} {rest : List Oper} {o : Oper} {a : Act} {C : World → Prop} {Q : Act → Prop}
/-- &s[i] of a row of the call's own, in a quiet walk. -/
theorem wqm_place (hw : Region.wanted o (yielded ops a.tmps) = true) (T : TypeId) (s i : Operand) (ho : o.op = .indexAddr T s i) {E bytes k : Nat} {z : Value} (el : ElM P T E z bytes k)
    {g n c : Nat} {kk : IntKind} {I : Int} (hs : a.eval s = .slice (some ⟨g, 0, none⟩) n c) (hi : a.eval i = .int kk I) (j : Nat) (hj : I = (j : Int) ∧ j < n)
    (h : wpQuiet P ops C Q rest (a.put o.dst (.pointer (some ⟨g, j * k, none⟩)))) : wpQuiet P ops C Q (o :: rest) a := by
  obtain ⟨rfl, hj⟩ := hj
  refine wq_run hw (v := .pointer (some ⟨g, j * k, none⟩)) (fun w hC => ?_) h
  have := run_indexAt (P := P) (w := w) T el.ht (el.size w) ⟨g, 0, none⟩ n c kk (j : Int) (by omega) (by omega)
  rw [Addr.add_lit, Nat.zero_add, Int.toNat_natCast] at this
  simp only [execOp, ho, hs, hi, Sem.run_bind, this, Result.andThen, Sem.run_pure]
end
structure KStep (g : Nat) (w0 : World) where
  w : World
  h : w.heap[g]? = w0.heap[g]?
instance (g : Nat) (w : World) : Nonempty (KStep g w) := ⟨⟨w, rfl⟩⟩
def KReach (g : Nat) (w w' : World) : Prop := ∃ p : KStep g w, w' = p.w
theorem KReach.of {g : Nat} {w w' : World} (h : w'.heap[g]? = w.heap[g]?) : KReach g w w' := ⟨⟨w', h⟩, rfl⟩
theorem KReach.refl (g : Nat) (w : World) : KReach g w w := .of rfl
theorem KReach.trans (g : Nat) (x y z : World) (h1 : KReach g x y) (h2 : KReach g y z) : KReach g x z := by
  obtain ⟨p, rfl⟩ := h1
  obtain ⟨q, rfl⟩ := h2
  exact .of (q.h.trans p.h)
attribute [go_sem] KReach
theorem keep_alloc {g : Nat} (w : World) (o : Obj) (h : g < w.heap.size) : (w.alloc o).heap[g]? = w.heap[g]? := (below_alloc w (Nat.le_refl _) o).block g h
theorem keep_grown {g : Nat} {w w' : World} {row : Option Nat} (h : w.grownBy w' row) (hl : g < w.heap.size) (hne : row ≠ some g) : w'.heap[g]? = w.heap[g]? := h.block g hl (fun e => hne e.symm)
theorem Box.keep {w : World} {g : Nat} {t : TypeId} {cs : Array Value} (h : Box w g t cs) (q : KStep g w) : Box q.w g t cs := ⟨q.h.trans h.at_⟩
end Go.Th

/-! ### Keep -/
namespace Go.Th
open Go.RowKit
set_option linter.unusedVariables false
structure KSStep (S : Addr → Prop) (w0 : World) where
  w : World
  h : ∀ a, S a → w.cell? a = w0.cell? a
instance (S : Addr → Prop) (w : World) : Nonempty (KSStep S w) := ⟨⟨w, fun _ _ => rfl⟩⟩
def KSReach (S : Addr → Prop) (w w' : World) : Prop := ∃ p : KSStep S w, w' = p.w
theorem KSReach.of {S : Addr → Prop} {w w' : World} (h : ∀ a, S a → w'.cell? a = w.cell? a) : KSReach S w w' := ⟨⟨w', h⟩, rfl⟩
theorem KSReach.refl (S : Addr → Prop) (w : World) : KSReach S w w := .of fun _ _ => rfl
theorem KSReach.trans (S : Addr → Prop) (x y z : World) (h1 : KSReach S x y) (h2 : KSReach S y z) : KSReach S x z := by
  obtain ⟨p, rfl⟩ := h1
  obtain ⟨q, rfl⟩ := h2
  exact .of fun a ha => (q.h a ha).trans (p.h a ha)
attribute [go_sem] KSReach
theorem ks_alloc {S : Addr → Prop} (w : World) (o : Obj) (h : ∀ a, S a → a.block < w.heap.size) : ∀ a, S a → (w.alloc o).cell? a = w.cell? a := fun a ha => World.cell?_alloc_lt w o a (h a ha)
end Go.Th

/-! ### AppendK -/
namespace Go.Th
open Go.RowKit
set_option linter.unusedVariables false
section
variable {P : Program} {ops : Array Oper} {rest : List Oper} {o : Oper} {a : Act} {Q : Exit → Act → World → Prop} {w : World}
theorem append_keep {base : Nat} {t ty E : TypeId} {i : TypeInfo} {z : Value} {size bytes : Nat} (ht : P.underlying t = some (.slice E)) (hi : P.info? E = some i) (hz : i.zero = some z)
    (hsize : i.size = size) (hby : i.bytes = bytes) (hsz : 0 < size) {g n c : Nat} {xs : List Value} (hown : Ow w base E size (some ⟨g, 0, none⟩) n c xs)
    {ad : Addr} {m c' : Nat} {news : List Value} (hl : news.length = m * size) (hr : ∀ j u, news[j]? = some u → w.cell? (ad.add j) = some u) (h1 : ∀ u ∈ news, u.oneCell' = true)
    (h63 : n + m ≤ maxLen) (hbytes : (n + m) * bytes ≤ 140737488355328) {v' : Value} {w' : World}
    (hrun : (Builtin.append_ #[t, t] ty #[.slice (some ⟨g, 0, none⟩) n c, .slice (some ad) m c']).run P w = .ok v' w') :
    ∀ j, j < n * size → w'.cell? ⟨g, j, none⟩ = w.cell? ⟨g, j, none⟩ := by
  subst hsize hby
  intro j hj
  rcases hown.own.2 with ⟨hv, _⟩ | ⟨g', cap, cur, hv, hbg, hg, hnc, hcm, hcs, htake⟩
  · cases hv
  · injection hv with hv1 _ hv3
    injection hv1 with hv1
    injection hv1 with hv1
    subst hv1 hv3
    have hlt : g < w.heap.size := (Array.getElem?_eq_some_iff.1 hg).1
    have hle : n * i.size ≤ cur.size := by rw [hcs]; exact Nat.mul_le_mul_right _ hnc
    by_cases hroom : n + m ≤ c
    · have hfit : n * i.size + news.length ≤ cur.size := by rw [hl, hcs, ← Nat.add_mul]; exact Nat.mul_le_mul_right _ hroom
      have h := run_append_room (P := P) w t ty E i ht hi g n c cur hg ad m c' news hl hr h1 hroom hfit
      rw [hrun] at h
      injection h with _ h
      subst h
      have hx : (cur.toList.take (n * i.size) ++ news ++ cur.toList.drop (n * i.size + news.length))[j]? = cur.toList[j]? := by
        rw [List.append_assoc, List.getElem?_append_left (by rw [List.length_take, Array.length_toList]; omega), List.getElem?_take, if_pos hj]
      rw [cell_of_row _ g j _ E (0, 0) (setRow_heap w g cur _ E (0, 0) hg), cell_of_row w g j cur E (0, 0) hg]
      simpa using hx
    · have holds : ∀ j u, xs[j]? = some u → w.cell? ((⟨g, 0, none⟩ : Addr).add j) = some u := hown.own.cells (g := g) rfl
      have hsmall : n + m ≤ 9223372036854775807 := by simp only [maxLen] at h63; omega
      have h := run_append_grow (P := P) w t ty E i z ht hi hz ⟨g, 0, none⟩ n c xs hown.own.1 holds ad m c' news hl hr (by omega) (by omega) (growslice_fits (by omega) hbytes)
      rw [hrun] at h
      injection h with _ h
      subst h
      exact World.cell?_alloc_lt w.drew _ ⟨g, j, none⟩ hlt
/-- append to a row that is there: where it lies then, and what it read still reads. -/
theorem wl_appendK (hw : Region.wanted o (yielded ops a.tmps) = true) (s x : Operand) (t : TypeId)
    (ho : o.op = .call { callee := .builtin .append, args := #[s, x], argTypes := #[t, t] })
    {base E : Nat} {z : Value} {bytes : Nat} (el : El P t E z bytes) {α : Type} {f : α → Value} (hf : ∀ x, (f x).oneCell' = true)
    {g n c : Nat} (hs : a.eval s = .slice (some ⟨g, 0, none⟩) n c) {xs : List α} (hown : OwS f w base E (some ⟨g, 0, none⟩) n c xs)
    {B : Nat} {ad : Addr} {m c' : Nat} (hx : a.eval x = .slice (some ad) m c') {ys : List α} (hr : RdS f w B (some ad) m c' ys)
    (hbytes : (n + m) * bytes ≤ 140737488355328) (hpos : 0 < bytes) (hbase : base ≤ w.heap.size)
    (h : ∀ A'' c'' w', OwS f w' base E A'' (n + m) c'' (xs ++ ys) → w.grownBy w' (some g) → Below base w w' → (A'' = some ⟨g, 0, none⟩ ∨ A'' = some ⟨w.heap.size, 0, Option.none⟩) → (∀ j, j < n → w'.cell? ⟨g, j, none⟩ = w.cell? ⟨g, j, none⟩) → wpList P ops Q rest (a.put o.dst (.slice A'' (n + m) c'')) w') : wpList P ops Q (o :: rest) a w := by
  obtain ⟨i, hi, hz, hsize, hby⟩ := el.info
  have h63 : n + m ≤ maxLen := by
    have := Nat.le_mul_of_pos_right (n + m) hpos
    simp only [maxLen]; omega
  have hone : ∀ u ∈ ys.map f, u.oneCell' = true := by
    intro u hu
    obtain ⟨y, _, rfl⟩ := List.mem_map.1 hu
    exact hf y
  have hnl : (ys.map f).length = m * 1 := by rw [List.length_map, hr.len]; omega
  obtain ⟨A'', c'', w', hrun, h2, h3, h4⟩ := run_append (P := P) (ty := o.type) (c' := c') el.ht hi hz hsize hby (by rw [el.cells]; rfl) (by omega) hown.ow hnl hr.rd hone h63 hbytes hbase
  have hk := append_keep el.ht hi hz hsize hby (by omega) hown.ow hnl (hr.rd.cells rfl) hone h63 hbytes hrun
  refine wl_run hw ?_ (h A'' c'' w' ⟨by rw [← List.map_append] at h2; exact h2⟩ h3 ((Below.refl _ _).grown h3 hbase hown.ow.row_ge) h4 (fun j hj => hk j (by omega)))
  simp only [execOp, ho, resolve, invoke, builtin, Sem.run_bind, Sem.run_pure, Result.andThen, List.map_toArray, List.map_cons, List.map_nil, hs, hx, hrun]
/-- The same of elements of k cells. -/
theorem wm_appendK {α : Type} {f : α → List Value} {k : Nat} (hf : ∀ x, (f x).length = k) (hw : Region.wanted o (yielded ops a.tmps) = true) (s x : Operand) (t : TypeId)
    (ho : o.op = .call { callee := .builtin .append, args := #[s, x], argTypes := #[t, t] })
    {base E : Nat} {z : Value} {bytes : Nat} (el : ElM P t E z bytes k) (h1 : ∀ x, ∀ u ∈ f x, u.oneCell' = true)
    {g n c : Nat} (hs : a.eval s = .slice (some ⟨g, 0, none⟩) n c) {xs : List α} (hown : OwM f k w base E (some ⟨g, 0, none⟩) n c xs)
    {B : Nat} {ad : Addr} {m c' : Nat} (hx : a.eval x = .slice (some ad) m c') {ys : List α} (hr : RdM f w B (some ad) m c' ys)
    (hbytes : (n + m) * bytes ≤ 140737488355328) (hpos : 0 < bytes) (hbase : base ≤ w.heap.size)
    (h : ∀ A'' c'' w', OwM f k w' base E A'' (n + m) c'' (xs ++ ys) → w.grownBy w' (some g) → Below base w w' → (A'' = some ⟨g, 0, none⟩ ∨ A'' = some ⟨w.heap.size, 0, Option.none⟩) → (∀ j, j < n * k → w'.cell? ⟨g, j, none⟩ = w.cell? ⟨g, j, none⟩) → wpList P ops Q rest (a.put o.dst (.slice A'' (n + m) c'')) w') : wpList P ops Q (o :: rest) a w := by
  obtain ⟨i, hi, hz, hsize, hby⟩ := el.info
  have h63 : n + m ≤ maxLen := by
    have := Nat.le_mul_of_pos_right (n + m) hpos
    simp only [maxLen]; omega
  have hone : ∀ u ∈ ys.flatMap f, u.oneCell' = true := by
    intro u hu
    obtain ⟨y, _, hy⟩ := List.mem_flatMap.1 hu
    exact h1 y u hy
  have hnl : (ys.flatMap f).length = m * k := by rw [flat_length hf, hr.len]
  obtain ⟨A'', c'', w', hrun, h2, h3, h4⟩ := run_append (P := P) (ty := o.type) (c' := c') el.ht hi hz hsize hby el.cells el.pos hown.ow hnl hr.rd hone h63 hbytes hbase
  have hk := append_keep el.ht hi hz hsize hby el.pos hown.ow hnl (hr.rd.cells rfl) hone h63 hbytes hrun
  refine wl_run hw ?_ (h A'' c'' w' ⟨by rw [← List.flatMap_append] at h2; exact h2, by rw [List.length_append, hown.len, hr.len]⟩ h3 ((Below.refl _ _).grown h3 hbase hown.ow.row_ge) h4 hk)
  simp only [execOp, ho, resolve, invoke, builtin, Sem.run_bind, Sem.run_pure, Result.andThen, List.map_toArray, List.map_cons, List.map_nil, hs, hx, hrun]
end
end Go.Th

/-! ### RegionL -/
namespace Go.Th
open Go.RowKit
set_option linter.unusedVariables false
section
variable {P : Program} {ops : Array Oper} {G : World → World → Prop} {md : Region.Mode} {L : Nat}
/-- No class is asked of operation L. -/
def Gof (L : Nat) (G : World → World → Prop) (i : Nat) : World → World → Prop := fun w w' => i = L ∨ G w w'
def anyL (P : Program) (md : Region.Mode) (ops : Array Oper) (L : Nat) (G : World → World → Prop) (Q : Act → World → Prop) : Nat → Array Bool → Act → World → Prop
  | 0, listed, a, w => Region.ready md ops listed = [] ∧ Q a w
  | fuel + 1, listed, a, w =>
    (Region.ready md ops listed = [] → Q a w) ∧
    ∀ i ∈ Region.ready md ops listed, opG P ops (Gof L G i) i (anyL P md ops L G Q fuel (listed.setIfInBounds i true)) a w
theorem wpAny_of_anyL {Q : Act → World → Prop} {Q' : Exit → Act → World → Prop} (hQ : ∀ a w, Q a w → Q' .normal a w) : ∀ (fuel : Nat) (listed : Array Bool) (a : Act) (w : World), anyL P md ops L G Q fuel listed a w → wpAny P md ops Q' fuel listed a w
  | 0, _, _, _, h => ⟨h.1, hQ _ _ h.2⟩
  | fuel + 1, listed, a, w, h => by
    refine ⟨fun h0 => hQ _ _ (h.1 h0), fun i hi => ?_⟩
    have h1 := h.2 i hi
    unfold opG at h1
    unfold wpOp
    split
    · rename_i ho
      simp only [ho] at h1
      exact wpAny_of_anyL hQ fuel _ _ _ h1
    · rename_i o ho
      simp only [ho] at h1
      split
      · rename_i hw
        simp only [hw, if_true] at h1
        exact .inl (wp_weak (fun a' w' hh => wpAny_of_anyL hQ fuel _ _ _ hh.2) h1)
      · rename_i hw
        simp only [hw] at h1
        exact wpAny_of_anyL hQ fuel _ _ _ h1
theorem yields_opGof {i : Nat} {o : Oper} {v : Value} {a : Act} {w : World} (hr : ∀ x, G x x) (hi : ops[i]? = some o) (hy : YieldsG P ops G o v a w) {K : Act → World → Prop} (h : K (a.put o.dst v) w) : opG P ops (Gof L G i) i K a w := by
  have := hy.opG hr hi h
  unfold Go.Th.opG at *
  simp only [hi] at *
  split
  · rename_i hw
    simp only [hw, if_true] at this
    exact wp_weak (fun a' w' q => ⟨.inr q.1, q.2⟩) this
  · rename_i hw
    simp only [hw] at this
    exact this
/-- Operation j hangs on operation i, in so many steps. -/
def hangs (md : Region.Mode) (ops : Array Oper) : Nat → Nat → Nat → Bool
  | 0, _, _ => false
  | n + 1, j, i => match ops[j]? with
    | none => false
    | some o => o.after.any fun e => Region.binds md e && (e.on == i || hangs md ops n e.on i)
/-- Operation L hangs on all the others. -/
def lastB (md : Region.Mode) (ops : Array Oper) (L : Nat) : Bool := (List.range ops.size).all fun i => i == L || hangs md ops 4 L i
/-- What is listed has what it hangs on listed. -/
def ClosedL (md : Region.Mode) (ops : Array Oper) (listed : Array Bool) : Prop := ∀ k o, ops[k]? = some o → listed.getD k true = true → ∀ e ∈ o.after, Region.binds md e = true → listed.getD e.on true = true
theorem hangs_listed {listed : Array Bool} (hc : ClosedL md ops listed) {i : Nat} : ∀ (n j : Nat) (oj : Oper), ops[j]? = some oj → (∀ e ∈ oj.after, Region.binds md e = true → listed.getD e.on true = true) → hangs md ops n j i = true → listed.getD i true = true
  | 0, _, _, _, _, h => by cases h
  | n + 1, j, oj, hj, hl, h => by
    unfold hangs at h
    rw [hj] at h
    simp only [Array.any_eq_true', Bool.and_eq_true, Bool.or_eq_true, beq_iff_eq] at h
    obtain ⟨e, he, hb, h2⟩ := h
    have h3 := hl e he hb
    rcases h2 with h2 | h2
    · rw [← h2]; exact h3
    · cases ho : ops[e.on]? with
      | none => cases n <;> simp [hangs, ho] at h2
      | some o => exact hangs_listed hc n e.on o ho (hc _ _ ho h3) h2
theorem lastB_spec (h : lastB md ops L = true) {listed : Array Bool} (hc : ClosedL md ops listed) {i j : Nat} {oi oj : Oper} (hi : ops[i]? = some oi) (hj : ops[j]? = some oj) (hji : j ≠ i) (hun : listed.getD i true = false) (hall : ∀ e ∈ oj.after, Region.binds md e = true → listed.getD e.on true = true) : j ≠ L := by
  intro e
  subst e
  unfold lastB at h
  simp only [List.all_eq_true, List.mem_range, Bool.or_eq_true, beq_iff_eq] at h
  rcases h i (Array.getElem?_eq_some_iff.1 hi).1 with h | h
  · exact hji h.symm
  · have := hangs_listed hc 4 j oj hj hall h
    rw [hun] at this
    cases this
theorem getD_up {listed : Array Bool} {k : Nat} (h : listed.getD k false = true) : listed.getD k true = true := by
  unfold Array.getD at *
  split
  · rename_i hk; simpa [hk] using h
  · rfl
theorem ClosedL.set {listed : Array Bool} (hc : ClosedL md ops listed) {j : Nat} (hj : j ∈ Region.ready md ops listed) : ClosedL md ops (listed.setIfInBounds j true) := by
  obtain ⟨hjun, oj, hoj, hall⟩ := mem_ready.1 hj
  have up : ∀ k, listed.getD k true = true → (listed.setIfInBounds j true).getD k true = true := by
    intro k hk
    by_cases e : j = k
    · subst e
      simp [Array.getD]
    · rw [getD_set_ne true e]; exact hk
  intro k o hk hl e he hb
  by_cases ek : j = k
  · subst ek
    rw [hoj] at hk
    injection hk with hk
    subst hk
    exact up _ (getD_up (hall e he hb))
  · rw [getD_set_ne true ek] at hl
    exact up _ (hc k o hk hl e he hb)
theorem ClosedL.start : ClosedL md ops (Array.replicate ops.size false) := by
  intro k o hk hl
  have := (Array.getElem?_eq_some_iff.1 hk).1
  simp [Array.getD, this] at hl
theorem anyL_first {Q : Act → World → Prop} {i : Nat} {oi : Oper} {v : Value} (hG : ∀ x y z, G x y → G y z → G x z) (hr0 : ∀ x, G x x) (hLB : lastB md ops L = true) (hi : ops[i]? = some oi) (hsel : ∀ (j : Nat) (o : Oper) cs b, ops[j]? = some o → o.op ≠ .select cs b) :
    ∀ (fuel : Nat) (listed : Array Bool) (a : Act) (w : World), ClosedL md ops listed →
      (∀ j oj, ops[j]? = some oj → j ≠ i → listed.getD j true = false → (∀ e ∈ oj.after, Region.binds md e = true → e.on ≠ i) → oi.apart ops oj = true) →
      i ∈ Region.ready md ops listed → YieldsG P ops G oi v a w →
      anyL P md ops L G Q fuel (listed.setIfInBounds i true) (a.put oi.dst v) w → anyL P md ops L G Q (fuel + 1) listed a w := by
  intro fuel
  induction fuel with
  | zero =>
    intro listed a w hcl _ hr hy H
    refine ⟨fun h => (by rw [h] at hr; cases hr), fun j hj => ?_⟩
    by_cases hji : j = i
    · subst hji; exact yields_opGof hr0 hi hy H
    · have := ready_mono hj hji
      rw [H.1] at this
      cases this
  | succ fuel ih =>
    intro listed a w hcl hfree hr hy H
    refine ⟨fun h => (by rw [h] at hr; cases hr), fun j hj => ?_⟩
    by_cases hji : j = i
    · subst hji; exact yields_opGof hr0 hi hy H
    · have h1 := H.2 j (ready_mono hj hji)
      obtain ⟨hjun, oj, hoj, hall⟩ := mem_ready.1 hj
      have hnot : ∀ e ∈ oj.after, Region.binds md e = true → e.on ≠ i := fun e he hb heq => by
        have h1 := hall e he hb
        have h0 := (mem_ready.1 hr).1
        rw [heq] at h1
        rcases Nat.lt_or_ge i listed.size with h' | h'
        · simp [h'] at h0 h1; rw [h0] at h1; cases h1
        · simp [Array.getElem?_eq_none h'] at h1
      have hjL : j ≠ L := lastB_spec hLB hcl hi hoj hji (mem_ready.1 hr).1 (fun e he hb => getD_up (hall e he hb))
      have eG : Gof L G j = G := by funext x y; simp [Gof, hjL]
      rw [eG] at h1 ⊢
      have h2 := opG_put hG hoj (hfree j oj hoj hji hjun hnot) (fun cs b => hsel i oi cs b hi) (fun cs b => hsel j oj cs b hoj) hy h1
      have hfree' : ∀ k ok, ops[k]? = some ok → k ≠ i → (listed.setIfInBounds j true).getD k true = false →
          (∀ e ∈ ok.after, Region.binds md e = true → e.on ≠ i) → oi.apart ops ok = true := fun k ok hk hki hun hno => by
        refine hfree k ok hk hki ?_ hno
        by_cases hjk : j = k
        · subst hjk; exact hjun
        · rw [getD_set_ne true hjk] at hun; exact hun
      refine opG_mono (fun a' w' _ h3 => ih (listed.setIfInBounds j true) a' w' (hcl.set hj) hfree' (ready_mono hr (Ne.symm hji)) h3.1 ?_) h2
      rw [Array.setIfInBounds_comm _ _ hji]
      exact h3.2
def wpTreeL (P : Program) (ops : Array Oper) (L : Nat) (G : World → World → Prop) (Q : Act → World → Prop) (l : List Oper) : Tree → Act → World → Prop
  | .done, a, w => Q a w
  | .float s n t, a, w => wpQuiet P ops (G w) (fun a' => wpTreeL P ops L G Q l t a' w) ((l.drop s).take n) a
  | .one i t, a, w => wpList P ops (Anch (Gof L G i) w (wpTreeL P ops L G Q l t)) ((l.drop i).take 1) a w
  | .two i t j u, a, w => wpList P ops (Anch (Gof L G i) w (wpTreeL P ops L G Q l t)) ((l.drop i).take 1) a w ∧ wpList P ops (Anch (Gof L G j) w (wpTreeL P ops L G Q l u)) ((l.drop j).take 1) a w
  | .three i t j u k v, a, w => wpList P ops (Anch (Gof L G i) w (wpTreeL P ops L G Q l t)) ((l.drop i).take 1) a w ∧ wpList P ops (Anch (Gof L G j) w (wpTreeL P ops L G Q l u)) ((l.drop j).take 1) a w ∧ wpList P ops (Anch (Gof L G k) w (wpTreeL P ops L G Q l v)) ((l.drop k).take 1) a w
theorem anyL_floats {Q : Act → World → Prop} (hG : ∀ x y z, G x y → G y z → G x z) (hr0 : ∀ x, G x x) (hLB : lastB .any ops L = true) (hs : Region.noSelect ops = true) (l : List Oper) (hl : l.toArray = ops) (K : Act → World → Prop) (fuel : Nat) (w : World) :
    ∀ (n s : Nat) (listed : Array Bool) (a : Act), ClosedL .any ops listed → floatsB ops n s listed = true → (∀ a', K a' w → ClosedL .any ops (listAll n s listed) → anyL P .any ops L G Q fuel (listAll n s listed) a' w) →
      wpQuiet P ops (G w) (fun a' => K a' w) ((l.drop s).take n) a → anyL P .any ops L G Q (n + fuel) listed a w := by
  intro n
  induction n with
  | zero => intro s listed a hcl _ hK h; rw [Nat.zero_add]; rw [List.take_zero] at h; exact hK a h hcl
  | succ n ih =>
    intro s listed a hcl hB hK h
    simp only [floatsB, Bool.and_eq_true] at hB
    obtain ⟨⟨⟨hr, hf⟩, hc⟩, hB'⟩ := hB
    unfold calmAt at hc
    cases ho : ops[s]? with
    | none => rw [ho] at hc; simp at hc
    | some o =>
      rw [ho] at hc
      have hlt : s < l.length := by
        have := (Array.getElem?_eq_some_iff.1 ho).1
        rw [← hl] at this; simpa using this
      have hlo : l[s] = o := by
        have h1 := (Array.getElem?_eq_some_iff.1 ho).2
        subst hl
        simpa using h1
      rw [List.drop_eq_getElem_cons hlt, List.take_succ_cons, hlo] at h
      have hst : qOp P ops (G w) s (wpQuiet P ops (G w) (fun a' => K a' w) ((l.drop (s + 1)).take n)) a := by unfold qOp; simp only [ho]; exact h
      obtain ⟨v, hy, hK1⟩ := yieldsIn_of_qOp ho hst
      rw [show n + 1 + fuel = (n + fuel) + 1 by omega]
      exact anyL_first hG hr0 hLB ho (Region.noSelect_spec hs) (n + fuel) listed a w hcl (Region.free_spec ho hf) (by simpa using hr) (yieldsG_of_in hc hy)
        (ih (s + 1) _ _ (hcl.set (by simpa using hr)) hB' hK hK1)
theorem anyL_tree {Q : Act → World → Prop} (hG : ∀ x y z, G x y → G y z → G x z) (hr0 : ∀ x, G x x) (hLB : lastB .any ops L = true) (hs : Region.noSelect ops = true) (l : List Oper) (hl : l.toArray = ops) :
    ∀ (t : Tree) (listed : Array Bool) (a : Act) (w : World), ClosedL .any ops listed → t.okB ops listed = true → wpTreeL P ops L G Q l t a w → anyL P .any ops L G Q t.len listed a w
  | .done, listed, a, w, hcl, hB, h => ⟨by simpa [Tree.okB] using hB, h⟩
  | .float s n t, listed, a, w, hcl, hB, h => by
    simp only [Tree.okB, Bool.and_eq_true] at hB
    exact anyL_floats hG hr0 hLB hs l hl (wpTreeL P ops L G Q l t) t.len w n s listed a hcl hB.1 (fun a' h' hc' => anyL_tree hG hr0 hLB hs l hl t _ a' w hc' hB.2 h') h
  | .one i t, listed, a, w, hcl, hB, h => by
    simp only [Tree.okB, Bool.and_eq_true, decide_eq_true_eq] at hB
    refine ⟨fun h0 => absurd (hB.1 ▸ h0) (by simp), fun k hk => ?_⟩
    have hk' := hk
    rw [hB.1] at hk'
    have hk' := List.mem_singleton.1 hk'
    subst hk'
    exact opG_anch l hl hk (fun a w h => anyL_tree hG hr0 hLB hs l hl t _ a w (hcl.set hk) hB.2 h) h
  | .two i t j u, listed, a, w, hcl, hB, h => by
    simp only [Tree.okB, Bool.and_eq_true, decide_eq_true_eq, beq_iff_eq] at hB
    obtain ⟨⟨⟨h1, h2⟩, h3⟩, h4⟩ := hB
    refine ⟨fun h0 => absurd (h1 ▸ h0) (by simp), fun k hk => ?_⟩
    have hk' := hk
    rw [h1] at hk'
    simp at hk'
    rcases hk' with hk' | hk'
    · subst hk'
      exact opG_anch l hl hk (fun a w h => anyL_tree hG hr0 hLB hs l hl t _ a w (hcl.set hk) h3 h) h.1
    · subst hk'
      exact opG_anch l hl hk (fun a w h => by have := anyL_tree hG hr0 hLB hs l hl u _ a w (hcl.set hk) h4 h; rw [← h2] at this; exact this) h.2
  | .three i t j u m v, listed, a, w, hcl, hB, h => by
    simp only [Tree.okB, Bool.and_eq_true, decide_eq_true_eq, beq_iff_eq] at hB
    obtain ⟨⟨⟨⟨⟨h1, h2⟩, h2'⟩, h3⟩, h4⟩, h5⟩ := hB
    refine ⟨fun h0 => absurd (h1 ▸ h0) (by simp), fun k hk => ?_⟩
    have hk' := hk
    rw [h1] at hk'
    simp at hk'
    rcases hk' with hk' | hk' | hk'
    · subst hk'
      exact opG_anch l hl hk (fun a w h => anyL_tree hG hr0 hLB hs l hl t _ a w (hcl.set hk) h3 h) h.1
    · subst hk'
      exact opG_anch l hl hk (fun a w h => by have := anyL_tree hG hr0 hLB hs l hl u _ a w (hcl.set hk) h4 h; rw [← h2] at this; exact this) h.2.1
    · subst hk'
      exact opG_anch l hl hk (fun a w h => by have := anyL_tree hG hr0 hLB hs l hl v _ a w (hcl.set hk) h5 h; rw [← h2'] at this; exact this) h.2.2
/-- **A region that draws its order, walked by a plan of our own; the last operation is free.** -/
theorem wp_region_treeL (L : Nat) (t : Tree) (G : World → World → Prop) (hG : ∀ x y z, G x y → G y z → G x z) (hr0 : ∀ x, G x x) {id : Nat} {Q : Exit → Act → World → Prop} {a : Act} {w : World} {l : List Oper} (hm : P.follows .mixedOrders = true) (hLB : lastB .any l.toArray L = true) (hB : treeB l.toArray t = true)
    (h : ∀ K : Act → World → Prop, (∀ a w', Q .normal a w' → K a w') → wpTreeL P l.toArray L G K l t a w.drew) : (Code.region id l.toArray true).wp P Q a w := by
  simp only [treeB, Bool.and_eq_true, beq_iff_eq] at hB
  obtain ⟨⟨h1, h2⟩, h3⟩ := hB
  refine wp_region_any hm (wpAny_of_anyL (Q := Q .normal) (G := G) (L := L) (fun _ _ h => h) _ _ _ _ ?_)
  have := anyL_tree hG hr0 hLB h1 l rfl t _ a _ ClosedL.start h3 (h _ (fun _ _ h => h))
  rw [h2] at this
  exact this
theorem wpTreeL_done {Q : Act → World → Prop} {l : List Oper} {a : Act} {w : World} (h : Q a w) : wpTreeL P ops L G Q l .done a w := h
theorem wpTreeL_float {Q : Act → World → Prop} {l : List Oper} {a : Act} {w : World} {s n : Nat} {t : Tree}
    (h : ∀ K : Act → Prop, (∀ a', wpTreeL P ops L G Q l t a' w → K a') → wpQuiet P ops (G w) K ((l.drop s).take n) a) : wpTreeL P ops L G Q l (.float s n t) a w := h _ (fun _ h => h)
theorem wpTreeL_one {Q : Act → World → Prop} {l : List Oper} {a : Act} {w : World} {i : Nat} {t : Tree}
    (h : ∀ K : Act → World → Prop, (∀ a' w', wpTreeL P ops L G Q l t a' w' → K a' w') → wpList P ops (Anch (Gof L G i) w K) ((l.drop i).take 1) a w) : wpTreeL P ops L G Q l (.one i t) a w := h _ (fun _ _ h => h)
theorem wpTreeL_two {Q : Act → World → Prop} {l : List Oper} {a : Act} {w : World} {i j : Nat} {t u : Tree}
    (h1 : wpTreeL P ops L G Q l (.one i t) a w) (h2 : wpTreeL P ops L G Q l (.one j u) a w) : wpTreeL P ops L G Q l (.two i t j u) a w := ⟨h1, h2⟩
end
theorem anch_last {L : Nat} {G : World → World → Prop} {w w' : World} {K : Act → World → Prop} {a : Act} (h : K a w') : Anch (Gof L G L) w K .normal a w' := ⟨rfl, .inl rfl, h⟩
theorem anch_endL {L i : Nat} {G : World → World → Prop} {w w' : World} {K : Act → World → Prop} {a : Act} (hG : G w w') (h : K a w') : Anch (Gof L G i) w K .normal a w' := ⟨rfl, .inr hG, h⟩
end Go.Th

/-! ### LitsP -/
namespace Go.Th
open Go.RowKit
set_option linter.unusedSimpArgs false
section
variable {P : Program} {ops : Array Oper} {rest : List Oper} {o : Oper} {a : Act} {Q : Exit → Act → World → Prop} {w : World}
theorem wl_lit (hw : Region.wanted o (yielded ops a.tmps) = true) (T : TypeId) (n : Nat) (parts : Array (Nat × Operand)) (ho : o.op = .buildSlice T n parts) {E bytes : Nat} {z : Value} (el : El P T E z bytes) {α : Type} {f : α → Value} (hf : ∀ x, (f x).cells = #[f x]) (xs : List α) (hx : xs.length = n) (hn : 0 < n) (hs : n ≤ 16777216) {base : Nat} (hb : base ≤ w.heap.size)
    (hv : parts.toList.map (fun p => (p.1, a.eval p.2)) = ((xs.map f).zipIdx 0).map fun x => (x.2, x.1))
    (h : ∀ g w', w.heap.size ≤ g → g < w'.heap.size → OwS f w' base E (some ⟨g, 0, none⟩) n n xs → Below w.heap.size w w' → wpList P ops Q rest (a.put o.dst (.slice (some ⟨g, 0, none⟩) n n)) w') : wpList P ops Q (o :: rest) a w := by
  obtain ⟨i, hi, hz, hk, hby⟩ := el.info
  refine wl_run hw (v := .slice (some ⟨w.heap.size, 0, none⟩) n n) ?_ (h _ (w.alloc (.cells (xs.map f).toArray E)) (Nat.le_refl _) (by simp) (OwS.lit w _ n hb (by simp only [maxLen]; omega) hx rfl) (below_alloc w (Nat.le_refl _) _))
  have hv' : (Array.map (fun p => (p.1, a.eval p.2)) parts).toList = ((xs.map f).zipIdx 0).map fun x => (x.2, x.1) := by rw [Array.toList_map]; exact hv
  simp only [execOp, ho, Sem.run_bind, run_buildSlice w T E n _ _ i z el.ht hi hz (by rw [hk]; omega) (by rw [hk]; omega) (by rw [hk, hv']; exact Go.Great.fill_flat (xs.map f) _ (fun v hm => by obtain ⟨x, _, rfl⟩ := List.mem_map.1 hm; exact hf x) (by simp [hx])), Result.andThen_ok, Sem.run_pure]
theorem wl_lit0 (hw : Region.wanted o (yielded ops a.tmps) = true) (T : TypeId) (ho : o.op = .buildSlice T 0 #[]) {E bytes : Nat} {z : Value} (el : El P T E z bytes) {α : Type} (f : α → Value) {base : Nat} (hb : base ≤ w.heap.size)
    (h : ∀ g w', w.heap.size ≤ g → g < w'.heap.size → OwS f w' base E (some ⟨g, 0, none⟩) 0 0 [] → Below w.heap.size w w' → wpList P ops Q rest (a.put o.dst (.slice (some ⟨g, 0, none⟩) 0 0)) w') : wpList P ops Q (o :: rest) a w := by
  obtain ⟨i, hi, hz, hk, hby⟩ := el.info
  refine wl_run hw (v := .slice (some ⟨w.heap.size, 0, none⟩) 0 0) ?_ (h _ (w.alloc (.cells #[] E)) (Nat.le_refl _) (by simp) (OwS.lit w _ 0 hb (by simp [maxLen]) rfl rfl) (below_alloc w (Nat.le_refl _) _))
  have e : ∀ z' : Value, (Array.range 0).map (fun _ => z') = #[] := fun z' => Array.eq_empty_of_size_eq_zero (by simp)
  simp [execOp, ho, Instr.buildSlice, run_underlying el.ht, sizeOf, typeInfo, zeroValue, hi, hz, newRow, Instr.fill, e]
end
theorem bv_cells (x : UInt8) : (bv x).cells = #[bv x] := rfl
theorem iv_cells (x : Int) : (iv x).cells = #[iv x] := rfl
/-- Rows of bytes that can be read. -/
def Rws (w : World) (l : List (Option Addr × Nat × Nat × List UInt8)) : Prop := ∀ x ∈ l, RdS bv w w.heap.size x.1 x.2.1 x.2.2.1 x.2.2.2
theorem Rws.nil (w : World) : Rws w [] := by intro x hx; cases hx
theorem Rws.step {w w' : World} {l : List (Option Addr × Nat × Nat × List UInt8)} (h : Rws w l) (hb : Below w.heap.size w w') : Rws w' l := fun x hx => ((h x hx).step hb).heap
theorem Rws.cons {w : World} {l : List (Option Addr × Nat × Nat × List UInt8)} (h : Rws w l) {A : Option Addr} {n c B : Nat} {bs : List UInt8} (hr : RdS bv w B A n c bs) : Rws w ((A, n, c, bs) :: l) := fun x hx => by
  rcases List.mem_cons.1 hx with rfl | hx
  · exact hr.heap
  · exact h x hx
theorem Rws.get {w : World} {l : List (Option Addr × Nat × Nat × List UInt8)} (h : Rws w l) {A : Option Addr} {n c : Nat} {bs : List UInt8} (hx : (A, n, c, bs) ∈ l) : RdS bv w w.heap.size A n c bs := h _ hx
end Go.Th

/-! ### Open -/
namespace Go.Th
open Go.ChangeShapes Go.WideShapes Go.ChangeAt Go.RowKit
section
variable {H : Type} {enc : TypeId × Value → H} {P : Program} {w : World} {base : Nat} {spare : Nat → Bool} {held : Bool} {r : Go.Reach} {b0 : Nat} {t e : TypeId} {v : Value} {d : DataW H} {p : List MemPlace}
/-- A slice of whole numbers. -/
theorem open_slice_ints {k : IntKind} (ht : P.underlying t = some (.slice e)) (he : P.underlying e = some (.int k)) (hc : P.cellsOf e = 1) (hv : Value.okWide P w r b0 t v) (h : DataW.Trod enc P w base spare held t v d p) :
    ∃ A n c zs, v = .slice A n c ∧ RdS (Value.int k) w w.heap.size A n c zs ∧ n ≤ 9223372036854775807 ∧ ∀ z ∈ zs, (Lit.int k z).wf = true := by
  obtain ⟨a, n, c, rfl⟩ := okWide_slice ht hv
  obtain ⟨fuel, hf⟩ := h
  rcases open_ints ht he hc hf with ⟨hcs, _⟩ | ⟨x, l, c', zs, hcs, _, hl, hm, hz, _, hcell, hwz⟩
  · simp only [Value.cells, List.cons.injEq, and_true, Value.slice.injEq] at hcs
    obtain ⟨rfl, rfl, rfl⟩ := hcs
    exact ⟨none, 0, 0, [], rfl, RdS.nil _ _, by omega, by simp⟩
  · simp only [Value.cells, List.cons.injEq, and_true, Value.slice.injEq] at hcs
    obtain ⟨rfl, rfl, rfl⟩ := hcs
    have hzl : n ≤ zs.length := by rw [hz]; split <;> omega
    have hadd : ∀ j u, (zs.take n)[j]? = some u → ∃ b o, some x = some ⟨b, o, none⟩ ∧ b < w.heap.size ∧ w.cell? ⟨b, o + j, none⟩ = some (.int k u) := by
      intro j u hu
      rw [List.getElem?_take] at hu
      split at hu
      · have hjl : j < zs.length := by omega
        have hj := hcell j hjl
        have h0 := hcell 0 (by omega)
        obtain ⟨b, off, spot⟩ := x
        have hspot : spot = none := by simpa [Addr.add] using World.cell?_spot h0
        subst hspot
        have hu' : zs.getD j 0 = u := by rw [List.getD_eq_getElem?_getD, hu]; rfl
        rw [Addr.add_lit, hu'] at hj
        exact ⟨b, off, rfl, World.block_lt_of_cell? w ⟨b, off + j, none⟩ hj, hj⟩
      · cases hu
    refine ⟨some x, n, c, zs.take n, rfl, ⟨⟨fun j u hu => ?_⟩, by rw [List.length_take]; omega, hl⟩, by simp only [maxLen] at hm; omega, fun z hz => hwz z (List.mem_of_mem_take hz)⟩
    rw [List.getElem?_map] at hu
    cases hj : (zs.take n)[j]? with
    | none => rw [hj] at hu; cases hu
    | some y =>
      rw [hj] at hu
      injection hu with hu
      subst hu
      exact hadd j y hj

/-- A slice of bytes. -/
theorem open_slice_bytes (ht : P.underlying t = some (.slice e)) (he : P.underlying e = some (.int .u8)) (hc : P.cellsOf e = 1) (hv : Value.okWide P w r b0 t v) (h : DataW.Trod enc P w base spare held t v d p) :
    ∃ A n c bs, v = .slice A n c ∧ RdS bv w w.heap.size A n c bs ∧ n ≤ 9223372036854775807 := by
  obtain ⟨A, n, c, zs, hv', hr, hm, hwf⟩ := open_slice_ints ht he hc hv h
  have e : zs.map (Value.int .u8) = (zs.map fun z => UInt8.ofNat z.toNat).map bv := by
    rw [List.map_map]
    refine List.map_congr_left fun z hz => ?_
    have hb := bounds_u8 (hwf z hz)
    simp only [Function.comp, bv, UInt8.toNat_ofNat', Value.int.injEq, true_and]
    omega
  exact ⟨A, n, c, zs.map fun z => UInt8.ofNat z.toNat, hv', ⟨by rw [← e]; exact hr.rd, by rw [List.length_map]; exact hr.len, hr.cap⟩, hm⟩

/-- An array of whole numbers. -/
theorem open_array_ints {k : IntKind} {n : Nat} (ht : P.underlying t = some (.array n e)) (he : P.underlying e = some (.int k)) (hc : P.cellsOf e = 1) (hct : P.cellsOf t = n) (hv : Value.okWide P w r b0 t v) (h : DataW.Trod enc P w base spare held t v d p) :
    ∃ zs : List Int, v = .agg (zs.map (Value.int k)).toArray ∧ zs.length = n ∧ ∀ z ∈ zs, (Lit.int k z).wf = true := by
  simp only [Value.okWide, ht] at hv
  obtain ⟨cs, rfl, h1, _⟩ := hv
  obtain ⟨fuel, hf⟩ := h
  obtain ⟨xs, m, _, _, hlen, hxl, hg⟩ := DataW.trod_array ht hf
  obtain ⟨l⟩ := cs
  simp only [Value.cells] at hlen hg
  have hcells : ∀ i, i < n → ∃ z, (l.drop i).take 1 = [.int k z] ∧ (Lit.int k z).wf = true := by
    intro i hi
    have := hg i hi
    rw [hc, Nat.mul_one] at this
    have hx : ∃ y, xs[i]? = some y := ⟨xs[i]'(by omega), List.getElem?_eq_getElem (by omega)⟩
    obtain ⟨y, hy⟩ := hx
    rw [hy] at this
    obtain ⟨z, hz, _, hw⟩ := DataW.trod_int he this
    exact ⟨z, hz, hw⟩
  have key : ∀ (l : List Value) (n : Nat), (∀ i, i < n → ∃ z, (l.drop i).take 1 = [.int k z] ∧ (Lit.int k z).wf = true) → l.length = n → ∃ zs : List Int, l = zs.map (Value.int k) ∧ zs.length = n ∧ ∀ z ∈ zs, (Lit.int k z).wf = true := by
    intro l
    induction l with
    | nil => intro n _ hn; exact ⟨[], rfl, by simpa using hn, by simp⟩
    | cons u l ih =>
      intro n hn hl
      rcases n with _ | n
      · simp at hl
      obtain ⟨z, hz, hw⟩ := hn 0 (by omega)
      simp at hz
      obtain ⟨zs, h1, h2, h3⟩ := ih n (fun i hi => by simpa using hn (i + 1) (by omega)) (by simpa using hl)
      exact ⟨z :: zs, by simp [hz, h1], by simp [h2], by simpa using ⟨hw, h3⟩⟩
  obtain ⟨zs, h1, h2, h3⟩ := key l n hcells (by simpa [hct] using hlen)
  exact ⟨zs, by rw [h1], h2, h3⟩
end
end Go.Th

/-! ### OpenRule -/
namespace Go.Th
open Go.ChangeShapes Go.WideShapes Go.ChangeAt Go.RowKit Go.Deep Go.Joins
/-- A type of rules. -/
structure RuleT (P : Program) (t : TypeId) : Prop where
  fields : ∃ f0 f1 f2 f3 : Field, P.underlying t = some (.struct #[f0, f1, f2, f3]) ∧ oneCellFields P #[f0, f1, f2, f3] = true ∧
    P.underlying f0.type = some (.int .u32) ∧ P.underlying f1.type = some (.int .i64) ∧ P.underlying f2.type = some (.int .i64) ∧ P.underlying f3.type = some (.int .i64)
  cells : P.cellsOf t = 4
section
variable {H : Type} {enc : TypeId × Value → H} {P : Program} {w : World} {base : Nat} {spare : Nat → Bool} {held : Bool} {r : Go.Reach} {b0 : Nat} {t e : TypeId} {v : Value} {d : DataW H} {p : List MemPlace}
theorem trod_rule (rt : RuleT P t) {fuel : Nat} {cs : List Value} {x : DataW H × List MemPlace} (h : DataW.trod enc P w base spare held fuel t cs = some x) : ∃ r : Ru, cs = r.cs ∧ r.Ok := by
  obtain ⟨f0, f1, f2, f3, hs, hone, u0, u1, u2, u3⟩ := rt.fields
  obtain ⟨xs, n, _, _, hlen, hxl, hf⟩ := DataW.trod_struct hs h
  rw [rt.cells] at hlen
  have key : ∀ (i : Nat) (f : Field) (k : IntKind), (#[f0, f1, f2, f3] : Array Field)[i]? = some f → P.underlying f.type = some (.int k) → ∃ z, (cs.drop i).take 1 = [.int k z] ∧ (Lit.int k z).wf = true := by
    intro i f k hi hu
    obtain ⟨o, c⟩ := hone_of hone i f hi
    have h1 := hf i f hi
    rw [o, c] at h1
    have hil : i < xs.length := by rw [hxl]; exact (Array.getElem?_eq_some_iff.1 hi).1
    rw [List.getElem?_eq_getElem hil] at h1
    obtain ⟨z, hz, _, hw⟩ := DataW.trod_int hu h1
    exact ⟨z, hz, hw⟩
  match cs, hlen with
  | [c0, c1, c2, c3], _ =>
    obtain ⟨z0, e0, w0⟩ := key 0 f0 .u32 rfl u0
    obtain ⟨z1, e1, w1⟩ := key 1 f1 .i64 rfl u1
    obtain ⟨z2, e2, w2⟩ := key 2 f2 .i64 rfl u2
    obtain ⟨z3, e3, w3⟩ := key 3 f3 .i64 rfl u3
    simp at e0 e1 e2 e3
    subst e0 e1 e2 e3
    exact ⟨⟨z0, z1, z2, z3⟩, rfl, ⟨bounds_u32 w0, bounds_i64 w1, bounds_i64 w2, bounds_i64 w3⟩⟩
/-- A rule. -/
theorem open_rule (rt : RuleT P t) (hv : Value.okWide P w r b0 t v) (h : DataW.Trod enc P w base spare held t v d p) : ∃ x : Ru, v = x.v ∧ x.Ok := by
  obtain ⟨f0, f1, f2, f3, hs, _⟩ := rt.fields
  obtain ⟨cs, rfl, hsz⟩ := okWide_struct hs hv
  obtain ⟨fuel, hf⟩ := h
  obtain ⟨x, hx, hok⟩ := trod_rule rt hf
  refine ⟨x, ?_, hok⟩
  simp only [Value.cells] at hx
  show Value.agg cs = Value.agg x.cs.toArray
  rw [← hx]
/-- A slice of rules. -/
theorem open_slice_rules (rt : RuleT P e) (ht : P.underlying t = some (.slice e)) (hv : Value.okWide P w r b0 t v) (h : DataW.Trod enc P w base spare held t v d p) :
    ∃ A n c xs, v = .slice A n c ∧ RdM Ru.cs w w.heap.size A n c xs ∧ n ≤ 9223372036854775807 ∧ ∀ x ∈ xs, x.Ok := by
  obtain ⟨a, n, c, rfl⟩ := okWide_slice ht hv
  obtain ⟨fuel, hf⟩ := h
  rcases open_slice ht hf with ⟨hcs, _⟩ | ⟨x, l, c', m, n', D, Pl, hcs, _, hl, hm, hmm, _, hcell⟩
  · simp only [Value.cells, List.cons.injEq, and_true, Value.slice.injEq] at hcs
    obtain ⟨rfl, rfl, rfl⟩ := hcs
    exact ⟨none, 0, 0, [], rfl, RdM.nil _ _, by omega, by simp⟩
  · simp only [Value.cells, List.cons.injEq, and_true, Value.slice.injEq] at hcs
    obtain ⟨rfl, rfl, rfl⟩ := hcs
    rw [rt.cells] at hcell
    have hnm : n ≤ m := by rw [hmm]; split <;> omega
    have each : ∀ i, i < n → ∃ r : Ru, r.Ok ∧ ∀ j u, r.cs[j]? = some u → w.cell? (x.add (i * 4 + j)) = some u := by
      intro i hi
      obtain ⟨cs', hc, htr⟩ := hcell i (by omega)
      obtain ⟨r, rfl, hok⟩ := trod_rule rt htr
      obtain ⟨_, _, hat⟩ := World.cells?_some hc
      refine ⟨r, hok, fun j u hu => ?_⟩
      have hj : j < 4 := (List.getElem?_eq_some_iff.1 hu).1
      have := hat j hj
      rw [← Go.Deep.add_add, this, hu]
    have build : ∀ k, k ≤ n → ∃ xs : List Ru, xs.length = k ∧ (∀ r ∈ xs, r.Ok) ∧ ∀ i r, xs[i]? = some r → ∀ j u, r.cs[j]? = some u → w.cell? (x.add (i * 4 + j)) = some u := by
      intro k
      induction k with
      | zero => intro _; exact ⟨[], rfl, by simp, by simp⟩
      | succ k ih =>
        intro hk
        obtain ⟨xs, h1, h2, h3⟩ := ih (by omega)
        obtain ⟨r, hr, hc⟩ := each k (by omega)
        refine ⟨xs ++ [r], by simp [h1], fun s hs => ?_, fun i s hi => ?_⟩
        · rcases List.mem_append.1 hs with hs | hs
          · exact h2 s hs
          · rw [List.mem_singleton.1 hs]; exact hr
        · rcases Nat.lt_trichotomy i k with h | h | h
          · rw [List.getElem?_append_left (by omega)] at hi; exact h3 i s hi
          · subst h
            rw [List.getElem?_append_right (by omega), h1, Nat.sub_self] at hi
            injection hi with hi
            subst hi
            exact hc
          · rw [List.getElem?_eq_none (by simp; omega)] at hi; cases hi
    obtain ⟨xs, h1, h2, h3⟩ := build n (Nat.le_refl _)
    refine ⟨some x, n, c, xs, rfl, ⟨⟨fun j u hu => ?_⟩, h1, hl⟩, by simp only [maxLen] at hm; omega, h2⟩
    have hjl : j < n * 4 := by
      have := (List.getElem?_eq_some_iff.1 hu).1
      rwa [flat_length Ru.cs_length, h1] at this
    have hq : j / 4 < xs.length := by omega
    have e1 := flat_get Ru.cs_length (List.getElem?_eq_getElem hq) (j := j % 4) (by omega)
    rw [show j / 4 * 4 + j % 4 = j by omega, hu] at e1
    have hc := h3 (j / 4) _ (List.getElem?_eq_getElem hq) (j % 4) u e1.symm
    rw [show j / 4 * 4 + j % 4 = j by omega] at hc
    have hc0 := h3 0 _ (List.getElem?_eq_getElem (show 0 < xs.length by omega)) 0 _ rfl
    obtain ⟨b, off, spot⟩ := x
    have hspot : spot = none := by simpa [Addr.add] using World.cell?_spot hc0
    subst hspot
    rw [Addr.add_lit] at hc
    exact ⟨b, off, rfl, World.block_lt_of_cell? w ⟨b, off + j, none⟩ hc, hc⟩
end
end Go.Th

/-! ### Part -/
namespace Go.Th
open Go.RowKit
/-- A part: its ends, where its ranks lie, and its ranks. -/
structure Pt where
  fr : Int
  «to» : Int
  A : Option Addr
  n : Nat
  c : Nat
  rk : List Int
def Pt.cs (p : Pt) : List Value := [.int .u32 p.fr, .int .u32 p.to, .slice p.A p.n p.c]
theorem Pt.cs_length (p : Pt) : p.cs.length = 3 := rfl
structure Pt.Ok (p : Pt) : Prop where
  fr : 0 ≤ p.fr ∧ p.fr ≤ 4294967295
  «to» : 0 ≤ p.to ∧ p.to ≤ 4294967295
theorem Pt.one (p : Pt) : ∀ u ∈ p.cs, u.oneCell' = true := by
  intro u hu
  simp only [Pt.cs, List.mem_cons, List.not_mem_nil, or_false] at hu
  rcases hu with rfl | rfl | rfl <;> rfl
def meetF : Int → List Pt → Bool
  | x, [] => decide (x = 4294967296)
  | x, p :: ps => decide (p.fr = x) && (decide (p.fr ≤ p.to) && meetF (p.to + 1) ps)
def pmeet (ps : List Pt) : Int := if meetF 0 ps = true then 0 else 15
def nextOf (ps : List Pt) : Nat → Int
  | 0 => 0
  | k + 1 => match ps[k]? with
    | some p => p.to + 1
    | none => 0
theorem nextOf_succ {ps : List Pt} {k : Nat} {p : Pt} (h : ps[k]? = some p) : nextOf ps (k + 1) = p.to + 1 := by simp [nextOf, h]
theorem drop_cons {α : Type} {ps : List α} {k : Nat} {p : α} (h : ps[k]? = some p) : ps.drop k = p :: ps.drop (k + 1) := by
  obtain ⟨hl, e⟩ := List.getElem?_eq_some_iff.1 h
  rw [List.drop_eq_getElem_cons hl, e]
/-- One step: on, or not. -/
theorem meet_on {ps : List Pt} {k : Nat} {p : Pt} (h : ps[k]? = some p) (h1 : p.fr = nextOf ps k) (h2 : p.fr ≤ p.to) : meetF (nextOf ps k) (ps.drop k) = meetF (nextOf ps (k + 1)) (ps.drop (k + 1)) := by
  rw [drop_cons h, nextOf_succ h]
  show (decide (p.fr = nextOf ps k) && (decide (p.fr ≤ p.to) && meetF (p.to + 1) _)) = _
  rw [decide_eq_true h1, decide_eq_true h2]
  rfl
theorem meet_no {ps : List Pt} {k : Nat} {p : Pt} (h : ps[k]? = some p) (h1 : p.fr ≠ nextOf ps k ∨ p.to < p.fr) : meetF (nextOf ps k) (ps.drop k) = false := by
  rw [drop_cons h]
  simp only [meetF]
  rcases h1 with h1 | h1
  · simp [h1]
  · have : ¬ p.fr ≤ p.to := by omega
    simp [this]
theorem meet_last : ∀ (ps : List Pt) (x : Int) (p : Pt), meetF x ps = true → ps.getLast? = some p → p.to = 4294967295
  | [], _, _, _, h => by simp at h
  | [q], x, p, h, hl => by
    simp at hl
    subst hl
    simp only [meetF, Bool.and_eq_true, decide_eq_true_eq] at h
    omega
  | q :: r :: ps, x, p, h, hl => by
    simp only [meetF, Bool.and_eq_true] at h
    exact meet_last (r :: ps) (q.to + 1) p (by simp only [meetF, Bool.and_eq_true]; exact h.2.2) (by rw [List.getLast?_cons_cons] at hl; exact hl)
theorem meet_first {ps : List Pt} {p : Pt} (h : ps[0]? = some p) (hf : p.fr ≠ 0) : meetF 0 ps = false := by
  cases ps with
  | nil => simp at h
  | cons q ps => simp at h; subst h; simp [meetF, hf]
theorem meet_end {ps : List Pt} {n : Nat} {p : Pt} (hn : ps.length = n + 1) (h : ps[n]? = some p) (hf : p.to ≠ 4294967295) : meetF 0 ps = false := by
  cases hm : meetF 0 ps with
  | false => rfl
  | true => exact absurd (meet_last ps 0 p hm (by rw [List.getLast?_eq_getElem?, hn]; exact h)) hf
/-- A number that is no node. -/
def outs (nodes x : Int) : Bool := decide (x < 0) || decide (nodes ≤ x)
def ranks (nodes : Int) : List Pt → Int
  | [] => 0
  | p :: ps => if (p.rk.length : Int) ≠ nodes then 1 else if p.rk.any (outs nodes) = true then 16 else ranks nodes ps
def cfree (ps : List Pt) (d : Int) (tr : List Int) (nodes : Int) : Int :=
  if d ≠ 0 ∨ tr.length ≠ 0 then 3 else if 8193 < ps.length then 12 else if meetF 0 ps = false then 15 else ranks nodes ps
/-- A trace: unlike nodes, the least one first. -/
def trgo (seen : List Int) (first : Int) : List Int → Int
  | [] => 0
  | x :: l => if x ∈ seen ∨ x < first then 17 else trgo (seen ++ [x]) first l
def trfirst : List Int → Int
  | [] => 0
  | x :: _ => x
def cloops (ps : List Pt) (tr : List Int) (nodes : Int) : Int :=
  if ps.length ≠ 0 then 3 else if tr.length = 0 ∨ nodes < tr.length then 12 else if tr.any (outs nodes) = true then 10 else trgo [] (trfirst tr) tr
def cmay (v : Int) (ps : List Pt) (d : Int) (tr : List Int) (nodes : Int) : Int :=
  if v = 1 then cfree ps d tr nodes else if v = 2 then cloops ps tr nodes else 9
theorem ranks_on {ps : List Pt} {nodes : Int} {k : Nat} {p : Pt} (h : ps[k]? = some p) (h1 : (p.rk.length : Int) = nodes) (h2 : p.rk.any (outs nodes) = false) : ranks nodes (ps.drop k) = ranks nodes (ps.drop (k + 1)) := by
  rw [drop_cons h]
  simp only [ranks]
  rw [if_neg (by omega), if_neg (by simp [h2])]
theorem ranks_size {ps : List Pt} {nodes : Int} {k : Nat} {p : Pt} (h : ps[k]? = some p) (h1 : (p.rk.length : Int) ≠ nodes) : ranks nodes (ps.drop k) = 1 := by
  rw [drop_cons h]
  simp only [ranks]
  rw [if_pos h1]
theorem ranks_out {ps : List Pt} {nodes : Int} {k : Nat} {p : Pt} (h : ps[k]? = some p) (h1 : (p.rk.length : Int) = nodes) (h2 : p.rk.any (outs nodes) = true) : ranks nodes (ps.drop k) = 16 := by
  rw [drop_cons h]
  simp only [ranks]
  rw [if_neg (by omega), if_pos h2]
theorem any_snoc {α : Type} {l : List α} {k : Nat} {x : α} (h : l[k]? = some x) (f : α → Bool) : (l.take (k + 1)).any f = ((l.take k).any f || f x) := by
  rw [List.take_add_one, h]
  simp
end Go.Th

/-! ### PartMem -/
namespace Go.Th
open Go.RowKit
set_option linter.unusedVariables false
section
variable {P : Program} {ops : Array Oper} {rest : List Oper} {o : Oper} {a : Act} {Q : Exit → Act → World → Prop} {w : World}
theorem wpt_load (hw : Region.wanted o (yielded ops a.tmps) = true) (T : TypeId) (x : Operand) (ho : o.op = .load T x) (st : St P T 3) {b j : Nat} {r : Pt} (hx : a.eval x = .pointer (some ⟨b, j, none⟩)) (hc : Hid (∀ i v, r.cs[i]? = some v → w.cell? ⟨b, j + i, none⟩ = some v))
    (h : wpList P ops Q rest (a.put o.dst (.agg #[.int .u32 r.fr, .int .u32 r.to, .slice r.A r.n r.c])) w) : wpList P ops Q (o :: rest) a w :=
  wm_load hw T x ho st hx (Pt.cs_length r) hc.out h
theorem wpt_box (hw : Region.wanted o (yielded ops a.tmps) = true) (T : TypeId) (x : Operand) (ho : o.op = .load T x) (st : St P T 3) {g : Nat} {t : TypeId} {r : Pt} (hx : a.eval x = .pointer (some ⟨g, 0, none⟩)) (hb : Box w g t r.cs.toArray)
    (h : wpList P ops Q rest (a.put o.dst (.agg #[.int .u32 r.fr, .int .u32 r.to, .slice r.A r.n r.c])) w) : wpList P ops Q (o :: rest) a w :=
  wb_load hw T x ho st hx hb rfl h
theorem wpt_store (hw : Region.wanted o (yielded ops a.tmps) = true) (T : TypeId) (x y : Operand) (ho : o.op = .store T x y) (st : St P T 3) {g : Nat} {t : TypeId} {r s : Pt} (hx : a.eval x = .pointer (some ⟨g, 0, none⟩)) (hy : a.eval y = .agg #[.int .u32 s.fr, .int .u32 s.to, .slice s.A s.n s.c])
    (hb : Box w g t r.cs.toArray) (h : ∀ w', Box w' g t s.cs.toArray → w.grownBy w' (some g) → wpList P ops Q rest (a.put o.dst undef) w') : wpList P ops Q (o :: rest) a w :=
  wb_store hw T x y ho st hx hy hb rfl rfl (by simp [Value.oneCell']) h
end
def Pt.zero : Pt := ⟨0, 0, none, 0, 0, []⟩
theorem Box.part {w : World} {g : Nat} {t : TypeId} {r : Pt} (h : Box w g t r.cs.toArray) : w.cell? ⟨g, 0, none⟩ = some (.int .u32 r.fr) ∧ w.cell? ⟨g, 1, none⟩ = some (.int .u32 r.to) ∧ w.cell? ⟨g, 2, none⟩ = some (.slice r.A r.n r.c) :=
  ⟨h.cell 0, h.cell 1, h.cell 2⟩
theorem Box.partC {w : World} {g : Nat} {t : TypeId} {r : Pt} (h : Box w g t r.cs.toArray) : (∀ q : Step w.heap.size w, q.w.cell? ⟨g, 0, none⟩ = some (.int .u32 r.fr)) ∧ (∀ q : Step w.heap.size w, q.w.cell? ⟨g, 1, none⟩ = some (.int .u32 r.to)) ∧ (∀ q : Step w.heap.size w, q.w.cell? ⟨g, 2, none⟩ = some (.slice r.A r.n r.c)) :=
  ⟨fun q => (h.step q.h).part.1, fun q => (h.step q.h).part.2.1, fun q => (h.step q.h).part.2.2⟩
section
variable {P : Program} {ops : Array Oper} {rest : List Oper} {o : Oper} {a : Act} {C : World → Prop} {Q : Act → Prop} {α : Type} {f : α → List Value} {k : Nat}
/-- s[i] in a quiet walk: the place. -/
theorem wqm_at (hf : ∀ x, (f x).length = k) (hw : Region.wanted o (yielded ops a.tmps) = true) (T : TypeId) (s i : Operand) (ho : o.op = .indexAddr T s i) {E bytes : Nat} {z : Value} (el : ElM P T E z bytes k)
    {A : Option Addr} {n c : Nat} {kk : IntKind} {I : Int} (hs : a.eval s = .slice A n c) (hi : a.eval i = .int kk I) (h0 : 0 ≤ I) (h1 : I < n) {w0 : World} (hC0 : C w0)
    {B : Nat} {xs : List α} (hr : ∀ w, C w → RdM f w B A n c xs)
    (h : ∀ (b j : Nat) (x : α), Hid (xs[I.toNat]? = some x) → Hid (∀ w, C w → ∀ i v, (f x)[i]? = some v → w.cell? ⟨b, j + i, none⟩ = some v) → wpQuiet P ops C Q rest (a.put o.dst (.pointer (some ⟨b, j, none⟩)))) :
    wpQuiet P ops C Q (o :: rest) a := by
  have hl : I.toNat < xs.length := by have := (hr w0 hC0).len; omega
  obtain ⟨b, off, hA, hb, hc⟩ := (hr w0 hC0).cells hf (List.getElem?_eq_getElem hl) el.pos
  subst hA
  refine wq_run hw (v := .pointer (some ⟨b, off + I.toNat * k, none⟩)) (fun w hC => ?_) ?_
  · have := run_indexAt (P := P) (w := w) T el.ht (el.size w) ⟨b, off, none⟩ n c kk I h0 h1
    rw [Addr.add_lit] at this
    simp only [execOp, ho, hs, hi, Sem.run_bind, this, Result.andThen, Sem.run_pure]
  · refine h b _ xs[I.toNat] (List.getElem?_eq_getElem hl) fun w hC => ?_
    obtain ⟨b', off', hA', _, hc'⟩ := (hr w hC).cells hf (List.getElem?_eq_getElem hl) el.pos
    injection hA' with hA'
    injection hA' with e1 e2
    subst e1 e2
    exact hc'
theorem wqpt_load (hw : Region.wanted o (yielded ops a.tmps) = true) (T : TypeId) (x : Operand) (ho : o.op = .load T x) (st : St P T 3) {b j : Nat} {r : Pt} (hx : a.eval x = .pointer (some ⟨b, j, none⟩)) (hc : Hid (∀ w, C w → ∀ i v, r.cs[i]? = some v → w.cell? ⟨b, j + i, none⟩ = some v))
    (h : wpQuiet P ops C Q rest (a.put o.dst (.agg #[.int .u32 r.fr, .int .u32 r.to, .slice r.A r.n r.c]))) : wpQuiet P ops C Q (o :: rest) a :=
  wq_run hw (fun w hC => by simp only [execOp, ho, hx, Instr.loadAt, Instr.sureAddr, Sem.run_bind, Sem.run_pure, Result.andThen_ok, run_loadVar_at st (Pt.cs_length r) (hc.out w hC)]; rfl) h
end
structure PRd (w : World) (B : Nat) (A : Option Addr) (n c : Nat) (ps : List Pt) : Prop where
  rd : RdM Pt.cs w B A n c ps
  rk : ∀ p ∈ ps, RdS iv w B p.A p.n p.c p.rk
  ok : ∀ p ∈ ps, p.Ok
theorem PRd.step {w w' : World} {B : Nat} {A : Option Addr} {n c : Nat} {ps : List Pt} (h : PRd w B A n c ps) (hb : Below w.heap.size w w') : PRd w' B A n c ps := ⟨h.rd.step hb, fun p hp => (h.rk p hp).step hb, h.ok⟩
theorem PRd.more {w : World} {B B' : Nat} {A : Option Addr} {n c : Nat} {ps : List Pt} (h : PRd w B A n c ps) (hB : B ≤ B') : PRd w B' A n c ps := ⟨h.rd.more hB, fun p hp => (h.rk p hp).more hB, h.ok⟩
end Go.Th

/-! ### CertMeet -/
namespace Go.Proofs.Ytdmkiejaejlajaa
open Go.RowKit Go.Th
set_option linter.unusedVariables false
def MeetRel (ps : List Pt) (n : Nat) (w : World) (i : Value) (wr : World) : Prop :=
  ∃ k : Nat, k ≤ n ∧ i = .int .i64 k ∧ Hid (meetF 0 ps = meetF (nextOf ps k) (ps.drop k)) ∧ Below w.heap.size w wr
end Go.Proofs.Ytdmkiejaejlajaa

/-! ### SetB -/
namespace Go.Th
open Go.RowKit Go.Maps
/-- Block b is a map that holds just the numbers seen, each as true. -/
def SetB (w : World) (P : Program) (k e : TypeId) (b n : Nat) (seen : List Int) : Prop :=
  ∃ D : DataW Unit, w.ownsMap P k (plainElem P e) b n D ∧ ∀ x : Int, D.atKey (.int .i64 x) (.lit (.bool false)) = .lit (.bool (decide (x ∈ seen)))
theorem SetB.made (w : World) (P : Program) (k e : TypeId) : SetB (w.alloc (.map #[] 0)) P k e w.heap.size 0 [] :=
  ⟨.map [], World.ownsMap_made _ _ _ _, fun x => by simp [DataW.atKey]⟩
theorem SetB.kept {w w' : World} {P : Program} {k e : TypeId} {b n : Nat} {seen : List Int} (h : SetB w P k e b n seen) {row : Option Nat} (hg : w.grownBy w' row) (hne : some b ≠ row) : SetB w' P k e b n seen := by
  obtain ⟨D, h1, h2⟩ := h
  exact ⟨D, h1.kept hg hne, h2⟩
theorem plainElem_bool_inv {P : Program} {e : TypeId} (he : P.underlying e = some .bool) {v : Value} {c : Bool} {ps : List MemPlace} (h : plainElem (H := Unit) P e v = some (.lit (.bool c), ps)) : v = .bool c := by
  unfold plainElem at h
  rw [he] at h
  split at h
  · simp at h; rw [h.1]
  · rename_i hq; simp at hq
  · rename_i hq; simp at hq
  · simp at h
theorem wf_i64 {x : Int} (hx : -9223372036854775808 ≤ x ∧ x ≤ 9223372036854775807) : (Lit.int .i64 x).wf = true := by
  have h1 : IntKind.i64.min = -9223372036854775808 := by decide

  simp [Lit.wf]
  rw [h1]
  exact hx
theorem SetB.look {w : World} {P : Program} {k e t : TypeId} {b n : Nat} {seen : List Int} (h : SetB w P k e b n seen) (hk : P.underlying k = some (.int .i64)) (ht : P.underlying t = some (.map k e)) (he : P.underlying e = some .bool) (hz : (zeroValue e).run P w = .ok (.bool false) w)
    (x : Int) (hx : -9223372036854775808 ≤ x ∧ x ≤ 9223372036854775807) : (Instr.lookup t (.map (some b)) (.int .i64 x) false).run P w = .ok (.bool (decide (x ∈ seen))) w := by
  obtain ⟨D, h1, h2⟩ := h
  have hwf := wf_i64 hx
  obtain ⟨v, ps, hrun, hv⟩ := h1.lookup (Maps.int_keyed hk) ht hz (plainElem_bool he false) (Maps.keyOf_int_mk hk hwf)
  rw [h2 x] at hv
  rw [hrun, plainElem_bool_inv he hv]
section
variable {P : Program} {ops : Array Oper} {rest : List Oper} {o : Oper} {a : Act} {Q : Exit → Act → World → Prop} {w : World}
theorem wl_lookB (hw : Region.wanted o (yielded ops a.tmps) = true) (m y : Operand) (t : TypeId) (hop : o.op = .lookup t m y false) {k e : TypeId} (hk : P.underlying k = some (.int .i64)) (ht : P.underlying t = some (.map k e)) (he : P.underlying e = some .bool) (hz : ∀ w, (zeroValue e).run P w = .ok (.bool false) w)
    {b n : Nat} {seen : List Int} (hm : a.eval m = .map (some b)) (hs : SetB w P k e b n seen) {x : Int} (hy : a.eval y = .int .i64 x) (hx : -9223372036854775808 ≤ x ∧ x ≤ 9223372036854775807)
    (h : wpList P ops Q rest (a.put o.dst (.bool (decide (x ∈ seen)))) w) : wpList P ops Q (o :: rest) a w :=
  wl_run hw (by simp only [execOp, hop, hm, hy, Sem.run_bind, hs.look hk ht he (hz w) x hx, Result.andThen, Sem.run_pure]) h
theorem wl_storeB (hg : o.guard = none) (m y v : Operand) (t : TypeId) (hop : o.op = .mapUpdate t m y v) {k e : TypeId} (hk : P.underlying k = some (.int .i64)) (ht : P.underlying t = some (.map k e)) (he : P.underlying e = some .bool)
    {b n : Nat} {seen : List Int} (hm : a.eval m = .map (some b)) (hs : SetB w P k e b n seen) (hn : n < maxLen) {x : Int} (hy : a.eval y = .int .i64 x) (hx : -9223372036854775808 ≤ x ∧ x ≤ 9223372036854775807) (hv : a.eval v = .bool true)
    (h : ∀ w', SetB w' P k e b (n + 1) (seen ++ [x]) → w.grownBy w' (some b) → wpList P ops Q rest (a.put o.dst undef) w') : wpList P ops Q (o :: rest) a w := by
  obtain ⟨D, h1, h2⟩ := hs
  have hwf := wf_i64 hx
  refine wpList_mapUpdate_own w hg m y v t hop k e (Maps.int_keyed hk) ht _ b n D hm h1 hn _ _ (.int .i64 x) hy hv (Maps.keyOf_int_mk hk hwf) (.lit (.bool true)) [] (plainElem_bool he true) fun w' h3 h4 => h w' ⟨_, h3, fun z => ?_⟩ h4
  by_cases hzx : z = x
  · subst hzx
    rw [Maps.atKey_put_same h1.isMap (show WideAt.IsKeyLit (.int .i64 z) from trivial)]
    simp
  · rw [Maps.atKey_put_other (fun e => hzx (by injection e)), h2 z]
    simp [hzx]
theorem on_lookup (m y : Operand) {d t ok ty pos af g} (h : wpList P ops Q (⟨d, .lookup t m y ok, ty, pos, af, g⟩ :: rest) a w) : wpList P ops Q (⟨d, .lookup t m y ok, ty, pos, af, g⟩ :: rest) a w := h
theorem on_mapUpdate (m y v : Operand) {d t ty pos af g} (h : wpList P ops Q (⟨d, .mapUpdate t m y v, ty, pos, af, g⟩ :: rest) a w) : wpList P ops Q (⟨d, .mapUpdate t m y v, ty, pos, af, g⟩ :: rest) a w := h
end
end Go.Th

/-! ### CertMay -/
namespace Go.Proofs.Ytdmkiejaejlajaa
open Go.RowKit Go.Th
set_option linter.unusedVariables false
/-- A certificate as a value. -/
def Cv (v : Int) (Ap : Option Addr) (np cp : Nat) (d : Int) (At : Option Addr) (nt ct : Nat) : Array Value := #[.int .i64 v, .slice Ap np cp, .int .u32 d, .slice At nt ct]
theorem zero_bool (w : World) : (zeroValue 4).run Try.prog w = .ok (.bool false) w := by kernel_rfl
def LoopsRel (tr : List Int) (first : Int) (n m : Nat) (wm : World) (i : Value) (wr : World) : Prop :=
  ∃ k : Nat, k ≤ n ∧ i = .int .i64 k ∧ Hid (trgo [] first tr = trgo (tr.take k) first (tr.drop k)) ∧ SetB wr Try.prog 3 4 m k (tr.take k) ∧ Below m wm wr
theorem tr_no {tr : List Int} {first : Int} {k : Nat} {x : Int} (h : tr[k]? = some x) (h1 : x ∈ tr.take k ∨ x < first) : trgo (tr.take k) first (tr.drop k) = 17 := by
  rw [drop_cons h]; simp only [trgo]; rw [if_pos h1]
theorem tr_on {tr : List Int} {first : Int} {k : Nat} {x : Int} (h : tr[k]? = some x) (h1 : ¬ (x ∈ tr.take k ∨ x < first)) : trgo (tr.take k) first (tr.drop k) = trgo (tr.take (k + 1)) first (tr.drop (k + 1)) := by
  rw [drop_cons h]; simp only [trgo]; rw [if_neg h1, List.take_add_one, h]; rfl
def FreeRel (ps : List Pt) (nodes : Int) (n : Nat) (w : World) (i : Value) (wr : World) : Prop :=
  ∃ k : Nat, k ≤ n ∧ i = .int .i64 k ∧ Hid (ranks nodes ps = ranks nodes (ps.drop k)) ∧ Below w.heap.size w wr
section
variable {ops : Array Oper} {rest : List Oper} {o : Oper} {a : Act} {Q : Exit → Act → World → Prop} {w : World}
end
theorem pt_mem2 {p q : Pt} {R : Pt → Prop} (h1 : R p) (h2 : R q) : ∀ x ∈ [p, q], R x := by
  intro x hx
  simp only [List.mem_cons, List.not_mem_nil, or_false] at hx
  rcases hx with rfl | rfl
  · exact h1
  · exact h2
end Go.Proofs.Ytdmkiejaejlajaa

/-! ### CertRef -/
namespace Go.Th
theorem nextOf_bd {ps : List Pt} (hok : ∀ p ∈ ps, p.Ok) : ∀ k, 0 ≤ nextOf ps k ∧ nextOf ps k ≤ 4294967296
  | 0 => by simp [nextOf]
  | k + 1 => by
    cases h : ps[k]? with
    | none => simp [nextOf, h]
    | some p =>
      have := (hok p (List.mem_of_getElem? h)).to
      rw [nextOf_succ h]
      omega
end Go.Th
namespace Go.Proofs.Ytdmkiejaejlajaa
open Go.RowKit Go.Th
set_option linter.unusedVariables false
def RMeetRel (ps : List Pt) (n : Nat) (w : World) (nx i : Value) (wr : World) : Prop :=
  ∃ (k : Nat) (x : Int), k ≤ n ∧ i = .int .i64 k ∧ nx = .int .i64 x ∧ Hid (x = nextOf ps k) ∧ Hid (meetF 0 ps = meetF x (ps.drop k)) ∧ Below w.heap.size w wr
def RFreeRel (ps : List Pt) (nodes : Int) (n : Nat) (w : World) (i : Value) (wr : World) : Prop :=
  ∃ k : Nat, k ≤ n ∧ i = .int .i64 k ∧ Hid (ranks nodes ps = ranks nodes (ps.drop k)) ∧ w = wr
end Go.Proofs.Ytdmkiejaejlajaa

/-! ### CertRefMay -/
namespace Go.Th
open Go.RowKit
section
variable {P : Program} {ops : Array Oper} {rest : List Oper} {o : Oper} {a : Act} {C : World → Prop} {Q : Act → Prop}
theorem wq_at_i (hw : Region.wanted o (yielded ops a.tmps) = true) (T : TypeId) (s i : Operand) (ho : o.op = .indexAddr T s i) {E bytes : Nat} {z : Value} (el : El P T E z bytes)
    {A : Option Addr} {n c : Nat} {k : IntKind} {I : Int} (hs : a.eval s = .slice A n c) (hi : a.eval i = .int k I) (h0 : 0 ≤ I) (h1 : I < n) {w0 : World} (hC0 : C w0)
    {B : Nat} {zs : List Int} (hr : RdC iv C B A n c zs)
    (h : ∀ (p : Addr) (x : Int), Hid (zs[I.toNat]? = some x) → (∀ w, C w → w.cell? p = some (.int .i64 x)) → wpQuiet P ops C Q rest (a.put o.dst (.pointer (some p)))) :
    wpQuiet P ops C Q (o :: rest) a := by
  have hl : I.toNat < zs.length := by have := (hr.rd w0 hC0).len; omega
  obtain ⟨b, off, hA, hb, hc⟩ := (hr.rd w0 hC0).rd.at_ I.toNat (iv zs[I.toNat]) (by rw [List.getElem?_map, List.getElem?_eq_getElem hl]; rfl)
  subst hA
  refine wq_run hw (v := .pointer (some ((⟨b, off, none⟩ : Addr).add (I.toNat * 1)))) (fun w hC => ?_) ?_
  · simp only [execOp, ho, hs, hi, Sem.run_bind, run_indexAt T el.ht (el.size w) _ n c k I h0 h1, Result.andThen, Sem.run_pure]
  · refine h _ zs[I.toNat] (List.getElem?_eq_getElem hl) fun w hC => ?_
    obtain ⟨b', off', hA', _, hc'⟩ := (hr.rd w hC).rd.at_ I.toNat (iv zs[I.toNat]) (by rw [List.getElem?_map, List.getElem?_eq_getElem hl]; rfl)
    injection hA' with hA'
    injection hA' with e1 e2
    subst e1 e2
    rw [Nat.mul_one, Addr.add_lit]
    exact hc'
end
end Go.Th
namespace Go.Proofs.Ytdmkiejaejlajaa
open Go.RowKit Go.Th
set_option linter.unusedVariables false
def RTrRel (tr : List Int) (x0 : Int) (n : Nat) (wb : World) (i : Value) (wr : World) : Prop :=
  ∃ k : Nat, k ≤ n ∧ i = .int .i64 k ∧ Hid (trgo [] x0 tr = trgo (tr.take k) x0 (tr.drop k)) ∧ Below wb.heap.size wb wr
def RInRel (tr : List Int) (x0 x : Int) (i : Nat) (wr : World) (kk : Value) (wq : World) : Prop :=
  ∃ j : Nat, j ≤ i ∧ kk = .int .i64 j ∧ Hid (x ∉ tr.take j) ∧ Hid (0 < j → x0 ≤ x) ∧ Below wr.heap.size wr wq
end Go.Proofs.Ytdmkiejaejlajaa

/-! ### CertSame -/
namespace Go.Th
open Go.RowKit
/-- Two rows of parts are the same: their ends, and their ranks. -/
def psame : List Pt → List Pt → Bool
  | [], [] => true
  | p :: ps, q :: qs => (decide (p.fr = q.fr) && decide (p.to = q.to) && decide (p.rk = q.rk)) && psame ps qs
  | [], _ :: _ => false
  | _ :: _, [] => false
def csame (v : Int) (ps : List Pt) (d : Int) (tr : List Int) (v' : Int) (qs : List Pt) (d' : Int) (tr' : List Int) : Bool :=
  decide (v = v') && decide (d = d') && decide (tr = tr') && psame ps qs
theorem psame_len : ∀ (ps qs : List Pt), psame ps qs = true → ps.length = qs.length
  | [], [], _ => rfl
  | p :: ps, q :: qs, h => by
    simp only [psame, Bool.and_eq_true] at h
    simp [psame_len ps qs h.2]
  | [], _ :: _, h => by simp [psame] at h
  | _ :: _, [], h => by simp [psame] at h
theorem take_eq_snoc {α : Type} {xs ys : List α} {k : Nat} {x y : α} (hx : xs[k]? = some x) (hy : ys[k]? = some y) (h : xs.take k = ys.take k) (hxy : x = y) : xs.take (k + 1) = ys.take (k + 1) := by
  rw [List.take_add_one, List.take_add_one, hx, hy, h, hxy]
theorem ne_at {α : Type} {xs ys : List α} {k : Nat} {x y : α} (hx : xs[k]? = some x) (hy : ys[k]? = some y) (hxy : x ≠ y) : xs ≠ ys := fun e => by
  subst e
  rw [hx] at hy
  injection hy with hy
  exact hxy hy
theorem psame_on {ps qs : List Pt} {k : Nat} {p q : Pt} (hp : ps[k]? = some p) (hq : qs[k]? = some q) (h : p.fr = q.fr ∧ p.to = q.to ∧ p.rk = q.rk) : psame (ps.drop k) (qs.drop k) = psame (ps.drop (k + 1)) (qs.drop (k + 1)) := by
  rw [drop_cons hp, drop_cons hq]
  simp [psame, h.1, h.2.1, h.2.2]
theorem psame_no {ps qs : List Pt} {k : Nat} {p q : Pt} (hp : ps[k]? = some p) (hq : qs[k]? = some q) (h : ¬ (p.fr = q.fr ∧ p.to = q.to ∧ p.rk = q.rk)) : psame (ps.drop k) (qs.drop k) = false := by
  rw [drop_cons hp, drop_cons hq]
  simp only [psame]
  by_cases h1 : p.fr = q.fr
  · by_cases h2 : p.to = q.to
    · have h3 : ¬ p.rk = q.rk := fun h3 => h ⟨h1, h2, h3⟩
      simp [h3]
    · simp [h2]
  · simp [h1]
end Go.Th
namespace Go.Proofs.Ytdmkiejaejlajaa
open Go.RowKit Go.Th
set_option linter.unusedVariables false
def RowRel (xs ys : List Int) (n : Nat) (w : World) (i : Value) (wr : World) : Prop :=
  ∃ k : Nat, k ≤ n ∧ i = .int .i64 k ∧ Hid (xs.take k = ys.take k) ∧ Below w.heap.size w wr
set_option maxRecDepth 100000 in
theorem row_any (A : Option Addr) (n c : Nat) (A2 : Option Addr) (n2 c2 : Nat) (xs ys : List Int) (w : World) (hm : n ≤ 9223372036854775807) (hm2 : n2 ≤ 9223372036854775807) (B B2 : Nat) (hr : RdS iv w B A n c xs) (hr2 : RdS iv w B2 A2 n2 c2 ys) (b : Bool) (hb : Hid (decide (xs = ys) = b)) :
    Calls Try.prog 16 #[.slice A n c, .slice A2 n2 c2] w (RetB (.bool b) w) := by
  have Hlen := Lib.hid hr.len
  have Hlen2 := Lib.hid hr2.len
  by_cases hnn : n = n2
  rotate_left
  · have n1 : ((n : Int) != (n2 : Int)) = true := by simp; omega
    have Hb : Hid (b = false) := Lib.hid (by rw [← hb.out]; exact decide_eq_false fun e => by subst e; exact hnn (Hlen.out.symm.trans Hlen2.out))
    go_enter Try.func16, Try.ntmps16
    go_wp2
    go_ret
    exact ⟨by rw [Hb.out]; try rfl, Below.refl _ _⟩
  · subst hnn
    have n1 : ((n : Int) != (n : Int)) = false := by simp
    go_enter Try.func16, Try.ntmps16
    go_wp2
    go_loopw [5] (fun i wr => RowRel xs ys n w i wr) (fun i _ => n - (intOf i).toNat)
    case atStart => exact ⟨0, by omega, rfl, Lib.hid rfl, Below.refl _ _⟩
    case round =>
      obtain ⟨k, hk, rfl, hf, hbw⟩ := hrel
      have hrk := hr.step hbw
      have hrk2 := hr2.step hbw
      have hbs := hbw.size
      by_cases hlt : k < n
      · obtain ⟨x, hx⟩ : ∃ x, xs[k]? = some x := ⟨xs[k]'(by have := Hlen.out; omega), List.getElem?_eq_getElem _⟩
        obtain ⟨y, hy⟩ : ∃ y, ys[k]? = some y := ⟨ys[k]'(by have := Hlen2.out; omega), List.getElem?_eq_getElem _⟩
        have hways : ((x != y) = true ∧ b = false) ∨ ((x != y) = false ∧ xs.take (k + 1) = ys.take (k + 1)) := by
          by_cases h : x = y
          · exact .inr ⟨by simp [h], take_eq_snoc hx hy hf.out h⟩
          · exact .inl ⟨by simp [h], by rw [← hb.out]; exact decide_eq_false (ne_at hx hy h)⟩
        have Hx := Lib.hid hx
        have Hy := Lib.hid hy
        have x1 := hrk.reach
        have x2 := hrk2.reach
        clear hx hy hf
        rcases hways with ⟨e1, e2⟩ | ⟨e1, e2⟩
        all_goals
          have He := Lib.hid e2
          clear e2
          go_upto_region 6 with fail
          refine wp_region_reach (by kernel_rfl) (by kernel_rfl) ?_
          repeat (first | go_big_quiet_skip | ((with_reducible refine onq_index (.tmp 17) ?_); refine wq_at_i rfl _ (.tmp 17) _ rfl el_int rfl rfl (by omega) (by omega) (Th.Reach.refl _ _) x1 ?_; intro p1 z1 hz1 hc1; have hxx := get_eq Hx.out hz1.out (by omega); subst hxx; have f1 : ∀ q : Step _ _, q.w.cell? p1 = some (.int .i64 x) := fun q => hc1 q.w ⟨q, rfl⟩) | ((with_reducible refine onq_index (.tmp 21) ?_); refine wq_at_i rfl _ (.tmp 21) _ rfl el_int rfl rfl (by omega) (by omega) (Th.Reach.refl _ _) x2 ?_; intro p2 z2 hz2 hc2; have hxx := get_eq Hy.out hz2.out (by omega); subst hxx; have f2 : ∀ q : Step _ _, q.w.cell? p2 = some (.int .i64 y) := fun q => hc2 q.w ⟨q, rfl⟩) | go_big_quiet_step (fail) | quiet_step (fail))
          refine wpQuiet_nil ?_
          rintro _ ⟨q, rfl⟩
          have hqw5 := q.h
          obtain ⟨w5, hw5'⟩ : ∃ W, q.w = W := ⟨_, rfl⟩
          rw [hw5'] at hqw5 ⊢
          clear hw5' q
          go_wp2
        · go_ret
          exact ⟨by rw [He.out]; try rfl, hbw.trans (hqw5.mono hbs)⟩
        · go_roundw
          case rel => first | exact ⟨k + 1, by omega, by go_num, He, hbw.trans (hqw5.mono hbs)⟩ | exact ⟨_, _, ⟨k + 1, by omega, by go_num, He, hbw.trans (hqw5.mono hbs)⟩, rfl, rfl⟩ | exact ⟨_, _, _, ⟨k + 1, by omega, by go_num, He, hbw.trans (hqw5.mono hbs)⟩, rfl, rfl, rfl⟩
          case measure => simp [intOf] <;> omega
      · have hkn : k = n := by omega
        have Hb : Hid (b = true) := Lib.hid (by
          have h := hf.out
          rw [List.take_of_length_le (by have := Hlen.out; omega), List.take_of_length_le (by have := Hlen2.out; omega)] at h
          rw [← hb.out]; exact decide_eq_true h)
        clear hf
        go_wp2
        go_ret
        exact ⟨by rw [Hb.out]; try rfl, hbw⟩
end Go.Proofs.Ytdmkiejaejlajaa
