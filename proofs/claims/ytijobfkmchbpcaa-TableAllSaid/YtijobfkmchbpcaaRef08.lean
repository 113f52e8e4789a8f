/-
  The walks of layer 8's reference that tell what is found, and whether a table may be.
-/
import Derived.Test.YtijobfkmchbpcaaRef06
import Derived.Test.YtijobfkmchbpcaaRuleMay
import Derived.Test.YtijobfkmchbpcaaStore
namespace Go.Proofs.Ytijobfkmchbpcaa
open Go.RowKit Go.Th
set_option linter.unusedVariables false
/-- The loop of Find: k rules were looked at; which one is the best. -/
def RFindRel (x : Int) (l : List Ru) (n : Nat) (w : World) (bs i : Value) (wr : World) : Prop :=
  ∃ (k : Nat) (s : Ru) (b : Bool) (z : Int), k ≤ n ∧ i = .int .i64 k ∧ bs = .int .i64 z ∧ Hid (tfind (l.take k) x = (s, b)) ∧ ((b = false ∧ z = -1 ∧ s = Ru.zero) ∨ (b = true ∧ ∃ j : Nat, z = j ∧ j < n ∧ Hid (l[j]? = some s))) ∧ Box wr w.heap.size 25 Ru.zero.cs.toArray ∧ Below w.heap.size w wr
set_option maxHeartbeats 2000000 in
theorem rfind_any (A : Option Addr) (n c : Nat) (l : List Ru) (x : Int) (w : World) (hm : n ≤ 9223372036854775807) (B : Nat) (hr : RdM Ru.cs w B A n c l) (hok : ∀ r ∈ l, r.Ok) (hx : 0 ≤ x ∧ x ≤ 4294967295) :
    Calls Try.prog 30 #[.slice A n c, .int .u32 x] w (RetRule (tfind l x) w) := by
  have Hok := Lib.hid hok
  have Hx := Lib.hid hx
  clear hok hx
  go_enter Try.func30, Try.ntmps30
  go_wp2
  go_loopw [6, 7] (fun bs i wr => RFindRel x l n w bs i wr) (fun _ i _ => n - (intOf i).toNat)
  case atStart => exact ⟨0, Ru.zero, false, -1, by omega, rfl, rfl, Lib.hid rfl, .inl ⟨rfl, rfl, rfl⟩, (by have := Box.new w Ru.zero.cs.toArray 25; simpa [Ru.cs, Ru.zero] using this), (by repeat (first | exact Below.refl _ _ | refine Below.drew ?_ | refine Below.alloc ?_ (by first | (simp; done) | (simp; omega)) _ | refine Below.setCell ?_ (by first | (simp; done) | (simp; omega)) _ | assumption))⟩
  case round =>
    obtain ⟨k, s, b, z, hk, rfl, rfl, hf, hz, hbox, hb⟩ := hrel
    have hrk : RdM Ru.cs wr B A n c l := hr.step hb
    have hlen := hrk.len
    have hbs := hb.size
    have hzn : -1 ≤ z ∧ z < n := by rcases hz with ⟨_, h, _⟩ | ⟨_, j, h, h2, _⟩ <;> omega
    obtain ⟨hz1, hz2⟩ := hzn
    by_cases hlt : k < n
    · obtain ⟨r, hr0⟩ : ∃ r, l[k]? = some r := ⟨l[k]'(by omega), List.getElem?_eq_getElem _⟩
      have hro := Hok.out r (List.mem_of_getElem? hr0)
      have hsn := tfind_snoc x hr0
      rw [hf.out] at hsn
      have Hr := Lib.hid hr0
      have hways : (holds r.a r.n x = false ∧ fstep x (s, b) r = (s, b)) ∨ (holds r.a r.n x = true ∧ b = true ∧ r.n ≤ s.n ∧ fstep x (s, b) r = (s, b)) ∨ (holds r.a r.n x = true ∧ b = true ∧ s.n < r.n ∧ fstep x (s, b) r = (r, true)) ∨ (holds r.a r.n x = true ∧ b = false ∧ fstep x (s, b) r = (r, true)) := by
        unfold fstep Ru.holds
        cases h1 : holds r.a r.n x <;> cases b <;> simp
        by_cases h2 : r.n ≤ s.n
        · left; simp [h2]; intro h; omega
        · right; simp [h2]; omega
      have hhold : ∀ W, Calls Try.prog 45 #[.int .u32 r.a, .int .i64 r.n, .int .u32 x] W (fun e w' => e = .returned (.bool (holds r.a r.n x)) ∧ W = w') := fun W => rholds_any r.a r.n x W hro.a Hx.out
      generalize holds r.a r.n x = hv at hhold hways
      have Hhold := Lib.hid hhold
      have x9 := hrk.reach
      clear hro hr0 hhold hrk
      rcases hways with ⟨rfl, h3⟩ | ⟨rfl, rfl, h2, h3⟩ | ⟨rfl, rfl, h2, h3⟩ | ⟨rfl, rfl, h3⟩
      · rw [h3] at hsn
        have Hsn := Lib.hid hsn
        have hz' := Lib.hid hz
        clear hsn h3 hz
        go_wp2_with fail
        refine wp_region_reach (by kernel_rfl) (by kernel_rfl) ?_
        repeat (first | go_big_quiet_skip | ((with_reducible refine onq_index (.tmp 14) ?_); refine wqr_at rfl _ (.tmp 14) _ rfl el_rule rfl rfl (by omega) (by omega) (Th.Reach.refl _ _) x9 ?_; intro b1 j1 t1 ht1 hc1; have hxx := get_eq Hr.out ht1.out (by omega); subst hxx; have f0b1 : ∀ q : Step _ _, q.w.cell? ⟨b1, j1, none⟩ = some (.int .u32 r.a) := fun q => hc1.out q.w ⟨q, rfl⟩ 0 _ rfl) | ((with_reducible refine onq_index (.tmp 19) ?_); refine wqr_at rfl _ (.tmp 19) _ rfl el_rule rfl rfl (by omega) (by omega) (Th.Reach.refl _ _) x9 ?_; intro b2 j2 t2 ht2 hc2; have hxx := get_eq Hr.out ht2.out (by omega); subst hxx; have f1b2 : ∀ q : Step _ _, q.w.cell? ⟨b2, j2 + 1, none⟩ = some (.int .i64 r.n) := fun q => hc2.out q.w ⟨q, rfl⟩ 1 _ rfl) | ((with_reducible refine onq_index (.tmp 30) ?_); refine wqr_at rfl _ (.tmp 30) _ rfl el_rule rfl rfl (by omega) (by omega) (Th.Reach.refl _ _) x9 ?_; intro b3 j3 t3 ht3 hc3; have hxx := get_eq Hr.out ht3.out (by omega); subst hxx; have f1b3 : ∀ q : Step _ _, q.w.cell? ⟨b3, j3 + 1, none⟩ = some (.int .i64 r.n) := fun q => hc3.out q.w ⟨q, rfl⟩ 1 _ rfl) | ((with_reducible refine onq_index (.tmp 35) ?_); refine wqr_at rfl _ (.tmp 35) _ rfl el_rule rfl rfl (by omega) (by omega) (Th.Reach.refl _ _) x9 ?_; intro b4 j4 t4 ht4 hc4; have hxx := get_eq Hs.out ht4.out (by omega); subst hxx; have f1b4 : ∀ q : Step _ _, q.w.cell? ⟨b4, j4 + 1, none⟩ = some (.int .i64 s.n) := fun q => hc4.out q.w ⟨q, rfl⟩ 1 _ rfl) | go_big_quiet_step (with_reducible exact Calls.reach_same (Hhold.out _)) | quiet_step (with_reducible exact Calls.reach_same (Hhold.out _)))
        refine wpQuiet_nil ?_
        rintro _ ⟨q, rfl⟩
        have hqw5 := q.h
        obtain ⟨w5, hw5'⟩ : ∃ W, q.w = W := ⟨_, rfl⟩
        rw [hw5'] at hqw5 ⊢
        clear hw5' q
        go_wp2
        go_roundw
        case rel => exact ⟨k + 1, s, b, z, by omega, by go_num, rfl, Hsn, hz'.out, hbox.step hqw5, hb.trans (hqw5.mono hbs)⟩
        case measure => simp [intOf]; omega
      · rw [h3] at hsn
        have Hsn := Lib.hid hsn
        rcases hz with ⟨h, _, _⟩ | ⟨_, j, rfl, hjn, Hs⟩
        · cases h
        clear hsn h3 hz1 hz2
        have hjl : decide ((j : Int) < 0) = false := decide_eq_false (by omega)
        have hnl : decide (r.n > s.n) = false := decide_eq_false (by omega)
        go_wp2_with fail
        refine wp_region_reach (by kernel_rfl) (by kernel_rfl) ?_
        repeat (first | go_big_quiet_skip | ((with_reducible refine onq_index (.tmp 14) ?_); refine wqr_at rfl _ (.tmp 14) _ rfl el_rule rfl rfl (by omega) (by omega) (Th.Reach.refl _ _) x9 ?_; intro b1 j1 t1 ht1 hc1; have hxx := get_eq Hr.out ht1.out (by omega); subst hxx; have f0b1 : ∀ q : Step _ _, q.w.cell? ⟨b1, j1, none⟩ = some (.int .u32 r.a) := fun q => hc1.out q.w ⟨q, rfl⟩ 0 _ rfl) | ((with_reducible refine onq_index (.tmp 19) ?_); refine wqr_at rfl _ (.tmp 19) _ rfl el_rule rfl rfl (by omega) (by omega) (Th.Reach.refl _ _) x9 ?_; intro b2 j2 t2 ht2 hc2; have hxx := get_eq Hr.out ht2.out (by omega); subst hxx; have f1b2 : ∀ q : Step _ _, q.w.cell? ⟨b2, j2 + 1, none⟩ = some (.int .i64 r.n) := fun q => hc2.out q.w ⟨q, rfl⟩ 1 _ rfl) | ((with_reducible refine onq_index (.tmp 30) ?_); refine wqr_at rfl _ (.tmp 30) _ rfl el_rule rfl rfl (by omega) (by omega) (Th.Reach.refl _ _) x9 ?_; intro b3 j3 t3 ht3 hc3; have hxx := get_eq Hr.out ht3.out (by omega); subst hxx; have f1b3 : ∀ q : Step _ _, q.w.cell? ⟨b3, j3 + 1, none⟩ = some (.int .i64 r.n) := fun q => hc3.out q.w ⟨q, rfl⟩ 1 _ rfl) | ((with_reducible refine onq_index (.tmp 35) ?_); refine wqr_at rfl _ (.tmp 35) _ rfl el_rule rfl rfl (by omega) (by omega) (Th.Reach.refl _ _) x9 ?_; intro b4 j4 t4 ht4 hc4; have hxx := get_eq Hs.out ht4.out (by omega); subst hxx; have f1b4 : ∀ q : Step _ _, q.w.cell? ⟨b4, j4 + 1, none⟩ = some (.int .i64 s.n) := fun q => hc4.out q.w ⟨q, rfl⟩ 1 _ rfl) | go_big_quiet_step (with_reducible exact Calls.reach_same (Hhold.out _)) | quiet_step (with_reducible exact Calls.reach_same (Hhold.out _)))
        refine wpQuiet_nil ?_
        rintro _ ⟨q, rfl⟩
        have hqw5 := q.h
        obtain ⟨w5, hw5'⟩ : ∃ W, q.w = W := ⟨_, rfl⟩
        rw [hw5'] at hqw5 ⊢
        clear hw5' q
        go_wp2
        go_roundw
        case rel => exact ⟨k + 1, s, true, j, by omega, by go_num, rfl, Hsn, .inr ⟨rfl, j, rfl, hjn, Hs⟩, hbox.step hqw5, hb.trans (hqw5.mono hbs)⟩
        case measure => simp [intOf]; omega
      · rw [h3] at hsn
        have Hsn := Lib.hid hsn
        rcases hz with ⟨h, _, _⟩ | ⟨_, j, rfl, hjn, Hs⟩
        · cases h
        clear hsn h3 hz1 hz2
        have hjl : decide ((j : Int) < 0) = false := decide_eq_false (by omega)
        go_wp2_with fail
        refine wp_region_reach (by kernel_rfl) (by kernel_rfl) ?_
        repeat (first | go_big_quiet_skip | ((with_reducible refine onq_index (.tmp 14) ?_); refine wqr_at rfl _ (.tmp 14) _ rfl el_rule rfl rfl (by omega) (by omega) (Th.Reach.refl _ _) x9 ?_; intro b1 j1 t1 ht1 hc1; have hxx := get_eq Hr.out ht1.out (by omega); subst hxx; have f0b1 : ∀ q : Step _ _, q.w.cell? ⟨b1, j1, none⟩ = some (.int .u32 r.a) := fun q => hc1.out q.w ⟨q, rfl⟩ 0 _ rfl) | ((with_reducible refine onq_index (.tmp 19) ?_); refine wqr_at rfl _ (.tmp 19) _ rfl el_rule rfl rfl (by omega) (by omega) (Th.Reach.refl _ _) x9 ?_; intro b2 j2 t2 ht2 hc2; have hxx := get_eq Hr.out ht2.out (by omega); subst hxx; have f1b2 : ∀ q : Step _ _, q.w.cell? ⟨b2, j2 + 1, none⟩ = some (.int .i64 r.n) := fun q => hc2.out q.w ⟨q, rfl⟩ 1 _ rfl) | ((with_reducible refine onq_index (.tmp 30) ?_); refine wqr_at rfl _ (.tmp 30) _ rfl el_rule rfl rfl (by omega) (by omega) (Th.Reach.refl _ _) x9 ?_; intro b3 j3 t3 ht3 hc3; have hxx := get_eq Hr.out ht3.out (by omega); subst hxx; have f1b3 : ∀ q : Step _ _, q.w.cell? ⟨b3, j3 + 1, none⟩ = some (.int .i64 r.n) := fun q => hc3.out q.w ⟨q, rfl⟩ 1 _ rfl) | ((with_reducible refine onq_index (.tmp 35) ?_); refine wqr_at rfl _ (.tmp 35) _ rfl el_rule rfl rfl (by omega) (by omega) (Th.Reach.refl _ _) x9 ?_; intro b4 j4 t4 ht4 hc4; have hxx := get_eq Hs.out ht4.out (by omega); subst hxx; have f1b4 : ∀ q : Step _ _, q.w.cell? ⟨b4, j4 + 1, none⟩ = some (.int .i64 s.n) := fun q => hc4.out q.w ⟨q, rfl⟩ 1 _ rfl) | go_big_quiet_step (with_reducible exact Calls.reach_same (Hhold.out _)) | quiet_step (with_reducible exact Calls.reach_same (Hhold.out _)))
        refine wpQuiet_nil ?_
        rintro _ ⟨q, rfl⟩
        have hqw5 := q.h
        obtain ⟨w5, hw5'⟩ : ∃ W, q.w = W := ⟨_, rfl⟩
        rw [hw5'] at hqw5 ⊢
        clear hw5' q
        go_wp2
        go_roundw
        case rel => exact ⟨k + 1, r, true, k, by omega, by go_num, rfl, Hsn, .inr ⟨rfl, k, rfl, hlt, Hr⟩, hbox.step hqw5, hb.trans (hqw5.mono hbs)⟩
        case measure => simp [intOf]; omega
      · rw [h3] at hsn
        have Hsn := Lib.hid hsn
        rcases hz with ⟨_, rfl, _⟩ | ⟨h, _⟩
        rotate_left
        · cases h
        clear hsn h3 hz1 hz2
        go_wp2_with fail
        have Hs := Hr
        refine wp_region_reach (by kernel_rfl) (by kernel_rfl) ?_
        repeat (first | go_big_quiet_skip | ((with_reducible refine onq_index (.tmp 14) ?_); refine wqr_at rfl _ (.tmp 14) _ rfl el_rule rfl rfl (by omega) (by omega) (Th.Reach.refl _ _) x9 ?_; intro b1 j1 t1 ht1 hc1; have hxx := get_eq Hr.out ht1.out (by omega); subst hxx; have f0b1 : ∀ q : Step _ _, q.w.cell? ⟨b1, j1, none⟩ = some (.int .u32 r.a) := fun q => hc1.out q.w ⟨q, rfl⟩ 0 _ rfl) | ((with_reducible refine onq_index (.tmp 19) ?_); refine wqr_at rfl _ (.tmp 19) _ rfl el_rule rfl rfl (by omega) (by omega) (Th.Reach.refl _ _) x9 ?_; intro b2 j2 t2 ht2 hc2; have hxx := get_eq Hr.out ht2.out (by omega); subst hxx; have f1b2 : ∀ q : Step _ _, q.w.cell? ⟨b2, j2 + 1, none⟩ = some (.int .i64 r.n) := fun q => hc2.out q.w ⟨q, rfl⟩ 1 _ rfl) | ((with_reducible refine onq_index (.tmp 30) ?_); refine wqr_at rfl _ (.tmp 30) _ rfl el_rule rfl rfl (by omega) (by omega) (Th.Reach.refl _ _) x9 ?_; intro b3 j3 t3 ht3 hc3; have hxx := get_eq Hr.out ht3.out (by omega); subst hxx; have f1b3 : ∀ q : Step _ _, q.w.cell? ⟨b3, j3 + 1, none⟩ = some (.int .i64 r.n) := fun q => hc3.out q.w ⟨q, rfl⟩ 1 _ rfl) | ((with_reducible refine onq_index (.tmp 35) ?_); refine wqr_at rfl _ (.tmp 35) _ rfl el_rule rfl rfl (by omega) (by omega) (Th.Reach.refl _ _) x9 ?_; intro b4 j4 t4 ht4 hc4; have hxx := get_eq Hs.out ht4.out (by omega); subst hxx; have f1b4 : ∀ q : Step _ _, q.w.cell? ⟨b4, j4 + 1, none⟩ = some (.int .i64 s.n) := fun q => hc4.out q.w ⟨q, rfl⟩ 1 _ rfl) | go_big_quiet_step (with_reducible exact Calls.reach_same (Hhold.out _)) | quiet_step (with_reducible exact Calls.reach_same (Hhold.out _)))
        refine wpQuiet_nil ?_
        rintro _ ⟨q, rfl⟩
        have hqw5 := q.h
        obtain ⟨w5, hw5'⟩ : ∃ W, q.w = W := ⟨_, rfl⟩
        rw [hw5'] at hqw5 ⊢
        clear hw5' q
        go_wp2
        go_roundw
        case rel => exact ⟨k + 1, r, true, k, by omega, by go_num, rfl, Hsn, .inr ⟨rfl, k, rfl, hlt, Hr⟩, hbox.step hqw5, hb.trans (hqw5.mono hbs)⟩
        case measure => simp [intOf]; omega
    · have hkn : k = n := by omega
      have hfin : tfind l x = (s, b) := by rw [← hf.out, List.take_of_length_le (by omega)]
      have Hfin := Lib.hid hfin
      clear hfin hf
      rcases hz with ⟨rfl, rfl, rfl⟩ | ⟨rfl, j, rfl, hjn, Hs⟩
      · go_wp2_with ((with_reducible refine on_store ?_); refine wr_store (r := Ru.zero) (s := Ru.zero) rfl _ _ _ rfl st_rule rfl rfl hbox ?_; intro w3 hz3 hg3)
        obtain ⟨e0, e1, e2, e3⟩ := hz3.rule
        refine bodyPost_ret (v := .tuple #[.agg #[.int .u32 Ru.zero.a, .int .i64 Ru.zero.n, .int .i64 Ru.zero.act, .int .i64 Ru.zero.next], .bool false]) ?_ rfl ⟨(by rw [Hfin.out]), hb.trans (below_of_grown hg3 (by intro g e; injection e with e; omega) hb.size)⟩
        simp [results, Try.results30, go_sem, e0, e1, e2, e3]
      · have hjl : decide ((j : Int) < 0) = false := decide_eq_false (by omega)
        go_wp2_with (first
          | ((with_reducible refine on_index (.tmp 47) ?_); refine wm_at Ru.cs_length rfl _ _ _ rfl el_rule rfl rfl (by omega) (by omega) hrk ?_; intro b1 j1 r1 hr1 hb1 hc1; have hxx : s = r1 := get_eq Hs.out hr1.out (by omega); subst hxx)
          | ((with_reducible refine on_load (.tmp 49) ?_); refine wr_load rfl _ _ rfl st_rule rfl hc1 ?_)
          | ((with_reducible refine on_store ?_); refine wr_store (r := Ru.zero) (s := s) rfl _ _ _ rfl st_rule rfl rfl hbox ?_; intro w3 hz3 hg3))
        obtain ⟨e0, e1, e2, e3⟩ := hz3.rule
        refine bodyPost_ret (v := .tuple #[.agg #[.int .u32 s.a, .int .i64 s.n, .int .i64 s.act, .int .i64 s.next], .bool true]) ?_ rfl ⟨(by rw [Hfin.out]), hb.trans (below_of_grown hg3 (by intro g e; injection e with e; omega) hb.size)⟩
        simp [results, Try.results30, go_sem, e0, e1, e2, e3]
theorem rnext_any (A : Option Addr) (n c : Nat) (l : List Ru) (x : Int) (w : World) (hm : n ≤ 9223372036854775807) (B : Nat) (hr : RdM Ru.cs w B A n c l) (hok : ∀ r ∈ l, r.Ok) (hx : 0 ≤ x ∧ x ≤ 4294967295) :
    Calls Try.prog 31 #[.slice A n c, .int .u32 x] w (RetIB (tnext l x) w) := by
  have hc := rfind_any A n c l x w hm B hr hok hx
  obtain ⟨best, b, hp⟩ : ∃ best b, tfind l x = (best, b) := ⟨_, _, rfl⟩
  have hn : tnext l x = if b = true ∧ best.act = 1 then (best.next, true) else (0, false) := by unfold tnext; rw [hp]
  have hways : (b = false ∧ tnext l x = (0, false)) ∨ (b = true ∧ (best.act != 1) = true ∧ tnext l x = (0, false)) ∨ (b = true ∧ (best.act != 1) = false ∧ tnext l x = (best.next, true)) := by
    rw [hn]
    cases b
    · simp
    · by_cases h : best.act = 1 <;> simp [h]
  have Hc := Lib.hid hc
  rw [hp] at Hc
  clear hc hn hp
  generalize tnext l x = v at *
  rcases hways with ⟨rfl, rfl⟩ | ⟨rfl, h, rfl⟩ | ⟨rfl, h, rfl⟩
  all_goals go_enter Try.func31, Try.ntmps31
  all_goals go_wp2_with (go_at_call 30; refine Hc.out.mono ?_; rintro e w1 ⟨rfl, hb1⟩)
  all_goals go_ret2
  all_goals exact ⟨rfl, hb1.alloc hb1.size _⟩
set_option maxHeartbeats 2000000 in
theorem rtmay_any (A : Option Addr) (n c : Nat) (l : List Ru) (nodes : Int) (w : World) (hm : n ≤ 9223372036854775807) (B : Nat) (hr : RdM Ru.cs w B A n c l) (hok : ∀ r ∈ l, r.Ok) :
    Calls Try.prog 33 #[.slice A n c, .int .i64 nodes] w (RetB (.int .i64 (tmay l nodes)) w) := by
  have Hok := Lib.hid hok
  clear hok
  go_enter Try.func33, Try.ntmps33
  go_wp2
  go_loopw [5] (fun i wr => MayRel l nodes n w i wr) (fun i _ => n - (intOf i).toNat)
  case atStart => exact ⟨0, by omega, rfl, rfl, Below.refl _ _⟩
  case round =>
    obtain ⟨k, hk, rfl, hf, hb⟩ := hrel
    have hrk := hr.step hb
    have hlen := hrk.len
    have hbs := hb.size
    by_cases hlt : k < n
    · obtain ⟨r, hr0⟩ : ∃ r, l[k]? = some r := ⟨l[k]'(by omega), List.getElem?_eq_getElem _⟩
      have hro := Hok.out r (List.mem_of_getElem? hr0)
      have Hro := Lib.hid hro
      have Hr := Lib.hid hr0
      obtain ⟨e, he⟩ : ∃ e, r.may nodes = e := ⟨_, rfl⟩
      have He := Lib.hid he
      clear hr0 hro he
      by_cases hz : e = 0
      · subst hz
        rcases Nat.eq_zero_or_pos k with h0 | h0
        · subst h0
          have h5 := Lib.hid (hf.out.trans (tmay_first Hr.out He.out))
          clear hf
          go_wp2_with (first
            | ((with_reducible refine on_index (.tmp 13) ?_); refine wm_at Ru.cs_length rfl _ _ _ rfl el_rule rfl rfl (by omega) (by omega) hrk ?_; intro b1 j1 r1 hr1 hb1 hc1; have hxx : r = r1 := (by have e := hr1.out; rw [Int.toNat_natCast, Hr.out] at e; injection e); subst hxx)
            | ((with_reducible refine on_load (.tmp 15) ?_); refine wr_load rfl _ _ rfl st_rule rfl hc1 ?_)
            | (go_at_call 37; refine (rmay_is r nodes _ Hro.out 0 He.out).mono ?_; rintro y w1 ⟨rfl, hb1⟩))
          refine wp_region_reach (by kernel_rfl) (by kernel_rfl) ?_
          repeat (first | go_big_quiet_skip | go_big_quiet_step (fail) | quiet_step (fail))
          refine wpQuiet_nil ?_
          rintro _ ⟨q, rfl⟩
          have hqw5 := q.h
          obtain ⟨w5, hw5'⟩ : ∃ W, q.w = W := ⟨_, rfl⟩
          rw [hw5'] at hqw5 ⊢
          clear hw5' q
          go_wp2
          go_roundw
          case rel => exact ⟨0 + 1, by omega, by go_num, h5.out, (hb.trans (hb1.mono hbs)).trans (hqw5.mono (by have := hb1.size; omega))⟩
          case measure => simp [intOf]; omega
        · obtain ⟨k, rfl⟩ : ∃ j, k = j + 1 := ⟨k - 1, by omega⟩
          obtain ⟨q, hq0⟩ : ∃ q, l[k]? = some q := ⟨l[k]'(by omega), List.getElem?_eq_getElem _⟩
          have Hqo := Lib.hid (Hok.out q (List.mem_of_getElem? hq0))
          have Hq := Lib.hid hq0
          obtain ⟨v, hv⟩ : ∃ v, r.cmp q = v := ⟨_, rfl⟩
          have hvw : ((v != 1) = true ∧ tmay l nodes = 11) ∨ ((v != 1) = false ∧ tmay l nodes = tmayGo nodes (aheadOf l (k + 1 + 1)) (l.drop (k + 1 + 1))) := by
            by_cases h1 : v = 1
            · exact .inr ⟨by simp [h1], hf.out.trans (tmay_on Hr.out hq0 He.out (by rw [hv]; exact h1))⟩
            · exact .inl ⟨by simp [h1], hf.out.trans (tmay_order Hr.out hq0 He.out (by rw [hv]; exact h1))⟩
          have Kcmp := Lib.hid (fun W => (show Calls Try.prog 38 #[.agg #[.int .u32 r.a, .int .i64 r.n, .int .i64 r.act, .int .i64 r.next], .agg #[.int .u32 q.a, .int .i64 q.n, .int .i64 q.act, .int .i64 q.next]] W (fun x w' => x = .returned (.int .i64 v) ∧ Below W.heap.size W w') from by rw [← hv]; exact rrcmp_any r q W))
          clear hf hq0 hv
          rcases hvw with ⟨hv1, h5⟩ | ⟨hv1, h5⟩
          all_goals
            have H5 := Lib.hid h5
            clear h5
            go_wp2_with (first
              | ((with_reducible refine on_index (.tmp 13) ?_); refine wm_at Ru.cs_length rfl _ _ _ rfl el_rule rfl rfl (by omega) (by omega) hrk ?_; intro b1 j1 r1 hr1 hb1 hc1; have hxx : r = r1 := get_eq Hr.out hr1.out (by omega); subst hxx)
              | ((with_reducible refine on_load (.tmp 15) ?_); refine wr_load rfl _ _ rfl st_rule rfl hc1 ?_)
              | (go_at_call 37; refine (rmay_is r nodes _ Hro.out 0 He.out).mono ?_; rintro y w1 ⟨rfl, hb1⟩))
            have hx1 := (hrk.step hb1).reach
            have hb2 := hb.trans (hb1.mono hbs)
            refine wp_region_reach (by kernel_rfl) (by kernel_rfl) ?_
            repeat (first | go_big_quiet_skip | ((with_reducible refine onq_index (.tmp 25) ?_); refine wqr_at rfl _ (.tmp 25) _ rfl el_rule rfl rfl (by omega) (by omega) (Th.Reach.refl _ _) hx1 ?_; intro b3 j3 t3 ht3 hc3; have hxx : r = t3 := get_eq Hr.out ht3.out (by omega); subst hxx) | ((with_reducible refine onq_load (.tmp 27) ?_); refine wqr_load rfl _ (.tmp 27) rfl st_rule rfl hc3 ?_) | ((with_reducible refine onq_index (.tmp 29) ?_); refine wqr_at rfl _ (.tmp 29) _ rfl el_rule rfl rfl (by omega) (by omega) (Th.Reach.refl _ _) hx1 ?_; intro b2 j2 t2 ht2 hc2; have hxx : q = t2 := get_eq Hq.out ht2.out (by omega); subst hxx) | ((with_reducible refine onq_load (.tmp 32) ?_); refine wqr_load rfl _ (.tmp 32) rfl st_rule rfl hc2 ?_) | go_big_quiet_step (exact Calls.reach (Kcmp.out _)) | quiet_step (exact Calls.reach (Kcmp.out _)))
            refine wpQuiet_nil ?_
            rintro _ ⟨q, rfl⟩
            have hqw5 := q.h
            obtain ⟨w5, hw5'⟩ : ∃ W, q.w = W := ⟨_, rfl⟩
            rw [hw5'] at hqw5 ⊢
            clear hw5' q
            have hb3 := hb2.trans (hqw5.mono hb2.size)
            go_wp2
          · go_ret
            exact ⟨(by rw [H5.out]; try rfl), hb3⟩
          · go_roundw
            case rel => exact ⟨k + 1 + 1, by omega, by go_num, H5.out, hb3⟩
            case measure => simp [intOf]; omega
      · have h5 := Lib.hid (hf.out.trans (tmay_bad Hr.out (by rw [He.out]; exact hz) _))
        have hz' : (e != 0) = true := by simp [hz]
        clear hf
        go_wp2_with (first
          | ((with_reducible refine on_index (.tmp 13) ?_); refine wm_at Ru.cs_length rfl _ _ _ rfl el_rule rfl rfl (by omega) (by omega) hrk ?_; intro b1 j1 r1 hr1 hb1 hc1; have hxx : r = r1 := (by have e := hr1.out; rw [Int.toNat_natCast, Hr.out] at e; injection e); subst hxx)
          | ((with_reducible refine on_load (.tmp 15) ?_); refine wr_load rfl _ _ rfl st_rule rfl hc1 ?_)
          | (go_at_call 37; refine (rmay_is r nodes _ Hro.out e He.out).mono ?_; rintro e' w1 ⟨rfl, hb1⟩))
        go_ret
        exact ⟨(by rw [h5.out, He.out]; try rfl), hb.trans (hb1.mono hbs)⟩
    · have h5 : tmay l nodes = 0 := by rw [hf.out, List.drop_eq_nil_of_le (by omega)]; rfl
      have H5 := Lib.hid h5
      clear h5 hf
      go_wp2
      go_ret
      exact ⟨(by rw [H5.out]; try rfl), hb⟩
end Go.Proofs.Ytijobfkmchbpcaa
