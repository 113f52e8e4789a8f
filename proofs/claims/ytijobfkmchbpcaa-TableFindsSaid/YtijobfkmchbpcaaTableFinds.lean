/-
  theseuslaw08.TableFinds: the walk.
-/
import Derived.Test.YtijobfkmchbpcaaTableRef
import Derived.Test.YtijobfkmchbpcaaTableFindsLaw
import Derived.Test.YtijobfkmchbpcaaRuleMay
namespace Go.Proofs.Ytijobfkmchbpcaa
open Go.RowKit Go.Th
set_option linter.unusedVariables false
theorem next_isF (A : Option Addr) (n c : Nat) (l : List Ru) (x : Int) (w : World) (hm : n ≤ 9223372036854775807) (B : Nat) (hr : RdM Ru.cs w B A n c l) (hok : ∀ r ∈ l, r.Ok) (hx : 0 ≤ x ∧ x ≤ 4294967295) (s : Int) (b : Bool) (h : tnext l x = (s, b)) :
    Calls Try.prog 20 #[.slice A n c, .int .u32 x] w fun e w' => e = .returned (.tuple #[.int .i64 s, .bool b]) ∧ Below w.heap.size w w' := by
  have := next_any A n c l x w hm B hr hok hx
  rw [h] at this
  exact this
theorem tmay_isF (A : Option Addr) (n c : Nat) (l : List Ru) (nodes : Int) (w : World) (hm : n ≤ 9223372036854775807) (B : Nat) (hr : RdM Ru.cs w B A n c l) (hok : ∀ r ∈ l, r.Ok) (e : Int) (he : tmay l nodes = e) :
    Calls Try.prog 32 #[.slice A n c, .int .i64 nodes] w fun x w' => x = .returned (.int .i64 e) ∧ Below w.heap.size w w' := by
  have := tmay_any A n c l nodes w hm B hr hok
  rw [he] at this
  exact this
def FindsRel (ws : List Ru) (ok : Bool) (jb m base : Nat) (A : Option Addr) (c g b0 : Nat) (r : Ru) (w : World) (th i : Value) (wr : World) : Prop :=
  ∃ (k q : Nat), k ≤ m ∧ q ≤ 1 ∧ i = .int .i64 k ∧ th = .int .i64 q ∧ Hid (q = cntOf ok jb k) ∧ OwM Ru.cs 4 wr base 25 A m c ws ∧ Box wr g 25 r.cs.toArray ∧ Below b0 w wr
set_option maxHeartbeats 8000000 in
set_option maxRecDepth 100000 in
theorem tableFinds_walk (A : Option Addr) (n c : Nat) (l : List Ru) {w : World} (hr : RdM Ru.cs w w.heap.size A n c l) (hm : n ≤ 9223372036854775807) (hok : ∀ r ∈ l, r.Ok) (nb : Int) (hnb : 0 ≤ nb ∧ nb ≤ 255) (x : Int) (hx : 0 ≤ x ∧ x ≤ 4294967295) :
    Calls Try.prog 9 #[.slice A n c, .int .u8 nb, .int .u32 x] w fun e w' => e = .returned (.bool true) ∧ Below w.heap.size w w' := by
  obtain ⟨hn1, hn2⟩ := hnb
  have hsd : Sound (1 + nb) := by unfold Sound; omega
  obtain ⟨ws, hws⟩ : ∃ ws, fitT l (1 + nb) = ws := ⟨_, rfl⟩
  have hgw : GoodT ws := by rw [← hws]; exact fitT_good hsd _ hok
  have hfw : Fitted (1 + nb) ws := by rw [← hws]; exact fitT_fitted hsd _ hok
  have hokw : ∀ t ∈ ws, t.Ok := fun t ht => (hgw.pre t ht).ok
  have hmay : tmay ws (1 + nb) = 0 := tmay_ok hgw.sorted (fitted_may (by omega) hfw hokw)
  obtain ⟨m, hwl⟩ : ∃ m, ws.length = m := ⟨_, rfl⟩
  have hm20 : m ≤ 20 := by rw [← hwl, ← hws]; have := fitT_length l (1 + nb); omega
  obtain ⟨r, ok, hf⟩ : ∃ r ok, tfind ws x = (r, ok) := ⟨_, _, rfl⟩
  obtain ⟨jb, hjb, hlaw⟩ := finds hgw hf
  have hcnt : cntOf ok jb m = if ok = true then 1 else 0 := by
    unfold cntOf
    cases ok with
    | false => simp
    | true => have := hjb rfl; simp; omega
  have hnx : tnext ws x = if ok = true ∧ r.act = 1 then (r.next, true) else (0, false) := by unfold tnext; rw [hf]
  have Hws := Lib.hid hws
  have Hgw := Lib.hid hgw
  have Hokw := Lib.hid hokw
  have Hmay := Lib.hid hmay
  have Hok := Lib.hid hok
  have Hx := Lib.hid hx
  have Hwl := Lib.hid hwl
  have Hf := Lib.hid hf
  have Hlaw := Lib.hid hlaw
  have Hcnt := Lib.hid hcnt
  obtain ⟨nm, ng, hnn⟩ : ∃ nm ng, tnext ws x = (nm, ng) := ⟨_, _, rfl⟩
  have hend : (true = ok ∧ (r.act == 1) = true ∧ r.next = nm ∧ true = ng) ∨ (true = ok ∧ (r.act == 1) = false ∧ 0 = nm ∧ false = ng) ∨ (false = ok ∧ 0 = nm ∧ false = ng) := by
    rw [hnn] at hnx
    cases ok with
    | false => rw [if_neg (by simp)] at hnx; injection hnx with e1 e2; exact .inr (.inr ⟨rfl, e1.symm, e2.symm⟩)
    | true =>
      by_cases ha : r.act = 1
      · rw [if_pos ⟨rfl, ha⟩] at hnx; injection hnx with e1 e2; exact .inl ⟨rfl, by simp [ha], e1.symm, e2.symm⟩
      · rw [if_neg (fun e => ha e.2)] at hnx; injection hnx with e1 e2; exact .inr (.inl ⟨rfl, by simp [ha], e1.symm, e2.symm⟩)
  have Hend := Lib.hid hend
  have Hnx := Lib.hid hnn
  have Hsd := Lib.hid hsd
  clear hws hgw hfw hokw hmay hok hx hwl hf hjb hlaw hcnt hnx hsd hnn hend
  go_enter Try.func9, Try.ntmps9
  go_wp2_with (first
    | (go_at_call 15; refine (shown8 _).mono ?_; rintro e w1 ⟨rfl, hb1⟩)
    | (go_at_call 16; refine (fit_any _ _ _ _ _ _ hm _ (hr.step hb1) Hok.out Hsd.out).mono ?_; rintro e w2 ⟨A8, m8, c8, rfl, hm8, how8, hb2⟩; rw [Hws.out] at how8; have e8 : m8 = m := how8.len.symm.trans Hwl.out; subst e8)
    | (go_at_call 18; refine (find_is _ _ _ _ _ _ (by omega) _ how8.rd Hokw.out Hx.out _ _ Hf.out).mono ?_; rintro e w3 ⟨rfl, hb3⟩; have cow8 := (how8.below hb3).alloc (.cells (Ru.cs r).toArray 25))
    | (go_at_call 20; refine (next_isF _ _ _ _ _ _ (by omega) _ cow8.rd Hokw.out Hx.out _ _ Hnx.out).mono ?_; rintro e w4 ⟨rfl, hb4⟩))
  have dow8 := cow8.below hb4
  have dx9 := (Box.new w3 (Ru.cs r).toArray 25).step hb4
  have hb12 := next hb1 hb2
  have hbw := hb12.trans (hb3.mono hb12.size)
  have hbw := hbw.alloc hbw.size (.cells (Ru.cs r).toArray 25)
  have hbw := hbw.trans (hb4.mono hbw.size)
  clear hb1 hb2 hb3 hb4 hb12 how8 cow8 hr
  go_loopw [13, 14] (fun th i wr => FindsRel ws ok jb m8 w1.heap.size A8 c8 w3.heap.size w.heap.size r w th i wr) (fun _ i _ => m8 - (intOf i).toNat)
  case atStart => exact ⟨0, 0, by omega, by omega, rfl, rfl, (by show _ = _; unfold cntOf; rw [if_neg (fun e => by have := e.2; omega)]), dow8, dx9, hbw⟩
  case round =>
    obtain ⟨k, q, hk, hq, rfl, rfl, hc, how, hbx, hb⟩ := hrel
    clear dow8 dx9 hbw
    have hbs := hb.size
    have l8 := how.len
    by_cases hlt : k < m8
    · obtain ⟨t, ht⟩ : ∃ t, ws[k]? = some t := ⟨ws[k]'(by omega), List.getElem?_eq_getElem _⟩
      have hl := Hlaw.out k t ht
      have Ht := Lib.hid ht
      have hto := Hokw.out t (List.mem_of_getElem? ht)
      have Hta := Lib.hid hto.a
      have Htn := Lib.hid hto.n
      clear ht hto
      have x9 := how.rd.reach
      rcases hl with ⟨hh, h5⟩ | ⟨rfl, hh, hn, h5⟩ | ⟨rfl, hh, h3, h4, h5⟩
      rotate_left 2
      obtain rfl := h3.symm
      rotate_left 1
      all_goals
        have Hh := Lib.hid hh
        have H5 := Lib.hid h5
        clear hh h5
        have Hhold : Hid (∀ W, Calls Try.prog 19 #[.int .u32 t.a, .int .i64 t.n, .int .u32 x] W (fun e w' => e = .returned (.bool (holds t.a t.n x)) ∧ W = w')) := Lib.hid (fun W => holds_any t.a t.n x W Hta.out Htn.out Hx.out)
        rw [Hh.out] at Hhold
        go_wp2
        refine wp_region_reach (by kernel_rfl) (by kernel_rfl) ?_
        repeat (first | (refine wqr_at rfl _ (.tmp 41) _ rfl el_rule rfl rfl (by omega) (by omega) (Th.Reach.refl _ _) x9 ?_; intro b1 j1 t2 ht2 hcb1; have hxx := get_eq Ht.out ht2.out (by omega); subst hxx; have f0b1 : ∀ q : Step _ _, q.w.cell? ⟨b1, j1, none⟩ = some (.int .u32 t.a) := fun q => hcb1.out q.w ⟨q, rfl⟩ 0 _ rfl) | (refine wqr_at rfl _ (.tmp 46) _ rfl el_rule rfl rfl (by omega) (by omega) (Th.Reach.refl _ _) x9 ?_; intro b2 j2 t2 ht2 hcb2; have hxx := get_eq Ht.out ht2.out (by omega); subst hxx; have f1b2 : ∀ q : Step _ _, q.w.cell? ⟨b2, j2 + 1, none⟩ = some (.int .i64 t.n) := fun q => hcb2.out q.w ⟨q, rfl⟩ 1 _ rfl) | go_big_quiet_step (exact Calls.reach_same (Hhold.out _)) | quiet_step (exact Calls.reach_same (Hhold.out _)))
        refine wpQuiet_nil ?_
        rintro _ ⟨q, rfl⟩
        have hqw5 := q.h
        obtain ⟨w5, hw5'⟩ : ∃ W, q.w = W := ⟨_, rfl⟩
        rw [hw5'] at hqw5 ⊢
        clear hw5' q
        have how5 := how.below hqw5
        have hbx5 := hbx.step hqw5
        have hb5 := hb.trans (hqw5.mono hbs)
        clear x9 how hbx hb hqw5
      · go_wp2
        refine wp_region_reach (by kernel_rfl) (by kernel_rfl) ?_
        repeat (first | go_big_quiet_step (fail) | quiet_step (fail))
        refine wpQuiet_nil ?_
        rintro _ ⟨q, rfl⟩
        have hqw6 := q.h
        obtain ⟨w6, hw6'⟩ : ∃ W, q.w = W := ⟨_, rfl⟩
        rw [hw6'] at hqw6 ⊢
        clear hw6' q
        go_wp2
        refine wp_region_reach (by kernel_rfl) (by kernel_rfl) ?_
        repeat (first | go_big_quiet_step (fail) | quiet_step (fail))
        refine wpQuiet_nil ?_
        rintro _ ⟨q, rfl⟩
        have hqw7 := q.h
        obtain ⟨w7, hw7'⟩ : ∃ W, q.w = W := ⟨_, rfl⟩
        rw [hw7'] at hqw7 ⊢
        clear hw7' q
        have how7 := (how5.below hqw6).below hqw7
        have hbx7 := (hbx5.step hqw6).step hqw7
        have hb7 := (hb5.trans (hqw6.mono hb5.size)).trans (hqw7.mono (hb5.trans (hqw6.mono hb5.size)).size)
        clear how5 hbx5 hb5 hqw6 hqw7
        go_wp2
        go_roundw
        case rel => exact ⟨k + 1, q, by omega, hq, by go_num, rfl, Lib.hid (by rw [H5.out]; exact hc.out), how7, hbx7, hb7⟩
        case measure => simp [intOf]; omega
      · have n1 : decide (r.n < t.n) = false := by simp; omega
        have n2 : (t.n == r.n) = false := by simp; omega
        have x9 := how5.rd.reach
        have y9 := hbx5.reachC.2.1
        go_wp2
        refine wp_region_reach (by kernel_rfl) (by kernel_rfl) ?_
        repeat (first | (refine wqr_at rfl _ (.tmp 58) _ rfl el_rule rfl rfl (by omega) (by omega) (Th.Reach.refl _ _) x9 ?_; intro b3 j3 t3 ht3 hcb3; have hxx := get_eq Ht.out ht3.out (by omega); subst hxx; have f1b3 : ∀ q : Step _ _, q.w.cell? ⟨b3, j3 + 1, none⟩ = some (.int .i64 t.n) := fun q => hcb3.out q.w ⟨q, rfl⟩ 1 _ rfl) | go_big_quiet_step (fail) | quiet_step (fail))
        refine wpQuiet_nil ?_
        rintro _ ⟨q, rfl⟩
        have hqw6 := q.h
        obtain ⟨w6, hw6'⟩ : ∃ W, q.w = W := ⟨_, rfl⟩
        rw [hw6'] at hqw6 ⊢
        clear hw6' q
        have how6 := how5.below hqw6
        have hbx6 := hbx5.step hqw6
        have hb6 := hb5.trans (hqw6.mono hb5.size)
        clear x9 y9 how5 hbx5 hb5 hqw6
        go_wp2
        have x9 := how6.rd.reach
        have y9 := hbx6.reachC.2.1
        refine wp_region_reach (by kernel_rfl) (by kernel_rfl) ?_
        repeat (first | (refine wqr_at rfl _ (.tmp 70) _ rfl el_rule rfl rfl (by omega) (by omega) (Th.Reach.refl _ _) x9 ?_; intro b4 j4 t4 ht4 hcb4; have hxx := get_eq Ht.out ht4.out (by omega); subst hxx; have f1b4 : ∀ q : Step _ _, q.w.cell? ⟨b4, j4 + 1, none⟩ = some (.int .i64 t.n) := fun q => hcb4.out q.w ⟨q, rfl⟩ 1 _ rfl) | go_big_quiet_step (fail) | quiet_step (fail))
        refine wpQuiet_nil ?_
        rintro _ ⟨q, rfl⟩
        have hqw7 := q.h
        obtain ⟨w7, hw7'⟩ : ∃ W, q.w = W := ⟨_, rfl⟩
        rw [hw7'] at hqw7 ⊢
        clear hw7' q
        have how7 := how6.below hqw7
        have hbx7 := hbx6.step hqw7
        have hb7 := hb6.trans (hqw7.mono hb6.size)
        clear x9 y9 how6 hbx6 hb6 hqw7
        go_wp2
        go_roundw
        case rel => exact ⟨k + 1, q, by omega, hq, by go_num, rfl, Lib.hid (by rw [H5.out]; exact hc.out), how7, hbx7, hb7⟩
        case measure => simp [intOf]; omega
      · have n1 : decide (t.n < t.n) = false := by simp
        have n2 : (t.n == t.n) = true := by simp
        have x9 := how5.rd.reach
        have y9 := hbx5.reachC.2.1
        go_wp2
        refine wp_region_reach (by kernel_rfl) (by kernel_rfl) ?_
        repeat (first | (refine wqr_at rfl _ (.tmp 58) _ rfl el_rule rfl rfl (by omega) (by omega) (Th.Reach.refl _ _) x9 ?_; intro b3 j3 t3 ht3 hcb3; have hxx := get_eq Ht.out ht3.out (by omega); subst hxx; have f1b3 : ∀ q : Step _ _, q.w.cell? ⟨b3, j3 + 1, none⟩ = some (.int .i64 t.n) := fun q => hcb3.out q.w ⟨q, rfl⟩ 1 _ rfl) | go_big_quiet_step (fail) | quiet_step (fail))
        refine wpQuiet_nil ?_
        rintro _ ⟨q, rfl⟩
        have hqw6 := q.h
        obtain ⟨w6, hw6'⟩ : ∃ W, q.w = W := ⟨_, rfl⟩
        rw [hw6'] at hqw6 ⊢
        clear hw6' q
        have how6 := how5.below hqw6
        have hbx6 := hbx5.step hqw6
        have hb6 := hb5.trans (hqw6.mono hb5.size)
        clear x9 y9 how5 hbx5 hb5 hqw6
        go_wp2
        have x9 := how6.rd.reach
        have y9 := hbx6.reachC.2.1
        refine wp_region_reach (by kernel_rfl) (by kernel_rfl) ?_
        repeat (first | (refine wqr_at rfl _ (.tmp 70) _ rfl el_rule rfl rfl (by omega) (by omega) (Th.Reach.refl _ _) x9 ?_; intro b4 j4 t4 ht4 hcb4; have hxx := get_eq Ht.out ht4.out (by omega); subst hxx; have f1b4 : ∀ q : Step _ _, q.w.cell? ⟨b4, j4 + 1, none⟩ = some (.int .i64 t.n) := fun q => hcb4.out q.w ⟨q, rfl⟩ 1 _ rfl) | go_big_quiet_step (fail) | quiet_step (fail))
        refine wpQuiet_nil ?_
        rintro _ ⟨q, rfl⟩
        have hqw7 := q.h
        obtain ⟨w7, hw7'⟩ : ∃ W, q.w = W := ⟨_, rfl⟩
        rw [hw7'] at hqw7 ⊢
        clear hw7' q
        have how7 := how6.below hqw7
        have hbx7 := hbx6.step hqw7
        have hb7 := hb6.trans (hqw7.mono hb6.size)
        clear x9 y9 how6 hbx6 hb6 hqw7
        go_wp2
        have x9 := how7.rd.reach
        have y9 := hbx7.reach
        refine wp_region_reach (by kernel_rfl) (by kernel_rfl) ?_
        repeat (first | (refine wqr_at rfl _ (.tmp 81) _ rfl el_rule rfl rfl (by omega) (by omega) (Th.Reach.refl _ _) x9 ?_; intro b5 j5 t5 ht5 hcb5; have hxx := get_eq Ht.out ht5.out (by omega); subst hxx) | (refine wqr_load rfl _ (.tmp 83) rfl st_rule rfl hcb5 ?_) | (refine wqr_box rfl _ (.tmp 9) rfl st_rule rfl y9 ?_) | go_big_quiet_step (fail) | quiet_step (fail))
        refine wpQuiet_nil ?_
        rintro _ ⟨q, rfl⟩
        have hqw8 := q.h
        obtain ⟨w8, hw8'⟩ : ∃ W, q.w = W := ⟨_, rfl⟩
        rw [hw8'] at hqw8 ⊢
        clear hw8' q
        have how8 := how7.below hqw8
        have hbx8 := hbx7.step hqw8
        have hb8 := hb7.trans (hqw8.mono hb7.size)
        clear x9 y9 how7 hbx7 hb7 hqw8
        go_wp2
        go_roundw
        case rel => exact ⟨k + 1, q + 1, by omega, by have := hc.out; omega, by go_num, by go_num, Lib.hid (by rw [H5.out]; have := hc.out; omega), how8, hbx8, hb8⟩
        case measure => simp [intOf]; omega
    · have hkm : k = m8 := by omega
      have hqq := hc.out
      rw [hkm, Hcnt.out] at hqq
      have Hmc : Hid (tmay ws (1 + nb) = 0) := Hmay
      rcases Hend.out with ⟨rfl, ha, rfl, rfl⟩ | ⟨rfl, ha, rfl, rfl⟩ | ⟨rfl, rfl, rfl⟩
      · have q1 : ((q : Int) == 1) = true := by rw [hqq]; rfl
        have q2 : decide ((q : Int) ≤ 1) = true := by simp; omega
        clear hqq
        obtain ⟨-, -, y2, y3⟩ := hbx.rule
        go_wp2_with (go_at_call 32; refine (tmay_isF _ _ _ _ _ _ (by omega) _ how.rd Hokw.out _ Hmc.out).mono ?_; rintro e w5 ⟨rfl, hb5⟩; have d3 := (hbx.step hb5).rule.2.2.2)
        go_ret
        exact ⟨rfl, hb.trans (hb5.mono hbs)⟩
      · have q1 : ((q : Int) == 1) = true := by rw [hqq]; rfl
        have q2 : decide ((q : Int) ≤ 1) = true := by simp; omega
        clear hqq
        obtain ⟨-, -, y2, y3⟩ := hbx.rule
        go_wp2_with (go_at_call 32; refine (tmay_isF _ _ _ _ _ _ (by omega) _ how.rd Hokw.out _ Hmc.out).mono ?_; rintro e w5 ⟨rfl, hb5⟩; have d3 := (hbx.step hb5).rule.2.2.2)
        go_ret
        exact ⟨rfl, hb.trans (hb5.mono hbs)⟩
      · have q1 : ((q : Int) == 1) = false := by rw [hqq]; rfl
        have q2 : decide ((q : Int) ≤ 1) = true := by simp; omega
        clear hqq
        obtain ⟨-, -, y2, y3⟩ := hbx.rule
        go_wp2_with (go_at_call 32; refine (tmay_isF _ _ _ _ _ _ (by omega) _ how.rd Hokw.out _ Hmc.out).mono ?_; rintro e w5 ⟨rfl, hb5⟩; have d3 := (hbx.step hb5).rule.2.2.2)
        go_ret
        exact ⟨rfl, hb.trans (hb5.mono hbs)⟩
end Go.Proofs.Ytijobfkmchbpcaa
