/-
  theseuslaw07.RuleMay: the walk.
-/
import Derived.Test.YtijobfkmchbpcaaRuleOrder
import Derived.Test.YtijobfkmchbpcaaRuleMayLaw
import Derived.Deep.DeepCutAuto
namespace Go.Proofs.Ytijobfkmchbpcaa
open Go.RowKit Go.Th
set_option linter.unusedVariables false
theorem bits_fin : ∀ m : Fin 256, (m.1 &&& 1 = 0 ∨ m.1 &&& 1 = 1) ∧ (m.1 &&& 2 = 0 ∨ m.1 &&& 2 = 2) ∧ (m.1 &&& 4 = 0 ∨ m.1 &&& 4 = 4) ∧ (m.1 &&& 8 = 0 ∨ m.1 &&& 8 = 8) := by decide +kernel
structure MSt (nodes : Int) (s : Ru) (v : Int) : Prop where
  may : s.may nodes = v
  n0 : 0 ≤ s.n
  n1 : s.n ≤ 32
  a0 : 0 ≤ s.a
  a1 : s.a ≤ 4294967295
  act0 : 1 ≤ s.act
  act1 : s.act ≤ 1000
  next0 : 0 ≤ s.next
  next1 : s.next ≤ 100000
theorem MSt.ok {nodes : Int} {s : Ru} {v : Int} (h : MSt nodes s v) : s.Ok := ⟨⟨h.a0, h.a1⟩, ⟨by have := h.n0; omega, by have := h.n1; omega⟩, ⟨by have := h.act0; omega, by have := h.act1; omega⟩, ⟨by have := h.next0; omega, by have := h.next1; omega⟩⟩
structure MS2 (nodes : Int) (s : Ru) (v : Int) : Prop where
  may : s.may nodes = v
  n0 : -1 ≤ s.n
  n1 : s.n ≤ 1000
  a0 : 0 ≤ s.a
  a1 : s.a ≤ 4294967295
  act0 : 1 ≤ s.act
  act1 : s.act ≤ 1000
  next0 : 0 ≤ s.next
  next1 : s.next ≤ 100000
theorem MS2.ok {nodes : Int} {s : Ru} {v : Int} (h : MS2 nodes s v) : s.Ok := ⟨⟨h.a0, h.a1⟩, ⟨by have := h.n0; omega, by have := h.n1; omega⟩, ⟨by have := h.act0; omega, by have := h.act1; omega⟩, ⟨by have := h.next0; omega, by have := h.next1; omega⟩⟩
set_option maxRecDepth 100000 in
set_option maxHeartbeats 8000000 in
theorem ruleMay_walk (x : Ru) {w : World} (hx : x.Ok) (nb : Int) (hnb : 0 ≤ nb ∧ nb ≤ 255) (bt : Int) (hbt : 0 ≤ bt ∧ bt ≤ 255) :
    Calls Try.prog 7 #[x.v, .int .u8 nb, .int .u8 bt] w fun e w' => e = .returned (.bool true) ∧ Below w.heap.size w w' := by
  show Calls Try.prog 7 #[.agg #[.int .u32 x.a, .int .i64 x.n, .int .i64 x.act, .int .i64 x.next], .int .u8 nb, .int .u8 bt] w _
  obtain ⟨hnb0, hnb1⟩ := hnb
  obtain ⟨m, rfl⟩ := Int.eq_ofNat_of_zero_le hbt.1
  have hm : m < 256 := by omega
  obtain ⟨d1, d2, d4, d8⟩ := bits_fin ⟨m, hm⟩
  simp only at d1 d2 d4 d8
  have H1 := Lib.hid (show bits .and .u8 (m : Int) 1 = ((m &&& 1 : Nat) : Int) from Go.u8_and_nat m 1 hm (by omega))
  have H2 := Lib.hid (show bits .and .u8 (m : Int) 2 = ((m &&& 2 : Nat) : Int) from Go.u8_and_nat m 2 hm (by omega))
  have H4 := Lib.hid (show bits .and .u8 (m : Int) 4 = ((m &&& 4 : Nat) : Int) from Go.u8_and_nat m 4 hm (by omega))
  have H8 := Lib.hid (show bits .and .u8 (m : Int) 8 = ((m &&& 8 : Nat) : Int) from Go.u8_and_nat m 8 hm (by omega))
  obtain ⟨r, hrr⟩ : ∃ r, x.fit (1 + nb) = r := ⟨_, rfl⟩
  have hor : r.Ok := by rw [← hrr]; exact Ru.fit_ok x _ hx (by omega)
  have hmay : r.may (1 + nb) = 0 := by rw [← hrr]; exact Ru.fit_may x _ (by omega) hx
  have Hrr := Lib.hid hrr
  have Hor := Lib.hid hor
  have Hmay := Lib.hid hmay
  have K0 := Lib.hid (fun W => may_is r (1 + nb) W hor _ hmay)
  clear hrr hor hmay hbt
  go_enter Try.func7, Try.ntmps7
  go_wp2_with fail
  refine (shown7 _).mono ?_
  rintro e w1 ⟨rfl, hb1⟩
  have bxx := (Box.new w x.cs.toArray 25).step hb1
  have B1 : Below w.heap.size w w1 := (below_alloc w (Nat.le_refl _) (.cells x.cs.toArray 25)).trans (hb1.mono (by simp))
  have z1 := B1.size
  clear hb1
  go_wp2_with ((with_reducible refine on_load (.tmp 3) ?_); refine wr_box rfl _ (.tmp 3) rfl st_rule rfl bxx ?_)
  refine (rfit_is x (1 + nb) w1 hx (by omega) r Hrr.out).mono ?_
  rintro e w2 ⟨rfl, hb2⟩
  have B2 := B1.trans (hb2.mono z1)
  have z2 := B2.size
  go_upto_region 4 with ((with_reducible refine on_store_at (.tmp 9) ?_); refine wr_store (r := ⟨0, 0, 0, 0⟩) (s := r) rfl _ (.tmp 9) _ rfl st_rule rfl rfl (Box.new w2 _ _) ?_; intro w3 bx9 hg3)
  have B3 := B2.trans ((below_alloc w2 z2 (.cells (Ru.cs ⟨0, 0, 0, 0⟩).toArray 25)).trans (below_of_grown hg3 (fun j e => by injection e with e; omega) (by simp; omega)))
  have z3 := B3.size
  clear bxx hb2 hg3
  go_wp2_with ((with_reducible refine on_load (.tmp 9) ?_); refine wr_box rfl _ (.tmp 9) rfl st_rule rfl bx9 ?_)
  refine (K0.out w3).mono ?_
  rintro e w4 ⟨rfl, hb4⟩
  have B4 := B3.trans (hb4.mono z3)
  have bx94 := bx9.step hb4
  clear bx9 hb4
  have hf := Ru.pmay_of Hmay.out
  have hact : 1 ≤ r.act ∧ r.act ≤ 3 := by
    rw [← Hrr.out]
    show 1 ≤ (if x.act % 3 = 0 then 3 else x.act % 3) ∧ (if x.act % 3 = 0 then 3 else x.act % 3) ≤ 3
    split <;> omega
  have hnn : 0 ≤ r.n ∧ r.n ≤ 32 := by rw [← Hrr.out]; exact (Ru.fit_node x (1 + nb)).2
  have hnx : 0 ≤ r.next ∧ r.next ≤ 65536 := by
    have h : 0 ≤ (if x.act % 3 = 1 then x.next % (1 + nb) else 0) ∧ (if x.act % 3 = 1 then x.next % (1 + nb) else 0) ≤ 65536 := by
      split
      · have e1 := Int.emod_nonneg x.next (b := 1 + nb) (by omega)
        have e2 := Int.emod_lt_of_pos x.next (b := 1 + nb) (by omega)
        omega
      · omega
    rw [← Hrr.out]
    exact h
  obtain ⟨hact1, hact2⟩ := hact
  obtain ⟨hnn1, hnn2⟩ := hnn
  obtain ⟨hnx1, hnx2⟩ := hnx
  have p1 := hf
  clear K0 Hrr
  go_upto_if 28 with fail
  go_cut [10] (fun s10 wx => ∃ s v, s10 = .int .i64 v ∧ Box wx w2.heap.size 25 (Ru.cs s).toArray ∧ Below w.heap.size w wx ∧ MSt (1 + nb) s v ∧ pmay s.a s.n = 0 ∧ s.act ≤ 900)
  case first =>
    obtain ⟨c0, c1, c2, c3⟩ := bx94.rule
    have fz := bx94.frozen 3
    have hways : (m &&& 1 = 0) ∨ (m &&& 1 = 1 ∧ (r.act == 1) = false ∧ r.act ≠ 1) ∨ (m &&& 1 = 1 ∧ (r.act == 1) = true ∧ r.act = 1) := by
      rcases d1 with d | d
      · exact .inl d
      · by_cases h : r.act = 1
        · exact .inr (.inr ⟨d, by simp [h], h⟩)
        · exact .inr (.inl ⟨d, by simp [h], h⟩)
    clear d1 d2 d4 d8
    rcases hways with d | ⟨d, ha, ha2⟩ | ⟨d, ha, ha2⟩
    · have e1 : bits .and .u8 (m : Int) 1 = 0 := by have h := H1.out; rw [d] at h; exact h
      clear d
      go_wp2_with fail
      go_meet
      case rel => exact ⟨r, 0, rfl, bx94, B4, ⟨Hmay.out, hnn1, hnn2, Hor.out.a.1, Hor.out.a.2, hact1, by omega, hnx1, by omega⟩, hf, by omega⟩
    · have e1 : bits .and .u8 (m : Int) 1 = 1 := by have h := H1.out; rw [d] at h; exact h
      have hv := Lib.hid (Ru.may_next1 Hmay.out ha2)
      clear ha2 d
      go_wp2_with fail
      go_meet
      case rel => exact ⟨⟨r.a, r.n, r.act, 1⟩, 10, rfl, (bx94.setCell 3 (.int .i64 (1))).1, B4.trans (below_of_grown (bx94.setCell 3 (.int .i64 (1))).2 (fun j e => by injection e with e; omega) B4.size), ⟨hv.out, hnn1, hnn2, Hor.out.a.1, Hor.out.a.2, hact1, by show r.act ≤ 1000; omega, by (show 0 ≤ (1 : Int)); omega, by (show (1 : Int) ≤ 100000); omega⟩, hf, by show r.act ≤ 900; omega⟩
    · have e1 : bits .and .u8 (m : Int) 1 = 1 := by have h := H1.out; rw [d] at h; exact h
      have hv := Lib.hid (Ru.may_nextN Hmay.out ha2)
      clear ha2 d
      go_wp2_with fail
      go_meet
      case rel => exact ⟨⟨r.a, r.n, r.act, 1 + nb + r.next⟩, 10, rfl, (bx94.setCell 3 (.int .i64 (1 + nb + r.next))).1, B4.trans (below_of_grown (bx94.setCell 3 (.int .i64 (1 + nb + r.next))).2 (fun j e => by injection e with e; omega) B4.size), ⟨hv.out, hnn1, hnn2, Hor.out.a.1, Hor.out.a.2, hact1, by show r.act ≤ 1000; omega, by (show 0 ≤ 1 + nb + r.next); omega, by (show 1 + nb + r.next ≤ 100000); omega⟩, hf, by show r.act ≤ 900; omega⟩
  case rest =>
    clear bx94 B4 Hmay Hor hf p1 hact1 hact2 hnn1 hnn2 hnx1 hnx2
    obtain ⟨s5, v5, rfl, bx5, B5, M5, hp5, ha5⟩ := hcut
    have hp5 := Lib.hid hp5
    go_upto_if 40 with fail
    go_cut [10] (fun s10 wx => ∃ s v, s10 = .int .i64 v ∧ Box wx w2.heap.size 25 (Ru.cs s).toArray ∧ Below w.heap.size w wx ∧ MSt (1 + nb) s v)
    case first =>
      have q2 := M5.act0
      have q3 : 4 + s5.act ≤ 1000 := by omega
      obtain ⟨c0, c1, c2, c3⟩ := bx5.rule
      have fz := bx5.frozen 2
      have d0 := d2
      clear d1 d2 d4 d8
      rcases d0 with d | d
      · have e2 : bits .and .u8 (m : Int) 2 = 0 := by have h := H2.out; rw [d] at h; exact h
        clear d
        go_wp2_with fail
        go_meet
        case rel => exact ⟨s5, v5, rfl, bx5, B5, M5⟩
      · have e2 : bits .and .u8 (m : Int) 2 = 2 := by have h := H2.out; rw [d] at h; exact h
        clear d
        go_wp2_with fail
        go_meet
        case rel => exact ⟨⟨s5.a, s5.n, 4 + s5.act, s5.next⟩, 9, rfl, (bx5.setCell 2 (.int .i64 (4 + s5.act))).1, B5.trans (below_of_grown (bx5.setCell 2 (.int .i64 (4 + s5.act))).2 (fun j e => by injection e with e; omega) B5.size), ⟨Ru.may_act4 _ _ _ _ _ hp5.out q2, M5.n0, M5.n1, M5.a0, M5.a1, by show 1 ≤ 4 + s5.act; omega, q3, M5.next0, M5.next1⟩⟩
    case rest =>
      clear bx5 B5 M5 hp5 ha5
      obtain ⟨s6, v6, rfl, bx6, B6, M6⟩ := hcut
      obtain ⟨c0, c1, c2, c3⟩ := bx6.rule
      have fz := bx6.frozen 0
      have q0 := M6.n0
      have q1 := M6.n1
      have q2 := M6.a0
      have q4 := M6.a1
      have hways : (m &&& 4 = 0) ∨ (m &&& 4 = 4 ∧ decide (s6.n < 32) = false) ∨ (m &&& 4 = 4 ∧ decide (s6.n < 32) = true) := by
        rcases d4 with d | d
        · exact .inl d
        · by_cases h : s6.n < 32
          · exact .inr (.inr ⟨d, decide_eq_true h⟩)
          · exact .inr (.inl ⟨d, decide_eq_false h⟩)
      go_upto_region 15 with fail
      go_cut [52] (fun s52 wx => wx = wc ∧ ((m &&& 4 = 4 ∧ s6.n < 32 ∧ s52 = .bool true) ∨ s52 = .bool false))
      case first =>
        clear d1 d2 d4 d8
        rcases hways with d | ⟨d, hl⟩ | ⟨d, hl⟩
        · have e4 : bits .and .u8 (m : Int) 4 = 0 := by have h := H4.out; rw [d] at h; exact h
          clear d
          go_wp2_with fail
          go_meet
          case rel => exact ⟨rfl, .inr rfl⟩
        · have e4 : bits .and .u8 (m : Int) 4 = 4 := by have h := H4.out; rw [d] at h; exact h
          clear d
          go_wp2_with fail
          go_meet
          case rel => exact ⟨rfl, .inr rfl⟩
        · have e4 : bits .and .u8 (m : Int) 4 = 4 := by have h := H4.out; rw [d] at h; exact h
          have d' := Lib.hid d
          clear d
          go_wp2_with fail
          go_meet
          case rel => exact ⟨rfl, .inl ⟨d'.out, of_decide_eq_true hl, rfl⟩⟩
      case rest =>
        clear hways
        obtain ⟨rfl, hs52⟩ := hcut
        go_upto_if 52 with fail
        go_cut [10] (fun s10 wx => ∃ s v, s10 = .int .i64 v ∧ Box wx w2.heap.size 25 (Ru.cs s).toArray ∧ Below w.heap.size w wx ∧ MSt (1 + nb) s v)
        case first =>
          have d0 := hs52
          clear d1 d2 d4 d8 hs52
          rcases d0 with ⟨d, hl, rfl⟩ | rfl
          · obtain ⟨aa, haa⟩ : ∃ aa : Nat, s6.a = aa := ⟨s6.a.toNat, by omega⟩
            have haa2 : aa < 4294967296 := by omega
            have hor : bits .or .u32 (aa : Int) 1 = ((aa ||| 1 : Nat) : Int) := Go.u32_or_nat aa 1 haa2 (by omega)
            have hol : aa ||| 1 < 4294967296 := Nat.or_lt_two_pow (n := 32) haa2 (by omega)
            have hpm := Lib.hid (pmay_one (a := aa) q0 hl)
            clear d
            go_wp2_with fail
            go_meet
            case rel => exact ⟨⟨((aa ||| 1 : Nat) : Int), s6.n, s6.act, s6.next⟩, 8, rfl, (bx6.setCell 0 (.int .u32 ((aa ||| 1 : Nat) : Int))).1, B6.trans (below_of_grown (bx6.setCell 0 (.int .u32 ((aa ||| 1 : Nat) : Int))).2 (fun j e => by injection e with e; omega) B6.size), ⟨Ru.may_of_pmay hpm.out (by decide), q0, q1, by (show 0 ≤ ((aa ||| 1 : Nat) : Int)); omega, by (show ((aa ||| 1 : Nat) : Int) ≤ 4294967295); omega, M6.act0, M6.act1, M6.next0, M6.next1⟩⟩
          · go_wp2_with fail
            go_meet
            case rel => exact ⟨s6, v6, rfl, bx6, B6, M6⟩
        case rest =>
          clear bx6 B6 M6 c0 c1 c2 c3 fz q0 q1 q2 q4 hs52
          obtain ⟨s7, v7, rfl, bx7, B7, M7⟩ := hcut
          go_upto_if 59 with fail
          go_cut [10] (fun s10 wx => ∃ s v, s10 = .int .i64 v ∧ Box wx w2.heap.size 25 (Ru.cs s).toArray ∧ Below w.heap.size w wx ∧ MS2 (1 + nb) s v)
          case first =>
            have q0 := M7.n0
            have q1 := M7.n1
            have q2 : 33 + s7.n ≤ 100 := by omega
            obtain ⟨c0, c1, c2, c3⟩ := bx7.rule
            have fz := bx7.frozen 1
            have d0 := d8
            clear d1 d2 d4 d8
            rcases d0 with d | d
            · have e8 : bits .and .u8 (m : Int) 8 = 0 := by have h := H8.out; rw [d] at h; exact h
              clear d
              go_wp2_with fail
              go_meet
              case rel => exact ⟨s7, v7, rfl, bx7, B7, ⟨M7.may, by omega, by omega, M7.a0, M7.a1, M7.act0, M7.act1, M7.next0, M7.next1⟩⟩
            · have e8 : bits .and .u8 (m : Int) 8 = 8 := by have h := H8.out; rw [d] at h; exact h
              clear d
              go_wp2_with fail
              go_meet
              case rel => exact ⟨⟨s7.a, 33 + s7.n, s7.act, s7.next⟩, 1, rfl, (bx7.setCell 1 (.int .i64 (33 + s7.n))).1, B7.trans (below_of_grown (bx7.setCell 1 (.int .i64 (33 + s7.n))).2 (fun j e => by injection e with e; omega) B7.size), ⟨Ru.may_of_pmay (pmay_33 _ _ q0) (by decide), by (show -1 ≤ 33 + s7.n); omega, by (show 33 + s7.n ≤ 1000); omega, M7.a0, M7.a1, M7.act0, M7.act1, M7.next0, M7.next1⟩⟩
          case rest =>
            clear bx7 B7 M7
            obtain ⟨s8, v8, rfl, bx8, B8, M8⟩ := hcut
            have K1 := Lib.hid (fun W => may_is s8 (1 + nb) W M8.ok _ M8.may)
            have hpp : pmay s8.a s8.n = 0 ∨ (pmay s8.a s8.n = v8 ∧ (v8 == 0) = false) := by
              rcases Ru.may_pmay s8 (1 + nb) with h | h
              · exact .inl h
              · by_cases h0 : v8 = 0
                · exact .inl (by rw [← h, M8.may, h0])
                · exact .inr ⟨h.symm.trans M8.may, by simp [h0]⟩
            have K2 := fun W p (hp : pmay s8.a s8.n = p) => (show Calls Try.prog 28 #[.int .u32 s8.a, .int .i64 s8.n] W (fun e w' => e = .returned (.int .i64 p) ∧ W = w') from by rw [← hp]; exact (pmay_any s8.a s8.n W ⟨M8.a0, M8.a1⟩ M8.ok.n).mono (fun _ _ h => h))
            have y9 := bx8.reach
            obtain ⟨p0, p1, p2, p3⟩ := bx8.reachC
            have z8 := B8.size
            clear bx8 M8 d1 d2 d4 d8
            rcases hpp with hpp | ⟨hpp, h0⟩
            all_goals
              have K3 := Lib.hid (fun W => K2 W _ hpp)
              clear K2 hpp
              go_upto_region 21 with fail
              refine wp_region_reach (by kernel_rfl) (by kernel_rfl) ?_
              repeat (first | go_big_quiet_skip | ((with_reducible refine onq_load (.tmp 9) ?_); refine wqr_box rfl _ (.tmp 9) rfl st_rule rfl y9 ?_) | go_big_quiet_step (first | (with_reducible exact Calls.reach_same (K3.out _)) | (with_reducible exact Calls.reach (K1.out _))) | quiet_step (first | (with_reducible exact Calls.reach_same (K3.out _)) | (with_reducible exact Calls.reach (K1.out _))))
              refine wpQuiet_nil ?_
              rintro _ ⟨q, rfl⟩
              have hqw20 := q.h
              obtain ⟨w20, hw20'⟩ : ∃ W, q.w = W := ⟨_, rfl⟩
              rw [hw20'] at hqw20 ⊢
              clear hw20' q
              go_wp2
              go_ret
              exact ⟨rfl, B8.trans (hqw20.mono z8)⟩
end Go.Proofs.Ytijobfkmchbpcaa
