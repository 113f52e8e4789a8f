/-
  theseuslaw17.CertTraces: the walk.
-/
import Derived.Test.YteellpcagdnikaaCertTracesLaw
import Derived.Test.YteellpcagdnikaaCertMany
namespace Go.Th
open Go.RowKit
theorem PRd.none_ {w : World} {B : Nat} {A : Option Addr} {c : Nat} {ps : List Pt} (h : PRd w B A 0 c ps) (w' : World) (B' : Nat) : PRd w' B' A 0 c ps := by
  have : ps = [] := List.eq_nil_of_length_eq_zero h.rd.len
  subst this
  exact ⟨⟨⟨by simp⟩, rfl, Nat.zero_le _⟩, by simp, by simp⟩
end Go.Th
namespace Go.Proofs.Yteellpcagdnikaa
open Go.RowKit Go.Th
set_option linter.unusedVariables false
theorem bits_fin : ∀ m : Fin 256, (m.1 &&& 1 = 0 ∨ m.1 &&& 1 = 1) ∧ (m.1 &&& 2 = 0 ∨ m.1 &&& 2 = 2) ∧ (m.1 &&& 4 = 0 ∨ m.1 &&& 4 = 4) ∧ (m.1 &&& 8 = 0 ∨ m.1 &&& 8 = 8) := by decide +kernel
def TRel (q : Nat → Nat → Prop) (N M F : Nat) (a : Int) (g : Nat) (wb : World) (s13 : Value) (wx : World) : Prop :=
  ∃ (v : Int) (A : Option Addr) (n c : Nat) (tr : List Int) (Ap : Option Addr) (np cp : Nat) (ps : List Pt), s13 = .int .i64 v ∧ Box wx g 29 (Cv 2 Ap np cp a A n c) ∧ OwS iv wx (g + 1) 3 A n c tr ∧ PRd wx wx.heap.size Ap np cp ps ∧ Below g wb wx ∧ Hid (TSt N M F v np tr) ∧ Hid (∀ x ∈ tr, 0 ≤ x ∧ x ≤ 1000) ∧ 1 ≤ n ∧ n ≤ 65 ∧ Hid (∀ p ∈ ps, p.n = 0) ∧ q n np
def TLoop (N M F : Nat) (a : Int) (g : Nat) (wb : World) (wx : World) : Prop :=
  ∃ (A : Option Addr) (n c : Nat) (tr : List Int) (ps : List Pt) (Ap : Option Addr) (cp : Nat), Box wx g 29 (Cv 2 Ap 0 cp a A n c) ∧ OwS iv wx (g + 1) 3 A n c tr ∧ PRd wx wx.heap.size Ap 0 cp ps ∧ Below g wb wx ∧ Hid (∀ x ∈ tr, 0 ≤ x ∧ x ≤ 1000) ∧ 1 ≤ n ∧ n ≤ N + 1
def lenAt (w : World) (g : Nat) : Nat := match w.cell? ⟨g, 3, none⟩ with
  | some (.slice _ n _) => n
  | _ => 0
def TrRel (F M : Nat) (a : Int) (g : Nat) (wb : World) (i : Value) (wr : World) : Prop :=
  ∃ (k c : Nat) (A : Option Addr), k ≤ M ∧ i = .int .i64 k ∧ Box wr g 29 (Cv 2 none 0 0 a A k c) ∧ OwS iv wr (g + 1) 3 A k c (tr0 F k) ∧ Below g wb wr
theorem owS_ne {w : World} {A : Option Addr} {n c b g : Nat} {e : TypeId} {ps : List Int} (h : OwS iv w b e A n c ps) (hg : g < b) : rowOf A ≠ some g := fun e => by
  rcases h.ow.form with ⟨e2, _⟩ | ⟨g', e2, hb, _⟩
  · subst e2; simp [rowOf] at e
  · subst e2; simp [rowOf] at e; omega
theorem owS_cell {w : World} {A : Option Addr} {n c b g : Nat} {e : TypeId} {ps : List Int} (h : OwS iv w b e A n c ps) (hg : g < b) : ∀ g', A = some ⟨g', 0, none⟩ → (some g : Option Nat) ≠ some g' := fun g' hA e => by
  injection e with e
  rcases h.ow.form with ⟨e2, _⟩ | ⟨g2, e2, hb, _⟩
  · rw [hA] at e2; cases e2
  · rw [hA] at e2; injection e2 with e2; injection e2 with e2; omega
set_option maxRecDepth 100000 in
set_option maxHeartbeats 8000000 in
theorem certTraces_core (m0 m1 m2 : Nat) (h0 : m0 ≤ 255) (h1 : m1 ≤ 255) (h2 : m2 ≤ 255) {w : World} (a : Int) (ha : 0 ≤ a ∧ a ≤ 4294967295) (m : Nat) (hm : m < 256) :
    Calls Try.prog 4 #[.agg #[.int .u8 m0, .int .u8 m1, .int .u8 m2], .int .u32 a, .int .u8 m] w fun e w' => e = .returned (.bool true) ∧ Below w.heap.size w w' := by
  obtain ⟨ha0, ha1⟩ := ha
  obtain ⟨N, hN⟩ : ∃ N, 1 + m0 % 64 = N := ⟨_, rfl⟩
  obtain ⟨M, hM⟩ : ∃ M, 1 + m1 % N = M := ⟨_, rfl⟩
  obtain ⟨F, hF⟩ : ∃ F, m2 % (N - M + 1) = F := ⟨_, rfl⟩
  have hN1 : 1 ≤ N ∧ N ≤ 64 := by omega
  have hM1 : 1 ≤ M ∧ M ≤ N := by have := Nat.mod_lt m1 (show N > 0 by omega); omega
  have hF1 : F + M ≤ N := by have := Nat.mod_lt m2 (show N - M + 1 > 0 by omega); omega
  have hN2 : 1 + (m0 : Int) % 64 = (N : Int) := by omega
  have hM2 : 1 + (m1 : Int) % (N : Int) = (M : Int) := by rw [← hM]; simp
  have hF2 : (m2 : Int) % ((N : Int) - (M : Int) + 1) = (F : Int) := by
    have e : (N : Int) - (M : Int) + 1 = ((N - M + 1 : Nat) : Int) := by omega
    rw [e, ← hF]
    simp
  have HF2 := Lib.hid hF2
  clear hF2
  obtain ⟨hN3, hN4⟩ := hN1
  obtain ⟨hM3, hM4⟩ := hM1
  clear hN hM hF
  obtain ⟨d1, d2, d4, d8⟩ := bits_fin ⟨m, hm⟩
  simp only at d1 d2 d4 d8
  have H1 := Lib.hid (show bits .and .u8 (m : Int) 1 = ((m &&& 1 : Nat) : Int) from Go.u8_and_nat m 1 hm (by omega))
  have H2 := Lib.hid (show bits .and .u8 (m : Int) 2 = ((m &&& 2 : Nat) : Int) from Go.u8_and_nat m 2 hm (by omega))
  have H4 := Lib.hid (show bits .and .u8 (m : Int) 4 = ((m &&& 4 : Nat) : Int) from Go.u8_and_nat m 4 hm (by omega))
  have H8 := Lib.hid (show bits .and .u8 (m : Int) 8 = ((m &&& 8 : Nat) : Int) from Go.u8_and_nat m 8 hm (by omega))
  have D1 := Lib.hid d1
  have D2 := Lib.hid d2
  have D4 := Lib.hid d4
  have D8 := Lib.hid d8
  clear d1 d2 d4 d8
  go_enter Try.func4, Try.ntmps4
  go_wp2_with fail
  refine (shown17 _).mono ?_
  rintro e w1 ⟨rfl, hb1⟩
  have bx3 := (Box.new w #[.int .u8 (m0 : Int), .int .u8 (m1 : Int), .int .u8 (m2 : Int)] 33).step hb1
  have c0 : w1.cell? ⟨w.heap.size, 0, none⟩ = some (.int .u8 (m0 : Int)) := bx3.cell 0
  have c1 : w1.cell? ⟨w.heap.size, 1, none⟩ = some (.int .u8 (m1 : Int)) := bx3.cell 1
  have c2 : w1.cell? ⟨w.heap.size, 2, none⟩ = some (.int .u8 (m2 : Int)) := bx3.cell 2
  go_upto_region 5 with fail
  rw [HF2.out]
  have B1 : Below w.heap.size w w1 := (below_alloc w (Nat.le_refl _) _).trans (hb1.mono (by simp))
  have z1 := B1.size
  have HN2 := Lib.hid hN2
  clear hb1 c0 c1 c2 bx3 hN2 hM2
  go_upto_region 6 with ((with_reducible refine on_store_at (.tmp 11) ?_); refine wb_store (cs := Cv 0 none 0 0 0 none 0 0) (cs' := Cv 2 none 0 0 a none 0 0) rfl _ (.tmp 11) _ rfl st_cert rfl rfl (Box.new w1 _ _) rfl rfl (by simp [Cv, Value.oneCell']) ?_; intro w2 bx2 hg2)
  have B2 : Below w1.heap.size w1 w2 := (below_alloc w1 (Nat.le_refl _) _).trans (below_of_grown hg2 (fun j e => by injection e with e; omega) (by simp))
  have l2 := bx2.lt
  clear hg2
  generalize hgg : w1.heap.size = g at bx2 B2 l2 z1 ⊢
  go_wp2_with fail
  go_loopw [12] (fun i wr => TrRel F M a g w2 i wr) (fun i _ => M - (intOf i).toNat)
  case atStart => exact ⟨0, 0, none, by omega, rfl, bx2, OwS.nil_ _ _ _, Below.refl _ _⟩
  case round =>
    obtain ⟨k, c, A, hk, rfl, bx, ow, hb⟩ := hrel
    have c3 : wr.cell? ⟨g, 3, none⟩ = some (.slice A k c) := bx.cell 3
    have zr := bx.lt
    by_cases hlt : k < M
    · go_wp2_with ((with_reducible refine on_append (.tmp 42) (.tmp 46) ?_); refine wl_appendS rfl (.tmp 42) (.tmp 46) _ rfl el_int (f := iv) (fun _ => rfl) rfl (ow.alloc _) rfl (OwS.lit (base := wr.heap.size) (e := 3) (xs := [(F : Int) + k]) wr #[.int .i64 ((F : Int) + k)] 1 (Nat.le_refl _) (by simp [maxLen]) rfl rfl).rd (by omega) (by omega) (by simp; omega) ?_; intro A3 n3 w3 ow3 hg3 hb3; have hne := owS_ne (ow.alloc (.cells #[.int .i64 ((F : Int) + k)] 3)) (Nat.lt_succ_self g); have bx3 := (bx.alloc (.cells #[.int .i64 ((F : Int) + k)] 3)).grown hg3 hne; have e3 : w3.cell? ⟨g, 3, none⟩ = some (.slice A k c) := bx3.cell 3; have fz := bx3.frozen 3)
      go_roundw
      case rel => exact ⟨k + 1, n3, A3, by omega, by go_num, (bx3.setCell 3 (.slice A3 (k + 1) n3)).1, by rw [tr0_succ]; exact (by simpa using ow3.grown (bx3.setCell 3 (.slice A3 (k + 1) n3)).2 (owS_cell ow3 (Nat.lt_succ_self g))), (hb.trans ((below_alloc wr (by omega) _).trans (hb3.mono (by omega)))).trans (below_of_grown (bx3.setCell 3 (.slice A3 (k + 1) n3)).2 (fun j e => by injection e with e; omega) (by have := bx3.lt; omega))⟩
      case measure => simp [intOf] <;> omega
    · have hkn : k = M := by omega
      subst hkn
      clear hlt hk
      have hbd0 : ∀ x ∈ tr0 F k, 0 ≤ x ∧ x ≤ 1000 := fun x hx => by have := tr0_mem hx; omega
      have Hbd0 := Lib.hid hbd0
      clear hbd0
      go_upto_region 11 with fail
      go_cut [55] (fun s55 wx => wx = wr ∧ ((1 < k ∧ s55 = .bool true) ∨ s55 = .bool false))
      case first =>
        have hways : (m &&& 1 = 0) ∨ (m &&& 1 = 1 ∧ decide ((1 : Int) < (k : Int)) = false ∧ k ≤ 1) ∨ (m &&& 1 = 1 ∧ decide ((1 : Int) < (k : Int)) = true ∧ 1 < k) := by
          rcases D1.out with d | d
          · exact .inl d
          · by_cases h : 1 < k
            · exact .inr (.inr ⟨d, decide_eq_true (by omega), h⟩)
            · exact .inr (.inl ⟨d, decide_eq_false (by omega), by omega⟩)
        rcases hways with d | ⟨d, hl, hl2⟩ | ⟨d, hl, hl2⟩
        · have e1 : bits .and .u8 (m : Int) 1 = 0 := by have h := H1.out; rw [d] at h; exact h
          clear d
          go_wp2_with fail
          go_meet
          case rel => exact ⟨rfl, .inr rfl⟩
        · have e1 : bits .and .u8 (m : Int) 1 = 1 := by have h := H1.out; rw [d] at h; exact h
          clear d
          go_wp2_with fail
          go_meet
          case rel => exact ⟨rfl, .inr rfl⟩
        · have e1 : bits .and .u8 (m : Int) 1 = 1 := by have h := H1.out; rw [d] at h; exact h
          clear d
          go_wp2_with fail
          go_meet
          case rel => exact ⟨rfl, .inl ⟨hl2, rfl⟩⟩
      case rest =>
        obtain ⟨rfl, hs55⟩ := hcut
        go_upto_if 55 with fail
        go_cut [13] (fun s13 wx => TRel (fun n np => n = k ∧ np = 0) N k F a g w2 s13 wx)
        case first =>
          have d0 := hs55
          clear hs55
          rcases d0 with ⟨hl, rfl⟩ | rfl
          · obtain ⟨ga, rfl, hga⟩ := ow.at0 (by omega)
            go_wp2_with (first
              | ((with_reducible refine on_index (.tmp 57) ?_); refine wl_placeS rfl _ (.tmp 57) _ rfl el_int rfl rfl (k - 1) (by omega) ?_)
              | ((with_reducible refine on_store_at (.tmp 61) ?_); refine wl_setS rfl _ (.tmp 61) _ rfl size_int (f := iv) (g := ga) (j := k - 1) rfl rfl F rfl ow (by omega) ?_; intro w5 ow5 hg5 hb5))
            go_meet
            case rel => exact ⟨17, _, k, c, _, none, 0, 0, [], rfl, bx.grown hg5 (fun e => by injection e with e; omega), ow5, ⟨RdM.nil _ _, by simp, by simp⟩, hb.trans (hb5.mono (by omega)), Lib.hid (.inr (.inl ⟨rfl, rfl, hl, rfl⟩)), Lib.hid (fun x hx => by
              rcases List.mem_or_eq_of_mem_set hx with hx | rfl
              · exact Hbd0.out x hx
              · omega), hM3, by omega, Lib.hid (by simp), rfl, rfl⟩
          · go_wp2_with fail
            go_meet
            case rel => exact ⟨0, A, k, c, _, none, 0, 0, [], rfl, bx, ow, ⟨RdM.nil _ _, by simp, by simp⟩, hb, Lib.hid (.inl ⟨rfl, rfl, rfl⟩), Hbd0, hM3, by omega, Lib.hid (by simp), rfl, rfl⟩
        case rest =>
          clear bx ow c3 zr hb hs55
          obtain ⟨v5, A5, n5, c5, t5, Ap5, np5, cp5, ps5, rfl, bx5, ow5, pr5, hb5, st5, bd5, n51, n52, pn5, q5, q6⟩ := hcut
          subst q5 q6
          go_upto_if 64 with fail
          go_cut [13] (fun s13 wx => TRel (fun n np => n = n5 ∧ np = 0) N n5 F a g w2 s13 wx)
          case first =>
            have c3 : wc.cell? ⟨g, 3, none⟩ = some (.slice A5 n5 c5) := bx5.cell 3
            rcases D2.out with d | d
            · have e2 : bits .and .u8 (m : Int) 2 = 0 := by have h := H2.out; rw [d] at h; exact h
              clear d
              go_wp2_with fail
              go_meet
              case rel => exact ⟨v5, A5, n5, c5, t5, Ap5, 0, cp5, ps5, rfl, bx5, ow5, pr5, hb5, st5, bd5, n51, n52, pn5, rfl, rfl⟩
            · have e2 : bits .and .u8 (m : Int) 2 = 2 := by have h := H2.out; rw [d] at h; exact h
              clear d
              obtain ⟨ga, rfl, hga⟩ := ow5.at0 (by omega)
              have hln := ow5.len
              have Hln := Lib.hid hln
              clear hln
              go_wp2_with (first
                | ((with_reducible refine on_index (.tmp 66) ?_); refine wl_placeS rfl _ (.tmp 66) _ rfl el_int rfl rfl (n5 / 2) (by omega) ?_)
                | ((with_reducible refine on_store_at (.tmp 73) ?_); refine wl_setS rfl _ (.tmp 73) _ rfl size_int (f := iv) (g := ga) (j := n5 / 2) rfl rfl ((N : Int) + m) rfl ow5 (by omega) ?_; intro w6 ow6 hg6 hb6))
              go_meet
              case rel => exact ⟨10, _, n5, c5, _, Ap5, 0, cp5, ps5, rfl, bx5.grown hg6 (fun e => by injection e with e; omega), ow6, pr5.none_ _ _, hb5.trans (hb6.mono (by omega)), Lib.hid (.inr (.inr (.inl ⟨rfl, rfl, by rw [List.length_set]; exact Hln.out, (N : Int) + m, List.mem_of_getElem? (List.getElem?_set_self (i := n5 / 2) (by rw [Hln.out]; omega)), by omega⟩))), Lib.hid (fun x hx => by
                rcases List.mem_or_eq_of_mem_set hx with hx | rfl
                · exact bd5.out x hx
                · omega), n51, n52, pn5, rfl, rfl⟩
          case rest =>
            clear bx5 ow5 pr5 hb5 st5 bd5 pn5
            obtain ⟨v6, A6, n6, c6, t6, Ap6, np6, cp6, ps6, rfl, bx6, ow6, pr6, hb6, st6, bd6, n61, n62, pn6, q5, q6⟩ := hcut
            subst q5 q6
            go_upto_region 17 with fail
            go_cut [76] (fun s76 wx => wx = wc ∧ (s76 = .bool true ∨ s76 = .bool false))
            case first =>
              rcases D4.out with d | d
              · have e4 : bits .and .u8 (m : Int) 4 = 0 := by have h := H4.out; rw [d] at h; exact h
                clear d
                go_wp2_with fail
                go_meet
                case rel => exact ⟨rfl, .inr rfl⟩
              · have e4 : bits .and .u8 (m : Int) 4 = 4 := by have h := H4.out; rw [d] at h; exact h
                clear d
                go_wp2_with fail
                go_meet
                case rel => exact ⟨rfl, .inl rfl⟩
            case rest =>
            obtain ⟨rfl, hs76⟩ := hcut
            go_upto_if 76 with fail
            go_cut [13] (fun s13 wx => TRel (fun n np => np = 0) N n6 F a g w2 s13 wx)
            case first =>
              have c3 : wc.cell? ⟨g, 3, none⟩ = some (.slice A6 n6 c6) := bx6.cell 3
              have d0 := hs76
              clear hs76
              rcases d0 with rfl | rfl
              rotate_left
              · go_wp2_with fail
                go_meet
                case rel => exact ⟨v6, A6, n6, c6, t6, Ap6, 0, cp6, ps6, rfl, bx6, ow6, pr6, hb6, st6, bd6, n61, n62, pn6, rfl⟩
              · have e4 := trivial
                have d := trivial
                clear d
                go_wp2_with fail
                clear e4
                go_loopw [77] (fun _ wx => TLoop N n6 F a g w2 wx) (fun _ wx => N + 1 - lenAt wx g)
                case atStart => exact ⟨A6, n6, c6, t6, ps6, Ap6, cp6, bx6, ow6, pr6, hb6, bd6, n61, by omega⟩
                case round =>
                  clear bx6 ow6 pr6 hb6 st6 bd6 pn6 c3
                  obtain ⟨A, n, c, tr, ps, Ap, cp, bx, ow, pr, hb, bd, hn1, hn2⟩ := hrel
                  have c3 : wr.cell? ⟨g, 3, none⟩ = some (.slice A n c) := bx.cell 3
                  have hl1 : lenAt wr g = n := by unfold lenAt; rw [c3]
                  have Hl1 := Lib.hid hl1
                  have zr := bx.lt
                  clear hl1
                  by_cases hlt : n ≤ N
                  · go_wp2_with ((with_reducible refine on_append (.tmp 83) (.tmp 84) ?_); refine wl_appendS rfl (.tmp 83) (.tmp 84) _ rfl el_int (f := iv) (fun _ => rfl) rfl (ow.alloc _) rfl (OwS.lit (base := wr.heap.size) (e := 3) (xs := [(0 : Int)]) wr #[.int .i64 0] 1 (Nat.le_refl _) (by simp [maxLen]) rfl rfl).rd (by omega) (by omega) (by simp; omega) ?_; intro A3 n3 w3 ow3 hg3 hb3; have hne := owS_ne (ow.alloc (.cells #[.int .i64 0] 3)) (Nat.lt_succ_self g); have bx3 := (bx.alloc (.cells #[.int .i64 0] 3)).grown hg3 hne; have e3 : w3.cell? ⟨g, 3, none⟩ = some (.slice A n c) := bx3.cell 3; have fz := bx3.frozen 3)
                    have hl2 : lenAt (w3.setCell ⟨g, 3, none⟩ (.slice A3 (n + 1) n3)) g = n + 1 := by
                      have : (w3.setCell ⟨g, 3, none⟩ (.slice A3 (n + 1) n3)).cell? ⟨g, 3, none⟩ = some (.slice A3 (n + 1) n3) := (bx3.setCell 3 (.slice A3 (n + 1) n3)).1.cell 3
                      unfold lenAt; rw [this]
                    have Hl2 := Lib.hid hl2
                    clear hl2
                    go_roundw
                    case rel => exact ⟨A3, n + 1, n3, _, ps, Ap, cp, (bx3.setCell 3 (.slice A3 (n + 1) n3)).1, ow3.grown (bx3.setCell 3 (.slice A3 (n + 1) n3)).2 (owS_cell ow3 (Nat.lt_succ_self g)), pr.none_ _ _, (hb.trans ((below_alloc wr (by omega) _).trans (hb3.mono (by omega)))).trans (below_of_grown (bx3.setCell 3 (.slice A3 (n + 1) n3)).2 (fun j e => by injection e with e; omega) (by have := bx3.lt; omega)), Lib.hid (fun x hx => by
                      rcases List.mem_append.1 hx with hx | hx
                      · exact bd.out x hx
                      · rw [List.mem_singleton.1 hx]; omega), by omega, by omega⟩
                    case measure => rw [Hl1.out, Hl2.out]; omega
                  · have hnn : n = N + 1 := by omega
                    subst hnn
                    have hln := ow.len
                    go_wp2
                    go_meet
                    case rel => exact ⟨12, A, N + 1, c, tr, Ap, 0, cp, ps, rfl, bx, ow, pr, hb, Lib.hid (.inr (.inr (.inr (.inl ⟨rfl, rfl, hln⟩)))), bd, by omega, by omega, Lib.hid (by have : ps = [] := List.eq_nil_of_length_eq_zero pr.rd.len; rw [this]; simp), rfl⟩
            case rest =>
              clear bx6 ow6 pr6 hb6 st6 bd6 pn6 hs76
              obtain ⟨v7, A7, n7, c7, t7, Ap7, np7, cp7, ps7, rfl, bx7, ow7, pr7, hb7, st7, bd7, n71, n72, pn7, q7⟩ := hcut
              subst q7
              go_upto_if 89 with fail
              go_cut [13] (fun s13 wx => TRel (fun _ _ => True) N n6 F a g w2 s13 wx)
              case first =>
                rcases D8.out with d | d
                · have e8 : bits .and .u8 (m : Int) 8 = 0 := by have h := H8.out; rw [d] at h; exact h
                  clear d
                  go_wp2_with fail
                  go_meet
                  case rel => exact ⟨v7, A7, n7, c7, t7, Ap7, 0, cp7, ps7, rfl, bx7, ow7, pr7, hb7, st7, bd7, n71, n72, pn7, trivial⟩
                · have e8 : bits .and .u8 (m : Int) 8 = 8 := by have h := H8.out; rw [d] at h; exact h
                  clear d
                  have bx8 := bx7.alloc (.cells Pt.zero.cs.toArray 26)
                  have e1 : (wc.alloc (.cells #[.int .u32 0, .int .u32 0, .slice none 0 0] 26)).cell? ⟨g, 1, none⟩ = some (.slice Ap7 0 cp7) := bx8.cell 1
                  have fz : (wc.alloc (.cells #[.int .u32 0, .int .u32 0, .slice none 0 0] 26)).frozen? ⟨g, 1, none⟩ = false := bx8.frozen 1
                  have l7 := bx7.lt
                  have bxs := bx7.setCell 1 (.slice (some ⟨wc.heap.size, 0, none⟩) 1 1)
                  have bx9 : Box ((wc.setCell ⟨g, 1, none⟩ (.slice (some ⟨wc.heap.size, 0, none⟩) 1 1)).alloc (.cells Pt.zero.cs.toArray 26)) g 29 (Cv 2 (some ⟨wc.heap.size, 0, none⟩) 1 1 a A7 n7 c7) := bxs.1.alloc _
                  have hsz : wc.heap.size = (wc.setCell ⟨g, 1, none⟩ (.slice (some ⟨wc.heap.size, 0, none⟩) 1 1)).heap.size := by simp
                  have ow8 := OwM.lit' (base := wc.heap.size) (e := 26) (xs := [Pt.zero]) Pt.cs_length (wc.setCell ⟨g, 1, none⟩ (.slice (some ⟨wc.heap.size, 0, none⟩) 1 1)) Pt.zero.cs.toArray 1 wc.heap.size hsz (Nat.le_of_eq hsz) (by simp [maxLen]) rfl rfl
                  have ow9 := (ow7.grown bxs.2 (owS_cell ow7 (Nat.lt_succ_self g))).alloc (.cells Pt.zero.cs.toArray 26)
                  have hb9 : Below g w2 ((wc.setCell ⟨g, 1, none⟩ (.slice (some ⟨wc.heap.size, 0, none⟩) 1 1)).alloc (.cells Pt.zero.cs.toArray 26)) := (hb7.trans (below_of_grown bxs.2 (fun j e => by injection e with e; omega) (by omega))).trans (below_alloc _ (by rw [← hsz]; omega) _)
                  clear hsz bxs
                  go_wp2_with fail
                  go_meet
                  case rel => exact ⟨3, A7, n7, c7, t7, some ⟨wc.heap.size, 0, none⟩, 1, 1, [Pt.zero], rfl, bx9, ow9, ⟨ow8.rd, fun p hp => by rw [List.mem_singleton.1 hp]; exact RdS.nil _ _, fun p hp => by rw [List.mem_singleton.1 hp]; exact ⟨by decide, by decide⟩⟩, hb9, Lib.hid (.inr (.inr (.inr (.inr ⟨rfl, rfl⟩)))), bd7, n71, n72, Lib.hid (fun p hp => by rw [List.mem_singleton.1 hp]; rfl), trivial⟩
              case rest =>
                clear bx7 ow7 pr7 hb7 st7 bd7 pn7
                obtain ⟨v, A, n, c, tr, Ap, np, cp, ps, rfl, bx, ow, pr, hb, st, bd, hn1, hn2, pn, _⟩ := hcut
                have hpl := pr.rd.len
                have hnp : np ≤ 1 := by
                  rcases st.out with ⟨_, h, _⟩ | ⟨_, h, _⟩ | ⟨_, h, _⟩ | ⟨_, h, _⟩ | ⟨_, h⟩ <;> omega
                have hsm : ∀ p ∈ ps, p.n ≤ 9223372036854775807 := fun p hp => by rw [pn.out p hp]; omega
                have hbd : ∀ x ∈ tr, -9223372036854775808 ≤ x ∧ x ≤ 9223372036854775807 := fun x hx => by have := bd.out x hx; omega
                have B8 : Below w.heap.size w wc := B1.trans ((B2.trans (hb.mono (Nat.le_refl _))).mono z1)
                have hcall : ∀ W, Below wc.heap.size wc W → ∀ (nodes V : Int), cmay 2 ps a tr nodes = V → Calls Try.prog 11 #[.agg #[.int .i64 2, .slice Ap np cp, .int .u32 a, .slice A n c], .int .i64 nodes] W (fun e w' => e = .returned (.int .i64 V) ∧ Below W.heap.size W w') := fun W hW nodes V hV =>
                  cmay_is 2 Ap np cp a A n c nodes W (by omega) (by omega) ps tr wc.heap.size hW.size (pr.step hW) ((ow.rd.more (Nat.le_refl _)).step hW) hbd hsm V hV
                have hv := st.out.ok hM3 hF1 ps hpl a
                have K1 := Lib.hid (fun W hW => hcall W hW N v hv)
                have z8 := B8.size
                rcases (show v = 0 ∨ (v != 0) = true by by_cases h : v = 0; exact .inl h; exact .inr (by simp [h])) with rfl | hv0
                · have ht : tr = tr0 F n6 ∧ np = 0 := by
                    rcases st.out with ⟨_, h, h2⟩ | ⟨h, _⟩ | ⟨h, _⟩ | ⟨h, _⟩ | ⟨h, _⟩
                    · exact ⟨h2, h⟩
                    all_goals cases h
                  obtain ⟨ht1, ht2⟩ := ht
                  have hm2 := tr0_more (F := F) hM3 ps (by omega) a
                  have hm3 := tr0_less (F := F) hM3 ps (by omega) a
                  rw [← ht1] at hm2 hm3
                  obtain ⟨V3, hV3⟩ : ∃ V, cmay 2 ps a tr ((F : Int) + n6 - 1) = V := ⟨_, rfl⟩
                  rw [hV3] at hm3
                  have K2 := Lib.hid (fun W hW => hcall W hW _ _ hm2)
                  have K3 := Lib.hid (fun W hW => hcall W hW _ _ hV3)
                  clear hcall hv st bd hbd hsm pn pr ow ht1 hm2 hV3 HF2 HN2 hpl ht2 hnp
                  go_wp2_with ((with_reducible refine on_load (.tmp 11) ?_); refine wcv_box rfl (.tmp 11) rfl rfl bx ?_)
                  refine (K1.out wc (Below.refl _ _)).mono ?_
                  rintro e w9 ⟨rfl, hb9⟩
                  have bx9 := bx.step hb9
                  go_wp2_with ((with_reducible refine on_load (.tmp 11) ?_); refine wcv_box rfl (.tmp 11) rfl rfl bx9 ?_)
                  refine (K2.out w9 hb9).mono ?_
                  rintro e w10 ⟨rfl, hb10⟩
                  have bx10 := bx9.step hb10
                  have hb11 := hb9.trans (hb10.mono hb9.size)
                  go_wp2_with ((with_reducible refine on_load (.tmp 11) ?_); refine wcv_box rfl (.tmp 11) rfl rfl bx10 ?_)
                  refine (K3.out w10 hb11).mono ?_
                  rintro e w12 ⟨rfl, hb12⟩
                  go_wp2
                  go_ret
                  exact ⟨rfl, B8.trans ((hb11.trans (hb12.mono hb11.size)).mono z8)⟩
                · clear hcall hv st bd hbd hsm pn pr ow HF2 HN2 hpl hnp
                  go_wp2_with ((with_reducible refine on_load (.tmp 11) ?_); refine wcv_box rfl (.tmp 11) rfl rfl bx ?_)
                  refine (K1.out wc (Below.refl _ _)).mono ?_
                  rintro e w9 ⟨rfl, hb9⟩
                  go_wp2
                  go_ret
                  exact ⟨rfl, B8.trans (hb9.mono z8)⟩
theorem certTraces_walk (ks : List Int) {w : World} (hl : ks.length = 3) (hk : ∀ z ∈ ks, 0 ≤ z ∧ z ≤ 255) (a : Int) (ha : 0 ≤ a ∧ a ≤ 4294967295) (bt : Int) (hbt : 0 ≤ bt ∧ bt ≤ 255) :
    Calls Try.prog 4 #[.agg (ks.map (Value.int .u8)).toArray, .int .u32 a, .int .u8 bt] w fun e w' => e = .returned (.bool true) ∧ Below w.heap.size w w' := by
  match ks, hl, hk with
  | [k0, k1, k2], _, hk =>
    have b0 := hk k0 (by simp)
    have b1 := hk k1 (by simp)
    have b2 := hk k2 (by simp)
    obtain ⟨m0, rfl⟩ := Int.eq_ofNat_of_zero_le b0.1
    obtain ⟨m1, rfl⟩ := Int.eq_ofNat_of_zero_le b1.1
    obtain ⟨m2, rfl⟩ := Int.eq_ofNat_of_zero_le b2.1
    obtain ⟨m, rfl⟩ := Int.eq_ofNat_of_zero_le hbt.1
    exact certTraces_core m0 m1 m2 (by omega) (by omega) (by omega) a ha m (by omega)
end Go.Proofs.Yteellpcagdnikaa
