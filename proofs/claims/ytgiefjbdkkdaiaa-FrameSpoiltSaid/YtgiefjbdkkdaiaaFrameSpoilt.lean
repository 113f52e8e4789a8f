/-
  theseuslaw04.FrameSpoilt: the walk.
-/
import Derived.Test.YtgiefjbdkkdaiaaFramePut
import Derived.Test.YtgiefjbdkkdaiaaFrameBurst
import Derived.StillTailTactics
namespace Go.Th
section
variable {P : Program} {ops : Array Oper} {rest : List Oper} {o : Oper} {a : Act} {Q : Act → Prop} {w : World}
theorem ws_run {v : Value} (hw : Region.wanted o (yielded ops a.tmps) = true) (hr : (execOp a.eval o).run P w = .ok (.value v) w) (h : wpStill P ops w Q rest (a.put o.dst v)) : wpStill P ops w Q (o :: rest) a := by
  refine wpStill_step fun K hK => ?_
  rw [if_pos hw]
  unfold Oper.still
  rw [hr, Oper.stillUpon_value]
  exact hK _ h
/-- &s[i] of a row of the call's own. -/
theorem ws_placeS (hw : Region.wanted o (yielded ops a.tmps) = true) (T : TypeId) (s i : Operand) (ho : o.op = .indexAddr T s i) {E bytes : Nat} {z : Value} (el : El P T E z bytes)
    {g n c : Nat} {kk : IntKind} {I : Int} (hs : a.eval s = .slice (some ⟨g, 0, none⟩) n c) (hi : a.eval i = .int kk I) (j : Nat) (hj : I = (j : Int) ∧ j < n)
    (h : wpStill P ops w Q rest (a.put o.dst (.pointer (some ⟨g, j, none⟩)))) : wpStill P ops w Q (o :: rest) a := by
  obtain ⟨rfl, hj⟩ := hj
  refine ws_run hw (v := .pointer (some ⟨g, j, none⟩)) ?_ h
  have := run_indexAt (P := P) (w := w) T el.ht (el.size w) ⟨g, 0, none⟩ n c kk (j : Int) (by omega) (by omega)
  rw [Addr.add_lit, Nat.zero_add, Int.toNat_natCast, Nat.mul_one] at this
  simp only [execOp, ho, hs, hi, Sem.run_bind, this, Result.andThen, Sem.run_pure]
theorem ons_ix (s : Operand) {d T i ty pos af g} (h : wpStill P ops w Q (⟨d, .indexAddr T s i, ty, pos, af, g⟩ :: rest) a) : wpStill P ops w Q (⟨d, .indexAddr T s i, ty, pos, af, g⟩ :: rest) a := h
end
end Go.Th
namespace Go.Proofs.Ytgiefjbdkkdaiaa
open Go.RowKit Go.Th
set_option linter.unusedVariables false
theorem ftake_isP (m : Nat) (hm : m < 4294967296) (M : Int) (hM : (m : Int) = M) (A : Option Addr) (n c : Nat) (w : World) (hn : n ≤ 1000000) (bs : List UInt8) (hr : RdS bv w w.heap.size A n c bs) (x : List UInt8) (er : Int) (h : ftake m bs = (x, er)) :
    Calls Try.prog 44 #[.int .u32 M, .slice A n c] w fun e w' => ∃ A' n' c', e = .returned (.tuple #[.slice A' n' c', .int .i64 er]) ∧ OwS bv w' w.heap.size 5 A' n' c' x ∧ Below w.heap.size w w' := by
  have := ftake_any m hm M hM A n c w hn bs hr
  rw [h] at this
  exact this
set_option maxRecDepth 100000 in
set_option maxHeartbeats 8000000 in
theorem frameSpoilt_core (A : Option Addr) (n c : Nat) (bs : List UInt8) {w : World} (hr : RdS bv w w.heap.size A n c bs) (hm : n ≤ 9223372036854775807)
    (m : Nat) (hm2 : m < 4294967296) (x0 x1 : Nat) (hx0 : x0 < 4294967296) (hx1 : x1 < 4294967296) :
    Calls Try.prog 20 #[.slice A n c, .int .u32 m, .agg #[.int .u32 x0, .int .u32 x1]] w fun e w' => e = .returned (.bool true) ∧ Below w.heap.size w w' := by
  obtain ⟨N, hN, hN1⟩ : ∃ N, min n 150 = N ∧ N ≤ 150 := ⟨_, rfl, by omega⟩
  obtain ⟨wa, hwa⟩ : ∃ x, bs.take 150 = x := ⟨_, rfl⟩
  have hla : wa.length = N := by rw [← hwa, List.length_take, hr.len, Nat.min_comm]; exact hN
  have lx : (fput m wa).length = N + 8 := by rw [fput_length, hla]
  obtain ⟨X, hX, hXo⟩ : ∃ X, x0 ||| 1 = X ∧ X < 4294967296 := ⟨_, rfl, Nat.or_lt_two_pow (n := 32) hx0 (by omega)⟩
  have hXi : bits .or .u32 (x0 : Int) 1 = (X : Int) := by rw [← hX]; exact u32_or_nat x0 1 hx0 (by omega)
  have hXodd : X % 2 = 1 := by
    rw [← hX]
    have := Nat.or_mod_two_pow (a := x0) (b := 1) (n := 1)
    rw [show (2 : Nat) ^ 1 = 2 from rfl] at this
    rw [this]
    rcases Nat.mod_two_eq_zero_or_one x0 with h | h <;> rw [h] <;> rfl
  obtain ⟨E, hE⟩ : ∃ E, 8 * (N + 4) = E := ⟨_, rfl⟩
  have hEi : 8 * ((N : Int) + 8 - 4) = (E : Int) := by omega
  obtain ⟨p, hp, hpE⟩ : ∃ p : Nat, (x1 : Int) % (E : Int) = (p : Int) ∧ p < E := ⟨x1 % E, by omega, Nat.mod_lt _ (by omega)⟩
  have hE0 : (E : Int) ≠ 0 := by omega
  have HE := Lib.hid hE
  have Hodd := Lib.hid hXodd
  have HN := Lib.hid hN
  have Hwa := Lib.hid hwa
  have Lx := Lib.hid lx
  have La := Lib.hid hla
  have HX := Lib.hid hX
  clear hN hwa hla lx hX
  go_enter Try.func20, Try.ntmps20
  go_wp2_with fail
  refine (shown4 _).mono ?_
  rintro e w1 ⟨rfl, hb1⟩
  have bx := (Box.new w #[.int .u32 x0, .int .u32 x1] 59).step hb1
  have hr1 := (hr.step (below_alloc w (Nat.le_refl _) _)).step hb1
  have hb := (below_alloc (B := w.heap.size) w (Nat.le_refl _) (.cells #[.int .u32 x0, .int .u32 x1] 59)).trans (hb1.mono (by simp))
  have zb := hb.size
  have r1 := fewR HN.out hr1
  rw [Hwa.out] at r1
  clear hb1 hr
  go_wp2_with fail
  refine (few4 _ _ _ N HN.out _ hm _ _ hr1).mono ?_
  rintro e w2 ⟨rfl, rfl⟩
  go_wp2_with fail
  refine (fput_any m hm2 _ rfl _ _ _ _ (by omega) _ (r1.more zb)).mono ?_
  rintro e w3 ⟨A3, n3, c3, rfl, how3, hb3⟩
  have e3 : n3 = N + 8 := how3.len.symm.trans Lx.out
  subst e3
  have bx3 := bx.step hb3
  have B3 := hb.trans (hb3.mono zb)
  have z3 := B3.size
  clear hr1 r1
  go_wp2_with (first
    | ((with_reducible refine on_append (.tmp 28) (.tmp 29) ?_); refine wl_appendS rfl (.tmp 28) (.tmp 29) _ rfl el_u8 (f := bv) (fun _ => rfl) rfl (OwS.lit (base := w3.heap.size) (e := 5) (xs := []) w3 #[] 0 (Nat.le_refl _) (by simp [maxLen]) rfl rfl) rfl (how3.rd.alloc _) (by omega) (by omega) (by simp) ?_; intro A4 c4 w4 how4 _ hb4; rw [Nat.zero_add, List.nil_append] at how4; have H4 : Below w3.heap.size w3 w4 := (below_alloc w3 (Nat.le_refl _) _).trans hb4; obtain ⟨g4, rfl, hg4⟩ := how4.at0 (by omega); have bx4 := bx3.step H4; have q40 := bx4.cell 0; have q41 := bx4.cell 1))
  try rw [hEi]
  try rw [hp]
  clear hp hEi
  have hE4 : N + 4 < E := by have := HE.out; omega
  have hE8 : E ≤ 8 * (N + 8) := by have := HE.out; omega
  go_loopw [13] (fun i wr => ∃ k : Nat, k ≤ 32 ∧ p + k ≤ E ∧ i = .int .i64 k ∧ OwS bv wr w3.heap.size 5 (some ⟨g4, 0, none⟩) (N + 8) c4 (burst (fput m wa) X p k) ∧ Below w3.heap.size w3 wr) (fun i _ => 32 - (intOf i).toNat)
  case atStart => exact ⟨0, by omega, by omega, rfl, how4, H4⟩
  case round =>
    obtain ⟨k, hk, hpk, rfl, how, hbr⟩ := hrel
    clear how4 H4 hb4 bx4 q40 q41
    have zr := hbr.size
    by_cases hlt : k < 32 ∧ p + k < E
    · obtain ⟨hlt, hlt2⟩ := hlt
      have hd1 : decide ((k : Int) < 32) = true := decide_eq_true (by omega)
      have hd2 : decide ((p : Int) + (k : Int) < (E : Int)) = true := decide_eq_true (by omega)
      have hdiv : ((X / 2 ^ k : Nat) : Int) = (X : Int) / 2 ^ k := by simp
      have hand := u32_and_nat (X / 2 ^ k) 1 (by have := Nat.div_le_self X (2 ^ k); omega) (by omega)
      rw [hdiv, Nat.and_one_is_mod] at hand
      have hstep : burst (fput m wa) X p (k + 1) = if X / 2 ^ k % 2 = 1 then Go.Th.flip (burst (fput m wa) X p k) (p + k) else burst (fput m wa) X p k := rfl
      rcases Nat.mod_two_eq_zero_or_one (X / 2 ^ k) with h | h
      · rw [h] at hand
        have hand : bits .and .u32 ((X : Int) / 2 ^ k) 1 = 0 := hand
        rw [if_neg (by omega)] at hstep
        have Hstep := Lib.hid hstep
        clear hdiv hstep
        go_wp2
        go_roundw
        case rel => exact ⟨k + 1, by omega, by omega, by go_num, by rw [Hstep.out]; exact how, hbr⟩
        case measure => simp [intOf]; omega
      · rw [h] at hand
        have hand : bits .and .u32 ((X : Int) / 2 ^ k) 1 = 1 := hand
        rw [if_pos h] at hstep
        have Hstep := Lib.hid hstep
        clear hdiv hstep
        obtain ⟨q, hq⟩ : ∃ q, (p + k) / 8 = q := ⟨_, rfl⟩
        obtain ⟨r, hr⟩ : ∃ r, (p + k) % 8 = r := ⟨_, rfl⟩
        have hqi : ((p : Int) + (k : Int)) / 8 = (q : Int) := by omega
        have hri : ((p : Int) + (k : Int)) % 8 = (r : Int) := by omega
        have hw1 : IntKind.i64.wrap ((p : Int) + (k : Int)) = (p : Int) + (k : Int) := by simp (disch := omega) only [IntWalk.i64_in]
        have hw2 : IntKind.i64.wrap (((p : Int) + (k : Int)).tdiv 8) = (q : Int) := by
          rw [Int.tdiv_eq_ediv_of_nonneg (by omega), hqi]; simp (disch := omega) only [IntWalk.i64_in]
        have hw3 : ((p : Int) + (k : Int)).tmod 8 = (r : Int) := by rw [Int.tmod_eq_emod_of_nonneg (by omega), hri]
        have hq8 : (q : Int) < (N : Int) + 8 := by omega
        have hr8 : r < 8 := by omega
        have lb := how.len
        obtain ⟨x, hx⟩ : ∃ x, (burst (fput m wa) X p k)[q]? = some x := ⟨(burst (fput m wa) X p k)[q]'(by rw [lb]; omega), List.getElem?_eq_getElem _⟩
        have hcell : wr.cell? ⟨g4, q, none⟩ = some (.int .u8 (x.toNat : Int)) := OwS_cell how hx
        have hfl : Go.Th.flip (burst (fput m wa) X p k) (p + k) = (burst (fput m wa) X p k).set q (x ^^^ UInt8.ofNat (2 ^ r)) := by
          unfold Go.Th.flip
          rw [hq, hr, List.getD_eq_getElem?_getD, hx]
          rfl
        obtain ⟨d, hd⟩ : ∃ d, UInt8.ofNat (2 ^ r) = d := ⟨_, rfl⟩
        obtain ⟨v, hv⟩ : ∃ v, x ^^^ d = v := ⟨_, rfl⟩
        have hx8 := x.toNat_lt
        have hd8 := d.toNat_lt
        have hxo : bits .xor .u8 (x.toNat : Int) (d.toNat : Int) = (v.toNat : Int) := by
          rw [← hv, UInt8.toNat_xor]; exact u8_xor_nat x.toNat d.toNat (by omega) (by omega)
        rw [hd, hv] at hfl
        have hw4 : IntKind.u8.wrap (2 ^ r) = (d.toNat : Int) := by
          rw [← hd]
          have : r = 0 ∨ r = 1 ∨ r = 2 ∨ r = 3 ∨ r = 4 ∨ r = 5 ∨ r = 6 ∨ r = 7 := by omega
          rcases this with h | h | h | h | h | h | h | h <;> (rw [h]; rfl)
        clear hd hv
        have Hfl := Lib.hid hfl
        have Hq := Lib.hid hq
        have Hr := Lib.hid hr
        clear hq hr hx hfl lb
        go_wp2
        refine wp_region_still_tail 19 (by kernel_rfl) (by kernel_rfl) ?_
        simp only [List.take_succ_cons, List.take_zero, List.drop_succ_cons, List.drop_zero]
        repeat (first | ((with_reducible refine ons_ix (.tmp 64) ?_); refine ws_placeS rfl _ (.tmp 64) _ rfl el_u8 rfl rfl q (by omega) ?_) | ((with_reducible refine ons_ix (.tmp 59) ?_); refine ws_placeS rfl _ (.tmp 59) _ rfl el_u8 rfl rfl q (by omega) ?_) | still_step)
        refine wpStill_nil ?_
        change wpList _ _ _ _ _ wr.drew
        have how1 := how.drewN 1
        have hbr1 : Below w3.heap.size w3 wr.drew := hbr.drew
        go_wp2_with ((with_reducible refine on_stx (.tmp 77) ?_); refine wl_setS rfl _ (.tmp 77) _ rfl size_u8 (f := bv) (g := g4) (j := q) rfl rfl v rfl how1 (by omega) ?_; intro w5 how5 hg5 hb5)
        go_roundw
        case rel => exact ⟨k + 1, by omega, by omega, by go_num, by rw [Hstep.out, Hfl.out]; exact how5, hbr1.trans hb5⟩
        case measure => simp [intOf]; omega
    · have hk1 : 1 ≤ k := by omega
      obtain ⟨g, ho1, hg⟩ := ftake_burst m wa X p k Hodd.out hk1 hk (by rw [La.out]; have := HE.out; omega)
      obtain ⟨F, hF⟩ : ∃ F, 8 * (N + 8) = F := ⟨_, rfl⟩
      have hFi : 8 * ((N : Int) + 8) = (F : Int) := by omega
      obtain ⟨f, hf, hfE⟩ : ∃ f : Nat, (x1 : Int) % (8 * ((N : Int) + 8)) = (f : Int) ∧ f < 8 * (N + 8) := ⟨x1 % F, by rw [hFi]; omega, by rw [hF]; exact Nat.mod_lt _ (by omega)⟩
      clear hF hFi
      obtain ⟨g2, ho2, hg2⟩ := ftake_flip m wa f (by rw [La.out]; exact hfE)
      obtain ⟨q, hq⟩ : ∃ q, f / 8 = q := ⟨_, rfl⟩
      obtain ⟨r, hr⟩ : ∃ r, f % 8 = r := ⟨_, rfl⟩
      have hw2 : IntKind.i64.wrap ((f : Int).tdiv 8) = (q : Int) := by
        rw [Int.tdiv_eq_ediv_of_nonneg (by omega), show (f : Int) / 8 = (q : Int) by omega]; simp (disch := omega) only [IntWalk.i64_in]
      have hw2b : IntKind.i64.wrap ((f : Int) / 8) = (q : Int) := by
        rw [show (f : Int) / 8 = (q : Int) by omega]; simp (disch := omega) only [IntWalk.i64_in]
      have hw3 : (f : Int).tmod 8 = (r : Int) := by rw [Int.tmod_eq_emod_of_nonneg (by omega)]; omega
      have hw3b : (f : Int) % 8 = (r : Int) := by omega
      have hq8 : (q : Int) < (N : Int) + 8 := by omega
      have hr8 : r < 8 := by omega
      have how3r := how3.below hbr
      have lb := how3.len
      obtain ⟨x, hx⟩ : ∃ x, (fput m wa)[q]? = some x := ⟨(fput m wa)[q]'(by rw [lb]; omega), List.getElem?_eq_getElem _⟩
      have hfl : Go.Th.flip (fput m wa) f = (fput m wa).set q (x ^^^ UInt8.ofNat (2 ^ r)) := by
        unfold Go.Th.flip
        rw [hq, hr, List.getD_eq_getElem?_getD, hx]
        rfl
      obtain ⟨d, hd⟩ : ∃ d, UInt8.ofNat (2 ^ r) = d := ⟨_, rfl⟩
      obtain ⟨v, hv⟩ : ∃ v, x ^^^ d = v := ⟨_, rfl⟩
      have hx8 := x.toNat_lt
      have hd8 := d.toNat_lt
      have hxo : bits .xor .u8 (x.toNat : Int) (d.toNat : Int) = (v.toNat : Int) := by
        rw [← hv, UInt8.toNat_xor]; exact u8_xor_nat x.toNat d.toNat (by omega) (by omega)
      rw [hd, hv] at hfl
      have hw4 : IntKind.u8.wrap (2 ^ r) = (d.toNat : Int) := by
        rw [← hd]
        have : r = 0 ∨ r = 1 ∨ r = 2 ∨ r = 3 ∨ r = 4 ∨ r = 5 ∨ r = 6 ∨ r = 7 := by omega
        rcases this with h | h | h | h | h | h | h | h <;> (rw [h]; rfl)
      rw [hfl] at ho2
      have O1 := Lib.hid ho1
      have O2 := Lib.hid ho2
      have Hx := Lib.hid hx
      have bxr := (bx3.step hbr)
      have Br := B3.trans (hbr.mono z3)
      have zb3 := Br.size
      have hf0 : (8 * ((N : Int) + 8)) ≠ 0 := by omega
      clear hd hv ho1 ho2 hfl hq hr hx lb hbr
      have hexit : ((k : Int) < 32 ∧ ¬ ((p : Int) + (k : Int) < (E : Int))) ∨ ¬ ((k : Int) < 32) := by omega
      rcases hexit with ⟨hx1, hx2⟩ | hx1
      all_goals
        go_wp2_with fail
        refine (ftake_isP m hm2 _ rfl _ _ _ wr (by omega) _ how.rd _ _ O1.out).mono ?_
        rintro e w5 ⟨A5, n5, c5, rfl, how5, hb5⟩
        have e5 : n5 = 0 := how5.len.symm
        subst e5
        have o5 := how3r.below hb5
        have bx5 := bxr.step hb5
        have B5 := Br.trans (hb5.mono zb3)
        have z5 := B5.size
        clear how5 hb5
        go_wp2_with (first
          | ((with_reducible refine on_append (.tmp 84) (.tmp 85) ?_); refine wl_appendS rfl (.tmp 84) (.tmp 85) _ rfl el_u8 (f := bv) (fun _ => rfl) rfl (OwS.lit (base := w5.heap.size) (e := 5) (xs := []) w5 #[] 0 (Nat.le_refl _) (by simp [maxLen]) rfl rfl) rfl (o5.rd.alloc _) (by omega) (by omega) (by simp) ?_; intro A6 c6 w6 how6 _ hb6; rw [Nat.zero_add, List.nil_append] at how6; have H6 : Below w5.heap.size w5 w6 := (below_alloc w5 (Nat.le_refl _) _).trans hb6; obtain ⟨g6, rfl, hg6⟩ := how6.at0 (by omega); have bx6 := bx5.step H6; have q61 := bx6.cell 1))
        have B6 := B5.trans (H6.mono z5)
        have hcell : w6.cell? ⟨g6, q, none⟩ = some (.int .u8 (x.toNat : Int)) := OwS_cell how6 Hx.out
        clear hb6 bx5 bx6 q61
        go_wp2_with fail
        try rw [hf]
        refine wp_region_still_tail 13 (by kernel_rfl) (by kernel_rfl) ?_
        simp only [List.take_succ_cons, List.take_zero, List.drop_succ_cons, List.drop_zero]
        repeat (first | ((with_reducible refine ons_ix (.tmp 97) ?_); refine ws_placeS rfl _ (.tmp 97) _ rfl el_u8 rfl rfl q (by omega) ?_) | ((with_reducible refine ons_ix (.tmp 94) ?_); refine ws_placeS rfl _ (.tmp 94) _ rfl el_u8 rfl rfl q (by omega) ?_) | still_step)
        refine wpStill_nil ?_
        change wpList _ _ _ _ _ w6.drew
        have how61 := how6.drewN 1
        have B61 : Below w.heap.size w w6.drew := B6.drew
        have z61 := B61.size
        go_wp2_with ((with_reducible refine on_stx (.tmp 106) ?_); refine wl_setS rfl _ (.tmp 106) _ rfl size_u8 (f := bv) (g := g6) (j := q) rfl rfl v rfl how61 (by omega) ?_; intro w7 how7 hg7 hb7)
        have B7 := B61.trans (hb7.mono z5)
        have z7 := B7.size
        refine (ftake_isP m hm2 _ rfl _ _ _ w7 (by omega) _ how7.rd _ _ O2.out).mono ?_
        rintro e w8 ⟨A8, n8, c8, rfl, how8, hb8⟩
        have e8 : n8 = 0 := how8.len.symm
        subst e8
        rcases hg with rfl | rfl <;> rcases hg2 with rfl | rfl
        all_goals
          go_wp2_with fail
          go_ret
          exact ⟨rfl, B7.trans (hb8.mono z7)⟩
theorem frameSpoilt_walk (A : Option Addr) (n c : Nat) (bs : List UInt8) {w : World} (hr : RdS bv w w.heap.size A n c bs) (hm : n ≤ 9223372036854775807) (mg : Int) (hmg : 0 ≤ mg ∧ mg ≤ 4294967295)
    (ks : List Int) (hl : ks.length = 2) (hk : ∀ z ∈ ks, 0 ≤ z ∧ z ≤ 4294967295) :
    Calls Try.prog 20 #[.slice A n c, .int .u32 mg, .agg (ks.map (Value.int .u32)).toArray] w fun e w' => e = .returned (.bool true) ∧ Below w.heap.size w w' := by
  obtain ⟨m, rfl⟩ := Int.eq_ofNat_of_zero_le hmg.1
  match ks, hl, hk with
  | [k0, k1], _, hk =>
    have h0 := hk k0 (by simp)
    have h1 := hk k1 (by simp)
    obtain ⟨m0, rfl⟩ := Int.eq_ofNat_of_zero_le h0.1
    obtain ⟨m1, rfl⟩ := Int.eq_ofNat_of_zero_le h1.1
    exact frameSpoilt_core A n c bs hr hm m (by omega) m0 m1 (by omega) (by omega)
end Go.Proofs.Ytgiefjbdkkdaiaa
