/-
  theseuslaw17.CertMany: the walk.
-/
import Derived.Test.YteellpcagdnikaaCertMay
namespace Go.Th
open Go.RowKit
theorem flat_set {α : Type} {f : α → List Value} {k : Nat} (hf : ∀ x, (f x).length = k) (xs : List α) (i j : Nat) (v : Value) (x x' : α) (hi : xs[i]? = some x) (hj : j < k) (hx : f x' = (f x).set j v) : (xs.flatMap f).set (i * k + j) v = (xs.set i x').flatMap f := by
  have hil : i < xs.length := (List.getElem?_eq_some_iff.1 hi).1
  have hlen : (xs.flatMap f).length = xs.length * k := flat_length hf xs
  have hlen' : ((xs.set i x').flatMap f).length = xs.length * k := by rw [flat_length hf, List.length_set]
  refine List.ext_getElem? fun t => ?_
  by_cases ht : t < xs.length * k
  · have hk : 0 < k := by omega
    have hq : t / k < xs.length := Nat.div_lt_of_lt_mul (by rw [Nat.mul_comm]; exact ht)
    have hr : t % k < k := Nat.mod_lt _ hk
    have e : t / k * k + t % k = t := by rw [Nat.mul_comm]; exact Nat.div_add_mod t k
    have e1 := flat_get hf (List.getElem?_eq_getElem hq) hr
    rw [e] at e1
    have hq' : t / k < (xs.set i x').length := by rw [List.length_set]; exact hq
    have e2 := flat_get hf (List.getElem?_eq_getElem hq') hr
    rw [e] at e2
    rw [e2, List.getElem?_set, e1]
    by_cases hti : t / k = i
    · subst hti
      have hx0 : xs[t / k] = x := (List.getElem?_eq_some_iff.1 hi).2
      have hx1 : (xs.set (t / k) x')[t / k] = x' := by simp
      rw [hx0, hx1, hx, List.getElem?_set]
      by_cases htj : j = t % k
      · rw [if_pos (by rw [htj]; exact e), if_pos htj, if_pos (by omega), if_pos (by rw [hf]; exact hj)]
      · rw [if_neg (by intro h; apply htj; omega), if_neg htj]
    · have hx1 : (xs.set i x')[t / k] = xs[t / k] := by rw [List.getElem_set_ne (by omega)]
      rw [hx1, if_neg]
      intro h
      apply hti
      rw [← h, Nat.mul_comm, Nat.mul_add_div hk, Nat.div_eq_of_lt hj, Nat.add_zero]
  · rw [List.getElem?_eq_none (by rw [List.length_set]; omega), List.getElem?_eq_none (by omega)]
theorem OwM.setAt {α : Type} {f : α → List Value} {k base e g n c : Nat} {w : World} {xs : List α} (hf : ∀ x, (f x).length = k) (h : OwM f k w base e (some ⟨g, 0, none⟩) n c xs) {i j : Nat} {x x' : α} {v : Value} (hi : xs[i]? = some x) (hj : j < k) (hx : f x' = (f x).set j v) :
    OwM f k (w.setCell ⟨g, i * k + j, none⟩ v) base e (some ⟨g, 0, none⟩) n c (xs.set i x') ∧ w.grownBy (w.setCell ⟨g, i * k + j, none⟩ v) (some g) := by
  obtain ⟨h1, h2⟩ := h.ow.own.stored (i * k + j) v
  rw [flat_set hf xs i j v x x' hi hj hx] at h1
  exact ⟨⟨⟨h1⟩, by rw [List.length_set]; exact h.len⟩, h2⟩
theorem OwM.cellAt {α : Type} {f : α → List Value} {k base e g n c : Nat} {w : World} {xs : List α} (hf : ∀ x, (f x).length = k) (h : OwM f k w base e (some ⟨g, 0, none⟩) n c xs) {i j : Nat} {x : α} {v : Value} (hi : xs[i]? = some x) (hj : (f x)[j]? = some v) :
    w.cell? ⟨g, i * k + j, none⟩ = some v ∧ w.frozen? ⟨g, i * k + j, none⟩ = false := by
  have hjk : j < k := by rw [← hf x]; exact (List.getElem?_eq_some_iff.1 hj).1
  have hil : i < n := by rw [← h.len]; exact (List.getElem?_eq_some_iff.1 hi).1
  have hlt : i * k + j < n * k := by
    have : (i + 1) * k ≤ n * k := Nat.mul_le_mul_right k hil
    rw [Nat.succ_mul] at this
    omega
  exact ⟨by rw [h.ow.own.cellAt _ hlt, flat_get hf hi hjk, hj], h.ow.own.frozenAt _⟩
/-- The parts of CertMany. -/
def nPart (i : Nat) : Pt := ⟨i, i, none, 0, 0, []⟩
def nParts (k : Nat) : List Pt := (List.range k).map nPart
theorem nParts_succ (k : Nat) : nParts (k + 1) = nParts k ++ [nPart k] := by simp [nParts, List.range_succ]
theorem nParts_length (k : Nat) : (nParts k).length = k := by simp [nParts]
theorem nParts_get {k i : Nat} (h : i < k) : (nParts k)[i]? = some (nPart i) := by simp [nParts, h]
/-- The last one goes to the top. -/
def mParts (k : Nat) : List Pt := (nParts (k + 1)).set k ⟨k, 4294967295, none, 0, 0, []⟩
theorem mParts_eq (k : Nat) : mParts k = nParts k ++ [⟨k, 4294967295, none, 0, 0, []⟩] := by
  unfold mParts
  rw [nParts_succ, List.set_append_right _ _ (by rw [nParts_length]; exact Nat.le_refl _), nParts_length, Nat.sub_self]
  rfl
theorem meet_n : ∀ (k j : Nat) (last : Pt), last.fr = (j + k : Nat) → last.to = 4294967295 → last.fr ≤ last.to → meetF (j : Nat) (((List.range' j k).map nPart) ++ [last]) = true
  | 0, j, last, h1, h2, h3 => by
    simp only [List.range'_zero, List.map_nil, List.nil_append, meetF, Bool.and_eq_true, decide_eq_true_eq]
    exact ⟨by rw [h1]; simp, h3, by rw [h2]; rfl⟩
  | k + 1, j, last, h1, h2, h3 => by
    have ih := meet_n k (j + 1) last (by rw [h1]; congr 1; omega) h2 h3
    simp only [List.range'_succ, List.map_cons, List.cons_append, meetF, Bool.and_eq_true, decide_eq_true_eq]
    refine ⟨rfl, Int.le_refl _, ?_⟩
    have e : (nPart j).to + 1 = ((j + 1 : Nat) : Int) := rfl
    rw [e]
    exact ih
theorem meet_mParts (k : Nat) (hk : k ≤ 4294967295) : meetF 0 (mParts k) = true := by
  rw [mParts_eq]
  have := meet_n k 0 ⟨k, 4294967295, none, 0, 0, []⟩ (by simp) rfl (by show (k : Int) ≤ 4294967295; omega)
  rw [← List.range_eq_range'] at this
  exact this
theorem mParts_all {R : Pt → Prop} (k : Nat) (h : ∀ i, i < k → R (nPart i)) (hl : R ⟨k, 4294967295, none, 0, 0, []⟩) : ∀ p ∈ mParts k, R p := by
  intro p hp
  rw [mParts_eq] at hp
  rcases List.mem_append.1 hp with hp | hp
  · obtain ⟨i, hi, rfl⟩ := List.mem_map.1 hp
    exact h i (List.mem_range.1 hi)
  · rw [List.mem_singleton.1 hp]; exact hl
theorem ranks_none : ∀ ps : List Pt, (∀ p ∈ ps, p.rk = []) → ranks 0 ps = 0
  | [], _ => rfl
  | p :: ps, h => by
    have e := h p (by simp)
    simp [ranks, e]
    exact ranks_none ps fun q hq => h q (by simp [hq])
end Go.Th
namespace Go.Proofs.Yteellpcagdnikaa
open Go.RowKit Go.Th
set_option linter.unusedVariables false
theorem ow_ne {w : World} {A : Option Addr} {n c b g : Nat} {e : TypeId} {ps : List Pt} (h : OwM Pt.cs 3 w b e A n c ps) (hg : g < b) : rowOf A ≠ some g := fun e => by
  rcases h.ow.form with ⟨e2, _⟩ | ⟨g', e2, hb, _⟩
  · subst e2; simp [rowOf] at e
  · subst e2; simp [rowOf] at e; omega
def ManyRel (n g : Nat) (wb : World) (i : Value) (wr : World) : Prop :=
  ∃ (k c : Nat) (A : Option Addr), k ≤ n ∧ i = .int .i64 k ∧ Box wr g 29 (Cv 1 A k c 0 none 0 0) ∧ OwM Pt.cs 3 wr (g + 1) 26 A k c (nParts k) ∧ Below g wb wr
set_option maxRecDepth 100000 in
set_option maxHeartbeats 4000000 in
theorem certMany_walk (nb : Int) {w : World} (hnb : 0 ≤ nb ∧ nb ≤ 255) : Calls Try.prog 5 #[.int .u8 nb] w fun e w' => e = .returned (.bool true) ∧ Below w.heap.size w w' := by
  obtain ⟨hn0, hn1⟩ := hnb
  obtain ⟨m, rfl⟩ := Int.eq_ofNat_of_zero_le hn0
  obtain ⟨N, hN⟩ : ∃ N, 8190 + m % 7 = N := ⟨_, rfl⟩
  have hM1 : 8190 ≤ N ∧ N ≤ 8196 := by omega
  have hM2 : 8190 + (m : Int) % 7 = (N : Int) := by omega
  obtain ⟨hM3, hM4⟩ := hM1
  have HM2 := Lib.hid hM2
  clear hN hM2
  go_enter Try.func5, Try.ntmps5
  go_wp2_with fail
  refine (shown17 _).mono ?_
  rintro e w1 ⟨rfl, hb1⟩
  go_upto_region 4 with ((with_reducible refine on_store_at (.tmp 5) ?_); refine wb_store (cs := Cv 0 none 0 0 0 none 0 0) (cs' := Cv 1 none 0 0 0 none 0 0) rfl _ (.tmp 5) _ rfl st_cert rfl rfl (Box.new w1 _ _) rfl rfl (by simp [Cv, Value.oneCell']) ?_; intro w2 bx2 hg2)
  have B1 := hb1
  have B2 : Below w1.heap.size w1 w2 := (below_alloc w1 (Nat.le_refl _) _).trans (below_of_grown hg2 (fun j e => by injection e with e; omega) (by simp))
  have z1 := B1.size
  clear hg2 hb1
  go_wp2_with fail
  rw [HM2.out]
  go_loopw [6] (fun i wr => ManyRel N w1.heap.size w2 i wr) (fun i _ => N - (intOf i).toNat)
  case atStart => exact ⟨0, 0, none, by omega, rfl, bx2, OwM.nil_ _ _ _, Below.refl _ _⟩
  case round =>
    obtain ⟨k, c, A, hk, rfl, bx, ow, hb⟩ := hrel
    have c1 : wr.cell? ⟨w1.heap.size, 1, none⟩ = some (.slice A k c) := bx.cell 1
    have zr := bx.lt
    by_cases hlt : k < N
    · go_wp2_with ((with_reducible refine on_append (.tmp 20) (.tmp 26) ?_); refine wm_append Pt.cs_length rfl (.tmp 20) (.tmp 26) _ rfl el_part Pt.one rfl (ow.alloc _) rfl (OwM.lit (base := wr.heap.size) (e := 26) (xs := [nPart k]) Pt.cs_length wr #[.int .u32 k, .int .u32 k, .slice none 0 0] 1 (Nat.le_refl _) (by simp [maxLen]) rfl rfl).rd (by omega) (by omega) (by simp; omega) ?_; intro A3 c3 w3 ow3 hg3 hb3; have hne := ow_ne (ow.alloc (.cells #[.int .u32 k, .int .u32 k, .slice none 0 0] 26)) (Nat.lt_succ_self w1.heap.size); have bx3 := (bx.alloc (.cells #[.int .u32 k, .int .u32 k, .slice none 0 0] 26)).grown hg3 hne; have d1 : w3.cell? ⟨w1.heap.size, 1, none⟩ = some (.slice A k c) := bx3.cell 1; have fz := bx3.frozen 1)
      go_roundw
      case rel => exact ⟨k + 1, c3, A3, by omega, by go_num, (bx3.setCell 1 (.slice A3 (k + 1) c3)).1, by rw [nParts_succ]; exact ow3.grown (bx3.setCell 1 (.slice A3 (k + 1) c3)).2 (fun g hg e => by injection e with e; rcases ow3.ow.form with ⟨e2, _⟩ | ⟨g', e2, hb', _⟩ <;> rw [e2] at hg <;> simp at hg <;> omega), (hb.trans ((below_alloc wr (by omega) _).trans (hb3.mono (by omega)))).trans (below_of_grown (bx3.setCell 1 (.slice A3 (k + 1) c3)).2 (fun j e => by injection e with e; omega) (by have := bx3.lt; omega))⟩
      case measure => simp [intOf] <;> omega
    · have hkn : k = N := by omega
      subst hkn
      obtain ⟨g, rfl, hg1, hg2⟩ := ow.at0 (by omega)
      obtain ⟨e1, e2⟩ := ow.cellAt Pt.cs_length (nParts_get (show k - 1 < k by omega)) (j := 1) rfl
      obtain ⟨ow4, gg4⟩ := ow.setAt Pt.cs_length (j := 1) (x' := ⟨(k - 1 : Nat), 4294967295, none, 0, 0, []⟩) (v := .int .u32 4294967295) (nParts_get (show k - 1 < k by omega)) (by omega) rfl
      have hm : (nParts k).set (k - 1) ⟨(k - 1 : Nat), 4294967295, none, 0, 0, []⟩ = mParts (k - 1) := by unfold mParts; rw [Nat.sub_add_cancel (by omega)]
      rw [hm] at ow4
      have bx4 := bx.grown gg4 (fun e => by injection e with e; omega)
      have hq := below_of_grown (B := w1.heap.size) gg4 (fun j e => by injection e with e; omega) (by omega)
      go_upto_region 9 with ((with_reducible refine on_index (.tmp 30) ?_); refine wm_place rfl _ (.tmp 30) _ rfl el_part rfl rfl (k - 1) (by omega) ?_)
      have B5 : Below w.heap.size w (wr.setCell ⟨g, (k - 1) * 3 + 1, none⟩ (.int .u32 4294967295)) := B1.trans ((B2.trans ((hb.mono (Nat.le_refl _)).trans hq)).mono z1)
      generalize wr.setCell ⟨g, (k - 1) * 3 + 1, none⟩ (.int .u32 4294967295) = w5 at ow4 bx4 B5 ⊢
      clear gg4 hq e1 e2 ow bx hm
      have hk0 : ((k - 1 : Nat) : Int) ≤ 4294967295 := by omega
      have hlen : (mParts (k - 1)).length = k := ow4.len
      have hok : ∀ p ∈ mParts (k - 1), p.Ok := mParts_all (k - 1) (fun i hi => ⟨⟨by show (0 : Int) ≤ (i : Nat); omega, by show ((i : Nat) : Int) ≤ 4294967295; omega⟩, ⟨by show (0 : Int) ≤ (i : Nat); omega, by show ((i : Nat) : Int) ≤ 4294967295; omega⟩⟩) ⟨⟨by show (0 : Int) ≤ ((k - 1 : Nat) : Int); omega, hk0⟩, ⟨by show (0 : Int) ≤ 4294967295; omega, by show (4294967295 : Int) ≤ 4294967295; omega⟩⟩
      have hmt : meetF 0 (mParts (k - 1)) = true := meet_mParts (k - 1) (by omega)
      have hpr : ∀ W, Below w5.heap.size w5 W → PRd W w5.heap.size (some ⟨g, 0, none⟩) k c (mParts (k - 1)) := fun W hW => ⟨ow4.rd.step hW, mParts_all (k - 1) (fun i _ => RdS.nil _ _) (RdS.nil _ _), hok⟩
      have hrk : ∀ p ∈ mParts (k - 1), p.rk = [] := mParts_all (k - 1) (fun i _ => rfl) rfl
      have hsm : ∀ p ∈ mParts (k - 1), p.n ≤ 9223372036854775807 := mParts_all (k - 1) (fun i _ => by show 0 ≤ 9223372036854775807; omega) (by show 0 ≤ 9223372036854775807; omega)
      have hV : ∃ V, cmay 1 (mParts (k - 1)) 0 [] 0 = V ∧ ((V = 0 ∧ decide ((k : Int) ≤ 8193) = true) ∨ (V = 12 ∧ decide ((k : Int) ≤ 8193) = false)) := by
        refine ⟨_, rfl, ?_⟩
        unfold cmay cfree
        rw [if_pos rfl, if_neg (by simp), hlen]
        by_cases h : k ≤ 8193
        · left
          rw [if_neg (by omega), if_neg (by rw [hmt]; simp), ranks_none _ hrk]
          exact ⟨rfl, decide_eq_true (by omega)⟩
        · right
          rw [if_pos (by omega)]
          exact ⟨rfl, decide_eq_false (by omega)⟩
      obtain ⟨V, hV, hways⟩ := hV
      have Ha := Lib.hid (cmay_is 1 (some ⟨g, 0, none⟩) k c 0 none 0 0 0 w5 (by omega) (by omega) (mParts (k - 1)) [] w5.heap.size (Nat.le_refl _) (hpr w5 (Below.refl _ _)) (RdS.nil _ _) (by simp) hsm V hV)
      have Hb := Lib.hid (fun W (hW : Below w5.heap.size w5 W) => meet_is (some ⟨g, 0, none⟩) k c (mParts (k - 1)) W (by omega) w5.heap.size (hpr W hW).rd hok 0 (by unfold pmeet; rw [hmt]; rfl))
      have z5 := B5.size
      clear hpr hrk hsm hV hmt hok hlen ow4 HM2
      go_wp2_with ((with_reducible refine on_load (.tmp 5) ?_); refine wcv_box rfl (.tmp 5) rfl rfl bx4 ?_)
      refine Ha.out.mono ?_
      rintro e w6 ⟨rfl, hb6⟩
      have d1 : w6.cell? ⟨w1.heap.size, 1, none⟩ = some (.slice (some ⟨g, 0, none⟩) k c) := (bx4.step hb6).cell 1
      rcases hways with ⟨rfl, h1⟩ | ⟨rfl, h1⟩
      · go_wp2_with fail
        refine (Hb.out w6 hb6).mono ?_
        rintro e w7 ⟨rfl, hb7⟩
        go_wp2
        go_ret
        exact ⟨rfl, B5.trans ((hb6.trans (hb7.mono hb6.size)).mono z5)⟩
      · go_wp2_with fail
        refine (Hb.out w6 hb6).mono ?_
        rintro e w7 ⟨rfl, hb7⟩
        go_wp2
        go_ret
        exact ⟨rfl, B5.trans ((hb6.trans (hb7.mono hb6.size)).mono z5)⟩
end Go.Proofs.Yteellpcagdnikaa
