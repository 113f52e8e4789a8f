/-
  The walks of cert.May and what it calls.
-/
import Derived.Test.YteellpcagdnikaaCertMeet
import Derived.Test.YteellpcagdnikaaSetB
namespace Go.Proofs.Yteellpcagdnikaa
open Go.RowKit Go.Th
set_option linter.unusedVariables false
/-- The closure: is a number no node? -/
theorem outside_any (x nodes : Int) (g : Nat) (w : World) (hg : Box w g 3 #[.int .i64 nodes]) : Calls Try.prog 20 #[.int .i64 x, .pointer (some ⟨g, 0, none⟩)] w fun e w' => e = .returned (.bool (outs nodes x)) ∧ w = w' := by
  have c0 : w.cell? ⟨g, 0, none⟩ = some (.int .i64 nodes) := hg.cell 0
  have hw : (decide (x < 0) = true ∧ outs nodes x = true) ∨ (decide (x < 0) = false ∧ outs nodes x = decide (nodes ≤ x)) := by
    unfold outs
    cases h : decide (x < 0) <;> simp
  generalize outs nodes x = b at hw ⊢
  rcases hw with ⟨h1, rfl⟩ | ⟨h1, rfl⟩
  all_goals go_enter Try.func20, Try.ntmps20
  all_goals go_wp2
  all_goals go_ret
  all_goals exact ⟨rfl, rfl⟩
theorem indexFunc_any (A : Option Addr) (n c : Nat) (zs : List Int) (nodes : Int) (g : Nat) (w : World) (hm : n ≤ 9223372036854775807) (B : Nat) (hr : RdS iv w B A n c zs) (hg : Box w g 3 #[.int .i64 nodes]) (b : Bool) (hb : Hid (zs.any (outs nodes) = b)) :
    Calls Try.prog 33 #[.slice A n c, .func (.func 20) #[] #[.pointer (some ⟨g, 0, none⟩)]] w fun e w' => (∃ i : Int, e = .returned (.int .i64 i) ∧ (b = true ∧ 0 ≤ i ∨ b = false ∧ i = -1)) ∧ w = w' := by
  have Hlen := Lib.hid hr.len
  go_enter Try.func33, Try.ntmps33
  go_wp2
  go_loop [8] (fun i => ∃ k : Nat, k ≤ n ∧ i = .int .i64 k ∧ Hid ((zs.take k).any (outs nodes) = false)) (fun i => n - (intOf i).toNat)
  case atStart => exact ⟨0, by omega, rfl, Lib.hid rfl⟩
  case round =>
    obtain ⟨k, hk, rfl, hf⟩ := hrel
    by_cases hlt : k < n
    · obtain ⟨x, hx⟩ : ∃ x, zs[k]? = some x := ⟨zs[k]'(by have := Hlen.out; omega), List.getElem?_eq_getElem _⟩
      have hsn := any_snoc hx (outs nodes)
      have hmem := List.mem_of_getElem? hx
      have Hx := Lib.hid hx
      have Hmem := Lib.hid hmem
      rw [hf.out, Bool.false_or] at hsn
      have hc := outside_any x nodes g w hg
      obtain ⟨b1, hb1⟩ : ∃ b, outs nodes x = b := ⟨_, rfl⟩
      rw [hb1] at hsn hc
      have Hsn := Lib.hid hsn
      have Hc := Lib.hid hc
      have Hb := Lib.hid hb1
      clear hsn hc hx hmem hb1 hf
      cases b1 with
      | true =>
        go_wp2_with (first
          | (refine wl_at_i rfl _ (.tmp 12) _ rfl el_int rfl rfl (by omega) (by omega) hr ?_; intro p x' hx' hc1; obtain rfl : x' = x := Option.some.inj (hx'.out.symm.trans Hx.out))
          | (go_at_call 20; refine (Hc.out).mono ?_; rintro e w' ⟨rfl, rfl⟩))
        go_ret
        exact ⟨⟨k, rfl, .inl ⟨by rw [← hb.out]; exact List.any_eq_true.2 ⟨_, Hmem.out, Hb.out⟩, by omega⟩⟩, rfl⟩
      | false =>
        go_wp2_with (first
          | (refine wl_at_i rfl _ (.tmp 12) _ rfl el_int rfl rfl (by omega) (by omega) hr ?_; intro p x' hx' hc1; obtain rfl : x' = x := Option.some.inj (hx'.out.symm.trans Hx.out))
          | (go_at_call 20; refine (Hc.out).mono ?_; rintro e w' ⟨rfl, rfl⟩))
        go_round
        case rel => exact ⟨k + 1, by omega, by go_num, Hsn⟩
        case measure => simp [intOf] <;> omega
    · have hfin : zs.any (outs nodes) = false := by
        have := hf.out
        rwa [List.take_of_length_le (by have := Hlen.out; omega)] at this
      have Hfin := Lib.hid hfin
      clear hfin hf
      go_wp2
      go_ret
      exact ⟨⟨-1, rfl, .inr ⟨by rw [← hb.out]; exact Hfin.out, rfl⟩⟩, rfl⟩
theorem containsFunc_any (A : Option Addr) (n c : Nat) (zs : List Int) (nodes : Int) (g : Nat) (w : World) (hm : n ≤ 9223372036854775807) (B : Nat) (hr : RdS iv w B A n c zs) (hg : Box w g 3 #[.int .i64 nodes]) (b : Bool) (hb : Hid (zs.any (outs nodes) = b)) :
    Calls Try.prog 31 #[.slice A n c, .func (.func 20) #[] #[.pointer (some ⟨g, 0, none⟩)]] w fun e w' => e = .returned (.bool b) ∧ w = w' := by
  have hc := indexFunc_any A n c zs nodes g w hm B hr hg b hb
  have Hc := Lib.hid hc
  clear hc
  go_enter Try.func31, Try.ntmps31
  go_wp2_with fail
  refine Hc.out.mono ?_
  rintro e w' ⟨⟨i, rfl, hi⟩, rfl⟩
  rcases hi with ⟨rfl, hi⟩ | ⟨rfl, rfl⟩
  · go_wp2
    go_ret
    exact ⟨rfl, rfl⟩
  · go_wp2
    go_ret
    exact ⟨rfl, rfl⟩
/-- A certificate as a value. -/
def Cv (v : Int) (Ap : Option Addr) (np cp : Nat) (d : Int) (At : Option Addr) (nt ct : Nat) : Array Value := #[.int .i64 v, .slice Ap np cp, .int .u32 d, .slice At nt ct]
theorem zero_bool (w : World) : (zeroValue 4).run Try.prog w = .ok (.bool false) w := by kernel_rfl
def LoopsRel (tr : List Int) (first : Int) (n m : Nat) (wm : World) (i : Value) (wr : World) : Prop :=
  ∃ k : Nat, k ≤ n ∧ i = .int .i64 k ∧ Hid (trgo [] first tr = trgo (tr.take k) first (tr.drop k)) ∧ SetB wr Try.prog 3 4 m k (tr.take k) ∧ Below m wm wr
theorem tr_no {tr : List Int} {first : Int} {k : Nat} {x : Int} (h : tr[k]? = some x) (h1 : x ∈ tr.take k ∨ x < first) : trgo (tr.take k) first (tr.drop k) = 17 := by
  rw [drop_cons h]; simp only [trgo]; rw [if_pos h1]
theorem tr_on {tr : List Int} {first : Int} {k : Nat} {x : Int} (h : tr[k]? = some x) (h1 : ¬ (x ∈ tr.take k ∨ x < first)) : trgo (tr.take k) first (tr.drop k) = trgo (tr.take (k + 1)) first (tr.drop (k + 1)) := by
  rw [drop_cons h]; simp only [trgo]; rw [if_neg h1, List.take_add_one, h]; rfl
set_option maxRecDepth 100000 in
set_option maxHeartbeats 4000000 in
theorem loops_any (v : Int) (Ap : Option Addr) (np cp : Nat) (d : Int) (At : Option Addr) (nt ct : Nat) (nodes : Int) (g : Nat) (w : World) (hnp : np ≤ 9223372036854775807) (hnt : nt ≤ 1000000) (ps : List Pt) (tr : List Int) (hps : ps.length = np) (B : Nat) (hB : B ≤ w.heap.size) (hr : RdS iv w B At nt ct tr) (hbd : ∀ x ∈ tr, -9223372036854775808 ≤ x ∧ x ≤ 9223372036854775807) (hg : Box w g 3 #[.int .i64 nodes]) :
    Calls Try.prog 22 #[.agg #[.int .i64 v, .slice Ap np cp, .int .u32 d, .slice At nt ct], .int .i64 nodes, .func (.func 20) #[] #[.pointer (some ⟨g, 0, none⟩)]] w (RetB (.int .i64 (cloops ps tr nodes)) w) := by
  obtain ⟨V, hV⟩ : ∃ V, cloops ps tr nodes = V := ⟨_, rfl⟩
  have hlen := hr.len
  have hways : (0 < np ∧ V = 3) ∨ (np = 0 ∧ nt = 0 ∧ V = 12) ∨ (np = 0 ∧ 0 < nt ∧ nodes < nt ∧ V = 12) ∨ (np = 0 ∧ 0 < nt ∧ (nt : Int) ≤ nodes ∧ tr.any (outs nodes) = true ∧ V = 10) ∨ (np = 0 ∧ 0 < nt ∧ (nt : Int) ≤ nodes ∧ tr.any (outs nodes) = false ∧ V = trgo [] (trfirst tr) tr) := by
    rw [← hV]
    unfold cloops
    by_cases h1 : np = 0
    · rw [if_neg (by omega)]
      by_cases h2 : nt = 0
      · rw [if_pos (.inl (by omega))]; exact .inr (.inl ⟨h1, h2, rfl⟩)
      · by_cases h3 : nodes < nt
        · rw [if_pos (.inr (by omega))]; exact .inr (.inr (.inl ⟨h1, by omega, h3, rfl⟩))
        · rw [if_neg (by omega)]
          cases h4 : tr.any (outs nodes) with
          | true => rw [if_pos rfl]; exact .inr (.inr (.inr (.inl ⟨h1, by omega, by omega, rfl, rfl⟩)))
          | false => rw [if_neg (by simp)]; exact .inr (.inr (.inr (.inr ⟨h1, by omega, by omega, rfl, rfl⟩)))
    · rw [if_pos (by omega)]; exact .inl ⟨by omega, rfl⟩
  have Hlen := Lib.hid hlen
  have Hbd := Lib.hid hbd
  have bx := Box.new w (Cv v Ap np cp d At nt ct) 29
  obtain ⟨c0, c1, c2, c3⟩ : (w.alloc (.cells (Cv v Ap np cp d At nt ct) 29)).cell? ⟨w.heap.size, 0, none⟩ = some (.int .i64 v) ∧ (w.alloc (.cells (Cv v Ap np cp d At nt ct) 29)).cell? ⟨w.heap.size, 1, none⟩ = some (.slice Ap np cp) ∧ (w.alloc (.cells (Cv v Ap np cp d At nt ct) 29)).cell? ⟨w.heap.size, 2, none⟩ = some (.int .u32 d) ∧ (w.alloc (.cells (Cv v Ap np cp d At nt ct) 29)).cell? ⟨w.heap.size, 3, none⟩ = some (.slice At nt ct) := ⟨bx.cell 0, bx.cell 1, bx.cell 2, bx.cell 3⟩
  have k1 := below_alloc w (Nat.le_refl _) (.cells (Cv v Ap np cp d At nt ct) 29)
  have hr1 := hr.step k1
  have hg1 := hg.step k1
  have hmm := @run_makeMap Try.prog
  rw [hV]
  clear hlen hbd hV hr hg hps
  rcases hways with ⟨h1, rfl⟩ | ⟨rfl, rfl, rfl⟩ | ⟨rfl, h1, h2, rfl⟩ | ⟨rfl, h1, h2, h3, rfl⟩ | ⟨rfl, h1, h2, h3, h4⟩
  · go_enter Try.func22, Try.ntmps22
    go_wp2
    go_ret
    exact ⟨rfl, k1⟩
  · go_enter Try.func22, Try.ntmps22
    go_wp2
    go_ret
    exact ⟨rfl, k1⟩
  · have n1 : ((nt : Int) == 0) = false := by simp; omega
    go_enter Try.func22, Try.ntmps22
    go_wp2
    go_ret
    exact ⟨rfl, k1⟩
  · have n1 : ((nt : Int) == 0) = false := by simp; omega
    have n2 : decide (nodes < (nt : Int)) = false := decide_eq_false (by omega)
    have H3 := Lib.hid h3
    clear h3
    go_enter Try.func22, Try.ntmps22
    go_wp2_with (go_at_call 31; refine (containsFunc_any _ _ _ tr nodes g _ (by omega) _ hr1 hg1 true H3).mono ?_; rintro e w1 ⟨rfl, rfl⟩)
    go_ret
    exact ⟨rfl, k1⟩
  · have n1 : ((nt : Int) == 0) = false := by simp; omega
    have n2 : decide (nodes < (nt : Int)) = false := decide_eq_false (by omega)
    have H3 := Lib.hid h3
    obtain ⟨x0, hx0⟩ : ∃ x, tr[0]? = some x := ⟨tr[0]'(by have := Hlen.out; omega), List.getElem?_eq_getElem _⟩
    have hfi : trfirst tr = x0 := by
      cases tr with
      | nil => simp at hx0
      | cons y ys => simp at hx0; exact hx0
    rw [hfi] at h4
    have Hx0 := Lib.hid hx0
    have H4 := Lib.hid h4
    have m3 : ((w.alloc (.cells (Cv v Ap 0 cp d At nt ct) 29)).alloc (.map #[] 0)).cell? ⟨w.heap.size, 3, none⟩ = some (.slice At nt ct) := (bx.alloc (.map #[] 0)).cell 3
    have bxm := bx.alloc (.map #[] 0)
    have hrm := hr1.alloc (.map #[] 0)
    clear h3 hfi hx0 h4
    go_enter Try.func22, Try.ntmps22
    go_wp2_with (go_at_call 31; refine (containsFunc_any _ _ _ tr nodes g _ (by omega) _ hr1 hg1 false H3).mono ?_; rintro e w1 ⟨rfl, rfl⟩)
    have hs0 := SetB.made (w.alloc (.cells (Cv v Ap 0 cp d At nt ct) 29)) Try.prog 3 4
    rw [heap_size_alloc] at hs0
    go_loopw [33] (fun i wr => LoopsRel tr x0 nt (w.heap.size + 1) ((w.alloc (.cells (Cv v Ap 0 cp d At nt ct) 29)).alloc (.map #[] 0)) i wr) (fun i _ => nt - (intOf i).toNat)
    case atStart => exact ⟨0, by omega, rfl, Lib.hid rfl, hs0, Below.refl _ _⟩
    case round =>
      obtain ⟨k, hk, rfl, hf, hsb, hb⟩ := hrel
      have bxr := bxm.below hb (by omega)
      have hrk := hrm.below (hb.mono (by omega))
      have c3 : wr.cell? ⟨w.heap.size, 3, none⟩ = some (.slice At nt ct) := bxr.cell 3
      by_cases hlt : k < nt
      · obtain ⟨x, hx⟩ : ∃ x, tr[k]? = some x := ⟨tr[k]'(by have := Hlen.out; omega), List.getElem?_eq_getElem _⟩
        have hxb := Lib.hid (Hbd.out x (List.mem_of_getElem? hx))
        have Hx := Lib.hid hx
        have hways : (decide (x ∈ tr.take k) = true ∧ V = 17) ∨ (decide (x ∈ tr.take k) = false ∧ x < x0 ∧ V = 17) ∨ (decide (x ∈ tr.take k) = false ∧ x0 ≤ x ∧ trgo [] x0 tr = trgo (tr.take (k + 1)) x0 (tr.drop (k + 1))) := by
          rw [H4.out, hf.out]
          by_cases g1 : x ∈ tr.take k
          · exact .inl ⟨decide_eq_true g1, tr_no hx (.inl g1)⟩
          · by_cases g2 : x < x0
            · exact .inr (.inl ⟨decide_eq_false g1, g2, tr_no hx (.inr g2)⟩)
            · exact .inr (.inr ⟨decide_eq_false g1, by omega, tr_on hx (fun h => h.elim g1 g2)⟩)
        have hst : tr.take (k + 1) = tr.take k ++ [x] := by rw [List.take_add_one, hx]; rfl
        have Hst := Lib.hid hst
        clear hx hf hst
        obtain ⟨b, hb0⟩ : ∃ b, decide (x ∈ tr.take k) = b := ⟨_, rfl⟩
        have Hb0 := Lib.hid hb0
        rw [hb0] at hways
        clear hb0
        rcases hways with ⟨rfl, g1⟩ | ⟨rfl, g1, g2⟩ | ⟨rfl, g1, g2⟩
        · have H1 := Lib.hid g1
          clear g1
          go_wp2_with (first
            | ((with_reducible refine on_index (.tmp 31) ?_); refine wl_at_i rfl _ (.tmp 31) _ rfl el_int rfl rfl (by omega) (by omega) hrk ?_; intro p x' hx' hc1; obtain rfl : x' = x := Option.some.inj (hx'.out.symm.trans Hx.out))
            | ((with_reducible refine on_lookup (.tmp 37) (.tmp 38) ?_); refine wl_lookB rfl _ _ _ rfl Try.underlying3 Try.underlying57 Try.underlying4 zero_bool rfl hsb rfl hxb.out ?_; rw [Hb0.out]))
          go_ret
          exact ⟨by rw [H1.out]; try rfl, k1.trans (((below_alloc _ (by simp) (.map #[] 0)).trans (hb.mono (by omega))))⟩
        · have H2 := Lib.hid g2
          clear g2
          go_wp2_with (first
            | ((with_reducible refine on_index (.tmp 31) ?_); refine wl_at_i rfl _ (.tmp 31) _ rfl el_int rfl rfl (by omega) (by omega) hrk ?_; intro p x' hx' hc1; obtain rfl : x' = x := Option.some.inj (hx'.out.symm.trans Hx.out))
            | ((with_reducible refine on_index (.tmp 43) ?_); refine wl_at_i rfl _ (.tmp 43) _ rfl el_int rfl rfl (by omega) (by omega) hrk ?_; intro p2 x2 hx2 hc2; obtain rfl : x2 = x0 := Option.some.inj (hx2.out.symm.trans Hx0.out))
            | ((with_reducible refine on_lookup (.tmp 37) (.tmp 38) ?_); refine wl_lookB rfl _ _ _ rfl Try.underlying3 Try.underlying57 Try.underlying4 zero_bool rfl hsb rfl hxb.out ?_; rw [Hb0.out]))
          go_ret
          exact ⟨by rw [H2.out]; try rfl, k1.trans (((below_alloc _ (by simp) (.map #[] 0)).trans (hb.mono (by omega))))⟩
        · have H2 := Lib.hid g2
          clear g2
          have hdl : decide (x < x0) = false := decide_eq_false (by omega)
          go_wp2_with (first
            | ((with_reducible refine on_index (.tmp 31) ?_); refine wl_at_i rfl _ (.tmp 31) _ rfl el_int rfl rfl (by omega) (by omega) hrk ?_; intro p x' hx' hc1; obtain rfl : x' = x := Option.some.inj (hx'.out.symm.trans Hx.out))
            | ((with_reducible refine on_index (.tmp 43) ?_); refine wl_at_i rfl _ (.tmp 43) _ rfl el_int rfl rfl (by omega) (by omega) hrk ?_; intro p2 x2 hx2 hc2; obtain rfl : x2 = x0 := Option.some.inj (hx2.out.symm.trans Hx0.out))
            | ((with_reducible refine on_lookup (.tmp 37) (.tmp 38) ?_); refine wl_lookB rfl _ _ _ rfl Try.underlying3 Try.underlying57 Try.underlying4 zero_bool rfl hsb rfl hxb.out ?_; rw [Hb0.out])
            | ((with_reducible refine on_mapUpdate (.tmp 48) (.tmp 49) _ ?_); refine wl_storeB rfl _ _ _ _ rfl Try.underlying3 Try.underlying57 Try.underlying4 rfl hsb (by simp only [maxLen]; omega) rfl hxb.out rfl ?_; intro w5 hs5 hg5; rw [← Hst.out] at hs5))
          go_roundw
          case rel => exact ⟨k + 1, by omega, by go_num, H2, hs5, hb.trans (below_of_grown hg5 (fun j e => by injection e with e; omega) (by have := hb.size; simp at this; omega))⟩
          case measure => simp [intOf] <;> omega
      · have hkn : k = nt := by omega
        subst hkn
        have hfin : V = 0 := by
          rw [H4.out, hf.out, List.drop_eq_nil_of_le (by have := Hlen.out; omega)]; rfl
        have Hfin := Lib.hid hfin
        clear hfin hf
        go_wp2
        go_ret
        exact ⟨by rw [Hfin.out]; try rfl, k1.trans (((below_alloc _ (by simp) (.map #[] 0)).trans (hb.mono (by omega))))⟩
def FreeRel (ps : List Pt) (nodes : Int) (n : Nat) (w : World) (i : Value) (wr : World) : Prop :=
  ∃ k : Nat, k ≤ n ∧ i = .int .i64 k ∧ Hid (ranks nodes ps = ranks nodes (ps.drop k)) ∧ Below w.heap.size w wr
set_option maxRecDepth 100000 in
set_option maxHeartbeats 4000000 in
theorem free_any (v : Int) (Ap : Option Addr) (np cp : Nat) (d : Int) (At : Option Addr) (nt ct : Nat) (nodes : Int) (g : Nat) (w : World) (hnp : np ≤ 9223372036854775807) (hnt : nt ≤ 9223372036854775807) (ps : List Pt) (tr : List Int) (B : Nat) (hp : PRd w B Ap np cp ps) (htl : tr.length = nt) (hsm : ∀ p ∈ ps, p.n ≤ 9223372036854775807) (hg : Box w g 3 #[.int .i64 nodes]) :
    Calls Try.prog 21 #[.agg #[.int .i64 v, .slice Ap np cp, .int .u32 d, .slice At nt ct], .int .i64 nodes, .func (.func 20) #[] #[.pointer (some ⟨g, 0, none⟩)]] w (RetB (.int .i64 (cfree ps d tr nodes)) w) := by
  obtain ⟨V, hV⟩ : ∃ V, cfree ps d tr nodes = V := ⟨_, rfl⟩
  have hlen := hp.rd.len
  have hways : ((d != 0) = true ∧ V = 3) ∨ ((d != 0) = false ∧ 0 < nt ∧ V = 3) ∨ ((d != 0) = false ∧ nt = 0 ∧ 8193 < np ∧ V = 12) ∨ ((d != 0) = false ∧ nt = 0 ∧ np ≤ 8193 ∧ pmeet ps = 15 ∧ V = 15) ∨ ((d != 0) = false ∧ nt = 0 ∧ np ≤ 8193 ∧ pmeet ps = 0 ∧ V = ranks nodes ps) := by
    rw [← hV]
    unfold cfree pmeet
    by_cases h1 : d = 0
    · by_cases h2 : nt = 0
      · rw [if_neg (by omega)]
        by_cases h3 : 8193 < np
        · rw [if_pos (by omega)]; exact .inr (.inr (.inl ⟨by simp [h1], h2, h3, rfl⟩))
        · rw [if_neg (by omega)]
          cases h4 : meetF 0 ps with
          | false => exact .inr (.inr (.inr (.inl ⟨by simp [h1], h2, by omega, rfl, rfl⟩)))
          | true => exact .inr (.inr (.inr (.inr ⟨by simp [h1], h2, by omega, rfl, rfl⟩)))
      · rw [if_pos (by omega)]; exact .inr (.inl ⟨by simp [h1], by omega, rfl⟩)
    · rw [if_pos (by omega)]; exact .inl ⟨by simp [h1], rfl⟩
  have Hlen := Lib.hid hlen
  have Hsm := Lib.hid hsm
  have bx := Box.new w (Cv v Ap np cp d At nt ct) 29
  obtain ⟨c0, c1, c2, c3⟩ : (w.alloc (.cells (Cv v Ap np cp d At nt ct) 29)).cell? ⟨w.heap.size, 0, none⟩ = some (.int .i64 v) ∧ (w.alloc (.cells (Cv v Ap np cp d At nt ct) 29)).cell? ⟨w.heap.size, 1, none⟩ = some (.slice Ap np cp) ∧ (w.alloc (.cells (Cv v Ap np cp d At nt ct) 29)).cell? ⟨w.heap.size, 2, none⟩ = some (.int .u32 d) ∧ (w.alloc (.cells (Cv v Ap np cp d At nt ct) 29)).cell? ⟨w.heap.size, 3, none⟩ = some (.slice At nt ct) := ⟨bx.cell 0, bx.cell 1, bx.cell 2, bx.cell 3⟩
  have k1 := below_alloc w (Nat.le_refl _) (.cells (Cv v Ap np cp d At nt ct) 29)
  have hp1 := hp.step k1
  have hg1 := hg.step k1
  rw [hV]
  clear hlen hsm hV hp hg htl
  rcases hways with ⟨h1, rfl⟩ | ⟨h1, h2, rfl⟩ | ⟨h1, rfl, h2, rfl⟩ | ⟨h1, rfl, h2, h3, rfl⟩ | ⟨h1, rfl, h2, h3, h4⟩
  · go_enter Try.func21, Try.ntmps21
    go_wp2
    go_ret
    exact ⟨rfl, k1⟩
  · go_enter Try.func21, Try.ntmps21
    go_wp2
    go_ret
    exact ⟨rfl, k1⟩
  · go_enter Try.func21, Try.ntmps21
    go_wp2
    go_ret
    exact ⟨rfl, k1⟩
  · have hc := meet_any Ap np cp ps _ hnp _ hp1.rd hp1.ok
    rw [h3] at hc
    have Hc := Lib.hid hc
    have n1 : decide ((np : Int) > 8193) = false := decide_eq_false (by omega)
    clear hc h3
    go_enter Try.func21, Try.ntmps21
    go_wp2_with (go_at_call 12; refine (Hc.out).mono ?_; rintro e w2 ⟨rfl, hb2⟩)
    go_ret
    exact ⟨rfl, k1.trans (hb2.mono k1.size)⟩
  · have hc := meet_any Ap np cp ps _ hnp _ hp1.rd hp1.ok
    rw [h3] at hc
    have Hc := Lib.hid hc
    have H4 := Lib.hid h4
    clear hc h3 h4
    go_enter Try.func21, Try.ntmps21
    go_wp2_with (go_at_call 12; refine (Hc.out).mono ?_; rintro e w2 ⟨rfl, hb2⟩; have e1 : w2.cell? ⟨w.heap.size, 1, none⟩ = some (.slice Ap np cp) := (bx.step hb2).cell 1; have hp2 := hp1.step hb2; have hg2 := hg1.step hb2; have B2 := k1.trans (hb2.mono k1.size))
    go_loopw [6, 9, 32] (fun _ _ i wr => FreeRel ps nodes np w2 i wr) (fun _ _ i _ => np - (intOf i).toNat)
    case atStart => exact ⟨0, by omega, rfl, Lib.hid rfl, Below.refl _ _⟩
    case round =>
      obtain ⟨k, hk, rfl, hf, hb⟩ := hrel
      have hbs := hb.size
      have hrk := hp2.step hb
      have hgk := hg2.step hb
      by_cases hlt : k < np
      · obtain ⟨p, hp⟩ : ∃ p, ps[k]? = some p := ⟨ps[k]'(by have := Hlen.out; omega), List.getElem?_eq_getElem _⟩
        have hpn := Hsm.out p (List.mem_of_getElem? hp)
        have hrl : p.rk.length = p.n := (hrk.rk p (List.mem_of_getElem? hp)).len
        have hways : (((p.n : Int) != nodes) = true ∧ V = 1) ∨ (((p.n : Int) != nodes) = false ∧ p.rk.any (outs nodes) = true ∧ V = 16) ∨ (((p.n : Int) != nodes) = false ∧ p.rk.any (outs nodes) = false ∧ ranks nodes ps = ranks nodes (ps.drop (k + 1))) := by
          rw [H4.out, hf.out]
          by_cases g1 : (p.n : Int) = nodes
          · cases g2 : p.rk.any (outs nodes) with
            | true => exact .inr (.inl ⟨by simp [g1], rfl, ranks_out hp (by omega) g2⟩)
            | false => exact .inr (.inr ⟨by simp [g1], rfl, ranks_on hp (by omega) g2⟩)
          · exact .inl ⟨by simp [g1], ranks_size hp (by omega)⟩
        have Hp := Lib.hid hp
        clear hp hf hrl
        rcases hways with ⟨g1, g2⟩ | ⟨g1, g2, g3⟩ | ⟨g1, g2, g3⟩
        · have H2 := Lib.hid g2
          have Hany : Hid (p.rk.any (outs nodes) = p.rk.any (outs nodes)) := Lib.hid rfl
          clear g2
          go_wp2_with (first
            | ((with_reducible refine on_index (.tmp 30) ?_); refine wm_at Pt.cs_length rfl _ (.tmp 30) _ rfl el_part rfl rfl (by omega) (by omega) hrk.rd ?_; intro b1 j1 r1 hr1 hb1 hc1; have hxx : p = r1 := get_eq Hp.out hr1.out (by omega); subst hxx)
            | ((with_reducible refine on_load (.tmp 34) ?_); refine wpt_load rfl _ (.tmp 34) rfl st_part rfl hc1 ?_)
            | ((with_reducible refine on_store_at (.tmp 9) ?_); refine wpt_store (r := Pt.zero) (s := p) rfl _ (.tmp 9) _ rfl st_part rfl rfl (Box.new wr _ _) ?_; intro w3 bx3 hg3; have k3 : Below wr.heap.size wr w3 := (below_alloc wr (Nat.le_refl _) (.cells Pt.zero.cs.toArray 26)).trans (below_of_grown hg3 (fun j e => by injection e with e; omega) (by simp)); have hb3 := hb.trans (k3.mono hbs); have hr3 := (hrk.step k3).rk _ (List.mem_of_getElem? Hp.out); have hg3' := hgk.step k3; obtain ⟨d0, d1, d2⟩ := bx3.part)
            | (go_at_call 31; refine (containsFunc_any _ _ _ p.rk nodes g _ (by omega) _ hr3 hg3' _ Hany).mono ?_; rintro e w4 ⟨rfl, rfl⟩))
          go_ret
          exact ⟨by rw [H2.out]; try rfl, B2.trans (hb3.mono B2.size)⟩
        · have H2 := Lib.hid g3
          have Hany := Lib.hid g2
          clear g2 g3
          go_wp2_with (first
            | ((with_reducible refine on_index (.tmp 30) ?_); refine wm_at Pt.cs_length rfl _ (.tmp 30) _ rfl el_part rfl rfl (by omega) (by omega) hrk.rd ?_; intro b1 j1 r1 hr1 hb1 hc1; have hxx : p = r1 := get_eq Hp.out hr1.out (by omega); subst hxx)
            | ((with_reducible refine on_load (.tmp 34) ?_); refine wpt_load rfl _ (.tmp 34) rfl st_part rfl hc1 ?_)
            | ((with_reducible refine on_store_at (.tmp 9) ?_); refine wpt_store (r := Pt.zero) (s := p) rfl _ (.tmp 9) _ rfl st_part rfl rfl (Box.new wr _ _) ?_; intro w3 bx3 hg3; have k3 : Below wr.heap.size wr w3 := (below_alloc wr (Nat.le_refl _) (.cells Pt.zero.cs.toArray 26)).trans (below_of_grown hg3 (fun j e => by injection e with e; omega) (by simp)); have hb3 := hb.trans (k3.mono hbs); have hr3 := (hrk.step k3).rk _ (List.mem_of_getElem? Hp.out); have hg3' := hgk.step k3; obtain ⟨d0, d1, d2⟩ := bx3.part)
            | (go_at_call 31; refine (containsFunc_any _ _ _ p.rk nodes g _ (by omega) _ hr3 hg3' _ Hany).mono ?_; rintro e w4 ⟨rfl, rfl⟩))
          go_ret
          exact ⟨by rw [H2.out]; try rfl, B2.trans (hb3.mono B2.size)⟩
        · have H2 := Lib.hid g3
          have Hany := Lib.hid g2
          clear g2 g3
          go_wp2_with (first
            | ((with_reducible refine on_index (.tmp 30) ?_); refine wm_at Pt.cs_length rfl _ (.tmp 30) _ rfl el_part rfl rfl (by omega) (by omega) hrk.rd ?_; intro b1 j1 r1 hr1 hb1 hc1; have hxx : p = r1 := get_eq Hp.out hr1.out (by omega); subst hxx)
            | ((with_reducible refine on_load (.tmp 34) ?_); refine wpt_load rfl _ (.tmp 34) rfl st_part rfl hc1 ?_)
            | ((with_reducible refine on_store_at (.tmp 9) ?_); refine wpt_store (r := Pt.zero) (s := p) rfl _ (.tmp 9) _ rfl st_part rfl rfl (Box.new wr _ _) ?_; intro w3 bx3 hg3; have k3 : Below wr.heap.size wr w3 := (below_alloc wr (Nat.le_refl _) (.cells Pt.zero.cs.toArray 26)).trans (below_of_grown hg3 (fun j e => by injection e with e; omega) (by simp)); have hb3 := hb.trans (k3.mono hbs); have hr3 := (hrk.step k3).rk _ (List.mem_of_getElem? Hp.out); have hg3' := hgk.step k3; obtain ⟨d0, d1, d2⟩ := bx3.part)
            | (go_at_call 31; refine (containsFunc_any _ _ _ p.rk nodes g _ (by omega) _ hr3 hg3' _ Hany).mono ?_; rintro e w4 ⟨rfl, rfl⟩))
          go_roundw
          case rel => exact ⟨k + 1, by omega, by go_num, H2, hb3⟩
          case measure => simp [intOf] <;> omega
      · have hkn : k = np := by omega
        subst hkn
        have hfin : V = 0 := by
          rw [H4.out, hf.out, List.drop_eq_nil_of_le (by have := Hlen.out; omega)]; rfl
        have Hfin := Lib.hid hfin
        clear hfin hf
        go_wp2
        go_ret
        exact ⟨by rw [Hfin.out]; try rfl, B2.trans (hb.mono B2.size)⟩
theorem st_cert : St Try.prog 29 4 := ⟨⟨_, Try.underlying29⟩, by kernel_rfl⟩
section
variable {ops : Array Oper} {rest : List Oper} {o : Oper} {a : Act} {Q : Exit → Act → World → Prop} {w : World}
theorem wcv_box (hw : Region.wanted o (yielded ops a.tmps) = true) (x : Operand) (ho : o.op = .load 29 x) {g : Nat} {t : TypeId} {v : Int} {Ap : Option Addr} {np cp : Nat} {d : Int} {At : Option Addr} {nt ct : Nat} (hx : a.eval x = .pointer (some ⟨g, 0, none⟩)) (hb : Box w g t (Cv v Ap np cp d At nt ct))
    (h : wpList Try.prog ops Q rest (a.put o.dst (.agg #[.int .i64 v, .slice Ap np cp, .int .u32 d, .slice At nt ct])) w) : wpList Try.prog ops Q (o :: rest) a w :=
  wb_load hw _ x ho st_cert hx hb rfl h
end
set_option maxRecDepth 100000 in
set_option maxHeartbeats 4000000 in
theorem cmay_any (v : Int) (Ap : Option Addr) (np cp : Nat) (d : Int) (At : Option Addr) (nt ct : Nat) (nodes : Int) (w : World) (hnp : np ≤ 9223372036854775807) (hnt : nt ≤ 1000000) (ps : List Pt) (tr : List Int) (B : Nat) (hB : B ≤ w.heap.size) (hp : PRd w B Ap np cp ps) (ht : RdS iv w B At nt ct tr) (hbd : ∀ x ∈ tr, -9223372036854775808 ≤ x ∧ x ≤ 9223372036854775807) (hsm : ∀ p ∈ ps, p.n ≤ 9223372036854775807) :
    Calls Try.prog 11 #[.agg #[.int .i64 v, .slice Ap np cp, .int .u32 d, .slice At nt ct], .int .i64 nodes] w (RetB (.int .i64 (cmay v ps d tr nodes)) w) := by
  obtain ⟨V, hV⟩ : ∃ V, cmay v ps d tr nodes = V := ⟨_, rfl⟩
  have bx := (Box.new w (Cv v Ap np cp d At nt ct) 29).alloc (.cells #[.int .i64 nodes] 3)
  have bn := Box.new (w.alloc (.cells (Cv v Ap np cp d At nt ct) 29)) #[.int .i64 nodes] 3
  rw [heap_size_alloc] at bn
  have k1 := (below_alloc w (Nat.le_refl _) (.cells (Cv v Ap np cp d At nt ct) 29)).alloc (by simp) (.cells #[.int .i64 nodes] 3)
  have hways : ((v == 1) = true ∧ V = cfree ps d tr nodes) ∨ ((v == 1) = false ∧ (v == 2) = true ∧ V = cloops ps tr nodes) ∨ ((v == 1) = false ∧ (v == 2) = false ∧ V = 9) := by
    rw [← hV]
    unfold cmay
    by_cases h1 : v = 1
    · exact .inl ⟨by simp [h1], if_pos h1⟩
    · by_cases h2 : v = 2
      · exact .inr (.inl ⟨by simp [h1], by simp [h2], by rw [if_neg h1, if_pos h2]⟩)
      · exact .inr (.inr ⟨by simp [h1], by simp [h2], by rw [if_neg h1, if_neg h2]⟩)
  have hf := free_any v Ap np cp d At nt ct nodes (w.heap.size + 1) _ hnp (by omega) ps tr B (hp.step k1) ht.len hsm bn
  have hl := loops_any v Ap np cp d At nt ct nodes (w.heap.size + 1) _ hnp hnt ps tr hp.rd.len B (by simp; omega) (ht.step k1) hbd bn
  rw [hV]
  clear hp ht hbd hsm hV
  generalize cfree ps d tr nodes = a1 at hf hways
  generalize cloops ps tr nodes = a2 at hl hways
  have Hf := Lib.hid hf
  have Hl := Lib.hid hl
  clear hf hl
  rcases hways with ⟨h1, rfl⟩ | ⟨h1, h2, rfl⟩ | ⟨h1, h2, rfl⟩
  · go_enter Try.func11, Try.ntmps11
    go_wp2_with (first
      | ((with_reducible refine on_load (.tmp 2) ?_); refine wcv_box rfl (.tmp 2) rfl rfl bx ?_)
      | (go_at_call 21; refine (Hf.out).mono ?_; rintro e w2 ⟨rfl, hb2⟩))
    go_ret
    exact ⟨rfl, k1.trans (hb2.mono k1.size)⟩
  · go_enter Try.func11, Try.ntmps11
    go_wp2_with (first
      | ((with_reducible refine on_load (.tmp 2) ?_); refine wcv_box rfl (.tmp 2) rfl rfl bx ?_)
      | (go_at_call 22; refine (Hl.out).mono ?_; rintro e w2 ⟨rfl, hb2⟩))
    go_ret
    exact ⟨rfl, k1.trans (hb2.mono k1.size)⟩
  · go_enter Try.func11, Try.ntmps11
    go_wp2
    go_ret
    exact ⟨rfl, k1⟩
theorem cmay_is (v : Int) (Ap : Option Addr) (np cp : Nat) (d : Int) (At : Option Addr) (nt ct : Nat) (nodes : Int) (w : World) (hnp : np ≤ 9223372036854775807) (hnt : nt ≤ 1000000) (ps : List Pt) (tr : List Int) (B : Nat) (hB : B ≤ w.heap.size) (hp : PRd w B Ap np cp ps) (ht : RdS iv w B At nt ct tr) (hbd : ∀ x ∈ tr, -9223372036854775808 ≤ x ∧ x ≤ 9223372036854775807) (hsm : ∀ p ∈ ps, p.n ≤ 9223372036854775807) (V : Int) (hV : cmay v ps d tr nodes = V) :
    Calls Try.prog 11 #[.agg #[.int .i64 v, .slice Ap np cp, .int .u32 d, .slice At nt ct], .int .i64 nodes] w fun e w' => e = .returned (.int .i64 V) ∧ Below w.heap.size w w' := by
  have := cmay_any v Ap np cp d At nt ct nodes w hnp hnt ps tr B hB hp ht hbd hsm
  rw [hV] at this
  exact this
theorem meet_is (A : Option Addr) (n c : Nat) (ps : List Pt) (w : World) (hm : n ≤ 9223372036854775807) (B : Nat) (hr : RdM Pt.cs w B A n c ps) (hok : ∀ p ∈ ps, p.Ok) (V : Int) (hV : pmeet ps = V) :
    Calls Try.prog 12 #[.slice A n c] w fun e w' => e = .returned (.int .i64 V) ∧ Below w.heap.size w w' := by
  have := meet_any A n c ps w hm B hr hok
  rw [hV] at this
  exact this
theorem pt_mem2 {p q : Pt} {R : Pt → Prop} (h1 : R p) (h2 : R q) : ∀ x ∈ [p, q], R x := by
  intro x hx
  simp only [List.mem_cons, List.not_mem_nil, or_false] at hx
  rcases hx with rfl | rfl
  · exact h1
  · exact h2
set_option maxRecDepth 100000 in
theorem shown17 (w : World) : Calls Try.prog 10 #[] w fun e w' => e = .returned (.bool true) ∧ Below w.heap.size w w' := by
  have ex : ∃ p q : Pt, p = ⟨0, 2147483648, none, 0, 0, []⟩ ∧ q = ⟨2147483649, 4294967295, none, 0, 0, []⟩ := ⟨_, _, rfl, rfl⟩
  obtain ⟨p, q, hp, hq⟩ := ex
  have ow : OwM Pt.cs 3 (w.alloc (.cells #[.int .u32 0, .int .u32 2147483648, .slice none 0 0, .int .u32 2147483649, .int .u32 4294967295, .slice none 0 0] 26)) w.heap.size 26 (some ⟨w.heap.size, 0, none⟩) 2 2 [p, q] := by
    subst hp hq
    exact OwM.lit Pt.cs_length w _ 2 (Nat.le_refl _) (by simp [maxLen]) rfl rfl
  have hm : pmeet [p, q] = 0 := by subst hp hq; decide +kernel
  have hok : ∀ x ∈ [p, q], x.Ok := by subst hp hq; exact pt_mem2 ⟨by decide, by decide⟩ ⟨by decide, by decide⟩
  have K1 := Lib.hid (meet_is _ 2 2 [p, q] _ (by omega) _ ow.rd hok 0 hm)
  have K2 := Lib.hid (fun W => cmay_is 0 none 0 0 0 none 0 0 1 W (by omega) (by omega) [] [] W.heap.size (Nat.le_refl _) ⟨RdM.nil _ _, by simp, by simp⟩ (RdS.nil _ _) (by simp) (by simp) 9 rfl)
  clear hm hok ow hp hq
  go_enter Try.func10, Try.ntmps10
  go_wp2_with fail
  refine K1.out.mono ?_
  rintro e w1 ⟨rfl, hb1⟩
  go_wp2_with fail
  refine (K2.out w1).mono ?_
  rintro e w2 ⟨rfl, hb2⟩
  go_wp2
  go_ret
  have B1 : Below w.heap.size w w1 := (below_alloc w (Nat.le_refl _) _).trans (hb1.mono (by simp))
  exact ⟨rfl, B1.trans (hb2.mono B1.size)⟩
end Go.Proofs.Yteellpcagdnikaa
