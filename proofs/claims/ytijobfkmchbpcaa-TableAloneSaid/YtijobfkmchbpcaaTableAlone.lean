/-
  theseuslaw08.TableAlone: the walk.
-/
import Derived.Test.YtijobfkmchbpcaaTableRef
import Derived.Test.YtijobfkmchbpcaaTableAloneLaw
import Derived.Test.YtijobfkmchbpcaaRuleMay
import Derived.Deep.DeepCutAuto
namespace Go.Proofs.Ytijobfkmchbpcaa
open Go.RowKit Go.Th
set_option linter.unusedVariables false
theorem sound9a : Sound 9 := by unfold Sound; omega
theorem next_isA (A : Option Addr) (n c : Nat) (l : List Ru) (x : Int) (w : World) (hm : n ≤ 9223372036854775807) (B : Nat) (hr : RdM Ru.cs w B A n c l) (hok : ∀ r ∈ l, r.Ok) (hx : 0 ≤ x ∧ x ≤ 4294967295) (s : Int) (b : Bool) (h : tnext l x = (s, b)) :
    Calls Try.prog 20 #[.slice A n c, .int .u32 x] w fun e w' => e = .returned (.tuple #[.int .i64 s, .bool b]) ∧ Below w.heap.size w w' := by
  have := next_any A n c l x w hm B hr hok hx
  rw [h] at this
  exact this
theorem tmay_isA (A : Option Addr) (n c : Nat) (l : List Ru) (nodes : Int) (w : World) (hm : n ≤ 9223372036854775807) (B : Nat) (hr : RdM Ru.cs w B A n c l) (hok : ∀ r ∈ l, r.Ok) (e : Int) (he : tmay l nodes = e) :
    Calls Try.prog 32 #[.slice A n c, .int .i64 nodes] w fun x w' => x = .returned (.int .i64 e) ∧ Below w.heap.size w w' := by
  have := tmay_any A n c l nodes w hm B hr hok
  rw [he] at this
  exact this
theorem owm_len {α : Type} {f : α → List Value} {k base n m c : Nat} {w : World} {e : TypeId} {A : Option Addr} {xs : List α} (h : OwM f k w base e A n c xs) (hn : n = m) : OwM f k w base e A m c xs := hn ▸ h
theorem alone_ways (t : Ru) (b : Bool) (h : b = true ↔ (t.a = 0 ∧ t.n = 0)) : ((t.a == 0) = false ∧ b = false) ∨ ((t.a == 0) = true ∧ (t.n == 0) = false ∧ b = false) ∨ ((t.a == 0) = true ∧ (t.n == 0) = true ∧ b = true) := by
  by_cases h1 : t.a = 0 <;> by_cases h2 : t.n = 0 <;> cases b <;> simp_all
theorem firstOf_true {ws : List Ru} {t : Ru} (h : ws[0]? = some t) (hc : t.a = 0 ∧ t.n = 0) : [allRu] ++ ws.drop 1 = firstOf ws := by unfold firstOf; rw [restOf_cons h hc]; rfl
theorem firstOf_false {ws : List Ru} (h : ¬ ∃ t, ws[0]? = some t ∧ t.a = 0 ∧ t.n = 0) : [allRu] ++ ws = firstOf ws := by
  unfold firstOf
  rcases ws with _ | ⟨u, l⟩
  · rfl
  · rw [restOf_not (l := u :: l) (t := u) rfl (fun e => h ⟨u, rfl, e⟩)]; rfl
set_option maxHeartbeats 8000000 in
set_option maxRecDepth 100000 in
theorem tableAlone_walk (r0 : Ru) (h0 : r0.Ok) (A : Option Addr) (n c : Nat) (l : List Ru) {w : World} (hr : RdM Ru.cs w w.heap.size A n c l) (hm : n ≤ 9223372036854775807) (hok : ∀ r ∈ l, r.Ok) (x : Int) (hx : 0 ≤ x ∧ x ≤ 4294967295) :
    Calls Try.prog 11 #[r0.v, .slice A n c, .int .u32 x] w fun e w' => e = .returned (.bool true) ∧ Below w.heap.size w w' := by
  obtain ⟨m, hm1, hm2, hm3⟩ : ∃ m : Nat, m ≤ n ∧ m ≤ 19 ∧ (m = n ∨ (m = 19 ∧ 19 < n)) := ⟨min n 19, by omega, by omega, by omega⟩
  obtain ⟨ws, hws⟩ : ∃ ws, fitT (l.take m) 9 = ws := ⟨_, rfl⟩
  obtain ⟨r, hrf⟩ : ∃ r, r0.fit 9 = r := ⟨_, rfl⟩
  have hokm : ∀ r ∈ l.take m, r.Ok := fun r h => hok r (List.mem_of_mem_take h)
  have hgw : GoodT ws := by rw [← hws]; exact fitT_good sound9a _ hokm
  have hfw : Fitted 9 ws := by rw [← hws]; exact fitT_fitted sound9a _ hokm
  have hrp : r.Pre := by rw [← hrf]; exact Ru.fit_pre r0 9 h0 sound9a
  have hwl : ws.length ≤ 19 := by rw [← hws]; have := fitT_length (l.take m) 9; rw [List.length_take] at this; omega
  have hokw : ∀ t ∈ ws, t.Ok := fun t ht => (hgw.pre t ht).ok
  have hmf : tmay (firstOf ws) 9 = 0 := firstOf_may hgw (fitted_may (by omega) hfw hokw)
  have hokf : ∀ t ∈ firstOf ws, t.Ok := fun t ht => ((firstOf_good hgw).pre t ht).ok
  have hfit0 : ∀ W, Calls Try.prog 17 #[r0.v, .int .i64 9] W (RetB (.agg #[.int .u32 r.a, .int .i64 r.n, .int .i64 r.act, .int .i64 r.next]) W) := fun W => by
    have := rfit_any r0 9 W h0 sound9a
    rw [hrf] at this
    exact this
  obtain ⟨s, ok, hs⟩ : ∃ s ok, tfind [r] x = (s, ok) := ⟨_, _, rfl⟩
  have hsw : (ok = true ∧ r = s ∧ holds r.a r.n x = true) ∨ (ok = false ∧ holds r.a r.n x = false) := by
    rw [find_one] at hs
    cases hh : r.holds x with
    | true => rw [hh, if_pos rfl] at hs; injection hs with e1 e2; exact .inl ⟨e2.symm, e1, hh⟩
    | false => rw [hh, if_neg (by simp)] at hs; injection hs with e1 e2; exact .inr ⟨e2.symm, hh⟩
  obtain ⟨u, was, hu⟩ : ∃ u was, tfind ws x = (u, was) := ⟨_, _, rfl⟩
  have hlaw := firstOf_find hgw hx hu
  have Hws := Lib.hid hws
  have Hgw := Lib.hid hgw
  have Hmf := Lib.hid hmf
  have Hokw := Lib.hid hokw
  have Hokf := Lib.hid hokf
  have Hwl := Lib.hid hwl
  have Hfit0 := Lib.hid hfit0
  have Hx := Lib.hid hx
  have Hokm := Lib.hid hokm
  have Hs := Lib.hid hs
  have Hu := Lib.hid hu
  have Hlaw := Lib.hid hlaw
  have Hsw := Lib.hid hsw
  have Hra := Lib.hid hrp.ok.a
  have Hrn := Lib.hid hrp.ok.n
  have Hokr := Lib.hid (show ∀ t ∈ [r], t.Ok from fun t ht => by rw [List.mem_singleton.1 ht]; exact hrp.ok)
  clear hws hrf hokm hgw hfw hrp hfit0 hok h0 hx hwl hokw hmf hokf hs hsw hu hlaw
  have hb0 := Box.new w r0.cs.toArray 25
  have hr0 := hr.alloc (.cells r0.cs.toArray 25)
  show Calls Try.prog 11 #[.agg #[.int .u32 r0.a, .int .i64 r0.n, .int .i64 r0.act, .int .i64 r0.next], .slice A n c, .int .u32 x] w _
  go_enter Try.func11, Try.ntmps11
  go_wp2_with fail
  refine (shown8 _).mono ?_
  rintro e w1 ⟨rfl, hb1⟩
  have hb0 := hb0.step hb1
  have hr0 := hr0.step hb1
  have hbw : Below w.heap.size w w1 := (below_alloc w (Nat.le_refl _) _).trans (hb1.mono (by simp))
  clear hb1
  go_wp2_with (first
    | ((with_reducible refine on_load (.tmp 3) ?_); refine wr_box rfl _ _ rfl st_rule rfl hb0 ?_)
    | (go_at_call 17; refine (Hfit0.out _).mono ?_; rintro e w2 ⟨rfl, hb2⟩))
  have bx8 := Box.new w2 (Ru.cs r).toArray 25
  have rr := (OwM.lit' (base := w2.heap.size) (e := 25) (xs := [r]) Ru.cs_length (w2.alloc (.cells (Ru.cs r).toArray 25)) #[.int .u32 r.a, .int .i64 r.n, .int .i64 r.act, .int .i64 r.next] 1 (w2.heap.size + 1) (by simp) (by simp) (by simp [maxLen]) rfl rfl).rd
  have hr0 := ((hr0.step hb2).alloc (.cells (Ru.cs r).toArray 25)).alloc (.cells #[.int .u32 r.a, .int .i64 r.n, .int .i64 r.act, .int .i64 r.next] 25)
  have bx8 := bx8.alloc (.cells #[.int .u32 r.a, .int .i64 r.n, .int .i64 r.act, .int .i64 r.next] 25)
  have hbw := hbw.trans (hb2.mono hbw.size)
  have hbw := hbw.alloc hbw.size (.cells (Ru.cs r).toArray 25)
  have hbw := hbw.alloc hbw.size (.cells #[.int .u32 r.a, .int .i64 r.n, .int .i64 r.act, .int .i64 r.next] 25)
  clear hb2 hb0
  refine (find_is _ 1 1 [r] x _ (by omega) _ rr Hokr.out Hx.out _ _ Hs.out).mono ?_
  rintro e w3 ⟨rfl, hb3⟩
  have hr0 := (hr0.step hb3).alloc (.cells (Ru.cs s).toArray 25)
  have bx8 := (bx8.step hb3).alloc (.cells (Ru.cs s).toArray 25)
  have bx9 := Box.new w3 (Ru.cs s).toArray 25
  have hbw := hbw.trans (hb3.mono hbw.size)
  have hbw := hbw.alloc hbw.size (.cells (Ru.cs s).toArray 25)
  clear hb3 rr
  go_wp2_with fail
  refine (find_is none 0 0 [] x _ (by omega) 0 (RdM.nil _ _) (by simp) Hx.out _ _ (find_nil x)).mono ?_
  rintro e w4 ⟨rfl, hb4⟩
  have hr0 := (hr0.step hb4).alloc (.cells (Ru.cs Ru.zero).toArray 25)
  have bx8 := (bx8.step hb4).alloc (.cells (Ru.cs Ru.zero).toArray 25)
  have bx9 := (bx9.step hb4).alloc (.cells (Ru.cs Ru.zero).toArray 25)
  have bx11 := Box.new w4 (Ru.cs Ru.zero).toArray 25
  have hbw := hbw.trans (hb4.mono hbw.size)
  have hbw := hbw.alloc hbw.size (.cells (Ru.cs Ru.zero).toArray 25)
  clear hb4
  go_upto_region 5 with fail
  obtain ⟨V, hV⟩ : ∃ V, V = w4.alloc (.cells (Ru.cs Ru.zero).toArray 25) := ⟨_, rfl⟩
  have hV' : w4.alloc (.cells #[.int .u32 Ru.zero.a, .int .i64 Ru.zero.n, .int .i64 Ru.zero.act, .int .i64 Ru.zero.next] 25) = V := hV.symm
  rw [← hV] at bx8 bx9 bx11 hr0 hbw
  rw [hV']
  clear hV hV'
  go_cut [13] (fun s13 wx => ∃ A' m' c', s13 = .slice A' m' c' ∧ OwM Ru.cs 4 wx V.heap.size 25 A' m' c' ws ∧ Below V.heap.size V wx)
  case first =>
    rcases hm3 with rfl | ⟨rfl, hm3⟩
    all_goals
      go_wp2_with (first
        | ((with_reducible refine on_slice (.tmp 38) ?_); first | (refine wm_cut_h Ru.cs_length rfl _ _ el_rule rfl hr0 _ rfl rfl m (by omega) ?_; intro A42 r42) | (refine wm_cut_h Ru.cs_length rfl _ _ el_rule rfl hr0 _ rfl rfl 19 (by omega) ?_; intro A42 r42)))
      refine (fit_any _ _ _ _ 9 _ (by omega) _ r42 Hokm.out sound9a).mono ?_
      rintro e w5 ⟨A13, m13, c13, rfl, hm13, how13, hb5⟩
      rw [Hws.out] at how13
      go_wp2
      go_meet
      case rel => exact ⟨A13, m13, c13, rfl, how13, hb5⟩
  case rest =>
    obtain ⟨A13, m13, c13, rfl, how13, hb5⟩ := hcut
    have bx8 := (bx8.step hb5).alloc (.cells (Ru.cs allRu).toArray 25)
    have bx9 := (bx9.step hb5).alloc (.cells (Ru.cs allRu).toArray 25)
    have bx11 := (bx11.step hb5).alloc (.cells (Ru.cs allRu).toArray 25)
    have bx14 := Box.new wc (Ru.cs allRu).toArray 25
    have how13 := how13.alloc (.cells (Ru.cs allRu).toArray 25)
    have hbw := hbw.trans (hb5.mono hbw.size)
    have hbw := hbw.alloc hbw.size (.cells (Ru.cs allRu).toArray 25)
    have l13 := how13.len
    have hm13 : m13 ≤ 19 := by have := Hwl.out; omega
    clear hb5 hr0
    go_upto_region 7 with fail
    obtain ⟨W, hW⟩ : ∃ W, W = wc.alloc (.cells (Ru.cs allRu).toArray 25) := ⟨_, rfl⟩
    have hW' : wc.alloc (.cells #[.int .u32 0, .int .i64 0, .int .i64 1, .int .i64 8] 25) = W := hW.symm
    rw [← hW] at bx8 bx9 bx11 bx14 how13 hbw
    rw [hW']
    clear hW hW'
    go_upto_region 8 with (first
      | ((with_reducible refine on_load (.tmp 14) ?_); refine wr_box rfl _ _ rfl st_rule rfl bx14 ?_)
      | ((with_reducible refine on_append (.tmp 46) (.tmp 47) ?_); refine wm_append Ru.cs_length rfl (.tmp 46) (.tmp 47) _ rfl el_rule Ru.one rfl (OwM.lit (base := W.heap.size) (e := 25) (xs := [allRu]) Ru.cs_length W #[.int .u32 0, .int .i64 0, .int .i64 1, .int .i64 8] 1 (Nat.le_refl _) (by simp [maxLen]) rfl rfl) rfl (how13.alloc _).rd (by omega) (by omega) (by first | (simp; done) | (simp; omega) | omega) ?_; intro A48 c48 w48 how48 _ hb48; have H48 : Below W.heap.size W w48 := (below_alloc W (Nat.le_refl _) _).trans hb48))
    have bx8 := bx8.step H48
    have bx9 := bx9.step H48
    have bx11 := bx11.step H48
    have bx14 := bx14.step H48
    have how13 := how13.below H48
    have hbw := hbw.trans (H48.mono hbw.size)
    have hW48 := H48.size
    clear hb48 H48
    have r13 := how13.rd
    obtain ⟨b, hb⟩ : ∃ b : Bool, (b = true ↔ ∃ t, ws[0]? = some t ∧ t.a = 0 ∧ t.n = 0) := by
      by_cases h : ∃ t, ws[0]? = some t ∧ t.a = 0 ∧ t.n = 0
      · exact ⟨true, fun _ => h, fun _ => rfl⟩
      · exact ⟨false, (fun h => by cases h), fun e => absurd e h⟩
    have Hb := Lib.hid hb
    clear hb
    go_cut [65] (fun s65 wx => s65 = .bool b ∧ w48 = wx)
    case first =>
      rcases Nat.eq_zero_or_pos m13 with h0 | h0
      · subst h0
        have hbf : b = false := by
          cases b with
          | false => rfl
          | true => obtain ⟨t, ht, _⟩ := Hb.out.1 rfl; have := (List.getElem?_eq_some_iff.1 ht).1; omega
        subst hbf
        go_wp2
        go_meet
        case rel => exact ⟨rfl, rfl⟩
      · obtain ⟨t, ht⟩ : ∃ t, ws[0]? = some t := ⟨ws[0]'(by omega), List.getElem?_eq_getElem _⟩
        have hways := alone_ways t b (by
          rw [Hb.out, ht]
          constructor
          · rintro ⟨u, hu, h⟩; injection hu with hu; subst hu; exact h
          · intro h; exact ⟨t, rfl, h⟩)
        have Ht := Lib.hid ht
        have hi0 : (0 : Int) < m13 := by omega
        clear ht
        rcases hways with ⟨n1, rfl⟩ | ⟨n1, n2, rfl⟩ | ⟨n1, n2, rfl⟩
        all_goals
          go_wp2_with (first
            | ((with_reducible refine on_index (.tmp 53) ?_); refine wm_at Ru.cs_length rfl _ _ _ rfl el_rule rfl rfl (by omega) (by omega) r13 ?_; intro b1 j1 t1 ht1 hb1 hc1; have hxx := get_eq Ht.out ht1.out (by omega); subst hxx; have c0 : w48.cell? ⟨b1, j1, none⟩ = some (.int .u32 t.a) := hc1.out 0 _ rfl)
            | ((with_reducible refine on_index (.tmp 60) ?_); refine wm_at Ru.cs_length rfl _ _ _ rfl el_rule rfl rfl (by omega) (by omega) r13 ?_; intro b2 j2 t2 ht2 hb2 hc2; have hxx := get_eq Ht.out ht2.out (by omega); subst hxx; have c1 : w48.cell? ⟨b2, j2 + 1, none⟩ = some (.int .i64 t.n) := hc2.out 1 _ rfl))
          go_meet
          case rel => exact ⟨rfl, rfl⟩
    case rest =>
      obtain ⟨rfl, rfl⟩ := hcut
      go_upto_if 65 with fail
      go_cut [15] (fun s15 wx => ∃ A' m' c', s15 = .slice A' m' c' ∧ OwM Ru.cs 4 wx W.heap.size 25 A' m' c' (firstOf ws) ∧ Below w48.heap.size w48 wx)
      case first =>
        cases b with
        | true =>
          obtain ⟨t, ht, hc⟩ := Hb.out.1 rfl
          have hfo := Lib.hid (firstOf_true ht hc)
          have h1m : 1 ≤ m13 := by have := (List.getElem?_eq_some_iff.1 ht).1; omega
          have hs48 : W.heap.size ≤ w48.heap.size := hW48
          have q13 := (r13.drew).reach
          have q14 := (bx14.drew).reach
          clear ht hc
          go_wp2
          refine wp_region_tree (.float 0 1 (.float 2 2 (.one 1 (.one 4 (.float 5 1 .done))))) (Th.Reach w48.heap.size) (Th.Reach.trans _) (Th.Reach.refl _) (by kernel_rfl) (by kernel_rfl) (fun KT hKT => ?_)
          refine wpTree_float (fun KF hKF => ?_)
          simp only [List.drop, List.take]
          repeat (first | (refine wqr_box rfl _ (.tmp 14) rfl st_rule rfl q14 ?_) | (refine wqm_cut_l Ru.cs_length rfl _ (.tmp 68) el_rule rfl q13 (Th.Reach.refl _ _) _ rfl rfl 1 (by omega) ?_; intro A69 r69) | go_big_quiet_step (fail) | quiet_step (fail))
          refine wpQuiet_nil ?_
          refine hKF _ ?_
          clear hKF KF
          refine wpTree_float (fun KF hKF => ?_)
          simp only [List.drop, List.take]
          repeat (first | (refine wqr_box rfl _ (.tmp 14) rfl st_rule rfl q14 ?_) | (refine wqm_cut_l Ru.cs_length rfl _ (.tmp 68) el_rule rfl q13 (Th.Reach.refl _ _) _ rfl rfl 1 (by omega) ?_; intro A69 r69) | go_big_quiet_step (fail) | quiet_step (fail))
          refine wpQuiet_nil ?_
          refine hKF _ ?_
          clear hKF KF
          refine wpTree_one (fun KO hKO => ?_)
          simp only [List.drop, List.take]
          go_wp2_with (first | ((with_reducible refine on_append (.tmp 67) (.tmp 69) ?_); refine wm_append Ru.cs_length rfl (.tmp 67) (.tmp 69) _ rfl el_rule Ru.one rfl (OwM.lit (base := w48.heap.size) (e := 25) (xs := [allRu]) Ru.cs_length w48.drew #[.int .u32 0, .int .i64 0, .int .i64 1, .int .i64 8] 1 (Nat.le_refl _) (by simp [maxLen]) rfl rfl) rfl (r69 _ (Th.Reach.of (below_alloc w48.drew (Nat.le_refl _) _))) (by omega) (by omega) (by first | (simp; done) | (simp; omega) | omega) ?_; intro A70 c70 w70 how70 _ hb70))
          refine anch_end (Th.Reach.of (by first | exact Below.refl _ _ | exact below_alloc _ (by first | omega | (simp; done) | (simp; omega)) _ | exact below_alloc2 _ (by first | omega | (simp; done) | (simp; omega)) _ _ | exact below_alloc2d _ (by simp) _ _ | exact bdrew _ _ | assumption | (exact Below.mono (by assumption) (by first | (simp; done) | (simp; omega) | omega | assumption)))) (hKO _ _ ?_)
          clear hKO KO
          refine wpTree_one (fun KO hKO => ?_)
          simp only [List.drop, List.take]
          go_wp2_with (first | ((with_reducible refine on_append (.tmp 67) (.tmp 69) ?_); refine wm_append Ru.cs_length rfl (.tmp 67) (.tmp 69) _ rfl el_rule Ru.one rfl (OwM.lit (base := w48.heap.size) (e := 25) (xs := [allRu]) Ru.cs_length w48.drew #[.int .u32 0, .int .i64 0, .int .i64 1, .int .i64 8] 1 (Nat.le_refl _) (by simp [maxLen]) rfl rfl) rfl (r69 _ (Th.Reach.of (below_alloc w48.drew (Nat.le_refl _) _))) (by omega) (by omega) (by first | (simp; done) | (simp; omega) | omega) ?_; intro A70 c70 w70 how70 _ hb70))
          refine anch_end (Th.Reach.of (by first | exact Below.refl _ _ | exact below_alloc _ (by first | omega | (simp; done) | (simp; omega)) _ | exact below_alloc2 _ (by first | omega | (simp; done) | (simp; omega)) _ _ | exact below_alloc2d _ (by simp) _ _ | exact bdrew _ _ | assumption | (exact Below.mono (by assumption) (by first | (simp; done) | (simp; omega) | omega | assumption)))) (hKO _ _ ?_)
          clear hKO KO
          refine wpTree_float (fun KF hKF => ?_)
          simp only [List.drop, List.take]
          repeat (first | (refine wqr_box rfl _ (.tmp 14) rfl st_rule rfl q14 ?_) | (refine wqm_cut_l Ru.cs_length rfl _ (.tmp 68) el_rule rfl q13 (Th.Reach.refl _ _) _ rfl rfl 1 (by omega) ?_; intro A69 r69) | go_big_quiet_step (fail) | quiet_step (fail))
          refine wpQuiet_nil ?_
          refine hKF _ ?_
          clear hKF KF
          refine wpTree_done ?_
          refine hKT _ _ ?_
          clear hKT KT
          go_wp2
          go_meet
          case rel => exact ⟨A70, _, c70, rfl, (owm_len (by rw [hfo.out] at how70; exact how70.base_le hs48) (by omega)), ((bdrew1 w48).trans (below_alloc w48.drew (Nat.le_refl _) _)).trans hb70⟩
        | false =>
          have hfo := Lib.hid (firstOf_false (ws := ws) (fun e => by have := Hb.out.2 e; cases this))
          go_wp2
          go_meet
          case rel => exact ⟨A48, _, c48, rfl, (by rw [← hfo.out]; exact how48), Below.refl _ _⟩
      case rest =>
        obtain ⟨A15, m15, c15, rfl, how15, hb15⟩ := hcut
        have bx8 := bx8.step hb15
        have bx9 := bx9.step hb15
        have bx11 := bx11.step hb15
        have bx14 := bx14.step hb15
        have how13 := how13.below hb15
        have hbw := hbw.trans (hb15.mono hbw.size)
        have hm15 : m15 ≤ 9223372036854775807 := by
          have h1 := how15.len
          have h2 := (restOf_sub ws).length_le
          have h3 := Hwl.out
          have h4 : (firstOf ws).length = (restOf ws).length + 1 := rfl
          omega
        obtain ⟨t, is, ht⟩ : ∃ t is, tfind (firstOf ws) x = (t, is) := ⟨_, _, rfl⟩
        obtain ⟨nm, ng, hn⟩ : ∃ nm ng, tnext (firstOf ws) x = (nm, ng) := ⟨_, _, rfl⟩
        have hways : (false = was ∧ allRu = t ∧ true = is ∧ 8 = nm ∧ true = ng) ∨ (true = was ∧ (u.n == 0) = true ∧ allRu = t ∧ true = is ∧ 8 = nm ∧ true = ng) ∨ (true = was ∧ (u.n == 0) = false ∧ u = t ∧ true = is) := by
          have hl := Hlaw.out
          rw [ht, hn] at hl
          rcases hl with ⟨h1, h2, h3⟩ | ⟨h1, h2, h3⟩
          · injection h2 with e1 e2
            injection h3 with e3 e4
            rcases h1 with h1 | ⟨h1, h5⟩
            · exact .inl ⟨h1.symm, e1.symm, e2.symm, e3.symm, e4.symm⟩
            · exact .inr (.inl ⟨h1.symm, by simp [h5], e1.symm, e2.symm, e3.symm, e4.symm⟩)
          · injection h3 with e1 e2
            exact .inr (.inr ⟨h1.symm, by simp [h2], e1.symm, e2.symm⟩)
        have Ht := Lib.hid ht
        have Hn := Lib.hid hn
        clear ht hn hb15 how48 r13 l13
        go_wp2_with fail
        refine (find_is _ _ _ _ _ _ hm15 _ how15.rd Hokf.out Hx.out _ _ Ht.out).mono ?_
        rintro e w6 ⟨rfl, hb6⟩
        have bx8 := (bx8.step hb6).alloc (.cells (Ru.cs t).toArray 25)
        have bx9 := (bx9.step hb6).alloc (.cells (Ru.cs t).toArray 25)
        have bx11 := (bx11.step hb6).alloc (.cells (Ru.cs t).toArray 25)
        have bx14 := (bx14.step hb6).alloc (.cells (Ru.cs t).toArray 25)
        have bx16 := Box.new w6 (Ru.cs t).toArray 25
        have how13 := (how13.below hb6).alloc (.cells (Ru.cs t).toArray 25)
        have how15 := (how15.below hb6).alloc (.cells (Ru.cs t).toArray 25)
        have hbw := hbw.trans (hb6.mono hbw.size)
        have hbw := hbw.alloc hbw.size (.cells (Ru.cs t).toArray 25)
        clear hb6
        go_wp2_with fail
        refine (find_is _ _ _ _ _ _ (by omega) _ how13.rd Hokw.out Hx.out _ _ Hu.out).mono ?_
        rintro e w7 ⟨rfl, hb7⟩
        have bx8 := (bx8.step hb7).alloc (.cells (Ru.cs u).toArray 25)
        have bx9 := (bx9.step hb7).alloc (.cells (Ru.cs u).toArray 25)
        have bx11 := (bx11.step hb7).alloc (.cells (Ru.cs u).toArray 25)
        have bx14 := (bx14.step hb7).alloc (.cells (Ru.cs u).toArray 25)
        have bx16 := (bx16.step hb7).alloc (.cells (Ru.cs u).toArray 25)
        have bx18 := Box.new w7 (Ru.cs u).toArray 25
        have how15 := (how15.below hb7).alloc (.cells (Ru.cs u).toArray 25)
        have hbw := hbw.trans (hb7.mono hbw.size)
        have hbw := hbw.alloc hbw.size (.cells (Ru.cs u).toArray 25)
        clear hb7 how13
        go_wp2_with fail
        refine (next_isA _ _ _ _ _ _ hm15 _ how15.rd Hokf.out Hx.out _ _ Hn.out).mono ?_
        rintro e w8 ⟨rfl, hb8⟩
        have cx8 := bx8.step hb8
        have cx9 := bx9.step hb8
        have cx11 := bx11.step hb8
        have cx14 := bx14.step hb8
        have cx16 := bx16.step hb8
        have cx18 := bx18.step hb8
        have cow15 := how15.below hb8
        have cbw := hbw.trans (hb8.mono hbw.size)
        clear hb8
        obtain ⟨d0, d1, d2, d3⟩ := cx8.rule
        obtain ⟨e0, e1, e2, e3⟩ := cx9.rule
        obtain ⟨f0, f1, f2, f3⟩ := cx11.rule
        obtain ⟨g0, g1, g2, g3⟩ := cx18.rule
        have hz0 : Ru.zero.a = 0 := rfl
        have hz1 : Ru.zero.n = 0 := rfl
        have hz2 : Ru.zero.act = 0 := rfl
        have hz3 : Ru.zero.next = 0 := rfl
        rcases hways with ⟨rfl, rfl, rfl, rfl, rfl⟩ | ⟨rfl, n1, rfl, rfl, rfl, rfl⟩ | ⟨rfl, n1, rfl, rfl⟩ <;> rcases Hsw.out with ⟨rfl, rfl, hh⟩ | ⟨rfl, hh⟩
        all_goals
          have Hh := Lib.hid hh
          clear hh
          go_wp2_with (first
            | (go_at_call 19; refine (holds_any _ _ _ _ Hra.out Hrn.out Hx.out).mono ?_; rintro e w9 ⟨rfl, rfl⟩; rw [Hh.out])
            | (go_at_call 32; refine (tmay_isA _ _ _ _ 9 _ hm15 _ cow15.rd Hokf.out 0 Hmf.out).mono ?_; rintro e w9 ⟨rfl, hb9⟩; obtain ⟨p0, p1, p2, p3⟩ := (cx14.step hb9).rule; obtain ⟨q0, q1, q2, q3⟩ := (cx16.step hb9).rule; obtain ⟨o0, o1, o2, o3⟩ := (cx18.step hb9).rule; have dbw := cbw.trans (hb9.mono cbw.size)))
          go_ret
          exact ⟨rfl, dbw⟩
end Go.Proofs.Ytijobfkmchbpcaa
