/-
  theseusref09.Step, Walk, Loop.
-/
import Derived.Test.YtdmkiejaejlajaaNhApartLaw
import Derived.Deep.DeepCutAuto
namespace Go.Proofs.Ytdmkiejaejlajaa
open Go.RowKit Go.Th
set_option linter.unusedVariables false
set_option maxRecDepth 100000 in
set_option maxHeartbeats 2000000 in
theorem rstep_any (A : Option Addr) (n c : Nat) (ns : List Nd) (a v : Int) (w : World) (ha : 0 ≤ a ∧ a ≤ 4294967295) (G : GNet w A n c ns) (u : Int) (ok : Bool) (h : Hid (nstep (Nd.ls ns) a v = (u, ok))) :
    Calls Try.prog 23 #[.agg #[.slice A n c], .int .u32 a, .int .i64 v] w (RetIB (u, ok) w) := by
  have hlen := G.rd.len
  have k0 := below_alloc w (Nat.le_refl _) (.cells #[.slice A n c] 24)
  have b0 := Box.new w #[.slice A n c] 24
  have y0 : (w.alloc (.cells #[.slice A n c] 24)).cell? ⟨w.heap.size, 0, none⟩ = some (.slice A n c) := b0.cell 0
  have hr0 := G.rd.step k0
  by_cases hv : 0 ≤ v ∧ v < (n : Int)
  · obtain ⟨k, rfl⟩ := Int.eq_ofNat_of_zero_le hv.1
    have hk : k < n := by omega
    obtain ⟨x, hx1⟩ : ∃ x, ns[k]? = some x := ⟨ns[k]'(by omega), List.getElem?_eq_getElem _⟩
    have hxm := List.mem_of_getElem? hx1
    have h2 := h.out
    rw [nstep_at a hx1] at h2
    have hd1 : decide ((k : Int) < 0) = false := decide_eq_false (by omega)
    have hd2 : decide ((n : Int) ≤ (k : Int)) = false := decide_eq_false (by omega)
    have hd3 : decide (n ≤ k) = false := decide_eq_false (by omega)
    have hxr := G.rd.rk x hxm
    have hxok := G.rd.ok x hxm
    have hxn := G.small x hxm
    have Hx1 := Lib.hid hx1
    have K2 := Lib.hid (fun w1 (hb : Below w.heap.size w w1) => rnext_any x.A x.n x.c x.l a w1 (by omega) _ (hxr.step hb) hxok ha)
    rw [h2] at K2
    clear h h2 hx1 hxm hv hxr hxok hxn
    go_enter Try.func23, Try.ntmps23
    go_wp2_with (first
      | ((with_reducible refine on_index (.tmp 18) ?_); refine wn_at rfl _ (.tmp 18) _ rfl el_row rfl rfl (by omega) (by omega) hr0.rd ?_; intro b j y hy hbB hc; have hxx : x = y := (by have e := hy.out; rw [Int.toNat_natCast, Hx1.out] at e; injection e); subst hxx)
      | (go_at_call 34; refine (K2.out _ k0).mono ?_; rintro e w2 ⟨rfl, hb2⟩))
    go_ret2
    exact ⟨rfl, k0.trans (hb2.mono k0.size)⟩
  · have h2 := h.out
    rw [nstep_off (by rw [Nd.ls_len, hlen]; exact hv)] at h2
    obtain ⟨rfl, rfl⟩ : 0 = u ∧ false = ok := by injection h2 with a b; exact ⟨a, b⟩
    have hways : decide (v < (0 : Int)) = true ∨ (decide (v < (0 : Int)) = false ∧ decide ((n : Int) ≤ v) = true) := by
      by_cases h : v < 0
      · exact .inl (decide_eq_true h)
      · exact .inr ⟨decide_eq_false h, decide_eq_true (by omega)⟩
    clear h h2 hv hr0
    rcases hways with h1 | ⟨h1, h2⟩
    all_goals
      go_enter Try.func23, Try.ntmps23
      go_wp2
      go_ret2
      exact ⟨rfl, k0⟩
def RwRel (ls : List (List Ru)) (a v : Int) (kn : Nat) (w : World) (s i : Value) (wr : World) : Prop :=
  ∃ (k : Nat) (u : Int), k ≤ kn ∧ i = .int .i64 k ∧ s = .int .i64 u ∧ Hid (wgo ls a v k = (u, true)) ∧ Below w.heap.size w wr
set_option maxRecDepth 100000 in
set_option maxHeartbeats 2000000 in
theorem rwalk_any (A : Option Addr) (n c : Nat) (ns : List Nd) (a v K : Int) (w : World) (ha : 0 ≤ a ∧ a ≤ 4294967295) (G : GNet w A n c ns) (u : Int) (ok : Bool) (h : Hid (walkT (Nd.ls ns) a v K = (u, ok))) :
    Calls Try.prog 24 #[.agg #[.slice A n c], .int .u32 a, .int .i64 v, .int .i64 K] w (RetIB (u, ok) w) := by
  have hlen := G.rd.len
  have k0 := below_alloc w (Nat.le_refl _) (.cells #[.slice A n c] 24)
  have b0 := Box.new w #[.slice A n c] 24
  have y0 : (w.alloc (.cells #[.slice A n c] 24)).cell? ⟨w.heap.size, 0, none⟩ = some (.slice A n c) := b0.cell 0
  have G0 := G.step k0
  by_cases hoff : K < 0 ∨ 256 < K ∨ ¬ (0 ≤ v ∧ v < (n : Int))
  · have h2 := h.out
    unfold walkT at h2
    rw [if_pos (by rw [Nd.ls_len, hlen]; exact hoff)] at h2
    obtain ⟨rfl, rfl⟩ : 0 = u ∧ false = ok := by injection h2 with a b; exact ⟨a, b⟩
    have hways : decide (K < (0 : Int)) = true ∨ (decide (K < (0 : Int)) = false ∧ decide ((256 : Int) < K) = true) ∨ (decide (K < (0 : Int)) = false ∧ decide ((256 : Int) < K) = false ∧ decide (v < (0 : Int)) = true) ∨ (decide (K < (0 : Int)) = false ∧ decide ((256 : Int) < K) = false ∧ decide (v < (0 : Int)) = false ∧ decide ((n : Int) ≤ v) = true) := by
      simp only [decide_eq_true_eq, decide_eq_false_iff_not]
      omega
    clear h h2 hoff G0
    rcases hways with h1 | ⟨h1, h2⟩ | ⟨h1, h2, h3⟩ | ⟨h1, h2, h3, h4⟩
    all_goals
      go_enter Try.func24, Try.ntmps24
      go_wp2
      go_ret2
      exact ⟨rfl, k0⟩
  · obtain ⟨kn, rfl⟩ := Int.eq_ofNat_of_zero_le (show 0 ≤ K by omega)
    obtain ⟨vn, rfl⟩ := Int.eq_ofNat_of_zero_le (show 0 ≤ v by omega)
    have h2 := h.out
    rw [walkT_in (by rw [Nd.ls_len, hlen]; omega) (by omega)] at h2
    have H2 := Lib.hid h2
    have hkn : kn ≤ 256 := by omega
    have hvn : vn < n := by omega
    have d1 : decide ((kn : Int) < 0) = false := decide_eq_false (by omega)
    have d2 : decide ((256 : Int) < (kn : Int)) = false := decide_eq_false (by omega)
    have d3 : decide ((vn : Int) < 0) = false := decide_eq_false (by omega)
    have d4 : decide ((n : Int) ≤ (vn : Int)) = false := decide_eq_false (by omega)
    have d5 : decide (n ≤ vn) = false := decide_eq_false (by omega)
    clear h h2 hoff
    go_enter Try.func24, Try.ntmps24
    go_upto_region 4 with fail
    obtain ⟨w1, hw1⟩ : ∃ W, w.alloc (.cells #[.slice A n c] 24) = W := ⟨_, rfl⟩
    rw [hw1] at k0 b0 G0 ⊢
    clear d1 d2 d3 d4 d5 y0 hw1
    go_wp2
    go_loopw [2, 10] (fun s i wr => RwRel (Nd.ls ns) a vn kn w1 s i wr) (fun _ i _ => kn - (intOf i).toNat)
    case atStart => exact ⟨0, vn, by omega, rfl, rfl, Lib.hid rfl, Below.refl _ _⟩
    case round =>
      obtain ⟨k, t, hk, rfl, rfl, ht, hb⟩ := hrel
      have Gr := G0.step hb
      have br := b0.step hb
      by_cases hlt : k < kn
      · obtain ⟨⟨t2, g⟩, h1⟩ : ∃ p, nstep (Nd.ls ns) a t = p := ⟨_, rfl⟩
        have H1 := Lib.hid h1
        have hs : wgo (Nd.ls ns) a vn (k + 1) = (t2, g) := by rw [wgo, ht.out, if_pos rfl, h1]
        have Hs := Lib.hid hs
        clear hs h1 ht
        go_upto_region 7 with (first
          | ((with_reducible refine on_load (.tmp 4) ?_); refine wb_load rfl _ (.tmp 4) rfl st_net rfl br rfl ?_)
          | (go_at_call 23; refine (rstep_any A n c ns a t wr ha Gr t2 g H1).mono ?_; rintro e p1 ⟨rfl, hp1⟩))
        have b2 := hb.trans (hp1.mono hb.size)
        clear hb hp1 Gr br H1
        cases g with
        | true =>
          go_wp2
          go_roundw
          case rel => exact ⟨k + 1, t2, by omega, by go_num, rfl, Hs, b2⟩
          case measure => simp [intOf]; omega
        | false =>
          have hoff := wgo_off (by rw [Hs.out]) (Nat.succ_pos k) (kn - (k + 1))
          rw [show k + 1 + (kn - (k + 1)) = kn by omega, H2.out] at hoff
          obtain ⟨rfl, rfl⟩ : u = 0 ∧ ok = false := by injection hoff with a b; exact ⟨a, b⟩
          clear hoff
          go_wp2
          go_ret2
          exact ⟨rfl, k0.trans (b2.mono k0.size)⟩
      · obtain rfl : k = kn := by omega
        have h3 := ht.out.symm.trans H2.out
        obtain ⟨rfl, rfl⟩ : t = u ∧ true = ok := by injection h3 with a b; exact ⟨a, b⟩
        clear h3
        go_wp2
        go_ret2
        exact ⟨rfl, k0.trans (hb.mono k0.size)⟩
/-! ### Loop -/
/-- No step of fewer than i leads back, and all go. -/
def NoLess (ls : List (List Ru)) (a : Int) (v : Int) (i : Nat) : Prop := ∀ j, 1 ≤ j → j < i → (sit ls a v j).2 = true ∧ (sit ls a v j).1 ≠ v
/-- It first comes back after i steps. -/
def HitB (ls : List (List Ru)) (a : Int) (n : Nat) (v : Int) (i : Nat) : Prop := 1 ≤ i ∧ i ≤ n ∧ NoLess ls a v i ∧ sit ls a v i = (v, true)
def NoB (ls : List (List Ru)) (a : Int) (n : Nat) (v : Int) : Prop := ∀ i, ¬ HitB ls a n v i
section
variable {ls : List (List Ru)} {a v : Int} {n i : Nat} {l : List Int} {ok : Bool}
theorem HitB.cyc (h : HitB ls a n v i) : Cyc (hof ls a) (gof ls a) v i ∧ ∀ j, 0 < j → j < i → itr (hof ls a) j v ≠ v := by
  obtain ⟨h1, h2, h3, h4⟩ := h
  refine ⟨⟨h1, fun j hj => ?_, ?_⟩, fun j h5 h6 => ?_⟩
  · rw [← sit_goes]
    by_cases e : j + 1 = i
    · rw [e, h4]
    · exact (h3 (j + 1) (by omega) (by omega)).1
  · rw [← sit_itr, h4]
  · rw [← sit_itr]
    exact (h3 j h5 h6).2
theorem cyc_hit {M : Nat} (c : Cyc (hof ls a) (gof ls a) v M) (hM : M ≤ n) (hmin : ∀ j, 0 < j → j < M → itr (hof ls a) j v ≠ v) : HitB ls a n v M := by
  refine ⟨c.pos, hM, fun j h1 h2 => ⟨?_, ?_⟩, ?_⟩
  · obtain ⟨k, rfl⟩ : ∃ k, j = k + 1 := ⟨j - 1, by omega⟩
    rw [sit_goes]
    exact c.all k
  · rw [sit_itr]
    exact hmin j h1 h2
  · obtain ⟨k, rfl⟩ : ∃ k, M = k + 1 := ⟨M - 1, by have := c.pos; omega⟩
    refine Prod.ext ?_ ?_
    · rw [sit_itr]; exact c.back
    · rw [sit_goes]; exact c.all k
theorem lans_hit (h : LAns ls n a l ok) (hl : ls.length = n) (hn : ∀ u : Nat, (u : Int) < v → NoB ls a n u) (hh : HitB ls a n v i) : ok = true ∧ l = sits ls a v i := by
  obtain ⟨c, hmin⟩ := hh.cyc
  have hv := cyc_in c
  rcases h with ⟨_, _, h⟩ | ⟨h1, b, M, g1, g2, g3, c', gm, rfl, gl⟩
  · exact absurd c (h v i hv.1 (by omega))
  · have hle := gl v i hv.1 (by omega) c
    have hb : b = v := by
      by_cases e : b < v
      · obtain ⟨bn, rfl⟩ := Int.eq_ofNat_of_zero_le g1
        exact absurd (cyc_hit c' g3 gm) (hn bn e M)
      · omega
    subst hb
    have hM : M = i := by
      have p1 := c.pos
      have p2 := c'.pos
      by_cases k1 : M < i
      · exact absurd c'.back (hmin M (by omega) k1)
      · by_cases k2 : i < M
        · exact absurd c.back (gm i (by omega) k2)
        · omega
    subst hM
    exact ⟨h1, rfl⟩
theorem lans_none (h : LAns ls n a l ok) (hn : ∀ u : Nat, u < n → NoB ls a n u) : ok = false ∧ l = [] := by
  rcases h with ⟨h1, h2, h⟩ | ⟨h1, b, M, g1, g2, g3, c', gm, rfl, gl⟩
  · exact ⟨h1, h2⟩
  · obtain ⟨bn, rfl⟩ := Int.eq_ofNat_of_zero_le g1
    exact absurd (cyc_hit c' g3 gm) (hn bn (by omega) M)
theorem nob_of {u : Int} {g : Bool} (hs : sit ls a v i = (u, g)) (hl : NoLess ls a v i) (hx : (g = true → u = v → False)) (hend : i = n ∨ g = false ∨ u = v) : NoB ls a n v := by
  intro j ⟨h1, h2, h3, h4⟩
  by_cases e : j < i
  · have := (hl j h1 e).2
    rw [h4] at this
    exact this rfl
  · by_cases e2 : j = i
    · subst e2
      rw [hs] at h4
      injection h4 with h5 h6
      exact hx h6 h5
    · by_cases e3 : 1 ≤ i
      · have := h3 i e3 (by omega)
        rw [hs] at this
        rcases hend with h | h | h
        · omega
        · rw [h] at this; cases this.1
        · exact this.2 h
      · have : i = 0 := by omega
        subst this
        rcases hend with h | h | h
        · omega
        · have := congrArg Prod.snd hs
          rw [h] at this
          cases this
        · have := congrArg Prod.snd hs
          exact hx this.symm h
end
def RoRel (ls : List (List Ru)) (a : Int) (n : Nat) (w : World) (i : Value) (wr : World) : Prop :=
  ∃ v : Nat, v ≤ n ∧ i = .int .i64 v ∧ Hid (∀ u : Nat, (u : Int) < (v : Int) → NoB ls a n u) ∧ Below w.heap.size w wr
def RiRel (ls : List (List Ru)) (a : Int) (n v : Nat) (w : World) (s7 s8 s9 i : Value) (wr : World) : Prop :=
  ∃ (k c : Nat) (A : Option Addr) (u : Int) (g : Bool), 1 ≤ k ∧ k ≤ max n 1 ∧ i = .int .i64 k ∧ s7 = .slice A k c ∧ s8 = .int .i64 u ∧ s9 = .bool g ∧ OwS iv wr w.heap.size 3 A k c (sits ls a v k) ∧ Hid (sit ls a v k = (u, g)) ∧ Hid (NoLess ls a v k) ∧ Below w.heap.size w wr
set_option maxRecDepth 100000 in
set_option maxHeartbeats 4000000 in
theorem rloop_any (A : Option Addr) (n c : Nat) (ns : List Nd) (a : Int) (w : World) (ha : 0 ≤ a ∧ a ≤ 4294967295) (G : GNet w A n c ns) (l : List Int) (ok : Bool) (h : Hid (LAns (Nd.ls ns) n a l ok)) :
    Calls Try.prog 20 #[.agg #[.slice A n c], .int .u32 a] w (fun e w' => ∃ Al nl cl, e = .returned (.tuple #[.slice Al nl cl, .bool ok]) ∧ RdS iv w' w'.heap.size Al nl cl l ∧ Below w.heap.size w w') := by
  have hlen := G.len
  have hnb := G.nb
  have k0 := below_alloc w (Nat.le_refl _) (.cells #[.slice A n c] 24)
  have b0 := Box.new w #[.slice A n c] 24
  have G0 := G.step k0
  have Hhit := Lib.hid (fun (v : Int) (i : Nat) => lans_hit (v := v) (i := i) h.out hlen)
  have Hnone := Lib.hid (lans_none h.out)
  clear h hlen G
  go_enter Try.func20, Try.ntmps20
  go_upto_region 1 with fail
  obtain ⟨w1, hw1⟩ : ∃ W, w.alloc (.cells #[.slice A n c] 24) = W := ⟨_, rfl⟩
  rw [hw1] at k0 b0 G0 ⊢
  clear hw1
  go_wp2
  go_loopw [6] (fun i wr => RoRel (Nd.ls ns) a n w1 i wr) (fun i _ => n - (intOf i).toNat)
  case atStart => exact ⟨0, by omega, rfl, Lib.hid (fun u h => by omega), Below.refl _ _⟩
  case round =>
    obtain ⟨v, hv, rfl, hno, hb⟩ := hrel
    have Gr := G0.step hb
    have br := b0.step hb
    have cn : wr.cell? ⟨w.heap.size, 0, none⟩ = some (.slice A n c) := br.cell 0
    by_cases hlt : v < n
    · obtain ⟨w2, hw2⟩ : ∃ W, wr.alloc (.cells #[.int .i64 (v : Int)] 3) = W := ⟨_, rfl⟩
      have k2 : Below wr.heap.size wr w2 := by rw [← hw2]; exact below_alloc wr (Nat.le_refl _) _
      have o2 : OwS iv w2 wr.heap.size 3 (some ⟨wr.heap.size, 0, none⟩) 1 1 [(v : Int)] := by rw [← hw2]; exact OwS.lit wr #[.int .i64 (v : Int)] 1 (Nat.le_refl _) (by simp [maxLen]) rfl rfl
      have G2 := Gr.step k2
      have br2 := br.step k2
      obtain ⟨⟨u, g⟩, h1⟩ : ∃ p, nstep (Nd.ls ns) a v = p := ⟨_, rfl⟩
      have H1 := Lib.hid h1
      have S1 : Hid (sit (Nd.ls ns) a v 1 = (u, g)) := Lib.hid h1
      clear h1
      go_upto_region 6 with (first
        | ((with_reducible refine on_load (.tmp 2) ?_); refine wb_load rfl _ (.tmp 2) rfl st_net rfl br2 rfl ?_)
        | (go_at_call 23; refine (rstep_any A n c ns a v w2 ha G2 u g H1).mono ?_; rintro e w3 ⟨rfl, hb3⟩))
      have o3 := (o2.below hb3).base_le (Nat.le_refl _)
      have k3 := k2.trans (hb3.mono k2.size)
      have G3 := Gr.step k3
      have br3 := br.step k3
      have hb13 := hb.trans (k3.mono hb.size)
      clear o2 k2 G2 br2 hw2 cn H1 hb3 G3 br3
      go_wp2
      have hwr : Below w.heap.size w wr := k0.trans (hb.mono k0.size)
      go_loopw [7, 8, 9, 10] (fun s7 s8 s9 i wq => RiRel (Nd.ls ns) a n v wr s7 s8 s9 i wq) (fun _ _ _ i _ => n - (intOf i).toNat)
      case atStart => exact ⟨1, 1, _, u, g, by omega, by omega, rfl, rfl, rfl, rfl, o3, S1, Lib.hid (fun j h1 h2 => by omega), k3⟩
      case round =>
        clear S1 o3 hb13 k3
        obtain ⟨k, c7, A7, u, g, hk1, hk2, rfl, rfl, rfl, rfl, ow, hs, hl, hbq⟩ := hrel
        have Gq := Gr.step hbq
        have bq := br.step hbq
        have cn : wr.cell? ⟨w.heap.size, 0, none⟩ = some (.slice A n c) := bq.cell 0
        have hkn : k ≤ n := by omega
        have hbT := hb.trans (hbq.mono hb.size)
        obtain ⟨e, he⟩ : ∃ e, (u == (v : Int)) = e := ⟨_, rfl⟩
        have he2 : (u != (v : Int)) = !e := by rw [← he]; rfl
        by_cases hgo : k < n ∧ g = true ∧ e = false
        · obtain ⟨hki, rfl, rfl⟩ := hgo
          have hne : u ≠ (v : Int) := by simpa using he
          have d1 : decide ((k : Int) < (n : Int)) = true := decide_eq_true (by omega)
          have he3 : (u != (v : Int)) = true := by simpa using he2
          obtain ⟨W, hW⟩ : ∃ W, wr.alloc (.cells #[.int .i64 u] 3) = W := ⟨_, rfl⟩
          have kW : Below wr.heap.size wr W := by rw [← hW]; exact below_alloc wr (Nat.le_refl _) _
          have lW : OwS iv W wr.heap.size 3 (some ⟨wr.heap.size, 0, none⟩) 1 1 [u] := by rw [← hW]; exact OwS.lit wr #[.int .i64 u] 1 (Nat.le_refl _) (by simp [maxLen]) rfl rfl
          have owW := ow.below kW
          have zq := hbq.size
          have zW := kW.size
          have hrow : sits (Nd.ls ns) a v (k + 1) = sits (Nd.ls ns) a v k ++ [u] := by rw [sits_snoc, hs.out]
          have hl2 : NoLess (Nd.ls ns) a v (k + 1) := fun j h1 h2 => by
            by_cases e : j = k
            · subst e; rw [hs.out]; exact ⟨rfl, hne⟩
            · exact hl.out j h1 (by omega)
          have Hl2 := Lib.hid hl2
          have Hrow := Lib.hid hrow
          obtain ⟨⟨u2, g2⟩, h1⟩ : ∃ p, nstep (Nd.ls ns) a u = p := ⟨_, rfl⟩
          have H1 := Lib.hid h1
          have hs2 : sit (Nd.ls ns) a v (k + 1) = (u2, g2) := by rw [sit, hs.out]; exact h1
          have Hs2 := Lib.hid hs2
          clear hl2 hrow h1 hs2 hs hl he he2 hne ow
          go_upto_region 10 with (first
            | ((with_reducible refine on_append (.tmp 42) (.tmp 44) ?_); refine wl_appendS rfl (.tmp 42) (.tmp 44) _ rfl el_int (f := iv) (fun _ => rfl) rfl owW rfl lW.rd (by omega) (by omega) (by omega) ?_; intro A8 c8 w8 ow8 hg8 hb8))
          have B8 := hbq.trans ((kW.mono zq).trans (hb8.mono (Nat.le_refl _)))
          have G8 := Gr.step B8
          have b8 := br.step B8
          go_wp2_with (first
            | ((with_reducible refine on_load (.tmp 2) ?_); refine wb_load rfl _ (.tmp 2) rfl st_net rfl b8 rfl ?_)
            | (go_at_call 23; refine (rstep_any A n c ns a u w8 ha G8 u2 g2 H1).mono ?_; rintro e w9 ⟨rfl, hb9⟩))
          have ow9 := ow8.below hb9
          have B9 := B8.trans (hb9.mono B8.size)
          rw [← Hrow.out] at ow9
          go_roundw
          case rel => exact ⟨k + 1, c8, A8, u2, g2, by omega, by omega, by go_num, rfl, rfl, rfl, ow9, Hs2, Hl2, B9⟩
          case measure => simp [intOf]; omega
        · have hways : (decide ((k : Int) < (n : Int)) = false ∧ decide (k < n) = false) ∨ (decide ((k : Int) < (n : Int)) = true ∧ decide (k < n) = true ∧ (g = false ∨ (g = true ∧ e = true))) := by
            by_cases h1 : k < n
            · refine .inr ⟨decide_eq_true (by omega), decide_eq_true h1, ?_⟩
              cases g with
              | false => exact .inl rfl
              | true =>
                cases e with
                | true => exact .inr ⟨rfl, rfl⟩
                | false => exact absurd ⟨h1, rfl, rfl⟩ hgo
            · exact .inl ⟨decide_eq_false (by omega), decide_eq_false h1⟩
          by_cases hhit : g = true ∧ e = true
          · obtain ⟨rfl, rfl⟩ := hhit
            obtain rfl : u = (v : Int) := by simpa using he
            obtain ⟨rfl, rfl⟩ := Hhit.out v k hno.out ⟨hk1, hkn, hl.out, hs.out⟩
            have rd := ow.rd
            have Bf := hwr.trans (hbq.mono hwr.size)
            clear Hhit Hnone hgo hs hl hno
            rcases hways with ⟨h1, h2⟩ | ⟨h1, h2, _⟩
            all_goals
              go_wp2
              go_ret2
              exact ⟨A7, k, c7, rfl, rd, Bf⟩
          · have hnob : NoB (Nd.ls ns) a n v := nob_of hs.out hl.out (fun h1 h2 => hhit ⟨h1, by rw [← he, h2]; simp⟩) (by
              by_cases h1 : k < n
              · by_cases h2 : g = true
                · refine .inr (.inr ?_)
                  cases e with
                  | true => exact absurd ⟨h2, rfl⟩ hhit
                  | false => exact absurd ⟨h1, h2, rfl⟩ hgo
                · exact .inr (.inl (by simpa using h2))
              · exact .inl (by omega))
            have hno2 : Hid (∀ u : Nat, (u : Int) < ((v + 1 : Nat) : Int) → NoB (Nd.ls ns) a n u) := Lib.hid (fun x hx => by
              by_cases e : x = v
              · rw [e]; exact hnob
              · exact hno.out x (by omega))
            have hge : g = false ∨ (g = true ∧ e = false) := by
              cases g with
              | false => exact .inl rfl
              | true =>
                cases e with
                | true => exact absurd ⟨rfl, rfl⟩ hhit
                | false => exact .inr ⟨rfl, rfl⟩
            clear Hhit Hnone hgo hs hl hno hnob hhit ow
            rcases hge with rfl | ⟨rfl, rfl⟩
            · rcases hways with ⟨h1, h2⟩ | ⟨h1, h2, _⟩
              all_goals
                go_wp2
                go_roundw
                case rel => exact ⟨v + 1, by omega, by go_num, hno2, hbT⟩
                case measure => simp [intOf]; omega
            · rcases hways with ⟨h1, h2⟩ | ⟨h1, h2, h3 | ⟨_, h3⟩⟩
              · go_wp2
                go_roundw
                case rel => exact ⟨v + 1, by omega, by go_num, hno2, hbT⟩
                case measure => simp [intOf]; omega
              · cases h3
              · cases h3
    · obtain rfl : v = n := by omega
      obtain ⟨rfl, rfl⟩ := Hnone.out (fun u hu => hno.out u (by omega))
      clear Hnone Hhit
      go_wp2
      go_ret2
      exact ⟨none, 0, 0, rfl, RdS.nil _ _, k0.trans (hb.mono k0.size)⟩
end Go.Proofs.Ytdmkiejaejlajaa
