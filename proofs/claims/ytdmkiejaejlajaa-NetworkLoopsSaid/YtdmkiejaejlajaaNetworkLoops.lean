/-
  theseuslaw09.NetworkLoops: the walk.
-/
import Derived.Test.YtdmkiejaejlajaaNhMade
import Derived.Deep.DeepCutAuto
namespace Go.Proofs.Ytdmkiejaejlajaa
open Go.RowKit Go.Th
set_option linter.unusedVariables false
theorem wq_hload {ops : Array Oper} {rest : List Oper} {o : Oper} {a : Act} {C : World → Prop} {Q : Act → Prop} (hw : Region.wanted o (yielded ops a.tmps) = true) (x : Operand) (ho : o.op = .load 24 x) {g : Nat} {v : Value} (hx : a.eval x = .pointer (some ⟨g, 0, none⟩)) (hb : ∀ w, C w → w.cell? ⟨g, 0, none⟩ = some v)
    (h : wpQuiet Try.prog ops C Q rest (a.put o.dst (.agg #[v]))) : wpQuiet Try.prog ops C Q (o :: rest) a :=
  wq_run hw (fun w hC => by simp only [execOp, ho, hx, Instr.loadAt, Instr.sureAddr, Sem.run_bind, Sem.run_pure, Result.andThen_ok, run_loadVar_at st_net (cs := [v]) rfl (fun i u hu => by cases i with | zero => injection hu with hu; subst hu; exact hb w hC | succ i => cases hu)]) h
def PL (ls : List (List Ru)) (a : Int) (n : Nat) (u : Nat) : Prop := ∃ L, 1 ≤ L ∧ L ≤ n ∧ wgo ls a (u : Int) L = ((u : Int), true)
/-- The least node that walks back, of those ahead of v, and of v itself in less than k steps. -/
def LG (ls : List (List Ru)) (a : Int) (n : Nat) (z : Int) (v k : Nat) : Prop :=
  (z = -1 ∧ (∀ u : Nat, u < v → ¬ PL ls a n u) ∧ ∀ L, 1 ≤ L → L < k → wgo ls a (v : Int) L ≠ ((v : Int), true)) ∨ (∃ m : Nat, z = (m : Int) ∧ m ≤ v ∧ PL ls a n m ∧ ∀ u : Nat, u < m → ¬ PL ls a n u)
section
variable {ls : List (List Ru)} {a z best : Int} {n v k M : Nat}
theorem LG.next (h : LG ls a n z v (n + 1)) : LG ls a n z (v + 1) 1 := by
  rcases h with ⟨h1, h2, h3⟩ | ⟨m, h1, h2, h3, h4⟩
  · refine .inl ⟨h1, fun u hu => ?_, fun L h4 h5 => by omega⟩
    by_cases e : u = v
    · subst e
      rintro ⟨L, h4, h5, h6⟩
      exact h3 L h4 (by omega) h6
    · exact h2 u (by omega)
  · exact .inr ⟨m, h1, by omega, h3, h4⟩
theorem LG.skip (h : LG ls a n z v k) (hw : wgo ls a (v : Int) k ≠ ((v : Int), true)) : LG ls a n z v (k + 1) := by
  rcases h with ⟨h1, h2, h3⟩ | h
  · refine .inl ⟨h1, h2, fun L h4 h5 => ?_⟩
    by_cases e : L = k
    · subst e; exact hw
    · exact h3 L h4 (by omega)
  · exact .inr h
theorem LG.keep (h : LG ls a n z v k) (hz : ¬ z < 0) : LG ls a n z v (k + 1) := by
  rcases h with ⟨h1, h2, h3⟩ | h
  · omega
  · exact .inr h
theorem LG.hit (h : LG ls a n z v k) (hz : z < 0) (hk : 1 ≤ k) (hkn : k ≤ n) (hw : wgo ls a (v : Int) k = ((v : Int), true)) : LG ls a n (v : Int) v (k + 1) := by
  rcases h with ⟨h1, h2, h3⟩ | ⟨m, h1, _⟩
  · exact .inr ⟨v, rfl, Nat.le_refl _, ⟨k, hk, hkn, hw⟩, h2⟩
  · omega
theorem LG.no (h : LG ls a n z v 1) (hn : ls.length = n) (hv : v = n) (hno : ∀ u L, 0 ≤ u → u < (n : Int) → ¬ Cyc (hof ls a) (gof ls a) u L) : z = -1 := by
  rcases h with ⟨h1, _⟩ | ⟨m, h1, h2, ⟨L, h3, h4, h5⟩, _⟩
  · exact h1
  · have c := (cyc_walk h3).1 h5
    have hb := gof_in (c.goes 0 c.pos)
    exact absurd c (hno _ _ hb.1 (by have := hb.2; rw [hn] at this; exact this))
theorem LG.yes (h : LG ls a n z v 1) (hn : ls.length = n) (hv : v = n) (h0 : 0 ≤ best) (hb : best < (n : Int)) (hM : M ≤ n) (c : Cyc (hof ls a) (gof ls a) best M) (hle : ∀ u L, 0 ≤ u → u < (n : Int) → Cyc (hof ls a) (gof ls a) u L → best ≤ u) : z = best := by
  obtain ⟨b, rfl⟩ := Int.eq_ofNat_of_zero_le h0
  have hp : PL ls a n b := ⟨M, c.pos, hM, (cyc_walk c.pos).2 c⟩
  rcases h with ⟨_, h2, _⟩ | ⟨m, h1, h2, ⟨L, h3, h4, h5⟩, h6⟩
  · exact absurd hp (h2 b (by omega))
  · have c2 := (cyc_walk h3).1 h5
    have hb2 : 0 ≤ (m : Int) ∧ (m : Int) < (ls.length : Int) := gof_in (c2.goes 0 c2.pos)
    have hb3 : ((m : Nat) : Int) < (n : Int) := by have := hb2.2; rw [hn] at this; exact this
    have := hle _ _ hb2.1 hb3 c2
    by_cases e : b < m
    · exact absurd hp (h6 b e)
    · omega
theorem sits_at {i : Nat} (h : i < M) : (sits ls a best M)[i]? = some (itr (hof ls a) i best) := by
  unfold sits
  rw [List.getElem?_map, List.getElem?_range h]
  simp [sit_itr]
theorem cyc_next {i : Nat} (c : Cyc (hof ls a) (gof ls a) best M) : nstep ls a (itr (hof ls a) i best) = (itr (hof ls a) ((i + 1) % M) best, true) := by
  rw [nstep_hg, c.all i, ← c.mod]
  rfl
theorem cyc_unlike {i j : Nat} (c : Cyc (hof ls a) (gof ls a) best M) (hmin : ∀ j, 0 < j → j < M → itr (hof ls a) j best ≠ best) (h1 : j < i) (h2 : i < M) : itr (hof ls a) j best ≠ itr (hof ls a) i best := by
  intro h
  have h3 : itr (hof ls a) (M - i) (itr (hof ls a) i best) = best := by rw [← itr_add, show M - i + i = M by omega]; exact c.back
  rw [← h, ← itr_add] at h3
  exact hmin _ (by omega) (by omega) h3
theorem cyc_above {i : Nat} (hn : ls.length = n) (c : Cyc (hof ls a) (gof ls a) best M) (hmin : ∀ j, 0 < j → j < M → itr (hof ls a) j best ≠ best) (hle : ∀ u L, 0 ≤ u → u < (n : Int) → Cyc (hof ls a) (gof ls a) u L → best ≤ u) (h1 : 0 < i) (h2 : i < M) : best < itr (hof ls a) i best := by
  have hb := gof_in (c.all i)
  have h3 := hle _ M hb.1 (by have := hb.2; rw [hn] at this; exact this) (c.shift i)
  have h4 := hmin i h1 h2
  omega
end
def LoRel (ls : List (List Ru)) (a : Int) (n : Nat) (w : World) (s i : Value) (wr : World) : Prop :=
  ∃ (v : Nat) (z : Int), v ≤ n ∧ i = .int .i64 v ∧ s = .int .i64 z ∧ Hid (LG ls a n z v 1) ∧ Below w.heap.size w wr
def LoIn (ls : List (List Ru)) (a : Int) (n v : Nat) (w : World) (s i : Value) (wr : World) : Prop :=
  ∃ (k : Nat) (z : Int), 1 ≤ k ∧ k ≤ n + 1 ∧ i = .int .i64 k ∧ s = .int .i64 z ∧ Hid (LG ls a n z v k) ∧ Below w.heap.size w wr
def LoI (M : Nat) (w : World) (i : Value) (wr : World) : Prop := ∃ k : Nat, k ≤ M ∧ i = .int .i64 k ∧ Below w.heap.size w wr
set_option maxRecDepth 100000 in
set_option maxHeartbeats 4000000 in
theorem networkLoops_walk {w : World} (A : Option Addr) (n c : Nat) (ns : List Nd) (ni : NetIn w A n c ns) (a : Int) (ha : 0 ≤ a ∧ a ≤ 4294967295) :
    Calls Try.prog 4 #[.agg #[.slice A n c], .int .u32 a] w fun e w' => e = .returned (.bool true) ∧ Below w.heap.size w w' := by
  have K1 := Lib.hid (made_any A n c ns w ni)
  clear ni
  have k0 : Below w.heap.size w (w.alloc (.cells #[.slice A n c] 24)) := below_alloc w (Nat.le_refl _) _
  have b0 := Box.new w #[.slice A n c] 24
  go_enter Try.func4, Try.ntmps4
  go_upto_region 1 with fail
  obtain ⟨w0, hw0⟩ : ∃ W, w.alloc (.cells #[.slice A n c] 24) = W := ⟨_, rfl⟩
  rw [hw0] at k0 b0 ⊢
  clear hw0
  go_upto_region 2 with (go_at_call 10; refine (shown9 _).mono ?_; rintro e w1 ⟨rfl, hb1⟩; have bx1 := b0.step hb1)
  have B1 := k0.trans (hb1.mono k0.size)
  clear k0 b0 hb1
  go_upto_region 3 with (first
    | ((with_reducible refine on_load (.tmp 2) ?_); refine wb_load rfl _ (.tmp 2) rfl st_net rfl bx1 rfl ?_)
    | (go_at_call 11; refine (K1.out _ B1).mono ?_; rintro e w2 ⟨Aa, na, ca, nsa, rfl, hra, oka, sma, nba, hb2⟩)
    | ((with_reducible refine on_alloc ?_); refine wl_newBox rfl _ rfl z_net ?_; intro ga w3 hg3 hl3 bg3 hb3)
    | ((with_reducible refine on_store_at (.tmp 6) ?_); refine wb_store (cs := #[.slice none 0 0]) (cs' := #[.slice Aa na ca]) rfl _ (.tmp 6) _ rfl st_net rfl rfl bg3 rfl rfl (by simp [Value.oneCell']) ?_; intro w4 bx4 hg4))
  have bd4 := hb3.trans (below_of_grown (B := w2.heap.size) hg4 (fun j e => by injection e with e; omega) hb3.size)
  have M4 : HBox w4 ga Aa na ca nsa := ⟨bx4, (hra.step bd4).heap, oka, sma, nba⟩
  have b14 := hb2.trans (bd4.mono hb2.size)
  have B4 := B1.trans (b14.mono B1.size)
  clear bd4 b14 bx4 hra oka sma nba hg4 hb3 bg3 hg3 hl3 hb2 B1 bx1 K1
  have hnb := M4.nb
  go_upto_region 4 with (first
    | ((with_reducible refine on_load (.tmp 6) ?_); refine wb_load rfl _ (.tmp 6) rfl st_net rfl M4.box rfl ?_)
    | (go_at_call 15; refine (M4.loop a ha).mono ?_; rintro e w5 ⟨Al, nl, cl, l, ok, rfl, rl, hb5, hans⟩))
  have M5 := M4.step hb5
  have B5 := B4.trans (hb5.mono B4.size)
  have Hans := Lib.hid hans
  have rl5 := rl
  have Hl := Lib.hid rl.len
  clear M4 B4 hb5 hans rl
  go_wp2
  go_loopw [9, 10] (fun s i wr => LoRel (Nd.ls nsa) a na w5 s i wr) (fun _ i _ => na - (intOf i).toNat)
  case atStart => exact ⟨0, -1, by omega, rfl, rfl, Lib.hid (.inl ⟨rfl, fun u h => by omega, fun L h1 h2 => by omega⟩), Below.refl _ _⟩
  case round =>
    obtain ⟨v, z, hv, rfl, rfl, hb, hbl⟩ := hrel
    have Mr := M5.step hbl
    have cn : wr.cell? ⟨ga, 0, none⟩ = some (.slice Aa na ca) := Mr.box.cell 0
    by_cases hlt : v < na
    · have hlen := Mr.len
      have hV : 0 ≤ (v : Int) ∧ (v : Int) < ((Nd.ls nsa).length : Int) := by rw [hlen]; omega
      have HV := Lib.hid hV
      clear hV hlen
      go_wp2
      go_loopw [9, 11] (fun s i wq => LoIn (Nd.ls nsa) a na v wr s i wq) (fun _ i _ => na + 1 - (intOf i).toNat)
      case atStart => exact ⟨1, z, by omega, by omega, rfl, rfl, hb, Below.refl _ _⟩
      case round =>
        obtain ⟨k, z, hk1, hk, rfl, rfl, hb, hbl2⟩ := hrel
        have Mq := Mr.step hbl2
        have cn : wr.cell? ⟨ga, 0, none⟩ = some (.slice Aa na ca) := Mq.box.cell 0
        by_cases hkl : k ≤ na
        · obtain ⟨⟨u, g⟩, h1⟩ : ∃ p, wgo (Nd.ls nsa) a (v : Int) k = p := ⟨_, rfl⟩
          have H1 := Lib.hid ((walkT_in (K := k) HV.out (by omega)).trans h1)
          obtain ⟨d, hd⟩ : ∃ d, decide (z < (0 : Int)) = d := ⟨_, rfl⟩
          obtain ⟨q, hq⟩ : ∃ q, (u == (v : Int)) = q := ⟨_, rfl⟩
          have hs : LG (Nd.ls nsa) a na (if (g = true ∧ q = true) ∧ d = true then (v : Int) else z) v (k + 1) := by
            split
            · rename_i h
              obtain ⟨⟨rfl, rfl⟩, rfl⟩ := h
              have : u = (v : Int) := by simpa using hq
              exact hb.out.hit (of_decide_eq_true hd) hk1 hkl (by rw [h1, this])
            · rename_i h
              cases d with
              | false => exact hb.out.keep (of_decide_eq_false hd)
              | true =>
                refine hb.out.skip (fun e => h ⟨?_, rfl⟩)
                rw [h1] at e
                injection e with e1 e2
                exact ⟨e2, by rw [← hq, e1]; simp⟩
          have Hs := Lib.hid hs
          clear hs h1 hb
          go_upto_region 12 with (first
            | ((with_reducible refine on_load (.tmp 6) ?_); refine wb_load rfl _ (.tmp 6) rfl st_net rfl Mq.box rfl ?_)
            | (go_at_call 12; refine (Mq.walk a _ _ ha u g H1).mono ?_; rintro e w8 ⟨rfl, hb8⟩))
          have b68 := hbl2.trans (hb8.mono hbl2.size)
          clear cn Mq hbl2 hb8 H1
          cases g <;> cases q <;> cases d
          all_goals go_wp2
          all_goals go_roundw
          all_goals first
            | exact ⟨k + 1, _, by omega, by omega, by go_num, rfl, by simpa using Hs, b68⟩
            | (simp [intOf]; omega)
        · obtain rfl : k = na + 1 := by omega
          have b57 := hbl.trans (hbl2.mono hbl.size)
          have Hn := Lib.hid hb.out.next
          clear hb
          go_wp2
          go_roundw
          case rel => exact ⟨v + 1, z, by omega, by go_num, rfl, Hn, b57⟩
          case measure => simp [intOf]; omega
    · obtain rfl : v = na := by omega
      have hlen := Mr.len
      have Bf := B5.trans (hbl.mono B5.size)
      have rlr := rl5.step hbl
      have hb1 := hb.out
      rcases Hans.out with ⟨rfl, rfl, h⟩ | ⟨rfl, best, M, h2, h3, h4, h5, h6, rfl, h8⟩
      · have hz := hb1.no hlen rfl h
        subst hz
        have hn0 : nl = 0 := by have := Hl.out; simp at this; omega
        subst hn0
        clear hb Hans Hl hb1 h
        go_wp2
        go_ret
        exact ⟨rfl, Bf⟩
      · have hz := hb1.yes hlen rfl h2 h3 h4 h5 h8
        subst hz
        have hnM : M = nl := by have := Hl.out; unfold sits at this; simpa using this
        subst hnM
        have hM0 := h5.pos
        have hat := Lib.hid (fun i (hi : i < M) => sits_at (ls := Nd.ls nsa) (a := a) (best := z) hi)
        have hnx := Lib.hid (fun i => cyc_next (i := i) h5)
        have hun := Lib.hid (fun i j (h1 : j < i) (h2 : i < M) => cyc_unlike h5 h6 h1 h2)
        have hab := Lib.hid (fun i (h1 : 0 < i) (h2 : i < M) => cyc_above hlen h5 h6 h8 h1 h2)
        have e0 : ((M : Int) == 0) = false := by simp; omega
        have e1 : (z != z) = false := by simp
        have e2 : decide (v < M) = false := decide_eq_false (by omega)
        clear hb Hans Hl hb1 h2 h3 h5 h6 h8 hlen
        go_wp2_with ((with_reducible refine on_index (.tmp 88) ?_); refine wl_at_i rfl _ (.tmp 88) _ rfl el_int rfl rfl (by omega) (by omega) rlr ?_; intro p x hxx hc; have hxe : z = x := (by have e := hxx.out; rw [show (0 : Int).toNat = 0 from rfl, hat.out 0 (by omega)] at e; injection e with e); subst hxe)
        go_loopw [14] (fun i wr => LoI M w5 i wr) (fun i _ => M - (intOf i).toNat)
        case atStart => exact ⟨0, by omega, rfl, hbl⟩
        case round =>
          obtain ⟨i, hi, rfl, hbq⟩ := hrel
          have Mq := M5.step hbq
          have rq := rl5.step hbq
          by_cases hil : i < M
          · obtain ⟨x, hx⟩ : ∃ x, itr (hof (Nd.ls nsa) a) i z = x := ⟨_, rfl⟩
            obtain ⟨y, hy⟩ : ∃ y, itr (hof (Nd.ls nsa) a) ((i + 1) % M) z = y := ⟨_, rfl⟩
            have Hx := Lib.hid (hat.out i hil)
            have Hy := Lib.hid (hat.out ((i + 1) % M) (Nat.mod_lt _ hM0))
            have H0 : Hid ((sits (Nd.ls nsa) a z M)[0]? = some z) := Lib.hid (hat.out 0 hM0)
            have Hs := Lib.hid (hnx.out i)
            have Hab := Lib.hid (hab.out i)
            have Hun := Lib.hid (hun.out i)
            rw [hx] at Hx Hs Hab Hun
            rw [hy] at Hy Hs
            have em : (((i : Int) + 1) % (M : Int)).toNat = (i + 1) % M := by rw [show ((i : Int) + 1) = ((i + 1 : Nat) : Int) by omega, ← Int.natCast_emod, Int.toNat_natCast]
            have Em := Lib.hid em
            have lm : ((i : Int) + 1) % (M : Int) < (M : Int) := Int.emod_lt_of_pos _ (by omega)
            have lm0 : 0 ≤ ((i : Int) + 1) % (M : Int) := Int.emod_nonneg _ (by omega)
            have q1 := rq.reach
            have Kq : Hid (∀ q : Step wr.heap.size wr, Calls Try.prog 13 #[.agg #[.slice Aa v ca], .int .u32 a, .int .i64 x] q.w fun e w' => e = .returned (.tuple #[.int .i64 y, .bool true]) ∧ Below q.w.heap.size q.w w') := Lib.hid (fun q => (Mq.step q.h).stp a x ha y true Hs)
            have qb : ∀ w', Th.Reach wr.heap.size wr w' → w'.cell? ⟨ga, 0, none⟩ = some (.slice Aa v ca) := fun w' h => (Mq.box.step h.below).cell 0
            clear hx hy em
            go_upto_region 21 with fail
            refine wp_region_reach (by kernel_rfl) (by kernel_rfl) ?_
            repeat (first | go_big_quiet_skip | ((with_reducible refine onq_load (.tmp 6) ?_); refine wq_hload rfl (.tmp 6) rfl rfl qb ?_) | ((with_reducible refine onq_index (.tmp 103) ?_); refine wq_at_i rfl _ (.tmp 103) _ rfl el_int rfl rfl (by omega) (by omega) (Th.Reach.refl _ _) q1 ?_; intro p1 z1 hz1 hc1; have hxx := get_eq Hx.out hz1.out (by omega); subst hxx; have f1 : ∀ q : Step _ _, q.w.cell? p1 = some (.int .i64 x) := fun q => hc1 q.w ⟨q, rfl⟩) | go_big_quiet_step ((with_reducible exact Calls.reach (Kq.out _))) | quiet_step ((with_reducible exact Calls.reach (Kq.out _))))
            refine wpQuiet_nil ?_
            rintro _ ⟨q, rfl⟩
            have hqw7 := q.h
            obtain ⟨w7, hw7'⟩ : ∃ W, q.w = W := ⟨_, rfl⟩
            rw [hw7'] at hqw7 ⊢
            clear hw7' q
            have M7 := Mq.step hqw7
            have r7 := rq.step hqw7
            have b57 := hbq.trans (hqw7.mono hbq.size)
            clear Kq qb q1 Mq rq hbq hqw7 Hs
            go_upto_region 22 with fail
            have q7 := r7.reach
            have hyy : (y != y) = false := by simp
            have i0 : decide (0 < i) = false ∨ (decide (0 < i) = true ∧ decide (x ≤ z) = false) := by
              by_cases e : i = 0
              · exact .inl (decide_eq_false (by omega))
              · exact .inr ⟨decide_eq_true (by omega), decide_eq_false (by have := Hab.out (by omega) hil; omega)⟩
            rcases i0 with g1 | ⟨g1, g2⟩
            all_goals
              refine wp_region_reach (by kernel_rfl) (by kernel_rfl) ?_
              repeat (first | go_big_quiet_skip | ((with_reducible refine onq_index (.tmp 114) ?_); refine wq_at_i rfl _ (.tmp 114) _ rfl el_int rfl rfl lm0 lm (Th.Reach.refl _ _) q7 ?_; intro p2 z2 hz2 hc2; have hxx : y = z2 := (by have e := hz2.out; rw [Em.out, Hy.out] at e; injection e); subst hxx; have f2 : ∀ q : Step _ _, q.w.cell? p2 = some (.int .i64 y) := fun q => hc2 q.w ⟨q, rfl⟩) | ((with_reducible refine onq_index (.tmp 128) ?_); refine wq_at_i rfl _ (.tmp 128) _ rfl el_int rfl rfl (by omega) (by omega) (Th.Reach.refl _ _) q7 ?_; intro p3 z3 hz3 hc3; have hxx := get_eq Hx.out hz3.out (by omega); subst hxx; have f3 : ∀ q : Step _ _, q.w.cell? p3 = some (.int .i64 x) := fun q => hc3 q.w ⟨q, rfl⟩) | ((with_reducible refine onq_index (.tmp 132) ?_); refine wq_at_i rfl _ (.tmp 132) _ rfl el_int rfl rfl (by omega) (by omega) (Th.Reach.refl _ _) q7 ?_; intro p4 z4 hz4 hc4; have hxx := get_eq H0.out hz4.out (by omega); subst hxx; have f4 : ∀ q : Step _ _, q.w.cell? p4 = some (.int .i64 z) := fun q => hc4 q.w ⟨q, rfl⟩) | go_big_quiet_step (fail) | quiet_step (fail))
              refine wpQuiet_nil ?_
              rintro _ ⟨q, rfl⟩
              have hqw8 := q.h
              obtain ⟨w8, hw8'⟩ : ∃ W, q.w = W := ⟨_, rfl⟩
              rw [hw8'] at hqw8 ⊢
              clear hw8' q
              have M8 := M7.step hqw8
              have r8 := r7.step hqw8
              have b58 := b57.trans (hqw8.mono b57.size)
              clear q7 M7 r7 b57 hqw8
              go_wp2
              go_loopw [17] (fun k wr => LoI i w8 k wr) (fun k _ => i - (intOf k).toNat)
              case atStart => exact ⟨0, by omega, rfl, Below.refl _ _⟩
              case round =>
                obtain ⟨k, hk, rfl, hbk⟩ := hrel
                have r9 := r8.step hbk
                have q9 := r9.reach
                have b59 := b58.trans (hbk.mono b58.size)
                by_cases hki : k < i
                · obtain ⟨t, ht⟩ : ∃ t, itr (hof (Nd.ls nsa) a) k z = t := ⟨_, rfl⟩
                  have Ht := Lib.hid (hat.out k (by omega))
                  have hne := Hun.out k hki hil
                  rw [ht] at Ht hne
                  have hne2 : (t == x) = false := by simpa using hne
                  clear hne ht
                  go_upto_region 27 with fail
                  refine wp_region_reach (by kernel_rfl) (by kernel_rfl) ?_
                  repeat (first | go_big_quiet_skip | ((with_reducible refine onq_index (.tmp 143) ?_); refine wq_at_i rfl _ (.tmp 143) _ rfl el_int rfl rfl (by omega) (by omega) (Th.Reach.refl _ _) q9 ?_; intro p2 z2 hz2 hc2; have hxx := get_eq Ht.out hz2.out (by omega); subst hxx; have f2 : ∀ q : Step _ _, q.w.cell? p2 = some (.int .i64 t) := fun q => hc2 q.w ⟨q, rfl⟩) | ((with_reducible refine onq_index (.tmp 147) ?_); refine wq_at_i rfl _ (.tmp 147) _ rfl el_int rfl rfl (by omega) (by omega) (Th.Reach.refl _ _) q9 ?_; intro p3 z3 hz3 hc3; have hxx := get_eq Hx.out hz3.out (by omega); subst hxx; have f3 : ∀ q : Step _ _, q.w.cell? p3 = some (.int .i64 x) := fun q => hc3 q.w ⟨q, rfl⟩) | go_big_quiet_step (fail) | quiet_step (fail))
                  refine wpQuiet_nil ?_
                  rintro _ ⟨q, rfl⟩
                  have hqw10 := q.h
                  obtain ⟨w10, hw10'⟩ : ∃ W, q.w = W := ⟨_, rfl⟩
                  rw [hw10'] at hqw10 ⊢
                  clear hw10' q
                  have b60 := hbk.trans (hqw10.mono hbk.size)
                  go_wp2
                  go_roundw
                  case rel => exact ⟨k + 1, by omega, by go_num, b60⟩
                  case measure => simp [intOf]; omega
                · obtain rfl : k = i := by omega
                  go_wp2
                  go_roundw
                  case rel => exact ⟨k + 1, by omega, by go_num, b59⟩
                  case measure => simp [intOf]; omega
          · have Bg := B5.trans (hbq.mono B5.size)
            go_wp2
            go_ret
            exact ⟨rfl, Bg⟩
end Go.Proofs.Ytdmkiejaejlajaa
