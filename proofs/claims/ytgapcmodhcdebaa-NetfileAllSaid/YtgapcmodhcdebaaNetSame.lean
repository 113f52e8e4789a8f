/-
  theseusref08.Same and theseusref09.Same.
-/
import Derived.Test.YtgapcmodhcdebaaNetMem
import Derived.Test.YtgapcmodhcdebaaNfMe
import Derived.Laws.StructEq
namespace Go.Proofs.Ytgapcmodhcdebaa
open Go.RowKit Go.Th
set_option linter.unusedVariables false
set_option maxHeartbeats 1000000 in
theorem eq_rule (r s : Ru) (w : World) : (Op.equalIn 10000 47 (.agg #[.int .u32 r.a, .int .i64 r.n, .int .i64 r.act, .int .i64 r.next]) (.agg #[.int .u32 s.a, .int .i64 s.n, .int .i64 s.act, .int .i64 s.next])).run Try.prog w = .ok (decide (r = s)) w := by
  have hS : Try.prog.underlying 47 = some (.struct (Try.prog.fieldsOf 47)) := by kernel_rfl
  have hp : Try.prog.stoodInHeld 47 = false := by kernel_rfl
  rw [show (10000 : Nat) = 9999 + 1 from rfl, run_equalIn_agg w 9999 47 _ _ hS hp]
  simp only [Program.fieldsOf, Try.underlying47]
  go_simp
  obtain ⟨a, n, act, next⟩ := r
  obtain ⟨a', n', act', next'⟩ := s
  by_cases h1 : a = a' <;> by_cases h2 : n = n' <;> by_cases h3 : act = act' <;> by_cases h4 : next = next' <;> simp [h1, h2, h3, h4]
theorem guard_rule : Try.prog.eqGuardType Try.prog.depth 47 = false := by kernel_rfl
theorem wq_neqR {ops : Array Oper} {rest : List Oper} {o : Oper} {a : Act} {C : World → Prop} {Q : Act → Prop} (hw : Region.wanted o (yielded ops a.tmps) = true) (x y : Operand) {T2 : TypeId} (ho : o.op = .binOp .neq 47 x y T2) {r s : Ru} (hx : a.eval x = .agg #[.int .u32 r.a, .int .i64 r.n, .int .i64 r.act, .int .i64 r.next]) (hy : a.eval y = .agg #[.int .u32 s.a, .int .i64 s.n, .int .i64 s.act, .int .i64 s.next])
    (h : wpQuiet Try.prog ops C Q rest (a.put o.dst (.bool (!(decide (r = s)))))) : wpQuiet Try.prog ops C Q (o :: rest) a := by
  refine wq_run hw (fun w hC => ?_) h
  have e := eq_rule r s w
  simp only [execOp, ho, hx, hy]
  simp [run_eqGuard_agg w .neq 47 x y _ _ guard_rule, run_neq_struct, e]
theorem onq_bin (x : Operand) {P : Program} {ops : Array Oper} {rest : List Oper} {a : Act} {C : World → Prop} {Q : Act → Prop} {d op T y T2 ty pos af g} (h : wpQuiet P ops C Q (⟨d, .binOp op T x y T2, ty, pos, af, g⟩ :: rest) a) : wpQuiet P ops C Q (⟨d, .binOp op T x y T2, ty, pos, af, g⟩ :: rest) a := h
def S8Rel (l l2 : List Ru) (n : Nat) (w : World) (i : Value) (wr : World) : Prop :=
  ∃ k : Nat, k ≤ n ∧ i = .int .i64 k ∧ Hid (l.take k = l2.take k) ∧ Below w.heap.size w wr
set_option maxRecDepth 100000 in
set_option maxHeartbeats 2000000 in
theorem rsame8_any (A : Option Addr) (n c : Nat) (l : List Ru) (A2 : Option Addr) (n2 c2 : Nat) (l2 : List Ru) (w : World) (hn : n ≤ 1000000) (hn2 : n2 ≤ 1000000) (B B2 : Nat) (hr : RdM Ru.cs w B A n c l) (hr2 : RdM Ru.cs w B2 A2 n2 c2 l2) (b : Bool) (hb : Hid (decide (l = l2) = b)) :
    Calls Try.prog 37 #[.slice A n c, .slice A2 n2 c2] w (RetB (.bool b) w) := by
  have hl := hr.len
  have hl2 := hr2.len
  by_cases hnn : n = n2
  rotate_left
  · have n1 : ((n : Int) != (n2 : Int)) = true := by simp; omega
    have Hb : b = false := by rw [← hb.out]; exact decide_eq_false fun e => by subst e; exact hnn (hl.symm.trans hl2)
    subst Hb
    clear hb
    go_enter Try.func37, Try.ntmps37
    go_wp2
    go_ret
    exact ⟨rfl, Below.refl _ _⟩
  · subst hnn
    go_enter Try.func37, Try.ntmps37
    go_wp2
    go_loopw [5] (fun i wr => S8Rel l l2 n w i wr) (fun i _ => n - (intOf i).toNat)
    case atStart => exact ⟨0, by omega, rfl, Lib.hid rfl, Below.refl _ _⟩
    case round =>
      obtain ⟨k, hk, rfl, hs, hbl⟩ := hrel
      have hrk := hr.step hbl
      have hrk2 := hr2.step hbl
      by_cases hlt : k < n
      · obtain ⟨r, hrk0⟩ : ∃ r, l[k]? = some r := ⟨l[k]'(by omega), List.getElem?_eq_getElem _⟩
        obtain ⟨r2, hrk1⟩ : ∃ r, l2[k]? = some r := ⟨l2[k]'(by omega), List.getElem?_eq_getElem _⟩
        have Hrk := Lib.hid hrk0
        have Hrk1 := Lib.hid hrk1
        clear hrk0 hrk1
        have q1 := hrk.reach
        have q2 := hrk2.reach
        have hz := hbl.size
        have hsn : decide (r = r2) = true → l.take (k + 1) = l2.take (k + 1) := fun e => by
          rw [List.take_add_one, List.take_add_one, hs.out, Hrk.out, Hrk1.out, of_decide_eq_true e]
        have hno : decide (r = r2) = false → b = false := fun e => by
          rw [← hb.out]
          refine decide_eq_false fun h => ?_
          subst h
          have := Hrk.out.symm.trans Hrk1.out
          injection this with this
          exact of_decide_eq_false e this
        have Hsn := Lib.hid hsn
        have Hno := Lib.hid hno
        clear hsn hno
        go_upto_region 6 with fail
        refine wp_region_reach (by kernel_rfl) (by kernel_rfl) ?_
        repeat (first | go_big_quiet_skip | ((with_reducible refine onq_index (.tmp 17) ?_); refine wqk_at Ru.cs_length rfl _ (.tmp 17) _ rfl el_rule rfl rfl (by omega) (by omega) (Th.Reach.refl _ _) q1 ?_; intro b1 j1 r1 hr1 hc1; have hxx := get_eq Hrk.out hr1.out (by omega); subst hxx) | ((with_reducible refine onq_index (.tmp 21) ?_); refine wqk_at Ru.cs_length rfl _ (.tmp 21) _ rfl el_rule rfl rfl (by omega) (by omega) (Th.Reach.refl _ _) q2 ?_; intro b2 j2 r2' hr2' hc2; have hxx := get_eq Hrk1.out hr2'.out (by omega); subst hxx) | ((with_reducible refine onq_load (.tmp 19) ?_); refine wqr_load rfl _ (.tmp 19) rfl st_rule rfl hc1 ?_) | ((with_reducible refine onq_load (.tmp 23) ?_); refine wqr_load rfl _ (.tmp 23) rfl st_rule rfl hc2 ?_) | ((with_reducible refine onq_bin (.tmp 20) ?_); refine wq_neqR rfl _ _ rfl rfl rfl ?_) | go_big_quiet_step (fail) | quiet_step (fail))
        refine wpQuiet_nil ?_
        rintro _ ⟨q, rfl⟩
        have hqw2 := q.h
        obtain ⟨w2, hw2'⟩ : ∃ W, q.w = W := ⟨_, rfl⟩
        rw [hw2'] at hqw2 ⊢
        clear hw2' q
        have B2 := hbl.trans (hqw2.mono hz)
        obtain ⟨v, hv⟩ : ∃ v, decide (r = r2) = v := ⟨_, rfl⟩
        rw [hv] at Hsn Hno ⊢
        clear hv hc1 hc2
        cases v
        · have Hb := Hno.out rfl
          subst Hb
          clear hb Hno Hsn
          go_wp2
          go_ret
          exact ⟨rfl, B2⟩
        · have Hs2 := Lib.hid (Hsn.out rfl)
          clear Hno Hsn
          go_wp2
          go_roundw
          case rel => exact ⟨k + 1, by omega, by go_num, Hs2, B2⟩
          case measure => simp [intOf]; omega
      · obtain rfl : k = n := by omega
        have hs2 := hs.out
        rw [List.take_of_length_le (by omega), List.take_of_length_le (by omega)] at hs2
        have Hb : b = true := by rw [← hb.out]; exact decide_eq_true hs2
        subst Hb
        clear hb hs2
        go_wp2
        go_ret
        exact ⟨rfl, hbl⟩
def S9Rel (ns ns2 : List Nd) (n : Nat) (w1 : World) (i : Value) (wr : World) : Prop :=
  ∃ k : Nat, k ≤ n ∧ i = .int .i64 k ∧ Hid ((Nd.ls ns).take k = (Nd.ls ns2).take k) ∧ Below w1.heap.size w1 wr
set_option maxRecDepth 100000 in
set_option maxHeartbeats 2000000 in
theorem rsame9_any (A : Option Addr) (n c : Nat) (ns : List Nd) (A2 : Option Addr) (n2 c2 : Nat) (ns2 : List Nd) (w : World) (hn : n ≤ 1000000) (hn2 : n2 ≤ 1000000) (B B2 : Nat) (hr : NRd w B A n c ns) (hr2 : NRd w B2 A2 n2 c2 ns2) (hx : ∀ x ∈ ns, x.n ≤ 1000000) (hx2 : ∀ x ∈ ns2, x.n ≤ 1000000) (b : Bool) (hb : Hid (decide (Nd.ls ns = Nd.ls ns2) = b)) :
    Calls Try.prog 17 #[.agg #[.slice A n c], .agg #[.slice A2 n2 c2]] w (RetB (.bool b) w) := by
  have hl := hr.len
  have hl2 := hr2.len
  have Hx := Lib.hid hx
  have Hx2 := Lib.hid hx2
  clear hx hx2
  have k0 : Below w.heap.size w ((w.alloc (.cells #[.slice A n c] 24)).alloc (.cells #[.slice A2 n2 c2] 24)) := (below_alloc w (Nat.le_refl _) _).alloc (by simp) _
  have b0 := (Box.new w #[.slice A n c] 24).alloc (.cells #[.slice A2 n2 c2] 24)
  have b1 := Box.new (w.alloc (.cells #[.slice A n c] 24)) #[.slice A2 n2 c2] 24
  rw [heap_size_alloc] at b1
  go_enter Try.func17, Try.ntmps17
  go_upto_region 1 with fail
  obtain ⟨w1, hw1⟩ : ∃ W, (w.alloc (.cells #[.slice A n c] 24)).alloc (.cells #[.slice A2 n2 c2] 24) = W := ⟨_, rfl⟩
  rw [hw1] at k0 b0 b1 ⊢
  clear hw1
  have y0 : w1.cell? ⟨w.heap.size, 0, none⟩ = some (.slice A n c) := b0.cell 0
  have y1 : w1.cell? ⟨w.heap.size + 1, 0, none⟩ = some (.slice A2 n2 c2) := b1.cell 0
  by_cases hnn : n = n2
  rotate_left
  · have n1 : ((n : Int) != (n2 : Int)) = true := by simp; omega
    have Hb : b = false := by rw [← hb.out]; exact decide_eq_false fun e => by have := congrArg List.length e; rw [Nd.ls_len, Nd.ls_len] at this; exact hnn (by omega)
    subst Hb
    clear hb
    go_wp2
    go_ret
    exact ⟨rfl, k0⟩
  · subst hnn
    go_wp2_with fail
    go_loopw [5] (fun i wr => S9Rel ns ns2 n w1 i wr) (fun i _ => n - (intOf i).toNat)
    case atStart => exact ⟨0, by omega, rfl, Lib.hid rfl, Below.refl _ _⟩
    case round =>
      obtain ⟨k, hk, rfl, hs, hbl⟩ := hrel
      have hrk := (hr.step k0).step hbl
      have hrk2 := (hr2.step k0).step hbl
      have yk : wr.cell? ⟨w.heap.size, 0, none⟩ = some (.slice A n c) := (b0.step hbl).cell 0
      have kk := k0.trans (hbl.mono k0.size)
      by_cases hlt : k < n
      · obtain ⟨x, hx0⟩ : ∃ r, ns[k]? = some r := ⟨ns[k]'(by omega), List.getElem?_eq_getElem _⟩
        obtain ⟨x2, hx1⟩ : ∃ r, ns2[k]? = some r := ⟨ns2[k]'(by omega), List.getElem?_eq_getElem _⟩
        have hm := List.mem_of_getElem? hx0
        have hm2 := List.mem_of_getElem? hx1
        have q1 := hrk.rd.reach
        have q2 := hrk2.rd.reach
        have qa : ∀ q : Step wr.heap.size wr, q.w.cell? ⟨w.heap.size, 0, none⟩ = some (.slice A n c) := fun q => ((b0.step hbl).step q.h).cell 0
        have qb : ∀ q : Step wr.heap.size wr, q.w.cell? ⟨w.heap.size + 1, 0, none⟩ = some (.slice A2 n c2) := fun q => ((b1.step hbl).step q.h).cell 0
        obtain ⟨v, hv⟩ : ∃ v, decide (x.l = x2.l) = v := ⟨_, rfl⟩
        have Hsame := Lib.hid (fun q : Step wr.heap.size wr => rsame8_any x.A x.n x.c x.l x2.A x2.n x2.c x2.l q.w (Hx.out x hm) (Hx2.out x2 hm2) B B2 ((hrk.rk x hm).step q.h) ((hrk2.rk x2 hm2).step q.h) v (Lib.hid hv))
        have hsn : v = true → (Nd.ls ns).take (k + 1) = (Nd.ls ns2).take (k + 1) := fun e => by
          rw [List.take_add_one, List.take_add_one, hs.out, Nd.ls_get hx0, Nd.ls_get hx1]
          rw [e] at hv
          rw [of_decide_eq_true hv]
        have hno : v = false → b = false := fun e => by
          rw [← hb.out]
          refine decide_eq_false fun h => ?_
          have h1 := Nd.ls_get hx0
          rw [h] at h1
          have h2 := h1.symm.trans (Nd.ls_get hx1)
          injection h2 with h2
          rw [e] at hv
          exact of_decide_eq_false hv h2
        have Hsn := Lib.hid hsn
        have Hno := Lib.hid hno
        have Hx0 := Lib.hid hx0
        have Hx1 := Lib.hid hx1
        clear hsn hno hx0 hx1 hm hm2 hv
        go_upto_region 6 with fail
        refine wp_region_reach (by kernel_rfl) (by kernel_rfl) ?_
        repeat (first | go_big_quiet_skip | ((with_reducible refine onq_index (.tmp 21) ?_); refine wqn_at rfl _ (.tmp 21) _ rfl el_row rfl rfl (by omega) (by omega) (Th.Reach.refl _ _) (fun w' hw => q1.rd w' hw) ?_; intro b5 j5 x5 hr5 hc5; have hxx := get_eq Hx0.out hr5.out (by omega); subst hxx; have f5 : ∀ q : Step wr.heap.size wr, q.w.cell? ⟨b5, j5, none⟩ = some (.slice x.A x.n x.c) := fun q => hc5.out q.w ⟨q, rfl⟩) | ((with_reducible refine onq_index (.tmp 26) ?_); refine wqn_at rfl _ (.tmp 26) _ rfl el_row rfl rfl (by omega) (by omega) (Th.Reach.refl _ _) (fun w' hw => q2.rd w' hw) ?_; intro b6 j6 x6 hr6 hc6; have hxx := get_eq Hx1.out hr6.out (by omega); subst hxx; have f6 : ∀ q : Step wr.heap.size wr, q.w.cell? ⟨b6, j6, none⟩ = some (.slice x2.A x2.n x2.c) := fun q => hc6.out q.w ⟨q, rfl⟩) | go_big_quiet_step ((with_reducible exact Calls.reach (Hsame.out _))) | quiet_step ((with_reducible exact Calls.reach (Hsame.out _))))
        refine wpQuiet_nil ?_
        rintro _ ⟨q, rfl⟩
        have hqw2 := q.h
        obtain ⟨w2, hw2'⟩ : ∃ W, q.w = W := ⟨_, rfl⟩
        rw [hw2'] at hqw2 ⊢
        clear hw2' q
        have Bw2 := hbl.trans (hqw2.mono hbl.size)
        have kk2 := kk.trans (hqw2.mono kk.size)
        clear Hsame q1 q2 qa qb
        cases v
        · have Hb := Hno.out rfl
          subst Hb
          clear hb Hno Hsn
          go_wp2
          go_ret
          exact ⟨rfl, kk2⟩
        · have Hs2 := Lib.hid (Hsn.out rfl)
          clear Hno Hsn
          go_wp2
          go_roundw
          case rel => exact ⟨k + 1, by omega, by go_num, Hs2, Bw2⟩
          case measure => simp [intOf]; omega
      · obtain rfl : k = n := by omega
        have hs2 := hs.out
        rw [List.take_of_length_le (by rw [Nd.ls_len]; omega), List.take_of_length_le (by rw [Nd.ls_len]; omega)] at hs2
        have Hb : b = true := by rw [← hb.out]; exact decide_eq_true hs2
        subst Hb
        clear hb hs2
        go_wp2
        go_ret
        exact ⟨rfl, kk⟩
end Go.Proofs.Ytgapcmodhcdebaa
