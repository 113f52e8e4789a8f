/-
  The walks of layer 8 (table).
-/
import Derived.Test.YtijobfkmchbpcaaRuleWalk
import Derived.Test.YtijobfkmchbpcaaTablePlain
import Derived.Test.YtijobfkmchbpcaaRuleAt
namespace Go.Proofs.Ytijobfkmchbpcaa
open Go.RowKit Go.Th
set_option linter.unusedVariables false
/-- A rule and a yes or no come back. -/
def RetRule (p : Ru × Bool) (w : World) (e : Ending) (w' : World) : Prop := e = .returned (.tuple #[.agg #[.int .u32 p.1.a, .int .i64 p.1.n, .int .i64 p.1.act, .int .i64 p.1.next], .bool p.2]) ∧ Below w.heap.size w w'
/-- The loop's relation: k rules were looked at. -/
def FindRel (x : Int) (l : List Ru) (n : Nat) (w : World) (fd i : Value) (wr : World) : Prop :=
  ∃ (k : Nat) (best : Ru) (b : Bool), k ≤ n ∧ i = .int .i64 k ∧ fd = .bool b ∧ Hid (tfind (l.take k) x = (best, b)) ∧ Box wr (w.heap.size + 1) 25 best.cs.toArray ∧ Box wr w.heap.size 25 Ru.zero.cs.toArray ∧ Below w.heap.size w wr
set_option maxHeartbeats 1000000 in
theorem find_any (A : Option Addr) (n c : Nat) (l : List Ru) (x : Int) (w : World) (hm : n ≤ 9223372036854775807) (B : Nat) (hr : RdM Ru.cs w B A n c l) (hok : ∀ r ∈ l, r.Ok) (hx : 0 ≤ x ∧ x ≤ 4294967295) :
    Calls Try.prog 18 #[.slice A n c, .int .u32 x] w (RetRule (tfind l x) w) := by
  have Hok := Lib.hid hok
  have Hx := Lib.hid hx
  clear hok
  go_enter Try.func18, Try.ntmps18
  go_wp2
  go_step3
  go_wp2
  go_step3
  go_wp2
  go_loopw [7, 12] (fun fd i wr => FindRel x l n w fd i wr) (fun _ i _ => n - (intOf i).toNat)
  case atStart => exact ⟨0, Ru.zero, false, by omega, rfl, rfl, rfl, (by have := Box.new (w.alloc (.cells Ru.zero.cs.toArray 25)) Ru.zero.cs.toArray 25; simpa [Ru.cs, Ru.zero] using this), (by have := (Box.new w Ru.zero.cs.toArray 25).alloc (.cells Ru.zero.cs.toArray 25); simpa [Ru.cs, Ru.zero] using this), (by repeat (first | exact Below.refl _ _ | refine Below.drew ?_ | refine Below.alloc ?_ (by first | (simp; done) | (simp; omega)) _ | refine Below.setCell ?_ (by first | (simp; done) | (simp; omega)) _ | assumption))⟩
  case round =>
    obtain ⟨k, best, b, hk, rfl, rfl, hf, hbest, hzero, hb⟩ := hrel
    have hrk : RdM Ru.cs wr B A n c l := hr.step hb
    by_cases hlt : k < n
    · obtain ⟨r, hrk0⟩ : ∃ r, l[k]? = some r := ⟨l[k]'(by rw [hr.len]; omega), List.getElem?_eq_getElem _⟩
      have hro := Hok.out r (List.mem_of_getElem? hrk0)
      have hsn := tfind_snoc x hrk0
      rw [hf.out] at hsn
      have Hsn := Lib.hid hsn
      have Hrk := Lib.hid hrk0
      have Hra := Lib.hid hro.a
      have Hrn := Lib.hid hro.n
      clear hsn hrk0 hro
      have hl1 := hbest.lt
      have c0 : wr.cell? ⟨w.heap.size + 1, 1, none⟩ = some (.int .i64 best.n) := hbest.cell 1
      have hways : (holds r.a r.n x = false ∧ fstep x (best, b) r = (best, b)) ∨ (holds r.a r.n x = true ∧ b = true ∧ r.n ≤ best.n ∧ fstep x (best, b) r = (best, b)) ∨ (holds r.a r.n x = true ∧ b = true ∧ ¬ r.n ≤ best.n ∧ fstep x (best, b) r = (r, true)) ∨ (holds r.a r.n x = true ∧ b = false ∧ fstep x (best, b) r = (r, true)) := by
        unfold fstep Ru.holds
        cases h1 : holds r.a r.n x <;> cases b <;> simp
        by_cases h2 : r.n ≤ best.n
        · left; simp [h2]; intro h; omega
        · right; simp [h2]; omega
      rcases hways with ⟨hh, h3⟩ | ⟨hh, rfl, h2, h3⟩ | ⟨hh, rfl, h2, h3⟩ | ⟨hh, rfl, h3⟩
      all_goals
        rw [h3] at Hsn
        have Hh := Lib.hid hh
        clear hh h3
        go_wp2_with (first
          | ((with_reducible refine on_index (.tmp 10) ?_); refine wm_at Ru.cs_length rfl _ _ _ rfl el_rule rfl rfl (by omega) (by omega) hrk ?_; intro b1 j1 r1 hr1 hb1 hc1; have hxx : r = r1 := (by have e := hr1.out; rw [Int.toNat_natCast, Hrk.out] at e; injection e); subst hxx)
          | ((with_reducible refine on_load (.tmp 14) ?_); refine wr_load rfl _ _ rfl st_rule rfl hc1 ?_)
          | (go_at_call 19; refine (holds_any _ _ _ _ Hra.out Hrn.out Hx.out).mono ?_; rintro e w2 ⟨rfl, rfl⟩; rw [Hh.out])
          | ((with_reducible refine on_store ?_); refine wr_store (r := best) rfl _ _ _ rfl st_rule rfl rfl (hbest.alloc _) ?_; intro w3 hbest3 hg3))
      · go_roundw
        case rel => exact ⟨k + 1, best, b, by omega, by go_num, rfl, Hsn.out, hbest.alloc _, hzero.alloc _, hb.alloc hb.size _⟩
        case measure => simp [intOf]; omega
      · go_roundw
        case rel => exact ⟨k + 1, best, true, by omega, by go_num, rfl, Hsn.out, hbest.alloc _, hzero.alloc _, hb.alloc hb.size _⟩
        case measure => simp [intOf]; omega
      all_goals
        go_roundw
        case rel => exact ⟨k + 1, r, true, by omega, by go_num, rfl, Hsn.out, hbest3, (hzero.alloc _).grown hg3 (by intro e; injection e with e; omega), (hb.alloc hb.size _).trans (below_of_grown hg3 (by intro g e; injection e with e; omega) (by simp; have := hb.size; omega))⟩
        case measure => simp [intOf]; omega
    · have hkn : k = n := by omega
      have hfin : tfind l x = (best, b) := by rw [← hf.out, List.take_of_length_le (by rw [hr.len]; omega)]
      have Hfin := Lib.hid hfin
      clear hfin
      go_wp2_with (first
        | ((with_reducible refine on_load (.tmp 6) ?_); refine wr_box rfl _ _ rfl st_rule rfl hbest ?_)
        | ((with_reducible refine on_store ?_); refine wr_store (r := Ru.zero) rfl _ _ _ rfl st_rule rfl rfl hzero ?_; intro w3 hz3 hg3))
      obtain ⟨e0, e1, e2, e3⟩ := hz3.rule
      refine bodyPost_ret (v := .tuple #[.agg #[.int .u32 best.a, .int .i64 best.n, .int .i64 best.act, .int .i64 best.next], .bool b]) ?_ rfl ⟨(by rw [Hfin.out]), hb.trans (below_of_grown hg3 (by intro g e; injection e with e; omega) hb.size)⟩
      simp [results, Try.results18, go_sem, e0, e1, e2, e3]
theorem find_is (A : Option Addr) (n c : Nat) (l : List Ru) (x : Int) (w : World) (hm : n ≤ 9223372036854775807) (B : Nat) (hr : RdM Ru.cs w B A n c l) (hok : ∀ r ∈ l, r.Ok) (hx : 0 ≤ x ∧ x ≤ 4294967295) (s : Ru) (b : Bool) (h : tfind l x = (s, b)) :
    Calls Try.prog 18 #[.slice A n c, .int .u32 x] w fun e w' => e = .returned (.tuple #[.agg #[.int .u32 s.a, .int .i64 s.n, .int .i64 s.act, .int .i64 s.next], .bool b]) ∧ Below w.heap.size w w' := by
  have := find_any A n c l x w hm B hr hok hx
  rw [h] at this
  exact this
/-- A number and a yes or no come back. -/
def RetIB (p : Int × Bool) (w : World) (e : Ending) (w' : World) : Prop := e = .returned (.tuple #[.int .i64 p.1, .bool p.2]) ∧ Below w.heap.size w w'
theorem next_any (A : Option Addr) (n c : Nat) (l : List Ru) (x : Int) (w : World) (hm : n ≤ 9223372036854775807) (B : Nat) (hr : RdM Ru.cs w B A n c l) (hok : ∀ r ∈ l, r.Ok) (hx : 0 ≤ x ∧ x ≤ 4294967295) :
    Calls Try.prog 20 #[.slice A n c, .int .u32 x] w (RetIB (tnext l x) w) := by
  have hc := find_any A n c l x w hm B hr hok hx
  obtain ⟨best, b, hp⟩ : ∃ best b, tfind l x = (best, b) := ⟨_, _, rfl⟩
  have hn : tnext l x = if b = true ∧ best.act = 1 then (best.next, true) else (0, false) := by unfold tnext; rw [hp]
  have hways : (b = false ∧ tnext l x = (0, false)) ∨ (b = true ∧ (best.act != 1) = true ∧ tnext l x = (0, false)) ∨ (b = true ∧ (best.act != 1) = false ∧ tnext l x = (best.next, true)) := by
    rw [hn]
    cases b
    · simp
    · by_cases h : best.act = 1 <;> simp [h]
  have Hc := Lib.hid hc
  rw [hp] at Hc
  clear hc hn hp
  generalize tnext l x = v at *
  rcases hways with ⟨rfl, rfl⟩ | ⟨rfl, h, rfl⟩ | ⟨rfl, h, rfl⟩
  all_goals go_enter Try.func20, Try.ntmps20
  all_goals go_wp2_with (go_at_call 18; refine Hc.out.mono ?_; rintro e w1 ⟨rfl, hb1⟩)
  all_goals go_ret2
  all_goals exact ⟨rfl, hb1.alloc hb1.size _⟩
def exRules : List Ru := [⟨167772160, 8, 1, 1⟩, ⟨167837696, 16, 1, 2⟩]
theorem shown8 (w : World) : Calls Try.prog 15 #[] w (RetB (.bool true) w) := by
  have h2 : tnext exRules 167838211 = (2, true) := by decide +kernel
  have hr : RdM Ru.cs (w.alloc (.cells #[.int .u32 167772160, .int .i64 8, .int .i64 1, .int .i64 1, .int .u32 167837696, .int .i64 16, .int .i64 1, .int .i64 2] 25)) (w.heap.size + 1) (some ⟨w.heap.size, 0, none⟩) 2 2 exRules := by
    have := (OwM.lit (base := w.heap.size) (e := 25) Ru.cs_length w #[.int .u32 167772160, .int .i64 8, .int .i64 1, .int .i64 1, .int .u32 167837696, .int .i64 16, .int .i64 1, .int .i64 2] 2 (Nat.le_refl _) (by simp [maxLen]) (xs := exRules) rfl rfl).rd
    simpa using this
  have hc := next_any _ 2 2 exRules 167838211 _ (by omega) _ hr (by intro r hr; simp [exRules] at hr; rcases hr with rfl | rfl <;> exact ⟨by decide, by decide, by decide, by decide⟩) (by omega)
  rw [h2] at hc
  have Hc := Lib.hid hc
  clear hc h2 hr
  go_enter Try.func15, Try.ntmps15
  go_wp2_with (go_at_call 20; refine Hc.out.mono ?_; rintro e w1 ⟨rfl, hb1⟩)
  go_ret
  exact ⟨rfl, (below_alloc w (Nat.le_refl _) _).trans (hb1.mono (by simp))⟩
end Go.Proofs.Ytijobfkmchbpcaa
