/-
  theseuslaw08.TableHosts: the walk.
-/
import Derived.Test.YtijobfkmchbpcaaTableRef
import Derived.Test.YtijobfkmchbpcaaTableLaw
import Derived.Test.YtijobfkmchbpcaaTableMore
namespace Go.Proofs.Ytijobfkmchbpcaa
open Go.RowKit Go.Th
set_option linter.unusedVariables false
/-- The loop: the rules of other prefixes. -/
def HostRel (a : Int) (ws : List Ru) (m base : Nat) (w1 : World) (g : Nat) (s : Ru) (rest i : Value) (wr : World) : Prop :=
  ∃ (k q c : Nat) (A : Option Addr), k ≤ m ∧ q ≤ k ∧ rest = .slice A q c ∧ i = .int .i64 k ∧ OwM Ru.cs 4 wr base 25 A q c (others a (ws.take k)) ∧ Below base w1 wr
theorem next_is (A : Option Addr) (n c : Nat) (l : List Ru) (x : Int) (w : World) (hm : n ≤ 9223372036854775807) (B : Nat) (hr : RdM Ru.cs w B A n c l) (hok : ∀ r ∈ l, r.Ok) (hx : 0 ≤ x ∧ x ≤ 4294967295) (s : Int) (b : Bool) (h : tnext l x = (s, b)) :
    Calls Try.prog 20 #[.slice A n c, .int .u32 x] w fun e w' => e = .returned (.tuple #[.int .i64 s, .bool b]) ∧ Below w.heap.size w w' := by
  have := next_any A n c l x w hm B hr hok hx
  rw [h] at this
  exact this
theorem sound9h : Sound 9 := by unfold Sound; omega
set_option maxHeartbeats 4000000 in
set_option maxRecDepth 100000 in
theorem tableHosts_walk (A : Option Addr) (n c : Nat) (l : List Ru) {w : World} (hr : RdM Ru.cs w w.heap.size A n c l) (hm : n ≤ 9223372036854775807) (hok : ∀ r ∈ l, r.Ok) (a : Int) (ha : 0 ≤ a ∧ a ≤ 4294967295) (x : Int) (hx : 0 ≤ x ∧ x ≤ 4294967295) :
    Calls Try.prog 4 #[.slice A n c, .int .u32 a, .int .u32 x] w fun e w' => e = .returned (.bool true) ∧ Below w.heap.size w w' := by
  obtain ⟨m, hm1, hm2, hm3⟩ : ∃ m : Nat, m ≤ n ∧ m ≤ 19 ∧ (m = n ∨ (m = 19 ∧ 19 < n)) := ⟨min n 19, by omega, by omega, by omega⟩
  obtain ⟨ws, hws⟩ : ∃ ws, fitT (l.take m) 9 = ws := ⟨_, rfl⟩
  have hokm : ∀ r ∈ l.take m, r.Ok := fun r h => hok r (List.mem_of_mem_take h)
  have hgw : GoodT ws := by rw [← hws]; exact fitT_good sound9h _ hokm
  have hfw : Fitted 9 ws := by rw [← hws]; exact fitT_fitted sound9h _ hokm
  have hwl : ws.length ≤ 19 := by rw [← hws]; have := fitT_length (l.take m) 9; rw [List.length_take] at this; omega
  have hlaw := hosts hgw hfw hwl ha hx
  obtain ⟨rest, hrest⟩ : ∃ rest, others a ws = rest := ⟨_, rfl⟩
  obtain ⟨more, hmore⟩ : ∃ more, fitT (host a :: others a ws) 9 = more := ⟨_, rfl⟩
  rw [hmore, hrest] at hlaw
  obtain ⟨hgm, hfa, hna, hfx⟩ := hlaw
  rw [hrest] at hmore
  have hokr : ∀ t ∈ rest, t.Ok := fun t ht => (hgw.pre t (by rw [← hrest] at ht; exact others_mem ht)).ok
  have hokh : (host a).Ok := (host_pre ha).ok
  have hokhr : ∀ t ∈ [host a] ++ rest, t.Ok := fun t ht => by
    rcases List.mem_append.1 ht with ht | ht
    · rw [List.mem_singleton.1 ht]; exact hokh
    · exact hokr t ht
  have hokmo : ∀ t ∈ more, t.Ok := fun t ht => (hgm.pre t ht).ok
  have hlm : more.length ≤ 20 := by rw [← hmore]; have := fitT_length (host a :: rest) 9; omega
  have Hws := Lib.hid hws
  have Hgw := Lib.hid hgw
  have Hrest := Lib.hid hrest
  have Hmore := Lib.hid hmore
  have Hfa := Lib.hid hfa
  have Hna := Lib.hid hna
  have Hfx := Lib.hid hfx
  have Hwl := Lib.hid hwl
  have Hx := Lib.hid hx
  have Ha := Lib.hid ha
  have Hokm := Lib.hid hokm
  have Hokr := Lib.hid hokr
  have Hokhr := Lib.hid hokhr
  have Hokmo := Lib.hid hokmo
  have Hlm := Lib.hid hlm
  clear hws hgw hfw hrest hmore hgm hfa hna hfx hwl hokm hokr hokh hokhr hokmo hok hx ha hlm
  rcases hm3 with rfl | ⟨rfl, hm3⟩
  all_goals go_enter Try.func4, Try.ntmps4
  all_goals go_wp2_with (first
    | (go_at_call 15; refine (shown8 _).mono ?_; rintro e w1 ⟨rfl, hb1⟩)
    | ((with_reducible refine on_slice (.tmp 22) ?_); first | (refine wm_cut_h Ru.cs_length rfl _ _ el_rule rfl (hr.step hb1) _ rfl rfl m (by omega) ?_; intro A20 r20) | (refine wm_cut_h Ru.cs_length rfl _ _ el_rule rfl (hr.step hb1) _ rfl rfl 19 (by omega) ?_; intro A20 r20))
    | (go_at_call 16; refine (fit_any _ _ _ _ 9 _ (by omega) _ r20 Hokm.out sound9h).mono ?_; rintro e w2 ⟨A8, m8, c8, rfl, hm8, how8, hb2⟩; rw [Hws.out] at how8))
  all_goals
    have hh := Box.new w2 (host a).cs.toArray 25
    have hb12 := next hb1 hb2
    have how8 := how8.alloc (.cells (host a).cs.toArray 25)
    have hm8 : m8 ≤ 19 := by have := how8.len; have := Hwl.out; omega
    obtain ⟨W, hW⟩ : ∃ W, W = w2.alloc (.cells #[.int .u32 a, .int .i64 32, .int .i64 2, .int .i64 0] 25) := ⟨_, rfl⟩
    have hhW : Box W w2.heap.size 25 (host a).cs.toArray := by rw [hW]; exact hh
    have how8W : OwM Ru.cs 4 W w1.heap.size 25 A8 m8 c8 ws := by rw [hW]; exact how8
    have hbW : Below w.heap.size w W := by rw [hW]; exact hb12.alloc hb12.size _
    have hWs := Lib.hid (show w2.heap.size + 1 = W.heap.size by rw [hW]; simp)
    rw [← hW]
    clear hW how8 hh hb1 hb2 hb12 r20 hr
    go_loopw [10, 11] (fun r i wr => HostRel a ws m8 W.heap.size W w2.heap.size (host a) r i wr) (fun _ i _ => 20 - (intOf i).toNat)
    case atStart => exact ⟨0, 0, 0, _, by omega, by omega, rfl, rfl, OwM.lit' Ru.cs_length W #[] 0 _ hWs.out (Nat.le_refl _) (by simp [maxLen]) rfl rfl, below_alloc _ (Nat.le_refl _) _⟩
    case round =>
      obtain ⟨k, q, c1, A1, hk, hq, rfl, rfl, how, hb⟩ := hrel
      have r8 := (how8W.below hb).rd
      have l8 := r8.len
      have hbs := hb.size
      by_cases hlt : k < m8
      · obtain ⟨t, ht⟩ : ∃ t, ws[k]? = some t := ⟨ws[k]'(by omega), List.getElem?_eq_getElem _⟩
        have hst := others_step a ht
        have Ht := Lib.hid ht
        clear ht
        have hw3 : ((t.a != a) = true ∧ others a (ws.take (k + 1)) = others a (ws.take k) ++ [t]) ∨ ((t.a != a) = false ∧ (t.n != 32) = true ∧ others a (ws.take (k + 1)) = others a (ws.take k) ++ [t]) ∨ ((t.a != a) = false ∧ (t.n != 32) = false ∧ others a (ws.take (k + 1)) = others a (ws.take k)) := by
          rw [hst]
          by_cases h1 : t.a = a <;> by_cases h2 : t.n = 32 <;> simp [h1, h2]
        rcases hw3 with ⟨n1, h5⟩ | ⟨n1, n2, h5⟩ | ⟨n1, n2, h5⟩
        all_goals
          have H5 := Lib.hid h5
          clear h5 hst
          go_wp2_with (first
            | ((with_reducible refine on_index (.tmp 37) ?_); refine wm_at Ru.cs_length rfl _ _ _ rfl el_rule rfl rfl (by omega) (by omega) r8 ?_; intro b1 j1 t1 ht1 hb1 hc1; have hxx : t = t1 := (by have e := ht1.out; rw [Int.toNat_natCast, Ht.out] at e; injection e); subst hxx; have c0 : wr.cell? ⟨b1, j1, none⟩ = some (.int .u32 t.a) := hc1.out 0 _ rfl)
            | ((with_reducible refine on_index (.tmp 45) ?_); refine wm_at Ru.cs_length rfl _ _ _ rfl el_rule rfl rfl (by omega) (by omega) r8 ?_; intro b2 j2 t1 ht1 hb2 hc2; have hxx : t = t1 := (by have e := ht1.out; rw [Int.toNat_natCast, Ht.out] at e; injection e); subst hxx; have c1' : wr.cell? ⟨b2, j2 + 1, none⟩ = some (.int .i64 t.n) := hc2.out 1 _ rfl)
            | ((with_reducible refine on_index (.tmp 53) ?_); refine wm_at Ru.cs_length rfl _ _ _ rfl el_rule rfl rfl (by omega) (by omega) r8 ?_; intro b3 j3 t1 ht1 hb3 hc3; have hxx : t = t1 := (by have e := ht1.out; rw [Int.toNat_natCast, Ht.out] at e; injection e); subst hxx)
            | ((with_reducible refine on_load (.tmp 55) ?_); refine wr_load rfl _ _ rfl st_rule rfl hc3 ?_)
            | ((with_reducible refine on_append (.tmp 52) (.tmp 57) ?_); refine wm_append Ru.cs_length rfl (.tmp 52) (.tmp 57) _ rfl el_rule Ru.one rfl (how.alloc _) rfl (OwM.lit (base := wr.heap.size) (e := 25) (xs := [t]) Ru.cs_length wr #[.int .u32 t.a, .int .i64 t.n, .int .i64 t.act, .int .i64 t.next] 1 (Nat.le_refl _) (by simp [maxLen]) rfl rfl).rd (by omega) (by omega) (by first | (simp; done) | (simp; omega) | omega) ?_; intro A4 c4 w4 how4 _ hb4))
        · go_roundw
          case rel => exact ⟨k + 1, q + 1, c4, A4, by omega, by omega, rfl, by go_num, (by rw [H5.out]; exact how4), (hb.alloc hbs _).trans hb4⟩
          case measure => simp [intOf]; omega
        · go_roundw
          case rel => exact ⟨k + 1, q + 1, c4, A4, by omega, by omega, rfl, by go_num, (by rw [H5.out]; exact how4), (hb.alloc hbs _).trans hb4⟩
          case measure => simp [intOf]; omega
        · go_roundw
          case rel => exact ⟨k + 1, q, c1, A1, by omega, by omega, rfl, by go_num, (by rw [H5.out]; exact how), hb⟩
          case measure => simp [intOf]; omega
      · have hkm : k = m8 := by omega
        have how : OwM Ru.cs 4 wr W.heap.size 25 A1 q c1 rest := by
          rw [List.take_of_length_le (by omega), Hrest.out] at how
          exact how
        have hbox := hhW.below hb hhW.lt
        have hbw := hbW.trans (hb.mono hbW.size)
        have hkm' : ¬ (k : Int) < m8 := by omega
        have hq19 : q ≤ 19 := by omega
        clear r8 l8 hkm hb hbW how8W hhW
        obtain ⟨t, is, ht⟩ : ∃ t is, tfind more x = (t, is) := ⟨_, _, rfl⟩
        obtain ⟨u, was, hu⟩ : ∃ u was, tfind rest x = (u, was) := ⟨_, _, rfl⟩
        have hways : (a == x) = true ∨ ((a == x) = false ∧ t = u ∧ is = was) := by
          rcases Hfx.out with h | h
          · left; simp [h]
          · rw [ht, hu] at h
            injection h with h1 h2
            by_cases e : a = x
            · left; simp [e]
            · right; exact ⟨by simp [e], h1, h2⟩
        have Htf := Lib.hid ht
        have Huf := Lib.hid hu
        clear ht hu
        rcases hways with nx | ⟨nx, rfl, rfl⟩
        · go_wp2_with (first
            | ((with_reducible refine on_load (.tmp 9) ?_); refine wr_box rfl _ _ rfl st_rule rfl hbox ?_)
            | ((with_reducible refine on_append (.tmp 60) (.tmp 61) ?_); refine wm_append Ru.cs_length rfl (.tmp 60) (.tmp 61) _ rfl el_rule Ru.one rfl (OwM.lit (base := wr.heap.size) (e := 25) (xs := [host a]) Ru.cs_length wr #[.int .u32 a, .int .i64 32, .int .i64 2, .int .i64 0] 1 (Nat.le_refl _) (by simp [maxLen]) rfl rfl) rfl (how.alloc _).rd (by omega) (by omega) (by first | (simp; done) | (simp; omega) | omega) ?_; intro A62 c62 w62 how62 _ hb62; have H62 : Below wr.heap.size wr w62 := (below_alloc wr (Nat.le_refl _) _).trans hb62)
            | (go_at_call 16; refine (fit_any _ _ _ _ 9 _ (by omega) _ how62.rd Hokhr.out sound9h).mono ?_; rintro e w63 ⟨A63, m63, c63, rfl, hm63, how63, hb63⟩; rw [show [host a] ++ rest = host a :: rest from rfl, Hmore.out] at how63))
          have H63 : Below wr.heap.size wr w63 := H62.trans (hb63.mono H62.size)
          have howr := how.below H63
          have hbox := hbox.step H63
          have hbw := hbw.trans (H63.mono hbw.size)
          have l63 := how63.len
          have hm63 : m63 ≤ 9223372036854775807 := by omega
          clear H62 hb63 how how62 H63
          go_wp2_with fail
          refine (find_is _ _ _ _ _ _ hm63 _ how63.rd Hokmo.out Ha.out _ _ Hfa.out).mono ?_
          rintro e w5 ⟨rfl, hb5⟩
          have how63 := (how63.below hb5).alloc (.cells (Ru.cs (host a)).toArray 25)
          have howr := (howr.below hb5).alloc (.cells (Ru.cs (host a)).toArray 25)
          have hbox := (hbox.step hb5).alloc (.cells (Ru.cs (host a)).toArray 25)
          have bx13 := Box.new w5 (Ru.cs (host a)).toArray 25
          have hbw := hbw.trans (hb5.mono hbw.size)
          have hbw := hbw.alloc hbw.size (.cells (Ru.cs (host a)).toArray 25)
          clear hb5
          go_wp2_with fail
          refine (find_is _ _ _ _ _ _ hm63 _ how63.rd Hokmo.out Hx.out _ _ Htf.out).mono ?_
          rintro e w6 ⟨rfl, hb6⟩
          have how63 := (how63.below hb6).alloc (.cells (Ru.cs t).toArray 25)
          have howr := (howr.below hb6).alloc (.cells (Ru.cs t).toArray 25)
          have hbox := (hbox.step hb6).alloc (.cells (Ru.cs t).toArray 25)
          have bx13 := (bx13.step hb6).alloc (.cells (Ru.cs t).toArray 25)
          have bx15 := Box.new w6 (Ru.cs t).toArray 25
          have hbw := hbw.trans (hb6.mono hbw.size)
          have hbw := hbw.alloc hbw.size (.cells (Ru.cs t).toArray 25)
          clear hb6
          go_wp2_with fail
          refine (find_is _ _ _ _ _ _ (by omega) _ howr.rd Hokr.out Hx.out _ _ Huf.out).mono ?_
          rintro e w7 ⟨rfl, hb7⟩
          have how63 := (how63.below hb7).alloc (.cells (Ru.cs u).toArray 25)
          have hbox := (hbox.step hb7).alloc (.cells (Ru.cs u).toArray 25)
          have bx13 := (bx13.step hb7).alloc (.cells (Ru.cs u).toArray 25)
          have bx15 := (bx15.step hb7).alloc (.cells (Ru.cs u).toArray 25)
          have bx17 := Box.new w7 (Ru.cs u).toArray 25
          have hbw := hbw.trans (hb7.mono hbw.size)
          have hbw := hbw.alloc hbw.size (.cells (Ru.cs u).toArray 25)
          clear hb7
          go_wp2_with fail
          refine (next_is _ _ _ _ _ _ hm63 _ how63.rd Hokmo.out Ha.out _ _ Hna.out).mono ?_
          rintro e w8 ⟨rfl, hb8⟩
          have hbox := hbox.step hb8
          have bx13 := bx13.step hb8
          have bx15 := bx15.step hb8
          have bx17 := bx17.step hb8
          have hbw := hbw.trans (hb8.mono hbw.size)
          obtain ⟨d0, d1, d2, d3⟩ := hbox.rule
          obtain ⟨e0, e1, e2, e3⟩ := bx13.rule
          obtain ⟨f0, f1, f2, f3⟩ := bx15.rule
          obtain ⟨g0, g1, g2, g3⟩ := bx17.rule
          clear hb8 how63 howr hbox bx13 bx15 bx17
          go_wp2_with fail
          go_ret
          exact ⟨rfl, hbw⟩
        · go_wp2_with (first
            | ((with_reducible refine on_load (.tmp 9) ?_); refine wr_box rfl _ _ rfl st_rule rfl hbox ?_)
            | ((with_reducible refine on_append (.tmp 60) (.tmp 61) ?_); refine wm_append Ru.cs_length rfl (.tmp 60) (.tmp 61) _ rfl el_rule Ru.one rfl (OwM.lit (base := wr.heap.size) (e := 25) (xs := [host a]) Ru.cs_length wr #[.int .u32 a, .int .i64 32, .int .i64 2, .int .i64 0] 1 (Nat.le_refl _) (by simp [maxLen]) rfl rfl) rfl (how.alloc _).rd (by omega) (by omega) (by first | (simp; done) | (simp; omega) | omega) ?_; intro A62 c62 w62 how62 _ hb62; have H62 : Below wr.heap.size wr w62 := (below_alloc wr (Nat.le_refl _) _).trans hb62)
            | (go_at_call 16; refine (fit_any _ _ _ _ 9 _ (by omega) _ how62.rd Hokhr.out sound9h).mono ?_; rintro e w63 ⟨A63, m63, c63, rfl, hm63, how63, hb63⟩; rw [show [host a] ++ rest = host a :: rest from rfl, Hmore.out] at how63))
          have H63 : Below wr.heap.size wr w63 := H62.trans (hb63.mono H62.size)
          have howr := how.below H63
          have hbox := hbox.step H63
          have hbw := hbw.trans (H63.mono hbw.size)
          have l63 := how63.len
          have hm63 : m63 ≤ 9223372036854775807 := by omega
          clear H62 hb63 how how62 H63
          go_wp2_with fail
          refine (find_is _ _ _ _ _ _ hm63 _ how63.rd Hokmo.out Ha.out _ _ Hfa.out).mono ?_
          rintro e w5 ⟨rfl, hb5⟩
          have how63 := (how63.below hb5).alloc (.cells (Ru.cs (host a)).toArray 25)
          have howr := (howr.below hb5).alloc (.cells (Ru.cs (host a)).toArray 25)
          have hbox := (hbox.step hb5).alloc (.cells (Ru.cs (host a)).toArray 25)
          have bx13 := Box.new w5 (Ru.cs (host a)).toArray 25
          have hbw := hbw.trans (hb5.mono hbw.size)
          have hbw := hbw.alloc hbw.size (.cells (Ru.cs (host a)).toArray 25)
          clear hb5
          go_wp2_with fail
          refine (find_is _ _ _ _ _ _ hm63 _ how63.rd Hokmo.out Hx.out _ _ Htf.out).mono ?_
          rintro e w6 ⟨rfl, hb6⟩
          have how63 := (how63.below hb6).alloc (.cells (Ru.cs t).toArray 25)
          have howr := (howr.below hb6).alloc (.cells (Ru.cs t).toArray 25)
          have hbox := (hbox.step hb6).alloc (.cells (Ru.cs t).toArray 25)
          have bx13 := (bx13.step hb6).alloc (.cells (Ru.cs t).toArray 25)
          have bx15 := Box.new w6 (Ru.cs t).toArray 25
          have hbw := hbw.trans (hb6.mono hbw.size)
          have hbw := hbw.alloc hbw.size (.cells (Ru.cs t).toArray 25)
          clear hb6
          go_wp2_with fail
          refine (find_is _ _ _ _ _ _ (by omega) _ howr.rd Hokr.out Hx.out _ _ Huf.out).mono ?_
          rintro e w7 ⟨rfl, hb7⟩
          have how63 := (how63.below hb7).alloc (.cells (Ru.cs t).toArray 25)
          have hbox := (hbox.step hb7).alloc (.cells (Ru.cs t).toArray 25)
          have bx13 := (bx13.step hb7).alloc (.cells (Ru.cs t).toArray 25)
          have bx15 := (bx15.step hb7).alloc (.cells (Ru.cs t).toArray 25)
          have bx17 := Box.new w7 (Ru.cs t).toArray 25
          have hbw := hbw.trans (hb7.mono hbw.size)
          have hbw := hbw.alloc hbw.size (.cells (Ru.cs t).toArray 25)
          clear hb7
          go_wp2_with fail
          refine (next_is _ _ _ _ _ _ hm63 _ how63.rd Hokmo.out Ha.out _ _ Hna.out).mono ?_
          rintro e w8 ⟨rfl, hb8⟩
          have hbox := hbox.step hb8
          have bx13 := bx13.step hb8
          have bx15 := bx15.step hb8
          have bx17 := bx17.step hb8
          have hbw := hbw.trans (hb8.mono hbw.size)
          obtain ⟨d0, d1, d2, d3⟩ := hbox.rule
          obtain ⟨e0, e1, e2, e3⟩ := bx13.rule
          obtain ⟨f0, f1, f2, f3⟩ := bx15.rule
          obtain ⟨g0, g1, g2, g3⟩ := bx17.rule
          clear hb8 how63 howr hbox bx13 bx15 bx17
          go_wp2_with fail
          go_ret
          exact ⟨rfl, hbw⟩
end Go.Proofs.Ytijobfkmchbpcaa
