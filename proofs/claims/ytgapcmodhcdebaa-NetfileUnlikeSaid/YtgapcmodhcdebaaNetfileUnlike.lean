/-
  theseuslaw10.NetfileUnlike: the walk.
-/
import Derived.Test.YtgapcmodhcdebaaNfMade
import Derived.Deep.DeepCutAuto
namespace Go.Proofs.Ytgapcmodhcdebaa
open Go.RowKit Go.Th
set_option linter.unusedVariables false
theorem wq_netbox {ops : Array Oper} {rest : List Oper} {o : Oper} {a : Act} {C : World → Prop} {Q : Act → Prop} (hw : Region.wanted o (yielded ops a.tmps) = true) (x : Operand) (ho : o.op = .load 24 x) {g : Nat} {t : TypeId} {v : Value} (hx : a.eval x = .pointer (some ⟨g, 0, none⟩)) (hb : ∀ w, C w → Box w g t #[v])
    (h : wpQuiet Try.prog ops C Q rest (a.put o.dst (.agg #[v]))) : wpQuiet Try.prog ops C Q (o :: rest) a :=
  wq_netload hw x ho hx (fun w hC => (hb w hC).cell 0) h
set_option maxRecDepth 100000 in
set_option maxHeartbeats 4000000 in
theorem netfileUnlike_walk {w : World} (A : Option Addr) (n c : Nat) (ns : List Nd) (ni : NetIn w A n c ns) (A' : Option Addr) (n' c' : Nat) (ms : List Nd) (mi : NetIn w A' n' c' ms) :
    Calls Try.prog 9 #[.agg #[.slice A n c], .agg #[.slice A' n' c']] w fun e w' => e = .returned (.bool true) ∧ Below w.heap.size w w' := by
  have K1 := Lib.hid (made_any A n c ns w ni)
  have K2 := Lib.hid (made_any A' n' c' ms w mi)
  clear ni mi
  have k0 : Below w.heap.size w ((w.alloc (.cells #[.slice A n c] 24)).alloc (.cells #[.slice A' n' c'] 24)) := (below_alloc w (Nat.le_refl _) _).alloc (by simp) _
  have b0 := (Box.new w #[.slice A n c] 24).alloc (.cells #[.slice A' n' c'] 24)
  have b1 := Box.new (w.alloc (.cells #[.slice A n c] 24)) #[.slice A' n' c'] 24
  rw [heap_size_alloc] at b1
  go_enter Try.func9, Try.ntmps9
  go_upto_region 1 with fail
  obtain ⟨w0, hw0⟩ : ∃ W, (w.alloc (.cells #[.slice A n c] 24)).alloc (.cells #[.slice A' n' c'] 24) = W := ⟨_, rfl⟩
  rw [hw0] at k0 b0 b1 ⊢
  clear hw0
  go_upto_region 2 with (go_at_call 10; refine (shown10 _).mono ?_; rintro e w1 ⟨rfl, hb1⟩; have bx1 := b0.step hb1; have by1 := b1.step hb1)
  have B1 := k0.trans (hb1.mono k0.size)
  clear k0 b0 b1 hb1
  go_upto_region 3 with (first
    | ((with_reducible refine on_load (.tmp 2) ?_); refine wb_load rfl _ (.tmp 2) rfl st_net rfl bx1 rfl ?_)
    | (go_at_call 19; refine (K1.out _ B1).mono ?_; rintro e w2 ⟨Aa, na, ca, nsa, rfl, hra, oka, sma, nba, hb2⟩)
    | ((with_reducible refine on_alloc ?_); refine wl_newBox rfl _ rfl z_net ?_; intro ga w3 hg3 hl3 bg3 hb3)
    | ((with_reducible refine on_store_at (.tmp 6) ?_); refine wb_store (cs := #[.slice none 0 0]) (cs' := #[.slice Aa na ca]) rfl _ (.tmp 6) _ rfl st_net rfl rfl bg3 rfl rfl (by simp [Value.oneCell']) ?_; intro w4 bx4 hg4))
  have bd4 := hb3.trans (below_of_grown (B := w2.heap.size) hg4 (fun j e => by injection e with e; omega) hb3.size)
  have M4 : NBox w4 ga Aa na ca nsa := ⟨bx4, (hra.step bd4).heap, oka, sma, nba⟩
  have b14 := hb2.trans (bd4.mono hb2.size)
  have B4 := B1.trans (b14.mono B1.size)
  have by4 := by1.step b14
  clear bd4 b14 bx4 hra oka sma nba hg4 hb3 bg3 hg3 hl3 hb2 B1 bx1 by1
  go_upto_region 4 with (first
    | ((with_reducible refine on_load (.tmp 3) ?_); refine wb_load rfl _ (.tmp 3) rfl st_net rfl by4 rfl ?_)
    | (go_at_call 19; refine (K2.out _ B4).mono ?_; rintro e w5 ⟨Ab, nb, cb, nsb, rfl, hrb, okb, smb, nbb, hb5⟩)
    | ((with_reducible refine on_alloc ?_); refine wl_newBox rfl _ rfl z_net ?_; intro gb w6 hg6 hl6 bg6 hb6)
    | ((with_reducible refine on_store_at (.tmp 7) ?_); refine wb_store (cs := #[.slice none 0 0]) (cs' := #[.slice Ab nb cb]) rfl _ (.tmp 7) _ rfl st_net rfl rfl bg6 rfl rfl (by simp [Value.oneCell']) ?_; intro w7 bx7 hg7))
  have bd7 := hb6.trans (below_of_grown (B := w5.heap.size) hg7 (fun j e => by injection e with e; omega) hb6.size)
  have N7 : NBox w7 gb Ab nb cb nsb := ⟨bx7, (hrb.step bd7).heap, okb, smb, nbb⟩
  have b47 := hb5.trans (bd7.mono hb5.size)
  have B7 := B4.trans (b47.mono B4.size)
  have M7 := M4.step b47
  clear bd7 b47 bx7 hrb okb smb nbb hg7 hb6 bg6 hg6 hl6 hb5 B4 by4 M4 K1 K2
  obtain ⟨fa, hfa⟩ : ∃ f, fput 1179206193 (nbody (Nd.ls nsa)) = f := ⟨_, rfl⟩
  obtain ⟨fb, hfb⟩ : ∃ f, fput 1179206193 (nbody (Nd.ls nsb)) = f := ⟨_, rfl⟩
  have Hfa := Lib.hid hfa
  have Hfb := Lib.hid hfb
  clear hfa hfb
  go_upto_region 6 with (first
    | ((with_reducible refine on_load (.tmp 6) ?_); refine wb_load rfl _ (.tmp 6) rfl st_net rfl M7.box rfl ?_)
    | ((with_reducible refine on_load (.tmp 7) ?_); refine wb_load rfl _ (.tmp 7) rfl st_net rfl N8.box rfl ?_)
    | (go_at_call 11; (with_reducible refine (M7.put fa Hfa.out).mono ?_); rintro e w8 ⟨P1, p1, q1, rfl, o1, hb8⟩; have N8 := N7.step hb8)
    | (go_at_call 11; (with_reducible refine (N8.put fb Hfb.out).mono ?_); rintro e w9 ⟨P2, p2, q2, rfl, o2, hb9⟩))
  have m9 := (M7.step hb8).step hb9
  have n9 := N8.step hb9
  have o1' := o1.below hb9
  have B9 := (B7.trans (hb8.mono B7.size)).trans (hb9.mono (Nat.le_trans B7.size hb8.size))
  have hin : fa = fb ↔ Nd.ls nsa = Nd.ls nsb := by
    rw [← Hfa.out, ← Hfb.out, fput_inj (by omega) (by omega)]
    have := nbody_inj M7.ok N7.ok
    simp only [true_and]
    exact this
  obtain ⟨sm, hsm⟩ : ∃ b, decide (Nd.ls nsa = Nd.ls nsb) = b := ⟨_, rfl⟩
  have hw : (fa == fb) = sm := by
    rw [← hsm]
    by_cases h : Nd.ls nsa = Nd.ls nsb
    · rw [decide_eq_true h]; simpa using hin.2 h
    · rw [decide_eq_false h]; simpa using fun e => h (hin.1 e)
  have Hsame := Lib.hid (fun q : Step w9.heap.size w9 => rsame9_any Aa na ca nsa Ab nb cb nsb q.w (by have := m9.nb; omega) (by have := n9.nb; omega) _ _ ((m9.rd.step q.h).heap) ((n9.rd.step q.h).heap) (fun x hx => by have := m9.small x hx; omega) (fun x hx => by have := n9.small x hx; omega) sm (Lib.hid hsm))
  have px := o1'.rd.reach
  have py := o2.rd.reach
  have q8 : ∀ w', Th.Reach w9.heap.size w9 w' → Box w' ga 24 #[.slice Aa na ca] := fun w' h => m9.box.step h.below
  have q9 : ∀ w', Th.Reach w9.heap.size w9 w' → Box w' gb 24 #[.slice Ab nb cb] := fun w' h => n9.box.step h.below
  have z9 := B9.size
  clear hin hsm
  refine wp_region_reach (by kernel_rfl) (by kernel_rfl) ?_
  repeat (first | go_big_quiet_skip | ((with_reducible refine onq_cv (.tmp 37) ?_); refine wq_strS rfl _ _ (.tmp 37) rfl el_u8 Try.underlying5 Try.underlying9 rfl px ?_) | ((with_reducible refine onq_cv (.tmp 39) ?_); refine wq_strS rfl _ _ (.tmp 39) rfl el_u8 Try.underlying5 Try.underlying9 rfl py ?_) | ((with_reducible refine onq_load (.tmp 6) ?_); refine wq_netbox rfl (.tmp 6) rfl rfl q8 ?_) | ((with_reducible refine onq_load (.tmp 7) ?_); refine wq_netbox rfl (.tmp 7) rfl rfl q9 ?_) | go_big_quiet_step ((with_reducible exact Calls.reach (Hsame.out _))) | quiet_step ((with_reducible exact Calls.reach (Hsame.out _))))
  refine wpQuiet_nil ?_
  rintro _ ⟨q, rfl⟩
  have hqw13 := q.h
  obtain ⟨w13, hw13'⟩ : ∃ W, q.w = W := ⟨_, rfl⟩
  rw [hw13'] at hqw13 ⊢
  clear hw13' q
  cases sm
  all_goals
    go_wp2
    go_ret
    exact ⟨rfl, B9.trans (hqw13.mono z9)⟩
end Go.Proofs.Ytgapcmodhcdebaa
