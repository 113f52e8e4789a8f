/-
  theseuslaw09.NetworkLong: the walk.
-/
import Derived.Test.YtdmkiejaejlajaaNhMade
import Derived.Deep.DeepCutAuto
namespace Go.Proofs.Ytdmkiejaejlajaa
open Go.RowKit Go.Th
set_option linter.unusedVariables false
def LgRel (ls : List (List Ru)) (a : Int) (n : Nat) (w : World) (s i : Value) (wr : World) : Prop :=
  ∃ (v : Nat) (b : Bool), v ≤ n ∧ i = .int .i64 v ∧ s = .bool b ∧ Hid (b = true ↔ ∃ u : Nat, u < v ∧ (wgo ls a (u : Int) n).2 = true) ∧ Below w.heap.size w wr
def LgIn (ls : List (List Ru)) (a u : Int) (n : Nat) (w : World) (s i : Value) (wr : World) : Prop :=
  ∃ (k : Nat) (b : Bool), k ≤ n ∧ i = .int .i64 k ∧ s = .bool b ∧ Hid (b = true ↔ ∃ j : Nat, j < k ∧ wgo ls a u (j + 1) = (u, true)) ∧ Below w.heap.size w wr
set_option maxRecDepth 100000 in
set_option maxHeartbeats 4000000 in
theorem networkLong_walk {w : World} (A : Option Addr) (n c : Nat) (ns : List Nd) (ni : NetIn w A n c ns) (a : Int) (ha : 0 ≤ a ∧ a ≤ 4294967295) :
    Calls Try.prog 5 #[.agg #[.slice A n c], .int .u32 a] w fun e w' => e = .returned (.bool true) ∧ Below w.heap.size w w' := by
  have K1 := Lib.hid (made_any A n c ns w ni)
  clear ni
  have k0 : Below w.heap.size w (w.alloc (.cells #[.slice A n c] 24)) := below_alloc w (Nat.le_refl _) _
  have b0 := Box.new w #[.slice A n c] 24
  go_enter Try.func5, Try.ntmps5
  go_upto_region 1 with fail
  obtain ⟨w0, hw0⟩ : ∃ W, w.alloc (.cells #[.slice A n c] 24) = W := ⟨_, rfl⟩
  rw [hw0] at k0 b0 ⊢
  clear hw0
  go_upto_region 2 with (go_at_call 10; refine (shown9 _).mono ?_; rintro e w1 ⟨rfl, hb1⟩; have bx1 := b0.step hb1)
  have B1 := k0.trans (hb1.mono k0.size)
  clear k0 b0 hb1
  go_upto_region 3 with (first
    | ((with_reducible refine on_load (.tmp 2) ?_); refine wb_load rfl _ (.tmp 2) rfl st_net rfl bx1 rfl ?_)
    | (go_at_call 11; refine (K1.out _ B1).mono ?_; rintro e w2 ⟨Aa, na, ca, nsa, rfl, hra, oka, sma, nba, hb2⟩)
    | ((with_reducible refine on_alloc ?_); refine wl_newBox rfl _ rfl z_net ?_; intro ga w3 hg3 hl3 bg3 hb3)
    | ((with_reducible refine on_store_at (.tmp 6) ?_); refine wb_store (cs := #[.slice none 0 0]) (cs' := #[.slice Aa na ca]) rfl _ (.tmp 6) _ rfl st_net rfl rfl bg3 rfl rfl (by simp [Value.oneCell']) ?_; intro w4 bx4 hg4))
  have bd4 := hb3.trans (below_of_grown (B := w2.heap.size) hg4 (fun j e => by injection e with e; omega) hb3.size)
  have M4 : HBox w4 ga Aa na ca nsa := ⟨bx4, (hra.step bd4).heap, oka, sma, nba⟩
  have b14 := hb2.trans (bd4.mono hb2.size)
  have B4 := B1.trans (b14.mono B1.size)
  clear bd4 b14 bx4 hra oka sma nba hg4 hb3 bg3 hg3 hl3 hb2 B1 bx1 K1
  have hnb := M4.nb
  go_upto_region 4 with (first
    | ((with_reducible refine on_load (.tmp 6) ?_); refine wb_load rfl _ (.tmp 6) rfl st_net rfl M4.box rfl ?_)
    | (go_at_call 15; refine (M4.loop a ha).mono ?_; rintro e w5 ⟨Al, nl, cl, l, ok, rfl, rl, hb5, hans⟩))
  have M5 := M4.step hb5
  have B5 := B4.trans (hb5.mono B4.size)
  have Hans := Lib.hid hans
  have Hl := Lib.hid rl.len
  clear M4 B4 hb5 hans rl
  go_wp2
  go_loopw [9, 10] (fun s i wr => LgRel (Nd.ls nsa) a na w5 s i wr) (fun _ i _ => na - (intOf i).toNat)
  case atStart => exact ⟨0, false, by omega, rfl, rfl, Lib.hid ⟨(fun h => by cases h), fun ⟨u, h, _⟩ => by omega⟩, Below.refl _ _⟩
  case round =>
    obtain ⟨v, b, hv, rfl, rfl, hb, hbl⟩ := hrel
    have Mr := M5.step hbl
    have cn : wr.cell? ⟨ga, 0, none⟩ = some (.slice Aa na ca) := Mr.box.cell 0
    by_cases hlt : v < na
    · have hlen := Mr.len
      have hV : 0 ≤ (v : Int) ∧ (v : Int) < ((Nd.ls nsa).length : Int) := by rw [hlen]; omega
      obtain ⟨⟨u, ok2⟩, h1⟩ : ∃ p, wgo (Nd.ls nsa) a (v : Int) na = p := ⟨_, rfl⟩
      have H1 := Lib.hid ((walkT_in (K := na) hV (by omega)).trans h1)
      have hstep : (((b || ok2) = true) ↔ ∃ u : Nat, u < v + 1 ∧ (wgo (Nd.ls nsa) a (u : Int) na).2 = true) := by
        rw [Bool.or_eq_true, hb.out]
        constructor
        · rintro (⟨u, h2, h3⟩ | h2)
          · exact ⟨u, by omega, h3⟩
          · exact ⟨v, by omega, by rw [h1]; exact h2⟩
        · rintro ⟨u, h2, h3⟩
          by_cases e : u = v
          · subst e; rw [h1] at h3; exact .inr h3
          · exact .inl ⟨u, by omega, h3⟩
      have Hstep := Lib.hid hstep
      have H2 := Lib.hid h1
      have HV := Lib.hid hV
      have Hlen := Lib.hid hlen
      clear hstep h1 hV hlen hb
      go_upto_region 9 with (first
        | ((with_reducible refine on_load (.tmp 6) ?_); refine wb_load rfl _ (.tmp 6) rfl st_net rfl Mr.box rfl ?_)
        | (go_at_call 12; refine (Mr.walk a _ _ ha u ok2 H1).mono ?_; rintro e w6 ⟨rfl, hb6⟩))
      have M6 := Mr.step hb6
      have b56 := hbl.trans (hb6.mono hbl.size)
      clear cn Mr hbl hb6 H1
      cases ok2 with
      | false =>
        cases b
        all_goals go_wp2
        all_goals go_roundw
        all_goals first
          | exact ⟨v + 1, _, by omega, by go_num, rfl, by simpa using Hstep, b56⟩
          | (simp [intOf]; omega)
      | true =>
        have hg := wgo_true.1 (show (wgo (Nd.ls nsa) a (v : Int) na).2 = true by rw [H2.out])
        have hu := wgo_val (show (wgo (Nd.ls nsa) a (v : Int) na).2 = true by rw [H2.out])
        rw [H2.out] at hu
        have hin := (M6.inn a).itr HV.out na hg
        have hu2 : u = itr (hof (Nd.ls nsa) a) na v := hu
        rw [← hu2] at hin
        have hlr := long_round (M6.inn a) HV.out (by rw [Hlen.out]; exact hg)
        rw [Hlen.out, ← hu2] at hlr
        have Hlr := Lib.hid hlr
        have Hin := Lib.hid hin
        have Hst2 : Hid (∃ x : Nat, x < v + 1 ∧ (wgo (Nd.ls nsa) a (x : Int) na).2 = true) := Lib.hid (Hstep.out.1 (by simp))
        clear hg hu hin hu2 hlr H2
        cases b
        all_goals go_upto_region 13 with fail
        all_goals go_wp2
        all_goals go_loopw [13, 14] (fun s i wr => LgIn (Nd.ls nsa) a u na w6 s i wr) (fun _ i _ => na - (intOf i).toNat)
        case atStart => exact ⟨0, false, by omega, rfl, rfl, Lib.hid ⟨(fun h => by cases h), fun ⟨u, h, _⟩ => by omega⟩, Below.refl _ _⟩
        case atStart => exact ⟨0, false, by omega, rfl, rfl, Lib.hid ⟨(fun h => by cases h), fun ⟨u, h, _⟩ => by omega⟩, Below.refl _ _⟩
        all_goals
          obtain ⟨k, b, hk, rfl, rfl, hb, hbl2⟩ := hrel
          have Mq := M6.step hbl2
          have cn : wr.cell? ⟨ga, 0, none⟩ = some (.slice Aa na ca) := Mq.box.cell 0
          by_cases hkl : k < na
          · obtain ⟨⟨t, is⟩, h1⟩ : ∃ p, wgo (Nd.ls nsa) a u (k + 1) = p := ⟨_, rfl⟩
            have h2 := walkT_in (a := a) (K := k + 1) Hin.out (by omega)
            rw [show ((k + 1 : Nat) : Int) = (k : Int) + 1 by omega, h1] at h2
            have H1 := Lib.hid h2
            obtain ⟨d, hd⟩ : ∃ d, (t == u) = d := ⟨_, rfl⟩
            have hs : ((b || (is && d)) = true) ↔ ∃ j : Nat, j < k + 1 ∧ wgo (Nd.ls nsa) a u (j + 1) = (u, true) := by
              rw [Bool.or_eq_true, hb.out, Bool.and_eq_true, ← hd]
              constructor
              · rintro (⟨j, h3, h4⟩ | ⟨h3, h4⟩)
                · exact ⟨j, by omega, h4⟩
                · exact ⟨k, by omega, by rw [h1, h3]; have : t = u := by simpa using h4
                                         rw [this]⟩
              · rintro ⟨j, h3, h4⟩
                by_cases e : j = k
                · subst e
                  rw [h1] at h4
                  injection h4 with h5 h6
                  exact .inr ⟨h6, by simpa using h5⟩
                · exact .inl ⟨j, by omega, h4⟩
            have Hs := Lib.hid hs
            clear hs h1 h2 hb
            go_upto_region 16 with (first
              | ((with_reducible refine on_load (.tmp 6) ?_); refine wb_load rfl _ (.tmp 6) rfl st_net rfl Mq.box rfl ?_)
              | (go_at_call 12; refine (Mq.walk a _ _ ha t is H1).mono ?_; rintro e w8 ⟨rfl, hb8⟩))
            have b68 := hbl2.trans (hb8.mono hbl2.size)
            clear cn Mq hbl2 hb8 H1
            cases b <;> cases is <;> cases d
            all_goals go_wp2
            all_goals go_roundw
            all_goals first
              | exact ⟨k + 1, _, by omega, by go_num, rfl, by simpa using Hs, b68⟩
              | (simp [intOf]; omega)
          · obtain rfl : k = na := by omega
            obtain ⟨L, hL, cL⟩ := Hlr.out
            obtain rfl : b = true := hb.out.2 ⟨L - 1, by have := cL.pos; omega, by
              have := (cyc_walk cL.pos).2 cL
              rwa [show L - 1 + 1 = L by have := cL.pos; omega]⟩
            have b57 := b56.trans (hbl2.mono b56.size)
            clear hb cL
            go_wp2
            go_roundw
            case rel => exact ⟨v + 1, true, by omega, by go_num, rfl, Lib.hid ⟨fun _ => Hst2.out, fun _ => rfl⟩, b57⟩
            case measure => simp [intOf]; omega
    · obtain rfl : v = na := by omega
      have hlen := Mr.len
      have hbo : b = ok := by
        have hiff := hb.out
        rcases Hans.out with ⟨rfl, _, h⟩ | ⟨rfl, best, M, h2, h3, h4, h5, h6, h7, h8⟩
        · cases b with
          | false => rfl
          | true =>
            exfalso
            obtain ⟨x, h1, h2⟩ := hiff.1 rfl
            have hX : 0 ≤ (x : Int) ∧ (x : Int) < ((Nd.ls nsa).length : Int) := by rw [hlen]; omega
            have hg := wgo_true.1 h2
            have hin := (Mr.inn a).itr hX v hg
            obtain ⟨L, h3, h4⟩ := long_round (Mr.inn a) hX (by rw [hlen]; exact hg)
            rw [hlen] at h4 hin
            exact h _ L hin.1 hin.2 h4
        · obtain ⟨m, rfl⟩ := Int.eq_ofNat_of_zero_le h2
          exact hiff.2 ⟨m, by omega, by rw [wgo_on (fun j _ => h5.all j)]⟩
      subst hbo
      have Bf := B5.trans (hbl.mono B5.size)
      cases b with
      | false =>
        obtain ⟨_, rfl⟩ | ⟨h, _⟩ : (false = false ∧ l = []) ∨ (false = true ∧ True) := by
          rcases Hans.out with ⟨_, h, _⟩ | ⟨h, _⟩
          · exact .inl ⟨rfl, h⟩
          · cases h
        · have hn0 : nl = 0 := by have := Hl.out; simp at this; omega
          subst hn0
          clear hb Hans Hl
          go_wp2
          go_ret
          exact ⟨rfl, Bf⟩
        · cases h
      | true =>
        clear hb Hans Hl
        go_wp2
        go_ret
        exact ⟨rfl, Bf⟩
end Go.Proofs.Ytdmkiejaejlajaa
