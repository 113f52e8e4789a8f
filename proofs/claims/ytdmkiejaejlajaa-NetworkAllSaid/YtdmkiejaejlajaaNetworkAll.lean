/-
  theseuslaw09.NetworkAll: the walk.
-/
import Derived.Test.YtdmkiejaejlajaaNhRefWalk
import Derived.Test.YtdmkiejaejlajaaNhFew
import Derived.Test.YtdmkiejaejlajaaNhRef
import Derived.Deep.DeepCutAuto
namespace Go.Proofs.Ytdmkiejaejlajaa
open Go.RowKit Go.Th
set_option linter.unusedVariables false
/-- Fit's answer: it is the call's own. -/
def FitOwn (w : World) (e : Ending) (w' : World) : Prop := ∃ A n c ns, e = .returned (.agg #[.slice A n c]) ∧ NO 33 40 w' w.heap.size A n c ns ∧ (∀ x ∈ ns, x.n ≤ 20) ∧ n ≤ 8 ∧ Below w.heap.size w w'
theorem made_own (A : Option Addr) (n c : Nat) (ns : List Nd) (w : World) (ni : NetIn w A n c ns) (W : World) (hW : Below w.heap.size w W) : Calls Try.prog 11 #[.agg #[.slice A n c]] W (FitOwn W) := by
  refine (netfit_any A n c ns W ni.n ni.each _ (ni.rd.below hW)).mono ?_
  rintro e w' ⟨A', m, c', ms, rfl, no, hms, hb⟩
  have hm := nmany_bd (Nd.ls ns)
  have hrd := no.rd
  have hl := hrd.len
  have hl2 : (Nd.ls ms).length = nmany (Nd.ls ns) := by rw [hms, nfit_length]
  refine ⟨A', m, c', ms, rfl, no, fun x hx => ?_, ?_, hb⟩
  · have h1 := (hrd.rk x hx).len
    have h2 : x.l ∈ nfit (Nd.ls ns) := by rw [← hms]; exact List.mem_map.2 ⟨x, hx, rfl⟩
    obtain ⟨t, ht, he⟩ := nfit_each h2
    have := fitT_length t (nmany (Nd.ls ns))
    rw [← he] at this
    omega
  · rw [Nd.ls_len] at hl2
    omega
def NaRel (g8 : Nat) (w : World) (i : Value) (wr : World) : Prop :=
  ∃ (k : Nat) (A : Option Addr) (n c : Nat) (ns : List Nd), k ≤ 2 ∧ i = .int .i64 k ∧ Box wr g8 24 #[.slice A n c] ∧ NRd wr wr.heap.size A n c ns ∧ n ≤ 8 ∧ (∀ x ∈ ns, x.n ≤ 20) ∧ Below w.heap.size w wr
def NvRel (lo hi : Int) (w : World) (i : Value) (wr : World) : Prop :=
  ∃ v : Int, lo ≤ v ∧ v ≤ hi ∧ i = .int .i64 v ∧ Below w.heap.size w wr
set_option maxRecDepth 100000 in
set_option maxHeartbeats 4000000 in
theorem networkAll_walk {w : World} (A : Option Addr) (n c : Nat) (ns : List Nd) (ni : NetIn w A n c ns) (a : Int) (ha : 0 ≤ a ∧ a ≤ 4294967295) (zs : List Int) (hl : zs.length = 2) (hz : ∀ z ∈ zs, -9223372036854775808 ≤ z ∧ z ≤ 9223372036854775807) :
    Calls Try.prog 8 #[.agg #[.slice A n c], .int .u32 a, .agg (zs.map (Value.int .i64)).toArray] w fun e w' => e = .returned (.bool true) ∧ Below w.heap.size w w' := by
  match zs, hl with
  | [z0, z1], _ =>
  show Calls Try.prog 8 #[.agg #[.slice A n c], .int .u32 a, .agg #[.int .i64 z0, .int .i64 z1]] w _
  have K1 := Lib.hid (made_own A n c ns w ni)
  have Ni := Lib.hid ni
  clear ni hz
  have k0 : Below w.heap.size w ((w.alloc (.cells #[.slice A n c] 24)).alloc (.cells #[.int .i64 z0, .int .i64 z1] 47)) := (below_alloc w (Nat.le_refl _) _).alloc (by simp) _
  have b0 := (Box.new w #[.slice A n c] 24).alloc (.cells #[.int .i64 z0, .int .i64 z1] 47)
  have b1 := Box.new (w.alloc (.cells #[.slice A n c] 24)) #[.int .i64 z0, .int .i64 z1] 47
  rw [heap_size_alloc] at b1
  go_enter Try.func8, Try.ntmps8
  go_upto_region 1 with fail
  obtain ⟨w0, hw0⟩ : ∃ W, (w.alloc (.cells #[.slice A n c] 24)).alloc (.cells #[.int .i64 z0, .int .i64 z1] 47) = W := ⟨_, rfl⟩
  rw [hw0] at k0 b0 b1 ⊢
  clear hw0
  go_upto_region 2 with (go_at_call 10; refine (shown9 _).mono ?_; rintro e w1 ⟨rfl, hb1⟩; have bx1 := b0.step hb1; have by1 := b1.step hb1)
  have B1 := k0.trans (hb1.mono k0.size)
  clear k0 b0 b1 hb1
  have K2 := Lib.hid (few_any A n c ns w1 Ni.out.n Ni.out.each (Ni.out.rd.step B1).heap)
  clear Ni
  go_upto_region 3 with (first
    | ((with_reducible refine on_load (.tmp 3) ?_); refine wb_load rfl _ (.tmp 3) rfl st_net rfl bx1 rfl ?_)
    | (go_at_call 19; refine (K2.out).mono ?_; rintro e w2 ⟨Aa, na, ca, nsa, rfl, hra, nba, sma, _, hb2⟩)
    | ((with_reducible refine on_alloc ?_); refine wl_newBox rfl _ rfl z_net ?_; intro g8 w3 hg3 hl3 bg3 hb3)
    | ((with_reducible refine on_store_at (.tmp 8) ?_); refine wb_store (cs := #[.slice none 0 0]) (cs' := #[.slice Aa na ca]) rfl _ (.tmp 8) _ rfl st_net rfl rfl bg3 rfl rfl (by simp [Value.oneCell']) ?_; intro w4 bx4 hg4))
  have bd4 := hb3.trans (below_of_grown (B := w2.heap.size) hg4 (fun j e => by injection e with e; omega) hb3.size)
  have b14 := hb2.trans (bd4.mono hb2.size)
  have hg81 : w1.heap.size ≤ g8 := by have := hb2.size; omega
  have hra4 := (hra.step bd4).heap
  clear bd4 hra hg4 hb3 bg3 hg3 hl3 hb2 K2
  go_wp2
  go_loopw [9] (fun i wr => NaRel g8 w1 i wr) (fun i _ => 2 - (intOf i).toNat)
  case atStart => exact ⟨0, Aa, na, ca, nsa, by omega, rfl, bx4, hra4, nba, sma, b14⟩
  case round =>
    clear hra4 nba sma bx4 b14
    obtain ⟨i, Ab, nb, cb, nsb, hi, rfl, bx, hrb, hnb, hsm, hb⟩ := hrel
    have bxr := bx1.step hb
    have byr := by1.step hb
    have G : GNet wr Ab nb cb nsb := ⟨hrb, by omega, fun x hx => by have := hsm x hx; omega⟩
    have Br := B1.trans (hb.mono B1.size)
    by_cases hlt : i < 2
    · have hsz : nsize (Nd.ls nsb) ≤ 1000 := by
        have h1 : ∀ l ∈ Nd.ls nsb, l.length ≤ 20 := fun l hl => by
          obtain ⟨x, hx, rfl⟩ := List.mem_map.1 hl
          rw [(hrb.rk x hx).len]
          exact hsm x hx
        have h2 := nsize_le h1
        rw [G.len] at h2
        omega
      obtain ⟨sz, hszv⟩ : ∃ s, nsize (Nd.ls nsb) = s := ⟨_, rfl⟩
      obtain ⟨em, hem⟩ : ∃ e : Int, nmay (Nd.ls nsb) = e := ⟨_, rfl⟩
      clear hrb hsm
      go_upto_region 7 with (first
        | ((with_reducible refine on_load (.tmp 8) ?_); refine wb_load rfl _ (.tmp 8) rfl st_net rfl bx rfl ?_)
        | (go_at_call 15; refine (G.loop a ha).mono ?_; rintro e p1 ⟨Al, nl, cl, l, ok, rfl, rl, hp1, hans⟩))
      have Hans := Lib.hid hans
      have hll := lans_len hans
      rw [rl.len] at hll
      have G := G.step hp1
      have bx := bx.step hp1
      have bxr := bxr.step hp1
      have byr := byr.step hp1
      have hb := hb.trans (hp1.mono hb.size)
      have Br := Br.trans (hp1.mono Br.size)
      clear hans hp1
      go_upto_region 8 with (first
        | ((with_reducible refine on_load (.tmp 8) ?_); refine wb_load rfl _ (.tmp 8) rfl st_net rfl bx rfl ?_)
        | (go_at_call 20; refine (rloop_any Ab nb cb nsb a p1 ha G l ok Hans).mono ?_; rintro e p2 ⟨Am, nm, cm, rfl, rm, hp2⟩))
      have hmm : nm = nl := by rw [← rm.len, rl.len]
      have G := G.step hp2
      have bx := bx.step hp2
      have bxr := bxr.step hp2
      have byr := byr.step hp2
      have hb := hb.trans (hp2.mono hb.size)
      have Br := Br.trans (hp2.mono Br.size)
      have rl := rl.step hp2
      subst hmm
      clear hp2 Hans
      have KM : Hid (∀ q : Step p2.heap.size p2, Calls Try.prog 18 #[.agg #[.slice Ab nb cb]] q.w fun e w' => e = .returned (.int .i64 em) ∧ Below q.w.heap.size q.w w') := Lib.hid (fun q => (G.step q.h).may (by omega) em hem)
      have KN : Hid (∀ q : Step p2.heap.size p2, Calls Try.prog 21 #[.agg #[.slice Ab nb cb]] q.w fun e w' => e = .returned (.int .i64 em) ∧ Below q.w.heap.size q.w w') := Lib.hid (fun q => rnetmay_any Ab nb cb nsb q.w (by omega) (by omega) _ (G.step q.h).rd em hem)
      have KS : Hid (∀ q : Step p2.heap.size p2, Calls Try.prog 17 #[.agg #[.slice Ab nb cb]] q.w fun e w' => e = .returned (.int .i64 (sz : Int)) ∧ Below q.w.heap.size q.w w') := Lib.hid (fun q => by have := (G.step q.h).size (by omega); rw [hszv] at this; exact this)
      have KT : Hid (∀ q : Step p2.heap.size p2, Calls Try.prog 22 #[.agg #[.slice Ab nb cb]] q.w fun e w' => e = .returned (.int .i64 (sz : Int)) ∧ Below q.w.heap.size q.w w') := Lib.hid (fun q => by have := rnetsize_any Ab nb cb nsb q.w (by omega) (by omega) _ (G.step q.h).rd; rw [hszv] at this; exact this)
      have KR : Hid (∀ q : Step p2.heap.size p2, Calls Try.prog 16 #[.slice Al nm cl, .slice Am nm cm] q.w fun e w' => e = .returned (.bool true) ∧ Below q.w.heap.size q.w w') := Lib.hid (fun q => row_any _ _ _ _ _ _ l l _ (by omega) (by omega) _ _ (rl.step q.h) (rm.step q.h) true (Lib.hid (by simp)))
      have qb8 : ∀ w', Th.Reach p2.heap.size p2 w' → w'.cell? ⟨g8, 0, none⟩ = some (.slice Ab nb cb) := fun w' h => (bx.step h.below).cell 0
      have hee : (em != em) = false := by simp
      have hss : ((sz : Int) != (sz : Int)) = false := by simp
      clear hem hszv hsz rl rm
      cases ok
      all_goals
        refine wp_region_reach (by kernel_rfl) (by kernel_rfl) ?_
        repeat (first | go_big_quiet_skip | ((with_reducible refine onq_load (.tmp 8) ?_); refine wq_nload rfl (.tmp 8) rfl rfl qb8 ?_) | go_big_quiet_step ((first | (with_reducible exact Calls.reach (KR.out _)) | (with_reducible exact Calls.reach (KM.out _)) | (with_reducible exact Calls.reach (KN.out _)) | (with_reducible exact Calls.reach (KS.out _)) | (with_reducible exact Calls.reach (KT.out _)))) | quiet_step ((first | (with_reducible exact Calls.reach (KR.out _)) | (with_reducible exact Calls.reach (KM.out _)) | (with_reducible exact Calls.reach (KN.out _)) | (with_reducible exact Calls.reach (KS.out _)) | (with_reducible exact Calls.reach (KT.out _)))))
        refine wpQuiet_nil ?_
        rintro _ ⟨q, rfl⟩
        have hqw9 := q.h
        obtain ⟨w9, hw9'⟩ : ∃ W, q.w = W := ⟨_, rfl⟩
        rw [hw9'] at hqw9 ⊢
        clear hw9' q
        have G9 := G.step hqw9
        have bx9 := bx.step hqw9
        have bxr9 := bxr.step hqw9
        have byr9 := byr.step hqw9
        have hb9 := hb.trans (hqw9.mono hb.size)
        have Br9 := Br.trans (hqw9.mono Br.size)
        clear KM KN KS KT KR qb8 G bx bxr byr hb Br hqw9 hee hss
        go_upto_region 10 with fail
        go_wp2
        go_loopw [14] (fun i wr => NvRel (-1) (nb + 1) w9 i wr) (fun i _ => ((nb : Int) + 1 - intOf i).toNat)
        case atStart => exact ⟨-1, by omega, by omega, rfl, Below.refl _ _⟩
        case round =>
          obtain ⟨v, hv1, hv2, rfl, hbv⟩ := hrel
          have Gv := G9.step hbv
          have bxv := bx9.step hbv
          have cn : wr.cell? ⟨g8, 0, none⟩ = some (.slice Ab nb cb) := bxv.cell 0
          by_cases hvn : v ≤ (nb : Int)
          · have hd : decide (v ≤ (nb : Int)) = true := decide_eq_true hvn
            obtain ⟨⟨s, g⟩, h1⟩ : ∃ p, nstep (Nd.ls nsb) a v = p := ⟨_, rfl⟩
            have H1 := Lib.hid h1
            clear h1
            go_upto_region 14 with (first
              | ((with_reducible refine on_load (.tmp 8) ?_); refine wb_load rfl _ (.tmp 8) rfl st_net rfl bxv rfl ?_)
              | (go_at_call 13; refine (Gv.stp a _ ha s g H1).mono ?_; rintro e q1 ⟨rfl, hq1⟩))
            have Gv := Gv.step hq1
            have bxv := bxv.step hq1
            have hbv := hbv.trans (hq1.mono hbv.size)
            clear hq1 cn hd
            go_upto_region 15 with (first
              | ((with_reducible refine on_load (.tmp 8) ?_); refine wb_load rfl _ (.tmp 8) rfl st_net rfl bxv rfl ?_)
              | (go_at_call 23; refine (rstep_any Ab nb cb nsb a v q1 ha Gv s g H1).mono ?_; rintro e q2 ⟨rfl, hq2⟩))
            have Gv := Gv.step hq2
            have bxv := bxv.step hq2
            have hbv := hbv.trans (hq2.mono hbv.size)
            have hss : (s != s) = false := by simp
            clear hq2 H1
            cases g
            all_goals
              go_wp2
              go_loopw [19] (fun i wr => NvRel (-1) 10 q2 i wr) (fun i _ => (10 - intOf i).toNat)
              case atStart => exact ⟨-1, by omega, by omega, rfl, Below.refl _ _⟩
              case round =>
                obtain ⟨k, hk1, hk2, rfl, hbk⟩ := hrel
                by_cases hk10 : k < 10
                · have hd : decide (k < (10 : Int)) = true := decide_eq_true hk10
                  have Gk := Gv.step hbk
                  have bxk := bxv.step hbk
                  obtain ⟨⟨t, g⟩, h1⟩ : ∃ p, walkT (Nd.ls nsb) a v k = p := ⟨_, rfl⟩
                  have H1 := Lib.hid h1
                  clear h1
                  go_upto_region 21 with (first
                    | ((with_reducible refine on_load (.tmp 8) ?_); refine wb_load rfl _ (.tmp 8) rfl st_net rfl bxk rfl ?_)
                    | (go_at_call 12; refine (Gk.walk a _ _ ha t g H1).mono ?_; rintro e q3 ⟨rfl, hq3⟩))
                  have Gk := Gk.step hq3
                  have bxk := bxk.step hq3
                  have hbk := hbk.trans (hq3.mono hbk.size)
                  clear hq3 hd
                  go_upto_region 22 with (first
                    | ((with_reducible refine on_load (.tmp 8) ?_); refine wb_load rfl _ (.tmp 8) rfl st_net rfl bxk rfl ?_)
                    | (go_at_call 24; refine (rwalk_any Ab nb cb nsb a v k q3 ha Gk t g H1).mono ?_; rintro e q4 ⟨rfl, hq4⟩))
                  have hbk := hbk.trans (hq4.mono hbk.size)
                  have htt : (t != t) = false := by simp
                  clear hq4 H1 Gk bxk
                  cases g
                  all_goals go_wp2
                  all_goals go_roundw
                  all_goals first
                    | exact ⟨k + 1, by omega, by omega, rfl, hbk⟩
                    | (simp [intOf]; omega)
                · have hd : decide (k < (10 : Int)) = false := decide_eq_false hk10
                  have hbv := hbv.trans (hbk.mono hbv.size)
                  go_wp2
                  go_roundw
                  case rel => exact ⟨v + 1, by omega, by omega, rfl, hbv⟩
                  case measure => simp [intOf]; omega
          · have hd : decide (v ≤ (nb : Int)) = false := decide_eq_false hvn
            have bxn := bxr9.step hbv
            have Bv := Br9.trans (hbv.mono Br9.size)
            have hbT := hb9.trans (hbv.mono hb9.size)
            go_wp2_with (first
              | ((with_reducible refine on_load (.tmp 3) ?_); refine wb_load rfl _ (.tmp 3) rfl st_net rfl bxn rfl ?_)
              | (go_at_call 11; refine (K1.out _ Bv).mono ?_; rintro e q5 ⟨Ac, nc, cc, nsc, rfl, noc, smc, nbc, hq5⟩; have l8 := bxv.lt; have bxv := bxv.step hq5)
              | ((with_reducible refine on_store_at (.tmp 8) ?_); refine wb_store (cs := #[.slice Ab nb cb]) (cs' := #[.slice Ac nc cc]) rfl _ (.tmp 8) _ rfl st_net rfl rfl bxv rfl rfl (by simp [Value.oneCell']) ?_; intro q6 bx6 hg6))
            have hbF := (hbT.trans (hq5.mono hbT.size)).trans (below_of_grown hg6 (fun j e => by injection e with e; omega) (Nat.le_trans hbT.size hq5.size))
            have hrF := (noc.grown hg6 (fun j e => by injection e with e; omega)).rd
            go_roundw
            case rel => exact ⟨i + 1, Ac, nc, cc, nsc, by omega, by go_num, bx6, hrF, nbc, smc, hbF⟩
            case measure => simp [intOf]; omega
    · have c0 : wr.cell? ⟨w.heap.size + 1, 0, none⟩ = some (.int .i64 z0) := byr.cell 0
      have c1 : wr.cell? ⟨w.heap.size + 1, 1, none⟩ = some (.int .i64 z1) := byr.cell 1
      obtain ⟨⟨t, g⟩, h1⟩ : ∃ p, walkT (Nd.ls nsb) a z0 z1 = p := ⟨_, rfl⟩
      have H1 := Lib.hid h1
      clear h1 hrb hsm
      go_upto_region 26 with (first
        | ((with_reducible refine on_load (.tmp 8) ?_); refine wb_load rfl _ (.tmp 8) rfl st_net rfl bx rfl ?_)
        | (go_at_call 12; refine (G.walk a _ _ ha t g H1).mono ?_; rintro e q1 ⟨rfl, hq1⟩))
      have G := G.step hq1
      have bx := bx.step hq1
      have byr := byr.step hq1
      have Br := Br.trans (hq1.mono Br.size)
      have c0 : q1.cell? ⟨w.heap.size + 1, 0, none⟩ = some (.int .i64 z0) := byr.cell 0
      have c1 : q1.cell? ⟨w.heap.size + 1, 1, none⟩ = some (.int .i64 z1) := byr.cell 1
      clear hq1
      go_upto_region 27 with (first
        | ((with_reducible refine on_load (.tmp 8) ?_); refine wb_load rfl _ (.tmp 8) rfl st_net rfl bx rfl ?_)
        | (go_at_call 24; refine (rwalk_any Ab nb cb nsb a z0 z1 q1 ha G t g H1).mono ?_; rintro e q2 ⟨rfl, hq2⟩))
      have Br := Br.trans (hq2.mono Br.size)
      have htt : (t == t) = true := by simp
      cases g
      all_goals
        go_wp2
        go_ret
        exact ⟨rfl, Br⟩
end Go.Proofs.Ytdmkiejaejlajaa
