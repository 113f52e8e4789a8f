/-
  theseusref09.Size and theseusref09.May.
-/
import Derived.Test.YtdmkiejaejlajaaNhMay
import Derived.Test.YtdmkiejaejlajaaNhMc
namespace Go.Proofs.Ytdmkiejaejlajaa
open Go.RowKit Go.Th
set_option linter.unusedVariables false
def RszRel (ns : List Nd) (n : Nat) (w1 : World) (s i : Value) (wr : World) : Prop :=
  ∃ k : Nat, k ≤ n ∧ i = .int .i64 k ∧ s = .int .i64 (nsize ((Nd.ls ns).take k)) ∧ wr = w1
set_option maxRecDepth 100000 in
set_option maxHeartbeats 2000000 in
theorem rnetsize_any (A : Option Addr) (n c : Nat) (ns : List Nd) (w : World) (hn : n ≤ 4000000) (hs : nsize (Nd.ls ns) ≤ 4000000) (B : Nat) (hr : NRd w B A n c ns) :
    Calls Try.prog 22 #[.agg #[.slice A n c]] w (RetB (.int .i64 (nsize (Nd.ls ns))) w) := by
  have k0 := below_alloc w (Nat.le_refl _) (.cells #[.slice A n c] 24)
  have b0 := Box.new w #[.slice A n c] 24
  go_enter Try.func22, Try.ntmps22
  go_upto_region 1 with fail
  obtain ⟨w1, hw1⟩ : ∃ W, w.alloc (.cells #[.slice A n c] 24) = W := ⟨_, rfl⟩
  rw [hw1] at k0 b0 ⊢
  have hrk := hr.step k0
  have y1 : w1.cell? ⟨w.heap.size, 0, none⟩ = some (.slice A n c) := b0.cell 0
  clear hw1
  go_wp2
  go_loopw [3, 4] (fun s i wr => RszRel ns n w1 s i wr) (fun _ i _ => n - (intOf i).toNat)
  case atStart => exact ⟨0, by omega, rfl, rfl, rfl⟩
  case round =>
    obtain ⟨k, hk, hi, hss, hww⟩ := hrel
    subst hi hss hww
    have hlen := hrk.len
    by_cases hlt : k < n
    · obtain ⟨x, hx⟩ : ∃ x, ns[k]? = some x := ⟨ns[k]'(by omega), List.getElem?_eq_getElem _⟩
      have hst := nsize_take (Nd.ls_get hx)
      have h1 := nsize_take_le (Nd.ls ns) (k + 1)
      have hxl := (hrk.rk x (List.mem_of_getElem? hx)).len
      obtain ⟨a, ha⟩ : ∃ a, nsize ((Nd.ls ns).take k) = a := ⟨_, rfl⟩
      rw [ha] at hst ⊢
      have hab : a + x.n ≤ 4000000 := by omega
      have Hst := Lib.hid hst
      have Hx := Lib.hid hx
      have Hxl := Lib.hid hxl
      clear hst h1 ha hx hlen hxl
      go_wp2_with ((with_reducible refine on_index (.tmp 14) ?_); refine wn_at rfl _ (.tmp 14) _ rfl el_row rfl rfl (by omega) (by omega) hrk.rd ?_; intro b j y hy hbB hc; have hxx : x = y := (by have e := hy.out; rw [Int.toNat_natCast, Hx.out] at e; injection e); subst hxx)
      go_roundw
      case rel => exact ⟨k + 1, by omega, by go_num, by rw [Hst.out, Hxl.out]; simp, rfl⟩
      case measure => simp [intOf]; omega
    · obtain rfl : k = n := by omega
      go_wp2
      go_ret
      refine ⟨?_, k0⟩
      rw [List.take_of_length_le (by rw [Nd.ls_len]; omega)]
      rfl
set_option maxRecDepth 100000 in
set_option maxHeartbeats 2000000 in
theorem rnetmay_any (A : Option Addr) (n c : Nat) (ns : List Nd) (w : World) (hn : n ≤ 4000000) (hs : nsize (Nd.ls ns) ≤ 4000000) (B : Nat) (hr : NRd w B A n c ns) (e : Int) (he : nmay (Nd.ls ns) = e) :
    Calls Try.prog 21 #[.agg #[.slice A n c]] w (RetB (.int .i64 e) w) := by
  have hlen := hr.len
  have k0 := below_alloc w (Nat.le_refl _) (.cells #[.slice A n c] 24)
  have hr0 := hr.step k0
  have He := Lib.hid he
  clear he
  go_enter Try.func21, Try.ntmps21
  by_cases hbig : 256 < n ∨ 4096 < nsize (Nd.ls ns)
  · have he := He.out
    unfold nmay at he
    rw [Nd.ls_len, hlen, if_pos hbig] at he
    subst he
    by_cases h1 : 256 < n
    · have hd : decide ((256 : Int) < (n : Int)) = true := decide_eq_true (by omega)
      go_wp2
      go_ret
      exact ⟨rfl, k0⟩
    · have h2 : 4096 < nsize (Nd.ls ns) := by omega
      have hd : decide ((256 : Int) < (n : Int)) = false := decide_eq_false (by omega)
      have hd2 : decide ((4096 : Int) < (nsize (Nd.ls ns) : Int)) = true := decide_eq_true (by omega)
      clear hbig h1 h2
      go_wp2_with (go_at_call 22; refine (rnetsize_any A n c ns _ hn hs B hr0).mono ?_; rintro e w1 ⟨rfl, hb1⟩)
      go_ret
      exact ⟨rfl, k0.trans (hb1.mono k0.size)⟩
  · have he := He.out
    unfold nmay at he
    rw [Nd.ls_len, hlen, if_neg hbig] at he
    have He2 := Lib.hid he
    have hd : decide ((256 : Int) < (n : Int)) = false := decide_eq_false (by omega)
    have hd2 : decide ((4096 : Int) < (nsize (Nd.ls ns) : Int)) = false := decide_eq_false (by omega)
    clear he He
    have bx0 := Box.new w #[.slice A n c] 24
    go_wp2_with (go_at_call 22; refine (rnetsize_any A n c ns _ hn hs B hr0).mono ?_; rintro e1 w1 ⟨rfl, hb1⟩; have bx1 := bx0.step hb1; have y1 : w1.cell? ⟨w.heap.size, 0, none⟩ = some (.slice A n c) := bx1.cell 0)
    have k1 := k0.trans (hb1.mono k0.size)
    clear hbig hd hd2 hb1 hr0 k0 bx0
    go_loopw [3] (fun i wr => NmayRel ns n w1 i wr) (fun i _ => n - (intOf i).toNat)
    case atStart => exact ⟨0, by omega, rfl, Lib.hid rfl, Below.refl _ _⟩
    case round =>
      obtain ⟨k, hk, rfl, hgo, hb⟩ := hrel
      have hrk := (hr.step k1).step hb
      have yk : wr.cell? ⟨w.heap.size, 0, none⟩ = some (.slice A n c) := (bx1.step hb).cell 0
      have kk := k1.trans (hb.mono k1.size)
      by_cases hlt : k < n
      · obtain ⟨x, hx⟩ : ∃ x, ns[k]? = some x := ⟨ns[k]'(by omega), List.getElem?_eq_getElem _⟩
        have hxm := List.mem_of_getElem? hx
        have hxr := hrk.rk x hxm
        have hxl := hxr.len
        have hle : x.l.length ≤ nsize (Nd.ls ns) := len_le_nsize (List.mem_map.2 ⟨x, hxm, rfl⟩)
        have hxn : x.n ≤ 4000000 := by omega
        obtain ⟨t, ht⟩ : ∃ t, tmay x.l n = t := ⟨_, rfl⟩
        have K := Lib.hid (fun q : Step wr.heap.size wr => rtmay_any x.A x.n x.c x.l n q.w (by omega) B (hxr.step q.h) (hrk.ok x hxm))
        rw [ht] at K
        have q1 := hrk.rd.reach
        have qa : ∀ q : Step wr.heap.size wr, q.w.cell? ⟨w.heap.size, 0, none⟩ = some (.slice A n c) := fun q => ((bx1.step hb).step q.h).cell 0
        have Hx := Lib.hid hx
        have Ht := Lib.hid ht
        clear hx hxm hxr hxl hle ht
        go_upto_region 6 with fail
        refine wp_region_reach (by kernel_rfl) (by kernel_rfl) ?_
        repeat (first | go_big_quiet_skip | ((with_reducible refine onq_index (.tmp 22) ?_); refine wqn_at rfl _ (.tmp 22) _ rfl el_row rfl rfl (by omega) (by omega) (Th.Reach.refl _ _) (fun w' hw => q1.rd w' hw) ?_; intro b5 j5 x5 hr5 hc5; have hxx : x = x5 := (by have e := hr5.out; rw [Int.toNat_natCast, Hx.out] at e; injection e); subst hxx; have f5 : ∀ q : Step wr.heap.size wr, q.w.cell? ⟨b5, j5, none⟩ = some (.slice x.A x.n x.c) := fun q => hc5.out q.w ⟨q, rfl⟩) | go_big_quiet_step ((with_reducible exact Calls.reach (K.out _))) | quiet_step ((with_reducible exact Calls.reach (K.out _))))
        refine wpQuiet_nil ?_
        rintro _ ⟨q, rfl⟩
        have hqw2 := q.h
        obtain ⟨w2, hw2'⟩ : ∃ W, q.w = W := ⟨_, rfl⟩
        rw [hw2'] at hqw2 ⊢
        clear hw2' q
        have Bw2 := hb.trans (hqw2.mono hb.size)
        have kk2 := kk.trans (hqw2.mono kk.size)
        clear K q1 qa
        by_cases h0 : t = 0
        · subst h0
          go_wp2
          go_roundw
          case rel => exact ⟨k + 1, by omega, by go_num, Lib.hid (by rw [hgo.out]; exact nmayGo_ok (Nd.ls_get Hx.out) Ht.out), Bw2⟩
          case measure => simp [intOf]; omega
        · have ht1 : (t != 0) = true := by simpa using h0
          have hgo2 : nmayGo n (Nd.ls ns) = t := by rw [hgo.out, nmayGo_bad (Nd.ls_get Hx.out) (by rw [Ht.out]; exact h0)]; exact Ht.out
          rw [He2.out] at hgo2
          subst hgo2
          go_wp2
          go_ret
          exact ⟨rfl, kk2⟩
      · obtain rfl : k = n := by omega
        have he : e = 0 := by
          rw [← He2.out, hgo.out, List.drop_eq_nil_of_le (by rw [Nd.ls_len]; omega)]
          rfl
        subst he
        go_wp2
        go_ret
        exact ⟨rfl, kk⟩
end Go.Proofs.Ytdmkiejaejlajaa
