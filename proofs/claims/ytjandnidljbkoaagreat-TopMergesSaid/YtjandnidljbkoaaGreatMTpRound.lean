/-
  theseustop.round, few.
-/
import Derived.Test.YtjandnidljbkoaaGreatMTpSure
namespace Go.Proofs.YtjandnidljbkoaaGreat
open Go.RowKit Go.Th
set_option linter.unusedVariables false
def Ro1 (ls : List (List Ru)) (a : Int) (n : Nat) (w : World) (i : Value) (wr : World) : Prop :=
  ∃ k : Nat, k ≤ n ∧ i = .int .i64 k ∧ Hid (∀ v : Nat, v < k → ∀ L, ¬ Cyc (hof ls a) (gof ls a) (v : Int) L) ∧ Below w.heap.size w wr
def Ro2 (ls : List (List Ru)) (a : Int) (n v : Nat) (w : World) (s i : Value) (wr : World) : Prop :=
  ∃ (j : Nat) (u : Int), j ≤ n ∧ i = .int .i64 j ∧ s = .int .i64 u ∧ Hid (u = itr (hof ls a) j v) ∧ Hid (∀ t, t < j → gof ls a (itr (hof ls a) t v) = true) ∧ Hid (∀ t, 0 < t → t ≤ j → itr (hof ls a) t v ≠ v) ∧ Below w.heap.size w wr
set_option maxRecDepth 100000 in
set_option maxHeartbeats 4000000 in
theorem roundT_any (A : Option Addr) (n c : Nat) (ns : List Nd) (a : Int) (w : World) (ha : 0 ≤ a ∧ a ≤ 4294967295) (B : Nat) (hr : NRd w B A n c ns) (hN : NetOk (Nd.ls ns)) (b : Bool) (hb : b = true ↔ ∃ u L, Cyc (hof (Nd.ls ns) a) (gof (Nd.ls ns) a) u L) :
    Calls Tryz.prog 13 #[.agg #[.slice A n c], .int .u32 a] w (RetB (.bool b) w) := by
  have hlen : (Nd.ls ns).length = n := by rw [Nd.ls_len]; exact hr.len
  have hn := hN.len
  have hsz := hN.size
  have hrn : ∀ x ∈ ns, x.n ≤ 9223372036854775807 := fun x hx => by
    have h1 := (hr.rk x hx).len
    have h2 : x.l.length ≤ nsize (Nd.ls ns) := nsize_mem (List.mem_map.2 ⟨x, hx, rfl⟩ : x.l ∈ Nd.ls ns)
    omega
  have KS := Lib.hid (fun (v : Int) W (hW : Below w.heap.size w W) => step_any A n c ns a v W (by omega) ha hrn B (hr.step hW) (hof (Nd.ls ns) a v) (gof (Nd.ls ns) a v) (Lib.hid rfl))
  obtain ⟨ls, hls⟩ : ∃ l, Nd.ls ns = l := ⟨_, rfl⟩
  rw [hls] at hlen KS hb hn
  have Hb := Lib.hid hb
  have Hl := Lib.hid hlen
  have hn2 : n ≤ 256 := by omega
  clear hls hN hsz hrn hb hr hlen hn
  have k0 := below_alloc w (Nat.le_refl _) (.cells #[.slice A n c] 34)
  have b0 := Box.new w #[.slice A n c] 34
  obtain ⟨W0, hW0⟩ : ∃ W, w.alloc (.cells #[.slice A n c] 34) = W := ⟨_, rfl⟩
  rw [hW0] at k0 b0
  go_enter Tryz.func13, Tryz.ntmps13
  go_upto_region 1 with fail
  clear hW0
  go_wp2
  go_loopw [5] (fun i wr => Ro1 ls a n W0 i wr) (fun i _ => n - (intOf i).toNat)
  case atStart => exact ⟨0, by omega, rfl, Lib.hid (fun v hv => absurd hv (by omega)), Below.refl _ _⟩
  case round =>
    obtain ⟨k, hk, rfl, hno, hbw⟩ := hrel
    have y0 : wr.cell? ⟨w.heap.size, 0, none⟩ = some (.slice A n c) := (b0.step hbw).cell 0
    by_cases hlt : k < n
    · have next : (∀ L, ¬ Cyc (hof ls a) (gof ls a) (k : Int) L) → Hid (∀ v : Nat, v < k + 1 → ∀ L, ¬ Cyc (hof ls a) (gof ls a) (v : Int) L) := fun h => Lib.hid (fun v hv L => by
        by_cases e : v = k
        · subst e; exact h L
        · exact hno.out v (by omega) L)
      have Next := Lib.hid next
      clear next
      go_wp2
      go_loopw [6, 7] (fun s i wq => Ro2 ls a n k W0 s i wq) (fun _ i _ => n - (intOf i).toNat)
      case atStart => exact ⟨0, (k : Int), by omega, rfl, rfl, Lib.hid rfl, Lib.hid (fun t ht => absurd ht (by omega)), Lib.hid (fun t h1 h2 => absurd h1 (by omega)), hbw⟩
      case round =>
        clear y0 hbw
        obtain ⟨j, u, hj, rfl, rfl, hu, hgo, hne, hbj⟩ := hrel
        have bj := b0.step hbj
        have y1 : wr.cell? ⟨w.heap.size, 0, none⟩ = some (.slice A n c) := bj.cell 0
        by_cases hjl : j < n
        · have K := Lib.hid (KS.out u wr (k0.trans (hbj.mono k0.size)))
          obtain ⟨x, hx⟩ : ∃ x, hof ls a u = x := ⟨_, rfl⟩
          obtain ⟨ok, hok⟩ : ∃ x, gof ls a u = x := ⟨_, rfl⟩
          rw [hx, hok] at K
          have Hx := Lib.hid hx
          have Hok := Lib.hid hok
          clear hx hok
          cases ok with
          | false =>
            go_wp2_with (first
              | ((with_reducible refine on_load (.tmp 2) ?_); refine wb_load rfl _ (.tmp 2) rfl st_net rfl bj rfl ?_)
              | (go_at_call 26; refine (K.out).mono ?_; rintro e w2 ⟨rfl, hb2⟩))
            go_roundw
            case rel => exact ⟨k + 1, by omega, by go_num, Next.out (fun L c => by have := c.all j; rw [← hu.out, Hok.out] at this; cases this), hbj.trans (hb2.mono hbj.size)⟩
            case measure => simp [intOf]; omega
          | true =>
            by_cases hxv : x = (k : Int)
            · have hd : (x == (k : Int)) = true := by simpa using hxv
              have hbt : b = true := Hb.out.2 ⟨(k : Int), j + 1, by omega, fun t ht => by
                by_cases e : t = j
                · subst e; rw [← hu.out]; exact Hok.out
                · exact hgo.out t (by omega), by rw [itr, ← hu.out, Hx.out, hxv]⟩
              subst hbt
              clear hxv
              go_wp2_with (first
                | ((with_reducible refine on_load (.tmp 2) ?_); refine wb_load rfl _ (.tmp 2) rfl st_net rfl bj rfl ?_)
                | (go_at_call 26; refine (K.out).mono ?_; rintro e w2 ⟨rfl, hb2⟩))
              go_ret
              exact ⟨rfl, k0.trans ((hbj.trans (hb2.mono hbj.size)).mono k0.size)⟩
            · have hd : (x == (k : Int)) = false := by simpa using hxv
              go_wp2_with (first
                | ((with_reducible refine on_load (.tmp 2) ?_); refine wb_load rfl _ (.tmp 2) rfl st_net rfl bj rfl ?_)
                | (go_at_call 26; refine (K.out).mono ?_; rintro e w2 ⟨rfl, hb2⟩))
              go_roundw
              case rel => exact ⟨j + 1, x, by omega, by go_num, rfl, Lib.hid (by rw [itr, ← hu.out, Hx.out]), Lib.hid (fun t ht => by
                by_cases e : t = j
                · subst e; rw [← hu.out]; exact Hok.out
                · exact hgo.out t (by omega)), Lib.hid (fun t h1 h2 => by
                by_cases e : t = j + 1
                · subst e; rw [itr, ← hu.out, Hx.out]; exact hxv
                · exact hne.out t h1 (by omega)), hbj.trans (hb2.mono hbj.size)⟩
              case measure => simp [intOf]; omega
        · obtain rfl : j = n := by omega
          go_wp2
          go_roundw
          case rel => exact ⟨k + 1, by omega, by go_num, Next.out (fun L c => by
            obtain ⟨M, h1, h2⟩ := cyc_short c
            exact hne.out M h2.pos (by rw [← Hl.out]; exact h1) h2.back), hbj⟩
          case measure => simp [intOf]; omega
    · obtain rfl : k = n := by omega
      have hbf : b = false := by
        cases b with
        | false => rfl
        | true =>
          obtain ⟨u, L, c⟩ := Hb.out.1 rfl
          have h1 := gof_in (c.goes 0 c.pos)
          have h2 : itr (hof ls a) 0 u = u := rfl
          rw [h2, Hl.out] at h1
          exact absurd (by rw [Int.toNat_of_nonneg h1.1]; exact c) (hno.out u.toNat (by omega) L)
      subst hbf
      go_wp2
      go_ret
      exact ⟨rfl, k0.trans (hbw.mono k0.size)⟩
end Go.Proofs.YtjandnidljbkoaaGreat
