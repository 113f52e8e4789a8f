/-
  The walks of layer 2 and of its reference, each function once.
-/
import Derived.Test.YtgiefjbdkkdaiaaGroupPlain
import Derived.Test.YtgiefjbdkkdaiaaTypes
namespace Go.Proofs.Ytgiefjbdkkdaiaa
open Go.RowKit Go.Th

/-- A whole number comes back; the world is as it was. -/
def RetInt (v : Int) (w : World) (e : Ending) (w' : World) : Prop := e = .returned (.int .i64 v) ∧ w = w'
/-- Three whole numbers. -/
def RetT3 (t : Nat × Nat × Int) (w : World) (e : Ending) (w' : World) : Prop := e = .returned (.tuple #[.int .i64 t.1, .int .i64 t.2.1, .int .i64 t.2.2]) ∧ w = w'
/-- A row of n bytes of the call's own, and an error's number. -/
def RetG (bs : List UInt8) (er : Int) (w : World) (e : Ending) (w' : World) : Prop :=
  ∃ A n c, e = .returned (.tuple #[.slice A n c, .int .i64 er]) ∧ OwS bv w' w.heap.size 5 A n c bs ∧ Below w.heap.size w w'

theorem gsize_out (n : Int) (w : World) (h : n < 0 ∨ 268435455 < n) : Calls Try.prog 38 #[.int .i64 n] w (RetInt 0 w) := by
  by_cases h1 : n < 0
  · go_enter Try.func38, Try.ntmps38
    go_wp2
    go_ret
    exact ⟨rfl, rfl⟩
  · have h2 : 268435455 < n := by omega
    go_enter Try.func38, Try.ntmps38
    go_wp2
    go_ret
    exact ⟨rfl, rfl⟩
set_option maxRecDepth 100000 in
theorem gsize_in (n : Nat) (w : World) (h : n < 268435456) : Calls Try.prog 38 #[.int .i64 n] w (RetInt (gsize n) w) := by
  go_enter Try.func38, Try.ntmps38
  go_wp2
  go_loop [0, 3] (fun x s => ∃ X k : Nat, X < 268435456 ∧ k ≤ 4 ∧ x = .int .i64 X ∧ s = .int .i64 k ∧ Hid (gsize X + k = gsize n + 1)) (fun x _ => (intOf x).toNat)
  case atStart => exact ⟨n, 1, h, by omega, rfl, rfl, rfl⟩
  case round =>
    obtain ⟨X, k, hX, hk, rfl, rfl, hs⟩ := hrel
    by_cases hlt : 128 ≤ X
    · have h5 : gsize (X / 128) + (k + 1) = gsize n + 1 := by have := gsize_step hlt hX; have := hs.out; omega
      have h6 : k + 1 ≤ 4 := by have := gsize_pos (X / 128); have := gsize_pos n; omega
      have H5 := Lib.hid h5
      clear h5
      go_wp2
      go_round
      case rel => exact ⟨X / 128, k + 1, by omega, h6, by go_num, by go_num, H5.out⟩
      case measure => simp [intOf]; omega
    · have h5 : k = gsize n := by have := hs.out; rw [gsize_small (by omega)] at this; omega
      have H5 := Lib.hid h5
      clear h5
      go_wp2
      go_ret
      exact ⟨congrArg (fun z : Nat => Ending.returned (.int .i64 (z : Int))) H5.out, rfl⟩

theorem gput_out (n : Int) (w : World) (h : n < 0 ∨ 268435455 < n) : Calls Try.prog 33 #[.int .i64 n] w (RetG [] 1 w) := by
  go_enter Try.func33, Try.ntmps33
  go_wp2_with (first
    | (go_at_call 38; refine (gsize_out _ _ h).mono ?_; rintro e w' ⟨rfl, rfl⟩))
  go_ret2
  exact ⟨none, 0, 0, rfl, OwS.nil_ _ _ _, Below.refl _ _⟩

/-- The loop's relation: m bytes are yet to be laid. -/
def GPutRel (base g n r : Nat) (w : World) (x i : Value) (wr : World) : Prop :=
  ∃ (X m : Nat) (l : List UInt8), X < 268435456 ∧ m ≤ r + 1 ∧ x = .int .i64 X ∧ i = .int .i64 ((m : Int) - 1) ∧ Hid (gd X m ++ l = gd n (r + 1)) ∧ OwS bv wr base 5 (some ⟨g, 0, none⟩) (r + 1) (r + 1) (List.replicate m 0 ++ l) ∧ Below base w wr

theorem OwS_cell {α : Type} {f : α → Value} {w : World} {base e g n c : Nat} {xs : List α} (h : OwS f w base e (some ⟨g, 0, none⟩) n c xs) {j : Nat} {x : α} (hx : xs[j]? = some x) : w.cell? ⟨g, j, none⟩ = some (f x) := by
  obtain ⟨b, o, e, _, hc⟩ := h.rd.rd.at_ j (f x) (by rw [List.getElem?_map, hx]; rfl)
  injection e with e
  injection e with e1 e2
  subst e1 e2
  rwa [Nat.zero_add] at hc

set_option maxRecDepth 100000 in
theorem gput_in (n : Nat) (w : World) (h : n < 268435456) : Calls Try.prog 33 #[.int .i64 n] w (RetG (gput n) 0 w) := by
  obtain ⟨r, hr⟩ : ∃ r, gsize n = r + 1 := ⟨gsize n - 1, by have := (gsize_pos n).1; omega⟩
  have hr3 : r ≤ 3 := by have := (gsize_pos n).2; omega
  have Hr := Lib.hid hr
  have hgs : ((gsize n : Nat) : Int) = (r : Int) + 1 := by omega
  have Hgs := Lib.hid hgs
  clear hr hgs
  go_enter Try.func33, Try.ntmps33
  go_wp2_with (first
    | (go_at_call 38; refine (gsize_in _ _ h).mono ?_; rintro e w' ⟨rfl, rfl⟩; rw [Hgs.out])
    | (refine wl_makeS (base := w.heap.size) rfl _ _ _ rfl el_u8 (f := bv) 0 rfl (r + 1) rfl rfl (by omega) (by omega) (by omega) (by omega) (Nat.le_refl _) ?_; intro g w1 hg how hb))
  go_loopw [0, 6] (fun x i wr => GPutRel w.heap.size g n r w x i wr) (fun _ i _ => (intOf i + 1).toNat)
  case atStart => exact ⟨n, r + 1, [], h, by omega, rfl, by go_num, by show _ = _; rw [List.append_nil], by rw [List.append_nil]; exact how, hb⟩
  case round =>
    obtain ⟨X, m, l, hX, hm, rfl, rfl, hl, how, hb⟩ := hrel
    by_cases hlt : 1 ≤ m
    · obtain ⟨m, rfl⟩ : ∃ k, m = k + 1 := ⟨m - 1, by omega⟩
      have h5 : gd (X / 128) m ++ (UInt8.ofNat (X % 128 + 128) :: l) = gd n (r + 1) := by rw [← hl.out, gd, List.append_assoc]; rfl
      have H5 := Lib.hid h5
      clear h5
      go_wp2_with (first
        | (refine wl_index_own rfl _ _ _ rfl Try.underlying23 size_u8 rfl rfl (by omega) (by omega) ?_)
        | (refine wl_setS rfl _ _ _ rfl size_u8 rfl rfl (UInt8.ofNat (X % 128 + 128)) (by simp only [bv, UInt8.toNat_ofNat', Value.int.injEq, true_and]; omega) how (by omega) ?_; intro w2 how2 hg2 hb2))
      go_roundw
      case rel =>
        refine ⟨X / 128, m, _, by omega, by omega, by go_num, by go_num, H5.out, ?_, hb.trans hb2⟩
        rw [← fill_set m 0]
        rw [show (((m + 1 : Nat) : Int) - 1).toNat * 1 = m by omega] at how2
        exact how2
      case measure => simp [intOf]
    · have e : m = 0 := by omega
      subst e
      rw [List.replicate_zero, List.nil_append] at how
      have hl' : l = gd (n / 128) r ++ [UInt8.ofNat (n % 128 + 128)] := hl.out
      rw [hl'] at how
      obtain ⟨d, hd, hd2⟩ : ∃ d, n % 128 = d ∧ d < 128 := ⟨_, rfl, by omega⟩
      have hc0 : wr.cell? ⟨g, r, none⟩ = some (.int .u8 ((d : Int) + 128)) := by
        have := OwS_cell how (j := r) (x := UInt8.ofNat (n % 128 + 128)) (by rw [List.getElem?_append_right (by rw [gd_length]; omega), gd_length, Nat.sub_self]; rfl)
        rw [this, hd]
        simp only [bv, UInt8.toNat_ofNat', Option.some.injEq, Value.int.injEq, true_and]
        omega
      rw [hd] at how
      have Hd := Lib.hid hd
      clear hd hl' hl
      go_wp2_with (first
        | (refine wl_index_own rfl _ _ _ rfl Try.underlying23 size_u8 rfl rfl (by omega) (by omega) ?_)
        | (refine wl_setS rfl _ _ _ rfl size_u8 rfl rfl (UInt8.ofNat d) (by simp only [bv, UInt8.toNat_ofNat', Value.int.injEq, true_and]; omega) how (by omega) ?_; intro w2 how2 hg2 hb2))
      go_ret2
      refine ⟨_, _, _, rfl, ?_, hb.trans hb2⟩
      have e2 : gput n = gd (n / 128) r ++ [UInt8.ofNat d] := by rw [gput, Hr.out, Hd.out]; rfl
      rw [e2, ← last_set _ (UInt8.ofNat (d + 128)) _ r (gd_length _ _)]
      rw [show (r : Int).toNat * 1 = r by omega] at how2
      exact how2

/-! ### Take -/
/-- The loop's relation: k bytes were looked at. -/
def GTakeRel (bs : List UInt8) (n : Nat) (v c l i : Value) : Prop :=
  ∃ V k : Nat, k ≤ n ∧ k ≤ 4 ∧ v = .int .i64 V ∧ c = .int .i64 k ∧ l = .bool false ∧ i = .int .i64 k ∧ V < 128 ^ k ∧ Hid (gt 4 0 0 bs = gt (4 - k) V k (bs.drop k)) ∧ Hid (1 ≤ k → gtake bs = gt 4 0 0 bs)
theorem pow128 {k : Nat} (h : k < 4) : 128 ^ k ≤ 2097152 ∧ 128 ^ (k + 1) = 128 ^ k * 128 := by
  have : k = 0 ∨ k = 1 ∨ k = 2 ∨ k = 3 := by omega
  rcases this with rfl | rfl | rfl | rfl <;> simp
theorem u8_is {x : UInt8} {k : Nat} (hk : k < 256) : x = UInt8.ofNat k ↔ x.toNat = k := by
  constructor
  · rintro rfl; simp; omega
  · intro h; rw [← h]; simp

theorem u8_at {bs : List UInt8} {k : Nat} {x y : UInt8} (h : bs[((k : Nat) : Int).toNat]? = some x) (h2 : bs[k]? = some y) : x = y := by
  rw [Int.toNat_natCast, h2] at h
  injection h with h
  exact h.symm
set_option maxRecDepth 100000 in
theorem gtake_any (A : Option Addr) (n c : Nat) (w : World) (hm : n ≤ 9223372036854775807) (B : Nat) (bs : List UInt8) (hr : RdS bv w B A n c bs) :
    Calls Try.prog 35 #[.slice A n c] w (RetT3 (gtake bs) w) := by
  go_enter Try.func35, Try.ntmps35
  go_wp2
  go_step3
  go_wp2
  go_step3
  go_wp2
  go_loop [5, 6, 7, 12] (fun v c l i => GTakeRel bs n v c l i) (fun _ _ _ i => n - (intOf i).toNat)
  case atStart => exact ⟨0, 0, by omega, by omega, rfl, rfl, rfl, rfl, by omega, rfl, fun h => absurd h (by omega)⟩
  case round =>
    obtain ⟨V, k, hkn, hk4, rfl, rfl, rfl, rfl, hV, hg, h1⟩ := hrel
    have hlen := hr.len
    by_cases hlt : k < n
    · obtain ⟨x0, hx0⟩ : ∃ x0, bs[k]? = some x0 := ⟨bs[k]'(by omega), List.getElem?_eq_getElem _⟩
      have Hx0 := Lib.hid hx0
      clear hx0
      by_cases hk0 : k = 0 ∧ x0.toNat = 128
      · obtain ⟨rfl, hx128⟩ := hk0
        have hb : gtake bs = (0, 0, 3) := by
          unfold gtake
          rw [if_pos]
          rw [Hx0.out, (u8_is (by omega)).2 hx128]; rfl
        have Hb := Lib.hid hb
        have hx128' : (x0.toNat : Int) = 128 := by omega
        clear hb
        go_wp2_with (first | (refine wl_at_b rfl _ _ _ rfl el_u8 rfl rfl (by omega) (by omega) hr ?_; intro p x hx hxl hc; have hxx : x0 = x := (u8_at hx.out Hx0.out).symm; subst hxx))
        go_ret3
        rw [Hb.out]
        exact ⟨rfl, rfl⟩
      · have hgt : gtake bs = gt (4 - k) V k (bs.drop k) := by
          rw [← hg.out]
          unfold gtake
          by_cases hk : k = 0
          · subst hk
            rw [if_neg]
            intro e
            rw [Hx0.out] at e
            injection e with e
            exact hk0 ⟨rfl, (u8_is (by omega)).1 e⟩
          · have := h1.out (by omega)
            unfold gtake at this
            exact this
        have Hgt := Lib.hid hgt
        clear hgt
        have hx255 : x0.toNat < 256 := x0.toNat_lt
        by_cases hk44 : k = 4
        · subst hk44
          have hb : gtake bs = (0, 0, 3) := Hgt.out
          have Hb := Lib.hid hb
          clear hb
          go_wp2_with (first | (refine wl_at_b rfl _ _ _ rfl el_u8 rfl rfl (by omega) (by omega) hr ?_; intro p x hx hxl hc; have hxx : x0 = x := (u8_at hx.out Hx0.out).symm; subst hxx))
          go_ret3
          rw [Hb.out]
          exact ⟨rfl, rfl⟩
        · have hp := pow128 (show k < 4 by omega)
          obtain ⟨hp1, hp2⟩ := hp
          have hV2 : V < 2097152 := by omega
          by_cases hx : x0.toNat < 128
          · have hb : gtake bs = (V * 128 + x0.toNat, k + 1, 0) := by rw [Hgt.out]; exact gt_low (by omega) Hx0.out hx
            have Hb := Lib.hid hb
            have hxm : (x0.toNat : Int) % 128 = x0.toNat := by omega
            have hx128' : ¬ (x0.toNat : Int) = 128 := by omega
            clear hb hV hp1 hp2
            rcases Nat.eq_zero_or_pos k with h0 | h0
            · subst h0
              go_wp2_with (first | (refine wl_at_b rfl _ _ _ rfl el_u8 rfl rfl (by omega) (by omega) hr ?_; intro p x hx hxl hc; have hxx : x0 = x := (u8_at hx.out Hx0.out).symm; subst hxx))
              go_ret3
              rw [Hb.out]
              exact ⟨rfl, rfl⟩
            · have h0' : ¬ (k : Int) = 0 := by omega
              go_wp2_with (first | (refine wl_at_b rfl _ _ _ rfl el_u8 rfl rfl (by omega) (by omega) hr ?_; intro p x hx hxl hc; have hxx : x0 = x := (u8_at hx.out Hx0.out).symm; subst hxx))
              go_ret3
              rw [Hb.out]
              exact ⟨rfl, rfl⟩
          · obtain ⟨y, hy⟩ : ∃ y, x0.toNat - 128 = y := ⟨_, rfl⟩
            have hym : (x0.toNat : Int) % 128 = y := by omega
            have hb : gt 4 0 0 bs = gt (4 - (k + 1)) (V * 128 + y) (k + 1) (bs.drop (k + 1)) := by
              rw [hg.out, show 4 - k = (4 - (k + 1)) + 1 by omega, gt_high Hx0.out (by omega), hy]
            have Hb := Lib.hid hb
            have hV3 : V * 128 + y < 128 ^ (k + 1) := by rw [hp2]; omega
            have Hgt4 := Lib.hid (Hgt.out.trans hg.out.symm)
            have HV3 := Lib.hid hV3
            clear hb hV hp1 hp2 hV3 hy
            rcases Nat.eq_zero_or_pos k with h0 | h0
            · subst h0
              have hx128' : ¬ (x0.toNat : Int) = 128 := by omega
              go_wp2_with (first | (refine wl_at_b rfl _ _ _ rfl el_u8 rfl rfl (by omega) (by omega) hr ?_; intro p x hx hxl hc; have hxx : x0 = x := (u8_at hx.out Hx0.out).symm; subst hxx))
              go_round
              case rel => exact ⟨V * 128 + y, 0 + 1, by omega, by omega, by go_num, by go_num, rfl, by go_num, HV3.out, Hb.out, fun _ => Hgt4.out⟩
              case measure => simp [intOf]; omega
            · have h0' : ¬ (k : Int) = 0 := by omega
              go_wp2_with (first | (refine wl_at_b rfl _ _ _ rfl el_u8 rfl rfl (by omega) (by omega) hr ?_; intro p x hx hxl hc; have hxx : x0 = x := (u8_at hx.out Hx0.out).symm; subst hxx))
              go_round
              case rel => exact ⟨V * 128 + y, k + 1, by omega, by omega, by go_num, by go_num, rfl, by go_num, HV3.out, Hb.out, fun _ => Hgt4.out⟩
              case measure => simp [intOf]; omega
    · have e : k = n := by omega
      subst e
      have hgt : gtake bs = gt (4 - k) V k [] := by
        have hd : bs.drop k = [] := List.drop_eq_nil_of_le (by omega)
        rw [← hd, ← hg.out]
        unfold gtake
        by_cases hk : k = 0
        · rw [if_neg]
          rw [List.getElem?_eq_none (by omega)]
          simp
        · have := h1.out (by omega)
          unfold gtake at this
          exact this
      by_cases hk44 : k = 4
      · subst hk44
        have hb : gtake bs = (0, 0, 3) := hgt
        have Hb := Lib.hid hb
        clear hb hgt
        go_wp2
        go_ret3
        rw [Hb.out]
        exact ⟨rfl, rfl⟩
      · have hb : gtake bs = (0, 0, 2) := by rw [hgt]; exact gt_nil _ _ _ (by omega)
        have Hb := Lib.hid hb
        clear hb hgt
        go_wp2
        go_ret3
        rw [Hb.out]
        exact ⟨rfl, rfl⟩
end Go.Proofs.Ytgiefjbdkkdaiaa
