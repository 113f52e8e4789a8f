/-
  Laid together by wip/tools/merge.py out of: Group, GroupLaw, CrcPlain, GroupMore, FramePlain, Frame, Crc, NumLaw, NumRef, FramePut, FrameLaw, GroupRef.
-/
import Derived.Lib.SlBytesConst
import Derived.Laws.BitsAllLaws
import Derived.Test.YtgapcmodhcdebaaNfMa
import Derived.Test.YtgapcmodhcdebaaNfMb
import Derived.Test.YtgapcmodhcdebaaNfMc

/-! ### Group -/
namespace Go.Proofs.Ytgapcmodhcdebaa
open Go.RowKit Go.Th
/-- A whole number comes back; the world is as it was. -/
def RetInt (v : Int) (w : World) (e : Ending) (w' : World) : Prop := e = .returned (.int .i64 v) ∧ w = w'
/-- Three whole numbers. -/
def RetT3 (t : Nat × Nat × Int) (w : World) (e : Ending) (w' : World) : Prop := e = .returned (.tuple #[.int .i64 t.1, .int .i64 t.2.1, .int .i64 t.2.2]) ∧ w = w'
/-- A row of n bytes of the call's own, and an error's number. -/
def RetG (bs : List UInt8) (er : Int) (w : World) (e : Ending) (w' : World) : Prop :=
  ∃ A n c, e = .returned (.tuple #[.slice A n c, .int .i64 er]) ∧ OwS bv w' w.heap.size 5 A n c bs ∧ Below w.heap.size w w'

theorem gsize_out (n : Int) (w : World) (h : n < 0 ∨ 268435455 < n) : Calls Try.prog 43 #[.int .i64 n] w (RetInt 0 w) := by
  by_cases h1 : n < 0
  · go_enter Try.func43, Try.ntmps43
    go_wp2
    go_ret
    exact ⟨rfl, rfl⟩
  · have h2 : 268435455 < n := by omega
    go_enter Try.func43, Try.ntmps43
    go_wp2
    go_ret
    exact ⟨rfl, rfl⟩
set_option maxRecDepth 100000 in
theorem gsize_in (n : Nat) (w : World) (h : n < 268435456) : Calls Try.prog 43 #[.int .i64 n] w (RetInt (gsize n) w) := by
  go_enter Try.func43, Try.ntmps43
  go_wp2
  go_loop [0, 3] (fun x s => ∃ X k : Nat, X < 268435456 ∧ k ≤ 4 ∧ x = .int .i64 X ∧ s = .int .i64 k ∧ Hid (gsize X + k = gsize n + 1)) (fun x _ => (intOf x).toNat)
  case atStart => exact ⟨n, 1, h, by omega, rfl, rfl, rfl⟩
  case round =>
    obtain ⟨X, k, hX, hk, rfl, rfl, hs⟩ := hrel
    by_cases hlt : 128 ≤ X
    · have h5 : gsize (X / 128) + (k + 1) = gsize n + 1 := by have := gsize_step hlt hX; have := hs.out; omega
      have h6 : k + 1 ≤ 4 := by have := gsize_pos (X / 128); have := gsize_pos n; omega
      have H5 := Lib.hid h5
      clear h5
      go_wp2
      go_round
      case rel => exact ⟨X / 128, k + 1, by omega, h6, by go_num, by go_num, H5.out⟩
      case measure => simp [intOf]; omega
    · have h5 : k = gsize n := by have := hs.out; rw [gsize_small (by omega)] at this; omega
      have H5 := Lib.hid h5
      clear h5
      go_wp2
      go_ret
      exact ⟨congrArg (fun z : Nat => Ending.returned (.int .i64 (z : Int))) H5.out, rfl⟩

theorem gput_out (n : Int) (w : World) (h : n < 0 ∨ 268435455 < n) : Calls Try.prog 21 #[.int .i64 n] w (RetG [] 1 w) := by
  go_enter Try.func21, Try.ntmps21
  go_wp2_with (first
    | (go_at_call 43; refine (gsize_out _ _ h).mono ?_; rintro e w' ⟨rfl, rfl⟩))
  go_ret2
  exact ⟨none, 0, 0, rfl, OwS.nil_ _ _ _, Below.refl _ _⟩

/-- The loop's relation: m bytes are yet to be laid. -/
def GPutRel (base g n r : Nat) (w : World) (x i : Value) (wr : World) : Prop :=
  ∃ (X m : Nat) (l : List UInt8), X < 268435456 ∧ m ≤ r + 1 ∧ x = .int .i64 X ∧ i = .int .i64 ((m : Int) - 1) ∧ Hid (gd X m ++ l = gd n (r + 1)) ∧ OwS bv wr base 5 (some ⟨g, 0, none⟩) (r + 1) (r + 1) (List.replicate m 0 ++ l) ∧ Below base w wr

theorem OwS_cell {α : Type} {f : α → Value} {w : World} {base e g n c : Nat} {xs : List α} (h : OwS f w base e (some ⟨g, 0, none⟩) n c xs) {j : Nat} {x : α} (hx : xs[j]? = some x) : w.cell? ⟨g, j, none⟩ = some (f x) := by
  obtain ⟨b, o, e, _, hc⟩ := h.rd.rd.at_ j (f x) (by rw [List.getElem?_map, hx]; rfl)
  injection e with e
  injection e with e1 e2
  subst e1 e2
  rwa [Nat.zero_add] at hc

set_option maxRecDepth 100000 in
theorem gput_in (n : Nat) (w : World) (h : n < 268435456) : Calls Try.prog 21 #[.int .i64 n] w (RetG (gput n) 0 w) := by
  obtain ⟨r, hr⟩ : ∃ r, gsize n = r + 1 := ⟨gsize n - 1, by have := (gsize_pos n).1; omega⟩
  have hr3 : r ≤ 3 := by have := (gsize_pos n).2; omega
  have Hr := Lib.hid hr
  have hgs : ((gsize n : Nat) : Int) = (r : Int) + 1 := by omega
  have Hgs := Lib.hid hgs
  clear hr hgs
  go_enter Try.func21, Try.ntmps21
  go_wp2_with (first
    | (go_at_call 43; refine (gsize_in _ _ h).mono ?_; rintro e w' ⟨rfl, rfl⟩; rw [Hgs.out])
    | (refine wl_makeS (base := w.heap.size) rfl _ _ _ rfl el_u8 (f := bv) 0 rfl (r + 1) rfl rfl (by omega) (by omega) (by omega) (by omega) (Nat.le_refl _) ?_; intro g w1 hg how hb))
  go_loopw [0, 6] (fun x i wr => GPutRel w.heap.size g n r w x i wr) (fun _ i _ => (intOf i + 1).toNat)
  case atStart => exact ⟨n, r + 1, [], h, by omega, rfl, by go_num, by show _ = _; rw [List.append_nil], by rw [List.append_nil]; exact how, hb⟩
  case round =>
    obtain ⟨X, m, l, hX, hm, rfl, rfl, hl, how, hb⟩ := hrel
    by_cases hlt : 1 ≤ m
    · obtain ⟨m, rfl⟩ : ∃ k, m = k + 1 := ⟨m - 1, by omega⟩
      have h5 : gd (X / 128) m ++ (UInt8.ofNat (X % 128 + 128) :: l) = gd n (r + 1) := by rw [← hl.out, gd, List.append_assoc]; rfl
      have H5 := Lib.hid h5
      clear h5
      go_wp2_with (first
        | (refine wl_index_own rfl _ _ _ rfl Try.underlying25 size_u8 rfl rfl (by omega) (by omega) ?_)
        | (refine wl_setS rfl _ _ _ rfl size_u8 rfl rfl (UInt8.ofNat (X % 128 + 128)) (by simp only [bv, UInt8.toNat_ofNat', Value.int.injEq, true_and]; omega) how (by omega) ?_; intro w2 how2 hg2 hb2))
      go_roundw
      case rel =>
        refine ⟨X / 128, m, _, by omega, by omega, by go_num, by go_num, H5.out, ?_, hb.trans hb2⟩
        rw [← fill_set m 0]
        rw [show (((m + 1 : Nat) : Int) - 1).toNat * 1 = m by omega] at how2
        exact how2
      case measure => simp [intOf]
    · have e : m = 0 := by omega
      subst e
      rw [List.replicate_zero, List.nil_append] at how
      have hl' : l = gd (n / 128) r ++ [UInt8.ofNat (n % 128 + 128)] := hl.out
      rw [hl'] at how
      obtain ⟨d, hd, hd2⟩ : ∃ d, n % 128 = d ∧ d < 128 := ⟨_, rfl, by omega⟩
      have hc0 : wr.cell? ⟨g, r, none⟩ = some (.int .u8 ((d : Int) + 128)) := by
        have := OwS_cell how (j := r) (x := UInt8.ofNat (n % 128 + 128)) (by rw [List.getElem?_append_right (by rw [gd_length]; omega), gd_length, Nat.sub_self]; rfl)
        rw [this, hd]
        simp only [bv, UInt8.toNat_ofNat', Option.some.injEq, Value.int.injEq, true_and]
        omega
      rw [hd] at how
      have Hd := Lib.hid hd
      clear hd hl' hl
      go_wp2_with (first
        | (refine wl_index_own rfl _ _ _ rfl Try.underlying25 size_u8 rfl rfl (by omega) (by omega) ?_)
        | (refine wl_setS rfl _ _ _ rfl size_u8 rfl rfl (UInt8.ofNat d) (by simp only [bv, UInt8.toNat_ofNat', Value.int.injEq, true_and]; omega) how (by omega) ?_; intro w2 how2 hg2 hb2))
      go_ret2
      refine ⟨_, _, _, rfl, ?_, hb.trans hb2⟩
      have e2 : gput n = gd (n / 128) r ++ [UInt8.ofNat d] := by rw [gput, Hr.out, Hd.out]; rfl
      rw [e2, ← last_set _ (UInt8.ofNat (d + 128)) _ r (gd_length _ _)]
      rw [show (r : Int).toNat * 1 = r by omega] at how2
      exact how2

/-- The loop's relation: k bytes were looked at. -/
def GTakeRel (bs : List UInt8) (n : Nat) (v c l i : Value) : Prop :=
  ∃ V k : Nat, k ≤ n ∧ k ≤ 4 ∧ v = .int .i64 V ∧ c = .int .i64 k ∧ l = .bool false ∧ i = .int .i64 k ∧ V < 128 ^ k ∧ Hid (gt 4 0 0 bs = gt (4 - k) V k (bs.drop k)) ∧ Hid (1 ≤ k → gtake bs = gt 4 0 0 bs)
theorem pow128 {k : Nat} (h : k < 4) : 128 ^ k ≤ 2097152 ∧ 128 ^ (k + 1) = 128 ^ k * 128 := by
  have : k = 0 ∨ k = 1 ∨ k = 2 ∨ k = 3 := by omega
  rcases this with rfl | rfl | rfl | rfl <;> simp
theorem u8_is {x : UInt8} {k : Nat} (hk : k < 256) : x = UInt8.ofNat k ↔ x.toNat = k := by
  constructor
  · rintro rfl; simp; omega
  · intro h; rw [← h]; simp

theorem u8_at {bs : List UInt8} {k : Nat} {x y : UInt8} (h : bs[((k : Nat) : Int).toNat]? = some x) (h2 : bs[k]? = some y) : x = y := by
  rw [Int.toNat_natCast, h2] at h
  injection h with h
  exact h.symm
set_option maxRecDepth 100000 in
theorem gtake_any (A : Option Addr) (n c : Nat) (w : World) (hm : n ≤ 9223372036854775807) (B : Nat) (bs : List UInt8) (hr : RdS bv w B A n c bs) :
    Calls Try.prog 56 #[.slice A n c] w (RetT3 (gtake bs) w) := by
  go_enter Try.func56, Try.ntmps56
  go_wp2
  go_step3
  go_wp2
  go_step3
  go_wp2
  go_loop [5, 6, 7, 12] (fun v c l i => GTakeRel bs n v c l i) (fun _ _ _ i => n - (intOf i).toNat)
  case atStart => exact ⟨0, 0, by omega, by omega, rfl, rfl, rfl, rfl, by omega, rfl, fun h => absurd h (by omega)⟩
  case round =>
    obtain ⟨V, k, hkn, hk4, rfl, rfl, rfl, rfl, hV, hg, h1⟩ := hrel
    have hlen := hr.len
    by_cases hlt : k < n
    · obtain ⟨x0, hx0⟩ : ∃ x0, bs[k]? = some x0 := ⟨bs[k]'(by omega), List.getElem?_eq_getElem _⟩
      have Hx0 := Lib.hid hx0
      clear hx0
      by_cases hk0 : k = 0 ∧ x0.toNat = 128
      · obtain ⟨rfl, hx128⟩ := hk0
        have hb : gtake bs = (0, 0, 3) := by
          unfold gtake
          rw [if_pos]
          rw [Hx0.out, (u8_is (by omega)).2 hx128]; rfl
        have Hb := Lib.hid hb
        have hx128' : (x0.toNat : Int) = 128 := by omega
        clear hb
        go_wp2_with (first | (refine wl_at_b rfl _ _ _ rfl el_u8 rfl rfl (by omega) (by omega) hr ?_; intro p x hx hxl hc; have hxx : x0 = x := (u8_at hx.out Hx0.out).symm; subst hxx))
        go_ret3
        rw [Hb.out]
        exact ⟨rfl, rfl⟩
      · have hgt : gtake bs = gt (4 - k) V k (bs.drop k) := by
          rw [← hg.out]
          unfold gtake
          by_cases hk : k = 0
          · subst hk
            rw [if_neg]
            intro e
            rw [Hx0.out] at e
            injection e with e
            exact hk0 ⟨rfl, (u8_is (by omega)).1 e⟩
          · have := h1.out (by omega)
            unfold gtake at this
            exact this
        have Hgt := Lib.hid hgt
        clear hgt
        have hx255 : x0.toNat < 256 := x0.toNat_lt
        by_cases hk44 : k = 4
        · subst hk44
          have hb : gtake bs = (0, 0, 3) := Hgt.out
          have Hb := Lib.hid hb
          clear hb
          go_wp2_with (first | (refine wl_at_b rfl _ _ _ rfl el_u8 rfl rfl (by omega) (by omega) hr ?_; intro p x hx hxl hc; have hxx : x0 = x := (u8_at hx.out Hx0.out).symm; subst hxx))
          go_ret3
          rw [Hb.out]
          exact ⟨rfl, rfl⟩
        · have hp := pow128 (show k < 4 by omega)
          obtain ⟨hp1, hp2⟩ := hp
          have hV2 : V < 2097152 := by omega
          by_cases hx : x0.toNat < 128
          · have hb : gtake bs = (V * 128 + x0.toNat, k + 1, 0) := by rw [Hgt.out]; exact gt_low (by omega) Hx0.out hx
            have Hb := Lib.hid hb
            have hxm : (x0.toNat : Int) % 128 = x0.toNat := by omega
            have hx128' : ¬ (x0.toNat : Int) = 128 := by omega
            clear hb hV hp1 hp2
            rcases Nat.eq_zero_or_pos k with h0 | h0
            · subst h0
              go_wp2_with (first | (refine wl_at_b rfl _ _ _ rfl el_u8 rfl rfl (by omega) (by omega) hr ?_; intro p x hx hxl hc; have hxx : x0 = x := (u8_at hx.out Hx0.out).symm; subst hxx))
              go_ret3
              rw [Hb.out]
              exact ⟨rfl, rfl⟩
            · have h0' : ¬ (k : Int) = 0 := by omega
              go_wp2_with (first | (refine wl_at_b rfl _ _ _ rfl el_u8 rfl rfl (by omega) (by omega) hr ?_; intro p x hx hxl hc; have hxx : x0 = x := (u8_at hx.out Hx0.out).symm; subst hxx))
              go_ret3
              rw [Hb.out]
              exact ⟨rfl, rfl⟩
          · obtain ⟨y, hy⟩ : ∃ y, x0.toNat - 128 = y := ⟨_, rfl⟩
            have hym : (x0.toNat : Int) % 128 = y := by omega
            have hb : gt 4 0 0 bs = gt (4 - (k + 1)) (V * 128 + y) (k + 1) (bs.drop (k + 1)) := by
              rw [hg.out, show 4 - k = (4 - (k + 1)) + 1 by omega, gt_high Hx0.out (by omega), hy]
            have Hb := Lib.hid hb
            have hV3 : V * 128 + y < 128 ^ (k + 1) := by rw [hp2]; omega
            have Hgt4 := Lib.hid (Hgt.out.trans hg.out.symm)
            have HV3 := Lib.hid hV3
            clear hb hV hp1 hp2 hV3 hy
            rcases Nat.eq_zero_or_pos k with h0 | h0
            · subst h0
              have hx128' : ¬ (x0.toNat : Int) = 128 := by omega
              go_wp2_with (first | (refine wl_at_b rfl _ _ _ rfl el_u8 rfl rfl (by omega) (by omega) hr ?_; intro p x hx hxl hc; have hxx : x0 = x := (u8_at hx.out Hx0.out).symm; subst hxx))
              go_round
              case rel => exact ⟨V * 128 + y, 0 + 1, by omega, by omega, by go_num, by go_num, rfl, by go_num, HV3.out, Hb.out, fun _ => Hgt4.out⟩
              case measure => simp [intOf]; omega
            · have h0' : ¬ (k : Int) = 0 := by omega
              go_wp2_with (first | (refine wl_at_b rfl _ _ _ rfl el_u8 rfl rfl (by omega) (by omega) hr ?_; intro p x hx hxl hc; have hxx : x0 = x := (u8_at hx.out Hx0.out).symm; subst hxx))
              go_round
              case rel => exact ⟨V * 128 + y, k + 1, by omega, by omega, by go_num, by go_num, rfl, by go_num, HV3.out, Hb.out, fun _ => Hgt4.out⟩
              case measure => simp [intOf]; omega
    · have e : k = n := by omega
      subst e
      have hgt : gtake bs = gt (4 - k) V k [] := by
        have hd : bs.drop k = [] := List.drop_eq_nil_of_le (by omega)
        rw [← hd, ← hg.out]
        unfold gtake
        by_cases hk : k = 0
        · rw [if_neg]
          rw [List.getElem?_eq_none (by omega)]
          simp
        · have := h1.out (by omega)
          unfold gtake at this
          exact this
      by_cases hk44 : k = 4
      · subst hk44
        have hb : gtake bs = (0, 0, 3) := hgt
        have Hb := Lib.hid hb
        clear hb hgt
        go_wp2
        go_ret3
        rw [Hb.out]
        exact ⟨rfl, rfl⟩
      · have hb : gtake bs = (0, 0, 2) := by rw [hgt]; exact gt_nil _ _ _ (by omega)
        have Hb := Lib.hid hb
        clear hb hgt
        go_wp2
        go_ret3
        rw [Hb.out]
        exact ⟨rfl, rfl⟩
end Go.Proofs.Ytgapcmodhcdebaa

/-! ### GroupLaw -/
namespace Go.Proofs.Ytgapcmodhcdebaa
open Go.RowKit Go.Th
/-- Put's answer, and Size's. -/
def GP (n : Int) : List UInt8 × Int := if 0 ≤ n ∧ n ≤ 268435455 then (gput n.toNat, 0) else ([], 1)
def GS (n : Int) : Nat := if 0 ≤ n ∧ n ≤ 268435455 then gsize n.toNat else 0
theorem GP_length (n : Int) : (GP n).1.length = GS n := by unfold GP GS; split <;> simp [gput_length]
theorem GS_le (n : Int) : GS n ≤ 4 := by unfold GS; split <;> (try omega); exact (gsize_pos _).2
theorem GP_in (n : Nat) (h : n < 268435456) : GP n = (gput n, 0) := by unfold GP; rw [if_pos (by omega)]; simp
theorem GS_in (n : Nat) (h : n < 268435456) : GS n = gsize n := by unfold GS; rw [if_pos (by omega)]; simp
theorem GP_out (n : Int) (h : n < 0 ∨ 268435455 < n) : GP n = ([], 1) := by unfold GP; rw [if_neg (by omega)]
theorem GS_out (n : Int) (h : n < 0 ∨ 268435455 < n) : GS n = 0 := by unfold GS; rw [if_neg (by omega)]

/-- A row of the call's own with these bytes, as many as Size tells. -/
def RetP (n : Int) (w : World) (e : Ending) (w' : World) : Prop :=
  ∃ A c, e = .returned (.tuple #[.slice A (GS n) c, .int .i64 (GP n).2]) ∧ OwS bv w' w.heap.size 5 A (GS n) c (GP n).1 ∧ Below w.heap.size w w'
theorem RetP.of_g {n : Int} {w : World} {e : Ending} {w' : World} (h : RetG (GP n).1 (GP n).2 w e w') : RetP n w e w' := by
  obtain ⟨A, m, c, rfl, how, hb⟩ := h
  have : m = GS n := by rw [← how.len, GP_length]
  subst this
  exact ⟨A, c, rfl, how, hb⟩
theorem gput_any (n : Int) (w : World) : Calls Try.prog 21 #[.int .i64 n] w (RetP n w) := by
  by_cases h : 0 ≤ n ∧ n ≤ 268435455
  · obtain ⟨k, rfl⟩ := Int.eq_ofNat_of_zero_le h.1
    refine (gput_in k w (by omega)).mono fun _ _ hh => .of_g ?_
    rw [GP_in k (by omega)]
    exact hh
  · refine (gput_out n w (by omega)).mono fun _ _ hh => .of_g ?_
    rw [GP_out n (by omega)]
    exact hh
theorem gsize_any (n : Int) (w : World) : Calls Try.prog 43 #[.int .i64 n] w (RetInt (GS n) w) := by
  by_cases h : 0 ≤ n ∧ n ≤ 268435455
  · obtain ⟨k, rfl⟩ := Int.eq_ofNat_of_zero_le h.1
    rw [GS_in k (by omega)]
    exact gsize_in k w (by omega)
  · rw [GS_out n (by omega)]
    exact gsize_out n w (by omega)

theorem gput_300 (w : World) : Calls Try.prog 21 #[.int .i64 300] w (RetG [130, 44] 0 w) := gput_in 300 w (by omega)
theorem gtake_300 (w : World) : Calls Try.prog 56 #[.slice (some ⟨w.heap.size, 0, none⟩) 3 3] (w.alloc (.cells #[.int .u8 130, .int .u8 44, .int .u8 9] 5)) (RetT3 (300, 2, 0) (w.alloc (.cells #[.int .u8 130, .int .u8 44, .int .u8 9] 5))) := by
  have how2 := OwS.lit (base := w.heap.size) (e := 5) (f := bv) (xs := [130, 44, 9]) w #[.int .u8 130, .int .u8 44, .int .u8 9] 3 (Nat.le_refl _) (by simp [maxLen]) rfl (by simp [bv])
  exact gtake_any _ 3 3 _ (by omega) _ _ how2.rd
theorem gsize_300 (w : World) : Calls Try.prog 43 #[.int .i64 300] w (RetInt 2 w) := gsize_in 300 w (by omega)
end Go.Proofs.Ytgapcmodhcdebaa

/-! ### CrcPlain -/
namespace Go.Th
def poly : Nat := 2197175160
/-- One bit on. -/
def ct (s : Nat) : Nat := if s % 2 = 1 then s / 2 ^^^ poly else s / 2
def ctn : Nat → Nat → Nat
  | 0, s => s
  | k + 1, s => ctn k (ct s)
def cstep (s : Nat) (c : UInt8) : Nat := ctn 8 (s ^^^ c.toNat)
def cfrom (s : Nat) (bs : List UInt8) : Nat := bs.foldl cstep s
def csum (bs : List UInt8) : Nat := cfrom 4294967295 bs ^^^ 4294967295
theorem ctn_succ' : ∀ (k s : Nat), ctn (k + 1) s = ct (ctn k s)
  | 0, _ => rfl
  | k + 1, s => ctn_succ' k (ct s)
theorem xor_lt32 {a b : Nat} (ha : a < 4294967296) (hb : b < 4294967296) : a ^^^ b < 4294967296 := Nat.xor_lt_two_pow (n := 32) ha hb
theorem ct_lt {s : Nat} (h : s < 4294967296) : ct s < 4294967296 := by
  unfold ct
  split
  · exact xor_lt32 (by omega) (by decide)
  · omega
theorem ctn_lt : ∀ (k : Nat) {s : Nat}, s < 4294967296 → ctn k s < 4294967296
  | 0, _, h => h
  | k + 1, _, h => ctn_lt k (ct_lt h)
theorem cstep_lt {s : Nat} (h : s < 4294967296) (c : UInt8) : cstep s c < 4294967296 := ctn_lt 8 (xor_lt32 h (by have := c.toNat_lt; omega))
theorem cfrom_lt : ∀ (bs : List UInt8) {s : Nat}, s < 4294967296 → cfrom s bs < 4294967296
  | [], _, h => h
  | c :: bs, _, h => cfrom_lt bs (cstep_lt h c)
theorem csum_lt (bs : List UInt8) : csum bs < 4294967296 := xor_lt32 (cfrom_lt bs (by omega)) (by omega)
theorem cfrom_snoc (s : Nat) (bs : List UInt8) (c : UInt8) : cfrom s (bs ++ [c]) = cstep (cfrom s bs) c := by simp [cfrom]
theorem cfrom_append (s : Nat) (xs ys : List UInt8) : cfrom s (xs ++ ys) = cfrom (cfrom s xs) ys := by simp [cfrom]
theorem xor_mod2 (u x : Nat) : (u ^^^ 2 * x) % 2 = u % 2 := by
  have := Nat.xor_mod_two_pow (a := u) (b := 2 * x) (n := 1)
  rw [show (2 : Nat) ^ 1 = 2 from rfl] at this
  rw [this, Nat.mul_mod_right, Nat.xor_zero]
theorem xor_div2 (u x : Nat) : (u ^^^ 2 * x) / 2 = u / 2 ^^^ x := by
  have := Nat.xor_div_two_pow (a := u) (b := 2 * x) (n := 1)
  rw [show (2 : Nat) ^ 1 = 2 from rfl] at this
  rw [this, Nat.mul_div_cancel_left _ (by decide)]
theorem ct_xor (u x : Nat) : ct (u ^^^ 2 * x) = ct u ^^^ x := by
  unfold ct
  rw [xor_mod2, xor_div2]
  split
  · rw [Nat.xor_assoc, Nat.xor_assoc, Nat.xor_comm x]
  · rfl
theorem ctn_xor : ∀ (k u x : Nat), ctn k (u ^^^ 2 ^ k * x) = ctn k u ^^^ x
  | 0, u, x => by simp [ctn]
  | k + 1, u, x => by
    have := ctn_xor k (ct u) x
    rw [ctn, show 2 ^ (k + 1) * x = 2 * (2 ^ k * x) by rw [Nat.pow_succ]; rw [Nat.mul_comm (2 ^ k) 2, Nat.mul_assoc], ct_xor, this]
    rfl
theorem low_high (u : Nat) : u = u % 256 ^^^ 256 * (u / 256) := by
  apply Nat.eq_of_testBit_eq
  intro i
  rw [Nat.testBit_xor, show (256 : Nat) = 2 ^ 8 from rfl, Nat.testBit_mod_two_pow, Nat.testBit_two_pow_mul]
  by_cases h : i < 8
  · simp [h, show ¬ 8 ≤ i by omega]
  · have h8 : 8 ≤ i := by omega
    simp only [h, decide_false, Bool.false_and, h8, decide_true, Bool.true_and, Bool.false_xor]
    rw [Nat.testBit_div_two_pow, Nat.sub_add_cancel h8]
/-- A byte on, by a table of the 256 steps from nought. -/
theorem cstep_table (s : Nat) (c : UInt8) : cstep s c = s / 256 ^^^ ctn 8 (s % 256 ^^^ c.toNat) := by
  unfold cstep
  have h : s ^^^ c.toNat = (s % 256 ^^^ c.toNat) ^^^ 2 ^ 8 * (s / 256) := by
    conv => lhs; rw [low_high s]
    rw [Nat.xor_assoc, Nat.xor_assoc, Nat.xor_comm c.toNat]
  rw [h, ctn_xor, Nat.xor_comm]
theorem ct_inj {s t : Nat} (hs : s < 4294967296) (ht : t < 4294967296) (h : ct s = ct t) : s = t := by
  have hb : ∀ u, u < 4294967296 → (u / 2 ^^^ poly).testBit 31 = true := fun u hu => by
    rw [Nat.testBit_xor, Nat.testBit_lt_two_pow (x := u / 2) (i := 31) (by omega)]
    decide
  have hl : ∀ u, u < 4294967296 → (u / 2).testBit 31 = false := fun u hu => Nat.testBit_lt_two_pow (by omega)
  have hx : ∀ a b : Nat, a ^^^ poly = b ^^^ poly → a = b := fun a b e => by
    have := congrArg (· ^^^ poly) e
    simpa [Nat.xor_assoc] using this
  unfold ct at h
  split at h <;> split at h
  · have := hx _ _ h; omega
  · have := hb s hs; rw [h, hl t ht] at this; cases this
  · have := hb t ht; rw [← h, hl s hs] at this; cases this
  · omega
theorem ctn_inj : ∀ (k : Nat) {s t : Nat}, s < 4294967296 → t < 4294967296 → ctn k s = ctn k t → s = t
  | 0, _, _, _, _, h => h
  | k + 1, _, _, hs, ht, h => ct_inj hs ht (ctn_inj k (ct_lt hs) (ct_lt ht) h)
theorem xor_right_inj {a b c : Nat} (h : a ^^^ c = b ^^^ c) : a = b := by
  have := congrArg (· ^^^ c) h
  simpa [Nat.xor_assoc] using this
theorem cstep_inj {s t : Nat} (hs : s < 4294967296) (ht : t < 4294967296) (c : UInt8) (h : cstep s c = cstep t c) : s = t := by
  have hc : c.toNat < 4294967296 := by have := c.toNat_lt; omega
  exact xor_right_inj (ctn_inj 8 (xor_lt32 hs hc) (xor_lt32 ht hc) h)
theorem cfrom_inj : ∀ (bs : List UInt8) {s t : Nat}, s < 4294967296 → t < 4294967296 → cfrom s bs = cfrom t bs → s = t
  | [], _, _, _, _, h => h
  | c :: bs, _, _, hs, ht, h => cstep_inj hs ht c (cfrom_inj bs (cstep_lt hs c) (cstep_lt ht c) h)
theorem xor_both2 (u v : Nat) : (u ^^^ v) % 2 = if u % 2 = v % 2 then 0 else 1 := by
  have := Nat.xor_mod_two_pow (a := u) (b := v) (n := 1)
  rw [show (2 : Nat) ^ 1 = 2 from rfl] at this
  rw [this]
  rcases Nat.mod_two_eq_zero_or_one u with h | h <;> rcases Nat.mod_two_eq_zero_or_one v with h' | h' <;> rw [h, h'] <;> decide
theorem xor_half (u v : Nat) : (u ^^^ v) / 2 = u / 2 ^^^ v / 2 := by
  have := Nat.xor_div_two_pow (a := u) (b := v) (n := 1)
  rwa [show (2 : Nat) ^ 1 = 2 from rfl] at this
theorem ct_lin (u v : Nat) : ct (u ^^^ v) = ct u ^^^ ct v := by
  unfold ct
  rw [xor_both2, xor_half]
  have hp : ∀ a b : Nat, (a ^^^ poly) ^^^ (b ^^^ poly) = a ^^^ b := fun a b => by
    rw [Nat.xor_assoc, Nat.xor_comm b poly, ← Nat.xor_assoc poly, Nat.xor_self, Nat.zero_xor]
  rcases Nat.mod_two_eq_zero_or_one u with h | h <;> rcases Nat.mod_two_eq_zero_or_one v with h' | h' <;> rw [h, h'] <;> simp
  · rw [Nat.xor_assoc]
  · rw [Nat.xor_assoc, Nat.xor_assoc, Nat.xor_comm poly]
  · exact (hp _ _).symm
theorem ctn_lin : ∀ (k u v : Nat), ctn k (u ^^^ v) = ctn k u ^^^ ctn k v
  | 0, _, _ => rfl
  | k + 1, u, v => by rw [ctn, ctn, ctn, ct_lin, ctn_lin k]
theorem ctn_zero : ∀ k, ctn k 0 = 0
  | 0 => rfl
  | k + 1 => ctn_zero k
theorem ctn_add : ∀ (j k s : Nat), ctn (j + k) s = ctn k (ctn j s)
  | 0, k, s => by rw [Nat.zero_add]; rfl
  | j + 1, k, s => by rw [Nat.add_right_comm]; exact ctn_add j k (ct s)
/-- Bytes as one number, the first one lowest. -/
def le : List UInt8 → Nat
  | [] => 0
  | c :: bs => c.toNat ^^^ 256 * le bs
theorem cfrom_le : ∀ (bs : List UInt8) (s : Nat), cfrom s bs = ctn (8 * bs.length) (s ^^^ le bs)
  | [], s => by simp [cfrom, le, ctn]
  | c :: bs, s => by
    have h : cfrom s (c :: bs) = cfrom (cstep s c) bs := rfl
    have e : s ^^^ (c.toNat ^^^ 256 * le bs) = (s ^^^ c.toNat) ^^^ 2 ^ 8 * le bs := by rw [Nat.xor_assoc]
    rw [h, cfrom_le bs, le, e, List.length_cons, Nat.mul_succ, Nat.add_comm _ 8, ctn_add, ctn_xor]
    rfl
/-- A bit is turned. -/
def flip (bs : List UInt8) (p : Nat) : List UInt8 := bs.set (p / 8) (bs.getD (p / 8) 0 ^^^ UInt8.ofNat (2 ^ (p % 8)))
theorem flip_length (bs : List UInt8) (p : Nat) : (flip bs p).length = bs.length := by simp [flip]
theorem bit_of (k : Nat) (h : k < 8) (c : UInt8) : (c ^^^ UInt8.ofNat (2 ^ k)).toNat = c.toNat ^^^ 2 ^ k := by
  rw [UInt8.toNat_xor]
  have : (UInt8.ofNat (2 ^ k)).toNat = 2 ^ k := by
    rw [UInt8.toNat_ofNat']
    exact Nat.mod_eq_of_lt (Nat.pow_lt_pow_right (by decide) h)
  rw [this]
theorem le_flip : ∀ (bs : List UInt8) (p : Nat), p < 8 * bs.length → le (flip bs p) = le bs ^^^ 2 ^ p
  | [], p, h => by simp at h
  | c :: bs, p, h => by
    by_cases hp : p < 8
    · have h0 : p / 8 = 0 := by omega
      have h1 : p % 8 = p := by omega
      unfold flip
      rw [h0, h1]
      simp only [List.set_cons_zero, List.getD_cons_zero, le]
      rw [bit_of p hp, Nat.xor_assoc, Nat.xor_assoc, Nat.xor_comm (2 ^ p)]
    · have h0 : p / 8 = (p - 8) / 8 + 1 := by omega
      have h1 : p % 8 = (p - 8) % 8 := by omega
      have ih := le_flip bs (p - 8) (by rw [List.length_cons] at h; omega)
      unfold flip at ih ⊢
      rw [h0, h1]
      simp only [List.set_cons_succ, List.getD_cons_succ, le]
      rw [ih]
      have e : 256 * (le bs ^^^ 2 ^ (p - 8)) = 256 * le bs ^^^ 2 ^ p := by
        have hx := Nat.shiftLeft_xor_distrib (a := le bs) (b := 2 ^ (p - 8)) (i := 8)
        rw [Nat.shiftLeft_eq, Nat.shiftLeft_eq, Nat.shiftLeft_eq] at hx
        rw [show (2 : Nat) ^ 8 = 256 from rfl] at hx
        have h8 : 8 + (p - 8) = p := by omega
        have h9 : 2 ^ (p - 8) * 256 = 2 ^ p := by
          rw [Nat.mul_comm, show (256 : Nat) = 2 ^ 8 from rfl, ← Nat.pow_add, h8]
        rw [Nat.mul_comm, hx, Nat.mul_comm (le bs), h9]
      rw [e, Nat.xor_assoc]
theorem flip_append (bs cs : List UInt8) (p : Nat) (h : p < 8 * bs.length) : flip (bs ++ cs) p = flip bs p ++ cs := by
  unfold flip
  have hl : p / 8 < bs.length := by omega
  rw [List.set_append_left _ _ hl]
  congr 3
  rw [List.getD_eq_getElem?_getD, List.getD_eq_getElem?_getD, List.getElem?_append_left hl]
/-- Up to 32 bits next to each other, the lowest one turned: the sum is another one. -/
theorem csum_burst {bs cs : List UInt8} (hl : cs.length = bs.length) {p e : Nat} (he : e ≠ 0) (he2 : e < 4294967296) (hp : p ≤ 8 * bs.length) (h : le cs = le bs ^^^ 2 ^ p * e) : csum cs ≠ csum bs := fun hs => by
  have h1 : ∀ s, cfrom s cs = cfrom s bs → ctn (8 * bs.length) (2 ^ p * e) = 0 := fun s h1 => by
    rw [cfrom_le, cfrom_le, hl, h, ← Nat.xor_assoc, ctn_lin] at h1
    have := congrArg (ctn (8 * bs.length) (s ^^^ le bs) ^^^ ·) h1
    simpa [← Nat.xor_assoc] using this
  have h2 := h1 _ (xor_right_inj hs)
  obtain ⟨k, hk⟩ : ∃ k, 8 * bs.length = p + k := ⟨8 * bs.length - p, by omega⟩
  have h3 : ctn p (2 ^ p * e) = e := by
    have := ctn_xor p 0 e
    rw [Nat.zero_xor, ctn_zero, Nat.zero_xor] at this
    exact this
  rw [hk, ctn_add, h3] at h2
  exact he (ctn_inj k he2 (by omega) (h2.trans (ctn_zero k).symm))
end Go.Th

/-! ### GroupMore -/
namespace Go.Th
def hi7 (a : Nat) : UInt8 := UInt8.ofNat (a % 128 + 128)
def lo7 (a : Nat) : UInt8 := UInt8.ofNat (a % 128)
theorem hi7_toNat (a : Nat) : (hi7 a).toNat = a % 128 + 128 := by unfold hi7; simp; omega
theorem lo7_toNat (a : Nat) : (lo7 a).toNat = a % 128 := by unfold lo7; simp; omega
theorem u8_ext {x y : UInt8} (h : x.toNat = y.toNat) : x = y := UInt8.toNat_inj.1 h
theorem hi7_ne {a : Nat} (h : a % 128 ≠ 0) : hi7 a ≠ 128 := fun e => by
  have := congrArg UInt8.toNat e
  rw [hi7_toNat] at this
  simp at this
  omega
theorem lo7_ne (a : Nat) : lo7 a ≠ 128 := fun e => by
  have := congrArg UInt8.toNat e
  rw [lo7_toNat] at this
  simp at this
  omega
theorem gput1 {x : Nat} (h : x < 128) : gput x = [lo7 x] := by rw [gput, gsize_small h]; rfl
theorem gput2 {x : Nat} (h : 128 ≤ x) (h2 : x < 16384) : gput x = [hi7 (x / 128), lo7 x] := by
  have e : gsize x = 2 := by unfold gsize; rw [if_neg (by omega), if_pos (by omega)]
  rw [gput, e]; rfl
theorem gput3 {x : Nat} (h : 16384 ≤ x) (h2 : x < 2097152) : gput x = [hi7 (x / 128 / 128), hi7 (x / 128), lo7 x] := by
  have e : gsize x = 3 := by unfold gsize; rw [if_neg (by omega), if_neg (by omega), if_pos (by omega)]
  rw [gput, e]; rfl
theorem gput4 {x : Nat} (h : 2097152 ≤ x) : gput x = [hi7 (x / 128 / 128 / 128), hi7 (x / 128 / 128), hi7 (x / 128), lo7 x] := by
  have e : gsize x = 4 := by unfold gsize; rw [if_neg (by omega), if_neg (by omega), if_neg (by omega)]
  rw [gput, e]; rfl
theorem gt_hi7 (f v c a : Nat) (bs : List UInt8) : gt (f + 1) v c (hi7 a :: bs) = gt f (v * 128 + a % 128) (c + 1) bs := by
  rw [gt, if_neg (by rw [hi7_toNat]; omega), hi7_toNat, Nat.add_sub_cancel]
theorem gt_lo7 (f v c a : Nat) (bs : List UInt8) : gt (f + 1) v c (lo7 a :: bs) = (v * 128 + a % 128, c + 1, 0) := by
  rw [gt, if_pos (by rw [lo7_toNat]; omega), lo7_toNat]
theorem gtake_cons {b : UInt8} {bs : List UInt8} (h : b ≠ 128) : gtake (b :: bs) = gt 4 0 0 (b :: bs) := by
  unfold gtake
  rw [if_neg]
  intro e
  rw [List.getElem?_cons_zero] at e
  injection e with e
  exact h e
theorem sizes (x : Nat) : x < 128 ∨ (128 ≤ x ∧ x < 16384) ∨ (16384 ≤ x ∧ x < 2097152) ∨ 2097152 ≤ x := by omega

/-- What was put is taken, whatever stands behind. -/
theorem gtake_gput (x : Nat) (h : x < 268435456) (bs : List UInt8) : gtake (gput x ++ bs) = (x, gsize x, 0) := by
  rw [← gput_length]
  rcases sizes x with h1 | ⟨h1, h2⟩ | ⟨h1, h2⟩ | h1
  · rw [gput1 h1, List.cons_append, gtake_cons (lo7_ne _), gt_lo7]
    simp; omega
  · rw [gput2 h1 h2, List.cons_append, gtake_cons (hi7_ne (by omega)), gt_hi7, List.cons_append, gt_lo7]
    simp; omega
  · rw [gput3 h1 h2, List.cons_append, gtake_cons (hi7_ne (by omega)), gt_hi7, List.cons_append, gt_hi7, List.cons_append, gt_lo7]
    simp; omega
  · rw [gput4 h1, List.cons_append, gtake_cons (hi7_ne (by omega)), gt_hi7, List.cons_append, gt_hi7, List.cons_append, gt_hi7, List.cons_append, gt_lo7]
    simp; omega
theorem gtake_nil : gtake [] = (0, 0, 2) := rfl
/-- Each beginning of it is too short. -/
theorem gtake_short (x : Nat) (h : x < 268435456) (i : Nat) (hi : i < gsize x) : gtake ((gput x).take i) = (0, 0, 2) := by
  rw [← gput_length] at hi
  rcases i with _ | _ | _ | _ | i
  · rw [List.take_zero]; rfl
  · rcases sizes x with h1 | ⟨h1, h2⟩ | ⟨h1, h2⟩ | h1
    · rw [gput1 h1] at hi; simp at hi
    · rw [gput2 h1 h2, List.take_succ_cons, gtake_cons (hi7_ne (by omega)), gt_hi7]; rfl
    · rw [gput3 h1 h2, List.take_succ_cons, gtake_cons (hi7_ne (by omega)), gt_hi7]; rfl
    · rw [gput4 h1, List.take_succ_cons, gtake_cons (hi7_ne (by omega)), gt_hi7]; rfl
  · rcases sizes x with h1 | ⟨h1, h2⟩ | ⟨h1, h2⟩ | h1
    · rw [gput1 h1] at hi; simp at hi
    · rw [gput2 h1 h2] at hi; simp at hi
    · rw [gput3 h1 h2, List.take_succ_cons, gtake_cons (hi7_ne (by omega)), gt_hi7, List.take_succ_cons, gt_hi7]; rfl
    · rw [gput4 h1, List.take_succ_cons, gtake_cons (hi7_ne (by omega)), gt_hi7, List.take_succ_cons, gt_hi7]; rfl
  · rcases sizes x with h1 | ⟨h1, h2⟩ | ⟨h1, h2⟩ | h1
    · rw [gput1 h1] at hi; simp at hi
    · rw [gput2 h1 h2] at hi; simp at hi
    · rw [gput3 h1 h2] at hi; simp at hi
    · rw [gput4 h1, List.take_succ_cons, gtake_cons (hi7_ne (by omega)), gt_hi7, List.take_succ_cons, gt_hi7, List.take_succ_cons, gt_hi7]; rfl
  · have := (gsize_pos x).2
    rw [gput_length] at hi
    omega
/-- A group of nought ahead is no form. -/
theorem gtake_nought (bs : List UInt8) : gtake (128 :: bs) = (0, 0, 3) := rfl

theorem hi7_of {b : UInt8} {a : Nat} (h : b.toNat = a % 128 + 128) : hi7 a = b := u8_ext (by rw [hi7_toNat, h])
theorem lo7_of {b : UInt8} {a : Nat} (h : b.toNat = a % 128) : lo7 a = b := u8_ext (by rw [lo7_toNat, h])
/-- What is told of any bytes: they are too short, or no form, or just what was put. -/
theorem gtake_what (bs : List UInt8) : (gtake bs = (0, 0, 2) ∧ bs.length < 4) ∨ gtake bs = (0, 0, 3) ∨
    ∃ n k, gtake bs = (n, k, 0) ∧ n < 268435456 ∧ 1 ≤ k ∧ k ≤ bs.length ∧ k ≤ 4 ∧ gput n = bs.take k := by
  rcases bs with _ | ⟨b0, bs⟩
  · exact .inl ⟨rfl, by simp⟩
  by_cases h128 : b0 = 128
  · subst h128; exact .inr (.inl rfl)
  have n128 : b0.toNat ≠ 128 := fun e => h128 (u8_ext (by rw [e]; rfl))
  rw [gtake_cons h128]
  have l0 := b0.toNat_lt
  by_cases c0 : b0.toNat < 128
  · right; right
    refine ⟨b0.toNat, 1, by rw [gt, if_pos c0]; simp, by omega, by omega, by simp, by omega, ?_⟩
    rw [gput1 c0, List.take_succ_cons, List.take_zero, lo7_of (b := b0) (by omega)]
  rw [gt, if_neg c0]
  rcases bs with _ | ⟨b1, bs⟩
  · exact .inl ⟨rfl, by simp⟩
  have l1 := b1.toNat_lt
  by_cases c1 : b1.toNat < 128
  · right; right
    obtain ⟨x, hx⟩ : ∃ x, (0 * 128 + (b0.toNat - 128)) * 128 + b1.toNat = x := ⟨_, rfl⟩
    refine ⟨x, 2, by rw [gt, if_pos c1, hx], by omega, by omega, by simp, by omega, ?_⟩
    rw [gput2 (by omega) (by omega), List.take_succ_cons, List.take_succ_cons, List.take_zero, hi7_of (b := b0) (by omega), lo7_of (b := b1) (by omega)]
  rw [gt, if_neg c1]
  rcases bs with _ | ⟨b2, bs⟩
  · exact .inl ⟨rfl, by simp⟩
  have l2 := b2.toNat_lt
  by_cases c2 : b2.toNat < 128
  · right; right
    obtain ⟨x, hx⟩ : ∃ x, ((0 * 128 + (b0.toNat - 128)) * 128 + (b1.toNat - 128)) * 128 + b2.toNat = x := ⟨_, rfl⟩
    refine ⟨x, 3, by rw [gt, if_pos c2, hx], by omega, by omega, by simp, by omega, ?_⟩
    rw [gput3 (by omega) (by omega), List.take_succ_cons, List.take_succ_cons, List.take_succ_cons, List.take_zero, hi7_of (b := b0) (by omega), hi7_of (b := b1) (by omega), lo7_of (b := b2) (by omega)]
  rw [gt, if_neg c2]
  rcases bs with _ | ⟨b3, bs⟩
  · exact .inl ⟨rfl, by simp⟩
  have l3 := b3.toNat_lt
  by_cases c3 : b3.toNat < 128
  · right; right
    obtain ⟨x, hx⟩ : ∃ x, (((0 * 128 + (b0.toNat - 128)) * 128 + (b1.toNat - 128)) * 128 + (b2.toNat - 128)) * 128 + b3.toNat = x := ⟨_, rfl⟩
    refine ⟨x, 4, by rw [gt, if_pos c3, hx], by omega, by omega, by simp, by omega, ?_⟩
    rw [gput4 (by omega), List.take_succ_cons, List.take_succ_cons, List.take_succ_cons, List.take_succ_cons, List.take_zero, hi7_of (b := b0) (by omega), hi7_of (b := b1) (by omega), hi7_of (b := b2) (by omega), lo7_of (b := b3) (by omega)]
  rw [gt, if_neg c3]
  exact .inr (.inl rfl)
end Go.Th

/-! ### FramePlain -/
namespace Go.Th
def fhead (m : Nat) (bs : List UInt8) : List UInt8 := be m 4 ++ bs
def fput (m : Nat) (bs : List UInt8) : List UInt8 := fhead m bs ++ be (csum (fhead m bs)) 4
def ftake (m : Nat) (bs : List UInt8) : List UInt8 × Int :=
  if bs.length < 8 then ([], 2)
  else if bs.take 4 = be m 4 then
    (if bs.drop (bs.length - 4) = be (csum (bs.take (bs.length - 4))) 4 then ((bs.take (bs.length - 4)).drop 4, 0) else ([], 6))
  else ([], 5)
def fsec (tag : UInt8) (bs : List UInt8) : List UInt8 := tag :: (gput bs.length ++ bs)
def fopen (tag : UInt8) (bs : List UInt8) : List UInt8 × List UInt8 × Int :=
  match bs with
  | [] => ([], [], 2)
  | b :: r =>
    if b = tag then
      (if (gtake r).2.2 = 0 then
        (if (r.drop (gtake r).2.1).length < (gtake r).1 then ([], [], 2)
         else ((r.drop (gtake r).2.1).take (gtake r).1, (r.drop (gtake r).2.1).drop (gtake r).1, 0))
       else ([], [], (gtake r).2.2))
    else ([], [], 3)
theorem fopen_cons (tag b : UInt8) (r : List UInt8) : fopen tag (b :: r) = if b = tag then
      (if (gtake r).2.2 = 0 then
        (if (r.drop (gtake r).2.1).length < (gtake r).1 then ([], [], 2)
         else ((r.drop (gtake r).2.1).take (gtake r).1, (r.drop (gtake r).2.1).drop (gtake r).1, 0))
       else ([], [], (gtake r).2.2))
    else ([], [], 3) := rfl
theorem fhead_length (m : Nat) (bs : List UInt8) : (fhead m bs).length = bs.length + 4 := by simp [fhead, be_length]; omega
theorem fput_length (m : Nat) (bs : List UInt8) : (fput m bs).length = bs.length + 8 := by simp [fput, fhead_length, be_length]
theorem fput_inj {m k : Nat} {bs cs : List UInt8} (hm : m < 4294967296) (hk : k < 4294967296) : fput m bs = fput k cs ↔ m = k ∧ bs = cs := by
  constructor
  · intro h
    have hl := congrArg List.length h
    rw [fput_length, fput_length] at hl
    have h1 := (List.append_inj h (by rw [fhead_length, fhead_length]; omega)).1
    have h2 := List.append_inj h1 (by rw [be_length, be_length])
    exact ⟨(be_inj m k 4 (by omega) (by omega)).1 h2.1, h2.2⟩
  · rintro ⟨rfl, rfl⟩; rfl
theorem ftake_parts {m : Nat} {bs h s : List UInt8} (hh : 4 ≤ h.length) (hs : s.length = 4) (hb : bs = h ++ s) :
    ftake m bs = if h.take 4 = be m 4 then (if s = be (csum h) 4 then (h.drop 4, 0) else ([], 6)) else ([], 5) := by
  subst hb
  have hl : (h ++ s).length = h.length + 4 := by simp [hs]
  unfold ftake
  rw [hl, if_neg (by omega), Nat.add_sub_cancel, List.take_append_of_le_length hh, List.drop_left, List.take_left]
theorem ftake_fput (m : Nat) (bs : List UInt8) : ftake m (fput m bs) = (bs, 0) := by
  rw [ftake_parts (bs := fput m bs) (h := fhead m bs) (s := be (csum (fhead m bs)) 4) (by rw [fhead_length]; omega) (be_length _ _) rfl]
  have e1 : (fhead m bs).take 4 = be m 4 := by
    have := List.take_left (l₁ := be m 4) (l₂ := bs)
    rwa [be_length] at this
  have e2 : (fhead m bs).drop 4 = bs := by
    have := List.drop_left (l₁ := be m 4) (l₂ := bs)
    rwa [be_length] at this
  rw [if_pos e1, if_pos rfl, e2]
theorem ftake_other {m k : Nat} (hm : m < 4294967296) (hk : k < 4294967296) (bs : List UInt8) (h : m ≠ k) : ftake k (fput m bs) = ([], 5) := by
  rw [ftake_parts (bs := fput m bs) (h := fhead m bs) (s := be (csum (fhead m bs)) 4) (by rw [fhead_length]; omega) (be_length _ _) rfl]
  have e1 : (fhead m bs).take 4 = be m 4 := by
    have := List.take_left (l₁ := be m 4) (l₂ := bs)
    rwa [be_length] at this
  rw [e1, if_neg (fun e => h ((be_inj m k 4 (by omega) (by omega)).1 e))]
theorem ftake_short {m : Nat} {bs : List UInt8} (h : bs.length < 8) : ftake m bs = ([], 2) := by unfold ftake; rw [if_pos h]
/-- What is taken is put to just these. -/
theorem fput_ftake {m : Nat} {bs x : List UInt8} (h : ftake m bs = (x, 0)) : fput m x = bs := by
  unfold ftake at h
  split at h
  · injection h with _ h; cases h
  · rename_i h8
    split at h
    · rename_i h4
      split at h
      · rename_i hs
        injection h with hx _
        have e1 : fhead m x = bs.take (bs.length - 4) := by
          have := List.take_append_drop 4 (bs.take (bs.length - 4))
          rw [List.take_take, Nat.min_eq_left (by omega), h4, hx] at this
          exact this
        have e2 : fput m x = bs.take (bs.length - 4) ++ bs.drop (bs.length - 4) := by
          rw [fput, e1, ← hs]
        rw [e2, List.take_append_drop]
      · injection h with _ h; cases h
    · injection h with _ h; cases h
theorem fsec_length (tag : UInt8) (bs : List UInt8) : (fsec tag bs).length = 1 + gsize bs.length + bs.length := by
  simp [fsec, gput_length]; omega
theorem fopen_fsec (tag : UInt8) (bs cs : List UInt8) (h : bs.length < 268435456) : fopen tag (fsec tag bs ++ cs) = (bs, cs, 0) := by
  have e : fsec tag bs ++ cs = tag :: (gput bs.length ++ (bs ++ cs)) := by simp [fsec, List.append_assoc]
  rw [e, fopen_cons, gtake_gput bs.length h]
  have hd : (gput bs.length ++ (bs ++ cs)).drop (gsize bs.length) = bs ++ cs := by
    have := List.drop_left (l₁ := gput bs.length) (l₂ := bs ++ cs)
    rwa [gput_length] at this
  rw [if_pos rfl, if_pos rfl]
  show (if (List.drop (gsize bs.length) _).length < bs.length then _ else _) = _
  rw [hd, if_neg (by simp), List.take_left, List.drop_left]
theorem fopen_own (tag : UInt8) (bs : List UInt8) (h : bs.length < 268435456) : fopen tag (fsec tag bs) = (bs, [], 0) := by
  have := fopen_fsec tag bs [] h
  rwa [List.append_nil] at this
theorem fopen_tag {t u : UInt8} (h : t ≠ u) (bs : List UInt8) : fopen u (t :: bs) = ([], [], 3) := by
  rw [fopen_cons, if_neg h]
theorem fopen_cut (tag : UInt8) (bs : List UInt8) (h : bs.length < 268435456) (k : Nat) (hk : k < (fsec tag bs).length) : fopen tag ((fsec tag bs).take k) = ([], [], 2) := by
  rw [fsec_length] at hk
  cases k with
  | zero => rfl
  | succ j =>
    unfold fsec
    rw [List.take_succ_cons]
    rw [fopen_cons, if_pos rfl]
    by_cases hj : j < gsize bs.length
    · have e : (gput bs.length ++ bs).take j = (gput bs.length).take j := List.take_append_of_le_length (by rw [gput_length]; omega)
      rw [e, gtake_short bs.length h j hj]
      rfl
    · have e : (gput bs.length ++ bs).take j = gput bs.length ++ bs.take (j - gsize bs.length) := by
        rw [List.take_append, gput_length, List.take_of_length_le (by rw [gput_length]; omega)]
      rw [e, gtake_gput bs.length h]
      have hd : (gput bs.length ++ bs.take (j - gsize bs.length)).drop (gsize bs.length) = bs.take (j - gsize bs.length) := by
        have := List.drop_left (l₁ := gput bs.length) (l₂ := bs.take (j - gsize bs.length))
        rwa [gput_length] at this
      rw [if_pos rfl]
      show (if (List.drop (gsize bs.length) _).length < bs.length then _ else _) = _
      rw [hd, if_pos (by rw [List.length_take]; omega)]
end Go.Th

/-! ### Frame -/
namespace Go.Proofs.Ytgapcmodhcdebaa
open Go.RowKit Go.Th
set_option linter.unusedVariables false
/-- The place of few's result. -/
def fewA (A : Option Addr) (n c : Nat) : Option Addr := if n ≤ 150 then A else cutA A 0 c
theorem fewR {A : Option Addr} {n c N : Nat} (hN : min n 150 = N) {w : World} {B : Nat} {bs : List UInt8} (hr : RdS bv w B A n c bs) : RdS bv w B (fewA A n c) N c (bs.take 150) := by
  have hc := hr.cap
  unfold fewA
  split
  · rename_i h
    have e : N = n := by omega
    rw [e, List.take_of_length_le (by rw [hr.len]; omega)]
    exact hr
  · have e : N = 150 := by omega
    rw [e]
    exact hr.cut 0 150 c (by omega) (by omega) (by omega)
/-- A row of bytes of the call's own. -/
def RetOwn (bs : List UInt8) (w : World) (e : Ending) (w' : World) : Prop :=
  ∃ A n c, e = .returned (.slice A n c) ∧ OwS bv w' w.heap.size 5 A n c bs ∧ Below w.heap.size w w'
theorem own_any (A : Option Addr) (n c : Nat) (w : World) (hm : n ≤ 1000000) (B : Nat) (bs : List UInt8) (hr : RdS bv w B A n c bs) :
    Calls Try.prog 55 #[.slice A n c] w (RetOwn bs w) := by
  go_enter Try.func55, Try.ntmps55
  go_wp2_with (refine wl_appendS rfl (.const (.slice none 0 0)) (.tmp 3) _ rfl el_u8 (f := bv) (fun _ => rfl) rfl (OwS.nil_ w w.heap.size 5) rfl hr (by omega) (by omega) (Nat.le_refl _) ?_; intro A4 c4 w4 how4 _ hb4; rw [Nat.zero_add, List.nil_append] at how4)
  go_ret
  exact ⟨A4, _, c4, rfl, how4, hb4⟩
theorem gput_natF (x : Nat) (h : x < 268435456) (w : World) : Calls Try.prog 21 #[.int .i64 x] w fun e w' => ∃ A c, e = .returned (.tuple #[.slice A (gsize x) c, .int .i64 0]) ∧ OwS bv w' w.heap.size 5 A (gsize x) c (gput x) ∧ Below w.heap.size w w' := by
  refine (gput_in x w h).mono ?_
  rintro e w' ⟨A, n, c, rfl, how, hb⟩
  have : n = gsize x := by rw [← how.len, gput_length]
  subst this
  exact ⟨A, c, rfl, how, hb⟩
/-- A row of bytes of the call's own, and no error. -/
def RetSec (bs : List UInt8) (w : World) (e : Ending) (w' : World) : Prop :=
  ∃ A n c, e = .returned (.tuple #[.slice A n c, .int .i64 0]) ∧ OwS bv w' w.heap.size 5 A n c bs ∧ Below w.heap.size w w'
set_option maxHeartbeats 2000000 in
theorem sec_any (t : UInt8) (T : Int) (hT : (t.toNat : Int) = T) (A : Option Addr) (n c : Nat) (w : World) (hm : n ≤ 1000000) (B : Nat) (bs : List UInt8) (hr : RdS bv w B A n c bs) (hB : B ≤ w.heap.size) :
    Calls Try.prog 23 #[.int .u8 T, .slice A n c] w (RetSec (fsec t bs) w) := by
  have hs := gsize_pos n
  obtain ⟨s, hs0⟩ : ∃ s, gsize n = s := ⟨_, rfl⟩
  rw [hs0] at hs
  obtain ⟨hs1, hs2⟩ := hs
  have Hs := Lib.hid hs0
  have HT := Lib.hid hT
  have hT2 : T < 256 ∧ 0 ≤ T := by have := t.toNat_lt; omega
  obtain ⟨hT2, hT3⟩ := hT2
  clear hs0 hT
  go_enter Try.func23, Try.ntmps23
  go_wp2_with (first
    | (go_at_call 21; refine (gput_natF n (by omega) _).mono ?_; rintro e w1 ⟨A1, c1, rfl, how1, hb1⟩; rw [Hs.out] at how1 ⊢; have r1 := hr.heap.step hb1)
    | ((with_reducible refine on_make ?_); refine wl_make0S rfl _ _ _ rfl el_u8 (f := bv) (base := w1.heap.size) (1 + s + n) rfl rfl (by omega) (by omega) (by omega) (Nat.le_refl _) ?_; intro g2 w2 hg2 how2 hb2)
    | ((with_reducible refine on_append (.tmp 28) (.tmp 30) ?_); refine wl_appendS rfl (.tmp 28) (.tmp 30) _ rfl el_u8 (f := bv) (fun _ => rfl) rfl (how2.alloc _) rfl (OwS.rd (OwS.lit (base := w2.heap.size) (e := 5) (xs := [t]) w2 #[.int .u8 T] 1 (Nat.le_refl _) (by simp [maxLen]) rfl (by simp [bv, HT.out]))) (by omega) (by omega) (by have := hb2.size; simp; omega) ?_; intro A3 c3 w3 how3 _ hb3; have H3 : Below w1.heap.size w1 w3 := (hb2.alloc hb2.size _).trans hb3)
    | ((with_reducible refine on_append (.tmp 32) (.tmp 33) ?_); refine wl_appendS rfl (.tmp 32) (.tmp 33) _ rfl el_u8 (f := bv) (fun _ => rfl) rfl how3 rfl (how1.below H3).rd (by omega) (by omega) H3.size ?_; intro A4 c4 w4 how4 _ hb4; have H4 := H3.trans hb4)
    | ((with_reducible refine on_append (.tmp 35) (.tmp 36) ?_); refine wl_appendS rfl (.tmp 35) (.tmp 36) _ rfl el_u8 (f := bv) (fun _ => rfl) rfl how4 rfl (r1.step H4) (by omega) (by omega) H4.size ?_; intro A5 c5 w5 how5 _ hb5; have H5 := H4.trans hb5))
  go_ret2
  refine ⟨A5, 0 + 1 + s + n, c5, rfl, ?_, next hb1 H5⟩
  · have e : fsec t bs = [] ++ [t] ++ gput n ++ bs := by simp [fsec, hr.len]
    rw [e]
    exact how5.base_le hb1.size
/-- What is opened: two rows of the call's own, and an error's number. -/
def RetOpen (r : List UInt8 × List UInt8 × Int) (w : World) (e : Ending) (w' : World) : Prop :=
  ∃ A n c A' n' c', e = .returned (.tuple #[.slice A n c, .slice A' n' c', .int .i64 r.2.2]) ∧ OwS bv w' w.heap.size 5 A n c r.1 ∧ OwS bv w' w.heap.size 5 A' n' c' r.2.1 ∧ Below w.heap.size w w'
theorem RetOpen.nil (er : Int) (w : World) : RetOpen ([], [], er) w (.returned (.tuple #[.slice none 0 0, .slice none 0 0, .int .i64 er])) w :=
  ⟨none, 0, 0, none, 0, 0, rfl, OwS.nil_ _ _ _, OwS.nil_ _ _ _, Below.refl _ _⟩
theorem byte_beq (t u : UInt8) (b : Bool) (h : (t == u) = b) : ((t.toNat : Int) == (u.toNat : Int)) = b := by
  subst h
  rw [Bool.eq_iff_iff]
  simp only [beq_iff_eq]
  constructor
  · intro h
    exact UInt8.toNat_inj.1 (by omega)
  · rintro rfl; rfl
set_option maxRecDepth 100000 in
set_option maxHeartbeats 2000000 in
theorem open_any (t : UInt8) (T : Int) (hT : (t.toNat : Int) = T) (A : Option Addr) (n c : Nat) (w : World) (hm : n ≤ 1000000) (bs : List UInt8) (hr : RdS bv w w.heap.size A n c bs) :
    Calls Try.prog 57 #[.int .u8 T, .slice A n c] w (RetOpen (fopen t bs) w) := by
  subst hT
  have hl := hr.len
  cases bs with
  | nil =>
    subst hl
    go_enter Try.func57, Try.ntmps57
    go_wp2
    go_ret3
    exact RetOpen.nil 2 w
  | cons b r =>
    simp only [List.length_cons] at hl
    subst hl
    rw [fopen_cons]
    by_cases hb : b = t
    · subst hb
      rw [if_pos rfl]
      have e0 : ((b.toNat : Int) == (b.toNat : Int)) = true := by simp
      have hd1 : (b :: r).drop 1 = r := rfl
      rcases gtake_what r with ⟨hg, _⟩ | hg | ⟨m, k, hg, hm1, hk1, hk2, hk4, _⟩
      · rw [hg]
        have Hg := Lib.hid hg
        clear hg
        go_enter Try.func57, Try.ntmps57
        go_wp2_with (first
          | ((with_reducible refine on_index (.tmp 12) ?_); refine wl_at_b rfl _ _ _ rfl el_u8 rfl rfl (by omega) (by omega) hr ?_; intro p x hx hx5 hc; have hxb : x = b := (Option.some.inj hx.out).symm; subst hxb)
          | ((with_reducible refine on_slice (.tmp 18) ?_); refine wl_cut_l rfl _ _ el_u8 rfl hr _ rfl rfl 1 (by omega) ?_; intro A1 r1; rw [hd1] at r1)
          | (go_at_call 56; refine (gtake_any _ _ _ _ (by omega) _ _ r1).mono ?_; rintro e w1 ⟨rfl, rfl⟩; rw [Hg.out]))
        go_ret3
        exact RetOpen.nil 2 w
      · rw [hg]
        have Hg := Lib.hid hg
        clear hg
        go_enter Try.func57, Try.ntmps57
        go_wp2_with (first
          | ((with_reducible refine on_index (.tmp 12) ?_); refine wl_at_b rfl _ _ _ rfl el_u8 rfl rfl (by omega) (by omega) hr ?_; intro p x hx hx5 hc; have hxb : x = b := (Option.some.inj hx.out).symm; subst hxb)
          | ((with_reducible refine on_slice (.tmp 18) ?_); refine wl_cut_l rfl _ _ el_u8 rfl hr _ rfl rfl 1 (by omega) ?_; intro A1 r1; rw [hd1] at r1)
          | (go_at_call 56; refine (gtake_any _ _ _ _ (by omega) _ _ r1).mono ?_; rintro e w1 ⟨rfl, rfl⟩; rw [Hg.out]))
        go_ret3
        exact RetOpen.nil 3 w
      · have hd2 : (b :: r).drop (1 + k) = r.drop k := by rw [Nat.add_comm]; rfl
        have hdl : (r.drop k).length = r.length - k := List.length_drop ..
        rw [hg, if_pos rfl]
        show Calls _ _ _ _ (RetOpen (if (r.drop k).length < m then _ else ((r.drop k).take m, (r.drop k).drop m, 0)) w)
        rw [hdl]
        have Hg := Lib.hid hg
        clear hg
        by_cases hms : r.length - k < m
        · rw [if_pos hms]
          go_enter Try.func57, Try.ntmps57
          go_wp2_with (first
            | ((with_reducible refine on_index (.tmp 12) ?_); refine wl_at_b rfl _ _ _ rfl el_u8 rfl rfl (by omega) (by omega) hr ?_; intro p x hx hx5 hc; have hxb : x = b := (Option.some.inj hx.out).symm; subst hxb)
            | ((with_reducible refine on_slice (.tmp 18) ?_); refine wl_cut_l rfl _ _ el_u8 rfl hr _ rfl rfl 1 (by omega) ?_; intro A1 r1; rw [hd1] at r1)
            | (go_at_call 56; refine (gtake_any _ _ _ _ (by omega) _ _ r1).mono ?_; rintro e w1 ⟨rfl, rfl⟩; rw [Hg.out])
            | ((with_reducible refine on_slice (.tmp 27) ?_); refine wl_cut_l rfl _ _ el_u8 rfl hr _ rfl rfl (1 + k) (by omega) ?_; intro A2 r2; rw [hd2] at r2))
          go_ret3
          exact RetOpen.nil 2 w
        · rw [if_neg hms]
          go_enter Try.func57, Try.ntmps57
          go_wp2_with (first
            | ((with_reducible refine on_index (.tmp 12) ?_); refine wl_at_b rfl _ _ _ rfl el_u8 rfl rfl (by omega) (by omega) hr ?_; intro p x hx hx5 hc; have hxb : x = b := (Option.some.inj hx.out).symm; subst hxb)
            | ((with_reducible refine on_slice (.tmp 18) ?_); refine wl_cut_l rfl _ _ el_u8 rfl hr _ rfl rfl 1 (by omega) ?_; intro A1 r1; rw [hd1] at r1)
            | (go_at_call 56; refine (gtake_any _ _ _ _ (by omega) _ _ r1).mono ?_; rintro e w1 ⟨rfl, rfl⟩; rw [Hg.out])
            | ((with_reducible refine on_slice (.tmp 27) ?_); refine wl_cut_l rfl _ _ el_u8 rfl hr _ rfl rfl (1 + k) (by omega) ?_; intro A2 r2; rw [hd2] at r2))
          have q2 := RdC.of_reach (B' := w.heap.size) (r2.step (bdrew1 w)) (Nat.le_refl _)
          refine wp_region_tree (.float 0 4 (.float 5 3 (.one 4 (.one 8 (.float 9 3 .done))))) (Th.Reach w.heap.size) (Th.Reach.trans _) (Th.Reach.refl _) (by kernel_rfl) (by kernel_rfl) (fun KT hKT => ?_)
          refine wpTree_float (fun KF hKF => ?_)
          simp only [List.drop, List.take]
          repeat (first | go_big_quiet_skip | ((with_reducible refine onq_sl (.tmp 35) ?_); refine wq_cut_hm rfl _ (.tmp 35) el_u8 rfl q2 (Th.Reach.refl _ _) _ _ rfl rfl rfl m (by omega) ?_; intro A38 r38) | ((with_reducible refine onq_sl (.tmp 40) ?_); refine wq_cut_l rfl _ (.tmp 40) el_u8 rfl q2 (Th.Reach.refl _ _) _ rfl rfl m (by omega) ?_; intro A42 r42) | go_big_quiet_step (fail) | quiet_step (fail))
          refine wpQuiet_nil ?_
          refine hKF _ ?_
          clear hKF KF
          refine wpTree_float (fun KF hKF => ?_)
          simp only [List.drop, List.take]
          repeat (first | go_big_quiet_skip | ((with_reducible refine onq_sl (.tmp 35) ?_); refine wq_cut_hm rfl _ (.tmp 35) el_u8 rfl q2 (Th.Reach.refl _ _) _ _ rfl rfl rfl m (by omega) ?_; intro A38 r38) | ((with_reducible refine onq_sl (.tmp 40) ?_); refine wq_cut_l rfl _ (.tmp 40) el_u8 rfl q2 (Th.Reach.refl _ _) _ rfl rfl m (by omega) ?_; intro A42 r42) | go_big_quiet_step (fail) | quiet_step (fail))
          refine wpQuiet_nil ?_
          refine hKF _ ?_
          clear hKF KF
          refine wpTree_one (fun KO hKO => ?_)
          simp only [List.drop, List.take]
          go_wp2_with (first | (go_at_call 55; first | (refine (own_any _ _ _ _ (by omega) _ _ (r38.rd w.drew (Th.Reach.refl _ _))).mono ?_; rintro e w39 ⟨A39, n39, c39, rfl, how39, hb39⟩; have hb39 : Below w.heap.size w.drew w39 := hb39; have hz39 : w.heap.size ≤ w39.heap.size := hb39.size) | (refine (own_any _ _ _ w39 (by omega) _ _ (r42.rd w39 (Th.Reach.of hb39))).mono ?_; rintro e w43 ⟨A43, n43, c43, rfl, how43, hb43⟩; have hk43 := hb43; have hb43 : Below w.heap.size w39 w43 := hb43.mono hz39)))
          refine anch_end (Th.Reach.of (by first | exact Below.refl _ _ | exact below_alloc _ (by first | omega | (simp; done) | (simp; omega)) _ | exact below_alloc2 _ (by first | omega | (simp; done) | (simp; omega)) _ _ | exact below_alloc2d _ (by simp) _ _ | exact bdrew _ _ | assumption | (exact Below.mono (by assumption) (by first | (simp; done) | (simp; omega) | omega | assumption)))) (hKO _ _ ?_)
          clear hKO KO
          refine wpTree_one (fun KO hKO => ?_)
          simp only [List.drop, List.take]
          go_wp2_with (first | (go_at_call 55; first | (refine (own_any _ _ _ _ (by omega) _ _ (r38.rd w.drew (Th.Reach.refl _ _))).mono ?_; rintro e w39 ⟨A39, n39, c39, rfl, how39, hb39⟩; have hb39 : Below w.heap.size w.drew w39 := hb39; have hz39 : w.heap.size ≤ w39.heap.size := hb39.size) | (refine (own_any _ _ _ w39 (by omega) _ _ (r42.rd w39 (Th.Reach.of hb39))).mono ?_; rintro e w43 ⟨A43, n43, c43, rfl, how43, hb43⟩; have hk43 := hb43; have hb43 : Below w.heap.size w39 w43 := hb43.mono hz39)))
          refine anch_end (Th.Reach.of (by first | exact Below.refl _ _ | exact below_alloc _ (by first | omega | (simp; done) | (simp; omega)) _ | exact below_alloc2 _ (by first | omega | (simp; done) | (simp; omega)) _ _ | exact below_alloc2d _ (by simp) _ _ | exact bdrew _ _ | assumption | (exact Below.mono (by assumption) (by first | (simp; done) | (simp; omega) | omega | assumption)))) (hKO _ _ ?_)
          clear hKO KO
          refine wpTree_float (fun KF hKF => ?_)
          simp only [List.drop, List.take]
          repeat (first | go_big_quiet_skip | ((with_reducible refine onq_sl (.tmp 35) ?_); refine wq_cut_hm rfl _ (.tmp 35) el_u8 rfl q2 (Th.Reach.refl _ _) _ _ rfl rfl rfl m (by omega) ?_; intro A38 r38) | ((with_reducible refine onq_sl (.tmp 40) ?_); refine wq_cut_l rfl _ (.tmp 40) el_u8 rfl q2 (Th.Reach.refl _ _) _ rfl rfl m (by omega) ?_; intro A42 r42) | go_big_quiet_step (fail) | quiet_step (fail))
          refine wpQuiet_nil ?_
          refine hKF _ ?_
          clear hKF KF
          refine wpTree_done ?_
          refine hKT _ _ ?_
          clear hKT KT
          go_wp2
          go_ret3
          exact ⟨A39, n39, c39, A43, n43, c43, rfl, how39.below hk43, how43.base_le hz39, (bdrew1 w).trans (hb39.trans hb43)⟩
    · rw [if_neg hb]
      have h1 : ((b.toNat : Int) == (t.toNat : Int)) = false := byte_beq b t false (by simpa using hb)
      have h2 : (b.toNat == t.toNat) = false := by simpa using fun e => hb (UInt8.toNat_inj.1 e)
      go_enter Try.func57, Try.ntmps57
      go_wp2_with ((with_reducible refine on_index (.tmp 12) ?_); refine wl_at_b rfl _ _ _ rfl el_u8 rfl rfl (by omega) (by omega) hr ?_; intro p x hx hx5 hc; have hxb : x = b := (Option.some.inj hx.out).symm; subst hxb)
      go_ret3
      exact RetOpen.nil 3 w
theorem open_is (t : UInt8) (T : Int) (hT : (t.toNat : Int) = T) (A : Option Addr) (n c : Nat) (w : World) (hm : n ≤ 1000000) (bs : List UInt8) (hr : RdS bv w w.heap.size A n c bs) (x y : List UInt8) (er : Int) (h : fopen t bs = (x, y, er)) :
    Calls Try.prog 57 #[.int .u8 T, .slice A n c] w fun e w' => ∃ A1 n1 c1 A2 n2 c2, e = .returned (.tuple #[.slice A1 n1 c1, .slice A2 n2 c2, .int .i64 er]) ∧ OwS bv w' w.heap.size 5 A1 n1 c1 x ∧ OwS bv w' w.heap.size 5 A2 n2 c2 y ∧ Below w.heap.size w w' := by
  have := open_any t T hT A n c w hm bs hr
  rw [h] at this
  exact this
theorem RdS.marked (w : World) (cs : Array Value) (e : TypeId) (fz : Nat × Nat) (n : Nat) (xs : List UInt8) (hn : xs.length = n) (hs : cs.toList = xs.map bv) :
    RdS bv (w.alloc (.cells cs e fz)) (w.alloc (.cells cs e fz)).heap.size (some ⟨w.heap.size, 0, none⟩) n n xs := by
  rw [heap_size_alloc]
  exact ⟨by rw [← hs]; exact Rd.new w cs e fz, hn, Nat.le_refl _⟩
theorem sec_ab (w : World) : Calls Try.prog 23 #[.int .u8 7, .slice (some ⟨w.heap.size, 0, none⟩) 2 2] (w.alloc (.cells #[.int .u8 97, .int .u8 98] 5 (2, 3))) fun e w' => ∃ A n c, e = .returned (.tuple #[.slice A n c, .int .i64 0]) ∧ OwS bv w' w.heap.size 5 A n c [7, 2, 97, 98] ∧ Below w.heap.size w w' := by
  have how2 := RdS.marked w #[.int .u8 97, .int .u8 98] 5 (2, 3) 2 [97, 98] rfl (by simp [bv])
  have hz : w.heap.size ≤ (w.alloc (.cells #[.int .u8 97, .int .u8 98] 5 (2, 3))).heap.size := by simp
  refine (sec_any 7 7 rfl _ 2 2 _ (by omega) _ _ how2 (Nat.le_refl _)).mono ?_
  rintro e w' ⟨A, n, c, rfl, how, hb⟩
  exact ⟨A, n, c, rfl, how.base_le hz, (below_alloc w (Nat.le_refl _) _).trans (hb.mono hz)⟩
theorem open_abc (w : World) : Calls Try.prog 57 #[.int .u8 7, .slice (some ⟨w.heap.size, 0, none⟩) 5 5] (w.alloc (.cells #[.int .u8 7, .int .u8 2, .int .u8 97, .int .u8 98, .int .u8 99] 5 (5, 6))) fun e w' => ∃ A n c A' n' c', e = .returned (.tuple #[.slice A n c, .slice A' n' c', .int .i64 0]) ∧ OwS bv w' w.heap.size 5 A n c [97, 98] ∧ OwS bv w' w.heap.size 5 A' n' c' [99] ∧ Below w.heap.size w w' := by
  have how2 := RdS.marked w #[.int .u8 7, .int .u8 2, .int .u8 97, .int .u8 98, .int .u8 99] 5 (5, 6) 5 [7, 2, 97, 98, 99] rfl (by simp [bv])
  have hz : w.heap.size ≤ (w.alloc (.cells #[.int .u8 7, .int .u8 2, .int .u8 97, .int .u8 98, .int .u8 99] 5 (5, 6))).heap.size := by simp
  refine (open_any 7 7 rfl _ 5 5 _ (by omega) _ how2).mono ?_
  rintro e w' ⟨A, n, c, A', n', c', rfl, how, how', hb⟩
  exact ⟨A, n, c, A', n', c', rfl, how.base_le hz, how'.base_le hz, (below_alloc w (Nat.le_refl _) _).trans (hb.mono hz)⟩
end Go.Proofs.Ytgapcmodhcdebaa

/-! ### Crc -/
namespace Go.Proofs.Ytgapcmodhcdebaa
open Go.RowKit Go.Th
set_option linter.unusedVariables false
theorem ctn_more (k s : Nat) : ctn (k + 1) s = ct (ctn k s) := ctn_succ' k s
theorem cstep_any (s : Nat) (c : UInt8) (w : World) (hs : s < 4294967296) (S : Int) (hS : (s : Int) = S) (C : Int) (hC : (c.toNat : Int) = C) :
    Calls Try.prog 87 #[.int .u32 S, .int .u8 C] w fun e w' => e = .returned (.int .u32 (cstep s c)) ∧ w = w' := by
  subst hS
  subst hC
  have hc := c.toNat_lt
  have hx0 := u32_xor_nat s c.toNat hs (by omega)
  obtain ⟨y, hy⟩ : ∃ y, s ^^^ c.toNat = y := ⟨_, rfl⟩
  have hy2 : y < 4294967296 := by rw [← hy]; exact xor_lt32 hs (by omega)
  rw [hy] at hx0
  have hst : cstep s c = ctn 8 y := by rw [← hy]; rfl
  rw [hst]
  clear hst hy
  go_enter Try.func87, Try.ntmps87
  go_wp2
  go_loop [0, 9] (fun v i => ∃ k x : Nat, k ≤ 8 ∧ x < 4294967296 ∧ v = .int .u32 x ∧ i = .int .i64 k ∧ Hid (ctn k y = x)) (fun _ i => 8 - (intOf i).toNat)
  case atStart => exact ⟨0, y, by omega, hy2, rfl, rfl, rfl⟩
  case round =>
    obtain ⟨k, x, hk, hx, rfl, rfl, hX⟩ := hrel
    by_cases hlt : k < 8
    · have ha := u32_and_nat x 1 hx (by omega)
      rw [Nat.and_one_is_mod] at ha
      have hn := ctn_more k y
      rw [hX.out] at hn
      unfold ct at hn
      rcases Nat.mod_two_eq_zero_or_one x with h | h
      · rw [if_neg (by omega)] at hn
        rw [h] at ha
        have ha : bits .and .u32 (x : Int) 1 = 0 := ha
        go_wp2
        go_round
        case rel => exact ⟨k + 1, x / 2, by omega, by omega, by go_num, by go_num, hn⟩
        case measure => simp [intOf]; omega
      · rw [if_pos h] at hn
        rw [h] at ha
        have ha : bits .and .u32 (x : Int) 1 = 1 := ha
        have hp : bits .xor .u32 ((x : Int) / 2) 2197175160 = ((x / 2 ^^^ poly : Nat) : Int) := u32_xor_nat (x / 2) poly (by omega) (by decide)
        have hl : x / 2 ^^^ poly < 4294967296 := xor_lt32 (by omega) (by decide)
        go_wp2
        go_round
        case rel => exact ⟨k + 1, x / 2 ^^^ poly, by omega, hl, by first | rfl | rw [hp], by go_num, hn⟩
        case measure => simp [intOf]; omega
    · have e8 : k = 8 := by omega
      subst e8
      go_wp2
      go_ret
      rw [hX.out]
      exact ⟨rfl, rfl⟩
end Go.Proofs.Ytgapcmodhcdebaa
namespace Go.Th
section
variable {P : Program} {ops : Array Oper} {rest : List Oper} {o : Oper} {a : Act} {Q : Exit → Act → World → Prop} {w : World}
/-- A variable is made: its cells are nought. -/
theorem wl_new (hw : Region.wanted o (yielded ops a.tmps) = true) (T : TypeId) (ho : o.op = .alloc T) {cs : Array Value} {k : Nat} (hz : (P.info? T).map (fun i => (i.zero.map Value.cells, i.size)) = some (some cs, k))
    (h : wpList P ops Q rest (a.put o.dst (.pointer (some ⟨w.heap.size, 0, none⟩))) (w.alloc (.cells cs T))) : wpList P ops Q (o :: rest) a w := by
  cases hi : P.info? T with
  | none => rw [hi] at hz; simp at hz
  | some i =>
    rw [hi] at hz
    simp only [Option.map_some, Option.some.injEq, Prod.mk.injEq, Option.map_eq_some_iff] at hz
    obtain ⟨⟨z, hz1, hz2⟩, _⟩ := hz
    refine wl_run hw (v := .pointer (some ⟨w.heap.size, 0, none⟩)) ?_ h
    simp [execOp, ho, Instr.alloc, zeroValue, typeInfo, hi, hz1, newVar, newRow, hz2]
/-- An array type: how many cells. -/
structure ArT (P : Program) (T : TypeId) (k : Nat) : Prop where
  under : ∃ n e, P.underlying T = some (.array n e)
  size : (P.info? T).map (·.size) = some k
theorem wa_load (hw : Region.wanted o (yielded ops a.tmps) = true) (T : TypeId) (x : Operand) (ho : o.op = .load T x) {k : Nat} (st : ArT P T k) {g : Nat} {t : TypeId} {cs : Array Value} (hx : a.eval x = .pointer (some ⟨g, 0, none⟩)) (hb : Box w g t cs) (hk : cs.size = k)
    (h : wpList P ops Q rest (a.put o.dst (.agg cs)) w) : wpList P ops Q (o :: rest) a w := by
  obtain ⟨n, e, hu⟩ := st.under
  subst hk
  refine wl_run hw ?_ h
  simp only [execOp, ho, hx, Instr.loadAt, Instr.sureAddr, Sem.run_bind, Sem.run_pure, Result.andThen_ok, run_loadVar_row w g t T cs (0, 0) _ hb.at_ hu rfl st.size]
theorem wa_store (hw : Region.wanted o (yielded ops a.tmps) = true) (T : TypeId) (x y : Operand) (ho : o.op = .store T x y) {k : Nat} (st : ArT P T k) {g : Nat} {t : TypeId} {cs cs' : Array Value} (hx : a.eval x = .pointer (some ⟨g, 0, none⟩)) (hy : a.eval y = .agg cs')
    (hb : Box w g t cs) (hk : cs.size = k) (hk' : cs'.size = k) (h1 : cs'.all (·.oneCell') = true)
    (h : ∀ w', Box w' g t cs' → w.grownBy w' (some g) → wpList P ops Q rest (a.put o.dst undef) w') : wpList P ops Q (o :: rest) a w := by
  subst hk'
  obtain ⟨h2, h3⟩ := hb.setRow cs'
  refine wl_run0 hw ?_ (h _ h2 h3)
  simp only [execOp, ho, hx, hy, Instr.storeAt, Instr.sureAddr, Sem.run_bind, Sem.run_pure, Result.andThen_ok, run_storeVar_row w g t T cs cs' hb.at_ st.size hk h1]
theorem on_new {T : TypeId} {d ty pos af g} (h : wpList P ops Q (⟨d, .alloc T, ty, pos, af, g⟩ :: rest) a w) : wpList P ops Q (⟨d, .alloc T, ty, pos, af, g⟩ :: rest) a w := h
theorem on_stx (x : Operand) {d T y ty pos af g} (h : wpList P ops Q (⟨d, .store T x y, ty, pos, af, g⟩ :: rest) a w) : wpList P ops Q (⟨d, .store T x y, ty, pos, af, g⟩ :: rest) a w := h
end
/-- The table, of which k entries are there. -/
def tabL (k : Nat) : List Value := (List.range 256).map fun i => .int .u32 ((if i < k then ctn 8 i else 0 : Nat) : Int)
def tab (k : Nat) : Array Value := (tabL k).toArray
theorem tab_size (k : Nat) : (tab k).size = 256 := by simp [tab, tabL]
theorem tab_one (k : Nat) : (tab k).all (·.oneCell') = true := by
  rw [Array.all_eq_true_iff_forall_mem]
  intro x hx
  simp only [tab, tabL, List.mem_toArray, List.mem_map] at hx
  obtain ⟨i, _, rfl⟩ := hx
  rfl
theorem tab_get (k i : Nat) (h : i < 256) : (tab k)[i]? = some (.int .u32 ((if i < k then ctn 8 i else 0 : Nat) : Int)) := by
  simp [tab, tabL, h]
theorem tab_zero : tab 0 = Array.replicate 256 (.int .u32 0) := by
  apply Array.ext_getElem?
  intro i
  by_cases h : i < 256
  · rw [tab_get 0 i h]; simp [h]
  · rw [Array.getElem?_eq_none (by rw [tab_size]; omega), Array.getElem?_eq_none (by simp; omega)]
theorem tab_set (k : Nat) (h : k < 256) : (tab k).setIfInBounds k (.int .u32 (ctn 8 k : Nat)) = tab (k + 1) := by
  apply Array.ext_getElem?
  intro i
  by_cases hi : i < 256
  · rw [Array.getElem?_setIfInBounds, tab_get (k + 1) i hi]
    by_cases e : k = i
    · subst e; simp [tab_size, h]
    · rw [if_neg e, tab_get k i hi]
      have : (i < k) ↔ (i < k + 1) := by omega
      simp only [this]
  · rw [Array.getElem?_eq_none (by simp [tab_size]; omega), Array.getElem?_eq_none (by rw [tab_size]; omega)]
end Go.Th
namespace Go.Proofs.Ytgapcmodhcdebaa
open Go.RowKit Go.Th
set_option linter.unusedVariables false
theorem z_tab : (Try.prog.info? 96).map (fun i => (i.zero.map Value.cells, i.size)) = some (some (Array.replicate 256 (.int .u32 0)), 256) := by kernel_rfl
theorem ar_tab : ArT Try.prog 96 256 := ⟨⟨_, _, Try.underlying96⟩, by kernel_rfl⟩
set_option maxRecDepth 100000 in
theorem table_any (w : World) : Calls Try.prog 79 #[] w fun e w' => e = .returned (.agg (tab 256)) ∧ Below w.heap.size w w' := by
  go_enter Try.func79, Try.ntmps79
  go_wp2_with ((with_reducible refine on_new ?_); refine wl_new rfl _ rfl z_tab ?_; rw [← tab_zero])
  go_loopw [1, 2] (fun _ i wr => ∃ k : Nat, k ≤ 256 ∧ i = .int .i64 k ∧ Box wr w.heap.size 96 (tab k) ∧ Below w.heap.size w wr) (fun _ i _ => 256 - (intOf i).toNat)
  case atStart => exact ⟨0, by omega, rfl, Box.new w _ _, below_alloc _ (Nat.le_refl _) _⟩
  case round =>
    obtain ⟨k, hk, rfl, hbx, hb⟩ := hrel
    by_cases hlt : k < 256
    · have hkb : (k : Int) < 256 := by omega
      have hce : wr.cell? ⟨w.heap.size, k, none⟩ = some (.int .u32 ((if k < k then ctn 8 k else 0 : Nat) : Int)) := (hbx.cell k).trans (tab_get k k hlt)
      have hfz := hbx.frozen k
      have hcs : cstep 0 (UInt8.ofNat k) = ctn 8 k := by
        unfold cstep
        rw [Nat.zero_xor, UInt8.toNat_ofNat', Nat.mod_eq_of_lt hlt]
      have hbx2 := (hbx.setCell k (.int .u32 (ctn 8 k : Nat))).1
      rw [tab_set k hlt] at hbx2
      have hg2 := (hbx.setCell k (.int .u32 (ctn 8 k : Nat))).2
      have hb2 := hb.trans (below_of_grown hg2 (fun j e => by injection e with e; omega) hb.size)
      go_wp2_with (go_at_call 87; refine (cstep_any 0 (UInt8.ofNat k) _ (by omega) _ rfl _ (by rw [UInt8.toNat_ofNat']; omega)).mono ?_; rintro e w1 ⟨rfl, rfl⟩; rw [hcs])
      go_roundw
      case rel => exact ⟨k + 1, by omega, by go_num, hbx2, hb2⟩
      case measure => simp [intOf]; omega
    · have e8 : k = 256 := by omega
      subst e8
      have ht1 := tab_size 256
      go_wp2_with (first
        | ((with_reducible refine on_load (.tmp 0) ?_); refine wa_load rfl _ (.tmp 0) rfl ar_tab rfl hbx ht1 ?_)
        | ((with_reducible refine on_stx (.tmp 0) ?_); refine wa_store rfl _ (.tmp 0) _ rfl ar_tab rfl rfl hbx ht1 ht1 (tab_one 256) ?_; intro w2 hb2 hg2))
      have hld := run_loadVar_row (P := Try.prog) w2 w.heap.size 96 96 (tab 256) (0, 0) _ hb2.at_ Try.underlying96 rfl (by rw [ht1]; exact ar_tab.size)
      refine bodyPost_ret (v := .agg (tab 256)) ?_ rfl ⟨rfl, hb.trans (below_of_grown hg2 (fun j e => by injection e with e; omega) hb.size)⟩
      have hres : Try.f79.results = #[.cell 0 96] := rfl
      simp only [Act.put, results, hres]
      simp [asAddr, hld]
set_option maxRecDepth 100000 in
theorem more_any (A : Option Addr) (n c : Nat) (w : World) (hm : n ≤ 9223372036854775807) (bs : List UInt8) (hr : RdS bv w w.heap.size A n c bs) :
    Calls Try.prog 62 #[.int .u32 0, .slice A n c] w fun e w' => e = .returned (.int .u32 (csum bs)) ∧ Below w.heap.size w w' := by
  have ht0 := tab_size 0
  have ht1 := tab_size 256
  have hx0 : bits .xor .u32 4294967295 0 = 4294967295 := by decide
  go_enter Try.func62, Try.ntmps62
  go_wp2_with (first
    | (go_at_call 79; refine (table_any _).mono ?_; rintro e w1 ⟨rfl, hb1⟩)
    | ((with_reducible refine on_new ?_); refine wl_new rfl _ rfl z_tab ?_; rw [← tab_zero])
    | ((with_reducible refine on_stx (.tmp 5) ?_); refine wa_store rfl _ (.tmp 5) _ rfl ar_tab rfl rfl (Box.new w1 (tab 0) 96) ht0 ht1 (tab_one 256) ?_; intro w2 hbx2 hg2))
  have hb2 : Below w.heap.size w w2 := (hb1.alloc hb1.size _).trans (below_of_grown hg2 (fun j e => by injection e with e; have := hb1.size; omega) (by have := hb1.size; simp; omega))
  have hr2 := hr.step hb2
  clear hb1 hg2 hr
  go_loop [0, 7, 13] (fun v _ i => ∃ k s : Nat, k ≤ n ∧ s < 4294967296 ∧ v = .int .u32 s ∧ i = .int .i64 k ∧ Hid (cfrom 4294967295 (bs.take k) = s)) (fun _ _ i => n - (intOf i).toNat)
  case atStart => exact ⟨0, 4294967295, by omega, by omega, by first | rfl | (rw [hx0]; rfl), rfl, rfl⟩
  case round =>
    obtain ⟨k, s, hk, hs, rfl, rfl, hS⟩ := hrel
    by_cases hlt : k < n
    · obtain ⟨x, hx⟩ : ∃ x, bs[k]? = some x := ⟨bs[k]'(by rw [hr2.len]; exact hlt), List.getElem?_eq_getElem _⟩
      have hx8 := x.toNat_lt
      obtain ⟨j, hj⟩ : ∃ j, s % 256 ^^^ x.toNat = j := ⟨_, rfl⟩
      have hj8 : bits .xor .u8 ((s : Int) % 256) (x.toNat : Int) = (j : Int) := by rw [← hj]; exact u8_xor_nat (s % 256) x.toNat (by omega) (by omega)
      have hj2 : j < 256 := by rw [← hj]; exact Nat.xor_lt_two_pow (n := 8) (by omega) (by omega)
      have hcell : w2.cell? ⟨w1.heap.size, j, none⟩ = some (.int .u32 (ctn 8 j : Nat)) := by
        have := (hbx2.cell j).trans (tab_get 256 j hj2)
        rwa [if_pos hj2] at this
      have hl : ctn 8 j < 4294967296 := ctn_lt 8 (by omega)
      have hx32 : bits .xor .u32 ((s : Int) / 256) ((ctn 8 j : Nat) : Int) = ((s / 256 ^^^ ctn 8 j : Nat) : Int) := u32_xor_nat (s / 256) (ctn 8 j) (by omega) hl
      have hl2 : s / 256 ^^^ ctn 8 j < 4294967296 := xor_lt32 (by omega) hl
      have hnext : cfrom 4294967295 (bs.take (k + 1)) = s / 256 ^^^ ctn 8 j := by
        rw [List.take_add_one, hx]
        show cfrom _ (_ ++ [x]) = _
        rw [cfrom_snoc, hS.out, cstep_table, hj]
      have Hx := Lib.hid hx
      have Hj := Lib.hid hj
      have Hn := Lib.hid hnext
      have hj2i : (j : Int) < 256 := by omega
      clear hx hj hnext
      go_wp2_with ((with_reducible refine on_index (.tmp 11) ?_); refine wl_at_b rfl _ _ _ rfl el_u8 rfl rfl (by omega) (by omega) hr2 ?_; intro p x' hx' hx5 hc; have hxx : x' = x := (Option.some.inj ((show bs[k]? = some x' from hx'.out).symm.trans Hx.out)); subst hxx)
      go_round
      case rel => exact ⟨k + 1, s / 256 ^^^ ctn 8 j, by omega, hl2, rfl, by go_num, Hn.out⟩
      case measure => simp [intOf]; omega
    · have hkn : k = n := by omega
      have hS2 := hS.out
      rw [List.take_of_length_le (by rw [hr2.len]; omega)] at hS2
      have hx9 : bits .xor .u32 4294967295 (s : Int) = ((4294967295 ^^^ s : Nat) : Int) := u32_xor_nat 4294967295 s (by omega) hs
      have hcs : csum bs = 4294967295 ^^^ s := by unfold csum; rw [hS2, Nat.xor_comm]
      have Hcs := Lib.hid hcs
      clear hkn hcs hS2
      go_wp2
      go_ret
      rw [Hcs.out]
      first
        | exact ⟨rfl, hb2⟩
        | exact ⟨congrArg (fun z => Ending.returned (Value.int .u32 z)) hx9, hb2⟩
theorem sum_any (A : Option Addr) (n c : Nat) (w : World) (hm : n ≤ 9223372036854775807) (bs : List UInt8) (hr : RdS bv w w.heap.size A n c bs) :
    Calls Try.prog 39 #[.slice A n c] w fun e w' => e = .returned (.int .u32 (csum bs)) ∧ Below w.heap.size w w' := by
  go_enter Try.func39, Try.ntmps39
  go_wp2_with (go_at_call 62; refine (more_any _ _ _ _ hm _ hr).mono ?_; rintro e w1 ⟨rfl, hb1⟩)
  go_ret
  exact ⟨rfl, hb1⟩
end Go.Proofs.Ytgapcmodhcdebaa

/-! ### NumLaw -/
namespace Go.Proofs.Ytgapcmodhcdebaa
open Go.RowKit Go.Th
/-- A slice is returned that reads as the first k of a list; the world is as it was. -/
def RetTake {α : Type} (f : α → Value) (k : Nat) (w : World) (B : Nat) (xs : List α) (e : Ending) (w' : World) : Prop :=
  ∃ A' c' m ys, e = .returned (.slice A' m c') ∧ Hid (ys = xs.take k) ∧ m ≤ k ∧ RdS f w B A' m c' ys ∧ w = w'

theorem put_258 (w : World) : Calls Try.prog 45 #[.int .i64 258, .int .i64 3] w (RetRow w 3 [0, 1, 2] 0) :=
  put_yes 258 3 w (by omega) (by omega) (by omega) (by decide)

theorem take_0129 (w : World) : Calls Try.prog 86 #[.slice (some ⟨w.heap.size, 0, none⟩) 4 4, .int .i64 3] (w.alloc (.cells #[.int .u8 0, .int .u8 1, .int .u8 2, .int .u8 9] 5)) (RetNum 258 0 (w.alloc (.cells #[.int .u8 0, .int .u8 1, .int .u8 2, .int .u8 9] 5))) := by
  have how2 := OwS.lit (base := w.heap.size) (e := 5) (f := bv) (xs := [0, 1, 2, 9]) w #[.int .u8 0, .int .u8 1, .int .u8 2, .int .u8 9] 4 (Nat.le_refl _) (by simp [maxLen]) rfl (by simp [bv])
  exact take_yes _ 4 4 3 _ (by omega) (by omega) (by omega) (by omega) _ _ how2.rd

end Go.Proofs.Ytgapcmodhcdebaa

/-! ### NumRef -/
namespace Go.Proofs.Ytgapcmodhcdebaa
open Go.RowKit Go.Th
/-- The bytes of some numbers, one behind the other. -/
def rowB (s : Nat) (zs : List Int) : List UInt8 := zs.flatMap fun z => be z.toNat s
theorem rowB_length (s : Nat) (zs : List Int) : (rowB s zs).length = zs.length * s := by
  induction zs with
  | nil => simp [rowB]
  | cons z zs ih =>
    have : rowB s (z :: zs) = be z.toNat s ++ rowB s zs := rfl
    rw [this, List.length_append, be_length, ih, List.length_cons, Nat.add_mul, Nat.one_mul, Nat.add_comm]
theorem rowB_take (s : Nat) (zs : List Int) (k : Nat) (x : Int) (h : zs[k]? = some x) : rowB s (zs.take (k + 1)) = rowB s (zs.take k) ++ be x.toNat s := by
  rw [List.take_add_one, h]
  simp [rowB]

/-- What a row of numbers comes to. -/
def RetRows (s : Nat) (zs : List Int) (w : World) (e : Ending) (w' : World) : Prop :=
  ((∀ z ∈ zs, Fits s z) → RetRow w (zs.length * s) (rowB s zs) 0 e w') ∧ ((¬ ∀ z ∈ zs, Fits s z) → RetNone 1 w e w')
/-- The relation of Row's loops. -/
def RowRel (s n : Nat) (zs : List Int) (w : World) (all i : Value) (wr : World) : Prop :=
  ∃ (k : Nat) (A : Option Addr) (m c : Nat), k ≤ n ∧ i = .int .i64 k ∧ (∀ z ∈ zs.take k, Fits s z) ∧ m ≤ 4 * k ∧ all = .slice A m c ∧ OwS bv wr w.heap.size 5 A m c (rowB s (zs.take k)) ∧ Below w.heap.size w wr
theorem fits_take (s : Nat) (zs : List Int) (k : Nat) (x : Int) (h : zs[k]? = some x) (hall : ∀ z ∈ zs.take k, Fits s z) (hf : Fits s x) : ∀ z ∈ zs.take (k + 1), Fits s z := by
  intro z hz
  rw [List.take_add_one, h] at hz
  simp at hz
  rcases hz with hz | rfl
  · exact hall z hz
  · exact hf
end Go.Proofs.Ytgapcmodhcdebaa

/-! ### FramePut -/
namespace Go.Proofs.Ytgapcmodhcdebaa
open Go.RowKit Go.Th
set_option linter.unusedVariables false
theorem four_any (m : Nat) (hm : m < 4294967296) (M : Int) (hM : (m : Int) = M) (w : World) : Calls Try.prog 38 #[.int .u32 M] w fun e w' => ∃ A c, e = .returned (.slice A 4 c) ∧ OwS bv w' w.heap.size 5 A 4 c (be m 4) ∧ Below w.heap.size w w' := by
  subst hM
  go_enter Try.func38, Try.ntmps38
  go_wp2_with (go_at_call 45; refine (put_nat m 4 _ (by omega) (by omega) (by omega)).mono ?_; rintro e w1 ⟨A, c, rfl, how, hb⟩)
  go_ret
  exact ⟨A, c, rfl, how, hb⟩
set_option maxHeartbeats 1000000 in
theorem fput_any (m : Nat) (hm : m < 4294967296) (M : Int) (hM : (m : Int) = M) (A : Option Addr) (n c : Nat) (w : World) (hn : n ≤ 1000000) (bs : List UInt8) (hr : RdS bv w w.heap.size A n c bs) :
    Calls Try.prog 18 #[.int .u32 M, .slice A n c] w (RetOwn (fput m bs) w) := by
  subst hM
  have hcs := csum_lt (fhead m bs)
  go_enter Try.func18, Try.ntmps18
  go_wp2_with (first
    | ((with_reducible refine on_make ?_); refine wl_make0S rfl _ _ _ rfl el_u8 (f := bv) (base := w.heap.size) (n + 8) rfl rfl (by omega) (by omega) (by omega) (Nat.le_refl _) ?_; intro g1 w1 hg1 how1 hb1)
    | (go_at_call 38; refine (four_any m hm _ rfl w1).mono ?_; rintro e w2 ⟨A2, c2, rfl, how2, hb2⟩; have how1 := how1.below hb2; have K2 := hb1.trans (hb2.mono hb1.size))
    | ((with_reducible refine on_append (.tmp 10) (.tmp 12) ?_); refine wl_appendS rfl (.tmp 10) (.tmp 12) _ rfl el_u8 (f := bv) (fun _ => rfl) rfl how1 rfl how2.rd (by omega) (by omega) K2.size ?_; intro A3 c3 w3 how3 _ hb3; have K3 := K2.trans hb3)
    | ((with_reducible refine on_append (.tmp 14) (.tmp 15) ?_); refine wl_appendS rfl (.tmp 14) (.tmp 15) _ rfl el_u8 (f := bv) (fun _ => rfl) rfl how3 rfl (hr.step K3) (by omega) (by omega) K3.size ?_; intro A4 c4 w4 how4 _ hb4; have K4 := K3.trans hb4))
  refine (sum_any A4 _ c4 w4 (by omega) _ how4.rd).mono ?_
  rintro e w5 ⟨rfl, hb5⟩
  have how5 := how4.below hb5
  have K5 := K4.trans (hb5.mono K4.size)
  have e5 : [] ++ be m 4 ++ bs = fhead m bs := rfl
  rw [e5] at how5
  go_wp2_with fail
  refine (four_any (csum (fhead m bs)) hcs _ rfl w5).mono ?_
  rintro e w6 ⟨A6, c6, rfl, how6, hb6⟩
  have how7 := how5.below hb6
  have K6 := K5.trans (hb6.mono K5.size)
  go_wp2_with ((with_reducible refine on_append (.tmp 17) (.tmp 20) ?_); refine wl_appendS rfl (.tmp 17) (.tmp 20) _ rfl el_u8 (f := bv) (fun _ => rfl) rfl how7 rfl how6.rd (by omega) (by omega) K6.size ?_; intro A8 c8 w8 how8 _ hb8)
  go_ret
  exact ⟨A8, _, c8, rfl, how8, K6.trans hb8⟩
theorem equal_any (A : Option Addr) (n c : Nat) (A' : Option Addr) (n' c' : Nat) (w : World) (B B' : Nat) (bs cs : List UInt8) (hr : RdS bv w B A n c bs) (hr' : RdS bv w B' A' n' c' cs) (b : Bool) (hb : (bs == cs) = b) :
    Calls Try.prog 54 #[.slice A n c, .slice A' n' c'] w fun e w' => e = .returned (.bool b) ∧ w = w' := by
  go_enter Try.func54, Try.ntmps54
  go_wp2_with (first
    | ((with_reducible refine on_convert (.tmp 5) ?_); refine wl_strS rfl _ _ (.tmp 5) rfl el_u8 Try.underlying5 Try.underlying9 rfl hr ?_)
    | ((with_reducible refine on_convert (.tmp 7) ?_); refine wl_strS rfl _ _ (.tmp 7) rfl el_u8 Try.underlying5 Try.underlying9 rfl hr' ?_))
  go_ret
  exact ⟨rfl, rfl⟩
/-- What is taken: a row of the call's own, and an error's number. -/
def RetTak (r : List UInt8 × Int) (w : World) (e : Ending) (w' : World) : Prop :=
  ∃ A n c, e = .returned (.tuple #[.slice A n c, .int .i64 r.2]) ∧ OwS bv w' w.heap.size 5 A n c r.1 ∧ Below w.heap.size w w'
set_option maxHeartbeats 2000000 in
theorem ftake_any (m : Nat) (hm : m < 4294967296) (M : Int) (hM : (m : Int) = M) (A : Option Addr) (n c : Nat) (w : World) (hn : n ≤ 1000000) (bs : List UInt8) (hr : RdS bv w w.heap.size A n c bs) :
    Calls Try.prog 30 #[.int .u32 M, .slice A n c] w (RetTak (ftake m bs) w) := by
  subst hM
  have hl := hr.len
  by_cases h8 : n < 8
  · rw [ftake_short (by omega)]
    go_enter Try.func30, Try.ntmps30
    go_wp2
    go_ret2
    exact ⟨none, 0, 0, rfl, OwS.nil_ _ _ _, Below.refl _ _⟩
  · obtain ⟨xh, hh⟩ : ∃ xh, bs.take (n - 4) = xh := ⟨_, rfl⟩
    obtain ⟨xs, hs⟩ : ∃ xs, bs.drop (n - 4) = xs := ⟨_, rfl⟩
    have lh : xh.length = n - 4 := by rw [← hh, List.length_take]; omega
    have ls : xs.length = 4 := by rw [← hs, List.length_drop]; omega
    have hcs := csum_lt xh
    rw [ftake_parts (h := xh) (s := xs) (by omega) ls (by rw [← hh, ← hs, List.take_append_drop])]
    obtain ⟨b1, hb1⟩ : ∃ b, (xh.take 4 == be m 4) = b := ⟨_, rfl⟩
    obtain ⟨b2, hb2⟩ : ∃ b, (xs == be (csum xh) 4) = b := ⟨_, rfl⟩
    have hgoal : (if xh.take 4 = be m 4 then (if xs = be (csum xh) 4 then (xh.drop 4, (0 : Int)) else ([], 6)) else ([], 5)) = if b1 = true then (if b2 = true then (xh.drop 4, 0) else ([], 6)) else ([], 5) := by
      rw [← hb1, ← hb2]
      simp only [beq_iff_eq]
    rw [hgoal]
    obtain ⟨r, hr0⟩ : ∃ r, (if b1 = true then (if b2 = true then (xh.drop 4, (0 : Int)) else ([], 6)) else ([], 5)) = r := ⟨_, rfl⟩
    rw [hr0]
    have HR := Lib.hid hr0
    have H1 := Lib.hid hb1
    have H2 := Lib.hid hb2
    have Hh := Lib.hid hh
    have Hs := Lib.hid hs
    have Lh := Lib.hid lh
    obtain ⟨n4, hn4⟩ : ∃ k, n = k + 4 := ⟨n - 4, by omega⟩
    subst hn4
    rw [Nat.add_sub_cancel] at *
    have h8i : decide ((n4 : Int) + 4 < 8) = false := decide_eq_false (by omega)
    have h8n : decide (n4 + 4 < 8) = false := decide_eq_false (by omega)
    clear hgoal hr0 hb1 hb2 hh hs lh ls
    go_enter Try.func30, Try.ntmps30
    go_wp2
    have q1 := RdC.of_reach (B' := w.heap.size) (hr.step (bdrew1 w)) (Nat.le_refl _)
    refine wp_region_tree (.float 0 9 .done) (Th.Reach w.heap.size) (Th.Reach.trans _) (Th.Reach.refl _) (by kernel_rfl) (by kernel_rfl) (fun KT hKT => ?_)
    refine wpTree_float (fun KF hKF => ?_)
    simp only [List.drop, List.take]
    repeat (first | go_big_quiet_skip | ((with_reducible refine onq_sl (.tmp 15) ?_); refine wq_cut_hm rfl _ (.tmp 15) el_u8 rfl q1 (Th.Reach.refl _ _) _ _ rfl rfl rfl n4 (by omega) ?_; intro A18 r18) | ((with_reducible refine onq_sl (.tmp 19) ?_); refine wq_cut_l rfl _ (.tmp 19) el_u8 rfl q1 (Th.Reach.refl _ _) _ rfl rfl n4 (by omega) ?_; intro A21 r21) | go_big_quiet_step (fail) | quiet_step (fail))
    refine wpQuiet_nil ?_
    refine hKF _ ?_
    clear hKF KF
    refine wpTree_done ?_
    refine hKT _ _ ?_
    clear hKT KT
    have ra := r18.rd w.drew (Th.Reach.refl _ _)
    have rs := r21.rd w.drew (Th.Reach.refl _ _)
    rw [Hh.out] at ra
    rw [Hs.out, show n4 + 4 - n4 = 4 by omega] at rs
    have B1 : Below w.heap.size w w.drew := bdrew1 w
    clear q1 r18 r21 hr
    generalize w.drew = w1 at B1 ra rs ⊢
    have z1 := B1.size
    go_wp2
    have q2 := RdC.of_reach (B' := w1.heap.size) (ra.step (bdrew1 w1)) z1
    refine wp_region_tree (.float 0 3 (.one 3 (.one 4 (.float 5 1 .done)))) (Th.Reach w1.heap.size) (Th.Reach.trans _) (Th.Reach.refl _) (by kernel_rfl) (by kernel_rfl) (fun KT hKT => ?_)
    refine wpTree_float (fun KF hKF => ?_)
    simp only [List.drop, List.take]
    repeat (first | go_big_quiet_skip | ((with_reducible refine onq_sl (.tmp 22) ?_); refine wq_cut_hm rfl _ (.tmp 22) el_u8 rfl q2 (Th.Reach.refl _ _) _ _ rfl rfl rfl 4 (by omega) ?_; intro A23 r23) | go_big_quiet_step (fail) | quiet_step (fail))
    refine wpQuiet_nil ?_
    refine hKF _ ?_
    clear hKF KF
    refine wpTree_one (fun KO hKO => ?_)
    simp only [List.drop, List.take]
    go_wp2_with (first | (go_at_call 38; refine (four_any m hm _ rfl w1.drew).mono ?_; rintro e w3 ⟨A3, c3, rfl, how3, hb3⟩; have hb3 : Below w1.heap.size w1.drew w3 := hb3) | (go_at_call 54; refine (equal_any _ _ _ _ _ _ w3 _ _ _ _ (r23.rd w3 (Th.Reach.of hb3)) how3.rd b1 H1.out).mono ?_; rintro e w4 ⟨rfl, rfl⟩))
    refine anch_end (Th.Reach.of (by first | exact Below.refl _ _ | exact below_alloc _ (by first | omega | (simp; done) | (simp; omega)) _ | exact below_alloc2 _ (by first | omega | (simp; done) | (simp; omega)) _ _ | exact below_alloc2d _ (by simp) _ _ | exact bdrew _ _ | assumption | (exact Below.mono (by assumption) (by first | (simp; done) | (simp; omega) | omega | assumption)))) (hKO _ _ ?_)
    clear hKO KO
    refine wpTree_one (fun KO hKO => ?_)
    simp only [List.drop, List.take]
    go_wp2_with (first | (go_at_call 38; refine (four_any m hm _ rfl w1.drew).mono ?_; rintro e w3 ⟨A3, c3, rfl, how3, hb3⟩; have hb3 : Below w1.heap.size w1.drew w3 := hb3) | (go_at_call 54; refine (equal_any _ _ _ _ _ _ w3 _ _ _ _ (r23.rd w3 (Th.Reach.of hb3)) how3.rd b1 H1.out).mono ?_; rintro e w4 ⟨rfl, rfl⟩))
    refine anch_end (Th.Reach.of (by first | exact Below.refl _ _ | exact below_alloc _ (by first | omega | (simp; done) | (simp; omega)) _ | exact below_alloc2 _ (by first | omega | (simp; done) | (simp; omega)) _ _ | exact below_alloc2d _ (by simp) _ _ | exact bdrew _ _ | assumption | (exact Below.mono (by assumption) (by first | (simp; done) | (simp; omega) | omega | assumption)))) (hKO _ _ ?_)
    clear hKO KO
    refine wpTree_float (fun KF hKF => ?_)
    simp only [List.drop, List.take]
    repeat (first | go_big_quiet_skip | ((with_reducible refine onq_sl (.tmp 22) ?_); refine wq_cut_hm rfl _ (.tmp 22) el_u8 rfl q2 (Th.Reach.refl _ _) _ _ rfl rfl rfl 4 (by omega) ?_; intro A23 r23) | go_big_quiet_step (fail) | quiet_step (fail))
    refine wpQuiet_nil ?_
    refine hKF _ ?_
    clear hKF KF
    refine wpTree_done ?_
    refine hKT _ _ ?_
    clear hKT KT
    have B3 := B1.trans (((bdrew1 w1).trans hb3).mono z1)
    have z3 := B3.size
    have ra := ra.step ((bdrew1 w1).trans hb3)
    have rs := rs.step ((bdrew1 w1).trans hb3)
    clear q2 r23 how3 hb3 B1
    cases b1 with
    | false =>
      go_wp2
      go_ret2
      rw [← HR.out]
      exact ⟨none, 0, 0, rfl, OwS.nil_ _ _ _, B3⟩
    | true =>
      go_wp2_with fail
      refine (sum_any A18 _ _ w3 (by omega) _ (ra.more z3)).mono ?_
      rintro e w5 ⟨rfl, hb5⟩
      have ra := ra.step hb5
      have rs := rs.step hb5
      have B5 := B3.trans (hb5.mono z3)
      have z5 := B5.size
      go_wp2_with fail
      refine (four_any (csum xh) hcs _ rfl w5).mono ?_
      rintro e w6 ⟨A6, c6, rfl, how6, hb6⟩
      have ra := ra.step hb6
      have rs := rs.step hb6
      have B6 := B5.trans (hb6.mono z5)
      have z6 := B6.size
      go_wp2_with fail
      refine (equal_any _ _ _ _ _ _ w6 _ _ _ _ rs how6.rd b2 H2.out).mono ?_
      rintro e w7 ⟨rfl, rfl⟩
      cases b2 with
      | false =>
        go_wp2
        go_ret2
        rw [← HR.out]
        exact ⟨none, 0, 0, rfl, OwS.nil_ _ _ _, B6⟩
      | true =>
        have ht : xh.take n4 = xh := List.take_of_length_le (by rw [Lh.out]; exact Nat.le_refl _)
        go_wp2_with ((with_reducible refine on_slice (.tmp 34) ?_); refine wl_cut_lhm rfl _ (.tmp 34) el_u8 rfl ra _ _ _ rfl rfl rfl rfl 4 n4 n4 (by omega) ?_; intro A9 r9; rw [ht] at r9)
        go_wp2_with fail
        refine (own_any _ _ _ w6 (by omega) _ _ r9).mono ?_
        rintro e w8 ⟨A8, n8, c8, rfl, how8, hb8⟩
        go_wp2
        go_ret2
        rw [← HR.out]
        exact ⟨A8, n8, c8, rfl, how8.base_le z6, B6.trans (hb8.mono z6)⟩
end Go.Proofs.Ytgapcmodhcdebaa

/-! ### FrameLaw -/
namespace Go.Th
theorem fput_split (m : Nat) (bs : List UInt8) (v : UInt8) : (fput m bs).set (bs.length + 7) v = fhead m bs ++ (be (csum (fhead m bs)) 4).set 3 v := by
  have e : bs.length + 7 = (fhead m bs).length + 3 := by rw [fhead_length]
  unfold fput
  rw [e, List.set_append_right _ _ (by omega), Nat.add_sub_cancel_left]
theorem fhead_take (m : Nat) (bs : List UInt8) : (fhead m bs).take 4 = be m 4 := by
  have := List.take_left (l₁ := be m 4) (l₂ := bs)
  rwa [be_length] at this
/-- The last byte is another one. -/
theorem ftake_spoilt (m : Nat) (bs : List UInt8) (x v : UInt8) (hx : (fput m bs)[bs.length + 7]? = some x) (hv : v ≠ x) : ftake m ((fput m bs).set (bs.length + 7) v) = ([], 6) := by
  rw [fput_split, ftake_parts (h := fhead m bs) (s := (be (csum (fhead m bs)) 4).set 3 v) (by rw [fhead_length]; omega) (by rw [List.length_set, be_length]) rfl, if_pos (fhead_take m bs), if_neg]
  intro e
  have h3 : ((be (csum (fhead m bs)) 4).set 3 v)[3]? = (be (csum (fhead m bs)) 4)[3]? := congrArg (fun l : List UInt8 => l[3]?) e
  rw [List.getElem?_set_self (by rw [be_length]; omega)] at h3
  have e2 : (fput m bs)[bs.length + 7]? = (be (csum (fhead m bs)) 4)[3]? := by
    have e : bs.length + 7 = (fhead m bs).length + 3 := by rw [fhead_length]
    unfold fput
    rw [e, List.getElem?_append_right (by omega), Nat.add_sub_cancel_left]
  rw [← e2, hx] at h3
  exact hv (Option.some.inj h3)
theorem ftake_spoilt_other {m k : Nat} (hm : m < 4294967296) (hk : k < 4294967296) (h : m ≠ k) (bs : List UInt8) (v : UInt8) : ftake k ((fput m bs).set (bs.length + 7) v) = ([], 5) := by
  rw [fput_split, ftake_parts (h := fhead m bs) (s := (be (csum (fhead m bs)) 4).set 3 v) (by rw [fhead_length]; omega) (by rw [List.length_set, be_length]) rfl, fhead_take, if_neg (fun e => h ((be_inj m k 4 (by omega) (by omega)).1 e))]
theorem fopen_form (c : UInt8) (r : List UInt8) : fopen c (c :: 128 :: r) = ([], [], 3) := by
  rw [fopen_cons, if_pos rfl, gtake_nought, if_neg (by decide)]
theorem fopen_two (c : UInt8) : fopen c [c, 2, 0] = ([], [], 2) := by
  rw [fopen_cons, if_pos rfl]
  rfl
theorem fopen_one (c : UInt8) : fopen c [c] = ([], [], 2) := by
  rw [fopen_cons, if_pos rfl]
  rfl
theorem next_ne (c : UInt8) : c + 1 ≠ c := fun e => by
  have := congrArg UInt8.toNat e
  rw [UInt8.toNat_add] at this
  have := c.toNat_lt
  have e1 : (1 : UInt8).toNat = 1 := rfl
  omega
theorem or_one_ne (c : UInt8) : (1 ||| c) ≠ 0 := fun e => by
  have h := congrArg UInt8.toNat e
  rw [UInt8.toNat_or] at h
  have : (1 ||| c.toNat).testBit 0 = true := by rw [Nat.testBit_or]; rfl
  have e1 : (1 : UInt8).toNat = 1 := rfl
  rw [e1] at h
  rw [h] at this
  cases this
theorem xor_ne {x d : UInt8} (h : d ≠ 0) : x ^^^ d ≠ x := fun e => h (by
  have := congrArg (x ^^^ ·) e
  simpa [← UInt8.xor_assoc] using this)
/-- Bytes with their own sum behind them. -/
theorem ftake_all {m : Nat} (hm : m < 4294967296) (wa : List UInt8) : (wa.length < 4 ∧ ftake m (wa ++ be (csum wa) 4) = ([], 2)) ∨ (4 ≤ wa.length ∧ val (wa.take 4) = m ∧ ftake m (wa ++ be (csum wa) 4) = (wa.drop 4, 0)) ∨ (4 ≤ wa.length ∧ val (wa.take 4) ≠ m ∧ ftake m (wa ++ be (csum wa) 4) = ([], 5)) := by
  by_cases h : wa.length < 4
  · exact .inl ⟨h, ftake_short (by rw [List.length_append, be_length]; omega)⟩
  · have e := ftake_parts (m := m) (h := wa) (s := be (csum wa) 4) (by omega) (be_length _ _) rfl
    have l4 : (wa.take 4).length = 4 := by rw [List.length_take]; omega
    by_cases hv : val (wa.take 4) = m
    · have e4 : wa.take 4 = be m 4 := by
        have := be_val (wa.take 4)
        rw [l4, hv] at this
        exact this.symm
      rw [if_pos e4, if_pos rfl] at e
      exact .inr (.inl ⟨by omega, hv, e⟩)
    · rw [if_neg (fun e4 => hv (by rw [e4, val_be 4 m (by omega)]))] at e
      exact .inr (.inr ⟨by omega, hv, e⟩)
end Go.Th

/-! ### GroupRef -/
namespace Go.Proofs.Ytgapcmodhcdebaa
open Go.RowKit Go.Th
theorem rgput_out (n : Int) (w : World) (h : n < 0 ∨ 268435455 < n) : Calls Try.prog 51 #[.int .i64 n] w (RetG [] 1 w) := by
  by_cases h1 : n < 0
  · go_enter Try.func51, Try.ntmps51
    go_wp2
    go_ret2
    exact ⟨none, 0, 0, rfl, OwS.nil_ _ _ _, Below.refl _ _⟩
  · have h2 : 268435455 < n := by omega
    go_enter Try.func51, Try.ntmps51
    go_wp2
    go_ret2
    exact ⟨none, 0, 0, rfl, OwS.nil_ _ _ _, Below.refl _ _⟩
/-- The loop's relation: what is left of the number, and the bytes behind. -/
def RGPutRel (n : Nat) (w : World) (x out : Value) (wr : World) : Prop :=
  ∃ (X k c : Nat) (A : Option Addr) (l : List UInt8), X < 268435456 ∧ k ≤ 10 ∧ x = .int .i64 X ∧ out = .slice A k c ∧ Hid (gd X (gmore X) ++ l = gput n) ∧ Hid (gmore X + k ≤ 10) ∧ OwS bv wr w.heap.size 5 A k c l ∧ Below w.heap.size w wr
set_option maxRecDepth 100000 in
theorem rgput_in (n : Nat) (w : World) (h : n < 268435456) : Calls Try.prog 51 #[.int .i64 n] w (RetG (gput n) 0 w) := by
  go_enter Try.func51, Try.ntmps51
  go_wp2
  go_loopw [0, 4] (fun x out wr => RGPutRel n w x out wr) (fun x _ _ => (intOf x).toNat)
  case atStart =>
    refine ⟨n / 128, 1, 1, _, [UInt8.ofNat (n % 128)], by omega, by omega, by go_num, rfl, ?_, ?_, OwS.lit _ _ _ (Nat.le_refl _) (by simp [maxLen]) rfl ?_, below_alloc _ (Nat.le_refl _) _⟩
    · show _ = _
      rw [gmore_div h]; rfl
    · show _ ≤ _
      rw [gmore_div h]; have := gsize_pos n; omega
    · simp only [bv, List.map_cons, List.map_nil, List.cons.injEq, and_true, UInt8.toNat_ofNat', Value.int.injEq, true_and]; omega
  case round =>
    obtain ⟨X, k, c, A, l, hX, hk, rfl, rfl, hl, hk10, how, hb⟩ := hrel
    by_cases hlt : 0 < X
    · have h5 : gd (X / 128) (gmore (X / 128)) ++ ([UInt8.ofNat (X % 128 + 128)] ++ l) = gput n := by
        rw [← hl.out, gmore_step hlt hX, gd, List.append_assoc]
      have H5 := Lib.hid h5
      have h6 : gmore (X / 128) + (1 + k) ≤ 10 := by have := hk10.out; rw [gmore_step hlt hX] at this; omega
      have H6 := Lib.hid h6
      clear h5 h6
      go_wp2_with (refine wl_appendS (base := w.heap.size) rfl (.tmp 23) (.tmp 24) _ rfl el_u8 (f := bv) (fun _ => rfl) rfl (OwS.lit (xs := [UInt8.ofNat (X % 128 + 128)]) _ _ 1 hb.size (by simp [maxLen]) rfl (by simp only [bv, List.map_cons, List.map_nil, List.cons.injEq, and_true, UInt8.toNat_ofNat', Value.int.injEq, true_and]; omega)) rfl (how.rd.alloc _) (by omega) (by omega) (by have := hb.size; simp; omega) ?_; intro A2 c2 w2 how2 _ hb2)
      go_roundw
      case rel => exact ⟨X / 128, 1 + k, c2, A2, _, by omega, by have := H6.out; omega, by go_num, rfl, H5.out, H6.out, how2, (hb.trans (below_alloc wr hb.size _)).trans hb2⟩
      case measure => simp [intOf]; omega
    · have e : X = 0 := by omega
      subst e
      have h5 : l = gput n := hl.out
      subst h5
      go_wp2
      go_ret2
      exact ⟨_, _, _, rfl, how, hb⟩

/-- The loop's relation: k bytes were looked at. -/
def RGTakeRel (bs : List UInt8) (n : Nat) (v i : Value) : Prop :=
  ∃ V k : Nat, k ≤ n ∧ k ≤ 4 ∧ v = .int .i64 V ∧ i = .int .i64 k ∧ V < 128 ^ k ∧ Hid (gtake bs = gt (4 - k) V k (bs.drop k))
set_option maxRecDepth 100000 in
theorem rgtake_any (A : Option Addr) (n c : Nat) (w : World) (hm : n ≤ 9223372036854775807) (B : Nat) (bs : List UInt8) (hr : RdS bv w B A n c bs) :
    Calls Try.prog 34 #[.slice A n c] w (RetT3 (gtake bs) w) := by
  have hlen := hr.len
  rcases Nat.eq_zero_or_pos n with h0 | h0
  · subst h0
    have e : bs = [] := List.length_eq_zero_iff.1 hlen
    subst e
    go_enter Try.func34, Try.ntmps34
    go_wp2
    go_loop [5, 6] (fun v i => v = .int .i64 0 ∧ i = .int .i64 0) (fun _ _ => 0)
    case atStart => exact ⟨rfl, rfl⟩
    case round =>
      obtain ⟨rfl, rfl⟩ := hrel
      go_wp2
      go_ret3
      exact ⟨rfl, rfl⟩
  · obtain ⟨x0, hx0⟩ : ∃ x0, bs[0]? = some x0 := ⟨bs[0]'(by omega), List.getElem?_eq_getElem _⟩
    have Hx0 := Lib.hid hx0
    clear hx0
    by_cases h128 : x0.toNat = 128
    · have hb : gtake bs = (0, 0, 3) := by
        unfold gtake
        rw [if_pos]
        rw [Hx0.out, (u8_is (by omega)).2 h128]; rfl
      have Hb := Lib.hid hb
      have hx128' : (x0.toNat : Int) = 128 := by omega
      clear hb
      go_enter Try.func34, Try.ntmps34
      go_wp2_with (first | (refine wl_at_b rfl _ _ _ rfl el_u8 rfl rfl (by omega) (by omega) hr ?_; intro p x hx hxl hc; have hxx : x0 = x := (u8_at (k := 0) hx.out Hx0.out).symm; subst hxx))
      go_ret3
      rw [Hb.out]
      exact ⟨rfl, rfl⟩
    · have hb : gtake bs = gt 4 0 0 bs := by
        unfold gtake
        rw [if_neg]
        intro e
        rw [Hx0.out] at e
        injection e with e
        exact h128 ((u8_is (by omega)).1 e)
      have Hb := Lib.hid hb
      have hx128' : ¬ (x0.toNat : Int) = 128 := by omega
      clear hb
      go_enter Try.func34, Try.ntmps34
      go_wp2_with (first | (refine wl_at_b rfl _ _ _ rfl el_u8 rfl rfl (by omega) (by omega) hr ?_; intro p x hx hxl hc; have hxx : x0 = x := (u8_at (k := 0) hx.out Hx0.out).symm; subst hxx))
      clear hx128' h128 Hx0
      go_loop [5, 6] (fun v i => RGTakeRel bs n v i) (fun _ i => n - (intOf i).toNat)
      case atStart => exact ⟨0, 0, by omega, by omega, rfl, rfl, by omega, Hb.out⟩
      case round =>
        obtain ⟨V, k, hkn, hk4, rfl, rfl, hV, hg⟩ := hrel
        by_cases hlt : k < n
        · by_cases hk44 : k = 4
          · subst hk44
            have hb : gtake bs = (0, 0, 3) := hg.out
            have Hb := Lib.hid hb
            clear hb
            go_wp2
            go_ret3
            rw [Hb.out]
            exact ⟨rfl, rfl⟩
          · obtain ⟨x0, hx0⟩ : ∃ x0, bs[k]? = some x0 := ⟨bs[k]'(by omega), List.getElem?_eq_getElem _⟩
            have Hx0 := Lib.hid hx0
            clear hx0
            have hx255 : x0.toNat < 256 := x0.toNat_lt
            have hp := pow128 (show k < 4 by omega)
            obtain ⟨hp1, hp2⟩ := hp
            have hV2 : V < 2097152 := by omega
            by_cases hx : x0.toNat < 128
            · have hb : gtake bs = (V * 128 + x0.toNat, k + 1, 0) := by rw [hg.out]; exact gt_low (by omega) Hx0.out hx
              have Hb := Lib.hid hb
              have hxm : (x0.toNat : Int) % 128 = x0.toNat := by omega
              clear hb hV hp1 hp2
              go_wp2_with (first | (refine wl_at_b rfl _ _ _ rfl el_u8 rfl rfl (by omega) (by omega) hr ?_; intro p x hx hxl hc; have hxx : x0 = x := (u8_at hx.out Hx0.out).symm; subst hxx))
              go_ret3
              rw [Hb.out]
              exact ⟨rfl, rfl⟩
            · obtain ⟨y, hy⟩ : ∃ y, x0.toNat - 128 = y := ⟨_, rfl⟩
              have hym : (x0.toNat : Int) % 128 = y := by omega
              have hb : gtake bs = gt (4 - (k + 1)) (V * 128 + y) (k + 1) (bs.drop (k + 1)) := by
                rw [hg.out, show 4 - k = (4 - (k + 1)) + 1 by omega, gt_high Hx0.out (by omega), hy]
              have Hb := Lib.hid hb
              have hV3 : V * 128 + y < 128 ^ (k + 1) := by rw [hp2]; omega
              have HV3 := Lib.hid hV3
              clear hb hV hp1 hp2 hV3 hy
              go_wp2_with (first | (refine wl_at_b rfl _ _ _ rfl el_u8 rfl rfl (by omega) (by omega) hr ?_; intro p x hx hxl hc; have hxx : x0 = x := (u8_at hx.out Hx0.out).symm; subst hxx))
              go_round
              case rel =>
                refine ⟨_, _, _, _, _, ?_, rfl, rfl, rfl, rfl, rfl⟩
                exact ⟨V * 128 + y, k + 1, by omega, by omega, by go_num, by go_num, HV3.out, Hb.out⟩
              case measure => simp [intOf]; omega
        · have e : k = n := by omega
          subst e
          have hgt : gtake bs = gt (4 - k) V k [] := by
            have hd : bs.drop k = [] := List.drop_eq_nil_of_le (by omega)
            rw [← hd, ← hg.out]
          by_cases hk44 : k = 4
          · subst hk44
            have hb : gtake bs = (0, 0, 3) := hgt
            have Hb := Lib.hid hb
            clear hb hgt
            go_wp2
            go_ret3
            rw [Hb.out]
            exact ⟨rfl, rfl⟩
          · have hb : gtake bs = (0, 0, 2) := by rw [hgt]; exact gt_nil _ _ _ (by omega)
            have Hb := Lib.hid hb
            clear hb hgt
            go_wp2
            go_ret3
            rw [Hb.out]
            exact ⟨rfl, rfl⟩
theorem rgput_any (n : Int) (w : World) : Calls Try.prog 51 #[.int .i64 n] w (RetP n w) := by
  by_cases h : 0 ≤ n ∧ n ≤ 268435455
  · obtain ⟨k, rfl⟩ := Int.eq_ofNat_of_zero_le h.1
    refine (rgput_in k w (by omega)).mono fun _ _ hh => .of_g ?_
    rw [GP_in k (by omega)]
    exact hh
  · refine (rgput_out n w (by omega)).mono fun _ _ hh => .of_g ?_
    rw [GP_out n (by omega)]
    exact hh
end Go.Proofs.Ytgapcmodhcdebaa
