/-
  theseusref06.Ends, theseusref12.Of; theseustop.few.
-/
import Derived.Test.YtjandnidljbkoaaGreatSTpRound
namespace Go.Th
set_option linter.unusedVariables false
def endF (a : Nat) (n : Int) : Nat → Int × Int
  | 0 => (0, 0)
  | k + 1 => if (k : Int) < n then (((endF a n k).1 * 2 + (bitN a k : Nat)) % 4294967296, ((endF a n k).2 * 2 + (bitN a k : Nat)) % 4294967296) else ((endF a n k).1 * 2 % 4294967296, ((endF a n k).2 * 2 + 1) % 4294967296)
theorem endF_in (a : Nat) (n : Int) : ∀ k, (0 ≤ (endF a n k).1 ∧ (endF a n k).1 ≤ 4294967295) ∧ (0 ≤ (endF a n k).2 ∧ (endF a n k).2 ≤ 4294967295)
  | 0 => by simp [endF]
  | k + 1 => by
    unfold endF
    split
    · simp only; omega
    · simp only; omega
end Go.Th
namespace Go.Proofs.YtjandnidljbkoaaGreat
open Go.RowKit Go.Th
set_option linter.unusedVariables false
def EnRel (a : Nat) (n : Int) (w : World) (s6 s7 s8 : Value) (wr : World) : Prop :=
  ∃ (k : Nat) (x y : Int), k ≤ 32 ∧ s6 = .int .u32 x ∧ s7 = .int .u32 y ∧ s8 = .int .i64 k ∧ Hid (endF a n k = (x, y)) ∧ (0 ≤ x ∧ x ≤ 4294967295) ∧ (0 ≤ y ∧ y ≤ 4294967295) ∧ wr = w
set_option maxRecDepth 100000 in
set_option maxHeartbeats 2000000 in
theorem rends_any (a n : Int) (w : World) (ha : 0 ≤ a ∧ a ≤ 4294967295) :
    Calls Tryz.prog 51 #[.int .u32 a, .int .i64 n] w (RetV (.tuple #[.int .u32 (endF a.toNat n 32).1, .int .u32 (endF a.toNat n 32).2]) w) := by
  obtain ⟨a, rfl⟩ := Int.eq_ofNat_of_zero_le ha.1
  rw [Int.toNat_natCast]
  have ha' : a < 4294967296 := by omega
  go_enter Tryz.func51, Tryz.ntmps51
  go_wp2
  go_loopw [6, 7, 8] (fun s6 s7 s8 wr => EnRel a n w s6 s7 s8 wr) (fun _ _ s8 _ => 32 - (intOf s8).toNat)
  case atStart => exact ⟨0, 0, 0, by omega, rfl, rfl, rfl, Lib.hid rfl, by omega, by omega, rfl⟩
  case round =>
    obtain ⟨k, x, y, hk, rfl, rfl, rfl, hxy, hx, hy, rfl⟩ := hrel
    by_cases hlt : k < 32
    · have hstep : endF a n (k + 1) = if (k : Int) < n then ((x * 2 + (bitN a k : Nat)) % 4294967296, (y * 2 + (bitN a k : Nat)) % 4294967296) else (x * 2 % 4294967296, (y * 2 + 1) % 4294967296) := by
        rw [endF, hxy.out]
      have K := Lib.hid (fun w => bit_any a k w ha' hlt)
      have hb2 := bitN_lt a k
      obtain ⟨b, hb⟩ : ∃ b, bitN a k = b := ⟨_, rfl⟩
      rw [hb] at hstep K hb2
      clear hb
      by_cases hkn : (k : Int) < n
      · rw [if_pos hkn] at hstep
        have Hst := Lib.hid hstep
        have hd : decide ((k : Int) < n) = true := decide_eq_true hkn
        clear hstep
        go_wp2_with (go_at_call 103; refine (K.out _).mono ?_; rintro e w1 ⟨rfl, rfl⟩)
        go_roundw
        case rel =>
          refine ⟨k + 1, (x * 2 + b) % 4294967296, (y * 2 + b) % 4294967296, by omega, ?_, ?_, by go_num, Hst, by omega, by omega, rfl⟩
          · congr 1 <;> first | omega | (simp only [IntKind.wrap_u32] <;> omega)
          · congr 1 <;> first | omega | (simp only [IntKind.wrap_u32] <;> omega)
        case measure => simp [intOf]; omega
      · rw [if_neg hkn] at hstep
        have Hst := Lib.hid hstep
        have hd : decide ((k : Int) < n) = false := decide_eq_false hkn
        clear hstep
        go_wp2_with (go_at_call 103; refine (K.out _).mono ?_; rintro e w1 ⟨rfl, rfl⟩)
        go_roundw
        case rel =>
          refine ⟨k + 1, x * 2 % 4294967296, (y * 2 + 1) % 4294967296, by omega, ?_, ?_, by go_num, Hst, by omega, by omega, rfl⟩
          · congr 1 <;> first | omega | (simp only [IntKind.wrap_u32] <;> omega)
          · congr 1 <;> first | omega | (simp only [IntKind.wrap_u32] <;> omega)
        case measure => simp [intOf]; omega
    · obtain rfl : k = 32 := by omega
      have h := hxy.out
      go_wp2
      go_ret2
      rw [h]
      exact ⟨rfl, rfl⟩
set_option maxRecDepth 100000 in
set_option maxHeartbeats 1000000 in
theorem rputO_any (A : Option Addr) (n c : Nat) (l : List Int) (w : World) (hm : n ≤ 1000000) (b : Nat) (hbw : b ≤ w.heap.size) (ho : OwS uv w b 23 A n c l) (a : Int) (ha : 0 ≤ a ∧ a ≤ 4294967295) (hs : l.Pairwise (· < ·)) :
    Calls Tryz.prog 52 #[.slice A n c, .int .u32 a] w (fun e w' => ∃ A' c', e = .returned (.slice A' (pput a l).length c') ∧ OwS uv w' b 23 A' (pput a l).length c' (pput a l) ∧ Below w.heap.size w w') := by
  have hr := ho.rd
  have HS := Lib.hid hs
  have Hlen := Lib.hid hr.len
  clear hs
  go_enter Tryz.func52, Tryz.ntmps52
  go_wp2
  go_loop [5] (fun i => ∃ k : Nat, k ≤ n ∧ i = .int .i64 k ∧ Hid (∀ x ∈ l.take k, x < a)) (fun i => n - (intOf i).toNat)
  case atStart => exact ⟨0, by omega, rfl, Lib.hid (by simp)⟩
  case round =>
    obtain ⟨k, hk, rfl, hf⟩ := hrel
    by_cases hlt : k < n
    · obtain ⟨x, hx⟩ : ∃ x, l[k]? = some x := ⟨l[k]'(by have := Hlen.out; omega), List.getElem?_eq_getElem _⟩
      have Hx := Lib.hid hx
      have hst : l.take (k + 1) = l.take k ++ [x] := by rw [List.take_add_one, hx]; rfl
      have Hst := Lib.hid hst
      clear hx hst
      by_cases hxa : x < a
      · go_wp2_with ((with_reducible refine on_index (.tmp 12) ?_); refine wl_at_u rfl _ (.tmp 12) _ rfl el_u32 rfl rfl (by omega) (by omega) hr ?_; intro p x' hx' hc1; have hxx := get_eq Hx.out hx'.out (by omega); subst hxx)
        go_round
        case rel => exact ⟨k + 1, by omega, by go_num, Lib.hid (by rw [Hst.out]; intro y hy; rcases List.mem_append.1 hy with hy | hy; exact hf.out y hy; rw [List.mem_singleton.1 hy]; exact hxa)⟩
        case measure => simp [intOf]; omega
      · have hway : ((x == a) = true ∧ pput a l = l) ∨ ((x == a) = false ∧ pput a l = l.take k ++ (a :: l.drop k)) := by
          have := pput_at (a := a) hf.out (fun y hy => by have := Hx.out; rw [this] at hy; injection hy with hy; omega)
          rw [Hx.out] at this
          by_cases e : x = a
          · subst e; exact .inl ⟨by simp, by simpa using this⟩
          · exact .inr ⟨by simpa using e, by simpa [e] using this⟩
        rcases hway with ⟨e1, e2⟩ | ⟨e1, e2⟩
        · go_wp2_with (first | ((with_reducible refine on_index (.tmp 12) ?_); refine wl_at_u rfl _ (.tmp 12) _ rfl el_u32 rfl rfl (by omega) (by omega) hr ?_; intro p1 x1 hx1 hc1; have hxx := get_eq Hx.out hx1.out (by omega); subst hxx) | ((with_reducible refine on_index (.tmp 26) ?_); refine wl_at_u rfl _ (.tmp 26) _ rfl el_u32 rfl rfl (by omega) (by omega) hr ?_; intro p2 x2 hx2 hc2; have hxx := get_eq Hx.out hx2.out (by omega); subst hxx))
          go_ret
          exact ⟨A, c, by rw [Hlen.out]; rfl, by rw [Hlen.out]; exact ho, Below.refl _ _⟩
        · go_wp2_with (first | ((with_reducible refine on_index (.tmp 12) ?_); refine wl_at_u rfl _ (.tmp 12) _ rfl el_u32 rfl rfl (by omega) (by omega) hr ?_; intro p1 x1 hx1 hc1; have hxx := get_eq Hx.out hx1.out (by omega); subst hxx) | ((with_reducible refine on_index (.tmp 26) ?_); refine wl_at_u rfl _ (.tmp 26) _ rfl el_u32 rfl rfl (by omega) (by omega) hr ?_; intro p2 x2 hx2 hc2; have hxx := get_eq Hx.out hx2.out (by omega); subst hxx) | ((with_reducible refine on_slice (.tmp 36) ?_); refine wl_cut_l rfl _ (.tmp 36) el_u32 rfl (hr.alloc _) _ rfl rfl k (by omega) ?_; intro A36 r36) | ((with_reducible refine on_append (.tmp 35) (.tmp 38) ?_); refine wl_appendS rfl (.tmp 35) (.tmp 38) _ rfl el_u32 (f := uv) (fun _ => rfl) rfl (OwS.lit (base := w.heap.size) (e := 23) (xs := [a]) w #[.int .u32 a] 1 (Nat.le_refl _) (by simp [maxLen]) rfl rfl) rfl r36 (by omega) (by omega) (by simp) ?_; intro A3 c3 w3 ow3 hg3 hb3; have hrr := (hr.heap.alloc (.cells #[.int .u32 a] 23)).below hb3) | ((with_reducible refine on_slice (.tmp 41) ?_); refine wl_cut_h rfl _ (.tmp 41) el_u32 rfl (by first | exact hrr | exact hrr.alloc _) _ rfl rfl k (by omega) ?_; intro A43 r43) | ((with_reducible refine on_append (.tmp 40) (.tmp 43) ?_); refine wl_appendS rfl (.tmp 40) (.tmp 43) _ rfl el_u32 (f := uv) (fun _ => rfl) rfl (OwS.lit (base := w3.heap.size) (e := 23) (xs := []) w3 #[] 0 (Nat.le_refl _) (by simp [maxLen]) rfl rfl) rfl r43 (by omega) (by omega) (by simp) ?_; intro A4 c4 w4 ow4 hg4 hb4; have ow5 := ow4; rw [Nat.zero_add, List.nil_append] at ow5) | ((with_reducible refine on_append (.tmp 44) (.tmp 45) ?_); refine wl_appendS rfl (.tmp 44) (.tmp 45) _ rfl el_u32 (f := uv) (fun _ => rfl) rfl ow5 rfl ((ow3.rd.alloc (.cells #[] 23)).below hb4) (by omega) (by omega) (by have := hb4.size; simp at this; omega) ?_; intro A6 c6 w6 ow6 hg6 hb6))
          go_ret
          have L : min k l.length + (l.length - k + 1) = k + (1 + (n - k)) := by have := Hlen.out; omega
          rw [L]
          have z3 : w.heap.size ≤ w3.heap.size := by have := hb3.size; simp at this; omega
          exact ⟨A6, c6, rfl, ow6.base_le (by omega), (((below_alloc w (Nat.le_refl _) _).trans hb3).trans (((below_alloc w3 (Nat.le_refl _) _).trans hb4).mono z3)).trans (hb6.mono z3)⟩
    · have e2 : pput a l = l.take k ++ (a :: l.drop k) := by
        have hn : l[k]? = none := List.getElem?_eq_none (by have := Hlen.out; omega)
        have := pput_at (a := a) hf.out (fun y hy => by rw [hn] at hy; cases hy)
        rw [hn] at this
        simpa using this
      go_wp2_with (first | ((with_reducible refine on_slice (.tmp 36) ?_); refine wl_cut_l rfl _ (.tmp 36) el_u32 rfl (hr.alloc _) _ rfl rfl k (by omega) ?_; intro A36 r36) | ((with_reducible refine on_append (.tmp 35) (.tmp 38) ?_); refine wl_appendS rfl (.tmp 35) (.tmp 38) _ rfl el_u32 (f := uv) (fun _ => rfl) rfl (OwS.lit (base := w.heap.size) (e := 23) (xs := [a]) w #[.int .u32 a] 1 (Nat.le_refl _) (by simp [maxLen]) rfl rfl) rfl r36 (by omega) (by omega) (by simp) ?_; intro A3 c3 w3 ow3 hg3 hb3; have hrr := (hr.heap.alloc (.cells #[.int .u32 a] 23)).below hb3) | ((with_reducible refine on_slice (.tmp 41) ?_); refine wl_cut_h rfl _ (.tmp 41) el_u32 rfl (by first | exact hrr | exact hrr.alloc _) _ rfl rfl k (by omega) ?_; intro A43 r43) | ((with_reducible refine on_append (.tmp 40) (.tmp 43) ?_); refine wl_appendS rfl (.tmp 40) (.tmp 43) _ rfl el_u32 (f := uv) (fun _ => rfl) rfl (OwS.lit (base := w3.heap.size) (e := 23) (xs := []) w3 #[] 0 (Nat.le_refl _) (by simp [maxLen]) rfl rfl) rfl r43 (by omega) (by omega) (by simp) ?_; intro A4 c4 w4 ow4 hg4 hb4; have ow5 := ow4; rw [Nat.zero_add, List.nil_append] at ow5) | ((with_reducible refine on_append (.tmp 44) (.tmp 45) ?_); refine wl_appendS rfl (.tmp 44) (.tmp 45) _ rfl el_u32 (f := uv) (fun _ => rfl) rfl ow5 rfl ((ow3.rd.alloc (.cells #[] 23)).below hb4) (by omega) (by omega) (by have := hb4.size; simp at this; omega) ?_; intro A6 c6 w6 ow6 hg6 hb6))
      go_ret
      have L : min k l.length + (l.length - k + 1) = k + (1 + (n - k)) := by have := Hlen.out; omega
      rw [L]
      have z3 : w.heap.size ≤ w3.heap.size := by have := hb3.size; simp at this; omega
      exact ⟨A6, c6, rfl, ow6.base_le (by omega), (((below_alloc w (Nat.le_refl _) _).trans hb3).trans (((below_alloc w3 (Nat.le_refl _) _).trans hb4).mono z3)).trans (hb6.mono z3)⟩
def OfR (N : Nat) (w : World) (e : Ending) (w' : World) : Prop :=
  ∃ (A : Option Addr) (m c : Nat) (l : List Int), e = .returned (.slice A m c) ∧ OwS uv w' w.heap.size 23 A m c l ∧ m ≤ N ∧ (∀ x ∈ l, 0 ≤ x ∧ x ≤ 4294967295) ∧ Below w.heap.size w w'
def Of1 (ns : List Nd) (n B : Nat) (w : World) (s i : Value) (wr : World) : Prop :=
  ∃ (k m c : Nat) (A : Option Addr) (l : List Int), k ≤ n ∧ i = .int .i64 k ∧ s = .slice A m c ∧ OwS uv wr B 23 A m c l ∧ Hid (Row0 l) ∧ m ≤ 1 + 2 * nsize ((Nd.ls ns).take k) ∧ Below w.heap.size w wr
def Of2 (n N B : Nat) (w : World) (s i : Value) (wr : World) : Prop :=
  ∃ (k m c : Nat) (A : Option Addr) (l : List Int), k ≤ n ∧ i = .int .i64 k ∧ s = .slice A m c ∧ OwS uv wr B 23 A m c l ∧ Hid (Row0 l) ∧ m ≤ N + 2 * k ∧ Below w.heap.size w wr
set_option maxRecDepth 100000 in
set_option maxHeartbeats 4000000 in
theorem rof_any (A : Option Addr) (n c : Nat) (ns : List Nd) (w : World) (B : Nat) (hr : NRd w B A n c ns) (hN : NetOk (Nd.ls ns)) :
    Calls Tryz.prog 14 #[.agg #[.slice A n c]] w (OfR 8193 w) := by
  have hn := hN.len
  have hsz := hN.size
  have hlen := hr.len
  have hrn : n ≤ 256 := by rw [Nd.ls_len] at hn; omega
  have k0 := below_alloc w (Nat.le_refl _) (.cells #[.slice A n c] 34)
  have b0 := Box.new w #[.slice A n c] 34
  obtain ⟨W0, hW0⟩ : ∃ W, w.alloc (.cells #[.slice A n c] 34) = W := ⟨_, rfl⟩
  rw [hW0] at k0 b0
  have k1 := below_alloc W0 k0.size (.cells #[.int .u32 0] 23)
  have l1 := OwS.lit (f := uv) (base := w.heap.size) (e := 23) (xs := [0]) W0 #[.int .u32 0] 1 k0.size (by simp [maxLen]) rfl rfl
  have b1 := b0.alloc (.cells #[.int .u32 0] 23)
  obtain ⟨W1, hW1⟩ : ∃ W, W0.alloc (.cells #[.int .u32 0] 23) = W := ⟨_, rfl⟩
  rw [hW1] at k1 l1 b1
  obtain ⟨g1, hg1⟩ : ∃ g, W0.heap.size = g := ⟨_, rfl⟩
  rw [hg1] at l1
  have K1 : Below w.heap.size w W1 := k0.trans k1
  have kw := K1.size
  clear hn hlen
  go_enter Tryz.func14, Tryz.ntmps14
  go_upto_region 1 with fail
  go_upto_region 2 with fail
  clear hW0 hW1 k0 k1 b0
  go_wp2
  go_loopw [3, 4] (fun s i wr => Of1 ns n w.heap.size W1 s i wr) (fun _ i _ => n - (intOf i).toNat)
  case atStart => exact ⟨0, 1, 1, _, [0], by omega, rfl, rfl, l1, Lib.hid row0_one, by omega, Below.refl _ _⟩
  case round =>
    obtain ⟨k, m, cm, Am, l, hk, rfl, rfl, hl, h0, hm, hb⟩ := hrel
    have y0 : wr.cell? ⟨w.heap.size, 0, none⟩ = some (.slice A n c) := (b1.step hb).cell 0
    have hrk := (hr.step K1).step hb
    have hlen := hrk.len
    by_cases hlt : k < n
    · obtain ⟨x, hx⟩ : ∃ x, ns[k]? = some x := ⟨ns[k]'(by omega), List.getElem?_eq_getElem _⟩
      have hxm := List.mem_of_getElem? hx
      have hxl := (hrk.rk x hxm).len
      have hsum := nsize_take (Nd.ls_get hx)
      have hle := nsize_take_le (Nd.ls ns) (k + 1)
      have hxn : x.n ≤ 4096 := by omega
      have Hx := Lib.hid hx
      have Hxok := Lib.hid (hrk.ok x hxm)
      have Hxm := Lib.hid hxm
      clear hx hxm
      go_wp2
      go_loopw [3, 5] (fun s i wq => Of2 x.n (1 + 2 * nsize ((Nd.ls ns).take k)) w.heap.size W1 s i wq) (fun _ i _ => x.n - (intOf i).toNat)
      case atStart => exact ⟨0, m, cm, Am, l, by omega, rfl, rfl, hl, h0, by omega, hb⟩
      case round =>
        clear y0 hl h0 hm hb hrk
        obtain ⟨j, m, cm, Am, l, hj, rfl, rfl, hl, h0, hm, hb⟩ := hrel
        have bx := b1.step hb
        have y1 : wr.cell? ⟨w.heap.size, 0, none⟩ = some (.slice A n c) := bx.cell 0
        have hrk := (hr.step K1).step hb
        by_cases hjl : j < x.n
        · obtain ⟨r, hr0⟩ : ∃ r, x.l[j]? = some r := ⟨x.l[j]'(by omega), List.getElem?_eq_getElem _⟩
          have hro := Hxok.out r (List.mem_of_getElem? hr0)
          have K := Lib.hid (fun w => rends_any r.a r.n w hro.a)
          have hin := endF_in r.a.toNat r.n 32
          obtain ⟨lo, hlo⟩ : ∃ y, (endF r.a.toNat r.n 32).1 = y := ⟨_, rfl⟩
          obtain ⟨hi, hhi⟩ : ∃ y, (endF r.a.toNat r.n 32).2 = y := ⟨_, rfl⟩
          rw [hlo] at K hin
          rw [hhi] at K hin
          have Hr := Lib.hid hr0
          have q1 := hrk.rd.reach
          have q2 := (hrk.rk x Hxm.out).reach
          have qa : ∀ q : Step wr.heap.size wr, q.w.cell? ⟨w.heap.size, 0, none⟩ = some (.slice A n c) := fun q => (bx.step q.h).cell 0
          clear hlo hhi hr0 hro
          go_upto_region 8 with ((with_reducible refine on_index (.tmp 18) ?_); refine wn_at rfl _ (.tmp 18) _ rfl el_row rfl rfl (by omega) (by omega) hrk.rd ?_; intro b5 j5 y hy hbB hc; have hxx : x = y := get_eq Hx.out hy.out (by omega); subst hxx)
          refine wp_region_reach (by kernel_rfl) (by kernel_rfl) ?_
          repeat (first | go_big_quiet_skip | ((with_reducible refine onq_index (.tmp 28) ?_); refine wqn_at rfl _ (.tmp 28) _ rfl el_row rfl rfl (by omega) (by omega) (Th.Reach.refl _ _) (fun w' hw => q1.rd w' hw) ?_; intro b5 j5 x5 hr5 hc5; have hxx := get_eq Hx.out hr5.out (by omega); subst hxx; have f5 : ∀ q : Step wr.heap.size wr, q.w.cell? ⟨b5, j5, none⟩ = some (.slice x.A x.n x.c) := fun q => hc5.out q.w ⟨q, rfl⟩) | ((with_reducible refine onq_index (.tmp 37) ?_); refine wqn_at rfl _ (.tmp 37) _ rfl el_row rfl rfl (by omega) (by omega) (Th.Reach.refl _ _) (fun w' hw => q1.rd w' hw) ?_; intro b6 j6 x6 hr6 hc6; have hxx := get_eq Hx.out hr6.out (by omega); subst hxx; have f6 : ∀ q : Step wr.heap.size wr, q.w.cell? ⟨b6, j6, none⟩ = some (.slice x.A x.n x.c) := fun q => hc6.out q.w ⟨q, rfl⟩) | ((with_reducible refine onq_index (.tmp 31) ?_); refine wqr_at rfl _ (.tmp 31) _ rfl el_rule rfl rfl (by omega) (by omega) (Th.Reach.refl _ _) q2 ?_; intro b1 j1 t2 ht2 hcb1; have hxx := get_eq Hr.out ht2.out (by omega); subst hxx; have f0b1 : ∀ q : Step _ _, q.w.cell? ⟨b1, j1, none⟩ = some (.int .u32 r.a) := fun q => hcb1.out q.w ⟨q, rfl⟩ 0 _ rfl) | ((with_reducible refine onq_index (.tmp 40) ?_); refine wqr_at rfl _ (.tmp 40) _ rfl el_rule rfl rfl (by omega) (by omega) (Th.Reach.refl _ _) q2 ?_; intro b2 j2 t2 ht2 hcb2; have hxx := get_eq Hr.out ht2.out (by omega); subst hxx; have f1b2 : ∀ q : Step _ _, q.w.cell? ⟨b2, j2 + 1, none⟩ = some (.int .i64 r.n) := fun q => hcb2.out q.w ⟨q, rfl⟩ 1 _ rfl) | go_big_quiet_step ((with_reducible exact Calls.reach_same (K.out _))) | quiet_step ((with_reducible exact Calls.reach_same (K.out _))))
          refine wpQuiet_nil ?_
          rintro _ ⟨q, rfl⟩
          have hqw2 := q.h
          obtain ⟨w2, hw2'⟩ : ∃ W, q.w = W := ⟨_, rfl⟩
          rw [hw2'] at hqw2 ⊢
          clear hw2' q
          have b2 := hb.trans (hqw2.mono hb.size)
          have hl2 := hl.below hqw2
          have sz2 := (K1.trans (b2.mono kw)).size
          have K2 := Lib.hid (rputO_any Am m cm l w2 (by omega) w.heap.size sz2 hl2 lo hin.1 h0.out.up)
          have hpl := @pput_len lo l
          have hll := hl.len
          clear q1 q2 qa K hl y1 bx hqw2
          obtain ⟨l2, hl2e⟩ : ∃ x, pput lo l = x := ⟨_, rfl⟩
          have h02 : Hid (Row0 l2) := Lib.hid (by rw [← hl2e]; exact h0.out.put hin.1)
          rw [hl2e] at K2 hpl
          clear hl2e
          go_upto_region 10 with (go_at_call 52; refine (K2.out).mono ?_; rintro e w3 ⟨A3, c3, rfl, hr3, hb3⟩)
          have B3 := b2.trans (hb3.mono b2.size)
          clear K2 hl2 b2 hb3
          by_cases htop : hi = 4294967295
          · have hd : (hi != 4294967295) = false := by simp [htop]
            subst htop
            go_wp2
            go_roundw
            case rel => exact ⟨j + 1, _, _, _, l2, by omega, by go_num, rfl, hr3, h02, by omega, B3⟩
            case measure => simp [intOf]; omega
          · have hd : (hi != 4294967295) = true := by simp [htop]
            have K4 := Lib.hid (rputO_any A3 l2.length c3 l2 w3 (by omega) w.heap.size (K1.trans (B3.mono kw)).size hr3 (hi + 1) (by omega) h02.out.up)
            have hpl2 := @pput_len (hi + 1) l2
            obtain ⟨l4, hl4e⟩ : ∃ x, pput (hi + 1) l2 = x := ⟨_, rfl⟩
            have h04 : Hid (Row0 l4) := Lib.hid (by rw [← hl4e]; exact h02.out.put (by omega))
            rw [hl4e] at K4 hpl2
            clear hl4e
            go_wp2_with (go_at_call 52; refine (K4.out).mono ?_; rintro e w4 ⟨A4, c4, rfl, hr4, hb4⟩)
            go_roundw
            case rel => exact ⟨j + 1, _, _, _, l4, by omega, by go_num, rfl, hr4, h04, by omega, B3.trans (hb4.mono B3.size)⟩
            case measure => simp [intOf]; omega
        · obtain rfl : j = x.n := by omega
          go_wp2_with ((with_reducible refine on_index (.tmp 18) ?_); refine wn_at rfl _ (.tmp 18) _ rfl el_row rfl rfl (by omega) (by omega) hrk.rd ?_; intro b5 j5 y hy hbB hc; have hxx : x = y := get_eq Hx.out hy.out (by omega); subst hxx)
          go_roundw
          case rel => exact ⟨k + 1, m, cm, Am, l, by omega, by go_num, rfl, hl, h0, by omega, hb⟩
          case measure => simp [intOf]; omega
    · obtain rfl : k = n := by omega
      have hle := nsize_take_le (Nd.ls ns) k
      go_wp2
      go_ret
      exact ⟨Am, m, cm, l, rfl, hl, by omega, h0.out.rng, K1.trans (hb.mono kw)⟩
end Go.Proofs.YtjandnidljbkoaaGreat
