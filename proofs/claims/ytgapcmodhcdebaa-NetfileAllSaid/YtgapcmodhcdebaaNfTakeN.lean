/-
  netfile's takers: a node, the nodes, the network.
-/
import Derived.Test.YtgapcmodhcdebaaNfTake
import Derived.Test.YtgapcmodhcdebaaNetFit
import Derived.Defers
namespace Go.Proofs.Ytgapcmodhcdebaa
open Go.RowKit Go.Th
set_option linter.unusedVariables false
set_option maxRecDepth 100000 in
set_option maxHeartbeats 4000000 in
theorem takeNode_any (A : Option Addr) (n c : Nat) (w : World) (hn : n ≤ 1000000) (bs : List UInt8) (hr : RdS bv w w.heap.size A n c bs) (ls : List Ru) (t : List UInt8) (er : Int) (h : nodeT bs = (ls, t, er)) :
    Calls Try.prog 32 #[.slice A n c] w (fun e w' => ∃ A' m c' A2 n2 c2, e = .returned (.tuple #[.slice A' m c', .slice A2 n2 c2, .int .i64 er]) ∧ OwM Ru.cs 4 w' w.heap.size 47 A' m c' ls ∧ OwS bv w' w.heap.size 5 A2 n2 c2 t ∧ Below w.heap.size w w') := by
  have hlen := hr.len
  have hle := fopen_le 84 bs
  unfold nodeT at h
  obtain ⟨fo, hfo⟩ : ∃ fo, fopen 84 bs = fo := ⟨_, rfl⟩
  rw [hfo] at h hle
  obtain ⟨x, y, eo⟩ := fo
  have K1 := Lib.hid (open_is 84 84 rfl A n c w hn bs hr x y eo hfo)
  simp only at h hle
  by_cases h1 : eo = 0
  rotate_left
  · rw [if_pos h1] at h
    obtain ⟨rfl, rfl, rfl⟩ : [] = ls ∧ [] = t ∧ eo = er := by injection h with a b; injection b with b c; exact ⟨a, b, c⟩
    have he : (eo != 0) = true := by simpa using h1
    clear h hle hfo h1
    go_enter Try.func32, Try.ntmps32
    go_wp2_with (go_at_call 57; refine (K1.out).mono ?_; rintro e w1 ⟨A1, n1, c1, A2, n2, c2, rfl, ow1, ow2, hb1⟩)
    go_ret3
    exact ⟨none, 0, 0, none, 0, 0, rfl, OwM.nil_ _ _ _, OwS.nil_ _ _ _, hb1⟩
  · subst h1
    rw [if_neg (by simp)] at h
    obtain ⟨r2, hr2⟩ : ∃ r, allT rdr 4096 x = r := ⟨_, rfl⟩
    rw [hr2] at h
    obtain ⟨ls2, e2⟩ := r2
    have Hle := Lib.hid hle
    have K2 := Lib.hid (fun W A1 n1 c1 (h : RdS bv W W.heap.size A1 n1 c1 x) => takeRules_any A1 n1 c1 W (by have := h.len; have := hle.1; omega) x h ls2 e2 hr2)
    simp only at h
    by_cases h2 : e2 = 0
    rotate_left
    · rw [if_pos h2] at h
      obtain ⟨rfl, rfl, rfl⟩ : [] = ls ∧ [] = t ∧ e2 = er := by injection h with a b; injection b with b c; exact ⟨a, b, c⟩
      have he : (e2 != 0) = true := by simpa using h2
      clear h hle hfo h2 hr2
      go_enter Try.func32, Try.ntmps32
      go_wp2_with (first
        | (go_at_call 57; refine (K1.out).mono ?_; rintro e w1 ⟨A1, n1, c1, A2, n2, c2, rfl, ow1, ow2, hb1⟩)
        | (go_at_call 58; refine (K2.out w1 A1 n1 c1 ow1.rd).mono ?_; rintro e w2 ⟨A3, n3, c3, rfl, ow3, hb2⟩))
      go_ret3
      exact ⟨none, 0, 0, none, 0, 0, rfl, OwM.nil_ _ _ _, OwS.nil_ _ _ _, hb1.trans (hb2.mono hb1.size)⟩
    · subst h2
      rw [if_neg (by simp)] at h
      obtain ⟨rfl, rfl, rfl⟩ : ls2 = ls ∧ y = t ∧ 0 = er := by injection h with a b; injection b with b c; exact ⟨a, b, c⟩
      clear h hle hfo hr2
      go_enter Try.func32, Try.ntmps32
      go_wp2_with (first
        | (go_at_call 57; refine (K1.out).mono ?_; rintro e w1 ⟨A1, n1, c1, A2, n2, c2, rfl, ow1, ow2, hb1⟩)
        | (go_at_call 58; refine (K2.out w1 A1 n1 c1 ow1.rd).mono ?_; rintro e w2 ⟨A3, n3, c3, rfl, ow3, hb2⟩))
      go_ret3
      exact ⟨A3, n3, c3, A2, n2, c2, rfl, ow3.base_le hb1.size, ow2.below hb2, hb1.trans (hb2.mono hb1.size)⟩
/-- A row of bytes, from ahead of the call or of its own. -/
def BR (w : World) (base : Nat) (A : Option Addr) (n c : Nat) (bs : List UInt8) : Prop := RdS bv w base A n c bs ∨ OwS bv w base 5 A n c bs
theorem BR.rd {w : World} {base : Nat} {A : Option Addr} {n c : Nat} {bs : List UInt8} (h : BR w base A n c bs) (hb : base ≤ w.heap.size) : RdS bv w w.heap.size A n c bs := by
  rcases h with h | h
  · exact h.more hb
  · exact h.rd
theorem BR.len {w : World} {base : Nat} {A : Option Addr} {n c : Nat} {bs : List UInt8} (h : BR w base A n c bs) : bs.length = n := by
  rcases h with h | h
  · exact h.len
  · exact h.len
theorem ty_u8row : 5 ≠ 42 := by decide
def TnRel (bs : List UInt8) (n cnt : Nat) (w : World) (b l i : Value) (wr : World) : Prop :=
  ∃ (k : Nat) (Ab : Option Addr) (nb cb : Nat) (t : List UInt8) (A : Option Addr) (c : Nat) (ns : List Nd), k ≤ cnt ∧ i = .int .i64 k ∧ b = .slice Ab nb cb ∧ l = .slice A k c ∧ BR wr w.heap.size Ab nb cb t ∧ nb ≤ n ∧ NO 42 47 wr w.heap.size A k c ns ∧ Hid (goT nodeT cnt [] bs = goT nodeT (cnt - k) (Nd.ls ns) t) ∧ Below w.heap.size w wr
set_option maxRecDepth 100000 in
set_option maxHeartbeats 4000000 in
theorem takeNodes_any (A : Option Addr) (n c : Nat) (w : World) (hn : n ≤ 1000000) (bs : List UInt8) (hr : RdS bv w w.heap.size A n c bs) (lss : List (List Ru)) (er : Int) (h : netT bs = (lss, er)) :
    Calls Try.prog 31 #[.slice A n c, .int .i64 256, .func (.func 32) #[] #[]] w (fun e w' => ∃ A' m c' ns, e = .returned (.tuple #[.slice A' m c', .int .i64 er]) ∧ NO 42 47 w' w.heap.size A' m c' ns ∧ Nd.ls ns = lss ∧ Below w.heap.size w w') := by
  have hlen := hr.len
  have hcap := hr.cap
  have hgt := gtake_any A n c w (by omega) _ bs hr
  have hwhat := gtake_what bs
  unfold netT at h
  by_cases h1 : (gtake bs).2.2 = 0
  rotate_left
  · rw [allT_err h1] at h
    obtain ⟨rfl, rfl⟩ : [] = lss ∧ (gtake bs).2.2 = er := by injection h with a b; exact ⟨a, b⟩
    obtain ⟨t3, ht3⟩ : ∃ t3, gtake bs = t3 := ⟨_, rfl⟩
    rw [ht3] at h1 hgt ⊢
    have he : (t3.2.2 != 0) = true := by simpa using h1
    have Hgt := Lib.hid hgt
    clear h hgt hwhat h1 ht3
    go_enter Try.func31, Try.ntmps31
    go_wp2_with (go_at_call 56; refine (Hgt.out).mono ?_; rintro e w1 ⟨rfl, rfl⟩)
    go_ret2
    exact ⟨none, 0, 0, [], rfl, NO.nil _ _, rfl, Below.refl _ _⟩
  · obtain ⟨cnt, used, hg, hc, hu1, hu2, hu3, _⟩ : ∃ cnt used, gtake bs = (cnt, used, 0) ∧ cnt < 268435456 ∧ 1 ≤ used ∧ used ≤ bs.length ∧ used ≤ 4 ∧ True := by
      rcases hwhat with h2 | h2 | ⟨a, b, h2, h3, h4, h5, h6, _⟩
      · rw [h2.1] at h1; cases h1
      · rw [h2] at h1; cases h1
      · exact ⟨a, b, h2, h3, h4, h5, h6, trivial⟩
    rw [hg] at hgt
    have Hgt := Lib.hid hgt
    by_cases hm : 256 < cnt
    · rw [allT_many h1 (by rw [hg]; exact hm)] at h
      obtain ⟨rfl, rfl⟩ : [] = lss ∧ 12 = er := by injection h with a b; exact ⟨a, b⟩
      have hd : decide ((256 : Int) < (cnt : Int)) = true := decide_eq_true (by omega)
      clear h hgt hwhat h1 hg
      go_enter Try.func31, Try.ntmps31
      go_wp2_with (go_at_call 56; refine (Hgt.out).mono ?_; rintro e w1 ⟨rfl, rfl⟩)
      go_ret2
      exact ⟨none, 0, 0, [], rfl, NO.nil _ _, rfl, Below.refl _ _⟩
    · rw [allT_go h1 (by rw [hg]; exact hm), hg] at h
      have H := Lib.hid h
      have hd : decide ((256 : Int) < (cnt : Int)) = false := decide_eq_false (by omega)
      have r0 := cut_l hr used (by omega)
      clear h hgt hwhat h1 hg
      go_enter Try.func31, Try.ntmps31
      go_wp2_with (first
        | (go_at_call 56; refine (Hgt.out).mono ?_; rintro e w1 ⟨rfl, rfl⟩)
        | ((with_reducible refine on_slice (.tmp 27) ?_); refine wl_cut_lx rfl _ _ el_u8 rfl hcap _ rfl rfl used (by omega) ?_))
      obtain ⟨b0, hb0⟩ : ∃ b0, bs.drop used = b0 := ⟨_, rfl⟩
      rw [hb0] at r0 H
      clear hb0
      go_loopw [0, 11, 31] (fun b l i wr => TnRel b0 n cnt w b l i wr) (fun _ _ i _ => cnt - (intOf i).toNat)
      case atStart => exact ⟨0, _, _, _, b0, none, 0, [], by omega, rfl, rfl, rfl, .inl r0, by omega, NO.nil _ _, Lib.hid rfl, Below.refl _ _⟩
      case round =>
        obtain ⟨k, Ab, nb, cb, t, A1, c1, ns, hk, rfl, rfl, rfl, rb, hnb, no, hgo, hb⟩ := hrel
        have hz := hb.size
        have htl := rb.len
        by_cases hlt : k < cnt
        · obtain ⟨x, hx⟩ : ∃ x, nodeT t = x := ⟨_, rfl⟩
          have hfx := nodeT_fit t
          have hle := nodeT_le t
          rw [hx] at hfx hle
          obtain ⟨l, t2, e2⟩ := x
          have K := Lib.hid (takeNode_any Ab nb cb wr (by omega) t (rb.rd hz) l t2 e2 hx)
          by_cases he : e2 = 0
          · subst he
            have hgo2 := hgo.out
            rw [show cnt - k = (cnt - (k + 1)) + 1 by omega, goT_go (by rw [hx]), hx] at hgo2
            have Hgo2 := Lib.hid hgo2
            have Hle := Lib.hid hle
            have Hfx := Lib.hid hfx
            clear hgo2 hgo hx hle hfx
            go_wp2_with (first
              | (go_at_call 32; refine (K.out).mono ?_; rintro e w2 ⟨Al, nl, cl, A2, n2, c2, rfl, owl, owt, hb2⟩; have no2 := no.below hb2)
              | ((with_reducible refine on_append (.tmp 43) (.tmp 45) ?_); refine wl_appendS rfl (.tmp 43) (.tmp 45) _ rfl el_row (f := sv) sv_one rfl (no2.row.alloc (.cells #[.slice Al nl cl] 42)) rfl (OwS.lit (base := w2.heap.size) (e := 42) (xs := [(⟨Al, nl, cl, l⟩ : Nd)]) w2 #[.slice Al nl cl] 1 (Nat.le_refl _) (by simp [maxLen]) rfl rfl).rd (by omega) (by omega) (by have := hb2.size; simp; omega) ?_; intro A8 c8 w8 ow8 hg8 hb8))
            have k3 := below_alloc w2 (Nat.le_refl _) (.cells #[.slice Al nl cl] 42)
            have no8 := (no2.below k3).more (x := ⟨Al, nl, cl, l⟩) ty_rows ((owl.below k3).base_le hz) (fun r hr => (Hfx.out r hr).1) hg8 ow8
            have t8 := (owt.below k3).grown hg8 (fun g hA e => (owt.below k3).ow.apart (no2.below k3).row.ow ty_u8row g hA e)
            have B3 := hb2.trans (k3.mono hb2.size)
            have B8 := (hb.trans (B3.mono hz)).trans hb8
            go_roundw
            case rel => exact ⟨k + 1, A2, n2, c2, t2, A8, c8, _, by omega, by go_num, rfl, rfl, .inr (t8.base_le hz), by have := t8.len; have h5 : t2.length ≤ t.length := Hle.out; omega, no8, Lib.hid (by rw [Hgo2.out]; simp [Nd.ls]), B8⟩
            case measure => simp [intOf]; omega
          · have hgo2 := hgo.out
            rw [H.out, show cnt - k = (cnt - (k + 1)) + 1 by omega, goT_stop (by rw [hx]; exact he), hx] at hgo2
            obtain ⟨rfl, rfl⟩ : lss = [] ∧ er = e2 := by injection hgo2 with a b; exact ⟨a, b⟩
            have he2 : (er != 0) = true := by simpa using he
            clear hgo2 hgo hx hfx H he hle
            go_wp2_with (go_at_call 32; refine (K.out).mono ?_; rintro e w2 ⟨Al, nl, cl, A2, n2, c2, rfl, owl, owt, hb2⟩)
            go_ret2
            exact ⟨none, 0, 0, [], rfl, NO.nil _ _, rfl, hb.trans (hb2.mono hz)⟩
        · obtain rfl : k = cnt := by omega
          have hgo2 := hgo.out
          rw [H.out, Nat.sub_self] at hgo2
          by_cases ht : t = []
          · subst ht
            rw [goT_end] at hgo2
            obtain ⟨rfl, rfl⟩ : lss = Nd.ls ns ∧ er = 0 := by injection hgo2 with a b; exact ⟨a, b⟩
            have hnb0 : nb = 0 := by simpa using htl.symm
            subst hnb0
            clear hgo2 hgo H
            go_wp2
            go_ret2
            exact ⟨A1, _, c1, ns, rfl, no, rfl, hb⟩
          · rw [goT_more ht] at hgo2
            obtain ⟨rfl, rfl⟩ : lss = [] ∧ er = 4 := by injection hgo2 with a b; exact ⟨a, b⟩
            have hnb0 : 0 < nb := by rw [← htl]; exact List.length_pos_iff.2 ht
            have hd2 : decide ((0 : Int) < (nb : Int)) = true := decide_eq_true (by omega)
            clear hgo2 hgo H
            go_wp2
            go_ret2
            exact ⟨none, 0, 0, [], rfl, NO.nil _ _, rfl, hb⟩
end Go.Proofs.Ytgapcmodhcdebaa
