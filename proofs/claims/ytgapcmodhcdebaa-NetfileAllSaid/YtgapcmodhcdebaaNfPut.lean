/-
  netfile.Put of a network that may be.
-/
import Derived.Test.YtgapcmodhcdebaaNfPlain
import Derived.Test.YtgapcmodhcdebaaNetMay
import Derived.Test.YtgapcmodhcdebaaNfMe
namespace Go.Proofs.Ytgapcmodhcdebaa
open Go.RowKit Go.Th
set_option linter.unusedVariables false
theorem z_rule : (Try.prog.info? 47).map (fun i => (i.zero.map Value.cells, i.size)) = some (some Ru.zero.cs.toArray, 4) := by kernel_rfl
/-- A rule that has bytes. -/
def RFit (r : Ru) : Prop := r.Ok ∧ ∀ j, j < 4 → Fit1 r j
def PrRel (l : List Ru) (n : Nat) (w : World) (all i : Value) (wr : World) : Prop :=
  ∃ (k m c : Nat) (A : Option Addr), k ≤ n ∧ i = .int .i64 k ∧ all = .slice A m c ∧ OwS bv wr w.heap.size 5 A m c (gput n ++ lrows (l.take k)) ∧ Below w.heap.size w wr
set_option maxRecDepth 100000 in
set_option maxHeartbeats 4000000 in
theorem putRules_any (A : Option Addr) (n c : Nat) (l : List Ru) (w : World) (hn : n ≤ 100000) (B : Nat) (hr : RdM Ru.cs w B A n c l) (hf : ∀ r ∈ l, RFit r) (bs : List UInt8) (hbs : lbody l = bs) :
    Calls Try.prog 46 #[.slice A n c, .func (.func 22) #[] #[]] w (RetBytes bs 0 w) := by
  have hlen := hr.len
  have Hf := Lib.hid hf
  have Hbs := Lib.hid hbs
  clear hf hbs
  go_enter Try.func46, Try.ntmps46
  go_wp2_with (go_at_call 21; refine (gput_natF n (by omega) w).mono ?_; rintro e w1 ⟨A1, c1, rfl, ow1, hb1⟩)
  go_loopw [6, 23] (fun all i wr => PrRel l n w all i wr) (fun _ i _ => n - (intOf i).toNat)
  case atStart => exact ⟨0, _, c1, A1, by omega, rfl, rfl, by simpa [lrows] using ow1, hb1⟩
  case round =>
    obtain ⟨k, m, c2, A2, hk, rfl, rfl, ow, hb⟩ := hrel
    have hrk := hr.step hb
    have hml := ow.len
    have hm2 : m ≤ 900000 := by
      have h1 := lrows_length (l.take k)
      have h2 : (l.take k).length ≤ n := by rw [List.length_take]; omega
      have h3 := gsize_pos n
      rw [List.length_append, gput_length] at hml
      omega
    have hz := hb.size
    clear hml hb1 ow1
    by_cases hlt : k < n
    · obtain ⟨r, hrk0⟩ : ∃ r, l[k]? = some r := ⟨l[k]'(by omega), List.getElem?_eq_getElem _⟩
      obtain ⟨hok, hfi⟩ := Hf.out r (List.mem_of_getElem? hrk0)
      have htk := lrows_take hrk0
      have Hput := Lib.hid (fun W => put_fits r hok.a hfi (pre r 4) rfl W)
      have Htk := Lib.hid htk
      have Hrk := Lib.hid hrk0
      clear htk hrk0 hfi hok
      go_wp2_with (first
        | ((with_reducible refine on_index (.tmp 21) ?_); refine wm_at Ru.cs_length rfl _ (.tmp 21) _ rfl el_rule rfl rfl (by omega) (by omega) hrk ?_; intro b1 j1 r1 hr1 hb1 hc1; have hxx : r = r1 := (by have e := hr1.out; rw [Int.toNat_natCast, Hrk.out] at e; injection e); subst hxx)
        | ((with_reducible refine on_load (.tmp 25) ?_); refine wr_load rfl _ _ rfl st_rule rfl hc1 ?_)
        | ((with_reducible refine on_load (.tmp 9) ?_); refine wr_box rfl _ _ rfl st_rule rfl b4 ?_)
        | ((with_reducible refine on_alloc ?_); refine wl_newBox rfl _ rfl z_rule ?_; intro g3 w3 hg3 hl3 b3 hb3)
        | ((with_reducible refine on_store_at (.tmp 9) ?_); refine wr_store (r := Ru.zero) (s := r) rfl _ (.tmp 9) _ rfl st_rule rfl rfl b3 ?_; intro w4 b4 hg4; have B4 : Below wr.heap.size wr w4 := hb3.trans (below_of_grown hg4 (fun j e => by injection e with e; omega) hb3.size))
        | (go_at_call 22; refine (Hput.out w4).mono ?_; rintro e w5 ⟨A5, c5, rfl, ow5, hb5⟩; have ow4 := (ow.below B4).below hb5)
        | ((with_reducible refine on_append (.tmp 36) (.tmp 37) ?_); refine wl_appendS rfl (.tmp 36) (.tmp 37) _ rfl el_u8 (f := bv) (fun _ => rfl) rfl ow4 rfl ow5.rd (by omega) (by omega) (by have := B4.size; have := hb5.size; omega) ?_; intro A6 c6 w6 ow6 hg6 hb6))
      go_roundw
      case rel => exact ⟨k + 1, _, c6, A6, by omega, by go_num, rfl, by rw [Htk.out, ← List.append_assoc]; exact ow6, (hb.trans ((B4.trans (hb5.mono B4.size)).mono hz)).trans hb6⟩
      case measure => simp [intOf]; omega
    · obtain rfl : k = n := by omega
      go_wp2
      go_ret2
      refine ⟨A2, m, c2, rfl, ?_, hb⟩
      rw [List.take_of_length_le (by omega)] at ow
      rw [← Hbs.out]
      unfold lbody
      rw [hlen]
      exact ow
set_option maxRecDepth 100000 in
set_option maxHeartbeats 4000000 in
theorem putNode_any (A : Option Addr) (n c : Nat) (l : List Ru) (w : World) (hn : n ≤ 100000) (B : Nat) (hr : RdM Ru.cs w B A n c l) (hf : ∀ r ∈ l, RFit r) (bs : List UInt8) (hbs : fsec 84 (lbody l) = bs) :
    Calls Try.prog 25 #[.slice A n c] w (RetBytes bs 0 w) := by
  have hll : (lbody l).length ≤ 900000 := by have := lbody_length l; have := gsize_pos l.length; have := hr.len; omega
  obtain ⟨lb, hlb⟩ : ∃ b, lbody l = b := ⟨_, rfl⟩
  rw [hlb] at hbs hll
  have K := Lib.hid (putRules_any A n c l w hn B hr hf lb hlb)
  have Hll := Lib.hid hll
  clear hlb hf hll
  go_enter Try.func25, Try.ntmps25
  go_wp2_with (first
    | (go_at_call 46; refine (K.out).mono ?_; rintro e w1 ⟨A1, n1, c1, rfl, ow1, hb1⟩)
    | (go_at_call 23; refine (sec_any 84 84 rfl A1 n1 c1 w1 (by have := ow1.len; have := Hll.out; omega) _ lb ow1.rd (Nat.le_refl _)).mono ?_; rintro e w2 ⟨A2, n2, c2, rfl, ow2, hb2⟩))
  go_ret2
  rw [hbs] at ow2
  exact ⟨A2, n2, c2, rfl, ow2.base_le hb1.size, hb1.trans (hb2.mono hb1.size)⟩
def PnRel (ns : List Nd) (n : Nat) (w : World) (all i : Value) (wr : World) : Prop :=
  ∃ (k m c : Nat) (A : Option Addr), k ≤ n ∧ i = .int .i64 k ∧ all = .slice A m c ∧ OwS bv wr w.heap.size 5 A m c (gput n ++ nrows ((Nd.ls ns).take k)) ∧ Below w.heap.size w wr
theorem nsize_drop_le (ns : List (List Ru)) (k : Nat) : nsize (ns.take k) ≤ nsize ns := nsize_take_le ns k
set_option maxRecDepth 100000 in
set_option maxHeartbeats 4000000 in
theorem putNodes_any (A : Option Addr) (n c : Nat) (ns : List Nd) (w : World) (hn : n ≤ 256) (hs : nsize (Nd.ls ns) ≤ 4096) (B : Nat) (hr : NRd w B A n c ns) (hf : ∀ x ∈ ns, ∀ r ∈ x.l, RFit r) (bs : List UInt8) (hbs : nbody (Nd.ls ns) = bs) :
    Calls Try.prog 24 #[.slice A n c, .func (.func 25) #[] #[]] w (RetBytes bs 0 w) := by
  have hlen := hr.len
  have Hf := Lib.hid hf
  have Hbs := Lib.hid hbs
  clear hf hbs
  go_enter Try.func24, Try.ntmps24
  go_wp2_with (go_at_call 21; refine (gput_natF n (by omega) w).mono ?_; rintro e w1 ⟨A1, c1, rfl, ow1, hb1⟩)
  go_loopw [6, 23] (fun all i wr => PnRel ns n w all i wr) (fun _ i _ => n - (intOf i).toNat)
  case atStart => exact ⟨0, _, c1, A1, by omega, rfl, rfl, by simpa [nrows] using ow1, hb1⟩
  case round =>
    obtain ⟨k, m, c2, A2, hk, rfl, rfl, ow, hb⟩ := hrel
    have hrk := hr.step hb
    have hml := ow.len
    have hm2 : m ≤ 100000 := by
      have h1 := nrows_le ((Nd.ls ns).take k) (fun l hl => by have := len_le_nsize (List.mem_of_mem_take hl); omega)
      have h2 : ((Nd.ls ns).take k).length ≤ n := by rw [List.length_take, Nd.ls_len]; omega
      have h3 := gsize_pos n
      have h4 := nsize_take_le (Nd.ls ns) k
      rw [List.length_append, gput_length] at hml
      omega
    have hz := hb.size
    clear hml hb1 ow1
    by_cases hlt : k < n
    · obtain ⟨x, hx⟩ : ∃ x, ns[k]? = some x := ⟨ns[k]'(by omega), List.getElem?_eq_getElem _⟩
      have hxm := List.mem_of_getElem? hx
      have htk := nrows_take (Nd.ls_get hx)
      have hxr := hrk.rk x hxm
      have hxl := hxr.len
      have hxs : x.l.length ≤ nsize (Nd.ls ns) := len_le_nsize (List.mem_map.2 ⟨x, hxm, rfl⟩)
      have hsl : (fsec 84 (lbody x.l)).length ≤ 900000 := by have := fsec_length 84 (lbody x.l); have := lbody_length x.l; have := gsize_pos x.l.length; have := gsize_pos (lbody x.l).length; omega
      obtain ⟨sb, hsb⟩ : ∃ b, fsec 84 (lbody x.l) = b := ⟨_, rfl⟩
      rw [hsb] at htk hsl
      have Hput := Lib.hid (putNode_any x.A x.n x.c x.l wr (by omega) B hxr (Hf.out x hxm) sb hsb)
      have Htk := Lib.hid htk
      have Hrk := Lib.hid hx
      have Hsl := Lib.hid hsl
      clear htk hx hxr hsb hxm hxl hxs hsl
      go_wp2_with (first
        | ((with_reducible refine on_index (.tmp 21) ?_); refine wn_at rfl _ (.tmp 21) _ rfl el_row rfl rfl (by omega) (by omega) hrk.rd ?_; intro b1 j1 r1 hr1 hb1 hc1; have hxx : x = r1 := (by have e := hr1.out; rw [Int.toNat_natCast, Hrk.out] at e; injection e); subst hxx)
        | (go_at_call 25; refine (Hput.out).mono ?_; rintro e w5 ⟨A5, n5, c5, rfl, ow5, hb5⟩; have ow4 := ow.below hb5; have hl5 := ow5.len)
        | ((with_reducible refine on_append (.tmp 36) (.tmp 37) ?_); refine wl_appendS rfl (.tmp 36) (.tmp 37) _ rfl el_u8 (f := bv) (fun _ => rfl) rfl ow4 rfl ow5.rd (by have := Hsl.out; omega) (by omega) (by have := hb5.size; omega) ?_; intro A6 c6 w6 ow6 hg6 hb6))
      go_roundw
      case rel => exact ⟨k + 1, _, c6, A6, by omega, by go_num, rfl, by rw [Htk.out, ← List.append_assoc]; exact ow6, (hb.trans (hb5.mono hz)).trans hb6⟩
      case measure => simp [intOf]; omega
    · obtain rfl : k = n := by omega
      go_wp2
      go_ret2
      refine ⟨A2, m, c2, rfl, ?_, hb⟩
      rw [List.take_of_length_le (by rw [Nd.ls_len]; omega)] at ow
      rw [← Hbs.out]
      unfold nbody
      rw [Nd.ls_len, hlen]
      exact ow
/-- Put of a network that may be. -/
theorem netput_any (A : Option Addr) (n c : Nat) (ns : List Nd) (w : World) (B : Nat) (hr : NRd w B A n c ns) (hm : nmay (Nd.ls ns) = 0) (hf : ∀ x ∈ ns, ∀ r ∈ x.l, RFit r) (bs : List UInt8) (hbs : fput 1179206193 (nbody (Nd.ls ns)) = bs) :
    Calls Try.prog 11 #[.agg #[.slice A n c]] w (RetBytes bs 0 w) := by
  have hlen := hr.len
  obtain ⟨h1, h2, _⟩ := nmay_zero.1 hm
  rw [Nd.ls_len, hlen] at h1
  obtain ⟨nb, hnb⟩ : ∃ b, nbody (Nd.ls ns) = b := ⟨_, rfl⟩
  have hl : nb.length ≤ 100000 := by
    have h3 := nrows_le (Nd.ls ns) (fun l hl => by have := len_le_nsize hl; omega)
    have h4 := gsize_pos (Nd.ls ns).length
    rw [← hnb]
    unfold nbody
    rw [List.length_append, gput_length]
    rw [Nd.ls_len] at h3 h4 ⊢
    omega
  rw [hnb] at hbs
  have k0 := below_alloc w (Nat.le_refl _) (.cells #[.slice A n c] 24)
  have b0 := Box.new w #[.slice A n c] 24
  have hr0 := hr.step k0
  have K1 := Lib.hid (netmay_any A n c ns _ (by omega) (by omega) B hr0 0 hm)
  have K2 := Lib.hid (fun W (h : Below (w.alloc (.cells #[.slice A n c] 24)).heap.size (w.alloc (.cells #[.slice A n c] 24)) W) => putNodes_any A n c ns W h1 h2 B (hr0.step h) hf nb hnb)
  have Hl := Lib.hid hl
  clear hm hf hnb hl
  go_enter Try.func11, Try.ntmps11
  go_wp2_with (first
    | ((with_reducible refine on_load (.tmp 1) ?_); refine wb_load rfl _ (.tmp 1) rfl st_net rfl b0 rfl ?_)
    | (go_at_call 20; refine (K1.out).mono ?_; rintro e w1 ⟨rfl, hb1⟩; have b1 := b0.step hb1; have y1 : w1.cell? ⟨w.heap.size, 0, none⟩ = some (.slice A n c) := b1.cell 0)
    | (go_at_call 24; refine (K2.out _ hb1).mono ?_; rintro e w2 ⟨A2, n2, c2, rfl, ow2, hb2⟩)
    | (go_at_call 18; refine (fput_any 1179206193 (by omega) 1179206193 rfl A2 n2 c2 w2 (by have := ow2.len; have := Hl.out; omega) nb ow2.rd).mono ?_; rw [hbs]; rintro e w3 ⟨A3, n3, c3, rfl, ow3, hb3⟩))
  go_ret2
  have a := k0.trans (hb1.mono k0.size)
  have b := a.trans (hb2.mono a.size)
  exact ⟨A3, n3, c3, rfl, ow3.base_le b.size, b.trans (hb3.mono b.size)⟩
end Go.Proofs.Ytgapcmodhcdebaa
