/-
  theseuslaw10.NetfileAll: the walk.
-/
import Derived.Test.YtgapcmodhcdebaaNfFew
import Derived.Test.YtgapcmodhcdebaaNfRefTake
import Derived.Test.YtgapcmodhcdebaaNfShown
import Derived.Test.YtgapcmodhcdebaaNetSame
import Derived.Test.YtgapcmodhcdebaaOpenNet
namespace Go.Proofs.Ytgapcmodhcdebaa
open Go.RowKit Go.Th
set_option linter.unusedVariables false
theorem ntk_bd (bs : List UInt8) : (ntk bs).1.length ≤ 256 ∧ ∀ l ∈ (ntk bs).1, l.length ≤ 4096 := by
  have z : ∀ l ∈ ([] : List (List Ru)), l.length ≤ 4096 := by simp
  unfold ntk
  split
  · exact ⟨by simp, z⟩
  · unfold inT
    split
    · exact ⟨by simp, z⟩
    · split
      · exact ⟨by simp, z⟩
      · exact ⟨(netT_bd _).1, allT_all (P := fun l : List Ru => l.length ≤ 4096) nodeT_len 256 _⟩
theorem few_size {w : World} {B n c : Nat} {A : Option Addr} {ns : List Nd} (h : NRd w B A n c ns) (hn : n ≤ 8) (hs : ∀ x ∈ ns, x.n ≤ 20) : nsize (Nd.ls ns) ≤ 160 := by
  have h1 : ∀ l ∈ Nd.ls ns, l.length ≤ 20 := fun l hl => by
    obtain ⟨x, hx, rfl⟩ := List.mem_map.1 hl
    rw [(h.rk x hx).len]
    exact hs x hx
  have h2 := nsize_le h1
  rw [Nd.ls_len, h.rd.len] at h2
  omega
theorem take_small {w : World} {B n c : Nat} {A : Option Addr} {ns : List Nd} {bs : List UInt8} (h : NRd w B A n c ns) (e : Nd.ls ns = (ntk bs).1) : n ≤ 1000000 ∧ ∀ x ∈ ns, x.n ≤ 1000000 := by
  obtain ⟨h1, h2⟩ := ntk_bd bs
  rw [← e] at h1 h2
  rw [Nd.ls_len, h.rd.len] at h1
  refine ⟨by omega, fun x hx => ?_⟩
  have := h2 x.l (List.mem_map.2 ⟨x, hx, rfl⟩)
  have := (h.rk x hx).len
  omega
def NaRel (w5 : World) (s i : Value) (wr : World) : Prop :=
  ∃ (k : Nat) (A : Option Addr) (n c : Nat) (xs : List UInt8), k ≤ 2 ∧ i = .int .i64 k ∧ s = .slice A n c ∧ n ≤ 1000 ∧ RdS bv wr wr.heap.size A n c xs ∧ Below w5.heap.size w5 wr
set_option maxRecDepth 100000 in
set_option maxHeartbeats 4000000 in
theorem netfileAll_walk {w : World} (A : Option Addr) (n c : Nat) (ns : List Nd) (ni : NetIn w A n c ns) (Ab : Option Addr) (nb cb : Nat) (bs : List UInt8) (hr : RdS bv w w.heap.size Ab nb cb bs) (hnb : nb ≤ 9223372036854775807) :
    Calls Try.prog 3 #[.agg #[.slice A n c], .slice Ab nb cb] w fun e w' => e = .returned (.bool true) ∧ Below w.heap.size w w' := by
  obtain ⟨P, pe, hP⟩ : ∃ P pe, nputT (nfew (Nd.ls ns)) = (P, pe) := ⟨_, _, rfl⟩
  have HP := Lib.hid hP
  clear hP
  have k0 := below_alloc w (Nat.le_refl _) (.cells #[.slice A n c] 24)
  have b0 := Box.new w #[.slice A n c] 24
  have K1 := Lib.hid (fun w1 (h : Below w.heap.size w w1) => few_any A n c ns w1 ni.n ni.each (ni.rd.step h).heap)
  clear ni
  go_enter Try.func3, Try.ntmps3
  go_upto_region 2 with (go_at_call 10; refine (shown10 _).mono ?_; rintro e w1 ⟨rfl, hb1⟩; have bx1 := b0.step hb1)
  have B1 := k0.trans (hb1.mono k0.size)
  clear k0 b0 hb1
  go_upto_region 3 with (first
    | ((with_reducible refine on_load (.tmp 2) ?_); refine wb_load rfl _ (.tmp 2) rfl st_net rfl bx1 rfl ?_)
    | (go_at_call 12; refine (K1.out w1 B1).mono ?_; rintro e w2 ⟨A2, n2, c2, ns2, rfl, hr2, hn2, hs2, hl2, hb2⟩; have bx2 := bx1.step hb2)
    | (go_at_call 11; refine (netput_all A2 n2 c2 ns2 w2 (by omega) (by have := few_size hr2 hn2 hs2; omega) _ hr2 P pe (Lib.hid (by rw [hl2]; exact HP.out))).mono ?_; rintro e w3 ⟨A3, n3, c3, rfl, ow3, hb3⟩; have bx3 := bx2.step hb3))
  have B3 := (B1.trans (hb2.mono B1.size)).trans (hb3.mono (by have := B1.size; have := hb2.size; omega))
  clear bx1 bx2 hr2 hs2 hl2 hb2 hb3 hn2 B1
  go_upto_region 4 with (first
    | ((with_reducible refine on_load (.tmp 2) ?_); refine wb_load rfl _ (.tmp 2) rfl st_net rfl bx3 rfl ?_)
    | (go_at_call 12; refine (K1.out w3 B3).mono ?_; rintro e w4 ⟨A4, n4, c4, ns4, rfl, hr4, hn4, hs4, hl4, hb4⟩)
    | (go_at_call 13; refine (rnetput_any A4 n4 c4 ns4 w4 (by omega) (by have := few_size hr4 hn4 hs4; omega) _ hr4 P pe (Lib.hid (by rw [hl4]; exact HP.out))).mono ?_; rintro e w5 ⟨A5, n5, c5, rfl, ow5, hb5⟩))
  have b35 := hb4.trans (hb5.mono hb4.size)
  have B5 := B3.trans (b35.mono B3.size)
  have ow3 := ow3.below b35
  have hr5 := hr.step B5
  clear bx3 hr4 hs4 hl4 hb4 hb5 hn4 b35 K1 B3 hr
  go_upto_region 5 with (go_at_call 14; refine (few10 Ab nb cb w5 hnb _ bs hr5).mono ?_; rintro e w6 ⟨A6, c6, m6, rfl, hm6, r6, rfl⟩)
  go_wp2_with fail
  go_loopw [10, 11] (fun s i wr => NaRel w5 s i wr) (fun _ i _ => 2 - (intOf i).toNat)
  case atStart => exact ⟨0, _, _, _, _, by omega, rfl, rfl, by omega, r6.heap, Below.refl _ _⟩
  case round =>
    obtain ⟨k, A7, n7, c7, xs, hk, hi, hs, hn7, hr7, hb⟩ := hrel
    subst hi hs
    have ow3 := ow3.below hb
    have ow5 := ow5.below hb
    have hrw := hr5.step hb
    have Bw := B5.trans (hb.mono B5.size)
    by_cases hlt : k < 2
    · obtain ⟨t, ht⟩ : ∃ t, ntk xs = t := ⟨_, rfl⟩
      have Ht := Lib.hid ht
      clear ht
      go_upto_region 9 with (first
        | (go_at_call 15; refine (nettake_any A7 n7 c7 wr (by omega) xs hr7 t Ht).mono ?_; rintro e w8 ⟨A8, n8, c8, ns8, rfl, h8, e8, hb8⟩)
        | ((with_reducible refine on_alloc ?_); refine wl_newBox rfl _ rfl z_net ?_; intro g9 w9 hg9 hl9 b9 hb9)
        | ((with_reducible refine on_store_at (.tmp 12) ?_); refine wb_store (cs := #[.slice none 0 0]) (cs' := #[.slice A8 n8 c8]) rfl _ (.tmp 12) _ rfl st_net rfl rfl b9 rfl rfl (by simp [Value.oneCell']) ?_; intro w10 b10 hg10))
      have b8 : Below w8.heap.size w8 w10 := hb9.trans (below_of_grown hg10 (fun j e => by injection e with e; omega) hb9.size)
      have h10 := (h8.step b8).heap
      have B10 := hb8.trans (b8.mono hb8.size)
      have K2 := Lib.hid (rnettake_any A7 n7 c7 w10 (by omega) xs (hr7.step B10).heap t Ht)
      clear h8 b8 hb8 hb9 hg9 hl9 b9 hg10
      go_upto_region 10 with (first
        | (go_at_call 16; refine (K2.out).mono ?_; rintro e w11 ⟨A11, n11, c11, ns11, rfl, h11, e11, hb11⟩)
        | ((with_reducible refine on_alloc ?_); refine wl_newBox rfl _ rfl z_net ?_; intro g12 w12 hg12 hl12 b12 hb12)
        | ((with_reducible refine on_store_at (.tmp 14) ?_); refine wb_store (cs := #[.slice none 0 0]) (cs' := #[.slice A11 n11 c11]) rfl _ (.tmp 14) _ rfl st_net rfl rfl b12 rfl rfl (by simp [Value.oneCell']) ?_; intro w13 b13 hg13))
      have b8 : Below w11.heap.size w11 w13 := hb12.trans (below_of_grown hg13 (fun j e => by injection e with e; omega) hb12.size)
      have h13 := (h11.step b8).heap
      have b10 := (b10.step hb11).step b8
      have h10 := (h10.step hb11).step b8
      have B13 := B10.trans ((hb11.trans (b8.mono hb11.size)).mono B10.size)
      obtain ⟨s1, s2⟩ := take_small h10 (bs := xs) (by rw [Ht.out]; exact e8)
      obtain ⟨s3, s4⟩ := take_small h13 (bs := xs) (by rw [Ht.out]; exact e11)
      have K3 := Lib.hid (rsame9_any A8 n8 c8 ns8 A11 n11 c11 ns11 w13 s1 s3 _ _ h10 h13 s2 s4 true (Lib.hid (decide_eq_true (e8.trans e11.symm))))
      clear K2 h11 b8 hb11 hb12 hg12 hl12 b12 hg13 B10
      go_upto_region 12 with (first
        | ((with_reducible refine on_load (.tmp 12) ?_); refine wb_load rfl _ (.tmp 12) rfl st_net rfl b10 rfl ?_)
        | ((with_reducible refine on_load (.tmp 14) ?_); refine wb_load rfl _ (.tmp 14) rfl st_net rfl b13 rfl ?_)
        | (go_at_call 17; refine (K3.out).mono ?_; rintro e w14 ⟨rfl, hb14⟩))
      have B14 := B13.trans (hb14.mono B13.size)
      have hr14 := hrw.step B14
      clear K3 h10 h13 b10 b13 s1 s2 s3 s4 hb14 B13
      go_wp2_with (first
        | (go_at_call 14; refine (few10 Ab nb cb w14 hnb _ bs hr14).mono ?_; rintro e w15 ⟨A15, c15, m15, rfl, hm15, r15, rfl⟩)
        | (go_at_call 18; refine (fput_any 1179206193 (by omega) 1179206193 rfl _ _ _ w14 (by omega) _ r15.heap).mono ?_; rintro e w16 ⟨A16, n16, c16, rfl, ow16, hb16⟩; have e16 := ow16.len))
      go_roundw
      case rel => exact ⟨k + 1, A16, n16, c16, _, by omega, by go_num, rfl, by rw [fput_length, List.length_take] at e16; omega, ow16.rd, hb.trans ((B14.trans (hb16.mono B14.size)).mono hb.size)⟩
      case measure => simp [intOf]; omega
    · obtain rfl : k = 2 := by omega
      go_wp2_with (first
        | ((with_reducible refine on_convert (.tmp 59) ?_); refine wl_strS rfl _ _ _ rfl el_u8 Try.underlying5 Try.underlying9 rfl ow3.rd ?_)
        | ((with_reducible refine on_convert (.tmp 61) ?_); refine wl_strS rfl _ _ _ rfl el_u8 Try.underlying5 Try.underlying9 rfl ow5.rd ?_))
      go_ret
      exact ⟨rfl, Bw⟩
end Go.Proofs.Ytgapcmodhcdebaa
