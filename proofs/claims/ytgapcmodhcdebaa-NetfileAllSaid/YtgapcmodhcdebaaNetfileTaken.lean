/-
  theseuslaw10.NetfileTaken: the walk.
-/
import Derived.Test.YtgapcmodhcdebaaNfShown
import Derived.Deep.DeepCutAuto
namespace Go.Proofs.Ytgapcmodhcdebaa
open Go.RowKit Go.Th
set_option linter.unusedVariables false
theorem NRd.of_ls {w : World} {B : Nat} {A : Option Addr} {n c : Nat} {ns : List Nd} (h : NRd w B A n c ns) {P : Ru → Prop} (hp : ∀ l ∈ Nd.ls ns, ∀ r ∈ l, P r) : ∀ x ∈ ns, ∀ r ∈ x.l, P r := fun x hx r hr => hp x.l (List.mem_map.2 ⟨x, hx, rfl⟩) r hr
set_option maxRecDepth 100000 in
set_option maxHeartbeats 4000000 in
theorem netfileTaken_walk (A : Option Addr) (n c : Nat) (bs : List UInt8) {w : World} (hr : RdS bv w w.heap.size A n c bs) (hm : n ≤ 9223372036854775807) :
    Calls Try.prog 5 #[.slice A n c] w fun e w' => e = .returned (.bool true) ∧ Below w.heap.size w w' := by
  obtain ⟨wa, hwa⟩ : ∃ wa, bs.take 400 = wa := ⟨_, rfl⟩
  have hwl : wa.length ≤ 400 := by rw [← hwa, List.length_take]; omega
  have hfl := fput_length 1179206193 wa
  obtain ⟨fb, hfb⟩ : ∃ fb, fput 1179206193 wa = fb := ⟨_, rfl⟩
  rw [hfb] at hfl
  obtain ⟨t, ht⟩ : ∃ t, inT wa = t := ⟨_, rfl⟩
  have heg := eg_inT wa
  have herr := inT_err wa
  have hback := @inT_back wa
  rw [ht] at heg herr hback
  obtain ⟨lss, er⟩ := t
  have htk : Hid (ntk fb = (lss, er)) := Lib.hid (by rw [← hfb, ntk_fput, ht])
  have hback : er = 0 → NOk lss ∧ nbody lss = wa := hback
  have herr : er ≠ 0 → lss = [] := herr
  have Heg := Lib.hid heg
  have Herr := Lib.hid herr
  have Hback := Lib.hid hback
  have Hwa := Lib.hid hwa
  have Hfb := Lib.hid hfb
  clear heg herr hback hwa hfb ht
  go_enter Try.func5, Try.ntmps5
  go_upto_region 4 with (first
    | (go_at_call 10; refine (shown10 _).mono ?_; rintro e w1 ⟨rfl, hb1⟩; have hr1 := (hr.step hb1).heap)
    | (go_at_call 14; refine (few10 A n c w1 hm _ bs hr1).mono ?_; rintro e w2 ⟨A2, c2, n2, rfl, hn2, hr2, rfl⟩; rw [Hwa.out] at hr2)
    | (go_at_call 18; refine (fput_any 1179206193 (by omega) 1179206193 rfl A2 n2 c2 _ (by omega) wa hr2).mono ?_; rintro e w3 ⟨A3, n3, c3, rfl, ow3, hb3⟩; rw [Hfb.out] at ow3)
    | (go_at_call 15; refine (nettake_is A3 n3 c3 _ (by have := ow3.len; omega) fb ow3.rd lss er htk).mono ?_; rintro e w4 ⟨An, nn, cn, ns, rfl, hp4, hks, hb4⟩)
    | ((with_reducible refine on_alloc ?_); refine wl_newBox rfl _ rfl z_net ?_; intro g w5 hg5 hl5 bg hb5)
    | ((with_reducible refine on_store_at (.tmp 5) ?_); refine wb_store (cs := #[.slice none 0 0]) (cs' := #[.slice An nn cn]) rfl _ (.tmp 5) _ rfl st_net rfl rfl bg rfl rfl (by simp [Value.oneCell']) ?_; intro w6 bx6 hg6))
  have bd6 : Below w4.heap.size w4 w6 := hb5.trans (below_of_grown hg6 (fun j e => by injection e with e; omega) hb5.size)
  have hp6 := (hp4.step bd6).heap
  have K : Below w.heap.size w w6 := by
    have a := hb1.trans (hb3.mono hb1.size)
    have b := a.trans (hb4.mono a.size)
    exact b.trans (bd6.mono b.size)
  have ow6 := (ow3.below hb4).below bd6
  have y6 : w6.cell? ⟨g, 0, none⟩ = some (.slice An nn cn) := bx6.cell 0
  clear hr hr1 hr2 hb1 hb3 hb4 hb5 hg6 hp4 bg bd6 ow3
  by_cases he : er = 0
  · subst he
    obtain ⟨h1, h2⟩ := Hback.out rfl
    subst hks
    have hsz := (nmay_zero.1 h1.may)
    have hnn : nn ≤ 1000 := by have := hp6.len; have := hsz.1; rw [Nd.ls_len] at this; omega
    have K1 := Lib.hid (netput_any An nn cn ns w6 _ hp6 h1.may (NRd.of_ls hp6 (nmay_rfit h1.may h1.ok)) fb (by rw [h2]; exact Hfb.out))
    have K2 := Lib.hid (fun w7 (hb7 : Below w6.heap.size w6 w7) => netmay_any An nn cn ns w7 (by omega) (by have := hsz.2.1; omega) _ (hp6.step hb7) 0 h1.may)
    clear h1 h2 hsz Hback Heg Herr
    go_wp2_with (first
      | (go_at_call 11; refine (K1.out).mono ?_; rintro e w7 ⟨A7, n7, c7, rfl, ow7, hb7⟩; have bx7 := bx6.step hb7; have ow8 := ow6.below hb7)
      | (go_at_call 20; refine (K2.out _ hb7).mono ?_; rintro e w8 ⟨rfl, hb8⟩)
      | ((with_reducible refine on_load (.tmp 5) ?_); first | (refine wb_load rfl _ (.tmp 5) rfl st_net rfl bx6 rfl ?_) | (refine wb_load rfl _ (.tmp 5) rfl st_net rfl bx7 rfl ?_))
      | ((with_reducible refine on_convert (.tmp 46) ?_); refine wl_strS rfl _ _ _ rfl el_u8 Try.underlying5 Try.underlying9 rfl ow7.rd ?_)
      | ((with_reducible refine on_convert (.tmp 48) ?_); refine wl_strS rfl _ _ _ rfl el_u8 Try.underlying5 Try.underlying9 rfl ow8.rd ?_))
    go_ret
    have a := K.trans (hb7.mono K.size)
    exact ⟨rfl, a.trans (hb8.mono a.size)⟩
  · obtain ⟨g5, g6⟩ := Heg.out
    have hz := Herr.out he
    subst hz
    have hnn : nn = 0 := by have := hp6.len; have h2 := Nd.ls_len ns; rw [hks] at h2; simp at h2; omega
    subst hnn
    have q0 : (er != 0) = true := by simpa using he
    have q5 : (er != 5) = true := by simpa using g5
    have q6 : (er != 6) = true := by simpa using g6
    clear hks Hback Heg Herr g5 g6 he
    go_wp2
    go_ret
    exact ⟨rfl, K⟩
end Go.Proofs.Ytgapcmodhcdebaa
