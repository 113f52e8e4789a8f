/-
  theseuslaw18.CertfileTaken: the walk.
-/
import Derived.Test.YtjambnlocjjjpaaCfShown
import Derived.Test.YtjambnlocjjjpaaCfErr
import Derived.Deep.DeepCutAuto
namespace Go.Proofs.Ytjambnlocjjjpaa
open Go.RowKit Go.Th
set_option linter.unusedVariables false
theorem ftk_fput (bs : List UInt8) : ftk (fput 1129468977 bs) = ctake bs := by
  unfold ftk
  rw [ftake_fput]
  simp
theorem cftake_is (A : Option Addr) (n c : Nat) (w : World) (hn : n ≤ 1000000) (bs : List UInt8) (hr : RdS bv w w.heap.size A n c bs) (v : Int) (ks : List PK) (d : Int) (tr : List Int) (N er : Int) (ht : Hid (ftk bs = ⟨v, ks, d, tr, N, er⟩)) :
    Calls Try.prog 17 #[.slice A n c] w (fun e w' => ∃ Ap np cp At nt ct ps, e = .returned (.tuple #[.agg #[.int .i64 v, .slice Ap np cp, .int .u32 d, .slice At nt ct], .int .i64 N, .int .i64 er]) ∧ PRd w' w'.heap.size Ap np cp ps ∧ ps.map pkey = ks ∧ RdS iv w' w'.heap.size At nt ct tr ∧ Below w.heap.size w w') :=
  cftake_any A n c w hn bs hr _ ht
set_option maxRecDepth 100000 in
set_option maxHeartbeats 4000000 in
theorem certfileTaken_walk (A : Option Addr) (n c : Nat) (bs : List UInt8) {w : World} (hr : RdS bv w w.heap.size A n c bs) (hm : n ≤ 9223372036854775807) :
    Calls Try.prog 6 #[.slice A n c] w fun e w' => e = .returned (.bool true) ∧ Below w.heap.size w w' := by
  obtain ⟨wa, hwa⟩ : ∃ wa, bs.take 400 = wa := ⟨_, rfl⟩
  have hwl : wa.length ≤ 400 := by rw [← hwa, List.length_take]; omega
  have hfl := fput_length 1129468977 wa
  obtain ⟨fb, hfb⟩ : ∃ fb, fput 1129468977 wa = fb := ⟨_, rfl⟩
  rw [hfb] at hfl
  obtain ⟨t, ht⟩ : ∃ t, ctake wa = t := ⟨_, rfl⟩
  have hform := ctake_form wa
  have hback := @ctake_back wa
  rw [ht] at hform hback
  obtain ⟨v, ks, d, tr, N, er⟩ := t
  have htk : Hid (ftk fb = ⟨v, ks, d, tr, N, er⟩) := Lib.hid (by rw [← hfb, ftk_fput, ht])
  have hform : EG er ∧ (er ≠ 0 → v = 0 ∧ ks = [] ∧ d = 0 ∧ tr = [] ∧ N = 0) := ⟨hform.1, fun h => by
    have h2 := hform.2 h
    injection h2 with a1 a2 a3 a4 a5
    exact ⟨a1, a2, a3, a4, a5⟩⟩
  have hback : er = 0 → CIn v ks d tr N ∧ cmayK v ks d tr N = 0 ∧ cbody v ks d tr N = wa := hback
  have Hform := Lib.hid hform
  have Hback := Lib.hid hback
  have Hwa := Lib.hid hwa
  have Hfb := Lib.hid hfb
  clear hform hback hwa hfb ht
  go_enter Try.func6, Try.ntmps6
  go_upto_region 4 with (first
    | (go_at_call 8; refine (shown18 _).mono ?_; rintro e w1 ⟨rfl, hb1⟩; have hr1 := (hr.step hb1).heap)
    | (go_at_call 18; refine (few18 A n c w1 hm _ bs hr1).mono ?_; rintro e w2 ⟨A2, c2, n2, rfl, hn2, hr2, rfl⟩; rw [Hwa.out] at hr2)
    | (go_at_call 15; refine (fput_any 1129468977 (by omega) 1129468977 rfl A2 n2 c2 _ (by omega) wa hr2).mono ?_; rintro e w3 ⟨A3, n3, c3, rfl, ow3, hb3⟩; rw [Hfb.out] at ow3)
    | (go_at_call 17; refine (cftake_is A3 n3 c3 _ (by have := ow3.len; omega) fb ow3.rd v ks d tr N er htk).mono ?_; rintro e w4 ⟨Ap, np, cp, At, nt, ct, ps, rfl, hp4, hks, ht4, hb4⟩)
    | ((with_reducible refine on_alloc ?_); refine wl_newBox rfl _ rfl z_cert ?_; intro g w5 hg5 hl5 bg hb5)
    | ((with_reducible refine on_store_at (.tmp 5) ?_); refine wb_store (cs := Cv 0 none 0 0 0 none 0 0) (cs' := Cv v Ap np cp d At nt ct) rfl _ (.tmp 5) _ rfl st_cert rfl rfl bg rfl rfl (by simp [Cv, Value.oneCell']) ?_; intro w6 bx6 hg6))
  have bd6 : Below w4.heap.size w4 w6 := hb5.trans (below_of_grown hg6 (fun j e => by injection e with e; omega) hb5.size)
  have hp6 := hp4.step bd6
  have ht6 := ht4.step bd6
  have hz4 : w4.heap.size ≤ w6.heap.size := bd6.size
  have K : Below w.heap.size w w6 := by
    have a := hb1.trans (hb3.mono hb1.size)
    have b := a.trans (hb4.mono a.size)
    exact b.trans (bd6.mono b.size)
  have ow6 := (ow3.below hb4).below bd6
  clear hr hr1 hr2 hb1 hb3 hb4 hb5 hg6 hp4 ht4 bg bd6 ow3
  by_cases he : er = 0
  · subst he
    obtain ⟨h1, h2, h3⟩ := Hback.out rfl
    subst hks
    rw [cmayK_of] at h2
    have hl3 := congrArg List.length h3
    have hnt : nt ≤ 256 := by
      have := ht6.len
      rcases h1.kind with ⟨_, _, a, _, _⟩ | ⟨_, _, _, a, _⟩
      · subst a; simp at this; omega
      · omega
    have hnp : np ≤ 8193 := by
      have := hp6.rd.len
      rcases h1.kind with ⟨_, _, _, a, _⟩ | ⟨_, a, _, _, _⟩
      · simp at a; omega
      · simp at a; subst a; simp at this; omega
    have htr : ∀ x ∈ tr, 0 ≤ x ∧ x < 268435456 := by
      rcases h1.kind with ⟨_, _, a, _, _⟩ | ⟨_, _, _, _, a⟩
      · subst a; simp
      · exact a
    have hsm : ∀ p ∈ ps, p.n ≤ 9223372036854775807 := fun p hp => by
      rcases h1.kind with ⟨_, _, _, _, a⟩ | ⟨_, a, _, _, _⟩
      · have b := (a _ (List.mem_map.2 ⟨p, hp, rfl⟩)).2.2.1
        have c := (hp6.rk p hp).len
        have e : ((p.rk.length : Nat) : Int) = N := b
        have := h1.nb
        omega
      · simp at a; subst a; cases hp
    have K1 := Lib.hid (cfput_any v Ap np cp d At nt ct N w6 ps tr w4.heap.size hz4 hp6 ht6 h1 h2 (by rw [hl3]; omega) fb (by rw [h3]; exact Hfb.out))
    have K2 := Lib.hid (fun w7 (hb7 : Below w6.heap.size w6 w7) => cmay_is v Ap np cp d At nt ct N w7 (by omega) (by omega) ps tr w4.heap.size (Nat.le_trans hz4 hb7.size) (hp6.step hb7) (ht6.step hb7) (fun x hx => by have := htr x hx; omega) hsm 0 h2)
    clear h1 h2 h3 hsm htr Hback Hform hl3
    go_wp2_with (first
      | (go_at_call 11; refine (K1.out).mono ?_; rintro e w7 ⟨A7, n7, c7, rfl, ow7, hb7⟩; have bx7 := bx6.step hb7; have ow8 := ow6.below hb7)
      | (go_at_call 20; refine (K2.out _ hb7).mono ?_; rintro e w8 ⟨rfl, hb8⟩)
      | ((with_reducible refine on_load (.tmp 5) ?_); first | (refine wcv_box rfl (.tmp 5) rfl rfl bx6 ?_) | (refine wcv_box rfl (.tmp 5) rfl rfl bx7 ?_))
      | ((with_reducible refine on_convert (.tmp 52) ?_); refine wl_strS rfl _ _ _ rfl el_u8 Try.underlying5 Try.underlying9 rfl ow7.rd ?_)
      | ((with_reducible refine on_convert (.tmp 54) ?_); refine wl_strS rfl _ _ _ rfl el_u8 Try.underlying5 Try.underlying9 rfl ow8.rd ?_))
    go_ret
    have a := K.trans (hb7.mono K.size)
    exact ⟨rfl, a.trans (hb8.mono a.size)⟩
  · obtain ⟨⟨g5, g6⟩, hz⟩ := Hform.out
    obtain ⟨rfl, rfl, rfl, rfl, rfl⟩ := hz he
    have hps : ps = [] := by simpa using hks
    subst hps
    have hnp : np = 0 := by have := hp6.rd.len; simpa using this.symm
    have hnt : nt = 0 := by have := ht6.len; simpa using this.symm
    subst hnp hnt
    have q0 : (er != 0) = true := by simpa using he
    have q5 : (er != 5) = true := by simpa using g5
    have q6 : (er != 6) = true := by simpa using g6
    clear hks Hback Hform
    have K1 := Lib.hid (csame_any 0 Ap 0 cp 0 At 0 ct 0 none 0 0 0 none 0 0 w6 (by omega) (by omega) [] [] _ hp6 ht6 (by simp) (by omega) (by omega) [] [] 0 ⟨RdM.nil _ _, by simp, by simp⟩ (RdS.nil _ _) (by simp) true (Lib.hid rfl))
    go_wp2_with (first
      | (go_at_call 19; refine (K1.out).mono ?_; rintro e w7 ⟨rfl, hb7⟩)
      | ((with_reducible refine on_load (.tmp 5) ?_); refine wcv_box rfl (.tmp 5) rfl rfl bx6 ?_))
    go_ret
    exact ⟨rfl, K.trans (hb7.mono K.size)⟩
end Go.Proofs.Ytjambnlocjjjpaa
