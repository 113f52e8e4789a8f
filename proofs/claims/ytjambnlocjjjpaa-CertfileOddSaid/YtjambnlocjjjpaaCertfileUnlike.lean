/-
  theseuslaw18.CertfileUnlike: the walk.
-/
import Derived.Test.YtjambnlocjjjpaaCfFit
import Derived.Deep.DeepCutAuto
namespace Go.Proofs.Ytjambnlocjjjpaa
open Go.RowKit Go.Th
set_option linter.unusedVariables false
/-- A certificate made one that may be, in a variable. -/
structure MBox (w : World) (g nodes : Nat) (v : Int) (Ap : Option Addr) (np cp : Nat) (d : Int) (At : Option Addr) (nt ct : Nat) (ps : List Pt) (tr : List Int) : Prop where
  box : Box w g 26 (Cv v Ap np cp d At nt ct)
  parts : PRd w w.heap.size Ap np cp ps
  trd : RdS iv w w.heap.size At nt ct tr
  inn : CIn v (ps.map pkey) d tr nodes
  may : cmay v ps d tr nodes = 0
  len : (cbody v (ps.map pkey) d tr nodes).length ≤ 20000
  npb : np ≤ 31
  ntb : nt ≤ 64
  sm : ∀ p ∈ ps, p.n ≤ 64
theorem MBox.step {w w' : World} {g nodes : Nat} {v : Int} {Ap : Option Addr} {np cp : Nat} {d : Int} {At : Option Addr} {nt ct : Nat} {ps : List Pt} {tr : List Int} (h : MBox w g nodes v Ap np cp d At nt ct ps tr) (hb : Below w.heap.size w w') : MBox w' g nodes v Ap np cp d At nt ct ps tr :=
  ⟨h.box.step hb, (h.parts.step hb).heap, (h.trd.step hb).heap, h.inn, h.may, h.len, h.npb, h.ntb, h.sm⟩
theorem MBox.put {w : World} {g nodes : Nat} {v : Int} {Ap : Option Addr} {np cp : Nat} {d : Int} {At : Option Addr} {nt ct : Nat} {ps : List Pt} {tr : List Int} (h : MBox w g nodes v Ap np cp d At nt ct ps tr) (bs : List UInt8) (hb : fput 1129468977 (cbody v (ps.map pkey) d tr nodes) = bs) :
    Calls Try.prog 11 #[.agg #[.int .i64 v, .slice Ap np cp, .int .u32 d, .slice At nt ct], .int .i64 nodes] w (RetBs bs 0 w) :=
  cfput_any v Ap np cp d At nt ct nodes w ps tr _ (Nat.le_refl _) h.parts h.trd h.inn h.may (by have := h.len; omega) bs hb
/-- few, and Fit, of a certificate that came in. -/
theorem made_any (v : Int) (Ap : Option Addr) (np cp : Nat) (d : Int) (At : Option Addr) (nt ct : Nat) (ps : List Pt) (tr : List Int) (w : World) (ci : CertIn w v Ap np cp d At nt ct ps tr) (W : World) (hW : Below w.heap.size w W) :
    Calls Try.prog 10 #[.agg #[.int .i64 v, .slice Ap np cp, .int .u32 d, .slice At nt ct]] W (fun e w2 => ∃ A' N c' M, e = .returned (.agg #[.int .i64 v, .slice A' N c', .int .u32 d, .slice At M ct]) ∧ Below W.heap.size W w2 ∧
      ∀ nodes : Nat, 1 ≤ nodes ∧ nodes ≤ 64 → Calls Try.prog 9 #[.agg #[.int .i64 v, .slice A' N c', .int .u32 d, .slice At M ct], .int .i64 nodes] w2 (FitPost nodes w2)) := by
  refine (few17_any v Ap np cp d At nt ct W ci.npb ci.ntb ps tr _ (ci.parts.below hW) (ci.trd.below hW) (fun p hp => (ci.each p hp).1) _ _ rfl rfl).mono ?_
  rintro e w2 ⟨A2, c2, rfl, ow2, hb2⟩
  refine ⟨A2, _, c2, _, rfl, hb2, fun nodes hno => ?_⟩
  have hp2 := (ci.parts.below hW).few ow2 hb2
  have ht2 := (ci.trd.below hW).few 20 _ rfl
  exact fit_post v A2 _ c2 d At _ ct nodes hno w2 (by omega) (by omega) ci.db _ _ _ hp2 (fun p hp => by have := (few_ok ci.parts.ok p hp).2; omega) (ht2.step hb2).heap
set_option maxRecDepth 100000 in
set_option maxHeartbeats 4000000 in
theorem certfileUnlike_core {w : World} (v : Int) (Ap : Option Addr) (np cp : Nat) (d : Int) (At : Option Addr) (nt ct : Nat) (ps : List Pt) (tr : List Int) (ci : CertIn w v Ap np cp d At nt ct ps tr) (v' : Int) (Ap' : Option Addr) (np' cp' : Nat) (d' : Int) (At' : Option Addr) (nt' ct' : Nat) (ps' : List Pt) (tr' : List Int) (ci' : CertIn w v' Ap' np' cp' d' At' nt' ct' ps' tr') (n0 n1 : Nat) (hn0 : n0 ≤ 255) (hn1 : n1 ≤ 255) :
    Calls Try.prog 4 #[.agg #[.int .i64 v, .slice Ap np cp, .int .u32 d, .slice At nt ct], .agg #[.int .i64 v', .slice Ap' np' cp', .int .u32 d', .slice At' nt' ct'], .agg #[.int .u8 n0, .int .u8 n1]] w fun e w' => e = .returned (.bool true) ∧ Below w.heap.size w w' := by
  have few1 := Lib.hid (made_any v Ap np cp d At nt ct ps tr w ci)
  have few2 := Lib.hid (made_any v' Ap' np' cp' d' At' nt' ct' ps' tr' w ci')
  clear ci ci'
  go_enter Try.func4, Try.ntmps4
  go_upto_region 1 with fail
  have bx0 := ((Box.new w (Cv v Ap np cp d At nt ct) 26).alloc (.cells (Cv v' Ap' np' cp' d' At' nt' ct') 26)).alloc (.cells #[.int .u8 n0, .int .u8 n1] 41)
  have by0 := (Box.new (w.alloc (.cells (Cv v Ap np cp d At nt ct) 26)) (Cv v' Ap' np' cp' d' At' nt' ct') 26).alloc (.cells #[.int .u8 n0, .int .u8 n1] 41)
  have bz0 := Box.new ((w.alloc (.cells (Cv v Ap np cp d At nt ct) 26)).alloc (.cells (Cv v' Ap' np' cp' d' At' nt' ct') 26)) #[.int .u8 n0, .int .u8 n1] 41
  have k0 : Below w.heap.size w (((w.alloc (.cells (Cv v Ap np cp d At nt ct) 26)).alloc (.cells (Cv v' Ap' np' cp' d' At' nt' ct') 26)).alloc (.cells #[.int .u8 n0, .int .u8 n1] 41)) := ((below_alloc w (Nat.le_refl _) _).alloc (by simp) _).alloc (by simp; omega) _
  rw [heap_size_alloc] at by0
  rw [heap_size_alloc, heap_size_alloc] at bz0
  obtain ⟨w0, hw0⟩ : ∃ W, ((w.alloc (.cells (Cv v Ap np cp d At nt ct) 26)).alloc (.cells (Cv v' Ap' np' cp' d' At' nt' ct') 26)).alloc (.cells #[.int .u8 n0, .int .u8 n1] 41) = W := ⟨_, rfl⟩
  have hg : ((w.alloc (.cells #[.int .i64 v, .slice Ap np cp, .int .u32 d, .slice At nt ct] 26)).alloc (.cells #[.int .i64 v', .slice Ap' np' cp', .int .u32 d', .slice At' nt' ct'] 26)).alloc (.cells #[.int .u8 n0, .int .u8 n1] 41) = w0 := hw0
  rw [hw0] at bx0 by0 bz0 k0
  rw [hg]
  clear hg hw0
  go_upto_region 4 with (go_at_call 8; refine (shown18 _).mono ?_; rintro e w1 ⟨rfl, hb1⟩; have bx1 := bx0.step hb1; have by1 := by0.step hb1; have bz1 := bz0.step hb1; have y0 : w1.cell? ⟨w.heap.size + 1 + 1, 0, none⟩ = some (.int .u8 n0) := bz1.cell 0; have y1 : w1.cell? ⟨w.heap.size + 1 + 1, 1, none⟩ = some (.int .u8 n1) := bz1.cell 1)
  have B1 := k0.trans (hb1.mono k0.size)
  obtain ⟨I, hI, hI2⟩ : ∃ I : Nat, 1 + (n0 : Int) % 8 = I ∧ (1 ≤ I ∧ I ≤ 8) := ⟨1 + n0 % 8, by omega, by omega⟩
  obtain ⟨K, hK, hK2⟩ : ∃ I : Nat, 1 + (n1 : Int) % 8 = I ∧ (1 ≤ I ∧ I ≤ 8) := ⟨1 + n1 % 8, by omega, by omega⟩
  rw [hI, hK]
  clear hI hK bx0 by0 bz0 bz1 y0 y1 k0 hb1
  go_upto_region 5 with (first
    | ((with_reducible refine on_load (.tmp 3) ?_); refine wcv_box rfl (.tmp 3) rfl rfl bx1 ?_)
    | (go_at_call 10; refine (few1.out _ B1).mono ?_; rintro e w2 ⟨A2, N2, c2, M2, rfl, hb2, F2⟩)
    | (go_at_call 9; refine (F2 I (by omega)).mono ?_; rintro e w3 ⟨va, Aa, na, ca, da, Ta, ta, cta, psa, tra, rfl, hpa, hta, ina, maya, lena, npa, nta, sma, hb3⟩)
    | ((with_reducible refine on_alloc ?_); refine wl_newBox rfl _ rfl z_cert ?_; intro g8 w4 hg4 hl4 bg4 hb4)
    | ((with_reducible refine on_store_at (.tmp 10) ?_); refine wb_store (cs := Cv 0 none 0 0 0 none 0 0) (cs' := Cv va Aa na ca da Ta ta cta) rfl _ (.tmp 10) _ rfl st_cert rfl rfl bg4 rfl rfl (by simp [Cv, Value.oneCell']) ?_; intro w5 bx5 hg5))
  have bd5 := hb4.trans (below_of_grown (B := w3.heap.size) hg5 (fun j e => by injection e with e; omega) hb4.size)
  have M8 : MBox w5 g8 I va Aa na ca da Ta ta cta psa tra := ⟨bx5, (hpa.step bd5).heap, (hta.step bd5).heap, ina, maya, lena, npa, nta, sma⟩
  have b25 := hb2.trans ((hb3.trans (bd5.mono hb3.size)).mono hb2.size)
  have B5 := B1.trans (b25.mono B1.size)
  have by5 := by1.step b25
  clear bd5 b25 bx5 hpa hta ina maya lena npa nta sma hg5 hb4 bg4 hg4 hl4 hb3 F2 hb2 B1 bx1 by1
  rename World => w6
  go_upto_region 6 with (first
    | ((with_reducible refine on_load (.tmp 4) ?_); refine wcv_box rfl (.tmp 4) rfl rfl by5 ?_)
    | (go_at_call 10; refine (few2.out _ B5).mono ?_; rintro e x2 ⟨A2, N2, c2, M2, rfl, hb2, F2⟩)
    | (go_at_call 9; refine (F2 K (by omega)).mono ?_; rintro e x3 ⟨vb, Ab, nb, cb, db, Tb, tb, ctb, psb, trb, rfl, hpb, htb, inb, mayb, lenb, npb, ntb, smb, hb3⟩)
    | ((with_reducible refine on_alloc ?_); refine wl_newBox rfl _ rfl z_cert ?_; intro g9 x4 hg4 hl4 bg4 hb4)
    | ((with_reducible refine on_store_at (.tmp 11) ?_); refine wb_store (cs := Cv 0 none 0 0 0 none 0 0) (cs' := Cv vb Ab nb cb db Tb tb ctb) rfl _ (.tmp 11) _ rfl st_cert rfl rfl bg4 rfl rfl (by simp [Cv, Value.oneCell']) ?_; intro x5 bx5 hg5))
  have bd5 := hb4.trans (below_of_grown (B := x3.heap.size) hg5 (fun j e => by injection e with e; omega) hb4.size)
  have M9 : MBox x5 g9 K vb Ab nb cb db Tb tb ctb psb trb := ⟨bx5, (hpb.step bd5).heap, (htb.step bd5).heap, inb, mayb, lenb, npb, ntb, smb⟩
  have b25 := hb2.trans ((hb3.trans (bd5.mono hb3.size)).mono hb2.size)
  have B6 := B5.trans (b25.mono B5.size)
  have M8 := M8.step b25
  clear bd5 b25 bx5 hpb htb inb mayb lenb npb ntb smb hg5 hb4 bg4 hg4 hl4 hb3 F2 hb2 B5 by5 few1 few2
  obtain ⟨fa, hfa⟩ : ∃ f, fput 1129468977 (cbody va (psa.map pkey) da tra I) = f := ⟨_, rfl⟩
  obtain ⟨fb, hfb⟩ : ∃ f, fput 1129468977 (cbody vb (psb.map pkey) db trb K) = f := ⟨_, rfl⟩
  have Hfa := Lib.hid hfa
  have Hfb := Lib.hid hfb
  clear hfa hfb
  go_upto_region 8 with (first
    | ((with_reducible refine on_load (.tmp 10) ?_); refine wcv_box rfl (.tmp 10) rfl rfl M8.box ?_)
    | ((with_reducible refine on_load (.tmp 11) ?_); refine wcv_box rfl (.tmp 11) rfl rfl M9'.box ?_)
    | (go_at_call 11; (with_reducible refine (M8.put fa Hfa.out).mono ?_); rintro e x6 ⟨P1, p1, q1, rfl, o1, hb6⟩; have M9' := M9.step hb6)
    | (go_at_call 11; (with_reducible refine (M9'.put fb Hfb.out).mono ?_); rintro e x7 ⟨P2, p2, q2, rfl, o2, hb7⟩))
  have m8 := (M8.step hb6).step hb7
  have m9 := M9'.step hb7
  have o1' := o1.below hb7
  have B7 := (B6.trans (hb6.mono B6.size)).trans (hb7.mono (Nat.le_trans B6.size hb6.size))
  have hin : fa = fb ↔ va = vb ∧ psa.map pkey = psb.map pkey ∧ da = db ∧ tra = trb ∧ (I : Int) = K := by
    rw [← Hfa.out, ← Hfb.out, fput_inj (by omega) (by omega)]
    have := cbody_inj M8.inn (by rw [cmayK_of]; exact M8.may) M9.inn (by rw [cmayK_of]; exact M9.may)
    simp only [true_and]
    exact this
  obtain ⟨sm, hsm⟩ : ∃ b, csame va psa da tra vb psb db trb = b := ⟨_, rfl⟩
  have hw : ((fa == fb) = true ∧ ((I : Int) == K) = true ∧ sm = true) ∨ ((fa == fb) = false ∧ ((I : Int) == K) = true ∧ sm = false) ∨ ((fa == fb) = false ∧ ((I : Int) == K) = false) := by
    by_cases hIK : (I : Int) = K
    · by_cases hk : va = vb ∧ da = db ∧ tra = trb ∧ psa.map pkey = psb.map pkey
      · refine .inl ⟨by simpa using hin.2 ⟨hk.1, hk.2.2.2, hk.2.1, hk.2.2.1, hIK⟩, by simpa using hIK, ?_⟩
        rw [← hsm]
        exact csame_yes hk.1 hk.2.1 hk.2.2.1 hk.2.2.2
      · refine .inr (.inl ⟨by simp only [beq_eq_false_iff_ne]; exact fun e => hk ⟨(hin.1 e).1, (hin.1 e).2.2.1, (hin.1 e).2.2.2.1, (hin.1 e).2.1⟩, by simpa using hIK, ?_⟩)
        rw [← hsm]
        refine csame_no ?_
        by_cases h1 : va = vb
        · by_cases h2 : da = db
          · by_cases h3 : tra = trb
            · exact .inr (.inr (.inr fun h4 => hk ⟨h1, h2, h3, h4⟩))
            · exact .inr (.inr (.inl h3))
          · exact .inr (.inl h2)
        · exact .inl h1
    · exact .inr (.inr ⟨by simp only [beq_eq_false_iff_ne]; exact fun e => hIK (hin.1 e).2.2.2.2, by simpa using hIK⟩)
  have Hsame := Lib.hid (fun q : Step x7.heap.size x7 => rcsame_any va Aa na ca da Ta ta cta vb Ab nb cb db Tb tb ctb q.w (by have := m8.npb; omega) (by have := m8.ntb; omega) psa tra _ ((m8.parts.step q.h).heap) ((m8.trd.step q.h).heap) (fun p hp => by have := m8.sm p hp; omega) (by have := m9.npb; omega) (by have := m9.ntb; omega) psb trb _ ((m9.parts.step q.h).heap) ((m9.trd.step q.h).heap) (fun p hp => by have := m9.sm p hp; omega) sm (Lib.hid hsm))
  have px := o1'.rd.reach
  have py := o2.rd.reach
  have q8 : ∀ w', Th.Reach x7.heap.size x7 w' → Box w' g8 26 (Cv va Aa na ca da Ta ta cta) := fun w' h => m8.box.step h.below
  have q9 : ∀ w', Th.Reach x7.heap.size x7 w' → Box w' g9 26 (Cv vb Ab nb cb db Tb tb ctb) := fun w' h => m9.box.step h.below
  have z7 := B7.size
  clear hin hsm
  rcases hw with ⟨e1, e2, rfl⟩ | ⟨e1, e2, rfl⟩ | ⟨e1, e2⟩
  all_goals
    refine wp_region_reach (by kernel_rfl) (by kernel_rfl) ?_
    repeat (first | go_big_quiet_skip | ((with_reducible refine onq_cv (.tmp 57) ?_); refine wq_strS rfl _ _ (.tmp 57) rfl el_u8 Try.underlying5 Try.underlying9 rfl px ?_) | ((with_reducible refine onq_cv (.tmp 59) ?_); refine wq_strS rfl _ _ (.tmp 59) rfl el_u8 Try.underlying5 Try.underlying9 rfl py ?_) | ((with_reducible refine onq_load (.tmp 10) ?_); refine wqcv_box rfl (.tmp 10) rfl rfl q8 ?_) | ((with_reducible refine onq_load (.tmp 11) ?_); refine wqcv_box rfl (.tmp 11) rfl rfl q9 ?_) | go_big_quiet_step ((with_reducible exact Calls.reach (Hsame.out _))) | quiet_step ((with_reducible exact Calls.reach (Hsame.out _))))
    refine wpQuiet_nil ?_
    rintro _ ⟨q, rfl⟩
    have hqw13 := q.h
    obtain ⟨w13, hw13'⟩ : ∃ W, q.w = W := ⟨_, rfl⟩
    rw [hw13'] at hqw13 ⊢
    clear hw13' q
    go_wp2
    go_ret
    exact ⟨rfl, B7.trans (hqw13.mono z7)⟩
theorem certfileUnlike_walk {w : World} (v : Int) (Ap : Option Addr) (np cp : Nat) (d : Int) (At : Option Addr) (nt ct : Nat) (ps : List Pt) (tr : List Int) (ci : CertIn w v Ap np cp d At nt ct ps tr) (v' : Int) (Ap' : Option Addr) (np' cp' : Nat) (d' : Int) (At' : Option Addr) (nt' ct' : Nat) (ps' : List Pt) (tr' : List Int) (ci' : CertIn w v' Ap' np' cp' d' At' nt' ct' ps' tr') (zs : List Int) (hl : zs.length = 2) (hz : ∀ z ∈ zs, 0 ≤ z ∧ z ≤ 255) :
    Calls Try.prog 4 #[.agg #[.int .i64 v, .slice Ap np cp, .int .u32 d, .slice At nt ct], .agg #[.int .i64 v', .slice Ap' np' cp', .int .u32 d', .slice At' nt' ct'], .agg (zs.map (Value.int .u8)).toArray] w fun e w' => e = .returned (.bool true) ∧ Below w.heap.size w w' := by
  match zs, hl with
  | [k0, kb], _ =>
    have h0 := hz k0 (by simp)
    have h1 := hz kb (by simp)
    obtain ⟨k, rfl⟩ := Int.eq_ofNat_of_zero_le h0.1
    obtain ⟨j, rfl⟩ := Int.eq_ofNat_of_zero_le h1.1
    exact certfileUnlike_core v Ap np cp d At nt ct ps tr ci v' Ap' np' cp' d' At' nt' ct' ps' tr' ci' k j (by omega) (by omega)
end Go.Proofs.Ytjambnlocjjjpaa
