/-
  theseuslaw18.CertfileParts: the walk.
-/
import Derived.Test.YtjambnlocjjjpaaCertfileUnlike
import Derived.Test.YtjambnlocjjjpaaCfGroups
namespace Go.Proofs.Ytjambnlocjjjpaa
open Go.RowKit Go.Th
set_option linter.unusedVariables false
/-- A slice literal of one number. -/
theorem wl_oneI {ops : Array Oper} {rest : List Oper} {o : Oper} {a : Act} {Q : Exit → Act → World → Prop} {w : World} (hw : Region.wanted o (yielded ops a.tmps) = true) (x : Operand) (ho : o.op = .buildSlice 24 1 #[(0, x)]) {v : Int} (hx : a.eval x = .int .i64 v) {base : Nat} (hb : base ≤ w.heap.size)
    (h : ∀ g w', w.heap.size ≤ g → g < w'.heap.size → OwS iv w' base 3 (some ⟨g, 0, none⟩) 1 1 [v] → Below w.heap.size w w' → wpList Try.prog ops Q rest (a.put o.dst (.slice (some ⟨g, 0, none⟩) 1 1)) w') : wpList Try.prog ops Q (o :: rest) a w := by
  have el := el_int
  obtain ⟨i, hi, hz, hk, hby⟩ := el.info
  refine wl_run hw (v := .slice (some ⟨w.heap.size, 0, none⟩) 1 1) ?_ (h _ (w.alloc (.cells #[.int .i64 v] 3)) (Nat.le_refl _) (by simp) (OwS.lit w _ 1 hb (by simp [maxLen]) rfl rfl) (below_alloc w (Nat.le_refl _) _))
  have e : Array.map (fun y => (y.fst, a.eval y.snd)) #[(0, x)] = #[(0, Value.int .i64 v)] := by simp [hx]
  have e2 : Instr.fill (fun i => some (i * 1, 1)) ((Array.range (1 * 1)).map ((Value.int .i64 0).cells[· % (Value.int .i64 0).cells.size]!)) [(0, Value.int .i64 v)] = some #[.int .i64 v] := by
    have e3 : (Array.range (1 * 1)).map ((Value.int .i64 0).cells[· % (Value.int .i64 0).cells.size]!) = #[.int .i64 0] := by kernel_rfl
    rw [e3]
    simp [Instr.fill, Value.cells]
  simp only [execOp, ho, Sem.run_bind, e]
  rw [run_buildSlice w 24 3 1 _ _ i _ el.ht hi hz (by rw [hk]; omega) (by rw [hk]; omega) (by rw [hk]; exact e2)]
  rfl
theorem own_apart {w : World} {base n c b' n' c' : Nat} {A A' : Option Addr} {bs : List UInt8} {xs : List Int} (h : OwS bv w base 5 A n c bs) (h' : OwS iv w b' 3 A' n' c' xs) (k : Nat) (h1 : rowOf A = some k) (h2 : rowOf A' = some k) : False := by
  rcases (Apart.own (base := 0) h') k h2 with h3 | ⟨cur, fz, h3⟩
  · omega
  · rcases (own_no_int h k h1).2 _ _ _ h3 with h4 | h4
    · exact absurd h4 (by decide)
    · exact absurd h4 (by decide)
def PaRel (base np : Nat) (pre : List UInt8) (ks : List PK) (w : World) (b i : Value) (wr : World) : Prop :=
  ∃ (k n c : Nat) (A : Option Addr), k ≤ np ∧ i = .int .i64 k ∧ b = .slice A n c ∧ OwS bv wr base 5 A n c (pre ++ pbodies (ks.take k)) ∧ Below base w wr
set_option maxRecDepth 100000 in
set_option maxHeartbeats 4000000 in
theorem certfileParts_core {w : World} (v : Int) (Ap : Option Addr) (np cp : Nat) (d : Int) (At : Option Addr) (nt ct : Nat) (ps : List Pt) (tr : List Int) (ci : CertIn w v Ap np cp d At nt ct ps tr) (n0 : Nat) (hn0 : n0 ≤ 255) :
    Calls Try.prog 3 #[.agg #[.int .i64 v, .slice Ap np cp, .int .u32 d, .slice At nt ct], .int .u8 n0] w fun e w' => e = .returned (.bool true) ∧ Below w.heap.size w w' := by
  have few1 := Lib.hid (made_any v Ap np cp d At nt ct ps tr w ci)
  clear ci
  have bx0 := Box.new w (Cv v Ap np cp d At nt ct) 26
  have k0 : Below w.heap.size w (w.alloc (.cells (Cv v Ap np cp d At nt ct) 26)) := below_alloc w (Nat.le_refl _) _
  go_enter Try.func3, Try.ntmps3
  go_upto_region 3 with (go_at_call 8; refine (shown18 _).mono ?_; rintro e w1 ⟨rfl, hb1⟩; have bx1 := bx0.step hb1)
  have B1 := k0.trans (hb1.mono k0.size)
  obtain ⟨I, hI, hI2⟩ : ∃ I : Nat, 1 + (n0 : Int) % 64 = I ∧ (1 ≤ I ∧ I ≤ 64) := ⟨1 + n0 % 64, by omega, by omega⟩
  rw [hI]
  clear hI bx0 k0 hb1
  go_upto_region 4 with (first
    | ((with_reducible refine on_load (.tmp 2) ?_); refine wcv_box rfl (.tmp 2) rfl rfl bx1 ?_)
    | (go_at_call 10; refine (few1.out _ B1).mono ?_; rintro e w2 ⟨A2, N2, c2, M2, rfl, hb2, F2⟩)
    | (go_at_call 9; refine (F2 I (by omega)).mono ?_; rintro e w3 ⟨va, Aa, na, ca, da, Ta, ta, cta, psa, tra, rfl, hpa, hta, ina, maya, lena, npa, nta, sma, hb3⟩)
    | ((with_reducible refine on_alloc ?_); refine wl_newBox rfl _ rfl z_cert ?_; intro g8 w4 hg4 hl4 bg4 hb4)
    | ((with_reducible refine on_store_at (.tmp 7) ?_); refine wb_store (cs := Cv 0 none 0 0 0 none 0 0) (cs' := Cv va Aa na ca da Ta ta cta) rfl _ (.tmp 7) _ rfl st_cert rfl rfl bg4 rfl rfl (by simp [Cv, Value.oneCell']) ?_; intro w5 bx5 hg5))
  have bd5 := hb4.trans (below_of_grown (B := w3.heap.size) hg5 (fun j e => by injection e with e; omega) hb4.size)
  have M5 : MBox w5 g8 I va Aa na ca da Ta ta cta psa tra := ⟨bx5, (hpa.step bd5).heap, (hta.step bd5).heap, ina, maya, lena, npa, nta, sma⟩
  have b25 := hb2.trans ((hb3.trans (bd5.mono hb3.size)).mono hb2.size)
  have B5 := B1.trans (b25.mono B1.size)
  clear bd5 b25 bx5 hpa hta ina maya lena npa nta sma hg5 hb4 bg4 hg4 hl4 hb3 F2 hb2 B1 bx1
  obtain ⟨fa, hfa⟩ : ∃ f, fput 1129468977 (cbody va (psa.map pkey) da tra I) = f := ⟨_, rfl⟩
  have Hfa := Lib.hid hfa
  clear hfa
  go_upto_region 5 with (first
    | ((with_reducible refine on_load (.tmp 7) ?_); refine wcv_box rfl (.tmp 7) rfl rfl M5.box ?_)
    | (go_at_call 11; (with_reducible refine (M5.put fa Hfa.out).mono ?_); rintro e w6 ⟨P1, p1, q1, rfl, o1, hb6⟩))
  have M6 := M5.step hb6
  have B6 := B5.trans (hb6.mono B5.size)
  clear hb6 B5 M5 few1
  have gl6 := M6.box.lt
  have z6 := B6.size
  have hkind := M6.inn.kind
  have x0 : w6.cell? ⟨g8, 0, none⟩ = some (.int .i64 va) := M6.box.cell 0
  rcases hkind with ⟨rfl, rfl, rfl, hk1, hk2⟩ | ⟨rfl, hk0, hk1, hk2, hk3⟩
  · have hk2' := Lib.hid hk2
    clear hk2
    go_upto_region 7 with fail
    have oa := (OwS.lit (f := bv) (base := w6.heap.size) (e := 5) (xs := [1]) w6 #[.int .u8 1] 1 (Nat.le_refl _) (by simp [maxLen]) rfl rfl).alloc (.cells #[.int .i64 I] 3)
    have orow := OwS.lit' (f := iv) (base := w6.heap.size) (e := 3) (xs := [(I : Int)]) (w6.alloc (.cells #[.int .u8 1] 5)) #[.int .i64 I] 1 (w6.heap.size + 1) (by simp) (by simp) (by simp [maxLen]) rfl rfl
    have k7 : Below w6.heap.size w6 ((w6.alloc (.cells #[.int .u8 1] 5)).alloc (.cells #[.int .i64 I] 3)) := (below_alloc w6 (Nat.le_refl _) _).alloc (by simp) _
    obtain ⟨w7, hw7⟩ : ∃ W, (w6.alloc (.cells #[.int .u8 1] 5)).alloc (.cells #[.int .i64 I] 3) = W := ⟨_, rfl⟩
    rw [hw7] at oa orow k7 ⊢
    clear hw7
    have M7 := M6.step k7
    have hnp := M6.parts.rd.len
    have c0 : w7.cell? ⟨g8, 0, none⟩ = some (.int .i64 1) := M7.box.cell 0
    have c1 : w7.cell? ⟨g8, 1, none⟩ = some (.slice Aa na ca) := M7.box.cell 1
    have Hnp := Lib.hid hnp
    have hna := M6.npb
    have z7 := k7.size
    clear hnp
    go_upto_region 9 with ((with_reducible refine on_append (.tmp 41) (.tmp 45) ?_); refine wl_appendA rfl (.tmp 41) (.tmp 45) _ rfl el_int (f := iv) (fun _ => rfl) rfl (orow.alloc (.cells #[.int .i64 na] 3)) rfl (OwS.lit (base := w7.heap.size) (e := 3) (xs := [(na : Int)]) w7 #[.int .i64 na] 1 (Nat.le_refl _) (by simp [maxLen]) rfl rfl).rd (by omega) (by omega) (by simp; omega) ?_; intro A8 c8 w8 ow8 hg8 hb8 hA8)
    have kd := below_alloc w7 (Nat.le_refl _) (.cells #[.int .i64 na] 3)
    have oa8 := (oa.below kd).grown hg8 (fun g' hA e => by injection hA with hA; injection hA with hA; have e2 : some (w6.heap.size + 1) = some g' := e; injection e2 with e2; omega)
    have kb8 : Below w6.heap.size w7 w8 := (kd.mono z7).trans hb8
    have M8 := M6.step (k7.trans kb8)
    have zb8 : w6.heap.size ≤ w8.heap.size := Nat.le_trans z7 kb8.size
    have hrow8 : ∀ z ∈ [(I : Int)] ++ [(na : Int)], 0 ≤ z ∧ z < 268435456 := by simp; omega
    clear oa orow hg8 hb8 hA8 kd c0 c1 M7
    have c0 : w8.cell? ⟨g8, 0, none⟩ = some (.int .i64 1) := M8.box.cell 0
    go_upto_region 15 with (go_at_call 12; refine (groups18_any w6.heap.size _ 1 1 [1] A8 2 c8 ([(I : Int)] ++ [(na : Int)]) w8 zb8 oa8 (by simp) hrow8 (by omega) ow8.rd (.inr (Apart.own ow8))).mono ?_; rintro e w9 ⟨A9, n9, c9, rfl, ow9, hb9⟩; have M9 : MBox w9 g8 I 1 Aa na ca 0 Ta ta cta psa [] := M6.step ((k7.trans kb8).trans hb9.b); have y9 : w9.cell? ⟨g8, 0, none⟩ = some (.int .i64 1) := M9.box.cell 0)
    obtain ⟨pre, hpre⟩ : ∃ pre, [1] ++ gN ([(I : Int)] ++ [(na : Int)]) = pre := ⟨_, rfl⟩
    rw [hpre] at ow9
    have hcb : pre ++ pbodies (psa.map pkey) = cbody 1 (psa.map pkey) 0 [] I := by rw [← hpre]; simp [cbody, gN, Hnp.out, be]
    have Hcb := Lib.hid hcb
    have hlen := M6.len
    rw [← hcb] at hlen
    have Hlen := Lib.hid hlen
    clear hpre hcb hlen y9 c0 hrow8 ow8 oa8
    go_wp2_with fail
    have B9 : Below w6.heap.size w6 w9 := (k7.trans kb8).trans hb9.b
    clear hb9 kb8 k7 M8 M9 zb8 z7 x0
    go_loopw [10, 14] (fun b i wr => PaRel w6.heap.size na pre (psa.map pkey) w6 b i wr) (fun _ i _ => na - (intOf i).toNat)
    case atStart => exact ⟨0, n9, c9, A9, by omega, rfl, rfl, by simpa [pbodies] using ow9, B9⟩
    case round =>
      obtain ⟨k, m, c1, A1, hk, rfl, rfl, ow, hb⟩ := hrel
      have hbz := hb.size
      have Mr := M6.step hb
      have Md := Mr.step (bdrew1 wr)
      have y1 : wr.cell? ⟨g8, 1, none⟩ = some (.slice Aa na ca) := Mr.box.cell 1
      have hml := ow.len
      have hm2 : m ≤ 30000 := by
        have h1 := Hlen.out
        have h2 := pbodies_le (psa.map pkey) k
        simp only [List.length_append] at h1 hml
        omega
      clear hml
      by_cases hlt : k < na
      · obtain ⟨p, hpk⟩ : ∃ p, psa[k]? = some p := ⟨psa[k]'(by have := Hnp.out; omega), List.getElem?_eq_getElem _⟩
        have hpm := List.mem_of_getElem? hpk
        obtain ⟨r1, r2, r3, r4⟩ := hk2'.out _ (List.mem_map.2 ⟨p, hpm, rfl⟩)
        have hpn := M6.sm p hpm
        have hrk := M6.parts.rk p hpm
        have Hpb := Lib.hid (pbodies_take (ks := psa.map pkey) (k := k) (p := pkey p) (by rw [List.getElem?_map, hpk]; rfl))
        have q1a : 0 ≤ p.fr ∧ p.fr ≤ 4294967295 := r1
        have q2a : 0 ≤ p.to ∧ p.to ≤ 4294967295 := r2
        have R4 := Lib.hid r4
        have Hpk := Lib.hid hpk
        clear hpk hpm r1 r2 r3 r4
        have hx1 := (Mr.parts.rd.step (bdrew1 wr)).reach
        have q1 : ∀ q : Step wr.heap.size wr.drew, q.w.cell? ⟨g8, 1, none⟩ = some (.slice Aa na ca) := fun q => (Md.box.step q.h).cell 1
        go_upto_region 18 with fail
        refine wp_region_tree (.float 0 14 (.one 14 (.one 15 (.float 16 5 .done)))) (Th.Reach wr.heap.size) (Th.Reach.trans _) (Th.Reach.refl _) (by kernel_rfl) (by kernel_rfl) (fun KT hKT => ?_)
        refine wpTree_float (fun KF hKF => ?_)
        simp only [List.drop, List.take]
        repeat (first | go_big_quiet_skip | ((with_reducible refine onq_index (.tmp 82) ?_); refine wqm_at Pt.cs_length rfl _ (.tmp 82) _ rfl el_part rfl rfl (by omega) (by omega) (Th.Reach.refl _ _) hx1 ?_; intro b4 j4 t4 ht4 hc4; have hxx : p = t4 := get_eq Hpk.out ht4.out (by omega); subst hxx; have f4 : ∀ q : Step _ _, q.w.cell? ⟨b4, j4, none⟩ = some (.int .u32 p.fr) := fun q => hc4.out q.w ⟨q, rfl⟩ 0 _ rfl) | ((with_reducible refine onq_index (.tmp 89) ?_); refine wqm_at Pt.cs_length rfl _ (.tmp 89) _ rfl el_part rfl rfl (by omega) (by omega) (Th.Reach.refl _ _) hx1 ?_; intro b5 j5 t5 ht5 hc5; have hxx : p = t5 := get_eq Hpk.out ht5.out (by omega); subst hxx; have f5 : ∀ q : Step _ _, q.w.cell? ⟨b5, j5 + 1, none⟩ = some (.int .u32 p.to) := fun q => hc5.out q.w ⟨q, rfl⟩ 1 _ rfl) | go_big_quiet_step (fail) | quiet_step (fail))
        refine wpQuiet_nil ?_
        refine hKF _ ?_
        clear hKF KF
        refine wpTree_one (fun KO hKO => ?_)
        simp only [List.drop, List.take]
        go_wp2_with (first | (go_at_call 14; refine (num_row_any 4 _ 2 2 _ (by omega) (by omega) (by omega) [p.fr, p.to] _ (Nat.le_refl _) (OwS.lit (f := iv) (base := wr.heap.size) (e := 3) (xs := [p.fr, p.to]) wr.drew #[.int .i64 p.fr, .int .i64 p.to] 2 (Nat.le_refl _) (by simp [maxLen]) rfl rfl).rd).mono ?_; rintro e w10 hR; obtain ⟨A10, c10, rfl, ow10, hb10⟩ := hR.1 (by simp [Fits]; omega)))
        refine anch_end (Th.Reach.of (by first | exact Below.refl _ _ | exact below_alloc _ (by first | omega | (simp; done) | (simp; omega)) _ | exact below_alloc2 _ (by first | omega | (simp; done) | (simp; omega)) _ _ | exact below_alloc2d _ (by simp) _ _ | exact bdrew _ _ | assumption | (exact Below.mono (by assumption) (by first | (simp; done) | (simp; omega) | omega | assumption)))) (hKO _ _ ?_)
        clear hKO KO
        refine wpTree_one (fun KO hKO => ?_)
        simp only [List.drop, List.take]
        go_wp2_with (first | (go_at_call 14; refine (num_row_any 4 _ 2 2 _ (by omega) (by omega) (by omega) [p.fr, p.to] _ (Nat.le_refl _) (OwS.lit (f := iv) (base := wr.heap.size) (e := 3) (xs := [p.fr, p.to]) wr.drew #[.int .i64 p.fr, .int .i64 p.to] 2 (Nat.le_refl _) (by simp [maxLen]) rfl rfl).rd).mono ?_; rintro e w10 hR; obtain ⟨A10, c10, rfl, ow10, hb10⟩ := hR.1 (by simp [Fits]; omega)))
        refine anch_end (Th.Reach.of (by first | exact Below.refl _ _ | exact below_alloc _ (by first | omega | (simp; done) | (simp; omega)) _ | exact below_alloc2 _ (by first | omega | (simp; done) | (simp; omega)) _ _ | exact below_alloc2d _ (by simp) _ _ | exact bdrew _ _ | assumption | (exact Below.mono (by assumption) (by first | (simp; done) | (simp; omega) | omega | assumption)))) (hKO _ _ ?_)
        clear hKO KO
        refine wpTree_float (fun KF hKF => ?_)
        simp only [List.drop, List.take]
        repeat (first | go_big_quiet_skip | ((with_reducible refine onq_index (.tmp 82) ?_); refine wqm_at Pt.cs_length rfl _ (.tmp 82) _ rfl el_part rfl rfl (by omega) (by omega) (Th.Reach.refl _ _) hx1 ?_; intro b4 j4 t4 ht4 hc4; have hxx : p = t4 := get_eq Hpk.out ht4.out (by omega); subst hxx; have f4 : ∀ q : Step _ _, q.w.cell? ⟨b4, j4, none⟩ = some (.int .u32 p.fr) := fun q => hc4.out q.w ⟨q, rfl⟩ 0 _ rfl) | ((with_reducible refine onq_index (.tmp 89) ?_); refine wqm_at Pt.cs_length rfl _ (.tmp 89) _ rfl el_part rfl rfl (by omega) (by omega) (Th.Reach.refl _ _) hx1 ?_; intro b5 j5 t5 ht5 hc5; have hxx : p = t5 := get_eq Hpk.out ht5.out (by omega); subst hxx; have f5 : ∀ q : Step _ _, q.w.cell? ⟨b5, j5 + 1, none⟩ = some (.int .u32 p.to) := fun q => hc5.out q.w ⟨q, rfl⟩ 1 _ rfl) | go_big_quiet_step (fail) | quiet_step (fail))
        refine wpQuiet_nil ?_
        refine hKF _ ?_
        clear hKF KF
        refine wpTree_done ?_
        refine hKT _ _ ?_
        clear hKT KT
        have kal := below_alloc wr.drew (Nat.le_refl _) (.cells #[.int .i64 p.fr, .int .i64 p.to] 3)
        have d10 : Below wr.heap.size wr w10 := ((bdrew1 wr).trans kal).trans (hb10.mono (by simp))
        have ow11 := ow.below d10
        have B10 := hb.trans (d10.mono hbz)
        have Bd := B10.trans (bdrew1 w10)
        have z10 := B10.size
        clear hx1 q1 hb10 kal
        have hx1 : ∀ w', Th.Reach w6.heap.size w10.drew w' → RdM Pt.cs w' w6.heap.size Aa na ca psa := fun w' h => M6.parts.rd.below (Bd.trans h.below)
        have q1 : ∀ q : Step w6.heap.size w10.drew, q.w.cell? ⟨g8, 1, none⟩ = some (.slice Aa na ca) := fun q => (M6.box.below (Bd.trans q.h) gl6).cell 1
        go_upto_region 21 with fail
        refine wp_region_tree (.float 0 2 (.float 3 6 (.one 2 (.one 9 (.float 10 1 .done))))) (Th.Reach w6.heap.size) (Th.Reach.trans _) (Th.Reach.refl _) (by kernel_rfl) (by kernel_rfl) (fun KT hKT => ?_)
        refine wpTree_float (fun KF hKF => ?_)
        simp only [List.drop, List.take]
        repeat (first | go_big_quiet_skip | ((with_reducible refine onq_index (.tmp 105) ?_); refine wqm_at Pt.cs_length rfl _ (.tmp 105) _ rfl el_part rfl rfl (by omega) (by omega) (Th.Reach.refl _ _) hx1 ?_; intro b6 j6 t6 ht6 hc6; have hxx : p = t6 := get_eq Hpk.out ht6.out (by omega); subst hxx; have f6 : ∀ q : Step _ _, q.w.cell? ⟨b6, j6 + 2, none⟩ = some (.slice p.A p.n p.c) := fun q => hc6.out q.w ⟨q, rfl⟩ 2 _ rfl) | go_big_quiet_step (fail) | quiet_step (fail))
        refine wpQuiet_nil ?_
        refine hKF _ ?_
        clear hKF KF
        refine wpTree_float (fun KF hKF => ?_)
        simp only [List.drop, List.take]
        repeat (first | go_big_quiet_skip | ((with_reducible refine onq_index (.tmp 105) ?_); refine wqm_at Pt.cs_length rfl _ (.tmp 105) _ rfl el_part rfl rfl (by omega) (by omega) (Th.Reach.refl _ _) hx1 ?_; intro b6 j6 t6 ht6 hc6; have hxx : p = t6 := get_eq Hpk.out ht6.out (by omega); subst hxx; have f6 : ∀ q : Step _ _, q.w.cell? ⟨b6, j6 + 2, none⟩ = some (.slice p.A p.n p.c) := fun q => hc6.out q.w ⟨q, rfl⟩ 2 _ rfl) | go_big_quiet_step (fail) | quiet_step (fail))
        refine wpQuiet_nil ?_
        refine hKF _ ?_
        clear hKF KF
        refine wpTree_one (fun KO hKO => ?_)
        simp only [List.drop, List.take]
        go_wp2_with (first | ((with_reducible refine on_append (.tmp 101) (.tmp 102) ?_); refine wl_appendS rfl (.tmp 101) (.tmp 102) _ rfl el_u8 (f := bv) (fun _ => rfl) rfl (ow11.drewN 1) rfl (ow10.drewN 1).rd (by simp; omega) (by omega) z10 ?_; intro A12 c12 w12 ow12 hg12 hb12) | (go_at_call 12; refine (groups18_any w6.heap.size _ _ _ _ p.A p.n p.c p.rk w12 (Nat.le_trans z10 hb12.size) ow12 (by rw [List.length_append, ow11.len, rowB_length]; simp; omega) R4.out (by omega) ((hrk.below (Bd.trans hb12)).heap) (Apart.below (hrk.below (Bd.trans hb12)) (Nat.le_refl _))).mono ?_; rintro e w13 ⟨A13, n13, c13, rfl, ow13, hb13⟩; have hb13' := hb13.b))
        refine anch_end (Th.Reach.of (by first | exact Below.refl _ _ | exact below_alloc _ (by first | omega | (simp; done) | (simp; omega)) _ | exact below_alloc2 _ (by first | omega | (simp; done) | (simp; omega)) _ _ | exact below_alloc2d _ (by simp) _ _ | exact bdrew _ _ | assumption | (exact Below.mono (by assumption) (by first | (simp; done) | (simp; omega) | omega | assumption)))) (hKO _ _ ?_)
        clear hKO KO
        refine wpTree_one (fun KO hKO => ?_)
        simp only [List.drop, List.take]
        go_wp2_with (first | ((with_reducible refine on_append (.tmp 101) (.tmp 102) ?_); refine wl_appendS rfl (.tmp 101) (.tmp 102) _ rfl el_u8 (f := bv) (fun _ => rfl) rfl (ow11.drewN 1) rfl (ow10.drewN 1).rd (by simp; omega) (by omega) z10 ?_; intro A12 c12 w12 ow12 hg12 hb12) | (go_at_call 12; refine (groups18_any w6.heap.size _ _ _ _ p.A p.n p.c p.rk w12 (Nat.le_trans z10 hb12.size) ow12 (by rw [List.length_append, ow11.len, rowB_length]; simp; omega) R4.out (by omega) ((hrk.below (Bd.trans hb12)).heap) (Apart.below (hrk.below (Bd.trans hb12)) (Nat.le_refl _))).mono ?_; rintro e w13 ⟨A13, n13, c13, rfl, ow13, hb13⟩; have hb13' := hb13.b))
        refine anch_end (Th.Reach.of (by first | exact Below.refl _ _ | exact below_alloc _ (by first | omega | (simp; done) | (simp; omega)) _ | exact below_alloc2 _ (by first | omega | (simp; done) | (simp; omega)) _ _ | exact below_alloc2d _ (by simp) _ _ | exact bdrew _ _ | assumption | (exact Below.mono (by assumption) (by first | (simp; done) | (simp; omega) | omega | assumption)))) (hKO _ _ ?_)
        clear hKO KO
        refine wpTree_float (fun KF hKF => ?_)
        simp only [List.drop, List.take]
        repeat (first | go_big_quiet_skip | ((with_reducible refine onq_index (.tmp 105) ?_); refine wqm_at Pt.cs_length rfl _ (.tmp 105) _ rfl el_part rfl rfl (by omega) (by omega) (Th.Reach.refl _ _) hx1 ?_; intro b6 j6 t6 ht6 hc6; have hxx : p = t6 := get_eq Hpk.out ht6.out (by omega); subst hxx; have f6 : ∀ q : Step _ _, q.w.cell? ⟨b6, j6 + 2, none⟩ = some (.slice p.A p.n p.c) := fun q => hc6.out q.w ⟨q, rfl⟩ 2 _ rfl) | go_big_quiet_step (fail) | quiet_step (fail))
        refine wpQuiet_nil ?_
        refine hKF _ ?_
        clear hKF KF
        refine wpTree_done ?_
        refine hKT _ _ ?_
        clear hKT KT
        go_wp2
        go_roundw
        case rel =>
          rw [rowB_two, List.append_assoc, List.append_assoc, List.append_assoc] at ow13
          have ec : pre ++ pbodies ((psa.map pkey).take (k + 1)) = pre ++ (pbodies ((psa.map pkey).take k) ++ (be p.fr.toNat 4 ++ be p.to.toNat 4 ++ gN p.rk)) := by rw [Hpb.out]; simp [pbody, pkey]
          exact ⟨k + 1, _, c13, A13, by omega, by go_num, rfl, by rw [ec]; exact ow13, (Bd.trans hb12).trans hb13'⟩
        case measure => simp [intOf]; omega
      · obtain rfl : k = na := by omega
        have hfull : (psa.map pkey).take k = psa.map pkey := List.take_of_length_le (by rw [List.length_map]; have := Hnp.out; omega)
        have hcb2 := Hcb.out
        rw [hfull, hcb2] at ow
        have hlq := ow.len
        have hl9 := M6.len
        have K2 := Lib.hid (fput_any 1129468977 (by omega) 1129468977 rfl A1 m c1 wr.drew (by omega) _ (ow.rd.step (bdrew1 wr)).heap)
        rw [Hfa.out] at K2
        have rP := ((o1.rd.step hb).heap.step (bdrew1 wr)).heap.reach
        have kq := fun W (h : Below wr.heap.size wr.drew W) => B6.trans ((hb.trans (((bdrew1 wr).trans h).mono hbz)).mono B6.size)
        clear hlq hl9 hcb2 hfull Hlen Hcb
        go_upto_region 22 with fail
        refine wp_region_tree (.float 0 9 (.one 9 (.float 10 4 .done))) Th.Grow Th.Grow.trans Th.Grow.refl (by kernel_rfl) (by kernel_rfl) (fun KT hKT => ?_)
        refine wpTree_float (fun KF hKF => ?_)
        simp only [List.drop, List.take]
        repeat (first | go_big_quiet_skip | ((with_reducible refine onq_cv (.tmp 117) ?_); refine wq_strS rfl _ _ (.tmp 117) rfl el_u8 Try.underlying5 Try.underlying9 rfl rP ?_) | ((with_reducible refine onq_cv (.tmp 120) ?_); refine wq_strS rfl _ _ (.tmp 120) rfl el_u8 Try.underlying5 Try.underlying9 rfl p2 ?_) | go_big_quiet_step (fail) | quiet_step (fail))
        refine wpQuiet_nil ?_
        refine hKF _ ?_
        clear hKF KF
        refine wpTree_one (fun KO hKO => ?_)
        simp only [List.drop, List.take]
        go_wp2_with (first | (go_at_call 15; refine (K2.out).mono ?_; rintro e w16 ⟨A16, n16, c16, rfl, ow16, hb16⟩; have p2 := ow16.rd.reach))
        refine anch_end (Th.Reach.of (by first | exact Below.refl _ _ | exact below_alloc _ (by first | omega | (simp; done) | (simp; omega)) _ | exact below_alloc2 _ (by first | omega | (simp; done) | (simp; omega)) _ _ | exact below_alloc2d _ (by simp) _ _ | exact bdrew _ _ | assumption | (exact Below.mono (by assumption) (by first | (simp; done) | (simp; omega) | omega | assumption)))) (hKO _ _ ?_)
        clear hKO KO
        refine wpTree_float (fun KF hKF => ?_)
        simp only [List.drop, List.take]
        repeat (first | go_big_quiet_skip | ((with_reducible refine onq_cv (.tmp 117) ?_); refine wq_strS rfl _ _ (.tmp 117) rfl el_u8 Try.underlying5 Try.underlying9 rfl rP ?_) | ((with_reducible refine onq_cv (.tmp 120) ?_); refine wq_strS rfl _ _ (.tmp 120) rfl el_u8 Try.underlying5 Try.underlying9 rfl p2 ?_) | go_big_quiet_step (fail) | quiet_step (fail))
        refine wpQuiet_nil ?_
        refine hKF _ ?_
        clear hKF KF
        refine wpTree_done ?_
        refine hKT _ _ ?_
        clear hKT KT
        go_wp2
        go_ret
        exact ⟨rfl, kq _ hb16⟩
  · have hps : psa = [] := by simpa using hk0
    subst hps
    have hna : na = 0 := by have := M6.parts.rd.len; simpa using this.symm
    subst hna
    obtain ⟨D, rfl⟩ := Int.eq_ofNat_of_zero_le hk1.1
    have hD : D ≤ 4294967295 := by omega
    have Hk3 := Lib.hid hk3
    clear hk3 hk0 hk1
    have Hfa2 : Hid (fput 1129468977 ([2] ++ gN [(I : Int)] ++ be D 4 ++ gN ([(ta : Int)] ++ tra)) = fa) := Lib.hid (by rw [← Hfa.out]; have := M6.trd.len; simp [cbody, gN, this, be])
    clear Hfa
    go_upto_region 7 with fail
    have oa := (OwS.lit (f := bv) (base := w6.heap.size) (e := 5) (xs := [2]) w6 #[.int .u8 2] 1 (Nat.le_refl _) (by simp [maxLen]) rfl rfl).alloc (.cells #[.int .i64 I] 3)
    have orow := OwS.lit' (f := iv) (base := w6.heap.size) (e := 3) (xs := [(I : Int)]) (w6.alloc (.cells #[.int .u8 2] 5)) #[.int .i64 I] 1 (w6.heap.size + 1) (by simp) (by simp) (by simp [maxLen]) rfl rfl
    have k7 : Below w6.heap.size w6 ((w6.alloc (.cells #[.int .u8 2] 5)).alloc (.cells #[.int .i64 I] 3)) := (below_alloc w6 (Nat.le_refl _) _).alloc (by simp) _
    obtain ⟨w7, hw7⟩ : ∃ W, (w6.alloc (.cells #[.int .u8 2] 5)).alloc (.cells #[.int .i64 I] 3) = W := ⟨_, rfl⟩
    rw [hw7] at oa orow k7 ⊢
    clear hw7
    have M7 := M6.step k7
    have c0 : w7.cell? ⟨g8, 0, none⟩ = some (.int .i64 2) := M7.box.cell 0
    have z7 := k7.size
    have hrow8 : ∀ z ∈ [(I : Int)], 0 ≤ z ∧ z < 268435456 := by simp; omega
    go_upto_region 10 with (go_at_call 12; refine (groups18_any w6.heap.size _ 1 1 [2] _ 1 1 [(I : Int)] w7 z7 oa (by simp) hrow8 (by omega) orow.rd (.inr (Apart.own orow))).mono ?_; rintro e w9 ⟨A9, n9, c9, rfl, ow9, hb9⟩; have M9 : MBox w9 g8 I 2 Aa 0 ca D Ta ta cta [] tra := M6.step (k7.trans hb9.b); have y0 : w9.cell? ⟨g8, 0, none⟩ = some (.int .i64 2) := M9.box.cell 0; have y2 : w9.cell? ⟨g8, 2, none⟩ = some (.int .u32 D) := M9.box.cell 2)
    have Bw := (k7.trans hb9.b)
    have l9 := ow9.len
    have hn9 : n9 ≤ 200 := by have h := gN_len [(I : Int)]; simp only [List.length_append, List.length_cons, List.length_nil] at h l9; omega
    have ht7 : ta ≤ 256 := by have := M6.trd.len; omega
    clear hb9 c0 x0 M7 M9 oa orow hrow8 l9
    have ps4 : PS (D : Int) (4 : Int) = (be D 4, 0) := by unfold PS; rw [if_pos (by simp [Fits]; omega)]; simp
    go_upto_region 14 with (go_at_call 13; refine (put_any (D : Int) 4 w9).mono ?_; rw [ps4]; rintro e w10 ⟨P2, p2, q2, rfl, o2, hb10⟩)
    have M10 := M6.step (Bw.trans (hb10.mono Bw.size))
    have wz : w6.heap.size ≤ w9.heap.size := Bw.size
    have B10 := Bw.trans (hb10.mono wz)
    have ow10 := ow9.below hb10
    have p10 := o2.rd
    have BD := B10.trans (bdrew1 w10)
    have qb : ∀ q : Step w6.heap.size w10.drew, q.w.cell? ⟨g8, 3, none⟩ = some (.slice Ta ta cta) := fun q => (M6.box.below (BD.trans q.h) gl6).cell 3
    clear y0 y2 hb10 M10 ow9 o2 k7 z7 w7
    have own : OwS bv w10.drew w6.heap.size 5 A9 n9 c9 ([2] ++ gN [(I : Int)]) := ow10.drewN 1
    have pw : RdS bv w10.drew w10.drew.heap.size P2 p2 q2 (be D 4) := (p10.step (bdrew1 w10)).heap
    have tw : RdS iv w10.drew w6.heap.size Ta ta cta tra := M6.trd.below BD
    have zw : w6.heap.size ≤ w10.drew.heap.size := BD.size
    have k7 := Below.refl w10.drew.heap.size w10.drew
    clear ow10 p10 B10
    have hp2 : p2 ≤ 4 := by have := pw.len; rw [be_length] at this; omega
    have hL : ([2] ++ gN [(I : Int)] ++ be D 4).length ≤ 1000000000 := by have h := gN_len [(I : Int)]; simp only [List.length_append, List.length_cons, List.length_nil, be_length] at h ⊢; omega
    have hG : ∀ z ∈ [(ta : Int)] ++ tra, 0 ≤ z ∧ z < 268435456 := by
      intro z hz
      rcases List.mem_append.1 hz with hz | hz
      · simp at hz; omega
      · exact Hk3.out z hz
    obtain ⟨all, hall⟩ : ∃ all, [2] ++ gN [(I : Int)] ++ be D 4 ++ gN ([(ta : Int)] ++ tra) = all := ⟨_, rfl⟩
    have hcb := hall
    have hal : all.length ≤ 20000 := by
      have h := gN_len [(I : Int)]
      have h2 := gN_len ([(ta : Int)] ++ tra)
      rw [← hall]
      simp only [List.length_append, List.length_cons, List.length_nil, be_length] at h h2 ⊢
      omega
    rw [hall] at Hfa2
    clear hall
    have Hcb := Lib.hid hcb
    clear hcb
    go_upto_region 14 with fail
    refine wp_region_tree (.float 0 2 (.float 3 3 (.float 7 2 (.two 2 (.one 6 (.one 9 (.one 10 (.float 11 1 .done)))) 6 (.one 2 (.one 9 (.one 10 (.float 11 1 .done)))))))) (Th.Reach w6.heap.size) (Th.Reach.trans _) (Th.Reach.refl _) (by kernel_rfl) (by kernel_rfl) (fun KT hKT => ?_)
    refine wpTree_float (fun KF hKF => ?_)
    simp only [List.drop, List.take]
    repeat (first | go_big_quiet_skip | go_big_quiet_step (fail) | quiet_step (fail))
    refine wpQuiet_nil ?_
    refine hKF _ ?_
    clear hKF KF
    refine wpTree_float (fun KF hKF => ?_)
    simp only [List.drop, List.take]
    repeat (first | go_big_quiet_skip | go_big_quiet_step (fail) | quiet_step (fail))
    refine wpQuiet_nil ?_
    refine hKF _ ?_
    clear hKF KF
    refine wpTree_float (fun KF hKF => ?_)
    simp only [List.drop, List.take]
    repeat (first | go_big_quiet_skip | go_big_quiet_step (fail) | quiet_step (fail))
    refine wpQuiet_nil ?_
    refine hKF _ ?_
    clear hKF KF
    refine wpTree_two ?_ ?_
    refine wpTree_one (fun KO hKO => ?_)
    simp only [List.drop, List.take]
    go_wp2_with (first | ((with_reducible refine on_append (.tmp 62) (.tmp 63) ?_); refine wl_appendS rfl (.tmp 62) (.tmp 63) _ rfl el_u8 (f := bv) (fun _ => rfl) rfl own rfl pw (by omega) (by omega) zw ?_; intro A12 c12 w12 own2 hg12 hb12; (try have ot := ot.grown hg12 (fun g hA hk => own_apart own ot g hk (by rw [hA]; rfl))); have own := own2; have BD := BD.trans hb12; have tw := M6.trd.below BD; have zw := Nat.le_trans zw hb12.size) | ((with_reducible refine on_sliceLit ?_); refine wl_oneI rfl _ rfl rfl (base := w6.heap.size) zw ?_; intro g13 w13 hg13 hl13 ot hb13; have own := own.below hb13; have hb13' := hb13.mono zw; have BD := BD.trans hb13'; have tw := M6.trd.below BD; have zw := Nat.le_trans zw hb13.size; (try have pw := (pw.step hb13).heap)) | ((with_reducible refine on_append (.tmp 68) (.tmp 70) ?_); refine wl_appendS rfl (.tmp 68) (.tmp 70) _ rfl el_int (f := iv) (fun _ => rfl) rfl ot rfl tw (by omega) (by omega) zw ?_; intro A15 c15 w15 ot2 hg15 hb15; have own := own.grown hg15 (fun g hA hk => own_apart own ot g (by rw [hA]; rfl) hk); have ot := ot2; have zw := Nat.le_trans zw hb15.size; have BD := BD.trans hb15) | (go_at_call 12; refine (groups18_any w6.heap.size _ _ _ _ _ _ _ ([(ta : Int)] ++ tra) _ zw own hL hG (by omega) ot.rd (.inr (Apart.own ot))).mono ?_; rintro e w17 ⟨A17, n17, c17, rfl, ow17, hb17⟩; have hb17' := hb17.b; have BD := BD.trans hb17'))
    refine anch_end (Th.Reach.of (by first | exact Below.refl _ _ | exact below_alloc _ (by first | omega | (simp; done) | (simp; omega)) _ | exact below_alloc2 _ (by first | omega | (simp; done) | (simp; omega)) _ _ | exact below_alloc2d _ (by simp) _ _ | exact bdrew _ _ | assumption | (exact Below.mono (by assumption) (by first | (simp; done) | (simp; omega) | omega | assumption)))) (hKO _ _ ?_)
    clear hKO KO
    refine wpTree_one (fun KO hKO => ?_)
    simp only [List.drop, List.take]
    go_wp2_with (first | ((with_reducible refine on_append (.tmp 62) (.tmp 63) ?_); refine wl_appendS rfl (.tmp 62) (.tmp 63) _ rfl el_u8 (f := bv) (fun _ => rfl) rfl own rfl pw (by omega) (by omega) zw ?_; intro A12 c12 w12 own2 hg12 hb12; (try have ot := ot.grown hg12 (fun g hA hk => own_apart own ot g hk (by rw [hA]; rfl))); have own := own2; have BD := BD.trans hb12; have tw := M6.trd.below BD; have zw := Nat.le_trans zw hb12.size) | ((with_reducible refine on_sliceLit ?_); refine wl_oneI rfl _ rfl rfl (base := w6.heap.size) zw ?_; intro g13 w13 hg13 hl13 ot hb13; have own := own.below hb13; have hb13' := hb13.mono zw; have BD := BD.trans hb13'; have tw := M6.trd.below BD; have zw := Nat.le_trans zw hb13.size; (try have pw := (pw.step hb13).heap)) | ((with_reducible refine on_append (.tmp 68) (.tmp 70) ?_); refine wl_appendS rfl (.tmp 68) (.tmp 70) _ rfl el_int (f := iv) (fun _ => rfl) rfl ot rfl tw (by omega) (by omega) zw ?_; intro A15 c15 w15 ot2 hg15 hb15; have own := own.grown hg15 (fun g hA hk => own_apart own ot g (by rw [hA]; rfl) hk); have ot := ot2; have zw := Nat.le_trans zw hb15.size; have BD := BD.trans hb15) | (go_at_call 12; refine (groups18_any w6.heap.size _ _ _ _ _ _ _ ([(ta : Int)] ++ tra) _ zw own hL hG (by omega) ot.rd (.inr (Apart.own ot))).mono ?_; rintro e w17 ⟨A17, n17, c17, rfl, ow17, hb17⟩; have hb17' := hb17.b; have BD := BD.trans hb17'))
    refine anch_end (Th.Reach.of (by first | exact Below.refl _ _ | exact below_alloc _ (by first | omega | (simp; done) | (simp; omega)) _ | exact below_alloc2 _ (by first | omega | (simp; done) | (simp; omega)) _ _ | exact below_alloc2d _ (by simp) _ _ | exact bdrew _ _ | assumption | (exact Below.mono (by assumption) (by first | (simp; done) | (simp; omega) | omega | assumption)))) (hKO _ _ ?_)
    clear hKO KO
    refine wpTree_one (fun KO hKO => ?_)
    simp only [List.drop, List.take]
    go_wp2_with (first | ((with_reducible refine on_append (.tmp 62) (.tmp 63) ?_); refine wl_appendS rfl (.tmp 62) (.tmp 63) _ rfl el_u8 (f := bv) (fun _ => rfl) rfl own rfl pw (by omega) (by omega) zw ?_; intro A12 c12 w12 own2 hg12 hb12; (try have ot := ot.grown hg12 (fun g hA hk => own_apart own ot g hk (by rw [hA]; rfl))); have own := own2; have BD := BD.trans hb12; have tw := M6.trd.below BD; have zw := Nat.le_trans zw hb12.size) | ((with_reducible refine on_sliceLit ?_); refine wl_oneI rfl _ rfl rfl (base := w6.heap.size) zw ?_; intro g13 w13 hg13 hl13 ot hb13; have own := own.below hb13; have hb13' := hb13.mono zw; have BD := BD.trans hb13'; have tw := M6.trd.below BD; have zw := Nat.le_trans zw hb13.size; (try have pw := (pw.step hb13).heap)) | ((with_reducible refine on_append (.tmp 68) (.tmp 70) ?_); refine wl_appendS rfl (.tmp 68) (.tmp 70) _ rfl el_int (f := iv) (fun _ => rfl) rfl ot rfl tw (by omega) (by omega) zw ?_; intro A15 c15 w15 ot2 hg15 hb15; have own := own.grown hg15 (fun g hA hk => own_apart own ot g (by rw [hA]; rfl) hk); have ot := ot2; have zw := Nat.le_trans zw hb15.size; have BD := BD.trans hb15) | (go_at_call 12; refine (groups18_any w6.heap.size _ _ _ _ _ _ _ ([(ta : Int)] ++ tra) _ zw own hL hG (by omega) ot.rd (.inr (Apart.own ot))).mono ?_; rintro e w17 ⟨A17, n17, c17, rfl, ow17, hb17⟩; have hb17' := hb17.b; have BD := BD.trans hb17'))
    refine anch_end (Th.Reach.of (by first | exact Below.refl _ _ | exact below_alloc _ (by first | omega | (simp; done) | (simp; omega)) _ | exact below_alloc2 _ (by first | omega | (simp; done) | (simp; omega)) _ _ | exact below_alloc2d _ (by simp) _ _ | exact bdrew _ _ | assumption | (exact Below.mono (by assumption) (by first | (simp; done) | (simp; omega) | omega | assumption)))) (hKO _ _ ?_)
    clear hKO KO
    refine wpTree_one (fun KO hKO => ?_)
    simp only [List.drop, List.take]
    go_wp2_with (first | ((with_reducible refine on_append (.tmp 62) (.tmp 63) ?_); refine wl_appendS rfl (.tmp 62) (.tmp 63) _ rfl el_u8 (f := bv) (fun _ => rfl) rfl own rfl pw (by omega) (by omega) zw ?_; intro A12 c12 w12 own2 hg12 hb12; (try have ot := ot.grown hg12 (fun g hA hk => own_apart own ot g hk (by rw [hA]; rfl))); have own := own2; have BD := BD.trans hb12; have tw := M6.trd.below BD; have zw := Nat.le_trans zw hb12.size) | ((with_reducible refine on_sliceLit ?_); refine wl_oneI rfl _ rfl rfl (base := w6.heap.size) zw ?_; intro g13 w13 hg13 hl13 ot hb13; have own := own.below hb13; have hb13' := hb13.mono zw; have BD := BD.trans hb13'; have tw := M6.trd.below BD; have zw := Nat.le_trans zw hb13.size; (try have pw := (pw.step hb13).heap)) | ((with_reducible refine on_append (.tmp 68) (.tmp 70) ?_); refine wl_appendS rfl (.tmp 68) (.tmp 70) _ rfl el_int (f := iv) (fun _ => rfl) rfl ot rfl tw (by omega) (by omega) zw ?_; intro A15 c15 w15 ot2 hg15 hb15; have own := own.grown hg15 (fun g hA hk => own_apart own ot g (by rw [hA]; rfl) hk); have ot := ot2; have zw := Nat.le_trans zw hb15.size; have BD := BD.trans hb15) | (go_at_call 12; refine (groups18_any w6.heap.size _ _ _ _ _ _ _ ([(ta : Int)] ++ tra) _ zw own hL hG (by omega) ot.rd (.inr (Apart.own ot))).mono ?_; rintro e w17 ⟨A17, n17, c17, rfl, ow17, hb17⟩; have hb17' := hb17.b; have BD := BD.trans hb17'))
    refine anch_end (Th.Reach.of (by first | exact Below.refl _ _ | exact below_alloc _ (by first | omega | (simp; done) | (simp; omega)) _ | exact below_alloc2 _ (by first | omega | (simp; done) | (simp; omega)) _ _ | exact below_alloc2d _ (by simp) _ _ | exact bdrew _ _ | assumption | (exact Below.mono (by assumption) (by first | (simp; done) | (simp; omega) | omega | assumption)))) (hKO _ _ ?_)
    clear hKO KO
    refine wpTree_float (fun KF hKF => ?_)
    simp only [List.drop, List.take]
    repeat (first | go_big_quiet_skip | go_big_quiet_step (fail) | quiet_step (fail))
    refine wpQuiet_nil ?_
    refine hKF _ ?_
    clear hKF KF
    refine wpTree_done ?_
    refine hKT _ _ ?_
    clear hKT KT
    rotate_left 1
    refine wpTree_one (fun KO hKO => ?_)
    simp only [List.drop, List.take]
    go_wp2_with (first | ((with_reducible refine on_append (.tmp 62) (.tmp 63) ?_); refine wl_appendS rfl (.tmp 62) (.tmp 63) _ rfl el_u8 (f := bv) (fun _ => rfl) rfl own rfl pw (by omega) (by omega) zw ?_; intro A12 c12 w12 own2 hg12 hb12; (try have ot := ot.grown hg12 (fun g hA hk => own_apart own ot g hk (by rw [hA]; rfl))); have own := own2; have BD := BD.trans hb12; have tw := M6.trd.below BD; have zw := Nat.le_trans zw hb12.size) | ((with_reducible refine on_sliceLit ?_); refine wl_oneI rfl _ rfl rfl (base := w6.heap.size) zw ?_; intro g13 w13 hg13 hl13 ot hb13; have own := own.below hb13; have hb13' := hb13.mono zw; have BD := BD.trans hb13'; have tw := M6.trd.below BD; have zw := Nat.le_trans zw hb13.size; (try have pw := (pw.step hb13).heap)) | ((with_reducible refine on_append (.tmp 68) (.tmp 70) ?_); refine wl_appendS rfl (.tmp 68) (.tmp 70) _ rfl el_int (f := iv) (fun _ => rfl) rfl ot rfl tw (by omega) (by omega) zw ?_; intro A15 c15 w15 ot2 hg15 hb15; have own := own.grown hg15 (fun g hA hk => own_apart own ot g (by rw [hA]; rfl) hk); have ot := ot2; have zw := Nat.le_trans zw hb15.size; have BD := BD.trans hb15) | (go_at_call 12; refine (groups18_any w6.heap.size _ _ _ _ _ _ _ ([(ta : Int)] ++ tra) _ zw own hL hG (by omega) ot.rd (.inr (Apart.own ot))).mono ?_; rintro e w17 ⟨A17, n17, c17, rfl, ow17, hb17⟩; have hb17' := hb17.b; have BD := BD.trans hb17'))
    refine anch_end (Th.Reach.of (by first | exact Below.refl _ _ | exact below_alloc _ (by first | omega | (simp; done) | (simp; omega)) _ | exact below_alloc2 _ (by first | omega | (simp; done) | (simp; omega)) _ _ | exact below_alloc2d _ (by simp) _ _ | exact bdrew _ _ | assumption | (exact Below.mono (by assumption) (by first | (simp; done) | (simp; omega) | omega | assumption)))) (hKO _ _ ?_)
    clear hKO KO
    refine wpTree_one (fun KO hKO => ?_)
    simp only [List.drop, List.take]
    go_wp2_with (first | ((with_reducible refine on_append (.tmp 62) (.tmp 63) ?_); refine wl_appendS rfl (.tmp 62) (.tmp 63) _ rfl el_u8 (f := bv) (fun _ => rfl) rfl own rfl pw (by omega) (by omega) zw ?_; intro A12 c12 w12 own2 hg12 hb12; (try have ot := ot.grown hg12 (fun g hA hk => own_apart own ot g hk (by rw [hA]; rfl))); have own := own2; have BD := BD.trans hb12; have tw := M6.trd.below BD; have zw := Nat.le_trans zw hb12.size) | ((with_reducible refine on_sliceLit ?_); refine wl_oneI rfl _ rfl rfl (base := w6.heap.size) zw ?_; intro g13 w13 hg13 hl13 ot hb13; have own := own.below hb13; have hb13' := hb13.mono zw; have BD := BD.trans hb13'; have tw := M6.trd.below BD; have zw := Nat.le_trans zw hb13.size; (try have pw := (pw.step hb13).heap)) | ((with_reducible refine on_append (.tmp 68) (.tmp 70) ?_); refine wl_appendS rfl (.tmp 68) (.tmp 70) _ rfl el_int (f := iv) (fun _ => rfl) rfl ot rfl tw (by omega) (by omega) zw ?_; intro A15 c15 w15 ot2 hg15 hb15; have own := own.grown hg15 (fun g hA hk => own_apart own ot g (by rw [hA]; rfl) hk); have ot := ot2; have zw := Nat.le_trans zw hb15.size; have BD := BD.trans hb15) | (go_at_call 12; refine (groups18_any w6.heap.size _ _ _ _ _ _ _ ([(ta : Int)] ++ tra) _ zw own hL hG (by omega) ot.rd (.inr (Apart.own ot))).mono ?_; rintro e w17 ⟨A17, n17, c17, rfl, ow17, hb17⟩; have hb17' := hb17.b; have BD := BD.trans hb17'))
    refine anch_end (Th.Reach.of (by first | exact Below.refl _ _ | exact below_alloc _ (by first | omega | (simp; done) | (simp; omega)) _ | exact below_alloc2 _ (by first | omega | (simp; done) | (simp; omega)) _ _ | exact below_alloc2d _ (by simp) _ _ | exact bdrew _ _ | assumption | (exact Below.mono (by assumption) (by first | (simp; done) | (simp; omega) | omega | assumption)))) (hKO _ _ ?_)
    clear hKO KO
    refine wpTree_one (fun KO hKO => ?_)
    simp only [List.drop, List.take]
    go_wp2_with (first | ((with_reducible refine on_append (.tmp 62) (.tmp 63) ?_); refine wl_appendS rfl (.tmp 62) (.tmp 63) _ rfl el_u8 (f := bv) (fun _ => rfl) rfl own rfl pw (by omega) (by omega) zw ?_; intro A12 c12 w12 own2 hg12 hb12; (try have ot := ot.grown hg12 (fun g hA hk => own_apart own ot g hk (by rw [hA]; rfl))); have own := own2; have BD := BD.trans hb12; have tw := M6.trd.below BD; have zw := Nat.le_trans zw hb12.size) | ((with_reducible refine on_sliceLit ?_); refine wl_oneI rfl _ rfl rfl (base := w6.heap.size) zw ?_; intro g13 w13 hg13 hl13 ot hb13; have own := own.below hb13; have hb13' := hb13.mono zw; have BD := BD.trans hb13'; have tw := M6.trd.below BD; have zw := Nat.le_trans zw hb13.size; (try have pw := (pw.step hb13).heap)) | ((with_reducible refine on_append (.tmp 68) (.tmp 70) ?_); refine wl_appendS rfl (.tmp 68) (.tmp 70) _ rfl el_int (f := iv) (fun _ => rfl) rfl ot rfl tw (by omega) (by omega) zw ?_; intro A15 c15 w15 ot2 hg15 hb15; have own := own.grown hg15 (fun g hA hk => own_apart own ot g (by rw [hA]; rfl) hk); have ot := ot2; have zw := Nat.le_trans zw hb15.size; have BD := BD.trans hb15) | (go_at_call 12; refine (groups18_any w6.heap.size _ _ _ _ _ _ _ ([(ta : Int)] ++ tra) _ zw own hL hG (by omega) ot.rd (.inr (Apart.own ot))).mono ?_; rintro e w17 ⟨A17, n17, c17, rfl, ow17, hb17⟩; have hb17' := hb17.b; have BD := BD.trans hb17'))
    refine anch_end (Th.Reach.of (by first | exact Below.refl _ _ | exact below_alloc _ (by first | omega | (simp; done) | (simp; omega)) _ | exact below_alloc2 _ (by first | omega | (simp; done) | (simp; omega)) _ _ | exact below_alloc2d _ (by simp) _ _ | exact bdrew _ _ | assumption | (exact Below.mono (by assumption) (by first | (simp; done) | (simp; omega) | omega | assumption)))) (hKO _ _ ?_)
    clear hKO KO
    refine wpTree_one (fun KO hKO => ?_)
    simp only [List.drop, List.take]
    go_wp2_with (first | ((with_reducible refine on_append (.tmp 62) (.tmp 63) ?_); refine wl_appendS rfl (.tmp 62) (.tmp 63) _ rfl el_u8 (f := bv) (fun _ => rfl) rfl own rfl pw (by omega) (by omega) zw ?_; intro A12 c12 w12 own2 hg12 hb12; (try have ot := ot.grown hg12 (fun g hA hk => own_apart own ot g hk (by rw [hA]; rfl))); have own := own2; have BD := BD.trans hb12; have tw := M6.trd.below BD; have zw := Nat.le_trans zw hb12.size) | ((with_reducible refine on_sliceLit ?_); refine wl_oneI rfl _ rfl rfl (base := w6.heap.size) zw ?_; intro g13 w13 hg13 hl13 ot hb13; have own := own.below hb13; have hb13' := hb13.mono zw; have BD := BD.trans hb13'; have tw := M6.trd.below BD; have zw := Nat.le_trans zw hb13.size; (try have pw := (pw.step hb13).heap)) | ((with_reducible refine on_append (.tmp 68) (.tmp 70) ?_); refine wl_appendS rfl (.tmp 68) (.tmp 70) _ rfl el_int (f := iv) (fun _ => rfl) rfl ot rfl tw (by omega) (by omega) zw ?_; intro A15 c15 w15 ot2 hg15 hb15; have own := own.grown hg15 (fun g hA hk => own_apart own ot g (by rw [hA]; rfl) hk); have ot := ot2; have zw := Nat.le_trans zw hb15.size; have BD := BD.trans hb15) | (go_at_call 12; refine (groups18_any w6.heap.size _ _ _ _ _ _ _ ([(ta : Int)] ++ tra) _ zw own hL hG (by omega) ot.rd (.inr (Apart.own ot))).mono ?_; rintro e w17 ⟨A17, n17, c17, rfl, ow17, hb17⟩; have hb17' := hb17.b; have BD := BD.trans hb17'))
    refine anch_end (Th.Reach.of (by first | exact Below.refl _ _ | exact below_alloc _ (by first | omega | (simp; done) | (simp; omega)) _ | exact below_alloc2 _ (by first | omega | (simp; done) | (simp; omega)) _ _ | exact below_alloc2d _ (by simp) _ _ | exact bdrew _ _ | assumption | (exact Below.mono (by assumption) (by first | (simp; done) | (simp; omega) | omega | assumption)))) (hKO _ _ ?_)
    clear hKO KO
    refine wpTree_float (fun KF hKF => ?_)
    simp only [List.drop, List.take]
    repeat (first | go_big_quiet_skip | go_big_quiet_step (fail) | quiet_step (fail))
    refine wpQuiet_nil ?_
    refine hKF _ ?_
    clear hKF KF
    refine wpTree_done ?_
    refine hKT _ _ ?_
    clear hKT KT
    rotate_right 1
    all_goals
      rw [Hcb.out] at ow17
      clear own ot tw zw
      go_wp2_with fail
      go_loopw [10, 14] (fun b i wr => b = .slice A17 n17 c17 ∧ i = .int .i64 0 ∧ wr = w17) (fun _ i _ => 0)
      case atStart => exact ⟨rfl, rfl, rfl⟩
      case round =>
        obtain ⟨hb0, hi0, hw0⟩ := hrel
        subst hb0 hi0 hw0
        have y1 : wr.cell? ⟨g8, 1, none⟩ = some (.slice Aa 0 ca) := (M6.box.below BD gl6).cell 1
        have hlq := ow17.len
        have hbz := BD.size
        have K2 := Lib.hid (fput_any 1129468977 (by omega) 1129468977 rfl A17 n17 c17 wr.drew (by omega) _ (ow17.rd.step (bdrew1 wr)).heap)
        rw [Hfa2.out] at K2
        have rP := ((o1.rd.step BD).heap.step (bdrew1 wr)).heap.reach
        have kq := fun W (h : Below wr.heap.size wr.drew W) => B6.trans ((BD.trans (((bdrew1 wr).trans h).mono hbz)).mono B6.size)
        clear hlq
        go_upto_region 22 with fail
        refine wp_region_tree (.float 0 9 (.one 9 (.float 10 4 .done))) Th.Grow Th.Grow.trans Th.Grow.refl (by kernel_rfl) (by kernel_rfl) (fun KT hKT => ?_)
        refine wpTree_float (fun KF hKF => ?_)
        simp only [List.drop, List.take]
        repeat (first | go_big_quiet_skip | ((with_reducible refine onq_cv (.tmp 117) ?_); refine wq_strS rfl _ _ (.tmp 117) rfl el_u8 Try.underlying5 Try.underlying9 rfl rP ?_) | ((with_reducible refine onq_cv (.tmp 120) ?_); refine wq_strS rfl _ _ (.tmp 120) rfl el_u8 Try.underlying5 Try.underlying9 rfl p2 ?_) | go_big_quiet_step (fail) | quiet_step (fail))
        refine wpQuiet_nil ?_
        refine hKF _ ?_
        clear hKF KF
        refine wpTree_one (fun KO hKO => ?_)
        simp only [List.drop, List.take]
        go_wp2_with (first | (go_at_call 15; refine (K2.out).mono ?_; rintro e w16 ⟨A16, n16, c16, rfl, ow16, hb16⟩; have p2 := ow16.rd.reach))
        refine anch_end (Th.Reach.of (by first | exact Below.refl _ _ | exact below_alloc _ (by first | omega | (simp; done) | (simp; omega)) _ | exact below_alloc2 _ (by first | omega | (simp; done) | (simp; omega)) _ _ | exact below_alloc2d _ (by simp) _ _ | exact bdrew _ _ | assumption | (exact Below.mono (by assumption) (by first | (simp; done) | (simp; omega) | omega | assumption)))) (hKO _ _ ?_)
        clear hKO KO
        refine wpTree_float (fun KF hKF => ?_)
        simp only [List.drop, List.take]
        repeat (first | go_big_quiet_skip | ((with_reducible refine onq_cv (.tmp 117) ?_); refine wq_strS rfl _ _ (.tmp 117) rfl el_u8 Try.underlying5 Try.underlying9 rfl rP ?_) | ((with_reducible refine onq_cv (.tmp 120) ?_); refine wq_strS rfl _ _ (.tmp 120) rfl el_u8 Try.underlying5 Try.underlying9 rfl p2 ?_) | go_big_quiet_step (fail) | quiet_step (fail))
        refine wpQuiet_nil ?_
        refine hKF _ ?_
        clear hKF KF
        refine wpTree_done ?_
        refine hKT _ _ ?_
        clear hKT KT
        go_wp2
        go_ret
        exact ⟨rfl, kq _ hb16⟩
theorem certfileParts_walk {w : World} (v : Int) (Ap : Option Addr) (np cp : Nat) (d : Int) (At : Option Addr) (nt ct : Nat) (ps : List Pt) (tr : List Int) (ci : CertIn w v Ap np cp d At nt ct ps tr) (n0 : Int) (h0 : 0 ≤ n0 ∧ n0 ≤ 255) :
    Calls Try.prog 3 #[.agg #[.int .i64 v, .slice Ap np cp, .int .u32 d, .slice At nt ct], .int .u8 n0] w fun e w' => e = .returned (.bool true) ∧ Below w.heap.size w w' := by
  obtain ⟨k, rfl⟩ := Int.eq_ofNat_of_zero_le h0.1
  exact certfileParts_core v Ap np cp d At nt ct ps tr ci k (by omega)
end Go.Proofs.Ytjambnlocjjjpaa
