/-
  theseuslaw10.NetfileParts: the walk.
-/
import Derived.Test.YtgapcmodhcdebaaNfMade
import Derived.Deep.DeepCutAuto
namespace Go.Proofs.Ytgapcmodhcdebaa
open Go.RowKit Go.Th
set_option linter.unusedVariables false
def NpRel (ns : List Nd) (n : Nat) (w1 : World) (all i : Value) (wr : World) : Prop :=
  ∃ (k m c : Nat) (A : Option Addr), k ≤ n ∧ i = .int .i64 k ∧ all = .slice A m c ∧ OwS bv wr w1.heap.size 5 A m c (gput n ++ nrows ((Nd.ls ns).take k)) ∧ Below w1.heap.size w1 wr
def NqRel (l : List Ru) (n : Nat) (w1 : World) (inn i : Value) (wr : World) : Prop :=
  ∃ (k m c : Nat) (A : Option Addr), k ≤ n ∧ i = .int .i64 k ∧ inn = .slice A m c ∧ OwS bv wr w1.heap.size 5 A m c (gput n ++ lrows (l.take k)) ∧ Below w1.heap.size w1 wr
set_option maxRecDepth 100000 in
set_option maxHeartbeats 4000000 in
theorem netfileParts_walk {w : World} (A : Option Addr) (n c : Nat) (ns : List Nd) (ni : NetIn w A n c ns) :
    Calls Try.prog 7 #[.agg #[.slice A n c]] w fun e w' => e = .returned (.bool true) ∧ Below w.heap.size w w' := by
  have K1 := Lib.hid (made_any A n c ns w ni)
  clear ni
  have k0 := below_alloc w (Nat.le_refl _) (.cells #[.slice A n c] 24)
  have b0 := Box.new w #[.slice A n c] 24
  go_enter Try.func7, Try.ntmps7
  go_upto_region 2 with (go_at_call 10; refine (shown10 _).mono ?_; rintro e w1 ⟨rfl, hb1⟩; have bx1 := b0.step hb1)
  have B1 := k0.trans (hb1.mono k0.size)
  clear k0 b0 hb1
  go_upto_region 3 with (first
    | ((with_reducible refine on_load (.tmp 1) ?_); refine wb_load rfl _ (.tmp 1) rfl st_net rfl bx1 rfl ?_)
    | (go_at_call 19; refine (K1.out _ B1).mono ?_; rintro e w2 ⟨Aa, na, ca, nsa, rfl, hra, oka, sma, nba, hb2⟩)
    | ((with_reducible refine on_alloc ?_); refine wl_newBox rfl _ rfl z_net ?_; intro ga w3 hg3 hl3 bg3 hb3)
    | ((with_reducible refine on_store_at (.tmp 4) ?_); refine wb_store (cs := #[.slice none 0 0]) (cs' := #[.slice Aa na ca]) rfl _ (.tmp 4) _ rfl st_net rfl rfl bg3 rfl rfl (by simp [Value.oneCell']) ?_; intro w4 bx4 hg4))
  have bd4 := hb3.trans (below_of_grown (B := w2.heap.size) hg4 (fun j e => by injection e with e; omega) hb3.size)
  have M4 : NBox w4 ga Aa na ca nsa := ⟨bx4, (hra.step bd4).heap, oka, sma, nba⟩
  have b14 := hb2.trans (bd4.mono hb2.size)
  have B4 := B1.trans (b14.mono B1.size)
  clear bd4 b14 bx4 hra oka sma nba hg4 hb3 bg3 hg3 hl3 hb2 B1 bx1 K1
  obtain ⟨fa, hfa⟩ : ∃ f, fput 1179206193 (nbody (Nd.ls nsa)) = f := ⟨_, rfl⟩
  have Hfa := Lib.hid hfa
  clear hfa
  go_upto_region 4 with (first
    | ((with_reducible refine on_load (.tmp 4) ?_); refine wb_load rfl _ (.tmp 4) rfl st_net rfl M4.box rfl ?_)
    | (go_at_call 11; (with_reducible refine (M4.put fa Hfa.out).mono ?_); rintro e w8 ⟨P1, p1, q1, rfl, o1, hb8⟩))
  have M8 := M4.step hb8
  have B8 := B4.trans (hb8.mono B4.size)
  have hnn := M8.nb
  have hl8 := M8.rd.len
  have y8 : w8.cell? ⟨ga, 0, none⟩ = some (.slice Aa na ca) := M8.box.cell 0
  have hrf := nmay_rfit M8.ok.may M8.ok.ok
  have Hrf := Lib.hid (NRd.of_ls M8.rd hrf)
  have hlenb := M8.len
  have hsz := M8.size
  clear M4 hb8 hrf
  go_upto_region 8 with (go_at_call 21; refine (gput_natF na (by omega) w8).mono ?_; rintro e w9 ⟨A9, c9, rfl, ow9, hb9⟩)
  go_wp2_with fail
  go_loopw [7, 9] (fun all i wr => NpRel nsa na w8 all i wr) (fun _ i _ => na - (intOf i).toNat)
  case atStart => exact ⟨0, _, c9, A9, by omega, rfl, rfl, by simpa [nrows] using ow9, hb9⟩
  case round =>
    obtain ⟨k, m, c1, A1, hk, rfl, rfl, ow, hb⟩ := hrel
    generalize wr = wo at *
    clear wr
    have Mr := M8.step hb
    have hz := hb.size
    have yr : wo.cell? ⟨ga, 0, none⟩ = some (.slice Aa na ca) := Mr.box.cell 0
    have hml := ow.len
    have hm2 : m ≤ 100000 := by
      have h1 := nrows_le ((Nd.ls nsa).take k) (fun l hl => by have := len_le_nsize (List.mem_of_mem_take hl); omega)
      have h2 : ((Nd.ls nsa).take k).length ≤ na := by rw [List.length_take, Nd.ls_len]; omega
      have h3 := gsize_pos na
      have h4 := nsize_take_le (Nd.ls nsa) k
      rw [List.length_append, gput_length] at hml
      omega
    clear hml ow9 hb9
    by_cases hlt : k < na
    · obtain ⟨x, hx⟩ : ∃ x, nsa[k]? = some x := ⟨nsa[k]'(by omega), List.getElem?_eq_getElem _⟩
      have hxm := List.mem_of_getElem? hx
      have htk := nrows_take (Nd.ls_get hx)
      have hxl := (Mr.rd.rk x hxm).len
      have hx20 := Mr.small x hxm
      have Hx := Lib.hid hx
      have Htk := Lib.hid htk
      have Hxl := Lib.hid hxl
      clear hx htk hxl
      go_upto_region 11 with (first
        | ((with_reducible refine on_index (.tmp 51) ?_); refine wn_at rfl _ (.tmp 51) _ rfl el_row rfl rfl (by omega) (by omega) Mr.rd.rd ?_; intro b1 j1 r1 hr1 hb1 hc1; have hxx : x = r1 := (by have e := hr1.out; rw [Int.toNat_natCast, Hx.out] at e; injection e); subst hxx)
        | (go_at_call 21; refine (gput_natF x.n (by omega) wo).mono ?_; rintro e w10 ⟨A10, c10, rfl, ow10, hb10⟩))
      go_wp2_with fail
      go_loopw [10, 12] (fun inn i wq => NqRel x.l x.n wo inn i wq) (fun _ i _ => x.n - (intOf i).toNat)
      case atStart => exact ⟨0, _, c10, A10, by omega, rfl, rfl, by simpa [lrows] using ow10, hb10⟩
      case round =>
        obtain ⟨j, mi, ci, Ai, hj, rfl, rfl, owi, hbi⟩ := hrel
        have hzi := hbi.size
        have Mi := Mr.step hbi
        have yi : wr.cell? ⟨ga, 0, none⟩ = some (.slice Aa na ca) := Mi.box.cell 0
        have hmli := owi.len
        have hmi2 : mi ≤ 100000 := by
          have h1 := lrows_length (x.l.take j)
          have h2 : (x.l.take j).length ≤ x.n := by rw [List.length_take]; have := Hxl.out; omega
          have h3 := gsize_pos x.n
          rw [List.length_append, gput_length] at hmli
          omega
        clear hmli ow10 hb10
        by_cases hlj : j < x.n
        · obtain ⟨r, hr0⟩ : ∃ r, x.l[j]? = some r := ⟨x.l[j]'(by have := Hxl.out; omega), List.getElem?_eq_getElem _⟩
          obtain ⟨hok, hfi⟩ := Hrf.out x hxm r (List.mem_of_getElem? hr0)
          have htk2 := lrows_take hr0
          have Hput := Lib.hid (fun W => put_fits r hok.a hfi (pre r 4) rfl W)
          have Htk2 := Lib.hid htk2
          have Hr0 := Lib.hid hr0
          have hxr := Mi.rd.rk x hxm
          clear htk2 hr0 hfi hok
          go_wp2_with (first
            | ((with_reducible refine on_index (.tmp 61) ?_); refine wn_at rfl _ (.tmp 61) _ rfl el_row rfl rfl (by omega) (by omega) Mi.rd.rd ?_; intro b2 j2 r2 hr2 hb2 hc2; have hxx : x = r2 := (by have e := hr2.out; rw [Int.toNat_natCast, Hx.out] at e; injection e); subst hxx)
            | ((with_reducible refine on_index (.tmp 71) ?_); refine wn_at rfl _ (.tmp 71) _ rfl el_row rfl rfl (by omega) (by omega) Mi.rd.rd ?_; intro b3 j3 r3 hr3 hb3 hc3; have hxx : x = r3 := (by have e := hr3.out; rw [Int.toNat_natCast, Hx.out] at e; injection e); subst hxx)
            | ((with_reducible refine on_index (.tmp 74) ?_); refine wm_at Ru.cs_length rfl _ (.tmp 74) _ rfl el_rule rfl rfl (by omega) (by omega) hxr ?_; intro b4 j4 r4 hr4 hb4 hc4; have hxx : r = r4 := (by have e := hr4.out; rw [Int.toNat_natCast, Hr0.out] at e; injection e); subst hxx)
            | ((with_reducible refine on_load (.tmp 76) ?_); refine wr_load rfl _ _ rfl st_rule rfl hc4 ?_)
            | (go_at_call 22; refine (Hput.out wr).mono ?_; rintro e w5 ⟨A5, c5, rfl, ow5, hb5⟩; have ow4 := owi.below hb5)
            | ((with_reducible refine on_append (.tmp 83) (.tmp 84) ?_); refine wl_appendS rfl (.tmp 83) (.tmp 84) _ rfl el_u8 (f := bv) (fun _ => rfl) rfl ow4 rfl ow5.rd (by omega) (by omega) (by have := hb5.size; omega) ?_; intro A6 c6 w6 ow6 hg6 hb6))
          go_roundw
          case rel => exact ⟨j + 1, _, c6, A6, by omega, by go_num, rfl, by rw [Htk2.out, ← List.append_assoc]; exact ow6, (hbi.trans (hb5.mono hzi)).trans hb6⟩
          case measure => simp [intOf]; omega
        · obtain rfl : j = x.n := by omega
          rw [List.take_of_length_le (by have := Hxl.out; omega)] at owi
          have elb : lbody x.l = gput x.n ++ lrows x.l := by unfold lbody; rw [Hxl.out]
          rw [← elb] at owi
          have owo := ow.below hbi
          have hsl : (fsec 84 (lbody x.l)).length ≤ 1000 := by have := fsec_length 84 (lbody x.l); have := lbody_length x.l; have := gsize_pos x.l.length; have := gsize_pos (lbody x.l).length; have := Hxl.out; omega
          have Hsl := Lib.hid hsl
          clear elb hsl
          go_wp2_with (first
            | ((with_reducible refine on_index (.tmp 61) ?_); refine wn_at rfl _ (.tmp 61) _ rfl el_row rfl rfl (by omega) (by omega) Mi.rd.rd ?_; intro b2 j2 r2 hr2 hb2 hc2; have hxx : x = r2 := (by have e := hr2.out; rw [Int.toNat_natCast, Hx.out] at e; injection e); subst hxx)
            | (go_at_call 23; refine (sec_any 84 84 rfl Ai mi ci wr (by omega) _ (lbody x.l) owi.rd (Nat.le_refl _)).mono ?_; rintro e w12 ⟨A12, n12, c12, rfl, ow12, hb12⟩; have ow13 := owo.below hb12; have l12 := ow12.len)
            | ((with_reducible refine on_append (.tmp 97) (.tmp 98) ?_); refine wl_appendS rfl (.tmp 97) (.tmp 98) _ rfl el_u8 (f := bv) (fun _ => rfl) rfl ow13 rfl ow12.rd (by have := Hsl.out; omega) (by omega) (by have := hb12.size; omega) ?_; intro A14 c14 w14 ow14 hg14 hb14))
          go_roundw
          case rel => exact ⟨k + 1, _, c14, A14, by omega, by go_num, rfl, by rw [Htk.out, ← List.append_assoc]; exact ow14, (hb.trans ((hbi.trans (hb12.mono hzi)).mono hz)).trans hb14⟩
          case measure => simp [intOf]; omega
    · obtain rfl : k = na := by omega
      rw [List.take_of_length_le (by rw [Nd.ls_len]; omega)] at ow
      have enb : nbody (Nd.ls nsa) = gput k ++ nrows (Nd.ls nsa) := by unfold nbody; rw [Nd.ls_len, hl8]
      rw [← enb] at ow
      have K2 := Lib.hid (fput_any 1179206193 (by omega) 1179206193 rfl A1 m c1 wo.drew (by omega) _ (ow.rd.step (bdrew1 wo)).heap)
      rw [Hfa.out] at K2
      have rP := ((o1.rd.step hb).heap.step (bdrew1 wo)).heap.reach
      have B9 := B8.trans (hb.mono B8.size)
      have kq := fun W (h : Below wo.heap.size wo.drew W) => B9.trans (((bdrew1 wo).trans h).mono B9.size)
      clear enb
      go_upto_region 22 with fail
      refine wp_region_tree (.float 0 3 (.one 3 (.float 4 3 .done))) Th.Grow Th.Grow.trans Th.Grow.refl (by kernel_rfl) (by kernel_rfl) (fun KT hKT => ?_)
      refine wpTree_float (fun KF hKF => ?_)
      simp only [List.drop, List.take]
      repeat (first | go_big_quiet_skip | ((with_reducible refine onq_cv (.tmp 100) ?_); refine wq_strS rfl _ _ (.tmp 100) rfl el_u8 Try.underlying5 Try.underlying9 rfl rP ?_) | ((with_reducible refine onq_cv (.tmp 103) ?_); refine wq_strS rfl _ _ (.tmp 103) rfl el_u8 Try.underlying5 Try.underlying9 rfl p2 ?_) | go_big_quiet_step (fail) | quiet_step (fail))
      refine wpQuiet_nil ?_
      refine hKF _ ?_
      clear hKF KF
      refine wpTree_one (fun KO hKO => ?_)
      simp only [List.drop, List.take]
      go_wp2_with (first | (go_at_call 18; refine (K2.out).mono ?_; rintro e w16 ⟨A16, n16, c16, rfl, ow16, hb16⟩; have p2 := ow16.rd.reach))
      refine anch_end (Th.Reach.of (by first | exact Below.refl _ _ | exact below_alloc _ (by first | omega | (simp; done) | (simp; omega)) _ | exact below_alloc2 _ (by first | omega | (simp; done) | (simp; omega)) _ _ | exact below_alloc2d _ (by simp) _ _ | exact bdrew _ _ | assumption | (exact Below.mono (by assumption) (by first | (simp; done) | (simp; omega) | omega | assumption)))) (hKO _ _ ?_)
      clear hKO KO
      refine wpTree_float (fun KF hKF => ?_)
      simp only [List.drop, List.take]
      repeat (first | go_big_quiet_skip | ((with_reducible refine onq_cv (.tmp 100) ?_); refine wq_strS rfl _ _ (.tmp 100) rfl el_u8 Try.underlying5 Try.underlying9 rfl rP ?_) | ((with_reducible refine onq_cv (.tmp 103) ?_); refine wq_strS rfl _ _ (.tmp 103) rfl el_u8 Try.underlying5 Try.underlying9 rfl p2 ?_) | go_big_quiet_step (fail) | quiet_step (fail))
      refine wpQuiet_nil ?_
      refine hKF _ ?_
      clear hKF KF
      refine wpTree_done ?_
      refine hKT _ _ ?_
      clear hKT KT
      go_wp2
      go_ret
      exact ⟨rfl, kq _ hb16⟩
end Go.Proofs.Ytgapcmodhcdebaa
