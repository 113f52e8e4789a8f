/-
  theseusref10: the bytes of a network.
-/
import Derived.Test.YtgapcmodhcdebaaNfMade
import Derived.Test.YtgapcmodhcdebaaNetRef
import Derived.Deep.DeepCutAuto
namespace Go.Proofs.Ytgapcmodhcdebaa
open Go.RowKit Go.Th
set_option linter.unusedVariables false
theorem rput_fits (r : Ru) (h : r.Ok) (hf : ∀ j, j < 4 → Fit1 r j) (p : List UInt8) (hp : pre r 4 = p) (w : World) : Calls Try.prog 52 #[.agg #[.int .u32 r.a, .int .i64 r.n, .int .i64 r.act, .int .i64 r.next]] w fun e w' => ∃ A c, e = .returned (.tuple #[.slice A 8 c, .int .i64 0]) ∧ OwS bv w' w.heap.size 5 A 8 c p ∧ Below w.heap.size w w' := by
  refine (rrulePut r h w).mono fun e w' hh => ?_
  obtain ⟨A, n, c, rfl, how, hb⟩ := hh.1 hf
  have hn : n = 8 := by rw [← how.len, pre_length]
  subst hn
  rw [hp] at how
  exact ⟨A, c, rfl, how, hb⟩
def NpRel (ns : List Nd) (n : Nat) (w1 : World) (all i : Value) (wr : World) : Prop :=
  ∃ (k m c : Nat) (A : Option Addr), k ≤ n ∧ i = .int .i64 k ∧ all = .slice A m c ∧ OwS bv wr w1.heap.size 5 A m c (gput n ++ nrows ((Nd.ls ns).take k)) ∧ Below w1.heap.size w1 wr
def NqRel (l : List Ru) (n : Nat) (w1 : World) (inn i : Value) (wr : World) : Prop :=
  ∃ (k m c : Nat) (A : Option Addr), k ≤ n ∧ i = .int .i64 k ∧ inn = .slice A m c ∧ OwS bv wr w1.heap.size 5 A m c (gput n ++ lrows (l.take k)) ∧ Below w1.heap.size w1 wr
set_option maxRecDepth 100000 in
set_option maxHeartbeats 4000000 in
theorem rbody_any (A : Option Addr) (n c : Nat) (ns : List Nd) (w : World) (hnn : n ≤ 256) (hsz : nsize (Nd.ls ns) ≤ 4096) (B : Nat) (hr : NRd w B A n c ns) (hrf : ∀ x ∈ ns, ∀ r ∈ x.l, RFit r) :
    Calls Try.prog 28 #[.agg #[.slice A n c]] w (fun e w' => ∃ A' m c', e = .returned (.slice A' m c') ∧ OwS bv w' w.heap.size 5 A' m c' (nbody (Nd.ls ns)) ∧ Below w.heap.size w w') := by
  have Hrf := Lib.hid hrf
  have hl8 := hr.len
  clear hrf
  have k0 := below_alloc w (Nat.le_refl _) (.cells #[.slice A n c] 24)
  have b0 := Box.new w #[.slice A n c] 24
  go_enter Try.func28, Try.ntmps28
  go_upto_region 1 with fail
  obtain ⟨w1, hw1⟩ : ∃ W, w.alloc (.cells #[.slice A n c] 24) = W := ⟨_, rfl⟩
  rw [hw1] at k0 b0 ⊢
  have hr1 := hr.step k0
  have b1 := b0
  have y1 : w1.cell? ⟨w.heap.size, 0, none⟩ = some (.slice A n c) := b0.cell 0
  clear hw1
  go_upto_region 2 with (go_at_call 51; refine (rgput_natF n (by omega) w1).mono ?_; rintro e w9 ⟨A9, c9, rfl, ow9, hb9⟩)
  go_wp2_with fail
  go_loopw [3, 5] (fun all i wr => NpRel ns n w1 all i wr) (fun _ i _ => n - (intOf i).toNat)
  case atStart => exact ⟨0, _, c9, A9, by omega, rfl, rfl, by simpa [nrows] using ow9, hb9⟩
  case round =>
    obtain ⟨k, m, c1, A1, hk, rfl, rfl, ow, hb⟩ := hrel
    generalize wr = wo at *
    clear wr
    have Mr := hr1.step hb
    have bxr := b1.step hb
    have hz := hb.size
    have yr : wo.cell? ⟨w.heap.size, 0, none⟩ = some (.slice A n c) := bxr.cell 0
    have hml := ow.len
    have hm2 : m ≤ 100000 := by
      have h1 := nrows_le ((Nd.ls ns).take k) (fun l hl => by have := len_le_nsize (List.mem_of_mem_take hl); omega)
      have h2 : ((Nd.ls ns).take k).length ≤ n := by rw [List.length_take, Nd.ls_len]; omega
      have h3 := gsize_pos n
      have h4 := nsize_take_le (Nd.ls ns) k
      rw [List.length_append, gput_length] at hml
      omega
    clear hml ow9 hb9
    by_cases hlt : k < n
    · obtain ⟨x, hx⟩ : ∃ x, ns[k]? = some x := ⟨ns[k]'(by omega), List.getElem?_eq_getElem _⟩
      have hxm := List.mem_of_getElem? hx
      have htk := nrows_take (Nd.ls_get hx)
      have hxl := (Mr.rk x hxm).len
      have hx20 : x.n ≤ 4096 := by have h1 : x.l.length ≤ nsize (Nd.ls ns) := len_le_nsize (List.mem_map.2 ⟨x, hxm, rfl⟩); omega
      have Hx := Lib.hid hx
      have Htk := Lib.hid htk
      have Hxl := Lib.hid hxl
      clear hx htk hxl
      go_upto_region 11 with (first
        | ((with_reducible refine on_index (.tmp 29) ?_); refine wn_at rfl _ (.tmp 29) _ rfl el_row rfl rfl (by omega) (by omega) Mr.rd ?_; intro b1 j1 r1 hr1 hb1 hc1; have hxx : x = r1 := (by have e := hr1.out; rw [Int.toNat_natCast, Hx.out] at e; injection e); subst hxx)
        | (go_at_call 51; refine (rgput_natF x.n (by omega) wo).mono ?_; rintro e w10 ⟨A10, c10, rfl, ow10, hb10⟩))
      go_wp2_with fail
      go_loopw [6, 8] (fun inn i wq => NqRel x.l x.n wo inn i wq) (fun _ i _ => x.n - (intOf i).toNat)
      case atStart => exact ⟨0, _, c10, A10, by omega, rfl, rfl, by simpa [lrows] using ow10, hb10⟩
      case round =>
        obtain ⟨j, mi, ci, Ai, hj, rfl, rfl, owi, hbi⟩ := hrel
        have hzi := hbi.size
        have Mi := Mr.step hbi
        have bxi := bxr.step hbi
        have yi : wr.cell? ⟨w.heap.size, 0, none⟩ = some (.slice A n c) := bxi.cell 0
        have hmli := owi.len
        have hmi2 : mi ≤ 100000 := by
          have h1 := lrows_length (x.l.take j)
          have h2 : (x.l.take j).length ≤ x.n := by rw [List.length_take]; have := Hxl.out; omega
          have h3 := gsize_pos x.n
          rw [List.length_append, gput_length] at hmli
          omega
        clear hmli ow10 hb10
        by_cases hlj : j < x.n
        · obtain ⟨r, hr0⟩ : ∃ r, x.l[j]? = some r := ⟨x.l[j]'(by have := Hxl.out; omega), List.getElem?_eq_getElem _⟩
          obtain ⟨hok, hfi⟩ := Hrf.out x hxm r (List.mem_of_getElem? hr0)
          have htk2 := lrows_take hr0
          have Hput := Lib.hid (fun W => rput_fits r hok hfi (pre r 4) rfl W)
          have Htk2 := Lib.hid htk2
          have Hr0 := Lib.hid hr0
          have hxr := Mi.rk x hxm
          clear htk2 hr0 hfi hok
          go_wp2_with (first
            | ((with_reducible refine on_index (.tmp 39) ?_); refine wn_at rfl _ (.tmp 39) _ rfl el_row rfl rfl (by omega) (by omega) Mi.rd ?_; intro b2 j2 r2 hr2 hb2 hc2; have hxx : x = r2 := (by have e := hr2.out; rw [Int.toNat_natCast, Hx.out] at e; injection e); subst hxx)
            | ((with_reducible refine on_index (.tmp 49) ?_); refine wn_at rfl _ (.tmp 49) _ rfl el_row rfl rfl (by omega) (by omega) Mi.rd ?_; intro b3 j3 r3 hr3 hb3 hc3; have hxx : x = r3 := (by have e := hr3.out; rw [Int.toNat_natCast, Hx.out] at e; injection e); subst hxx)
            | ((with_reducible refine on_index (.tmp 52) ?_); refine wm_at Ru.cs_length rfl _ (.tmp 52) _ rfl el_rule rfl rfl (by omega) (by omega) hxr ?_; intro b4 j4 r4 hr4 hb4 hc4; have hxx : r = r4 := (by have e := hr4.out; rw [Int.toNat_natCast, Hr0.out] at e; injection e); subst hxx)
            | ((with_reducible refine on_load (.tmp 54) ?_); refine wr_load rfl _ _ rfl st_rule rfl hc4 ?_)
            | (go_at_call 52; refine (Hput.out wr).mono ?_; rintro e w5 ⟨A5, c5, rfl, ow5, hb5⟩; have ow4 := owi.below hb5)
            | ((with_reducible refine on_append (.tmp 59) (.tmp 60) ?_); refine wl_appendS rfl (.tmp 59) (.tmp 60) _ rfl el_u8 (f := bv) (fun _ => rfl) rfl ow4 rfl ow5.rd (by omega) (by omega) (by have := hb5.size; omega) ?_; intro A6 c6 w6 ow6 hg6 hb6))
          go_roundw
          case rel => exact ⟨j + 1, _, c6, A6, by omega, by go_num, rfl, by rw [Htk2.out, ← List.append_assoc]; exact ow6, (hbi.trans (hb5.mono hzi)).trans hb6⟩
          case measure => simp [intOf]; omega
        · obtain rfl : j = x.n := by omega
          rw [List.take_of_length_le (by have := Hxl.out; omega)] at owi
          have elb : lbody x.l = gput x.n ++ lrows x.l := by unfold lbody; rw [Hxl.out]
          rw [← elb] at owi
          have owo := ow.below hbi
          have hsl : (fsec 84 (lbody x.l)).length ≤ 100000 := by have := fsec_length 84 (lbody x.l); have := lbody_length x.l; have := gsize_pos x.l.length; have := gsize_pos (lbody x.l).length; have := Hxl.out; omega
          have Hsl := Lib.hid hsl
          clear elb hsl
          go_wp2_with (first
            | ((with_reducible refine on_index (.tmp 39) ?_); refine wn_at rfl _ (.tmp 39) _ rfl el_row rfl rfl (by omega) (by omega) Mi.rd ?_; intro b2 j2 r2 hr2 hb2 hc2; have hxx : x = r2 := (by have e := hr2.out; rw [Int.toNat_natCast, Hx.out] at e; injection e); subst hxx)
            | (go_at_call 53; refine (rsec_any 84 84 rfl Ai mi ci wr (by omega) _ (lbody x.l) owi.rd (Nat.le_refl _)).mono ?_; rintro e w12 ⟨A12, n12, c12, rfl, ow12, hb12⟩; have ow13 := owo.below hb12; have l12 := ow12.len)
            | ((with_reducible refine on_append (.tmp 67) (.tmp 68) ?_); refine wl_appendS rfl (.tmp 67) (.tmp 68) _ rfl el_u8 (f := bv) (fun _ => rfl) rfl ow13 rfl ow12.rd (by have := Hsl.out; omega) (by omega) (by have := hb12.size; omega) ?_; intro A14 c14 w14 ow14 hg14 hb14))
          go_roundw
          case rel => exact ⟨k + 1, _, c14, A14, by omega, by go_num, rfl, by rw [Htk.out, ← List.append_assoc]; exact ow14, (hb.trans ((hbi.trans (hb12.mono hzi)).mono hz)).trans hb14⟩
          case measure => simp [intOf]; omega
    · obtain rfl : k = n := by omega
      rw [List.take_of_length_le (by rw [Nd.ls_len]; omega)] at ow
      have enb : nbody (Nd.ls ns) = gput k ++ nrows (Nd.ls ns) := by unfold nbody; rw [Nd.ls_len, hl8]
      rw [← enb] at ow
      clear enb
      go_wp2
      go_ret
      exact ⟨A1, m, c1, rfl, ow.base_le k0.size, k0.trans (hb.mono k0.size)⟩
/-- What Put answers, of whatever network. -/
def nputT (ns : List (List Ru)) : List UInt8 × Int := if nmay ns ≠ 0 then ([], nmay ns) else (fput 1179206193 (nbody ns), 0)
theorem nbody_le {ns : List (List Ru)} (h1 : ns.length ≤ 256) (h2 : nsize ns ≤ 4096) : (nbody ns).length ≤ 100000 := by
  have h3 := nrows_le ns (fun l hl => by have := len_le_nsize hl; omega)
  have h4 := gsize_pos ns.length
  unfold nbody
  rw [List.length_append, gput_length]
  omega
set_option maxRecDepth 100000 in
set_option maxHeartbeats 4000000 in
theorem rnetput_any (A : Option Addr) (n c : Nat) (ns : List Nd) (w : World) (hn : n ≤ 4000000) (hs : nsize (Nd.ls ns) ≤ 4000000) (B : Nat) (hr : NRd w B A n c ns) (bs : List UInt8) (er : Int) (ht : Hid (nputT (Nd.ls ns) = (bs, er))) :
    Calls Try.prog 13 #[.agg #[.slice A n c]] w (RetBytes bs er w) := by
  have hlen := hr.len
  have k0 := below_alloc w (Nat.le_refl _) (.cells #[.slice A n c] 24)
  have b0 := Box.new w #[.slice A n c] 24
  have hr0 := hr.step k0
  obtain ⟨em, hem⟩ : ∃ em, nmay (Nd.ls ns) = em := ⟨_, rfl⟩
  have K1 := Lib.hid (rnetmay_any A n c ns _ hn hs B hr0 em hem)
  have ht2 := ht.out
  unfold nputT at ht2
  rw [hem] at ht2
  by_cases he : em = 0
  · subst he
    rw [if_neg (by simp)] at ht2
    obtain ⟨h1, rfl⟩ : fput 1179206193 (nbody (Nd.ls ns)) = bs ∧ 0 = er := by injection ht2 with a b; exact ⟨a, b⟩
    obtain ⟨s1, s2, _⟩ := nmay_zero.1 hem
    have hrf := NRd.of_ls hr (nmay_rfit hem (fun l hl r hrr => by obtain ⟨x, hx, rfl⟩ := List.mem_map.1 hl; exact hr.ok x hx r hrr))
    have hl := nbody_le s1 s2
    rw [Nd.ls_len, hlen] at s1
    have K2 := Lib.hid (fun W (h : Below (w.alloc (.cells #[.slice A n c] 24)).heap.size (w.alloc (.cells #[.slice A n c] 24)) W) => rbody_any A n c ns W s1 s2 B (hr0.step h) hrf)
    have H1 := Lib.hid h1
    have Hl := Lib.hid hl
    clear ht ht2 hem h1 hl hrf
    go_enter Try.func13, Try.ntmps13
    go_wp2_with (first
      | ((with_reducible refine on_load (.tmp 1) ?_); first | (refine wb_load rfl _ (.tmp 1) rfl st_net rfl b0 rfl ?_) | (refine wb_load rfl _ (.tmp 1) rfl st_net rfl b1 rfl ?_))
      | (go_at_call 26; refine (K1.out).mono ?_; rintro e w1 ⟨rfl, hb1⟩; have b1 := b0.step hb1)
      | (go_at_call 28; refine (K2.out _ hb1).mono ?_; rintro e w2 ⟨A2, n2, c2, rfl, ow2, hb2⟩; have l2 := ow2.len)
      | (go_at_call 27; refine (rfput_any 1179206193 (by omega) 1179206193 rfl A2 n2 c2 w2 (by have := Hl.out; omega) _ ow2.rd).mono ?_; rw [H1.out]; rintro e w3 ⟨A3, n3, c3, rfl, ow3, hb3⟩))
    go_ret2
    have a := k0.trans (hb1.mono k0.size)
    have b := a.trans (hb2.mono a.size)
    exact ⟨A3, n3, c3, rfl, ow3.base_le b.size, b.trans (hb3.mono b.size)⟩
  · rw [if_pos he] at ht2
    obtain ⟨rfl, rfl⟩ : [] = bs ∧ em = er := by injection ht2 with a b; exact ⟨a, b⟩
    have he2 : (em != 0) = true := by simpa using he
    clear ht ht2 hem he
    go_enter Try.func13, Try.ntmps13
    go_wp2_with (first
      | ((with_reducible refine on_load (.tmp 1) ?_); refine wb_load rfl _ (.tmp 1) rfl st_net rfl b0 rfl ?_)
      | (go_at_call 26; refine (K1.out).mono ?_; rintro e w1 ⟨rfl, hb1⟩))
    go_ret2
    exact ⟨none, 0, 0, rfl, OwS.nil_ _ _ _, k0.trans (hb1.mono k0.size)⟩
/-- netfile.Put of whatever network. -/
theorem netput_all (A : Option Addr) (n c : Nat) (ns : List Nd) (w : World) (hn : n ≤ 4000000) (hs : nsize (Nd.ls ns) ≤ 4000000) (B : Nat) (hr : NRd w B A n c ns) (bs : List UInt8) (er : Int) (ht : Hid (nputT (Nd.ls ns) = (bs, er))) :
    Calls Try.prog 11 #[.agg #[.slice A n c]] w (RetBytes bs er w) := by
  have k0 := below_alloc w (Nat.le_refl _) (.cells #[.slice A n c] 24)
  have b0 := Box.new w #[.slice A n c] 24
  have hr0 := hr.step k0
  obtain ⟨em, hem⟩ : ∃ em, nmay (Nd.ls ns) = em := ⟨_, rfl⟩
  have ht2 := ht.out
  unfold nputT at ht2
  rw [hem] at ht2
  by_cases he : em = 0
  · subst he
    rw [if_neg (by simp)] at ht2
    obtain ⟨h1, rfl⟩ : fput 1179206193 (nbody (Nd.ls ns)) = bs ∧ 0 = er := by injection ht2 with a b; exact ⟨a, b⟩
    exact netput_any A n c ns w B hr hem (NRd.of_ls hr (nmay_rfit hem (fun l hl r hrr => by obtain ⟨x, hx, rfl⟩ := List.mem_map.1 hl; exact hr.ok x hx r hrr))) bs h1
  · rw [if_pos he] at ht2
    obtain ⟨rfl, rfl⟩ : [] = bs ∧ em = er := by injection ht2 with a b; exact ⟨a, b⟩
    have K1 := Lib.hid (netmay_any A n c ns _ hn hs B hr0 em hem)
    have he2 : (em != 0) = true := by simpa using he
    clear ht ht2 hem he
    go_enter Try.func11, Try.ntmps11
    go_wp2_with (first
      | ((with_reducible refine on_load (.tmp 1) ?_); refine wb_load rfl _ (.tmp 1) rfl st_net rfl b0 rfl ?_)
      | (go_at_call 20; refine (K1.out).mono ?_; rintro e w1 ⟨rfl, hb1⟩))
    go_ret2
    exact ⟨none, 0, 0, rfl, OwS.nil_ _ _ _, k0.trans (hb1.mono k0.size)⟩
end Go.Proofs.Ytgapcmodhcdebaa
