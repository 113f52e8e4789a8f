/-
  The walks of frame.own, frame.Section, frame.Open, and of law04's few and shown.
-/
import Derived.Test.YtgiefjbdkkdaiaaGroupLaw
import Derived.Test.YtgiefjbdkkdaiaaReach
import Derived.Test.YtgiefjbdkkdaiaaFramePlain
import Derived.Lib.SlBytesConst
namespace Go.Proofs.Ytgiefjbdkkdaiaa
open Go.RowKit Go.Th
set_option linter.unusedVariables false
/-- The place of few's result. -/
def fewA (A : Option Addr) (n c : Nat) : Option Addr := if n ≤ 150 then A else cutA A 0 c
theorem fewR {A : Option Addr} {n c N : Nat} (hN : min n 150 = N) {w : World} {B : Nat} {bs : List UInt8} (hr : RdS bv w B A n c bs) : RdS bv w B (fewA A n c) N c (bs.take 150) := by
  have hc := hr.cap
  unfold fewA
  split
  · rename_i h
    have e : N = n := by omega
    rw [e, List.take_of_length_le (by rw [hr.len]; omega)]
    exact hr
  · have e : N = 150 := by omega
    rw [e]
    exact hr.cut 0 150 c (by omega) (by omega) (by omega)
theorem few4 (A : Option Addr) (n c N : Nat) (hN : min n 150 = N) (w : World) (hm : n ≤ 9223372036854775807) (B : Nat) (bs : List UInt8) (hr : RdS bv w B A n c bs) :
    Calls Try.prog 41 #[.slice A n c] w fun e w' => e = .returned (.slice (fewA A n c) N c) ∧ w = w' := by
  have hc := hr.cap
  have HN := Lib.hid hN
  by_cases h : n ≤ 150
  · have e : fewA A n c = A := if_pos h
    have e2 : N = n := by omega
    rw [e]
    subst e2
    clear hN
    go_enter Try.func41, Try.ntmps41
    go_wp2
    go_ret
    exact ⟨rfl, rfl⟩
  · have e : fewA A n c = cutA A 0 c := if_neg h
    have e2 : N = 150 := by omega
    rw [e, e2]
    clear hN
    go_enter Try.func41, Try.ntmps41
    go_wp2_with (refine wl_cut_hx rfl _ _ el_u8 rfl _ rfl rfl 150 (by omega) hc ?_)
    go_ret
    exact ⟨rfl, rfl⟩
/-- A row of bytes of the call's own. -/
def RetOwn (bs : List UInt8) (w : World) (e : Ending) (w' : World) : Prop :=
  ∃ A n c, e = .returned (.slice A n c) ∧ OwS bv w' w.heap.size 5 A n c bs ∧ Below w.heap.size w w'
theorem own_any (A : Option Addr) (n c : Nat) (w : World) (hm : n ≤ 1000000) (B : Nat) (bs : List UInt8) (hr : RdS bv w B A n c bs) :
    Calls Try.prog 51 #[.slice A n c] w (RetOwn bs w) := by
  go_enter Try.func51, Try.ntmps51
  go_wp2_with (refine wl_appendS rfl (.const (.slice none 0 0)) (.tmp 3) _ rfl el_u8 (f := bv) (fun _ => rfl) rfl (OwS.nil_ w w.heap.size 5) rfl hr (by omega) (by omega) (Nat.le_refl _) ?_; intro A4 c4 w4 how4 _ hb4; rw [Nat.zero_add, List.nil_append] at how4)
  go_ret
  exact ⟨A4, _, c4, rfl, how4, hb4⟩
theorem gput_natF (x : Nat) (h : x < 268435456) (w : World) : Calls Try.prog 33 #[.int .i64 x] w fun e w' => ∃ A c, e = .returned (.tuple #[.slice A (gsize x) c, .int .i64 0]) ∧ OwS bv w' w.heap.size 5 A (gsize x) c (gput x) ∧ Below w.heap.size w w' := by
  refine (gput_in x w h).mono ?_
  rintro e w' ⟨A, n, c, rfl, how, hb⟩
  have : n = gsize x := by rw [← how.len, gput_length]
  subst this
  exact ⟨A, c, rfl, how, hb⟩
/-- A row of bytes of the call's own, and no error. -/
def RetSec (bs : List UInt8) (w : World) (e : Ending) (w' : World) : Prop :=
  ∃ A n c, e = .returned (.tuple #[.slice A n c, .int .i64 0]) ∧ OwS bv w' w.heap.size 5 A n c bs ∧ Below w.heap.size w w'
set_option maxHeartbeats 2000000 in
theorem sec_any (t : UInt8) (T : Int) (hT : (t.toNat : Int) = T) (A : Option Addr) (n c : Nat) (w : World) (hm : n ≤ 1000000) (B : Nat) (bs : List UInt8) (hr : RdS bv w B A n c bs) (hB : B ≤ w.heap.size) :
    Calls Try.prog 40 #[.int .u8 T, .slice A n c] w (RetSec (fsec t bs) w) := by
  have hs := gsize_pos n
  obtain ⟨s, hs0⟩ : ∃ s, gsize n = s := ⟨_, rfl⟩
  rw [hs0] at hs
  obtain ⟨hs1, hs2⟩ := hs
  have Hs := Lib.hid hs0
  have HT := Lib.hid hT
  have hT2 : T < 256 ∧ 0 ≤ T := by have := t.toNat_lt; omega
  obtain ⟨hT2, hT3⟩ := hT2
  clear hs0 hT
  go_enter Try.func40, Try.ntmps40
  go_wp2_with (first
    | (go_at_call 33; refine (gput_natF n (by omega) _).mono ?_; rintro e w1 ⟨A1, c1, rfl, how1, hb1⟩; rw [Hs.out] at how1 ⊢; have r1 := hr.heap.step hb1)
    | ((with_reducible refine on_make ?_); refine wl_make0S rfl _ _ _ rfl el_u8 (f := bv) (base := w1.heap.size) (1 + s + n) rfl rfl (by omega) (by omega) (by omega) (Nat.le_refl _) ?_; intro g2 w2 hg2 how2 hb2)
    | ((with_reducible refine on_append (.tmp 28) (.tmp 30) ?_); refine wl_appendS rfl (.tmp 28) (.tmp 30) _ rfl el_u8 (f := bv) (fun _ => rfl) rfl (how2.alloc _) rfl (OwS.rd (OwS.lit (base := w2.heap.size) (e := 5) (xs := [t]) w2 #[.int .u8 T] 1 (Nat.le_refl _) (by simp [maxLen]) rfl (by simp [bv, HT.out]))) (by omega) (by omega) (by have := hb2.size; simp; omega) ?_; intro A3 c3 w3 how3 _ hb3; have H3 : Below w1.heap.size w1 w3 := (hb2.alloc hb2.size _).trans hb3)
    | ((with_reducible refine on_append (.tmp 32) (.tmp 33) ?_); refine wl_appendS rfl (.tmp 32) (.tmp 33) _ rfl el_u8 (f := bv) (fun _ => rfl) rfl how3 rfl (how1.below H3).rd (by omega) (by omega) H3.size ?_; intro A4 c4 w4 how4 _ hb4; have H4 := H3.trans hb4)
    | ((with_reducible refine on_append (.tmp 35) (.tmp 36) ?_); refine wl_appendS rfl (.tmp 35) (.tmp 36) _ rfl el_u8 (f := bv) (fun _ => rfl) rfl how4 rfl (r1.step H4) (by omega) (by omega) H4.size ?_; intro A5 c5 w5 how5 _ hb5; have H5 := H4.trans hb5))
  go_ret2
  refine ⟨A5, 0 + 1 + s + n, c5, rfl, ?_, next hb1 H5⟩
  · have e : fsec t bs = [] ++ [t] ++ gput n ++ bs := by simp [fsec, hr.len]
    rw [e]
    exact how5.base_le hb1.size
/-- What is opened: two rows of the call's own, and an error's number. -/
def RetOpen (r : List UInt8 × List UInt8 × Int) (w : World) (e : Ending) (w' : World) : Prop :=
  ∃ A n c A' n' c', e = .returned (.tuple #[.slice A n c, .slice A' n' c', .int .i64 r.2.2]) ∧ OwS bv w' w.heap.size 5 A n c r.1 ∧ OwS bv w' w.heap.size 5 A' n' c' r.2.1 ∧ Below w.heap.size w w'
theorem RetOpen.nil (er : Int) (w : World) : RetOpen ([], [], er) w (.returned (.tuple #[.slice none 0 0, .slice none 0 0, .int .i64 er])) w :=
  ⟨none, 0, 0, none, 0, 0, rfl, OwS.nil_ _ _ _, OwS.nil_ _ _ _, Below.refl _ _⟩
theorem byte_beq (t u : UInt8) (b : Bool) (h : (t == u) = b) : ((t.toNat : Int) == (u.toNat : Int)) = b := by
  subst h
  rw [Bool.eq_iff_iff]
  simp only [beq_iff_eq]
  constructor
  · intro h
    exact UInt8.toNat_inj.1 (by omega)
  · rintro rfl; rfl
set_option maxHeartbeats 2000000 in
theorem open_any (t : UInt8) (T : Int) (hT : (t.toNat : Int) = T) (A : Option Addr) (n c : Nat) (w : World) (hm : n ≤ 1000000) (bs : List UInt8) (hr : RdS bv w w.heap.size A n c bs) :
    Calls Try.prog 42 #[.int .u8 T, .slice A n c] w (RetOpen (fopen t bs) w) := by
  subst hT
  have hl := hr.len
  cases bs with
  | nil =>
    subst hl
    go_enter Try.func42, Try.ntmps42
    go_wp2
    go_ret3
    exact RetOpen.nil 2 w
  | cons b r =>
    simp only [List.length_cons] at hl
    subst hl
    rw [fopen_cons]
    by_cases hb : b = t
    · subst hb
      rw [if_pos rfl]
      have e0 : ((b.toNat : Int) == (b.toNat : Int)) = true := by simp
      have hd1 : (b :: r).drop 1 = r := rfl
      rcases gtake_what r with ⟨hg, _⟩ | hg | ⟨m, k, hg, hm1, hk1, hk2, hk4, _⟩
      · rw [hg]
        have Hg := Lib.hid hg
        clear hg
        go_enter Try.func42, Try.ntmps42
        go_wp2_with (first
          | ((with_reducible refine on_index (.tmp 12) ?_); refine wl_at_b rfl _ _ _ rfl el_u8 rfl rfl (by omega) (by omega) hr ?_; intro p x hx hx5 hc; have hxb : x = b := (Option.some.inj hx.out).symm; subst hxb)
          | ((with_reducible refine on_slice (.tmp 18) ?_); refine wl_cut_l rfl _ _ el_u8 rfl hr _ rfl rfl 1 (by omega) ?_; intro A1 r1; rw [hd1] at r1)
          | (go_at_call 35; refine (gtake_any _ _ _ _ (by omega) _ _ r1).mono ?_; rintro e w1 ⟨rfl, rfl⟩; rw [Hg.out]))
        go_ret3
        exact RetOpen.nil 2 w
      · rw [hg]
        have Hg := Lib.hid hg
        clear hg
        go_enter Try.func42, Try.ntmps42
        go_wp2_with (first
          | ((with_reducible refine on_index (.tmp 12) ?_); refine wl_at_b rfl _ _ _ rfl el_u8 rfl rfl (by omega) (by omega) hr ?_; intro p x hx hx5 hc; have hxb : x = b := (Option.some.inj hx.out).symm; subst hxb)
          | ((with_reducible refine on_slice (.tmp 18) ?_); refine wl_cut_l rfl _ _ el_u8 rfl hr _ rfl rfl 1 (by omega) ?_; intro A1 r1; rw [hd1] at r1)
          | (go_at_call 35; refine (gtake_any _ _ _ _ (by omega) _ _ r1).mono ?_; rintro e w1 ⟨rfl, rfl⟩; rw [Hg.out]))
        go_ret3
        exact RetOpen.nil 3 w
      · have hd2 : (b :: r).drop (1 + k) = r.drop k := by rw [Nat.add_comm]; rfl
        have hdl : (r.drop k).length = r.length - k := List.length_drop ..
        rw [hg, if_pos rfl]
        show Calls _ _ _ _ (RetOpen (if (r.drop k).length < m then _ else ((r.drop k).take m, (r.drop k).drop m, 0)) w)
        rw [hdl]
        have Hg := Lib.hid hg
        clear hg
        by_cases hms : r.length - k < m
        · rw [if_pos hms]
          go_enter Try.func42, Try.ntmps42
          go_wp2_with (first
            | ((with_reducible refine on_index (.tmp 12) ?_); refine wl_at_b rfl _ _ _ rfl el_u8 rfl rfl (by omega) (by omega) hr ?_; intro p x hx hx5 hc; have hxb : x = b := (Option.some.inj hx.out).symm; subst hxb)
            | ((with_reducible refine on_slice (.tmp 18) ?_); refine wl_cut_l rfl _ _ el_u8 rfl hr _ rfl rfl 1 (by omega) ?_; intro A1 r1; rw [hd1] at r1)
            | (go_at_call 35; refine (gtake_any _ _ _ _ (by omega) _ _ r1).mono ?_; rintro e w1 ⟨rfl, rfl⟩; rw [Hg.out])
            | ((with_reducible refine on_slice (.tmp 27) ?_); refine wl_cut_l rfl _ _ el_u8 rfl hr _ rfl rfl (1 + k) (by omega) ?_; intro A2 r2; rw [hd2] at r2))
          go_ret3
          exact RetOpen.nil 2 w
        · rw [if_neg hms]
          go_enter Try.func42, Try.ntmps42
          go_wp2_with (first
            | ((with_reducible refine on_index (.tmp 12) ?_); refine wl_at_b rfl _ _ _ rfl el_u8 rfl rfl (by omega) (by omega) hr ?_; intro p x hx hx5 hc; have hxb : x = b := (Option.some.inj hx.out).symm; subst hxb)
            | ((with_reducible refine on_slice (.tmp 18) ?_); refine wl_cut_l rfl _ _ el_u8 rfl hr _ rfl rfl 1 (by omega) ?_; intro A1 r1; rw [hd1] at r1)
            | (go_at_call 35; refine (gtake_any _ _ _ _ (by omega) _ _ r1).mono ?_; rintro e w1 ⟨rfl, rfl⟩; rw [Hg.out])
            | ((with_reducible refine on_slice (.tmp 27) ?_); refine wl_cut_l rfl _ _ el_u8 rfl hr _ rfl rfl (1 + k) (by omega) ?_; intro A2 r2; rw [hd2] at r2))
          have q2 := RdC.of_reach (B' := w.heap.size) (r2.step (bdrew1 w)) (Nat.le_refl _)
          refine wp_region_tree (.float 0 4 (.float 5 3 (.one 4 (.one 8 (.float 9 3 .done))))) (Th.Reach w.heap.size) (Th.Reach.trans _) (Th.Reach.refl _) (by kernel_rfl) (by kernel_rfl) (fun KT hKT => ?_)
          refine wpTree_float (fun KF hKF => ?_)
          simp only [List.drop, List.take]
          repeat (first | ((with_reducible refine onq_sl (.tmp 35) ?_); refine wq_cut_hm rfl _ (.tmp 35) el_u8 rfl q2 (Th.Reach.refl _ _) _ _ rfl rfl rfl m (by omega) ?_; intro A38 r38) | ((with_reducible refine onq_sl (.tmp 40) ?_); refine wq_cut_l rfl _ (.tmp 40) el_u8 rfl q2 (Th.Reach.refl _ _) _ rfl rfl m (by omega) ?_; intro A42 r42) | go_big_quiet_step (fail) | quiet_step (fail))
          refine wpQuiet_nil ?_
          refine hKF _ ?_
          clear hKF KF
          refine wpTree_float (fun KF hKF => ?_)
          simp only [List.drop, List.take]
          repeat (first | ((with_reducible refine onq_sl (.tmp 35) ?_); refine wq_cut_hm rfl _ (.tmp 35) el_u8 rfl q2 (Th.Reach.refl _ _) _ _ rfl rfl rfl m (by omega) ?_; intro A38 r38) | ((with_reducible refine onq_sl (.tmp 40) ?_); refine wq_cut_l rfl _ (.tmp 40) el_u8 rfl q2 (Th.Reach.refl _ _) _ rfl rfl m (by omega) ?_; intro A42 r42) | go_big_quiet_step (fail) | quiet_step (fail))
          refine wpQuiet_nil ?_
          refine hKF _ ?_
          clear hKF KF
          refine wpTree_one (fun KO hKO => ?_)
          simp only [List.drop, List.take]
          go_wp2_with (first | (go_at_call 51; first | (refine (own_any _ _ _ _ (by omega) _ _ (r38.rd w.drew (Th.Reach.refl _ _))).mono ?_; rintro e w39 ⟨A39, n39, c39, rfl, how39, hb39⟩; have hb39 : Below w.heap.size w.drew w39 := hb39; have hz39 : w.heap.size ≤ w39.heap.size := hb39.size) | (refine (own_any _ _ _ w39 (by omega) _ _ (r42.rd w39 (Th.Reach.of hb39))).mono ?_; rintro e w43 ⟨A43, n43, c43, rfl, how43, hb43⟩; have hk43 := hb43; have hb43 : Below w.heap.size w39 w43 := hb43.mono hz39)))
          refine anch_end (Th.Reach.of (by first | exact Below.refl _ _ | exact below_alloc _ (by first | omega | (simp; done) | (simp; omega)) _ | exact below_alloc2 _ (by first | omega | (simp; done) | (simp; omega)) _ _ | exact below_alloc2d _ (by simp) _ _ | exact bdrew _ _ | assumption | (exact Below.mono (by assumption) (by first | (simp; done) | (simp; omega) | omega | assumption)))) (hKO _ _ ?_)
          clear hKO KO
          refine wpTree_one (fun KO hKO => ?_)
          simp only [List.drop, List.take]
          go_wp2_with (first | (go_at_call 51; first | (refine (own_any _ _ _ _ (by omega) _ _ (r38.rd w.drew (Th.Reach.refl _ _))).mono ?_; rintro e w39 ⟨A39, n39, c39, rfl, how39, hb39⟩; have hb39 : Below w.heap.size w.drew w39 := hb39; have hz39 : w.heap.size ≤ w39.heap.size := hb39.size) | (refine (own_any _ _ _ w39 (by omega) _ _ (r42.rd w39 (Th.Reach.of hb39))).mono ?_; rintro e w43 ⟨A43, n43, c43, rfl, how43, hb43⟩; have hk43 := hb43; have hb43 : Below w.heap.size w39 w43 := hb43.mono hz39)))
          refine anch_end (Th.Reach.of (by first | exact Below.refl _ _ | exact below_alloc _ (by first | omega | (simp; done) | (simp; omega)) _ | exact below_alloc2 _ (by first | omega | (simp; done) | (simp; omega)) _ _ | exact below_alloc2d _ (by simp) _ _ | exact bdrew _ _ | assumption | (exact Below.mono (by assumption) (by first | (simp; done) | (simp; omega) | omega | assumption)))) (hKO _ _ ?_)
          clear hKO KO
          refine wpTree_float (fun KF hKF => ?_)
          simp only [List.drop, List.take]
          repeat (first | ((with_reducible refine onq_sl (.tmp 35) ?_); refine wq_cut_hm rfl _ (.tmp 35) el_u8 rfl q2 (Th.Reach.refl _ _) _ _ rfl rfl rfl m (by omega) ?_; intro A38 r38) | ((with_reducible refine onq_sl (.tmp 40) ?_); refine wq_cut_l rfl _ (.tmp 40) el_u8 rfl q2 (Th.Reach.refl _ _) _ rfl rfl m (by omega) ?_; intro A42 r42) | go_big_quiet_step (fail) | quiet_step (fail))
          refine wpQuiet_nil ?_
          refine hKF _ ?_
          clear hKF KF
          refine wpTree_done ?_
          refine hKT _ _ ?_
          clear hKT KT
          go_wp2
          go_ret3
          exact ⟨A39, n39, c39, A43, n43, c43, rfl, how39.below hk43, how43.base_le hz39, (bdrew1 w).trans (hb39.trans hb43)⟩
    · rw [if_neg hb]
      have h1 : ((b.toNat : Int) == (t.toNat : Int)) = false := byte_beq b t false (by simpa using hb)
      have h2 : (b.toNat == t.toNat) = false := by simpa using fun e => hb (UInt8.toNat_inj.1 e)
      go_enter Try.func42, Try.ntmps42
      go_wp2_with ((with_reducible refine on_index (.tmp 12) ?_); refine wl_at_b rfl _ _ _ rfl el_u8 rfl rfl (by omega) (by omega) hr ?_; intro p x hx hx5 hc; have hxb : x = b := (Option.some.inj hx.out).symm; subst hxb)
      go_ret3
      exact RetOpen.nil 3 w
theorem open_is (t : UInt8) (T : Int) (hT : (t.toNat : Int) = T) (A : Option Addr) (n c : Nat) (w : World) (hm : n ≤ 1000000) (bs : List UInt8) (hr : RdS bv w w.heap.size A n c bs) (x y : List UInt8) (er : Int) (h : fopen t bs = (x, y, er)) :
    Calls Try.prog 42 #[.int .u8 T, .slice A n c] w fun e w' => ∃ A1 n1 c1 A2 n2 c2, e = .returned (.tuple #[.slice A1 n1 c1, .slice A2 n2 c2, .int .i64 er]) ∧ OwS bv w' w.heap.size 5 A1 n1 c1 x ∧ OwS bv w' w.heap.size 5 A2 n2 c2 y ∧ Below w.heap.size w w' := by
  have := open_any t T hT A n c w hm bs hr
  rw [h] at this
  exact this
theorem RdS.marked (w : World) (cs : Array Value) (e : TypeId) (fz : Nat × Nat) (n : Nat) (xs : List UInt8) (hn : xs.length = n) (hs : cs.toList = xs.map bv) :
    RdS bv (w.alloc (.cells cs e fz)) (w.alloc (.cells cs e fz)).heap.size (some ⟨w.heap.size, 0, none⟩) n n xs := by
  rw [heap_size_alloc]
  exact ⟨by rw [← hs]; exact Rd.new w cs e fz, hn, Nat.le_refl _⟩
theorem sec_ab (w : World) : Calls Try.prog 40 #[.int .u8 7, .slice (some ⟨w.heap.size, 0, none⟩) 2 2] (w.alloc (.cells #[.int .u8 97, .int .u8 98] 5 (2, 3))) fun e w' => ∃ A n c, e = .returned (.tuple #[.slice A n c, .int .i64 0]) ∧ OwS bv w' w.heap.size 5 A n c [7, 2, 97, 98] ∧ Below w.heap.size w w' := by
  have how2 := RdS.marked w #[.int .u8 97, .int .u8 98] 5 (2, 3) 2 [97, 98] rfl (by simp [bv])
  have hz : w.heap.size ≤ (w.alloc (.cells #[.int .u8 97, .int .u8 98] 5 (2, 3))).heap.size := by simp
  refine (sec_any 7 7 rfl _ 2 2 _ (by omega) _ _ how2 (Nat.le_refl _)).mono ?_
  rintro e w' ⟨A, n, c, rfl, how, hb⟩
  exact ⟨A, n, c, rfl, how.base_le hz, (below_alloc w (Nat.le_refl _) _).trans (hb.mono hz)⟩
theorem open_abc (w : World) : Calls Try.prog 42 #[.int .u8 7, .slice (some ⟨w.heap.size, 0, none⟩) 5 5] (w.alloc (.cells #[.int .u8 7, .int .u8 2, .int .u8 97, .int .u8 98, .int .u8 99] 5 (5, 6))) fun e w' => ∃ A n c A' n' c', e = .returned (.tuple #[.slice A n c, .slice A' n' c', .int .i64 0]) ∧ OwS bv w' w.heap.size 5 A n c [97, 98] ∧ OwS bv w' w.heap.size 5 A' n' c' [99] ∧ Below w.heap.size w w' := by
  have how2 := RdS.marked w #[.int .u8 7, .int .u8 2, .int .u8 97, .int .u8 98, .int .u8 99] 5 (5, 6) 5 [7, 2, 97, 98, 99] rfl (by simp [bv])
  have hz : w.heap.size ≤ (w.alloc (.cells #[.int .u8 7, .int .u8 2, .int .u8 97, .int .u8 98, .int .u8 99] 5 (5, 6))).heap.size := by simp
  refine (open_any 7 7 rfl _ 5 5 _ (by omega) _ how2).mono ?_
  rintro e w' ⟨A, n, c, A', n', c', rfl, how, how', hb⟩
  exact ⟨A, n, c, A', n', c', rfl, how.base_le hz, how'.base_le hz, (below_alloc w (Nat.le_refl _) _).trans (hb.mono hz)⟩
theorem shown4 (w : World) : Calls Try.prog 39 #[] w fun e w' => e = .returned (.bool true) ∧ Below w.heap.size w w' := by
  have kc := fun (w : World) (C : Array Value) (n c : Nat) => Lib.run_convert_bytes_const (P := Try.prog) w 23 5 C n c Try.underlying23 Try.underlying5
  go_enter Try.func39, Try.ntmps39
  go_wp2_with (first
    | (go_at_call 40; refine (sec_ab _).mono ?_; rintro e w1 ⟨A1, n1, c1, rfl, how1, hb1⟩)
    | (go_at_call 42; refine (open_abc _).mono ?_; rintro e w2 ⟨A2, n2, c2, A3, n3, c3, rfl, how2, how3, hb2⟩)
    | ((with_reducible refine on_convert (.tmp 19) ?_); refine wl_strS rfl _ _ _ rfl el_u8 Try.underlying5 Try.underlying9 rfl (how1.below hb2).rd ?_)
    | ((with_reducible refine on_convert (.tmp 27) ?_); refine wl_strS rfl _ _ _ rfl el_u8 Try.underlying5 Try.underlying9 rfl how2.rd ?_)
    | ((with_reducible refine on_convert (.tmp 32) ?_); refine wl_strS rfl _ _ _ rfl el_u8 Try.underlying5 Try.underlying9 rfl how3.rd ?_))
  go_ret
  exact ⟨rfl, next hb1 hb2⟩
end Go.Proofs.Ytgiefjbdkkdaiaa
