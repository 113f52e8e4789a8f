/-
  The contracts of layer 1, each for whatever arguments: the program's and the reference's are told by the same words.
-/
import Derived.Test.YtgiefjbdkkdaiaaNumRef
namespace Go.Proofs.Ytgiefjbdkkdaiaa
open Go.RowKit Go.Th

theorem short1 (A : Option Addr) (n c : Nat) (w : World) (hm : n ≤ 9223372036854775807) (B : Nat) (zs : List Int) (hr : RdS iv w B A n c zs) :
    Calls Try.prog 27 #[.slice A n c] w (RetTake iv 20 w B zs) := by
  have hc := hr.cap
  by_cases h : n ≤ 20
  · go_enter Try.func27, Try.ntmps27
    go_wp2
    go_ret
    exact ⟨A, c, n, zs, rfl, (List.take_of_length_le (by rw [hr.len]; omega)).symm, h, hr, rfl⟩
  · go_enter Try.func27, Try.ntmps27
    go_wp2_with (refine wl_cut_h rfl _ _ el_int rfl hr _ rfl rfl 20 (by omega) ?_; intro A' hr')
    go_ret
    exact ⟨A', c, 20, zs.take 20, rfl, rfl, by omega, hr', rfl⟩

open Classical in
/-- Put's answer. -/
noncomputable def PS (n s : Int) : List UInt8 × Int := if 1 ≤ s ∧ s ≤ 4 ∧ Fits s.toNat n then (be n.toNat s.toNat, 0) else ([], 1)
/-- Take's answer. -/
def TS (bs : List UInt8) (s : Int) : Nat × Int := if 1 ≤ s ∧ s ≤ 4 then (if (bs.length : Int) < s then (0, 2) else (val (bs.take s.toNat), 0)) else (0, 1)
open Classical in
/-- Row's answer. -/
noncomputable def RS (zs : List Int) (s : Int) : List UInt8 × Int := if 1 ≤ s ∧ s ≤ 4 ∧ ∀ z ∈ zs, Fits s.toNat z then (rowB s.toNat zs, 0) else ([], 1)

/-- A row of the call's own, of whatever length, and a whole number. -/
def RetBs (bs : List UInt8) (er : Int) (w : World) (e : Ending) (w' : World) : Prop :=
  ∃ A n c, e = .returned (.tuple #[.slice A n c, .int .i64 er]) ∧ OwS bv w' w.heap.size 5 A n c bs ∧ Below w.heap.size w w'
theorem RetBs.of_row {w : World} {n : Nat} {bs : List UInt8} {er : Int} {e : Ending} {w' : World} (h : RetRow w n bs er e w') : RetBs bs er w e w' := by
  obtain ⟨A, c, he, h1, h2⟩ := h
  exact ⟨A, n, c, he, h1, h2⟩
theorem RetBs.of_nil {w : World} {er : Int} {e : Ending} {w' : World} (h : RetNil er w e w') : RetBs [] er w e w' := by
  obtain ⟨he, rfl⟩ := h
  exact ⟨none, 0, 0, he, OwS.nil_ _ _ _, Below.refl _ _⟩
theorem RetBs.of_none {w : World} {er : Int} {e : Ending} {w' : World} (h : RetNone er w e w') : RetBs [] er w e w' := by
  obtain ⟨he, hb⟩ := h
  exact ⟨none, 0, 0, he, OwS.nil_ _ _ _, hb⟩

theorem put_any (n s : Int) (w : World) : Calls Try.prog 24 #[.int .i64 n, .int .i64 s] w (RetBs (PS n s).1 (PS n s).2 w) := by
  by_cases hs : 1 ≤ s ∧ s ≤ 4
  · obtain ⟨h1, h2⟩ := hs
    obtain ⟨k, rfl⟩ := Int.eq_ofNat_of_zero_le (by omega : 0 ≤ s)
    by_cases hf : Fits k n
    · have e : PS n k = (be n.toNat k, 0) := by unfold PS; rw [if_pos ⟨h1, h2, by simpa using hf⟩]; simp
      rw [e]
      exact (put_fit n k w (by omega) (by omega) hf).mono fun _ _ h => .of_row h
    · have e : PS n k = ([], 1) := by unfold PS; rw [if_neg (fun h => hf (by simpa using h.2.2))]
      rw [e]
      exact (put_misfit n k w (by omega) (by omega) hf).mono fun _ _ h => .of_nil h
  · have e : PS n s = ([], 1) := by unfold PS; rw [if_neg (fun h => hs ⟨h.1, h.2.1⟩)]
    rw [e]
    exact (put_size n s w (by omega)).mono fun _ _ h => .of_nil h
theorem rput_any (n s : Int) (w : World) (hn : -9223372036854775808 ≤ n ∧ n ≤ 9223372036854775807) : Calls Try.prog 28 #[.int .i64 n, .int .i64 s] w (RetBs (PS n s).1 (PS n s).2 w) := by
  by_cases hs : 1 ≤ s ∧ s ≤ 4
  · obtain ⟨h1, h2⟩ := hs
    obtain ⟨k, rfl⟩ := Int.eq_ofNat_of_zero_le (by omega : 0 ≤ s)
    by_cases hf : Fits k n
    · have e : PS n k = (be n.toNat k, 0) := by unfold PS; rw [if_pos ⟨h1, h2, by simpa using hf⟩]; simp
      rw [e]
      exact (rput_fit n k w (by omega) (by omega) hn.2 hf).mono fun _ _ h => .of_row h
    · have e : PS n k = ([], 1) := by unfold PS; rw [if_neg (fun h => hf (by simpa using h.2.2))]
      rw [e]
      exact (rput_misfit n k w (by omega) (by omega) hn hf).mono fun _ _ h => .of_none h
  · have e : PS n s = ([], 1) := by unfold PS; rw [if_neg (fun h => hs ⟨h.1, h.2.1⟩)]
    rw [e]
    exact (rput_size n s w (by omega)).mono fun _ _ h => .of_nil h
theorem take_any (A : Option Addr) (n c : Nat) (s : Int) (w : World) (hm : n ≤ 9223372036854775807) (B : Nat) (bs : List UInt8) (hr : RdS bv w B A n c bs) :
    Calls Try.prog 25 #[.slice A n c, .int .i64 s] w (RetNum (TS bs s).1 (TS bs s).2 w) := by
  have hl := hr.len
  by_cases hs : 1 ≤ s ∧ s ≤ 4
  · obtain ⟨h1, h2⟩ := hs
    obtain ⟨k, rfl⟩ := Int.eq_ofNat_of_zero_le (by omega : 0 ≤ s)
    by_cases hf : n < k
    · have e : TS bs k = (0, 2) := by unfold TS; rw [if_pos ⟨h1, h2⟩, if_pos (by omega)]
      rw [e]
      exact take_short A n c k w (by omega) (by omega) hf
    · have e : TS bs k = (val (bs.take k), 0) := by unfold TS; rw [if_pos ⟨h1, h2⟩, if_neg (by omega)]; simp
      rw [e]
      exact take_yes A n c k w (by omega) (by omega) (by omega) hm B bs hr
  · have e : TS bs s = (0, 1) := by unfold TS; rw [if_neg hs]
    rw [e]
    exact take_size A n c s w (by omega)
theorem rtake_any (A : Option Addr) (n c : Nat) (s : Int) (w : World) (hm : n ≤ 9223372036854775807) (B : Nat) (bs : List UInt8) (hr : RdS bv w B A n c bs) :
    Calls Try.prog 31 #[.slice A n c, .int .i64 s] w (RetNum (TS bs s).1 (TS bs s).2 w) := by
  have hl := hr.len
  by_cases hs : 1 ≤ s ∧ s ≤ 4
  · obtain ⟨h1, h2⟩ := hs
    obtain ⟨k, rfl⟩ := Int.eq_ofNat_of_zero_le (by omega : 0 ≤ s)
    by_cases hf : n < k
    · have e : TS bs k = (0, 2) := by unfold TS; rw [if_pos ⟨h1, h2⟩, if_pos (by omega)]
      rw [e]
      exact rtake_short A n c k w (by omega) (by omega) hf
    · have e : TS bs k = (val (bs.take k), 0) := by unfold TS; rw [if_pos ⟨h1, h2⟩, if_neg (by omega)]; simp
      rw [e]
      exact rtake_yes A n c k w (by omega) (by omega) (by omega) hm B bs hr
  · have e : TS bs s = (0, 1) := by unfold TS; rw [if_neg hs]
    rw [e]
    exact rtake_size A n c s w (by omega)
theorem RS_of {zs : List Int} {k : Nat} {w : World} {e : Ending} {w' : World} (h1 : 1 ≤ (k : Int)) (h2 : (k : Int) ≤ 4) (h : RetRows k zs w e w') : RetBs (RS zs k).1 (RS zs k).2 w e w' := by
  by_cases hf : ∀ z ∈ zs, Fits k z
  · have e : RS zs k = (rowB k zs, 0) := by unfold RS; rw [if_pos ⟨h1, h2, by simpa using hf⟩]; simp
    rw [e]
    exact .of_row (h.1 hf)
  · have e : RS zs k = ([], 1) := by unfold RS; rw [if_neg (fun h => hf (by simpa using h.2.2))]
    rw [e]
    exact .of_none (h.2 hf)
theorem prow_any (A : Option Addr) (n c : Nat) (s : Int) (w : World) (hn : n ≤ 1048576) (zs : List Int) (B : Nat) (hB : B ≤ w.heap.size) (hr : RdS iv w B A n c zs) :
    Calls Try.prog 29 #[.int .i64 s, .slice A n c] w (RetBs (RS zs s).1 (RS zs s).2 w) := by
  by_cases hs : 1 ≤ s ∧ s ≤ 4
  · obtain ⟨h1, h2⟩ := hs
    obtain ⟨k, rfl⟩ := Int.eq_ofNat_of_zero_le (by omega : 0 ≤ s)
    exact (row_any k A n c w (by omega) (by omega) hn zs B hB hr).mono fun _ _ h => RS_of h1 h2 h
  · have e : RS zs s = ([], 1) := by unfold RS; rw [if_neg (fun h => hs ⟨h.1, h.2.1⟩)]
    rw [e]
    exact (row_size s A n c w (by omega)).mono fun _ _ h => .of_nil h
theorem rprow_any (A : Option Addr) (n c : Nat) (s : Int) (w : World) (hn : n ≤ 1048576) (zs : List Int) (hz : ∀ z ∈ zs, -9223372036854775808 ≤ z ∧ z ≤ 9223372036854775807) (B : Nat) (hB : B ≤ w.heap.size) (hr : RdS iv w B A n c zs) :
    Calls Try.prog 30 #[.int .i64 s, .slice A n c] w (RetBs (RS zs s).1 (RS zs s).2 w) := by
  by_cases hs : 1 ≤ s ∧ s ≤ 4
  · obtain ⟨h1, h2⟩ := hs
    obtain ⟨k, rfl⟩ := Int.eq_ofNat_of_zero_le (by omega : 0 ≤ s)
    exact (rrow_any k A n c w (by omega) (by omega) hn zs hz B hB hr).mono fun _ _ h => RS_of h1 h2 h
  · have e : RS zs s = ([], 1) := by unfold RS; rw [if_neg (fun h => hs ⟨h.1, h.2.1⟩)]
    rw [e]
    exact (rrow_size s A n c w (by omega)).mono fun _ _ h => .of_nil h
end Go.Proofs.Ytgiefjbdkkdaiaa
