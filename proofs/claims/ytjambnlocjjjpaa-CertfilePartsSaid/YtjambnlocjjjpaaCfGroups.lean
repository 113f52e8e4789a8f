/-
  theseuslaw18.groups: numbers as groups behind bytes of the call's own.
-/
import Derived.Test.YtjambnlocjjjpaaCfFit
namespace Go.Proofs.Ytjambnlocjjjpaa
open Go.RowKit Go.Th
set_option linter.unusedVariables false
def GrRel (base : Nat) (bs : List UInt8) (zs : List Int) (w : World) (b i : Value) (wr : World) : Prop :=
  ∃ (k n c : Nat) (A : Option Addr), k ≤ zs.length ∧ i = .int .i64 k ∧ b = .slice A n c ∧ OwS bv wr base 5 A n c (bs ++ gN (zs.take k)) ∧ WBel base w wr
set_option maxRecDepth 100000 in
set_option maxHeartbeats 2000000 in
theorem groups18_any (base : Nat) (A : Option Addr) (n c : Nat) (bs : List UInt8) (Al : Option Addr) (nl cl : Nat) (zs : List Int) (w : World) (hbase : base ≤ w.heap.size) (how : OwS bv w base 5 A n c bs) (hlen : bs.length ≤ 1000000000) (hz : ∀ z ∈ zs, 0 ≤ z ∧ z < 268435456) (hn : nl ≤ 1000000) (hr : RdS iv w w.heap.size Al nl cl zs) (ha : zs = [] ∨ Apart w base Al) :
    Calls Try.prog 12 #[.slice A n c, .slice Al nl cl] w (fun e w' => ∃ A' n' c', e = .returned (.slice A' n' c') ∧ OwS bv w' base 5 A' n' c' (bs ++ gN zs) ∧ WBel base w w') := by
  have hzn := hr.len
  subst hzn
  have Hz := Lib.hid hz
  clear hz
  go_enter Try.func12, Try.ntmps12
  go_wp2_with fail
  go_loopw [0, 5] (fun b i wr => GrRel base bs zs w b i wr) (fun _ i _ => zs.length - (intOf i).toNat)
  case atStart => exact ⟨0, n, c, A, by omega, rfl, rfl, by simpa [gN] using how, .refl _ _⟩
  case round =>
    obtain ⟨k, m, c1, A1, hk, rfl, rfl, ow, hb⟩ := hrel
    have hrr := rds_wbel hr ha hb
    have hbr := Nat.le_trans hbase hb.b.size
    have hml := ow.len
    have hlt2 : (bs ++ gN (zs.take k)).length ≤ 1004000000 := by
      have h1 := gN_len (zs.take k)
      have h2 : (zs.take k).length ≤ zs.length := by rw [List.length_take]; omega
      rw [List.length_append]
      omega
    have hm2 : m ≤ 1004000000 := by omega
    clear hml hlt2
    by_cases hlt : k < zs.length
    · obtain ⟨z, hzk⟩ : ∃ z, zs[k]? = some z := ⟨zs[k], List.getElem?_eq_getElem hlt⟩
      have hz0 := Hz.out z (List.mem_of_getElem? hzk)
      have hgt := Lib.hid (gN_take hzk)
      have Hzk := Lib.hid hzk
      clear hzk
      obtain ⟨x, rfl⟩ := Int.eq_ofNat_of_zero_le hz0.1
      obtain ⟨gm, hgm⟩ : ∃ gm, gsize x = gm := ⟨_, rfl⟩
      have hg4 : gm ≤ 4 := by have := gsize_pos x; omega
      have hx : x < 268435456 := by omega
      have Hgm := Lib.hid hgm
      clear hgm
      go_wp2_with (first
        | ((with_reducible refine on_index (.tmp 15) ?_); refine wl_at_i rfl _ (.tmp 15) _ rfl el_int rfl rfl (by omega) (by omega) hrr ?_; intro p y hy hc; have hxx : (x : Int) = y := (by have e := hy.out; rw [Int.toNat_natCast, Hzk.out] at e; injection e); subst hxx)
        | (go_at_call 26; (with_reducible refine (gput_any x _).mono ?_); rintro e w1 ⟨A2, c2, rfl, ow1, hb1⟩; rw [GP_in x hx, GS_in x hx, Hgm.out] at ow1 ⊢; have ow0 := ow.below hb1)
        | ((with_reducible refine on_append (.tmp 22) (.tmp 23) ?_); refine wl_appendS rfl (.tmp 22) (.tmp 23) _ rfl el_u8 (f := bv) (fun _ => rfl) rfl ow0 rfl ow1.rd (by omega) (by omega) (Nat.le_trans hbr hb1.size) ?_; intro A8 c8 w8 ow8 hg8 hb8))
      go_roundw
      case rel =>
        rw [List.append_assoc] at ow8
        exact ⟨k + 1, _, c8, A8, by omega, by go_num, rfl, by rw [hgt.out]; exact ow8, (hb.trans (.of_below hbr hb1)).trans (.of_grown hg8 (Nat.le_trans hbr hb1.size) (own_no_int ow0))⟩
      case measure => simp [intOf]; omega
    · obtain rfl : k = zs.length := by omega
      go_wp2
      go_ret
      rw [List.take_length] at ow
      exact ⟨A1, m, c1, rfl, ow, hb⟩
end Go.Proofs.Ytjambnlocjjjpaa
