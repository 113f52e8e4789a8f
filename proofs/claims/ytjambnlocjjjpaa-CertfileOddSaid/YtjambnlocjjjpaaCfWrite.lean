/-
  certfile's writer: numbers and groups one behind the other.
-/
import Derived.Test.YtjambnlocjjjpaaCfMe
import Derived.Test.YtjambnlocjjjpaaCfPlain
namespace Go.Proofs.Ytjambnlocjjjpaa
open Go.RowKit Go.Th
set_option linter.unusedVariables false
/-- The writer in a variable: what it holds so far. -/
structure Wr (w : World) (base g : Nat) (bs : List UInt8) : Prop where
  ex : ∃ A n c, Box w g 63 #[.slice A n c, .int .i64 0] ∧ OwS bv w base 5 A n c bs
  ge : base ≤ g
theorem ty_bw : 5 ≠ 63 := by decide
theorem Wr.below {w w' : World} {base g : Nat} {bs : List UInt8} (h : Wr w base g bs) (hb : Below w.heap.size w w') : Wr w' base g bs := by
  obtain ⟨⟨A, n, c, hbx, how⟩, hge⟩ := h
  exact ⟨⟨A, n, c, hbx.step hb, how.below hb⟩, hge⟩
theorem Wr.lt {w : World} {base g : Nat} {bs : List UInt8} (h : Wr w base g bs) : g < w.heap.size := by
  obtain ⟨⟨A, n, c, hbx, how⟩, hge⟩ := h
  exact hbx.lt
/-- What lies apart from the writer: below its beginning, or a row of another type. -/
def Apart (w : World) (base : Nat) (A : Option Addr) : Prop := ∀ k, rowOf A = some k → k < base ∨ ∃ cur fz, w.heap[k]? = some (Obj.cells cur 3 fz)
/-- Steps of a writer: what lies below base stays, and rows of whole numbers too. -/
structure WBel (base : Nat) (w w' : World) : Prop where
  b : Below base w w'
  r : ∀ (k : Nat) (cur : Array Value) (e : TypeId) (fz : Nat × Nat), w.heap[k]? = some (Obj.cells cur e fz) → e ≠ 5 → e ≠ 63 → w'.heap[k]? = w.heap[k]?
theorem WBel.refl (base : Nat) (w : World) : WBel base w w := ⟨Below.refl _ _, fun _ _ _ _ _ _ _ => rfl⟩
theorem WBel.trans {base : Nat} {w1 w2 w3 : World} (h : WBel base w1 w2) (h2 : WBel base w2 w3) : WBel base w1 w3 :=
  ⟨h.b.trans h2.b, fun k cur e fz hk h3 h4 => (h2.r k cur e fz ((h.r k cur e fz hk h3 h4).trans hk) h3 h4).trans (h.r k cur e fz hk h3 h4)⟩
theorem WBel.of_below {base : Nat} {w w' : World} (hb : base ≤ w.heap.size) (h : Below w.heap.size w w') : WBel base w w' :=
  ⟨h.mono hb, fun k cur e fz hk _ _ => h.block k (Array.getElem?_eq_some_iff.1 hk).1⟩
theorem WBel.of_grown {base : Nat} {w w' : World} {row : Option Nat} (h : w.grownBy w' row) (hb : base ≤ w.heap.size) (hr : ∀ k, row = some k → base ≤ k ∧ ∀ cur e fz, w.heap[k]? = some (Obj.cells cur e fz) → e = 5 ∨ e = 63) : WBel base w w' :=
  ⟨below_of_grown h (fun k hk => (hr k hk).1) hb, fun k cur e fz hk h3 h4 => h.block k (Array.getElem?_eq_some_iff.1 hk).1 (fun e2 => ((hr k e2.symm).2 cur e fz hk).elim h3 h4)⟩
theorem box_no_int {w : World} {g : Nat} {cs : Array Value} (h : Box w g 63 cs) : ∀ cur e fz, w.heap[g]? = some (Obj.cells cur e fz) → e = 5 ∨ e = 63 := fun cur e fz h2 => by
  rw [h.at_] at h2
  injection h2 with h2
  injection h2 with _ h2
  exact .inr h2.symm
/-- A variable of another type is as it was. -/
theorem box_wbel {w w' : World} {base g : Nat} {t : TypeId} {cs : Array Value} (h : Box w g t cs) (hb : WBel base w w') (h1 : t ≠ 5) (h2 : t ≠ 63) : Box w' g t cs := ⟨(hb.r g cs t _ h.at_ h1 h2).trans h.at_⟩
theorem own_no_int {w : World} {base n c : Nat} {A : Option Addr} {bs : List UInt8} (h : OwS bv w base 5 A n c bs) : ∀ k, rowOf A = some k → base ≤ k ∧ ∀ cur e fz, w.heap[k]? = some (Obj.cells cur e fz) → e = 5 ∨ e = 63 := fun k hk => by
  refine ⟨h.ow.row_ge k hk, fun cur e fz h2 => ?_⟩
  rcases h.ow.form with ⟨rfl, _⟩ | ⟨g', rfl, _⟩
  · cases hk
  · cases hk
    obtain ⟨cur', fz', e'⟩ := h.ow.type rfl
    rw [h2] at e'
    injection e' with e'
    injection e' with _ e'
    exact .inl e'
theorem own_ne_box {w : World} {base n c g : Nat} {A : Option Addr} {bs : List UInt8} {cs : Array Value} (h : OwS bv w base 5 A n c bs) (hb : Box w g 63 cs) : rowOf A ≠ some g := fun e => by
  rcases h.ow.form with ⟨rfl, _⟩ | ⟨g', rfl, _⟩
  · cases e
  · exact h.ow.box_ne hb ty_bw g' rfl e.symm
/-- A row that lies apart reads as it did. -/
theorem rds_wbel {α : Type} {f : α → Value} {w w' : World} {base B n c : Nat} {A : Option Addr} {xs : List α} (h : RdS f w B A n c xs) (ha : xs = [] ∨ Apart w base A) (hb : WBel base w w') : RdS f w' B A n c xs :=
  ⟨⟨fun j u hu => by
    rcases ha with rfl | ha
    · simp at hu
    obtain ⟨b, o, e, hB, hc⟩ := h.rd.at_ j u hu
    refine ⟨b, o, e, hB, (World.cell?_of_block ?_).trans hc⟩
    have hl := World.block_lt_of_cell? w ⟨b, o + j, none⟩ hc
    rcases ha b (by rw [e]; rfl) with h1 | ⟨cur, fz, h1⟩
    · exact hb.b.block b h1
    · exact hb.r b cur _ fz h1 (by decide) (by decide)⟩, h.len, h.cap⟩
theorem Apart.wbel {w w' : World} {base : Nat} {A : Option Addr} (ha : Apart w base A) (hb : WBel base w w') : Apart w' base A := fun k hk => by
  rcases ha k hk with h | ⟨cur, fz, h⟩
  · exact .inl h
  · exact .inr ⟨cur, fz, (hb.r k cur _ fz h (by decide) (by decide)).trans h⟩
theorem Apart.below {w : World} {base B n c : Nat} {A : Option Addr} {α : Type} {f : α → Value} {xs : List α} (h : RdS f w B A n c xs) (hB : B ≤ base) : xs = [] ∨ Apart w base A := by
  cases xs with
  | nil => exact .inl rfl
  | cons x xs =>
    refine .inr fun k hk => ?_
    obtain ⟨b, o, e, hb, _⟩ := h.rd.at_ 0 (f x) rfl
    rw [e] at hk
    cases hk
    exact .inl (Nat.lt_of_lt_of_le hb hB)
theorem Apart.none_ (w : World) (base : Nat) : Apart w base none := fun k hk => by cases hk
theorem Apart.own {w : World} {base b n c : Nat} {A : Option Addr} {xs : List Int} (h : OwS iv w b 3 A n c xs) : Apart w base A := fun k hk => by
  rcases h.ow.form with ⟨rfl, _⟩ | ⟨g', rfl, _⟩
  · cases hk
  · cases hk
    exact .inr (h.ow.type rfl)
set_option maxRecDepth 100000 in
set_option maxHeartbeats 2000000 in
theorem wnum_any (base g : Nat) (bs : List UInt8) (s : Nat) (Al : Option Addr) (nl cl : Nat) (zs : List Int) (w : World) (hbase : base ≤ w.heap.size) (h : Wr w base g bs) (hlen : bs.length ≤ 1000000000) (hs : 1 ≤ s ∧ s ≤ 4) (hz : ∀ z ∈ zs, Fits s z) (hn : nl ≤ 1000) (hr : RdS iv w w.heap.size Al nl cl zs) :
    Calls Try.prog 24 #[.pointer (some ⟨g, 0, none⟩), .int .i64 s, .slice Al nl cl] w (fun e w' => e = .returned (.tuple #[]) ∧ Wr w' base g (bs ++ rowB s zs) ∧ WBel base w w') := by
  obtain ⟨⟨A, n, c, bx, ow⟩, hge⟩ := h
  have hnl := ow.len
  have hgl := bx.lt
  have y1 : w.cell? ⟨g, 1, none⟩ = some (.int .i64 0) := bx.cell 1
  have hzl : (rowB s zs).length = zs.length * s := rowB_length s zs
  have hzn := hr.len
  subst hzn
  subst hnl
  have hbd : zs.length * s ≤ 4000 := by have := Nat.mul_le_mul hn hs.2; omega
  have Hbd := Lib.hid hbd
  clear hbd
  go_enter Try.func24, Try.ntmps24
  go_wp2_with (first
    | (go_at_call 14; (with_reducible refine (num_row_any s Al _ cl w hs.1 hs.2 (by omega) zs w.heap.size (Nat.le_refl _) hr).mono ?_); rintro e w1 hR; obtain ⟨A1, c1, rfl, ow1, hb1⟩ := hR.1 hz; have bx1 := bx.step hb1; have ow0 := ow.below hb1; have x0 : w1.cell? ⟨g, 0, none⟩ = some (.slice A bs.length c) := bx1.cell 0)
    | ((with_reducible refine on_append (.tmp 23) (.tmp 24) ?_); refine wl_appendS rfl (.tmp 23) (.tmp 24) _ rfl el_u8 (f := bv) (fun _ => rfl) rfl ow0 rfl ow1.rd (by have := Hbd.out; omega) (by omega) (Nat.le_trans hbase hb1.size) ?_; intro A8 c8 w8 ow8 hg8 hb8; have bx8 := bx1.grown hg8 (own_ne_box ow0 bx1); have f8 := bx8.frozen 0; have d8 : w8.cell? ⟨g, 0, none⟩ = some (.slice A bs.length c) := bx8.cell 0; have d9 : w8.cell? ⟨g, 1, none⟩ = some (.int .i64 0) := bx8.cell 1; have bS8 := bx8.setCell 0 (.slice A8 (bs.length + zs.length * s) c8); have f9 := bS8.1.frozen 1; have bS9 := bS8.1.setCell 1 (.int .i64 0)))
  refine bodyPost_end (results_none rfl _ _ _) rfl ?_
  have k1 : WBel base w w1 := .of_below hbase hb1
  have k2 : WBel base w1 w8 := .of_grown hg8 (Nat.le_trans hbase hb1.size) (own_no_int ow0)
  have k3 := WBel.of_grown bS8.2 (Nat.le_trans (Nat.le_trans hbase hb1.size) hb8.size) (fun k e => by injection e with e; subst e; exact ⟨hge, box_no_int bx8⟩)
  have k4 := WBel.of_grown bS9.2 (Nat.le_trans (Nat.le_trans (Nat.le_trans hbase hb1.size) hb8.size) k3.b.size) (fun k e => by injection e with e; subst e; exact ⟨hge, box_no_int bS8.1⟩)
  have hne := own_ne_box ow8 bx8
  have o9 := ow8.grown bS8.2 (fun g' hA e => hne (by rw [hA]; exact e.symm))
  have hne2 := own_ne_box o9 bS8.1
  have o10 := o9.grown bS9.2 (fun g' hA e => hne2 (by rw [hA]; exact e.symm))
  exact ⟨rfl, ⟨⟨A8, _, c8, bS9.1, o10⟩, hge⟩, ((k1.trans k2).trans k3).trans k4⟩
/-- Groups one behind the other: the relation of the loop. -/
def WGRel (base g : Nat) (bs : List UInt8) (zs : List Int) (w : World) (i : Value) (wr : World) : Prop :=
  ∃ k : Nat, k ≤ zs.length ∧ i = .int .i64 k ∧ Wr wr base g (bs ++ gN (zs.take k)) ∧ WBel base w wr
theorem gN_take {xs : List Int} {k : Nat} {x : Int} (h : xs[k]? = some x) : gN (xs.take (k + 1)) = gN (xs.take k) ++ gput x.toNat := by
  simp [gN, List.take_add_one, h]
theorem gN_len (xs : List Int) : (gN xs).length ≤ 4 * xs.length := by
  induction xs with
  | nil => simp [gN]
  | cons x xs ih =>
    have e : gN (x :: xs) = gput x.toNat ++ gN xs := by simp [gN]
    rw [e, List.length_append, gput_length, List.length_cons]
    have := (gsize_pos x.toNat).2
    omega
set_option maxRecDepth 100000 in
set_option maxHeartbeats 2000000 in
theorem wgroup_any (base g : Nat) (bs : List UInt8) (Al : Option Addr) (nl cl : Nat) (zs : List Int) (w : World) (hbase : base ≤ w.heap.size) (h : Wr w base g bs) (hlen : bs.length ≤ 1000000000) (hz : ∀ z ∈ zs, 0 ≤ z ∧ z < 268435456) (hn : nl ≤ 1000000) (hr : RdS iv w w.heap.size Al nl cl zs) (ha : zs = [] ∨ Apart w base Al) :
    Calls Try.prog 25 #[.pointer (some ⟨g, 0, none⟩), .slice Al nl cl] w (fun e w' => e = .returned (.tuple #[]) ∧ Wr w' base g (bs ++ gN zs) ∧ WBel base w w') := by
  have hzn := hr.len
  subst hzn
  have Hz := Lib.hid hz
  clear hz
  go_enter Try.func25, Try.ntmps25
  go_wp2_with fail
  go_loopw [10] (fun i wr => WGRel base g bs zs w i wr) (fun i _ => zs.length - (intOf i).toNat)
  case atStart => exact ⟨0, by omega, rfl, by simpa [gN] using h, .refl _ _⟩
  case round =>
    obtain ⟨k, hk, rfl, hW, hb⟩ := hrel
    have hrr := rds_wbel hr ha hb
    have hgl := hW.lt
    have hbr := Nat.le_trans hbase hb.b.size
    obtain ⟨⟨A, n, c, bx, ow⟩, hge⟩ := hW
    have hnl := ow.len
    subst hnl
    have hlt2 : (bs ++ gN (zs.take k)).length ≤ 1004000000 := by
      have h1 := gN_len (zs.take k)
      have h2 : (zs.take k).length ≤ zs.length := by rw [List.length_take]; omega
      rw [List.length_append]
      omega
    obtain ⟨cs, hcs⟩ : ∃ cs, bs ++ gN (zs.take k) = cs := ⟨_, rfl⟩
    rw [hcs] at bx ow hlt2
    have y1 : wr.cell? ⟨g, 1, none⟩ = some (.int .i64 0) := bx.cell 1
    by_cases hlt : k < zs.length
    · obtain ⟨z, hzk⟩ : ∃ z, zs[k]? = some z := ⟨zs[k], List.getElem?_eq_getElem hlt⟩
      have hz0 := Hz.out z (List.mem_of_getElem? hzk)
      have hgt := Lib.hid (gN_take hzk)
      have Hzk := Lib.hid hzk
      have Hcs := Lib.hid hcs
      clear hzk hcs
      obtain ⟨m, rfl⟩ := Int.eq_ofNat_of_zero_le hz0.1
      obtain ⟨gm, hgm⟩ : ∃ gm, gsize m = gm := ⟨_, rfl⟩
      have hg4 : gm ≤ 4 := by have := gsize_pos m; omega
      have hm : m < 268435456 := by omega
      have Hgm := Lib.hid hgm
      clear hgm
      go_wp2_with (first
        | ((with_reducible refine on_index (.tmp 8) ?_); refine wl_at_i rfl _ (.tmp 8) _ rfl el_int rfl rfl (by omega) (by omega) hrr ?_; intro p x hx hc; have hxx : (m : Int) = x := (by have e := hx.out; rw [Int.toNat_natCast, Hzk.out] at e; injection e); subst hxx)
        | (go_at_call 26; (with_reducible refine (gput_any m _).mono ?_); rintro e w1 ⟨A1, c1, rfl, ow1, hb1⟩; rw [GP_in m hm, GS_in m hm, Hgm.out] at ow1 ⊢; have bx1 := bx.step hb1; have ow0 := ow.below hb1; have x0 : w1.cell? ⟨g, 0, none⟩ = some (.slice A cs.length c) := bx1.cell 0)
        | ((with_reducible refine on_append (.tmp 28) (.tmp 29) ?_); refine wl_appendS rfl (.tmp 28) (.tmp 29) _ rfl el_u8 (f := bv) (fun _ => rfl) rfl ow0 rfl ow1.rd (by omega) (by omega) (Nat.le_trans hbr hb1.size) ?_; intro A8 c8 w8 ow8 hg8 hb8; have bx8 := bx1.grown hg8 (own_ne_box ow0 bx1); have f8 := bx8.frozen 0; have d8 : w8.cell? ⟨g, 0, none⟩ = some (.slice A cs.length c) := bx8.cell 0; have d9 : w8.cell? ⟨g, 1, none⟩ = some (.int .i64 0) := bx8.cell 1; have bS8 := bx8.setCell 0 (.slice A8 (cs.length + gm) c8); have f9 := bS8.1.frozen 1; have bS9 := bS8.1.setCell 1 (.int .i64 0)))
      go_roundw
      case rel =>
        have k1 : WBel base wr w1 := .of_below hbr hb1
        have k2 : WBel base w1 w8 := .of_grown hg8 (Nat.le_trans hbr hb1.size) (own_no_int ow0)
        have k3 := WBel.of_grown bS8.2 (Nat.le_trans (Nat.le_trans hbr hb1.size) hb8.size) (fun k e => by injection e with e; subst e; exact ⟨hge, box_no_int bx8⟩)
        have k4 := WBel.of_grown bS9.2 (Nat.le_trans (Nat.le_trans (Nat.le_trans hbr hb1.size) hb8.size) k3.b.size) (fun k e => by injection e with e; subst e; exact ⟨hge, box_no_int bS8.1⟩)
        have hne := own_ne_box ow8 bx8
        have o9 := ow8.grown bS8.2 (fun g' hA e => hne (by rw [hA]; exact e.symm))
        have hne2 := own_ne_box o9 bS8.1
        have o10 := o9.grown bS9.2 (fun g' hA e => hne2 (by rw [hA]; exact e.symm))
        have ec : bs ++ gN (zs.take (k + 1)) = cs ++ gput m := by rw [hgt.out, ← Hcs.out, List.append_assoc]; rfl
        exact ⟨k + 1, by omega, by go_num, ⟨⟨A8, _, c8, bS9.1, by rw [ec]; exact o10⟩, hge⟩, (((hb.trans k1).trans k2).trans k3).trans k4⟩
      case measure => simp [intOf]; omega
    · obtain rfl : k = zs.length := by omega
      go_wp2
      refine bodyPost_end (results_none rfl _ _ _) rfl ?_
      rw [List.take_length] at hcs
      rw [← hcs] at bx ow
      exact ⟨rfl, ⟨⟨A, _, c, bx, ow⟩, hge⟩, hb⟩
theorem wnum_lit (base g : Nat) (bs : List UInt8) (s : Nat) (zs : List Int) (m : Nat) (cs : Array Value) (w : World) (hbase : base ≤ w.heap.size) (h : Wr w base g bs) (hlen : bs.length ≤ 1000000000) (hs : 1 ≤ s ∧ s ≤ 4) (hz : ∀ z ∈ zs, Fits s z) (hm : zs.length = m) (hm2 : m ≤ 1000) (hc : cs.toList = zs.map iv) :
    Calls Try.prog 24 #[.pointer (some ⟨g, 0, none⟩), .int .i64 s, .slice (some ⟨w.heap.size, 0, none⟩) m m] (w.alloc (.cells cs 3)) (fun e w' => e = .returned (.tuple #[]) ∧ Wr w' base g (bs ++ rowB s zs) ∧ WBel base w w') := by
  have k := below_alloc w (Nat.le_refl _) (.cells cs 3)
  refine (wnum_any base g bs s _ m m zs _ (by simp; omega) (h.below k) hlen hs hz hm2 (OwS.lit (base := w.heap.size) w cs m (Nat.le_refl _) (by simp [maxLen]; omega) hm hc).rd).mono ?_
  rintro e w' ⟨h1, h2, h3⟩
  exact ⟨h1, h2, (WBel.of_below hbase k).trans h3⟩
theorem wgroup_lit (base g : Nat) (bs : List UInt8) (zs : List Int) (m : Nat) (cs : Array Value) (w : World) (hbase : base ≤ w.heap.size) (h : Wr w base g bs) (hlen : bs.length ≤ 1000000000) (hz : ∀ z ∈ zs, 0 ≤ z ∧ z < 268435456) (hm : zs.length = m) (hm2 : m ≤ 1000) (hc : cs.toList = zs.map iv) :
    Calls Try.prog 25 #[.pointer (some ⟨g, 0, none⟩), .slice (some ⟨w.heap.size, 0, none⟩) m m] (w.alloc (.cells cs 3)) (fun e w' => e = .returned (.tuple #[]) ∧ Wr w' base g (bs ++ gN zs) ∧ WBel base w w') := by
  have k := below_alloc w (Nat.le_refl _) (.cells cs 3)
  have ho := OwS.lit (f := iv) (base := w.heap.size) (e := 3) w cs m (Nat.le_refl _) (by simp [maxLen]; omega) hm hc
  refine (wgroup_any base g bs _ m m zs _ (by simp; omega) (h.below k) hlen hz (by omega) ho.rd (.inr (Apart.own ho))).mono ?_
  rintro e w' ⟨h1, h2, h3⟩
  exact ⟨h1, h2, (WBel.of_below hbase k).trans h3⟩
end Go.Proofs.Ytjambnlocjjjpaa
