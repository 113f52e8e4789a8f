/-
  Networks that send nowhere, and one node that sends to itself: the plain law; a network of the call's own, one node written.
-/
import Derived.Test.YtdmkiejaejlajaaNhMade
namespace Go.Th
open Go.RowKit
set_option linter.unusedVariables false
section
variable {P : Program} {ops : Array Oper} {rest : List Oper} {o : Oper} {a : Act} {Q : Exit → Act → World → Prop} {w : World}
theorem wl_setV (hw : Region.wanted o (yielded ops a.tmps) = true) (T : TypeId) (x y : Operand) (ho : o.op = .store T x y) (hsz : ∀ w, (sizeOf T).run P w = .ok 1 w)
    {g j n c base e : Nat} {xs : List Nd} (hx : a.eval x = .pointer (some ⟨g, j, none⟩)) (v : Nd) (hy : a.eval y = sv v)
    (hown : OwS sv w base e (some ⟨g, 0, none⟩) n c xs) (hj : j < n)
    (h : ∀ w', OwS sv w' base e (some ⟨g, 0, none⟩) n c (xs.set j v) → w.grownBy w' (some g) → Below base w w' → wpList P ops Q rest (a.put o.dst undef) w') : wpList P ops Q (o :: rest) a w :=
  wl_store1 hw T x y ho hsz hx (v := sv v) hy rfl rfl hown.ow hj fun w' h1 h2 h3 => h w' ⟨by rw [List.map_set]; exact h1⟩ h2 h3
end
section
variable {e0 e1 : Nat} {w w' : World} {base base' n c g : Nat} {A : Option Addr} {ns : List Nd}
/-- One node written. -/
theorem NO.put {x : Nd} {i : Nat} (hne : e1 ≠ e0) (h : NO e0 e1 w base (some ⟨g, 0, none⟩) n c ns) (hx : OwM Ru.cs 4 w base e1 x.A x.n x.c x.l) (hok : ∀ r ∈ x.l, r.Ok) (hg : w.grownBy w' (some g)) (ho : OwS sv w' base e0 (some ⟨g, 0, none⟩) n c (ns.set i x)) : NO e0 e1 w' base (some ⟨g, 0, none⟩) n c (ns.set i x) := by
  have key : ∀ q : Nd, OwM Ru.cs 4 w base e1 q.A q.n q.c q.l → OwM Ru.cs 4 w' base e1 q.A q.n q.c q.l := fun q hq => hq.grown hg (fun g' hA e => hq.ow.apart h.row.ow hne g' hA (by injection e with e; rw [e]; rfl))
  refine ⟨ho, fun q hq => ?_, fun q hq => ?_⟩
  · rcases List.mem_or_eq_of_mem_set hq with hq | hq
    · exact key q (h.rk q hq)
    · rw [hq]; exact key x hx
  · rcases List.mem_or_eq_of_mem_set hq with hq | hq
    · exact h.ok q hq
    · rw [hq]; exact hok
theorem Nd.ls_set (ns : List Nd) (i : Nat) (x : Nd) : Nd.ls (ns.set i x) = (Nd.ls ns).set i x.l := by unfold Nd.ls; rw [List.map_set]
end
end Go.Th
namespace Go.Proofs.Ytdmkiejaejlajaa
open Go.RowKit Go.Th
set_option linter.unusedVariables false
section
variable {ls : List (List Ru)} {a v : Int} {n : Nat} {l : List Int} {ok : Bool}
theorem still (h : ∀ l ∈ ls, ∀ r ∈ l, r.act ≠ 1) (u : Int) : nstep ls a u = (0, false) := by
  unfold nstep
  split
  · refine tnext_none ?_
    rw [List.getD_eq_getElem?_getD]
    cases e : ls[u.toNat]? with
    | none => intro r hr; cases hr
    | some l => exact h l (List.mem_of_getElem? e)
  · rfl
theorem still_ans (h : ∀ l ∈ ls, ∀ r ∈ l, r.act ≠ 1) (ha : LAns ls n a l ok) : ok = false ∧ l = [] := by
  rcases ha with ⟨h1, h2, _⟩ | ⟨_, best, M, _, _, _, c, _⟩
  · exact ⟨h1, h2⟩
  · have := c.all 0
    unfold gof at this
    rw [still h] at this
    cases this
theorem self_ans (hv : nstep ls a v = (v, true)) (hno : ∀ u, gof ls a u = true → u = v) (h0 : 0 ≤ v) (h1 : v < (n : Int)) (ha : LAns ls n a l ok) : ok = true ∧ l = [v] := by
  have hh : hof ls a v = v := by unfold hof; rw [hv]
  have hg : gof ls a v = true := by unfold gof; rw [hv]
  have hi : ∀ k, itr (hof ls a) k v = v := fun k => by
    induction k with
    | zero => rfl
    | succ k ih => rw [itr, ih, hh]
  have c1 : Cyc (hof ls a) (gof ls a) v 1 := ⟨Nat.le_refl _, fun j _ => by rw [hi]; exact hg, hi 1⟩
  rcases ha with ⟨_, _, h3⟩ | ⟨h2, best, M, _, _, _, c, hmin, h3, _⟩
  · exact absurd c1 (h3 v 1 h0 h1)
  · have hb : best = v := hno best (c.all 0)
    subst hb
    have hM : M = 1 := by
      have h2 := c.pos
      by_cases e : 1 < M
      · exact absurd (hi 1) (hmin 1 (by omega) e)
      · omega
    subst hM
    exact ⟨h2, by rw [h3]; rfl⟩
theorem self_walk (hv : nstep ls a v = (v, true)) : ∀ k, wgo ls a v k = (v, true)
  | 0 => rfl
  | k + 1 => by rw [wgo, self_walk hv k, if_pos rfl, hv]
end
/-- A network that can be read, of not too many nodes and rules. -/
structure GNet (w : World) (A : Option Addr) (n c : Nat) (ns : List Nd) : Prop where
  rd : NRd w w.heap.size A n c ns
  nb : n ≤ 1000000
  small : ∀ x ∈ ns, x.n ≤ 1000000
section
variable {w w' : World} {A : Option Addr} {n c : Nat} {ns : List Nd}
theorem GNet.mk' (h : NRd w w.heap.size A n c ns) (nb : n ≤ 1000000) (hs : ∀ l ∈ Nd.ls ns, l.length ≤ 1000000) : GNet w A n c ns := ⟨h, nb, fun x hx => by rw [← (h.rk x hx).len]; exact hs _ (List.mem_map.2 ⟨x, hx, rfl⟩)⟩
theorem GNet.step (h : GNet w A n c ns) (hb : Below w.heap.size w w') : GNet w' A n c ns := ⟨(h.rd.step hb).heap, h.nb, h.small⟩
theorem GNet.len (h : GNet w A n c ns) : (Nd.ls ns).length = n := by rw [Nd.ls_len]; exact h.rd.len
theorem GNet.walk (h : GNet w A n c ns) (a v K : Int) (ha : 0 ≤ a ∧ a ≤ 4294967295) (u : Int) (ok : Bool) (hw : Hid (walkT (Nd.ls ns) a v K = (u, ok))) :
    Calls Try.prog 12 #[.agg #[.slice A n c], .int .u32 a, .int .i64 v, .int .i64 K] w (RetIB (u, ok) w) :=
  walk_any A n c ns a v K w (by have := h.nb; omega) ha (fun x hx => by have := h.small x hx; omega) h.rd u ok hw
theorem GNet.stp (h : GNet w A n c ns) (a v : Int) (ha : 0 ≤ a ∧ a ≤ 4294967295) (u : Int) (ok : Bool) (hw : Hid (nstep (Nd.ls ns) a v = (u, ok))) :
    Calls Try.prog 13 #[.agg #[.slice A n c], .int .u32 a, .int .i64 v] w (RetIB (u, ok) w) :=
  step_any A n c ns a v w (by have := h.nb; omega) ha (fun x hx => by have := h.small x hx; omega) w.heap.size h.rd u ok hw
theorem GNet.loop (h : GNet w A n c ns) (a : Int) (ha : 0 ≤ a ∧ a ≤ 4294967295) :
    Calls Try.prog 15 #[.agg #[.slice A n c], .int .u32 a] w (fun e w' => ∃ Al nl cl l ok, e = .returned (.tuple #[.slice Al nl cl, .bool ok]) ∧ RdS iv w' w'.heap.size Al nl cl l ∧ Below w.heap.size w w' ∧ LAns (Nd.ls ns) n a l ok) :=
  loop_any A n c ns a w h.nb ha (fun x hx => by have := h.small x hx; omega) h.rd
theorem GNet.may (h : GNet w A n c ns) (hs : nsize (Nd.ls ns) ≤ 4000000) (e : Int) (he : nmay (Nd.ls ns) = e) :
    Calls Try.prog 18 #[.agg #[.slice A n c]] w (RetB (.int .i64 e) w) := netmay_any A n c ns w (by have := h.nb; omega) hs _ h.rd e he
theorem GNet.size (h : GNet w A n c ns) (hs : nsize (Nd.ls ns) ≤ 4000000) :
    Calls Try.prog 17 #[.agg #[.slice A n c]] w (RetB (.int .i64 (nsize (Nd.ls ns))) w) := netsize_any A n c ns w (by have := h.nb; omega) hs _ h.rd
end
def dRu : Ru := ⟨0, 0, 2, 0⟩
def sRu (v : Nat) : Ru := ⟨0, 0, 1, (v : Int)⟩
theorem dRu_ok : dRu.Ok := by refine ⟨?_, ?_, ?_, ?_⟩ <;> simp [dRu]
theorem sRu_ok {v : Nat} (h : v ≤ 1000) : (sRu v).Ok := by refine ⟨?_, ?_, ?_, ?_⟩ <;> simp [sRu] <;> omega
theorem sh0 : sh 0 = 32 := by decide +kernel
theorem holds_all {x : Int} (h : 0 ≤ x ∧ x ≤ 4294967295) : Th.holds 0 0 x = true := by
  unfold holds head
  rw [sh0]
  refine decide_eq_true ?_
  rw [Nat.div_eq_of_lt (show x.toNat < 2 ^ 32 by omega)]
  rfl
theorem pmay0 : pmay 0 0 = 0 := by decide +kernel
theorem dRu_may (nodes : Int) : dRu.may nodes = 0 := by
  unfold Ru.may dRu
  dsimp only
  rw [if_neg (by rw [pmay0]; simp), if_neg (by decide), if_pos (by decide), if_neg (by decide)]
theorem sRu_may {v : Nat} {nodes : Int} (h : (v : Int) < nodes) : (sRu v).may nodes = 0 := by
  unfold Ru.may sRu
  dsimp only
  rw [if_neg (by rw [pmay0]; simp), if_pos rfl, if_neg (by omega)]
theorem nmay_small {ls : List (List Ru)} (hl : ls.length ≤ 256) (h : ∀ l ∈ ls, l = [] ∨ ∃ r, l = [r] ∧ r.may ls.length = 0) : nmay ls = 0 ∧ nsize ls ≤ 256 := by
  have h1 : ∀ l ∈ ls, l.length ≤ 1 := fun l hl => by
    rcases h l hl with rfl | ⟨r, rfl, _⟩ <;> simp
  have h2 := nsize_le h1
  refine ⟨nmay_zero.2 ⟨hl, by omega, fun l hl => ?_⟩, by omega⟩
  rcases h l hl with rfl | ⟨r, rfl, hr⟩
  · rfl
  · unfold tmay
    rw [tmayGo, if_neg (by simp [hr]), if_neg (by simp [outOf])]
    rfl
theorem rep_set {α : Type} (n i : Nat) (x y : α) (h : i < n) : (List.replicate i x ++ List.replicate (n - i) y).set i x = List.replicate (i + 1) x ++ List.replicate (n - (i + 1)) y := by
  obtain ⟨m, rfl⟩ : ∃ m, n = i + (m + 1) := ⟨n - i - 1, by omega⟩
  rw [show i + (m + 1) - i = m + 1 by omega, show i + (m + 1) - (i + 1) = m by omega, List.set_append_right _ _ (by simp), List.length_replicate, Nat.sub_self, List.replicate_succ (n := m), List.set_cons_zero, List.replicate_succ']
  simp
/-- All deliver but v, which sends to itself. -/
theorem self_net {n v : Nat} (hv : v < n) {a : Int} (ha : 0 ≤ a ∧ a ≤ 4294967295) : nstep ((List.replicate n [dRu]).set v [sRu v]) a v = ((v : Int), true) ∧ ∀ u, gof ((List.replicate n [dRu]).set v [sRu v]) a u = true → u = (v : Int) := by
  constructor
  · unfold nstep
    rw [if_pos (by simp; omega), Int.toNat_natCast, List.getD_eq_getElem?_getD, List.getElem?_set_self (by simpa using hv)]
    show tnext [sRu v] a = _
    unfold sRu
    rw [tnext_one (holds_all ha), if_pos rfl]
  · intro u hg
    have hu := gof_in hg
    obtain ⟨k, rfl⟩ := Int.eq_ofNat_of_zero_le hu.1
    have hk : k < n := by have := hu.2; simp at this; omega
    by_cases e : k = v
    · rw [e]
    · exfalso
      unfold gof nstep at hg
      rw [if_pos hu, Int.toNat_natCast, List.getD_eq_getElem?_getD, List.getElem?_set_ne (fun h => e h.symm), List.getElem?_replicate, if_pos hk] at hg
      have : tnext [dRu] a = (0, false) := tnext_none (by intro r hr; rw [List.mem_singleton.1 hr]; decide)
      rw [show ((some [dRu]).getD [] : List Ru) = [dRu] from rfl, this] at hg
      cases hg
theorem self_may {n v : Nat} (hv : v < n) (hn : n ≤ 256) : nmay ((List.replicate n [dRu]).set v [sRu v]) = 0 ∧ nsize ((List.replicate n [dRu]).set v [sRu v]) ≤ 256 := by
  refine nmay_small (by simpa using hn) fun l hl => .inr ?_
  rcases List.mem_or_eq_of_mem_set hl with h | h
  · exact ⟨dRu, List.eq_of_mem_replicate h, dRu_may _⟩
  · exact ⟨sRu v, h, sRu_may (by simp; omega)⟩
theorem none_may {n : Nat} (hn : n ≤ 256) : nmay (List.replicate n []) = 0 ∧ nsize (List.replicate n []) ≤ 256 :=
  nmay_small (by simpa using hn) fun l hl => .inl (List.eq_of_mem_replicate hl)
theorem none_still (n : Nat) : ∀ l ∈ List.replicate n ([] : List Ru), ∀ r ∈ l, r.act ≠ 1 := fun l hl r hr => by
  rw [List.eq_of_mem_replicate hl] at hr
  cases hr
theorem ends_still (n : Nat) : ∀ l ∈ List.replicate n [dRu], ∀ r ∈ l, r.act ≠ 1 := fun l hl r hr => by
  rw [List.eq_of_mem_replicate hl] at hr
  rw [List.mem_singleton.1 hr]
  decide
end Go.Proofs.Ytdmkiejaejlajaa
