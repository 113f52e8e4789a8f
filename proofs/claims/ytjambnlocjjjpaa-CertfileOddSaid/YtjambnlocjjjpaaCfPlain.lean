/-
  Certificates as bytes: plain lists, no program in sight.
-/
import Derived.Test.YtjambnlocjjjpaaCfMb
import Derived.Test.YtjambnlocjjjpaaCfMd
namespace Go.Th
open Go.RowKit
set_option linter.unusedVariables false
abbrev PK := Int × Int × List Int
def gN (xs : List Int) : List UInt8 := xs.flatMap fun x => gput x.toNat
def pbody (p : PK) : List UInt8 := be p.1.toNat 4 ++ (be p.2.1.toNat 4 ++ gN p.2.2)
def pbodies (ks : List PK) : List UInt8 := ks.flatMap pbody
/-- A certificate's bytes between magic and sum. -/
def cbody (v : Int) (ks : List PK) (d : Int) (tr : List Int) (nodes : Int) : List UInt8 :=
  be v.toNat 1 ++ (gput nodes.toNat ++ (if v = 1 then gput ks.length ++ pbodies ks else be d.toNat 4 ++ (gput tr.length ++ gN tr)))
/-- A reader: what is left, and the error. -/
abbrev Rs := List UInt8 × Int
def rfail (e : Int) (r : Rs) : Rs := if r.2 = 0 then (r.1, e) else r
def rnum (s : Nat) (r : Rs) : Int × Rs := if r.2 ≠ 0 then (0, r) else if r.1.length < s then (0, (r.1, 2)) else ((val (r.1.take s) : Int), (r.1.drop s, 0))
def rgrp (r : Rs) : Int × Rs := if r.2 ≠ 0 then (0, r) else if (gtake r.1).2.2 ≠ 0 then (0, (r.1, (gtake r.1).2.2)) else (((gtake r.1).1 : Int), (r.1.drop (gtake r.1).2.1, 0))
def rcnt (most : Int) (r : Rs) : Int × Rs := if most < (rgrp r).1 then (0, rfail 12 (rgrp r).2) else rgrp r
def rlist {α : Type} (one : Rs → α × Rs) : Nat → List α → Rs → List α × Rs
  | 0, acc, r => (acc, r)
  | n + 1, acc, r => if (one r).2.2 ≠ 0 then ([], (one r).2) else rlist one n (acc ++ [(one r).1]) (one r).2
def rpart (nodes : Int) (r : Rs) : PK × Rs :=
  (((rnum 4 r).1, (rnum 4 (rnum 4 r).2).1, (rlist rgrp nodes.toNat [] (rnum 4 (rnum 4 r).2).2).1), (rlist rgrp nodes.toNat [] (rnum 4 (rnum 4 r).2).2).2)
def ptOf (k : PK) : Pt := ⟨k.1, k.2.1, none, 0, 0, k.2.2⟩
def cmayK (v : Int) (ks : List PK) (d : Int) (tr : List Int) (nodes : Int) : Int := cmay v (ks.map ptOf) d tr nodes
structure CR where
  v : Int
  ks : List PK
  d : Int
  tr : List Int
  nodes : Int
  e : Int
def rmore (r : Rs) : Rs := if r.1 ≠ [] then rfail 4 r else r
def cend (v : Int) (ks : List PK) (d : Int) (tr : List Int) (nodes : Int) (r : Rs) : CR :=
  if (if (rmore r).2 = 0 then cmayK v ks d tr nodes else (rmore r).2) ≠ 0 then ⟨0, [], 0, [], 0, if (rmore r).2 = 0 then cmayK v ks d tr nodes else (rmore r).2⟩ else ⟨v, ks, d, tr, nodes, 0⟩
def cact (bs : List UInt8) : Rs := if (rnum 1 (bs, 0)).1 ≠ 1 ∧ (rnum 1 (bs, 0)).1 ≠ 2 then rfail 9 (rnum 1 (bs, 0)).2 else (rnum 1 (bs, 0)).2
def cfreeT (v nodes : Int) (r : Rs) : CR := cend v (rlist (rpart nodes) (rcnt 8193 r).1.toNat [] (rcnt 8193 r).2).1 0 [] nodes (rlist (rpart nodes) (rcnt 8193 r).1.toNat [] (rcnt 8193 r).2).2
def cloopT (v nodes : Int) (r : Rs) : CR := cend v [] (rnum 4 r).1 (rlist rgrp (rcnt 256 (rnum 4 r).2).1.toNat [] (rcnt 256 (rnum 4 r).2).2).1 nodes (rlist rgrp (rcnt 256 (rnum 4 r).2).1.toNat [] (rcnt 256 (rnum 4 r).2).2).2
/-- The certificate of bytes. -/
def ctake (bs : List UInt8) : CR :=
  if (rnum 1 (bs, 0)).1 = 1 then cfreeT 1 (rcnt 256 (cact bs)).1 (rcnt 256 (cact bs)).2 else cloopT (rnum 1 (bs, 0)).1 (rcnt 256 (cact bs)).1 (rcnt 256 (cact bs)).2

/-! ### A certificate as keys -/
theorem meet_key : ∀ (ps qs : List Pt) (x : Int), ps.map pkey = qs.map pkey → meetF x ps = meetF x qs
  | [], [], _, _ => rfl
  | [], _ :: _, _, h => by simp at h
  | _ :: _, [], _, h => by simp at h
  | p :: ps, q :: qs, x, h => by
    simp only [List.map_cons, List.cons.injEq, pkey, Prod.mk.injEq] at h
    obtain ⟨⟨h1, h2, h3⟩, h4⟩ := h
    simp only [meetF, h1, h2, meet_key ps qs _ h4]
theorem ranks_key (nodes : Int) : ∀ (ps qs : List Pt), ps.map pkey = qs.map pkey → ranks nodes ps = ranks nodes qs
  | [], [], _ => rfl
  | [], _ :: _, h => by simp at h
  | _ :: _, [], h => by simp at h
  | p :: ps, q :: qs, h => by
    simp only [List.map_cons, List.cons.injEq, pkey, Prod.mk.injEq] at h
    obtain ⟨⟨h1, h2, h3⟩, h4⟩ := h
    simp only [ranks, h3, ranks_key nodes ps qs h4]
theorem cmay_key {ps qs : List Pt} (v d : Int) (tr : List Int) (nodes : Int) (h : ps.map pkey = qs.map pkey) : cmay v ps d tr nodes = cmay v qs d tr nodes := by
  have hl : ps.length = qs.length := by have := congrArg List.length h; simpa using this
  simp only [cmay, cfree, cloops, hl, meet_key ps qs 0 h, ranks_key nodes ps qs h]
theorem key_ptOf (ks : List PK) : (ks.map ptOf).map pkey = ks := by
  rw [List.map_map]
  have : (pkey ∘ ptOf) = id := by funext k; rfl
  rw [this, List.map_id]
theorem cmayK_of (ps : List Pt) (v d : Int) (tr : List Int) (nodes : Int) : cmayK v (ps.map pkey) d tr nodes = cmay v ps d tr nodes := cmay_key _ _ _ _ (key_ptOf _)

/-! ### What was put is taken -/
theorem rnum_put (s n : Nat) (t : List UInt8) (h : n < 256 ^ s) : rnum s (be n s ++ t, 0) = ((n : Int), (t, 0)) := by
  unfold rnum
  rw [if_neg (by simp), if_neg (by simp [be_length])]
  simp only [List.take_left' (be_length s n), List.drop_left' (be_length s n), val_be s n h]
theorem rgrp_put (n : Nat) (t : List UInt8) (h : n < 268435456) : rgrp (gput n ++ t, 0) = ((n : Int), (t, 0)) := by
  unfold rgrp
  rw [if_neg (by simp)]
  simp only [gtake_gput n h]
  rw [if_neg (by simp), List.drop_left' (gput_length n)]
theorem rcnt_put (most : Int) (n : Nat) (t : List UInt8) (h : n < 268435456) (h2 : (n : Int) ≤ most) : rcnt most (gput n ++ t, 0) = ((n : Int), (t, 0)) := by
  unfold rcnt
  rw [rgrp_put n t h, if_neg (by simp; omega)]
theorem rlist_put {α : Type} {one : Rs → α × Rs} {put : α → List UInt8} : ∀ (xs acc : List α) (t : List UInt8), (∀ x ∈ xs, ∀ t, one (put x ++ t, 0) = (x, (t, 0))) → rlist one xs.length acc (xs.flatMap put ++ t, 0) = (acc ++ xs, (t, 0))
  | [], acc, t, _ => by simp [rlist]
  | x :: xs, acc, t, h => by
    have e : (x :: xs).flatMap put ++ t = put x ++ (xs.flatMap put ++ t) := by simp
    rw [e, List.length_cons, rlist, h x (by simp), if_neg (by simp)]
    rw [rlist_put xs (acc ++ [x]) t (fun y hy => h y (by simp [hy]))]
    simp
theorem rranks_put (xs : List Int) (t : List UInt8) (h : ∀ x ∈ xs, 0 ≤ x ∧ x < 268435456) : rlist rgrp xs.length [] (gN xs ++ t, 0) = (xs, (t, 0)) := by
  have := rlist_put (one := rgrp) (put := fun x : Int => gput x.toNat) xs [] t (fun x hx t => by
    have := h x hx
    rw [rgrp_put x.toNat t (by omega), Int.toNat_of_nonneg this.1])
  simpa [gN] using this
/-- A part's numbers. -/
def PKin (nodes : Int) (k : PK) : Prop := (0 ≤ k.1 ∧ k.1 ≤ 4294967295) ∧ (0 ≤ k.2.1 ∧ k.2.1 ≤ 4294967295) ∧ (k.2.2.length : Int) = nodes ∧ ∀ x ∈ k.2.2, 0 ≤ x ∧ x < 268435456
theorem rpart_put (nodes : Int) (k : PK) (h : PKin nodes k) (t : List UInt8) : rpart nodes (pbody k ++ t, 0) = (k, (t, 0)) := by
  obtain ⟨h1, h2, h3, h4⟩ := h
  obtain ⟨a, b, r⟩ := k
  simp only at h1 h2 h3 h4
  have e1 : rnum 4 (pbody (a, b, r) ++ t, 0) = (a, (be b.toNat 4 ++ (gN r ++ t), 0)) := by
    have := rnum_put 4 a.toNat (be b.toNat 4 ++ (gN r ++ t)) (by omega)
    rw [Int.toNat_of_nonneg h1.1] at this
    rw [← this]
    simp [pbody]
  have e2 : rnum 4 (be b.toNat 4 ++ (gN r ++ t), 0) = (b, (gN r ++ t, 0)) := by
    rw [rnum_put 4 b.toNat _ (by omega), Int.toNat_of_nonneg h2.1]
  have hn : nodes.toNat = r.length := by omega
  unfold rpart
  simp only [e1, e2, hn, rranks_put r t h4]
theorem rmore_nil : rmore ([], 0) = ([], 0) := rfl
theorem cend_ok {v d nodes : Int} {ks : List PK} {tr : List Int} (h : cmayK v ks d tr nodes = 0) : cend v ks d tr nodes ([], 0) = ⟨v, ks, d, tr, nodes, 0⟩ := by
  unfold cend
  simp [rmore_nil, h]
theorem cend_more {v d nodes : Int} {ks : List PK} {tr : List Int} {t : List UInt8} (h : t ≠ []) : cend v ks d tr nodes (t, 0) = ⟨0, [], 0, [], 0, 4⟩ := by
  unfold cend
  have : rmore (t, 0) = (t, 4) := by unfold rmore rfail; rw [if_pos h, if_pos rfl]
  simp [this]
/-- A certificate that has bytes. -/
structure CIn (v : Int) (ks : List PK) (d : Int) (tr : List Int) (nodes : Int) : Prop where
  nb : 0 ≤ nodes ∧ nodes ≤ 256
  kind : (v = 1 ∧ d = 0 ∧ tr = [] ∧ ks.length ≤ 8193 ∧ ∀ k ∈ ks, PKin nodes k) ∨ (v = 2 ∧ ks = [] ∧ (0 ≤ d ∧ d ≤ 4294967295) ∧ tr.length ≤ 256 ∧ ∀ x ∈ tr, 0 ≤ x ∧ x < 268435456)
theorem ctake_put {v d nodes : Int} {ks : List PK} {tr : List Int} (h : CIn v ks d tr nodes) (t : List UInt8) : ctake (cbody v ks d tr nodes ++ t) = cend v ks d tr nodes (t, 0) := by
  obtain ⟨hn, hk⟩ := h
  have hv : v = 1 ∨ v = 2 := by rcases hk with h | h <;> simp [h.1]
  obtain ⟨tail, hT⟩ : ∃ tail, (if v = 1 then gput ks.length ++ pbodies ks else be d.toNat 4 ++ (gput tr.length ++ gN tr)) = tail := ⟨_, rfl⟩
  have e1 : rnum 1 (cbody v ks d tr nodes ++ t, 0) = (v, (gput nodes.toNat ++ (tail ++ t), 0)) := by
    have := rnum_put 1 v.toNat (gput nodes.toNat ++ (tail ++ t)) (by rcases hv with rfl | rfl <;> decide)
    rw [Int.toNat_of_nonneg (by omega)] at this
    rw [← this]
    simp [cbody, hT]
  have e2 : cact (cbody v ks d tr nodes ++ t) = (gput nodes.toNat ++ (tail ++ t), 0) := by
    unfold cact
    rw [e1, if_neg (by simp; omega)]
  have e3 : rcnt 256 (gput nodes.toNat ++ (tail ++ t), 0) = (nodes, (tail ++ t, 0)) := by
    rw [rcnt_put 256 nodes.toNat _ (by omega) (by omega), Int.toNat_of_nonneg hn.1]
  unfold ctake
  rw [e1, e2, e3]
  rcases hk with ⟨rfl, rfl, rfl, hl, hp⟩ | ⟨rfl, rfl, hd, hl, hp⟩
  · rw [if_pos rfl] at hT ⊢
    subst hT
    have e4 : rcnt 8193 (gput ks.length ++ pbodies ks ++ t, 0) = ((ks.length : Int), (pbodies ks ++ t, 0)) := by
      rw [List.append_assoc, rcnt_put 8193 ks.length _ (by omega) (by omega)]
    unfold cfreeT
    simp only [e4, Int.toNat_natCast]
    have := rlist_put (one := rpart nodes) (put := pbody) ks [] t (fun k hk t => rpart_put nodes k (hp k hk) t)
    rw [List.nil_append] at this
    simp only [pbodies, this]
  · rw [if_neg (show ¬ (2 : Int) = 1 by decide)] at hT ⊢
    subst hT
    have e4 : rnum 4 (be d.toNat 4 ++ (gput tr.length ++ gN tr) ++ t, 0) = (d, (gput tr.length ++ (gN tr ++ t), 0)) := by
      rw [List.append_assoc, List.append_assoc, rnum_put 4 d.toNat _ (by omega), Int.toNat_of_nonneg hd.1]
    have e5 : rcnt 256 (gput tr.length ++ (gN tr ++ t), 0) = ((tr.length : Int), (gN tr ++ t, 0)) := rcnt_put 256 tr.length _ (by omega) (by omega)
    unfold cloopT
    simp only [e4, e5, Int.toNat_natCast, rranks_put tr t hp]
theorem ctake_cbody {v d nodes : Int} {ks : List PK} {tr : List Int} (h : CIn v ks d tr nodes) (hm : cmayK v ks d tr nodes = 0) : ctake (cbody v ks d tr nodes) = ⟨v, ks, d, tr, nodes, 0⟩ := by
  have := ctake_put h []
  rw [List.append_nil] at this
  rw [this, cend_ok hm]
theorem ctake_more {v d nodes : Int} {ks : List PK} {tr : List Int} (h : CIn v ks d tr nodes) {t : List UInt8} (ht : t ≠ []) : ctake (cbody v ks d tr nodes ++ t) = ⟨0, [], 0, [], 0, 4⟩ := by
  rw [ctake_put h t, cend_more ht]
theorem cbody_inj {v d nodes v' d' nodes' : Int} {ks ks' : List PK} {tr tr' : List Int} (h : CIn v ks d tr nodes) (hm : cmayK v ks d tr nodes = 0) (h' : CIn v' ks' d' tr' nodes') (hm' : cmayK v' ks' d' tr' nodes' = 0) :
    cbody v ks d tr nodes = cbody v' ks' d' tr' nodes' ↔ v = v' ∧ ks = ks' ∧ d = d' ∧ tr = tr' ∧ nodes = nodes' := by
  constructor
  · intro e
    have h1 := ctake_cbody h hm
    rw [e, ctake_cbody h' hm'] at h1
    injection h1 with a b c d e f
    exact ⟨a.symm, b.symm, c.symm, d.symm, e.symm⟩
  · rintro ⟨rfl, rfl, rfl, rfl, rfl⟩
    rfl

/-! ### What is taken was put -/
theorem rnum_back {s : Nat} {r : Rs} (h : (rnum s r).2.2 = 0) : r.2 = 0 ∧ r.1 = be (rnum s r).1.toNat s ++ (rnum s r).2.1 ∧ 0 ≤ (rnum s r).1 ∧ (rnum s r).1 < 256 ^ s := by
  obtain ⟨bs, e⟩ := r
  revert h
  unfold rnum
  by_cases h1 : e ≠ 0
  · rw [if_pos h1]; intro h; exact absurd h h1
  rw [if_neg h1]
  by_cases h2 : bs.length < s
  · rw [if_pos h2]; intro h; cases h
  rw [if_neg h2]
  intro _
  have hl : (bs.take s).length = s := by rw [List.length_take]; omega
  have hv := val_lt (bs.take s)
  have hb := be_val (bs.take s)
  rw [hl] at hv hb
  refine ⟨by simpa using h1, ?_, by simp, by simpa using (by exact_mod_cast hv : ((val (bs.take s) : Nat) : Int) < ((256 ^ s : Nat) : Int))⟩
  simp only [Int.toNat_natCast, hb, List.take_append_drop]
theorem rgrp_back {r : Rs} (h : (rgrp r).2.2 = 0) : r.2 = 0 ∧ r.1 = gput (rgrp r).1.toNat ++ (rgrp r).2.1 ∧ 0 ≤ (rgrp r).1 ∧ (rgrp r).1 < 268435456 := by
  obtain ⟨bs, e⟩ := r
  revert h
  unfold rgrp
  by_cases h1 : e ≠ 0
  · rw [if_pos h1]; intro h; exact absurd h h1
  rw [if_neg h1]
  by_cases h2 : (gtake bs).2.2 ≠ 0
  · rw [if_pos h2]; intro h; exact absurd h h2
  rw [if_neg h2]
  intro _
  rcases gtake_what bs with h3 | h3 | h3
  · exact absurd (by rw [h3.1]; decide) h2
  · exact absurd (by rw [h3]; decide) h2
  · obtain ⟨n, k, he, hn, _, hk, _, hg⟩ := h3
    rw [he]
    refine ⟨by simpa using h1, ?_, by simp, by simp; omega⟩
    simp only [Int.toNat_natCast, hg, List.take_append_drop]
theorem rfail_back {e : Int} {r : Rs} (he : e ≠ 0) (h : (rfail e r).2 = 0) : False := by
  unfold rfail at h
  split at h
  · exact he h
  · rename_i h2; exact h2 h
theorem rcnt_back {most : Int} {r : Rs} (h : (rcnt most r).2.2 = 0) : r.2 = 0 ∧ r.1 = gput (rcnt most r).1.toNat ++ (rcnt most r).2.1 ∧ 0 ≤ (rcnt most r).1 ∧ (rcnt most r).1 < 268435456 ∧ (rcnt most r).1 ≤ most := by
  unfold rcnt at h ⊢
  by_cases hm : most < (rgrp r).1
  · rw [if_pos hm] at h
    exact absurd h (fun h => rfail_back (by decide) h)
  · rw [if_neg hm] at h ⊢
    obtain ⟨h1, h2, h3, h4⟩ := rgrp_back h
    exact ⟨h1, h2, h3, h4, by omega⟩
theorem rlist_back {α : Type} {one : Rs → α × Rs} {put : α → List UInt8} {ok : α → Prop} (hone : ∀ r, (one r).2.2 = 0 → r.2 = 0 ∧ r.1 = put (one r).1 ++ (one r).2.1 ∧ ok (one r).1) :
    ∀ (n : Nat) (acc : List α) (r : Rs), (rlist one n acc r).2.2 = 0 → r.2 = 0 ∧ ∃ xs, (rlist one n acc r).1 = acc ++ xs ∧ xs.length = n ∧ r.1 = xs.flatMap put ++ (rlist one n acc r).2.1 ∧ ∀ x ∈ xs, ok x
  | 0, acc, r, h => ⟨h, [], by simp [rlist], rfl, by simp [rlist], by simp⟩
  | n + 1, acc, r, h => by
    rw [rlist] at h ⊢
    by_cases h1 : (one r).2.2 ≠ 0
    · rw [if_pos h1] at h
      exact absurd h h1
    · rw [if_neg h1] at h ⊢
      obtain ⟨_, xs, hx, hl, hb, ho⟩ := rlist_back hone n _ _ h
      obtain ⟨h2, h3, h4⟩ := hone r (by simpa using h1)
      refine ⟨h2, (one r).1 :: xs, by rw [hx]; simp, by simp [hl], ?_, ?_⟩
      · rw [h3]
        conv => lhs; rw [hb]
        simp
      · intro x hx
        rcases List.mem_cons.1 hx with rfl | hx
        · exact h4
        · exact ho x hx
theorem rranks_back {n : Nat} {r : Rs} (h : (rlist rgrp n [] r).2.2 = 0) : r.2 = 0 ∧ r.1 = gN (rlist rgrp n [] r).1 ++ (rlist rgrp n [] r).2.1 ∧ (rlist rgrp n [] r).1.length = n ∧ ∀ x ∈ (rlist rgrp n [] r).1, 0 ≤ x ∧ x < 268435456 := by
  obtain ⟨h1, xs, hx, hl, hb, ho⟩ := rlist_back (one := rgrp) (put := fun x : Int => gput x.toNat) (ok := fun x : Int => 0 ≤ x ∧ x < 268435456) (fun r h => by
    obtain ⟨a, b, c, d⟩ := rgrp_back h
    exact ⟨a, b, c, d⟩) n [] r h
  rw [List.nil_append] at hx
  rw [hx]
  exact ⟨h1, hb, hl, ho⟩
theorem rpart_back {nodes : Int} (hn : 0 ≤ nodes) {r : Rs} (h : (rpart nodes r).2.2 = 0) : r.2 = 0 ∧ r.1 = pbody (rpart nodes r).1 ++ (rpart nodes r).2.1 ∧ PKin nodes (rpart nodes r).1 := by
  unfold rpart at h ⊢
  simp only at h ⊢
  obtain ⟨a1, a2, a3, a4⟩ := rranks_back h
  obtain ⟨b1, b2, b3, b4⟩ := rnum_back a1
  obtain ⟨c1, c2, c3, c4⟩ := rnum_back b1
  refine ⟨c1, ?_, ⟨c3, ?_⟩, ⟨b3, ?_⟩, ?_, a4⟩
  rotate_left
  · show (rnum 4 r).1 ≤ 4294967295; simp at c4; omega
  · show (rnum 4 (rnum 4 r).2).1 ≤ 4294967295; simp at b4; omega
  · show (((rlist rgrp nodes.toNat [] (rnum 4 (rnum 4 r).2).2).1.length : Nat) : Int) = nodes; omega
  conv => lhs; rw [c2, b2, a2]
  simp [pbody]
theorem rmore_back {r : Rs} (h : (rmore r).2 = 0) : r = ([], 0) := by
  unfold rmore at h
  by_cases h1 : r.1 ≠ []
  · rw [if_pos h1] at h
    exact (rfail_back (by decide) h).elim
  · rw [if_neg h1] at h
    obtain ⟨a, b⟩ := r
    simp only [ne_eq, Decidable.not_not] at h1 h
    rw [h1, h]
theorem cend_back {v d nodes : Int} {ks : List PK} {tr : List Int} {r : Rs} (h : (cend v ks d tr nodes r).e = 0) : r = ([], 0) ∧ cmayK v ks d tr nodes = 0 ∧ cend v ks d tr nodes r = ⟨v, ks, d, tr, nodes, 0⟩ := by
  unfold cend at h ⊢
  by_cases h1 : (if (rmore r).2 = 0 then cmayK v ks d tr nodes else (rmore r).2) ≠ 0
  · rw [if_pos h1] at h
    exact absurd h h1
  · rw [if_neg h1]
    simp only [ne_eq, Decidable.not_not] at h1
    by_cases h2 : (rmore r).2 = 0
    · rw [if_pos h2] at h1
      exact ⟨rmore_back h2, h1, rfl⟩
    · rw [if_neg h2] at h1
      exact absurd h1 h2
/-- Bytes that are taken: the certificate may be, and has just these bytes. -/
theorem ctake_back {bs : List UInt8} (h : (ctake bs).e = 0) : CIn (ctake bs).v (ctake bs).ks (ctake bs).d (ctake bs).tr (ctake bs).nodes ∧ cmayK (ctake bs).v (ctake bs).ks (ctake bs).d (ctake bs).tr (ctake bs).nodes = 0 ∧
    cbody (ctake bs).v (ctake bs).ks (ctake bs).d (ctake bs).tr (ctake bs).nodes = bs := by
  unfold ctake at h ⊢
  obtain ⟨nd, hnd⟩ : ∃ nd, rcnt 256 (cact bs) = nd := ⟨_, rfl⟩
  rw [hnd] at h ⊢
  have key : nd.2.2 = 0 → ((rnum 1 (bs, 0)).1 = 1 ∨ (rnum 1 (bs, 0)).1 = 2) ∧ bs = be (rnum 1 (bs, 0)).1.toNat 1 ++ (gput nd.1.toNat ++ nd.2.1) ∧ 0 ≤ nd.1 ∧ nd.1 ≤ 256 := by
    intro h0
    rw [← hnd] at h0 ⊢
    obtain ⟨a1, a2, a3, _, a5⟩ := rcnt_back h0
    have hk : (rnum 1 (bs, 0)).1 = 1 ∨ (rnum 1 (bs, 0)).1 = 2 := by
      by_cases hk : (rnum 1 (bs, 0)).1 ≠ 1 ∧ (rnum 1 (bs, 0)).1 ≠ 2
      · unfold cact at a1
        rw [if_pos hk] at a1
        exact (rfail_back (by decide) a1).elim
      · omega
    have hc : cact bs = (rnum 1 (bs, 0)).2 := by unfold cact; rw [if_neg (by omega)]
    obtain ⟨b1, b2, _, _⟩ := rnum_back (s := 1) (r := (bs, 0)) (by rw [← hc]; exact a1)
    refine ⟨hk, ?_, a3, a5⟩
    conv => lhs; rw [show bs = (bs, (0 : Int)).1 from rfl, b2, ← hc, a2]
  by_cases hv : (rnum 1 (bs, 0)).1 = 1
  · rw [if_pos hv] at h ⊢
    unfold cfreeT at h ⊢
    obtain ⟨k1, k2, k3⟩ := cend_back h
    rw [k3]
    obtain ⟨L, hL⟩ : ∃ L, rlist (rpart nd.1) (rcnt 8193 nd.2).1.toNat [] (rcnt 8193 nd.2).2 = L := ⟨_, rfl⟩
    have hl0 : L.2.2 = 0 := by rw [← hL, k1]
    have hl1 : L.2.1 = [] := by rw [← hL, k1]
    obtain ⟨N, hN⟩ : ∃ N, rcnt 8193 nd.2 = N := ⟨_, rfl⟩
    rw [hN] at hL k2 ⊢
    rw [hL] at k2 ⊢
    have hN0 : N.2.2 = 0 := by
      by_cases hz : N.1.toNat = 0
      · rw [hz] at hL; rw [← hL] at hl0; exact hl0
      · obtain ⟨m, hm⟩ := Nat.exists_eq_succ_of_ne_zero hz
        by_cases he : N.2.2 = 0
        · exact he
        · exfalso
          have : (rpart nd.1 N.2).2.2 ≠ 0 := fun hp => by
            unfold rpart at hp
            simp only at hp
            have a := rlist_back (one := rgrp) (put := fun x : Int => gput x.toNat) (ok := fun _ => True) (fun r h => ⟨(rgrp_back h).1, (rgrp_back h).2.1, trivial⟩) _ _ _ hp
            exact he (rnum_back (rnum_back a.1).1).1
          rw [hm, rlist, if_pos this] at hL
          rw [← hL] at hl0
          exact this hl0
    rw [← hN] at hN0
    obtain ⟨c1, c2, c3, c4, c5⟩ := rcnt_back hN0
    rw [hN] at c2 c3 c4 c5
    obtain ⟨d1, d2, d3, d4⟩ := key c1
    rw [← hL] at hl0
    obtain ⟨_, xs, hx, hlen, hb, ho⟩ := rlist_back (one := rpart nd.1) (put := pbody) (ok := PKin nd.1) (fun r h => rpart_back d3 h) _ _ _ hl0
    rw [hL, List.nil_append] at hx
    rw [hL, hl1, List.append_nil] at hb
    rw [hx] at k2 ⊢
    refine ⟨⟨⟨d3, d4⟩, .inl ⟨rfl, rfl, rfl, (show xs.length ≤ 8193 by omega), ho⟩⟩, k2, ?_⟩
    conv => rhs; rw [d2, hv, c2, hb]
    simp only [cbody, if_pos, hlen, pbodies]
  · rw [if_neg hv] at h ⊢
    unfold cloopT at h ⊢
    obtain ⟨k1, k2, k3⟩ := cend_back h
    rw [k3]
    obtain ⟨D, hD⟩ : ∃ D, rnum 4 nd.2 = D := ⟨_, rfl⟩
    obtain ⟨N, hN⟩ : ∃ N, rcnt 256 D.2 = N := ⟨_, rfl⟩
    rw [hD, hN] at k1 k2 ⊢
    obtain ⟨b1, b2, b3, b4⟩ := rranks_back (n := N.1.toNat) (r := N.2) (by rw [k1])
    rw [k1] at b2
    rw [← hN] at b1
    obtain ⟨c1, c2, c3, c4, c5⟩ := rcnt_back b1
    rw [hN] at c2 c3 c4 c5
    rw [← hD] at c1
    obtain ⟨e1, e2, e3, e4⟩ := rnum_back c1
    rw [hD] at e2 e3 e4
    obtain ⟨d1, d2, d3, d4⟩ := key e1
    have hv2 : (rnum 1 (bs, 0)).1 = 2 := by omega
    rw [hv2] at k2 ⊢
    have hlen : (rlist rgrp N.1.toNat [] N.2).1.length = N.1.toNat := b3
    refine ⟨⟨⟨d3, d4⟩, .inr ⟨rfl, rfl, ⟨e3, (show D.1 ≤ 4294967295 by simp at e4; omega)⟩, (show (rlist rgrp N.1.toNat [] N.2).1.length ≤ 256 by omega), b4⟩⟩, k2, ?_⟩
    conv => rhs; rw [d2, hv2, e2, c2, b2]
    simp [cbody, hlen]
/-- Less than a certificate's bytes is no certificate. -/
theorem ctake_cut {v d nodes : Int} {ks : List PK} {tr : List Int} (h : CIn v ks d tr nodes) (hm : cmayK v ks d tr nodes = 0) {bs : List UInt8} {k : Nat} (hk : k < (cbody v ks d tr nodes).length) (hb : bs = (cbody v ks d tr nodes).take k) : (ctake bs).e ≠ 0 := by
  intro h0
  obtain ⟨h1, h2, h3⟩ := ctake_back h0
  have e := ctake_cbody h hm
  have ed : cbody v ks d tr nodes = bs ++ (cbody v ks d tr nodes).drop k := by rw [hb, List.take_append_drop]
  rw [ed, ← h3, ctake_more h1 (fun e => by have := congrArg List.length e; simp at this; omega)] at e
  injection e with _ _ _ _ _ e
  cases e
end Go.Th
