/-
  The law of networks as bytes: there and back. Plain lists.
-/
import Derived.Test.YtgapcmodhcdebaaNfTakeF
namespace Go.Proofs.Ytgapcmodhcdebaa
open Go.RowKit Go.Th
set_option linter.unusedVariables false
theorem tmayGo_each {nodes : Int} : ∀ (l : List Ru) (p : Option Ru), tmayGo nodes p l = 0 → ∀ r ∈ l, r.may nodes = 0
  | [], _, _, r, hr => by cases hr
  | x :: l, p, h, r, hr => by
    rw [tmayGo] at h
    by_cases h1 : x.may nodes ≠ 0
    · rw [if_pos h1] at h; exact absurd h h1
    · rw [if_neg h1] at h
      by_cases h2 : outOf p x = true
      · rw [if_pos h2] at h; cases h
      · rw [if_neg h2] at h
        rcases List.mem_cons.1 hr with rfl | hr
        · simpa using h1
        · exact tmayGo_each l _ h r hr
theorem may_fit1 {r : Ru} {nodes : Int} (hok : r.Ok) (hn : nodes ≤ 256) (h : r.may nodes = 0) : ∀ j, j < 4 → Fit1 r j := by
  unfold Ru.may pmay at h
  by_cases h1 : r.n < 0 ∨ 32 < r.n
  · simp [h1] at h
  · have ha := hok.a
    by_cases h2 : r.a.toNat % 2 ^ sh r.n = 0
    · simp only [h1, h2, if_true, if_false, ne_eq, not_true_eq_false] at h
      by_cases h3 : r.act = 1
      · rw [if_pos h3] at h
        by_cases h4 : r.next < 0 ∨ nodes ≤ r.next
        · rw [if_pos h4] at h; cases h
        · exact fit1_all ⟨by omega, by omega⟩ ⟨by omega, by omega⟩ ⟨by omega, by omega⟩ ⟨by omega, by omega⟩
      · rw [if_neg h3] at h
        by_cases h4 : r.act = 2 ∨ r.act = 3
        · rw [if_pos h4] at h
          by_cases h5 : r.next ≠ 0
          · rw [if_pos h5] at h; cases h
          · exact fit1_all ⟨by omega, by omega⟩ ⟨by omega, by omega⟩ ⟨by omega, by omega⟩ ⟨by omega, by omega⟩
        · rw [if_neg h4] at h; cases h
    · simp [h1, h2] at h
theorem nmay_rfit {ns : List (List Ru)} (h : nmay ns = 0) (hok : ∀ l ∈ ns, ∀ r ∈ l, r.Ok) : ∀ l ∈ ns, ∀ r ∈ l, RFit r := by
  obtain ⟨h1, h2, h3⟩ := nmay_zero.1 h
  exact fun l hl r hr => ⟨hok l hl r hr, may_fit1 (hok l hl r hr) (by omega) (tmayGo_each l none (h3 l hl) r hr)⟩
theorem gtake_put (n : Nat) (hn : n < 268435456) (t : List UInt8) : gtake (gput n ++ t) = (n, gsize n, 0) := gtake_gput n hn t
theorem drop_gput (n : Nat) (t : List UInt8) : (gput n ++ t).drop (gsize n) = t := List.drop_left' (gput_length n)
theorem rules_put (l : List Ru) (hl : l.length ≤ 4096) (hf : ∀ r ∈ l, ∀ j, j < 4 → Fit1 r j) : allT rdr 4096 (lbody l) = (l, 0) := by
  unfold lbody
  rw [allT_go (by rw [gtake_put _ (by omega)]) (by rw [gtake_put _ (by omega)]; omega), gtake_put _ (by omega), drop_gput]
  have := goT_put (one := rdr) (put := fun r => pre r 4) l [] [] (fun r hr t => rdr_put r (hf r hr) t)
  rw [List.append_nil, if_pos rfl, List.nil_append] at this
  exact this
theorem node_put (l : List Ru) (hl : l.length ≤ 4096) (hf : ∀ r ∈ l, ∀ j, j < 4 → Fit1 r j) (t : List UInt8) : nodeT (fsec 84 (lbody l) ++ t) = (l, t, 0) := by
  unfold nodeT
  rw [fopen_fsec 84 (lbody l) t (by have := lbody_length l; have := gsize_pos l.length; omega)]
  simp only [rules_put l hl hf]
  rfl
theorem net_put (ns : List (List Ru)) (hn : ns.length ≤ 256) (hl : ∀ l ∈ ns, l.length ≤ 4096) (hf : ∀ l ∈ ns, ∀ r ∈ l, ∀ j, j < 4 → Fit1 r j) (t : List UInt8) : netT (nbody ns ++ t) = if t = [] then (ns, 0) else ([], 4) := by
  unfold netT nbody
  rw [List.append_assoc, allT_go (by rw [gtake_put _ (by omega)]) (by rw [gtake_put _ (by omega)]; omega), gtake_put _ (by omega), drop_gput]
  have := goT_put (one := nodeT) (put := fun l => fsec 84 (lbody l)) ns [] t (fun l hx t => node_put l (hl l hx) (hf l hx) t)
  rw [List.nil_append] at this
  exact this
/-- A network that has bytes. -/
structure NOk (ns : List (List Ru)) : Prop where
  may : nmay ns = 0
  ok : ∀ l ∈ ns, ∀ r ∈ l, r.Ok
theorem NOk.put {ns : List (List Ru)} (h : NOk ns) (t : List UInt8) : netT (nbody ns ++ t) = if t = [] then (ns, 0) else ([], 4) := by
  obtain ⟨h1, h2, h3⟩ := nmay_zero.1 h.may
  exact net_put ns h1 (fun l hl => by have := len_le_nsize hl; omega) (fun l hl r hr => (nmay_rfit h.may h.ok l hl r hr).2) t
theorem inT_put {ns : List (List Ru)} (h : NOk ns) : inT (nbody ns) = (ns, 0) := by
  have := h.put []
  rw [List.append_nil, if_pos rfl] at this
  unfold inT
  rw [this]
  simp [h.may]
theorem inT_more {ns : List (List Ru)} (h : NOk ns) {t : List UInt8} (ht : t ≠ []) : inT (nbody ns ++ t) = ([], 4) := by
  have := h.put t
  rw [if_neg ht] at this
  unfold inT
  rw [this]
  simp
theorem rules_back {bs : List UInt8} (h : (allT rdr 4096 bs).2 = 0) : bs = lbody (allT rdr 4096 bs).1 ∧ ∀ r ∈ (allT rdr 4096 bs).1, r.Ok ∧ ∀ j, j < 4 → Fit1 r j := by
  by_cases h1 : (gtake bs).2.2 = 0
  · by_cases h2 : 4096 < (gtake bs).1
    · rw [allT_many h1 h2] at h; cases h
    · rw [allT_go h1 h2] at h ⊢
      obtain ⟨xs, hx, hl, hb, ho⟩ := goT_back (one := rdr) (put := fun r => pre r 4) (ok := fun r => r.Ok ∧ ∀ j, j < 4 → Fit1 r j) (fun b h => ⟨rdr_back h, rdr_fit b⟩) _ _ _ h
      rw [hx, List.nil_append]
      refine ⟨?_, ho⟩
      rcases gtake_what bs with h3 | h3 | ⟨n, k, h3, h4, h5, h6, h7, h8⟩
      · rw [h3.1] at h1; cases h1
      · rw [h3] at h1; cases h1
      · rw [h3] at hl hb
        unfold lbody
        rw [hl, h8]
        show bs = bs.take k ++ lrows xs
        conv => lhs; rw [← List.take_append_drop k bs]
        rw [show lrows xs = bs.drop k from hb.symm]
  · rw [allT_err h1] at h; exact absurd h h1
theorem fopen_back {tag : UInt8} {bs : List UInt8} (h : (fopen tag bs).2.2 = 0) : bs = fsec tag (fopen tag bs).1 ++ (fopen tag bs).2.1 := by
  cases bs with
  | nil => cases h
  | cons b r =>
    rw [fopen_cons] at h ⊢
    by_cases h1 : b = tag
    · rw [if_pos h1] at h ⊢
      by_cases h2 : (gtake r).2.2 = 0
      · rw [if_pos h2] at h ⊢
        by_cases h3 : (r.drop (gtake r).2.1).length < (gtake r).1
        · rw [if_pos h3] at h; cases h
        · rw [if_neg h3]
          rcases gtake_what r with h4 | h4 | ⟨n, k, h4, h5, h6, h7, h8, h9⟩
          · rw [h4.1] at h2; cases h2
          · rw [h4] at h2; cases h2
          · rw [h4] at h3 ⊢
            simp only [List.length_drop] at h3
            have hl : ((r.drop k).take n).length = n := by rw [List.length_take, List.length_drop]; omega
            unfold fsec
            simp only [hl, h9, h1]
            rw [List.cons_append, List.append_assoc, List.take_append_drop, List.take_append_drop]
      · rw [if_neg h2] at h; exact absurd h h2
    · rw [if_neg h1] at h; cases h
theorem node_back {bs : List UInt8} (h : (nodeT bs).2.2 = 0) : bs = fsec 84 (lbody (nodeT bs).1) ++ (nodeT bs).2.1 ∧ ∀ r ∈ (nodeT bs).1, r.Ok ∧ ∀ j, j < 4 → Fit1 r j := by
  unfold nodeT at h ⊢
  by_cases h1 : (fopen 84 bs).2.2 ≠ 0
  · rw [if_pos h1] at h; exact absurd h h1
  · rw [if_neg h1] at h ⊢
    by_cases h2 : (allT rdr 4096 (fopen 84 bs).1).2 ≠ 0
    · rw [if_pos h2] at h; exact absurd h h2
    · rw [if_neg h2]
      simp only [ne_eq, Decidable.not_not] at h1 h2
      obtain ⟨h3, h4⟩ := rules_back h2
      refine ⟨?_, h4⟩
      have := fopen_back h1
      rw [h3] at this
      exact this
theorem net_back {bs : List UInt8} (h : (netT bs).2 = 0) : bs = nbody (netT bs).1 ∧ ∀ l ∈ (netT bs).1, ∀ r ∈ l, r.Ok := by
  unfold netT at h ⊢
  by_cases h1 : (gtake bs).2.2 = 0
  · by_cases h2 : 256 < (gtake bs).1
    · rw [allT_many h1 h2] at h; cases h
    · rw [allT_go h1 h2] at h ⊢
      obtain ⟨xs, hx, hl, hb, ho⟩ := goT_back (one := nodeT) (put := fun l => fsec 84 (lbody l)) (ok := fun l => ∀ r ∈ l, r.Ok ∧ ∀ j, j < 4 → Fit1 r j) (fun b h => node_back h) _ _ _ h
      rw [hx, List.nil_append]
      refine ⟨?_, fun l hl r hr => (ho l hl r hr).1⟩
      rcases gtake_what bs with h3 | h3 | ⟨n, k, h3, h4, h5, h6, h7, h8⟩
      · rw [h3.1] at h1; cases h1
      · rw [h3] at h1; cases h1
      · rw [h3] at hl hb
        unfold nbody
        rw [hl, h8]
        show bs = bs.take k ++ nrows xs
        conv => lhs; rw [← List.take_append_drop k bs]
        rw [show nrows xs = bs.drop k from hb.symm]
  · rw [allT_err h1] at h; exact absurd h h1
theorem inT_err (bs : List UInt8) (h : (inT bs).2 ≠ 0) : (inT bs).1 = [] := by
  unfold inT at h ⊢
  split
  · rfl
  · split
    · rfl
    · rename_i h1 h2
      rw [if_neg h1, if_neg h2] at h
      exact absurd rfl h
theorem inT_back {bs : List UInt8} (h : (inT bs).2 = 0) : NOk (inT bs).1 ∧ nbody (inT bs).1 = bs := by
  unfold inT at h ⊢
  by_cases h1 : (netT bs).2 ≠ 0
  · rw [if_pos h1] at h; exact absurd h h1
  · rw [if_neg h1] at h ⊢
    by_cases h2 : nmay (netT bs).1 ≠ 0
    · rw [if_pos h2] at h; exact absurd h h2
    · rw [if_neg h2]
      simp only [ne_eq, Decidable.not_not] at h1 h2
      obtain ⟨h3, h4⟩ := net_back h1
      exact ⟨⟨h2, h4⟩, h3.symm⟩
theorem nbody_inj {ns ms : List (List Ru)} (h : NOk ns) (h' : NOk ms) : nbody ns = nbody ms ↔ ns = ms := by
  constructor
  · intro e
    have h1 := inT_put h
    rw [e, inT_put h'] at h1
    injection h1 with h1 _
    exact h1.symm
  · rintro rfl; rfl
theorem inT_cut {ns : List (List Ru)} (h : NOk ns) {k : Nat} (hk : k < (nbody ns).length) : (inT ((nbody ns).take k)).2 ≠ 0 := by
  intro h0
  obtain ⟨h1, h2⟩ := inT_back h0
  have e := inT_put h
  have ed : nbody ns = (nbody ns).take k ++ (nbody ns).drop k := (List.take_append_drop k _).symm
  rw [ed, ← h2, inT_more h1 (fun e => by have := congrArg List.length e; simp at this; omega)] at e
  injection e with _ e
  cases e
theorem nfit_ok {ns : List (List Ru)} (hok : ∀ l ∈ ns, ∀ r ∈ l, r.Ok) : NOk (nfit ns) := by
  have hm := nmany_bd ns
  have hS : Sound (nmany ns : Int) := ⟨by omega, by omega⟩
  have hall : ∀ t, (t ∈ ns ∨ t = []) → ∀ r ∈ t, r.Ok := by
    rintro t (ht | rfl) r hr
    · exact hok t ht r hr
    · cases hr
  have hlen : ∀ l ∈ nfit ns, l.length ≤ 20 := by
    intro l hl
    obtain ⟨t, ht, rfl⟩ := nfit_each hl
    have := fitT_length t (nmany ns)
    omega
  have hoks : ∀ l ∈ nfit ns, ∀ r ∈ l, r.Ok := by
    intro l hl
    obtain ⟨t, ht, rfl⟩ := nfit_each hl
    exact fitT_ok t (nmany ns) (hall t ht) (by omega)
  refine ⟨nmay_zero.2 ⟨by rw [nfit_length]; omega, by have := nsize_le hlen; rw [nfit_length] at this; omega, ?_⟩, hoks⟩
  intro l hl
  have ho := hoks l hl
  obtain ⟨t, ht, rfl⟩ := nfit_each hl
  rw [nfit_length]
  exact tmay_ok (fitT_good hS t (hall t ht)).sorted (fitted_may (by omega) (fitT_fitted hS t (hall t ht)) ho)
theorem nfit_size {ns : List (List Ru)} (hok : ∀ l ∈ ns, ∀ r ∈ l, r.Ok) : (∀ l ∈ nfit ns, l.length ≤ 20) ∧ (nfit ns).length ≤ 8 ∧ 1 ≤ (nfit ns).length := by
  have hm := nmany_bd ns
  refine ⟨?_, by rw [nfit_length]; omega, by rw [nfit_length]; omega⟩
  intro l hl
  obtain ⟨t, ht, rfl⟩ := nfit_each hl
  have := fitT_length t (nmany ns)
  omega
/-! ### Errors -/
def EG (e : Int) : Prop := e ≠ 5 ∧ e ≠ 6
theorem eg_may (r : Ru) (nodes : Int) : EG (r.may nodes) := by
  unfold Ru.may pmay EG
  repeat' split
  all_goals (first | exact ⟨by decide, by decide⟩ | omega)
theorem eg_tmay (nodes : Int) : ∀ (l : List Ru) (p : Option Ru), EG (tmayGo nodes p l)
  | [], _ => ⟨by show (0 : Int) ≠ 5; decide, by show (0 : Int) ≠ 6; decide⟩
  | r :: l, p => by
    rw [tmayGo]
    split
    · exact eg_may r nodes
    · split
      · exact ⟨by decide, by decide⟩
      · exact eg_tmay nodes l _
theorem eg_nmayGo (nodes : Int) : ∀ ns : List (List Ru), EG (nmayGo nodes ns)
  | [] => ⟨by show (0 : Int) ≠ 5; decide, by show (0 : Int) ≠ 6; decide⟩
  | l :: ns => by
    rw [nmayGo]
    split
    · exact eg_tmay nodes l none
    · exact eg_nmayGo nodes ns
theorem eg_nmay (ns : List (List Ru)) : EG (nmay ns) := by
  unfold nmay
  split
  · exact ⟨by decide, by decide⟩
  · exact eg_nmayGo _ _
theorem eg_gtake (bs : List UInt8) : EG (gtake bs).2.2 := by
  rcases gtake_what bs with h3 | h3 | ⟨n, k, h3, _⟩
  · rw [h3.1]; exact ⟨by decide, by decide⟩
  · rw [h3]; exact ⟨by decide, by decide⟩
  · rw [h3]; exact ⟨by show (0 : Int) ≠ 5; decide, by show (0 : Int) ≠ 6; decide⟩
theorem eg_goT {α : Type} {one : List UInt8 → α × List UInt8 × Int} (ho : ∀ bs, EG (one bs).2.2) : ∀ (n : Nat) (acc : List α) (bs : List UInt8), EG (goT one n acc bs).2
  | 0, acc, bs => by
    rw [goT]
    split
    · exact ⟨by show (0 : Int) ≠ 5; decide, by show (0 : Int) ≠ 6; decide⟩
    · exact ⟨by show (4 : Int) ≠ 5; decide, by show (4 : Int) ≠ 6; decide⟩
  | n + 1, acc, bs => by
    rw [goT]
    split
    · exact ho bs
    · exact eg_goT ho n _ _
theorem eg_allT {α : Type} {one : List UInt8 → α × List UInt8 × Int} (ho : ∀ bs, EG (one bs).2.2) (b : Nat) (bs : List UInt8) : EG (allT one b bs).2 := by
  unfold allT
  split
  · exact eg_gtake bs
  · split
    · exact ⟨by show (12 : Int) ≠ 5; decide, by show (12 : Int) ≠ 6; decide⟩
    · exact eg_goT ho _ _ _
theorem eg_rdr (bs : List UInt8) : EG (rdr bs).2.2 := by
  unfold rdr
  split
  · exact ⟨by show (2 : Int) ≠ 5; decide, by show (2 : Int) ≠ 6; decide⟩
  · exact ⟨by show (0 : Int) ≠ 5; decide, by show (0 : Int) ≠ 6; decide⟩
theorem eg_fopen (t : UInt8) (bs : List UInt8) : EG (fopen t bs).2.2 := by
  cases bs with
  | nil => exact ⟨by show (2 : Int) ≠ 5; decide, by show (2 : Int) ≠ 6; decide⟩
  | cons b r =>
    rw [fopen_cons]
    split
    · split
      · split
        · exact ⟨by show (2 : Int) ≠ 5; decide, by show (2 : Int) ≠ 6; decide⟩
        · exact ⟨by show (0 : Int) ≠ 5; decide, by show (0 : Int) ≠ 6; decide⟩
      · exact eg_gtake r
    · exact ⟨by show (3 : Int) ≠ 5; decide, by show (3 : Int) ≠ 6; decide⟩
theorem eg_node (bs : List UInt8) : EG (nodeT bs).2.2 := by
  unfold nodeT
  split
  · exact eg_fopen 84 bs
  · split
    · exact eg_allT eg_rdr _ _
    · exact ⟨by show (0 : Int) ≠ 5; decide, by show (0 : Int) ≠ 6; decide⟩
theorem eg_inT (bs : List UInt8) : EG (inT bs).2 := by
  unfold inT
  split
  · exact eg_allT eg_node 256 bs
  · split
    · exact eg_nmay _
    · exact ⟨by show (0 : Int) ≠ 5; decide, by show (0 : Int) ≠ 6; decide⟩
/-! ### With magic and sum -/
theorem ntk_fput (bs : List UInt8) : ntk (fput 1179206193 bs) = inT bs := by
  unfold ntk
  rw [ftake_fput]
  simp
theorem ntk_flip (m : List UInt8) (q : Nat) (hq : q < 8 * (m.length + 8)) : ∃ g, ntk (Go.Th.flip (fput 1179206193 m) q) = ([], g) ∧ (g = 5 ∨ g = 6) := by
  obtain ⟨g, h1, h2⟩ := ftake_flip 1179206193 m q hq
  refine ⟨g, ?_, h2⟩
  unfold ntk
  rw [h1, if_pos (by rcases h2 with rfl | rfl <;> decide)]
theorem fput_mid (m : Nat) (bs : List UInt8) : ((fput m bs).take (bs.length + 4)).drop 4 = bs := by
  unfold fput fhead
  rw [List.append_assoc, List.take_append, List.take_append, be_length, List.take_of_length_le (by rw [be_length]; omega), List.drop_append, be_length]
  rw [List.drop_of_length_le (by rw [be_length]; omega)]
  simp
theorem ntk_cut {ns : List (List Ru)} (h : NOk ns) {q : Nat} (hq : q < (nbody ns).length + 8) : ∃ g, ntk ((fput 1179206193 (nbody ns)).take q) = ([], g) ∧ g ≠ 0 := by
  obtain ⟨b, hb⟩ : ∃ b, nbody ns = b := ⟨_, rfl⟩
  have hl := fput_length 1179206193 b
  rw [hb] at hq ⊢
  unfold ntk
  by_cases h1 : (ftake 1179206193 ((fput 1179206193 b).take q)).2 ≠ 0
  · rw [if_pos h1]; exact ⟨_, rfl, h1⟩
  · rw [if_neg h1]
    simp only [ne_eq, Decidable.not_not] at h1
    have hlen : ((fput 1179206193 b).take q).length = q := by rw [List.length_take]; omega
    have h8 : 8 ≤ q := by
      by_cases h8 : 8 ≤ q
      · exact h8
      · unfold ftake at h1
        rw [if_pos (by omega)] at h1
        exact absurd h1 (by decide)
    have hx : (ftake 1179206193 ((fput 1179206193 b).take q)).1 = b.take (q - 8) := by
      unfold ftake at h1 ⊢
      rw [if_neg (by omega)] at h1 ⊢
      split at h1
      · rename_i h2
        rw [if_pos h2]
        split at h1
        · rename_i h3
          rw [if_pos h3, hlen]
          unfold fput fhead
          rw [List.take_take, Nat.min_eq_left (by omega), List.append_assoc, List.take_append, be_length, List.take_of_length_le (by rw [be_length]; omega), List.drop_append, be_length, List.drop_of_length_le (by rw [be_length]; omega), List.take_append]
          simp only [Nat.sub_self, List.drop_zero, List.nil_append]
          rw [show q - 4 - 4 = q - 8 by omega, show q - 8 - b.length = 0 by omega, List.take_zero, List.append_nil]
        · exact absurd h1 (by decide)
      · exact absurd h1 (by decide)
    rw [hx, ← hb]
    have hc := inT_cut h (k := q - 8) (by rw [hb]; omega)
    exact ⟨_, Prod.ext (inT_err _ hc) rfl, hc⟩
end Go.Proofs.Ytgapcmodhcdebaa
