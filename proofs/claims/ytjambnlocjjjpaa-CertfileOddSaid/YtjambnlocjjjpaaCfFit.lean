/-
  A certificate made one that may be: it has bytes.
-/
import Derived.Test.YtjambnlocjjjpaaCfShown
namespace Go.Proofs.Ytjambnlocjjjpaa
open Go.RowKit Go.Th
set_option linter.unusedVariables false
theorem pbodies_len {N : Nat} : ∀ ks : List PK, (∀ k ∈ ks, k.2.2.length ≤ N) → (pbodies ks).length ≤ ks.length * (8 + 4 * N)
  | [], _ => by simp [pbodies]
  | k :: ks, h => by
    have e : pbodies (k :: ks) = pbody k ++ pbodies ks := by simp [pbodies]
    have h1 := pbodies_len ks (fun x hx => h x (by simp [hx]))
    have h2 := gN_len k.2.2
    have h3 := h k (by simp)
    rw [e, List.length_append, List.length_cons, Nat.succ_mul]
    have : (pbody k).length ≤ 8 + 4 * N := by
      simp only [pbody, List.length_append, be_length]
      omega
    omega
/-- What Fit answers. -/
def FitPost (nodes : Nat) (w : World) (e : Ending) (w' : World) : Prop :=
  ∃ v Ap np cp d At nt ct ps tr, e = .returned (.agg #[.int .i64 v, .slice Ap np cp, .int .u32 d, .slice At nt ct]) ∧ PRd w' w'.heap.size Ap np cp ps ∧ RdS iv w' w'.heap.size At nt ct tr ∧ CIn v (ps.map pkey) d tr nodes ∧ cmay v ps d tr nodes = 0 ∧ (cbody v (ps.map pkey) d tr nodes).length ≤ 20000 ∧ np ≤ 31 ∧ nt ≤ 64 ∧ (∀ p ∈ ps, p.n ≤ 64) ∧ Below w.heap.size w w'
theorem fit_post (v : Int) (Ap : Option Addr) (np cp : Nat) (d : Int) (At : Option Addr) (nt ct : Nat) (nodes : Nat) (hno : 1 ≤ nodes ∧ nodes ≤ 64) (w : World) (hnp : np ≤ 9223372036854775807) (hnt : nt ≤ 9223372036854775807) (hd : 0 ≤ d ∧ d ≤ 4294967295) (ps : List Pt) (tr : List Int) (B : Nat) (hp : PRd w B Ap np cp ps) (hsm : ∀ p ∈ ps, p.n ≤ 1048576) (ht : RdS iv w B At nt ct tr) :
    Calls Try.prog 9 #[.agg #[.int .i64 v, .slice Ap np cp, .int .u32 d, .slice At nt ct], .int .i64 nodes] w (FitPost nodes w) := by
  have hg := gsize_pos nodes
  by_cases hv : bits .and .i64 v 1 = 0
  · refine (rcfit_loops v hv Ap np cp d At nt ct nodes ⟨hno.1, by omega⟩ w hnt tr B ht).mono ?_
    rintro e w' ⟨A', c', rfl, ow, hb⟩
    obtain ⟨h1, h2⟩ := ftrace_ok (n := (nodes : Int)) (by omega) tr
    have hl := h1.len
    have hr : ∀ x ∈ ftrace nodes tr, 0 ≤ x ∧ x < 268435456 := fun x hx => by have := h1.rng x hx; omega
    refine ⟨2, none, 0, 0, d, A', _, c', [], ftrace nodes tr, rfl, (PO.nil _ 0).rd, ow.rd, ⟨by omega, .inr ⟨rfl, rfl, hd, by omega, hr⟩⟩, h1.may h2 d, ?_, by omega, by omega, by simp, hb⟩
    have h3 := gN_len (ftrace nodes tr)
    have h4 := gsize_pos (ftrace nodes tr).length
    simp only [cbody, List.length_append, be_length, gput_length]
    rw [if_neg (by decide)]
    simp only [List.length_append, be_length, gput_length, Int.toNat_natCast]
    omega
  · have hok := hp.ok
    obtain ⟨c1, c2⟩ := fcuts_len hok
    refine (fitfree_is v hv Ap np cp d At nt ct nodes ⟨hno.1, by omega⟩ w hnp ps B hp hsm _ _ _ rfl rfl rfl).mono ?_
    rintro e w' ⟨A', c', ps', rfl, po, hF, hb⟩
    have hl : ps'.length = (fcuts ps).length := hF.len
    have hkin : ∀ k ∈ ps'.map pkey, PKin nodes k := fun k hk => by
      obtain ⟨p, hp2, rfl⟩ := List.mem_map.1 hk
      have ho := hF.ok p hp2
      have h2 := hF.rkLen p hp2
      exact ⟨ho.fr, ho.to, by show ((p.rk.length : Nat) : Int) = nodes; omega, fun x hx => by have := hF.rkIn p hp2 x hx; omega⟩
    refine ⟨1, A', _, c', 0, none, 0, 0, ps', [], rfl, po.rd hF.ok, RdS.nil _ _, ⟨by omega, .inl ⟨rfl, rfl, rfl, by simp; omega, hkin⟩⟩, hF.may c2, ?_, c2, by omega, fun p hp2 => by rw [(po.rk p hp2).2]; omega, hb⟩
    have h3 := pbodies_len (N := nodes) (ps'.map pkey) (fun k hk => by have := (hkin k hk).2.2.1; omega)
    have h4 := gsize_pos (ps'.map pkey).length
    simp only [List.length_map] at h3 h4
    simp only [cbody, List.length_append, be_length, gput_length]
    rw [if_pos trivial]
    simp only [List.length_append, gput_length, Int.toNat_natCast, List.length_map]
    have h5 : ps'.length * (8 + 4 * nodes) ≤ 31 * (8 + 4 * 64) := Nat.mul_le_mul (by omega) (by omega)
    omega
end Go.Proofs.Ytjambnlocjjjpaa
