/-
  What certificates are worth: the plain law. (Each address is sent as the cut ahead of it is; ranks that fall leave no way round; a trace leads round.)
-/
import Derived.Test.YtjandnidljbkoaaGreatGTpEx
set_option linter.unusedVariables false
namespace Go.Th
theorem div_is (x P q:Nat) (hP:1≤P):q=x / P↔q * P≤x∧x≤q * P+(P - 1):=by
  constructor
  · rintro rfl
    have h1:=Nat.div_mul_le_self x P
    have h2:=Nat.mod_lt x hP
    have h3:=Nat.div_add_mod x P
    rw [Nat.mul_comm] at h3
    exact ⟨h1,by omega⟩
  · rintro ⟨h1,h2⟩
    exact (Nat.div_eq_of_lt_le h1 (by rw [Nat.succ_mul];omega)).symm
theorem holds_iff {a n x:Int} (hx:0≤x):holds a n x=true↔lead a n≤x∧x≤tailOf a n:=by
  have hp:=pow_sh n
  unfold holds head tailOf lead
  rw [decide_eq_true_eq,div_is x.toNat (2 ^ sh n) (a.toNat / 2 ^ sh n) hp.1]
  omega
theorem tfind_congr {x y:Int}:∀ {l:List Ru},(∀ r∈l,r.holds x=r.holds y)→tfind l x=tfind l y:=by
  intro l h
  unfold tfind
  suffices ∀ (l:List Ru) (p:Ru × Bool),(∀ r∈l,r.holds x=r.holds y)→l.foldl (fstep x) p=l.foldl (fstep y) p from this l _ h
  intro l
  induction l with
  | nil=>exact fun p _=>rfl
  | cons r l ih =>
    intro p h
    rw [List.foldl_cons,List.foldl_cons,show fstep x p r=fstep y p r by unfold fstep;rw [h r (by simp)]]
    exact ih _ fun s hs=>h s (by simp [hs])
theorem lcuts_has:∀ (l:List Ru) {ks:List Int} {r:Ru},r∈l→lead r.a r.n∈lcuts ks l∧(tailOf r.a r.n≠4294967295→tailOf r.a r.n+1∈lcuts ks l)
  | q :: l,ks,r,h=>by
    rcases List.mem_cons.1 h with rfl | h
    · refine ⟨lcuts_sub l ?_,fun hne=>lcuts_sub l ?_⟩
      · unfold rcuts
        split <;> simp [mem_addK]
      · unfold rcuts
        rw [if_neg hne]
        simp [mem_addK]
    · exact lcuts_has l h
theorem ckeys_has {ls:List (List Ru)} {l:List Ru} {r:Ru} (hl:l∈ls) (hr:r∈l):lead r.a r.n∈ckeys ls∧(tailOf r.a r.n≠4294967295→tailOf r.a r.n+1∈ckeys ls):=by
  have key:∀ (ls:List (List Ru)) (ks:List Int) {x:Int},x∈ks→x∈ls.foldl lcuts ks:=by
    intro ls
    induction ls with
    | nil=>exact fun ks x h=>h
    | cons l ls ih=>exact fun ks x h=>ih _ (lcuts_sub l h)
  have key2:∀ (ls:List (List Ru)) (ks:List Int),l∈ls→lead r.a r.n∈ls.foldl lcuts ks∧(tailOf r.a r.n≠4294967295→tailOf r.a r.n+1∈ls.foldl lcuts ks):=by
    intro ls
    induction ls with
    | nil=>exact fun ks h=>(nomatch h)
    | cons q ls ih =>
      intro ks h
      rcases List.mem_cons.1 h with rfl | h
      · exact ⟨key ls _ (lcuts_has l hr).1,fun hne=>key ls _ ((lcuts_has l hr).2 hne)⟩
      · exact ih _ h
  exact key2 ls [0] hl
theorem last_le {l:List Int} {a:Int} (h:∃ x∈l,x≤a):∃ x∈l,x≤a∧∀ y∈l,y≤a→y≤x:=by
  induction l with
  | nil=>obtain ⟨x,hx,_⟩:=h;cases hx
  | cons z l ih =>
    by_cases h2:∃ x∈l,x≤a
    · obtain ⟨x,h3,h4,h5⟩:=ih h2
      by_cases h6:z≤a∧x < z
      · refine ⟨z,by simp,h6.1,fun y hy hya=>?_⟩
        rcases List.mem_cons.1 hy with rfl | hy
        · exact Int.le_refl _
        · have:=h5 y hy hya;omega
      · refine ⟨x,by simp [h3],h4,fun y hy hya=>?_⟩
        rcases List.mem_cons.1 hy with rfl | hy
        · omega
        · exact h5 y hy hya
    · obtain ⟨x,hx,hxa⟩:=h
      rcases List.mem_cons.1 hx with rfl | hx
      · refine ⟨x,by simp,hxa,fun y hy hya=>?_⟩
        rcases List.mem_cons.1 hy with rfl | hy
        · exact Int.le_refl _
        · exact absurd ⟨y,hy,hya⟩ h2
      · exact absurd ⟨x,hx,hxa⟩ h2
end Go.Th
namespace Go.Proofs.YtjandnidljbkoaaGreat
open Go.RowKit Go.Th
theorem vec_const {ls:List (List Ru)} {x a:Int} (h0:0≤x) (hxa:x≤a) (ha:a≤4294967295) (hno:∀ y∈ckeys ls,x < y→a < y):vecOf ls a=vecOf ls x:=by
  unfold vecOf
  refine List.map_congr_left fun l hl=>?_
  rw [tfind_congr (x:=a) (y:=x) fun r hr=>?_]
  obtain ⟨h1,h2⟩:=ckeys_has hl hr
  have i1:=holds_iff (a:=r.a) (n:=r.n) (x:=x) h0
  have i2:=holds_iff (a:=r.a) (n:=r.n) (x:=a) (by omega)
  have h3:=fun h=>hno _ h1 h
  have h4:x < tailOf r.a r.n+1→tailOf r.a r.n≠4294967295→a < tailOf r.a r.n+1:=fun h hne=>hno _ (h2 hne) h
  have e:holds r.a r.n a=true↔holds r.a r.n x=true:=by
    rw [i1,i2]
    constructor
    · rintro ⟨h5,h6⟩
      exact ⟨by omega,by omega⟩
    · rintro ⟨h5,h6⟩
      refine ⟨by omega,?_⟩
      by_cases hne:tailOf r.a r.n=4294967295
      · omega
      · have:=h4 (by omega) hne;omega
  show holds r.a r.n a=holds r.a r.n x
  exact Bool.eq_iff_iff.2 e
end Go.Proofs.YtjandnidljbkoaaGreat
