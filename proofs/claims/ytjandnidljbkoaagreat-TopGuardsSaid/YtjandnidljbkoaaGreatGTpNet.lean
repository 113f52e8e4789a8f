/-
  Networks that may be: what their rules are, and the vectors' entries. Plain law.
-/
import Derived.Test.YtjandnidljbkoaaGreatGTpVec
import Derived.Test.YtjandnidljbkoaaGreatGTpMe
set_option linter.unusedVariables false
namespace Go.Proofs.YtjandnidljbkoaaGreat
open Go.RowKit Go.Th
theorem tmayGo_sorted {nodes:Int}:∀ (l:List Ru) (p:Option Ru),tmayGo nodes p l=0→(∀ q,p=some q→∀ r∈l,q.cmp r < 0)∧Sorted l
  | [],p,_=>⟨fun q _ r hr=>(nomatch hr),List.Pairwise.nil⟩
  | x :: l,p,h=>by
    rw [tmayGo] at h
    by_cases h1:x.may nodes≠0
    · rw [if_pos h1] at h;exact absurd h h1
    · rw [if_neg h1] at h
      by_cases h2:outOf p x=true
      · rw [if_pos h2] at h;cases h
      · rw [if_neg h2] at h
        obtain ⟨h3,h4⟩:=tmayGo_sorted l (some x) h
        have h5:∀ q,p=some q→q.cmp x < 0:=fun q hq=>by
          subst hq
          unfold outOf at h2
          have h6:x.cmp q=1:=by simpa using h2
          have:=Ru.cmp_neg x q
          omega
        refine ⟨fun q hq r hr=>?_,List.Pairwise.cons (h3 x rfl) h4⟩
        rcases List.mem_cons.1 hr with rfl | hr
        · exact h5 q hq
        · exact Ru.cmp_trans (h5 q hq) (h3 x rfl r hr)
theorem sorted_diff {l:List Ru} (h:Sorted l):Diff l:=by
  unfold Diff
  exact h.imp fun {r s} h1 h2=>by
    have:=(Ru.cmp_zero r s).2 h2
    omega
theorem ru_may_zero {r:Ru} {nodes:Int} (h:r.may nodes=0):pmay r.a r.n=0∧(r.act=1→0≤r.next∧r.next < nodes):=by
  unfold Ru.may at h
  split at h
  · rename_i h1
    exact absurd h h1
  · rename_i h1
    refine ⟨by simpa using h1,fun h2=>?_⟩
    rw [if_pos h2] at h
    split at h
    · cases h
    · omega
structure NetOk (ls:List (List Ru)):Prop where
  may:nmay ls=0
  ok:∀ l∈ls,∀ r∈l,r.Ok
section
variable {ls:List (List Ru)}
theorem NetOk.len (h:NetOk ls):ls.length≤256:=(nmay_zero.1 h.may).1
theorem NetOk.size (h:NetOk ls):nsize ls≤4096:=(nmay_zero.1 h.may).2.1
theorem NetOk.rule (h:NetOk ls):∀ l∈ls,∀ r∈l,r.may ls.length=0:=fun l hl r hr=>tmayGo_each l none ((nmay_zero.1 h.may).2.2 l hl) r hr
theorem NetOk.pre (h:NetOk ls):∀ l∈ls,∀ r∈l,r.Ok∧pmay r.a r.n=0:=fun l hl r hr=>⟨h.ok l hl r hr,(ru_may_zero (h.rule l hl r hr)).1⟩
theorem NetOk.sorted (h:NetOk ls):∀ l∈ls,Sorted l:=fun l hl=>(tmayGo_sorted l none ((nmay_zero.1 h.may).2.2 l hl)).2
theorem NetOk.diff (h:NetOk ls):∀ l∈ls,Diff l:=fun l hl=>sorted_diff (h.sorted l hl)
theorem vec_len (ls:List (List Ru)) (x:Int):(vecOf ls x).length=ls.length:=by unfold vecOf;rw [List.length_map]
theorem vent_next (l:List Ru) (x:Int):vent (tfind l x)=if (tnext l x).2=true then (tnext l x).1 else -1:=by
  unfold vent tnext
  split <;> simp
theorem NetOk.vent (h:NetOk ls) {l:List Ru} (hl:l∈ls) (x:Int):-1≤vent (tfind l x)∧vent (tfind l x) < ls.length:=by
  have hb:=tfind_best l x
  obtain ⟨r,b,hp⟩:∃ r b,tfind l x=(r,b):=⟨_,_,rfl⟩
  rw [hp] at hb ⊢
  unfold Go.Proofs.YtjandnidljbkoaaGreat.vent
  dsimp only at hb ⊢
  split
  · rename_i h1
    obtain ⟨rfl,h2⟩:=h1
    have:=(ru_may_zero (h.rule l hl r ((hb.2 rfl).1))).2 h2
    omega
  · omega
theorem NetOk.vec (h:NetOk ls) (x:Int):∀ v∈vecOf ls x,-1≤v∧v < ls.length:=by
  intro v hv
  unfold vecOf at hv
  obtain ⟨l,hl,rfl⟩:=List.mem_map.1 hv
  exact h.vent hl x
theorem NetOk.vec' (h:NetOk ls) (x:Int):∀ v∈vecOf ls x,-1≤v∧v≤65000:=fun v hv=>by
  have:=h.vec x v hv
  have:=h.len
  omega
theorem vec_step (ls:List (List Ru)) (x:Int) (k:Nat) (hk:k < ls.length):(vecOf ls x)[k]? = some (if (nstep ls x (k:Int)).2=true then (nstep ls x (k:Int)).1 else -1):=by
  unfold vecOf nstep
  rw [List.getElem?_map,List.getElem?_eq_getElem hk,if_pos (show (0:Int)≤(k:Int)∧(k:Int) < (ls.length:Int) by omega)]
  simp [vent_next,List.getD_eq_getElem?_getD,List.getElem?_eq_getElem hk]
end
theorem netok_of {w:World} {B n c:Nat} {A:Option Addr} {ns:List Nd} (h:NRd w B A n c ns) (hm:nmay (Nd.ls ns)=0):NetOk (Nd.ls ns) :=
  ⟨hm,fun l hl r hr=>by
    obtain ⟨x,hx,rfl⟩:=List.mem_map.1 hl
    exact h.ok x hx r hr⟩
theorem NetOk.nd {ns:List Nd} (h:NetOk (Nd.ls ns)):(∀ x∈ns,∀ r∈x.l,r.Ok∧pmay r.a r.n=0)∧∀ x∈ns,Diff x.l :=
  ⟨fun x hx=>h.pre x.l (List.mem_map.2 ⟨x,hx,rfl⟩),fun x hx=>h.diff x.l (List.mem_map.2 ⟨x,hx,rfl⟩)⟩
end Go.Proofs.YtjandnidljbkoaaGreat
