/-
  The networks that theseustop.shown shows: plain.
-/
import Derived.Test.YtjandnidljbkoaaGreatGTpTool3
set_option linter.unusedVariables false
namespace Go.Proofs.YtjandnidljbkoaaGreat
open Go.RowKit Go.Th
def vst (n:Nat) (V:List Int) (u:Int):Int × Bool:=if 0≤u∧u < (n:Int)∧0≤V.getD u.toNat (-1) then (V.getD u.toNat (-1),true) else (0,false)
theorem nstep_vec {ls:List (List Ru)} (h:NetOk ls) (a u:Int):nstep ls a u=vst ls.length (vecOf ls a) u:=by
  unfold vst
  by_cases hu:0≤u∧u < (ls.length:Int)
  · have h1:=vec_step ls a u.toNat (by omega)
    rw [Int.toNat_of_nonneg hu.1] at h1
    rw [List.getD_eq_getElem?_getD,h1]
    simp only [Option.getD_some]
    by_cases hg:(nstep ls a u).2=true
    · have h2:=inn_of_may (a:=a) h.rule u hg
      rw [if_pos hg,if_pos ⟨hu.1,hu.2,by exact h2.1⟩]
      exact Prod.ext rfl hg
    · rw [if_neg hg,if_neg (by omega)]
      have e:nstep ls a u=tnext (ls.getD u.toNat []) a:=by unfold nstep;rw [if_pos hu]
      rw [e] at hg ⊢
      unfold tnext at hg ⊢
      split
      · rename_i h3;rw [if_pos h3] at hg;exact absurd rfl hg
      · rfl
  · rw [if_neg (by omega)]
    unfold nstep
    rw [if_neg hu]
theorem hof_vec {ls:List (List Ru)} (h:NetOk ls) (a:Int):hof ls a=fun u=>(vst ls.length (vecOf ls a) u).1:=funext fun u=>by unfold hof;rw [nstep_vec h]
theorem gof_vec {ls:List (List Ru)} (h:NetOk ls) (a:Int):gof ls a=fun u=>(vst ls.length (vecOf ls a) u).2:=funext fun u=>by unfold gof;rw [nstep_vec h]
def exF:List (List Ru):=[[⟨0,0,1,1⟩],[⟨0,0,1,2⟩],[⟨0,0,2,0⟩,⟨2147483648,1,1,0⟩]]
def exP:List (List Ru):=[[⟨0,0,1,1⟩],[⟨0,0,1,2⟩],[⟨0,0,2,0⟩]]
theorem exF_may:nmay exF=0:=by decide +kernel
theorem exP_may:nmay exP=0:=by decide +kernel
theorem exF_ok:NOk exF:=⟨exF_may,by
  intro l hl r hr
  simp only [exF,List.mem_cons,List.not_mem_nil,or_false] at hl
  rcases hl with rfl | rfl | rfl <;> (simp only [List.mem_cons,List.not_mem_nil,or_false] at hr) <;> (first | (subst hr;exact ⟨by decide,by decide,by decide,by decide⟩) | (rcases hr with rfl | rfl <;> exact ⟨by decide,by decide,by decide,by decide⟩))⟩
theorem exP_ok:NOk exP:=⟨exP_may,by
  intro l hl r hr
  simp only [exP,List.mem_cons,List.not_mem_nil,or_false] at hl
  rcases hl with rfl | rfl | rfl <;> (simp only [List.mem_cons,List.not_mem_nil,or_false] at hr) <;> (subst hr;exact ⟨by decide,by decide,by decide,by decide⟩)⟩
theorem exF_net:NetOk exF:=⟨exF_ok.may,exF_ok.ok⟩
theorem exP_net:NetOk exP:=⟨exP_ok.may,exP_ok.ok⟩
theorem exF_keys:ckeys exF=[0,2147483648]:=by decide +kernel
theorem exP_keys:ckeys exP=[0]:=by decide +kernel
theorem exF_cuts:cutsOf exF=[0,2147483648]:=by
  unfold cutsOf
  rw [exF_keys]
  exact List.mergeSort_of_pairwise (by decide)
theorem exP_cuts:cutsOf exP=[0]:=by
  unfold cutsOf
  rw [exP_keys]
  exact List.mergeSort_of_pairwise (by decide)
theorem exF_at:atomsOf exF=atGo (vecOf exF) [0,2147483648]:=by unfold atomsOf;rw [exF_cuts]
theorem exP_at:atomsOf exP=atGo (vecOf exP) [0]:=by unfold atomsOf;rw [exP_cuts]
theorem exF_fr:(atomsOf exF).fr=[0,2147483648]:=by rw [exF_at];decide +kernel
theorem exF_wh:(atomsOf exF).wh=[0,1]:=by rw [exF_at];decide +kernel
theorem exF_vs:(atomsOf exF).vs=[[1,2,-1],[1,2,0]]:=by rw [exF_at];decide +kernel
theorem exP_fr:(atomsOf exP).fr=[0]:=by rw [exP_at];decide +kernel
theorem exP_wh:(atomsOf exP).wh=[0]:=by rw [exP_at];decide +kernel
theorem exP_vs:(atomsOf exP).vs=[[1,2,-1]]:=by rw [exP_at];decide +kernel
theorem vst_line {u:Int} (h:(vst 3 [1,2,-1] u).2=true):(u=0∧(vst 3 [1,2,-1] u).1=1)∨(u=1∧(vst 3 [1,2,-1] u).1=2):=by
  have hb:0≤u∧u < 3:=by
    unfold vst at h
    split at h
    · rename_i h1;omega
    · cases h
  have:u=0∨u=1∨u=2:=by omega
  rcases this with rfl | rfl | rfl
  · exact .inl ⟨rfl,by decide⟩
  · exact .inr ⟨rfl,by decide⟩
  · exact absurd h (by decide)
theorem line_no {u:Int} {L:Nat} (c:Cyc (fun u=>(vst 3 [1,2,-1] u).1) (fun u=>(vst 3 [1,2,-1] u).2) u L):False:=by
  obtain ⟨f,hf⟩:∃ f:Int→Int,(fun u=>(vst 3 [1,2,-1] u).1)=f:=⟨_,rfl⟩
  rw [hf] at c
  have hs:∀ x,f x=(vst 3 [1,2,-1] x).1:=fun x=>by rw [← hf]
  have h0:=vst_line (c.all 0)
  have h1:=vst_line (c.all 1)
  have h2:=vst_line (c.all 2)
  have e0:itr f 1 u=f (itr f 0 u):=rfl
  have e1:itr f 2 u=f (itr f 1 u):=rfl
  rw [← hs] at h0 h1 h2
  omega
theorem ring_yes:Cyc (fun u=>(vst 3 [1,2,0] u).1) (fun u=>(vst 3 [1,2,0] u).2) 0 3:=⟨by omega,fun j hj=>by
  have:j=0∨j=1∨j=2:=by omega
  rcases this with rfl | rfl | rfl <;> decide,by decide⟩
theorem exF_cases {k:Nat} {v:List Int} (h:(atomsOf exF).vs[k]? = some v):(k=0∧v=[1,2,-1])∨(k=1∧v=[1,2,0]):=by
  rw [exF_vs] at h
  match k,h with
  | 0,h=>left;simpa using h.symm
  | 1,h=>right;simpa using h.symm
theorem exF_ring {a:Int} (h:vecOf exF a=[1,2,0]):Cyc (hof exF a) (gof exF a) 0 3:=by
  rw [hof_vec exF_net,gof_vec exF_net,h]
  exact ring_yes
theorem exF_line {a:Int} (h:vecOf exF a=[1,2,-1]) {u:Int} {L:Nat} (c:Cyc (hof exF a) (gof exF a) u L):False:=by
  rw [hof_vec exF_net,gof_vec exF_net,h] at c
  exact line_no c
theorem exP_line {a:Int} (h:vecOf exP a=[1,2,-1]) {u:Int} {L:Nat} (c:Cyc (hof exP a) (gof exP a) u L):False:=by
  rw [hof_vec exP_net,gof_vec exP_net,h] at c
  exact line_no c
theorem exF_vec:vecOf exF 2147483648=[1,2,0]:=by decide +kernel
theorem certF_is {t:CR} (h:CertOf exF t):GoodC (exF,0) t∧t.v=2∧t.d=2147483648∧t.tr.length=3:=by
  obtain ⟨he,hn,h | h⟩:=h
  · obtain ⟨h1,h2,h3,h4,h5⟩:=h
    rw [exF_fr] at h4
    obtain ⟨k,hk⟩:∃ k,t.ks[1]? = some k:=⟨_,List.getElem?_eq_getElem (by rw [h4];simp)⟩
    obtain ⟨x,p,a,g1,g2,g3,_,_,g4⟩:=h5 1 k hk
    rw [exF_wh] at g2
    obtain rfl:(1:Int)=p:=by simpa using g2
    rcases exF_cases g3 with ⟨e,_⟩ | ⟨_,e⟩
    · exact absurd e (by decide)
    · exact (g4.no (exF_ring e)).elim
  · obtain ⟨h1,h2,k,i,a,best,M,_,g1,g2,g3,g4,g5,g6,g7,_,g8⟩:=h
    rcases exF_cases g1 with ⟨rfl,e⟩ | ⟨rfl,e⟩
    · exact (exF_line e g3).elim
    · have hi:i=1:=by
        rw [exF_wh] at g7
        match i,g7 with
        | 0,h=>simp at h
        | 1,h=>rfl
      subst hi
      have hd:t.d=2147483648:=by
        rw [exF_fr] at g8
        simpa using g8.symm
      have hr:=exF_ring e
      have hb0:best=0:=by
        have h1:=g5 0 3 hr
        have h2:=(gof_in (g3.all 0)).1
        have e2:itr (hof exF a) 0 best=best:=rfl
        rw [e2] at h2
        omega
      subst hb0
      have hM:M=3:=by
        have hp:=g3.pos
        have h3:¬ 3 < M:=fun hlt=>g4 3 (by omega) hlt hr.back
        have hbk:=g3.back
        have:M=1∨M=2∨M=3:=by omega
        rcases this with rfl | rfl | rfl
        · rw [hof_vec exF_net,e] at hbk;exact absurd hbk (by decide)
        · rw [hof_vec exF_net,e] at hbk;exact absurd hbk (by decide)
        · rfl
      subst hM
      have htr:t.tr=[0,1,2]:=by
        rw [g6]
        unfold sits
        simp only [sit_itr]
        rw [hof_vec exF_net,e]
        decide
      refine ⟨⟨rfl,he,hn,.inr ⟨h1,?_⟩⟩,h1,hd,by rw [htr];rfl⟩
      rw [hd,htr]
      refine ⟨by simp,fun i x hx=>?_⟩
      rw [hof_vec exF_net,gof_vec exF_net,exF_vec]
      match i,hx with
      | 0,hx=>
        obtain rfl:(0:Int)=x:=by simpa using hx
        decide
      | 1,hx=>
        obtain rfl:(1:Int)=x:=by simpa using hx
        decide
      | 2,hx=>
        obtain rfl:(2:Int)=x:=by simpa using hx
        decide
theorem exP_rank:RankR exP 0 [2,1,0]:=⟨rfl,fun u h0 h1=>by
  have:u=0∨u=1∨u=2:=by
    have e:(exP.length:Int)=3:=rfl
    omega
  have hv:vecOf exP 0=[1,2,-1]:=by decide +kernel
  rw [hof_vec exP_net,gof_vec exP_net,hv]
  rcases this with rfl | rfl | rfl
  · exact ⟨2,rfl,by decide,by decide,by decide,fun _=>⟨1,by decide,by decide⟩⟩
  · exact ⟨1,rfl,by decide,by decide,by decide,fun _=>⟨0,by decide,by decide⟩⟩
  · exact ⟨0,rfl,by decide,by decide,by decide,fun h=>absurd h (by decide)⟩⟩
theorem certP_is {t:CR} (h:CertOf exP t):GoodC (exP,0) t∧t.v=1∧¬ GoodC (exF,0) t:=by
  obtain ⟨he,hn,h | h⟩:=h
  · obtain ⟨h1,h2,h3,h4,h5⟩:=h
    rw [exP_fr] at h4
    obtain ⟨k,hk⟩:∃ k,t.ks=[k]:=by
      match ht:t.ks,h4 with
      | [k],_=>exact ⟨k,rfl⟩
    obtain ⟨x,p,a,g1,g2,g3,g4,g5,g6⟩:=h5 0 k (by rw [hk];rfl)
    have hva:vecOf exP a=[1,2,-1]:=by
      rw [exP_vs] at g3
      rw [exP_wh] at g2
      obtain rfl:(0:Int)=p:=by simpa using g2
      simpa using g3.symm
    have hR:k.2.2=[2,1,0]:=by
      have hrk:RankR exP a [2,1,0]:=⟨rfl,fun u h0 h1=>by
        have h6:=exP_rank.each u h0 h1
        rw [hof_vec exP_net,gof_vec exP_net,show vecOf exP 0=[1,2,-1] by decide +kernel] at h6
        rw [hof_vec exP_net,gof_vec exP_net,hva]
        exact h6⟩
      exact g6.one hrk
    have hx:x=0:=by rw [exP_fr] at g1;simpa using g1.symm
    subst hx
    have hto:k.2.1=4294967295:=by rw [g5,exP_fr];rfl
    refine ⟨⟨rfl,he,hn,.inl ⟨h1,fun q hq=>?_⟩⟩,h1,fun hg=>?_⟩
    · rw [hk,List.mem_singleton] at hq
      subst hq
      rw [hR]
      intro b hb u h0 h7
      have hb0:b=0:=by
        unfold ptsOf insideF at hb
        simp only [exP_cuts] at hb
        unfold ptOf at hb
        simp [g4] at hb
        exact hb
      subst hb0
      have:u=0∨u=1∨u=2:=by
        have e:u < 3:=h7
        omega
      unfold FallV
      rw [hof_vec exP_net,gof_vec exP_net,show vecOf exP 0=[1,2,-1] by decide +kernel]
      rcases this with rfl | rfl | rfl <;> decide
    · obtain ⟨_,_,_,hc | hc⟩:=hg
      · have h8:=hc.2 k (by rw [hk];exact List.mem_singleton.2 rfl) 2147483648 (by
          unfold ptsOf insideF
          simp only [exF_cuts]
          unfold ptOf
          simp [g4,hto]) 2 (by decide) (by decide)
        unfold FallV at h8
        rw [hof_vec exF_net,gof_vec exF_net,exF_vec,hR] at h8
        exact absurd (h8 (by decide)) (by decide)
      · rw [h1] at hc;exact absurd hc.1 (by decide)
  · obtain ⟨h1,h2,k,i,a,best,M,_,g1,g2,g3,_⟩:=h
    rw [exP_vs] at g1
    have:vecOf exP a=[1,2,-1]:=by
      match k,g1 with
      | 0,h=>simpa using h.symm
    exact (exP_line this g3).elim
end Go.Proofs.YtjandnidljbkoaaGreat
