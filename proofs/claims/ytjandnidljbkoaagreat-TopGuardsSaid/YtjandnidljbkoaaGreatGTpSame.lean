/-
  Certificates hang on the vectors alone; the one that is made holds. Plain law.
-/
import Derived.Test.YtjandnidljbkoaaGreatGTpThin
set_option linter.unusedVariables false
namespace Go.Proofs.YtjandnidljbkoaaGreat
open Go.RowKit Go.Th
section
variable {ls ls':List (List Ru)}
theorem hof_vec2 (h:NetOk ls) (h':NetOk ls') (hl:ls.length=ls'.length) {a a':Int} (hv:vecOf ls a=vecOf ls' a'):hof ls a=hof ls' a'∧gof ls a=gof ls' a' :=
  ⟨by rw [hof_vec h,hof_vec h',hv,hl],by rw [gof_vec h,gof_vec h',hv,hl]⟩
theorem sits_eqv {a a' u:Int} {M:Nat} (e:hof ls a=hof ls' a'):sits ls a u M=sits ls' a' u M:=by
  unfold sits
  refine List.map_congr_left fun j _=>?_
  rw [sit_itr,sit_itr,e]
theorem afree_one (h:NetOk ls) (h':NetOk ls') (hl:ls.length=ls'.length) (ha:atomsOf ls=atomsOf ls') {ks ks':List PK} (k:AFree ls ks) (k':AFree ls' ks'):ks=ks':=by
  obtain ⟨l1,e1⟩:=k
  obtain ⟨l2,e2⟩:=k'
  rw [← ha] at l2 e2
  apply List.ext_getElem?
  intro i
  by_cases hi:i < ks.length
  · obtain ⟨q,hq⟩:∃ q,ks[i]? = some q:=⟨_,List.getElem?_eq_getElem hi⟩
    obtain ⟨q',hq'⟩:∃ q,ks'[i]? = some q:=⟨_,List.getElem?_eq_getElem (by omega)⟩
    obtain ⟨x,p,a,f1,f2,f3,f4,f5,f6⟩:=e1 i q hq
    obtain ⟨x',p',a',g1,g2,g3,g4,g5,g6⟩:=e2 i q' hq'
    rw [f1] at g1
    rw [f2] at g2
    injection g1 with g1
    injection g2 with g2
    subst g1 g2
    rw [f3] at g3
    injection g3 with g3
    have r:=rankR_vec h h' hl g3 f6
    have e:=r.one g6
    rw [hq,hq']
    obtain ⟨a1,a2,a3⟩:=q
    obtain ⟨b1,b2,b3⟩:=q'
    simp only at f4 f5 g4 g5 e
    rw [f4,f5,g4,g5,e]
  · rw [List.getElem?_eq_none (by omega),List.getElem?_eq_none (by omega)]
theorem aloop_one (h:NetOk ls) (h':NetOk ls') (hl:ls.length=ls'.length) (ha:atomsOf ls=atomsOf ls') {d d':Int} {tr tr':List Int} (k:ALoop ls d tr) (k':ALoop ls' d' tr'):d=d'∧tr=tr':=by
  obtain ⟨k,i,a,best,M,a1,a2,_,a4,a5,a6,a7,a8,a9,a10⟩:=k
  obtain ⟨k',i',a',best',M',b1,b2,_,b4,b5,b6,b7,b8,b9,b10⟩:=k'
  rw [← ha] at b1 b2 b8 b9 b10
  have hk:k=k':=by
    rcases Nat.lt_trichotomy k k' with e | e | e
    · obtain ⟨c,c1,c2⟩:=b1 k _ e a2
      obtain ⟨g1,g2⟩:=hof_vec2 h h' hl c1
      rw [g1,g2] at a4
      exact absurd a4 (c2 _ _)
    · exact e
    · obtain ⟨c,c1,c2⟩:=a1 k' _ e b2
      obtain ⟨g1,g2⟩:=hof_vec2 h h' hl c1.symm
      rw [← g1,← g2] at b4
      exact absurd b4 (c2 _ _)
  subst hk
  have hi:i=i':=by
    rcases Nat.lt_trichotomy i i' with e | e | e
    · exact absurd a8 (b9 i e)
    · exact e
    · exact absurd b8 (a9 i' e)
  subst hi
  rw [a10] at b10
  rw [a2] at b2
  injection b10 with b10
  injection b2 with b2
  obtain ⟨g1,g2⟩:=hof_vec2 h h' hl b2
  rw [← g1,← g2] at b4 b6
  rw [← g1] at b5
  have hb:best=best':=by
    have:=a6 _ _ b4
    have:=b6 _ _ a4
    omega
  subst hb
  have hM:M=M':=by
    rcases Nat.lt_trichotomy M M' with e | e | e
    · exact absurd a4.back (b5 M a4.pos e)
    · exact e
    · exact absurd b4.back (a5 M' b4.pos e)
  subst hM
  exact ⟨b10,by rw [a7,b7,sits_eqv g1]⟩
theorem afree_aloop (h:NetOk ls) (h':NetOk ls') (hl:ls.length=ls'.length) (ha:atomsOf ls=atomsOf ls') {d:Int} {tr:List Int} {ks:List PK} (k:AFree ls ks) (k':ALoop ls' d tr):False:=by
  obtain ⟨l1,e1⟩:=k
  obtain ⟨k,i,a,best,M,_,a2,_,a4,_,_,_,a8,_,a10⟩:=k'
  rw [← ha] at a2 a8 a10
  obtain ⟨q,hq⟩:∃ q,ks[i]? = some q:=⟨_,List.getElem?_eq_getElem (by rw [l1];exact (List.getElem?_eq_some_iff.1 a10).1)⟩
  obtain ⟨x,p,b,f1,f2,f3,f4,f5,f6⟩:=e1 i q hq
  rw [a8] at f2
  injection f2 with f2
  subst f2
  rw [Int.toNat_natCast,a2] at f3
  injection f3 with f3
  obtain ⟨g1,g2⟩:=hof_vec2 h h' hl f3.symm
  rw [← g1,← g2] at a4
  exact f6.no a4
theorem afree_holds (h:NetOk ls) (h':NetOk ls') (hl:ls.length=ls'.length) (hv:∀ a,0≤a→a≤4294967295→vecOf ls a=vecOf ls' a) {ks:List PK} (k:AFree ls ks):∀ q∈ks,FallP ls' q.2.2 (ptsOf (cutsOf ls') (ptOf q)):=by
  intro q hq y hy u h0 h1 hg
  obtain ⟨i,hi,he⟩:=List.mem_iff_getElem.1 hq
  obtain ⟨x,p,b,f1,f2,f3,f4,f5,f6⟩:=k.2 i q (by rw [List.getElem?_eq_getElem hi,he])
  have hx0:=(atoms_fr h).2 x (List.mem_of_getElem? f1)
  have hyb:x≤y∧y≤endOf (atomsOf ls).fr i∧y≤4294967295:=by
    have hend:=endOf_le h f1
    unfold ptsOf insideF at hy
    rcases List.mem_cons.1 hy with rfl | hy
    · have e:(ptOf q).fr=q.1:=rfl
      rw [e,f4]
      exact ⟨Int.le_refl _,hend.1,by omega⟩
    · have:=(List.mem_filter.1 hy).2
      simp only [decide_eq_true_eq] at this
      have e:(ptOf q).fr=q.1:=rfl
      have e2:(ptOf q).to=q.2.1:=rfl
      rw [e,e2,f4,f5] at this
      omega
  have c:=atoms_const h f1 hyb.1 hyb.2.1
  have hval:=(atOk (vecOf ls) (cutsOf ls)).val i x p f1 f2
  have e3:(atomsOf ls).vs[p.toNat]? = some (vecOf ls x):=hval
  rw [f3] at e3
  injection e3 with e3
  have e4:vecOf ls b=vecOf ls' y:=by rw [e3,← c,hv y (by omega) hyb.2.2]
  have r:=rankR_vec h h' hl e4 f6
  obtain ⟨r1,r2,_,_,_,r5⟩:=r.each u h0 h1
  obtain ⟨s,r6,r7⟩:=r5 hg
  rw [List.getD_eq_getElem?_getD,List.getD_eq_getElem?_getD,r2,r6]
  simp only [Option.getD_some]
  omega
theorem aloop_holds (h:NetOk ls) (h':NetOk ls') (hl:ls.length=ls'.length) (hv:∀ a,0≤a→a≤4294967295→vecOf ls a=vecOf ls' a) {d:Int} {tr:List Int} (k:ALoop ls d tr):TraceP ls' d tr:=by
  obtain ⟨k,i,a,best,M,_,a2,_,a4,_,_,rfl,a8,_,a10⟩:=k
  have hd:=(atoms_fr h).2 d (List.mem_of_getElem? a10)
  have e3:(atomsOf ls).vs[(k:Int).toNat]? = some (vecOf ls d):=(atOk (vecOf ls) (cutsOf ls)).val i d k a10 a8
  rw [Int.toNat_natCast,a2] at e3
  injection e3 with e3
  have e4:vecOf ls a=vecOf ls' d:=by rw [e3,hv d hd.1 hd.2]
  obtain ⟨g1,g2⟩:=hof_vec2 h h' hl e4
  have hp:=a4.pos
  have hlen:=sits_len ls a best M
  refine ⟨fun e=>by rw [e] at hlen;simp at hlen;omega,fun j x hx=>?_⟩
  have hj:j < M:=by have:=(List.getElem?_eq_some_iff.1 hx).1;omega
  have get:∀ j,j < M→(sits ls a best M)[j]? = some (itr (hof ls a) j best):=fun j hj=>by
    unfold sits
    rw [List.getElem?_map,List.getElem?_range hj]
    simp [sit_itr]
  rw [get j hj] at hx
  injection hx with hx
  subst hx
  rw [← g1,← g2]
  refine ⟨a4.goes j hj,?_⟩
  show itr (hof ls a) (j+1) best=_
  unfold nxt
  by_cases e:j+1 < (sits ls a best M).length
  · rw [if_pos e,List.getD_eq_getElem?_getD,get (j+1) (by omega)];rfl
  · rw [if_neg e,List.getD_eq_getElem?_getD,get 0 (by omega),show j+1=M by omega,a4.back];rfl
end
end Go.Proofs.YtjandnidljbkoaaGreat
