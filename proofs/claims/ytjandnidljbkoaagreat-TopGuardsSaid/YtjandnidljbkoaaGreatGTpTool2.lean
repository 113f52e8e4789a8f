/-
  tool.Analyze.
-/
import Derived.Test.YtjandnidljbkoaaGreatGTpTool1
set_option linter.unusedVariables false
namespace Go.Proofs.YtjandnidljbkoaaGreat
open Go.RowKit Go.Th
theorem cyc_apart {h:Int→Int} {g:Int→Bool} {u:Int} {M:Nat} (c:Cyc h g u M) (hm:∀ j,0 < j→j < M→itr h j u≠u) {i j:Nat} (hij:i < j) (hj:j < M):itr h i u≠itr h j u:=fun e=>by
  have h1:=congrArg (itr h (M - j)) e
  rw [← itr_add,← itr_add,show M - j+j=M by omega,c.back] at h1
  exact hm (M - j+i) (by omega) (by omega) h1
theorem sits_nodup {ls:List (List Ru)} {a u:Int} {M:Nat} (c:Cyc (hof ls a) (gof ls a) u M) (hm:∀ j,0 < j→j < M→itr (hof ls a) j u≠u):(sits ls a u M).Nodup:=by
  unfold sits
  rw [List.nodup_iff_pairwise_ne,List.pairwise_map]
  refine List.pairwise_lt_range.imp_of_mem fun {x y} hx hy hlt he=>?_
  rw [sit_itr,sit_itr] at he
  exact cyc_apart c hm hlt (List.mem_range.1 hy) he
theorem sits_len (ls:List (List Ru)) (a u:Int) (M:Nat):(sits ls a u M).length=M:=by simp [sits]
theorem sits_in {ls:List (List Ru)} {a u x:Int} {M:Nat} (c:Cyc (hof ls a) (gof ls a) u M) (hx:x∈sits ls a u M):0≤x∧x < (ls.length:Int):=by
  obtain ⟨t,rfl⟩:=sits_mem hx
  exact gof_in (c.all t)
theorem sits_cyc {ls:List (List Ru)} {a u x:Int} {M:Nat} (c:Cyc (hof ls a) (gof ls a) u M) (hx:x∈sits ls a u M):Cyc (hof ls a) (gof ls a) x M:=by
  obtain ⟨t,rfl⟩:=sits_mem hx
  exact c.shift t
theorem aloop_ok {ls:List (List Ru)} {d:Int} {tr:List Int} (hN:NetOk ls) (h:ALoop ls d tr):CIn 2 [] d tr ls.length∧cmayK 2 [] d tr ls.length=0:=by
  obtain ⟨k,i,a,best,M,_,_,hM,c,hmin,hbest,rfl,_,_,hd⟩:=h
  have hn:=hN.len
  have hdb:=(atoms_fr hN).2 d (List.mem_of_getElem? hd)
  refine ⟨⟨by omega,.inr ⟨rfl,rfl,hdb,by rw [sits_len];omega,fun x hx=>?_⟩⟩,?_⟩
  · have:=sits_in c hx
    omega
  · have hp:=c.pos
    unfold cmayK cmay
    rw [if_neg (by omega),if_pos rfl]
    unfold cloops
    rw [if_neg (by simp),if_neg (by rw [sits_len];omega),if_neg]
    · rw [trgo_zero]
      refine ⟨fun x hx=>⟨by simp,?_⟩,sits_nodup c hmin⟩
      rw [sits_head hp]
      exact hbest x M (sits_cyc c hx)
    · intro e
      obtain ⟨x,hx,hx2⟩:=List.any_eq_true.1 e
      have:=sits_in c hx
      unfold outs at hx2
      simp at hx2
      omega
theorem cuts_head {ls:List (List Ru)} (h:NetOk ls):(cutsOf ls).head? = some 0:=by
  have h1:=cutsOf_sorted ls
  have h2:(0:Int)∈cutsOf ls:=mem_cutsOf.2 (ckeys_zero ls)
  have h3:=cuts_bound h.ok
  cases hc:cutsOf ls with
  | nil=>rw [hc] at h2;cases h2
  | cons x l =>
    rw [hc] at h1 h2 h3
    rcases List.mem_cons.1 h2 with e | h2
    · rw [← e];rfl
    · have:=(List.pairwise_cons.1 h1).1 0 h2
      have:=(h3 x (List.mem_cons_self)).1
      omega
theorem atoms_head {ls:List (List Ru)} (h:NetOk ls):(atomsOf ls).fr.head? = some 0:=by
  rw [← cuts_head h]
  exact (atOk (vecOf ls) (cutsOf ls)).head.symm
theorem afree_meet {ls:List (List Ru)} {ks:List PK} (hN:NetOk ls) (h:AFree ls ks):meetF 0 (ks.map ptOf)=true:=by
  obtain ⟨hl,he⟩:=h
  obtain ⟨hs,hb⟩:=atoms_fr hN
  have hz:=atoms_head hN
  rw [meet_iff]
  have hpt:∀ (j:Nat) (p:Pt),(ks.map ptOf)[j]? = some p→∃ x,(atomsOf ls).fr[j]? = some x∧p.fr=x∧p.to=endOf (atomsOf ls).fr j:=by
    intro j p hp
    rw [List.getElem?_map] at hp
    obtain ⟨k,hk,rfl⟩:=Option.map_eq_some_iff.1 hp
    obtain ⟨x,_,_,h1,_,_,h2,h3,_⟩:=he j k hk
    exact ⟨x,h1,h2,h3⟩
  refine ⟨fun j p hp=>?_,?_⟩
  · obtain ⟨x,h1,h2,h3⟩:=hpt j p hp
    have hj:j < (atomsOf ls).fr.length:=(List.getElem?_eq_some_iff.1 h1).1
    constructor
    · cases j with
      | zero =>
        rw [h2]
        rw [List.head?_eq_getElem?,h1] at hz
        simpa [nextOf] using hz
      | succ j =>
        obtain ⟨q,hq⟩:∃ q,(ks.map ptOf)[j]? = some q:=⟨_,List.getElem?_eq_getElem (by rw [List.length_map,hl];omega)⟩
        obtain ⟨y,_,_,g3⟩:=hpt j q hq
        rw [nextOf_succ hq,g3,h2]
        unfold endOf
        rw [if_pos hj,List.getD_eq_getElem?_getD,h1]
        simp
    · rw [h2,h3]
      have hx:=hb x (List.mem_of_getElem? h1)
      unfold endOf
      by_cases e:j+1 < (atomsOf ls).fr.length
      · rw [if_pos e]
        have hy:(atomsOf ls).fr[j+1]? = some (atomsOf ls).fr[j+1]:=List.getElem?_eq_getElem e
        have h4:=List.pairwise_iff_getElem.1 hs j (j+1) hj e (by omega)
        have h5:(atomsOf ls).fr[j]=x:=by
          have:=List.getElem?_eq_getElem hj
          rw [h1] at this
          injection this with this
          exact this.symm
        rw [List.getD_eq_getElem?_getD,hy]
        simp only [Option.getD_some]
        omega
      · rw [if_neg e];omega
  · have hne:(atomsOf ls).fr≠[]:=fun e=>by rw [e] at hz;cases hz
    obtain ⟨m,hm⟩:∃ m,(ks.map ptOf).length=m+1:=⟨(ks.map ptOf).length - 1,by
      have:=List.length_pos_iff.2 hne
      rw [List.length_map];omega⟩
    rw [hm]
    obtain ⟨q,hq⟩:∃ q,(ks.map ptOf)[m]? = some q:=⟨_,List.getElem?_eq_getElem (by omega)⟩
    obtain ⟨y,_,_,g3⟩:=hpt m q hq
    rw [nextOf_succ hq,g3]
    rw [List.length_map,hl] at hm
    unfold endOf
    rw [if_neg (by omega)]
    rfl
theorem rankR_in {ls:List (List Ru)} {a:Int} {R:List Int} (h:RankR ls a R):∀ x∈R,0≤x∧x < (ls.length:Int):=fun x hx=>by
  obtain ⟨i,hi,rfl⟩:=List.mem_iff_getElem.1 hx
  obtain ⟨r,h1,h2,h3,_⟩:=h.each (i:Int) (by omega) (by rw [← h.len];omega)
  rw [Int.toNat_natCast,List.getElem?_eq_getElem hi] at h1
  injection h1 with h1
  omega
theorem ranks_ok {nodes:Int}:∀ {ps:List Pt},(∀ p∈ps,(p.rk.length:Int)=nodes∧∀ x∈p.rk,0≤x∧x < nodes)→ranks nodes ps=0
  | [],_=>rfl
  | p :: ps,h=>by
    have h1:=h p (List.mem_cons_self)
    rw [ranks,if_neg (by omega),if_neg,ranks_ok fun q hq=>h q (List.mem_cons_of_mem _ hq)]
    intro e
    obtain ⟨x,hx,hx2⟩:=List.any_eq_true.1 e
    have:=h1.2 x hx
    unfold outs at hx2
    simp at hx2
    omega
theorem afree_ok {ls:List (List Ru)} {ks:List PK} (hN:NetOk ls) (h:AFree ls ks):CIn 1 ks 0 [] ls.length∧cmayK 1 ks 0 [] ls.length=0:=by
  have hn:=hN.len
  have hm:=afree_meet hN h
  obtain ⟨hl,he⟩:=h
  have ha:=atoms_len hN
  have hrk:∀ k∈ks,PKin ls.length k∧∀ x∈k.2.2,0≤x∧x < (ls.length:Int):=fun k hk=>by
    obtain ⟨i,hi⟩:=List.mem_iff_getElem?.1 hk
    obtain ⟨x,p,a,h1,_,_,h2,h3,h4⟩:=he i k hi
    have hb:=(atoms_fr hN).2
    have hx:=hb x (List.mem_of_getElem? h1)
    have hi':i < (atomsOf ls).fr.length:=(List.getElem?_eq_some_iff.1 h1).1
    have hin:=rankR_in h4
    refine ⟨⟨by omega,?_,by rw [h4.len],fun y hy=>by have:=hin y hy;omega⟩,hin⟩
    rw [h3]
    unfold endOf
    by_cases e:i+1 < (atomsOf ls).fr.length
    · rw [if_pos e,List.getD_eq_getElem?_getD,List.getElem?_eq_getElem e]
      have h5:=List.pairwise_iff_getElem.1 (atoms_fr hN).1 i (i+1) hi' e (by omega)
      have h6:=hb _ (List.getElem_mem e)
      have h7:=hb _ (List.getElem_mem hi')
      simp only [Option.getD_some]
      omega
    · rw [if_neg e];omega
  refine ⟨⟨by omega,.inl ⟨rfl,rfl,rfl,by omega,fun k hk=>(hrk k hk).1⟩⟩,?_⟩
  unfold cmayK cmay
  rw [if_pos rfl]
  unfold cfree
  rw [if_neg (by simp),if_neg (by rw [List.length_map];omega),if_neg (by rw [hm];simp)]
  refine ranks_ok fun p hp=>?_
  obtain ⟨k,hk,rfl⟩:=List.mem_map.1 hp
  exact ⟨(hrk k hk).1.2.2.1,(hrk k hk).2⟩
theorem pbodies_short {nodes:Int} (hn:nodes≤256):∀ {ks:List PK},(∀ k∈ks,PKin nodes k)→(pbodies ks).length≤1032 * ks.length
  | [],_=>by simp [pbodies]
  | k :: ks,h=>by
    have h1:=pbodies_short hn fun q hq=>h q (List.mem_cons_of_mem _ hq)
    have h2:=(h k List.mem_cons_self).2.2.1
    have h3:=gN_len k.2.2
    have e:pbodies (k :: ks)=pbody k ++ pbodies ks:=by simp [pbodies]
    rw [e,List.length_append,List.length_cons]
    have e2:(pbody k).length=8+(gN k.2.2).length:=by unfold pbody;rw [List.length_append,List.length_append,be_length,be_length];omega
    rw [e2]
    omega
end Go.Proofs.YtjandnidljbkoaaGreat
