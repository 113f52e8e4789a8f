/-
  graph.Ranks: the plain law: in which order nodes are met, and how far each is from an end.
-/
import Derived.Test.YtjandnidljbkoaaGreatGTpBack
set_option linter.unusedVariables false
namespace Go.Proofs.YtjandnidljbkoaaGreat
open Go.RowKit Go.Th
structure BfsI (ls:List (List Ru)) (a:Int) (S:List Int) (d e:Nat) (R:List Int):Prop where
  rng:∀ u∈S,0≤u∧u < (ls.length:Int)
  nd:S.Nodup
  len:R.length=ls.length
  par:∀ (i:Nat) (u:Int),S[i]? = some u→∃ r,R[u.toNat]? = some r∧0≤r∧r≤(i:Int)∧((gof ls a u=false∧r=0)∨(gof ls a u=true∧∃ j s,j < i∧j < e∧S[j]? = some (hof ls a u)∧R[(hof ls a u).toNat]? = some s∧r=s+1))
  cls:∀ (j:Nat) (x:Int),j < d→S[j]? = some x→∀ u,gof ls a u=true→hof ls a u=x→u∈S
  snk:∀ u,0≤u→u < (ls.length:Int)→gof ls a u=false→u∈S
section
variable {ls:List (List Ru)} {a:Int} {S R:List Int} {d e:Nat}
theorem BfsI.le (h:BfsI ls a S d e R):S.length≤ls.length:=by
  have:=nodup_le ls.length (S.map Int.toNat) (by
    rw [List.nodup_iff_pairwise_ne,List.pairwise_map]
    exact (List.nodup_iff_pairwise_ne.1 h.nd).imp_of_mem (fun {x y} hx hy hne e=>hne (by have:=h.rng x hx;have:=h.rng y hy;omega))) (fun x hx=>by
    obtain ⟨u,hu,rfl⟩:=List.mem_map.1 hx
    have:=h.rng u hu
    omega)
  rwa [List.length_map] at this
theorem vec_neg {ls:List (List Ru)} {a:Int} (hN:NetOk ls) {k:Nat}:(vecOf ls a)[k]? = some (-1)↔k < ls.length∧gof ls a (k:Int)=false:=by
  constructor
  · intro h
    have hk:k < ls.length:=by have:=(List.getElem?_eq_some_iff.1 h).1;rwa [vec_len] at this
    have h2:=vec_at (ls:=ls) a (u:=(k:Int)) (by omega)
    rw [Int.toNat_natCast,h] at h2
    refine ⟨hk,?_⟩
    cases hg:gof ls a (k:Int) with
    | false=>rfl
    | true =>
      rw [if_pos hg] at h2
      have:=inn_of_may (a:=a) hN.rule _ hg
      injection h2 with h2
      omega
  · rintro ⟨hk,hg⟩
    have h2:=vec_at (ls:=ls) a (u:=(k:Int)) (by omega)
    rw [Int.toNat_natCast,if_neg (by rw [hg];simp)] at h2
    exact h2
theorem vec_pos {ls:List (List Ru)} {a:Int} {k:Nat} {x:Int} (hx:0≤x):(vecOf ls a)[k]? = some x↔gof ls a (k:Int)=true∧hof ls a (k:Int)=x:=by
  constructor
  · intro h
    have hk:k < ls.length:=by have:=(List.getElem?_eq_some_iff.1 h).1;rwa [vec_len] at this
    have h2:=vec_at (ls:=ls) a (u:=(k:Int)) (by omega)
    rw [Int.toNat_natCast,h] at h2
    cases hg:gof ls a (k:Int) with
    | false=>rw [hg] at h2;injection h2 with h2;simp at h2;omega
    | true=>rw [if_pos hg] at h2;injection h2 with h2;exact ⟨rfl,h2.symm⟩
  · rintro ⟨hg,rfl⟩
    have h2:=vec_go hg
    rwa [Int.toNat_natCast] at h2
theorem BfsI.start (hN:NetOk ls):BfsI ls a (idxs (vecOf ls a) (-1)) 0 0 (List.replicate ls.length 0):=by
  have hm:∀ u,u∈idxs (vecOf ls a) (-1)↔∃ k:Nat,u=(k:Int)∧k < ls.length∧gof ls a (k:Int)=false:=fun u=>by
    rw [idxs_mem]
    constructor
    · rintro ⟨k,rfl,h⟩;exact ⟨k,rfl,(vec_neg hN).1 h⟩
    · rintro ⟨k,rfl,h⟩;exact ⟨k,rfl,(vec_neg hN).2 h⟩
  refine ⟨fun u hu=>?_,idxs_nodup _ _,by simp,fun i u hu=>?_,fun j x hj=>absurd hj (by omega),fun u h0 h1 hg=>?_⟩
  · obtain ⟨k,rfl,hk,_⟩:=(hm u).1 hu
    omega
  · obtain ⟨k,rfl,hk,hg⟩:=(hm u).1 (List.mem_of_getElem? hu)
    exact ⟨0,by rw [Int.toNat_natCast,List.getElem?_replicate,if_pos hk],Int.le_refl _,by omega,.inl ⟨hg,rfl⟩⟩
  · exact (hm u).2 ⟨u.toNat,by omega,by omega,by rw [Int.toNat_of_nonneg h0];exact hg⟩
theorem BfsI.new (h:BfsI ls a S d d R) {x u:Int} (hx:S[d]? = some x) (hg:gof ls a u=true) (hu:hof ls a u=x):u ∉ S:=fun hm=>by
  obtain ⟨i,hi⟩:=List.mem_iff_getElem?.1 hm
  obtain ⟨r,_,_,_,h1 | ⟨_,j,s,hj,hjd,hS,_⟩⟩:=h.par i u hi
  · rw [h1.1] at hg;cases hg
  · rw [hu,← hx] at hS
    have hdl:=(List.getElem?_eq_some_iff.1 hx).1
    have:=(List.getElem?_inj (by omega) h.nd).1 hS
    omega
theorem BfsI.wider (h:BfsI ls a S d e R) {e':Nat} (he:e≤e'):BfsI ls a S d e' R :=
  ⟨h.rng,h.nd,h.len,fun i u hu=>by
    obtain ⟨r,h1,h2,h3,h4⟩:=h.par i u hu
    refine ⟨r,h1,h2,h3,h4.imp id fun ⟨h5,j,s,h6,h7,h8⟩=>⟨h5,j,s,h6,by omega,h8⟩⟩,h.cls,h.snk⟩
theorem BfsI.step (h:BfsI ls a S d (d+1) R) {x u s:Int} (hx:S[d]? = some x) (hg:gof ls a u=true) (hu:hof ls a u=x) (hs:R[x.toNat]? = some s) (hm:u ∉ S) :
    BfsI ls a (S ++ [u]) d (d+1) (R.set u.toNat (s+1)):=by
  have hr:=gof_in hg
  have hdl:=(List.getElem?_eq_some_iff.1 hx).1
  have ne:∀ y∈S,y≠u:=fun y hy e=>hm (e ▸ hy)
  have keep:∀ y∈S,(R.set u.toNat (s+1))[y.toNat]? = R[y.toNat]?:=fun y hy=>by
    rw [List.getElem?_set_ne]
    have:=h.rng y hy
    have:=ne y hy
    omega
  have hxm:=List.mem_of_getElem? hx
  have old:∀ (j:Nat) (y:Int),S[j]? = some y→(S ++ [u])[j]? = some y:=fun j y hj=>by
    rw [List.getElem?_append_left (List.getElem?_eq_some_iff.1 hj).1];exact hj
  refine ⟨fun y hy=>?_,?_,by rw [List.length_set];exact h.len,fun i y hy=>?_,fun j y hj hy z hz hzy=>?_,fun y h0 h1 h2=>List.mem_append_left _ (h.snk y h0 h1 h2)⟩
  · rcases List.mem_append.1 hy with hy | hy
    · exact h.rng y hy
    · rw [List.mem_singleton.1 hy];exact hr
  · rw [List.nodup_append]
    exact ⟨h.nd,by simp,fun y hy z hz=>by rw [List.mem_singleton.1 hz];exact ne y hy⟩
  · by_cases hi:i < S.length
    · rw [List.getElem?_append_left hi] at hy
      obtain ⟨r,h1,h2,h3,h4⟩:=h.par i y hy
      refine ⟨r,by rw [keep y (List.mem_of_getElem? hy)];exact h1,h2,h3,h4.imp id fun ⟨h5,j,t,h6,h7,h8,h9,h10⟩=>⟨h5,j,t,h6,h7,old j _ h8,by rw [keep _ (List.mem_of_getElem? h8)];exact h9,h10⟩⟩
    · have hl:=(List.getElem?_eq_some_iff.1 hy).1
      rw [List.length_append,List.length_singleton] at hl
      obtain rfl:i=S.length:=by omega
      rw [List.getElem?_append_right (Nat.le_refl _),Nat.sub_self] at hy
      injection hy with hy
      subst hy
      obtain ⟨r,h1,h2,h3,h4⟩:=h.par d x hx
      rw [hs] at h1
      injection h1 with h1
      subst h1
      refine ⟨s+1,by rw [List.getElem?_set_self (by rw [h.len];omega)],by omega,by omega,.inr ⟨hg,d,s,hdl,by omega,by rw [hu];exact old d x hx,by rw [hu,keep x hxm];exact hs,rfl⟩⟩
  · have hjl:j < S.length:=by omega
    rw [List.getElem?_append_left hjl] at hy
    exact List.mem_append_left _ (h.cls j y hj hy z hz hzy)
theorem BfsI.close (h:BfsI ls a S d (d+1) R) {x:Int} (hx:S[d]? = some x) (hall:∀ u,gof ls a u=true→hof ls a u=x→u∈S):BfsI ls a S (d+1) (d+1) R :=
  ⟨h.rng,h.nd,h.len,h.par,fun j y hj hy=>by
    by_cases e:j=d
    · subst e
      rw [hx] at hy
      injection hy with hy
      subst hy
      exact hall
    · exact h.cls j y (by omega) hy,h.snk⟩
structure RankR (ls:List (List Ru)) (a:Int) (R:List Int):Prop where
  len:R.length=ls.length
  each:∀ u,0≤u→u < (ls.length:Int)→∃ r,R[u.toNat]? = some r∧0≤r∧r < (ls.length:Int)∧(gof ls a u=false→r=0)∧(gof ls a u=true→∃ s,R[(hof ls a u).toNat]? = some s∧r=s+1)
theorem all_met (hn:S.Nodup) (hr:∀ u∈S,0≤u∧u < (ls.length:Int)) (hl:ls.length≤S.length) {u:Int} (h0:0≤u) (h1:u < (ls.length:Int)):u∈S:=by
  by_cases hm:u∈S
  · exact hm
  · exfalso
    have:=nodup_le ls.length ((u :: S).map Int.toNat) (by
      rw [List.nodup_iff_pairwise_ne,List.pairwise_map]
      have h2:(u :: S).Nodup:=List.nodup_cons.2 ⟨hm,hn⟩
      have h3:∀ y∈u :: S,0≤y:=fun y hy=>by
        rcases List.mem_cons.1 hy with rfl | hy
        · exact h0
        · exact (hr y hy).1
      exact (List.nodup_iff_pairwise_ne.1 h2).imp_of_mem (fun {x y} hx hy hne e=>hne (by have:=h3 x hx;have:=h3 y hy;omega))) (fun x hx=>by
      obtain ⟨y,hy,rfl⟩:=List.mem_map.1 hx
      rcases List.mem_cons.1 hy with rfl | hy
      · omega
      · have:=hr y hy;omega)
    rw [List.length_map,List.length_cons] at this
    omega
theorem BfsI.ranks (h:BfsI ls a S d e R) (hl:ls.length≤S.length):RankR ls a R:=by
  refine ⟨h.len,fun u h0 h1=>?_⟩
  obtain ⟨i,hi⟩:=List.mem_iff_getElem?.1 (all_met h.nd h.rng hl h0 h1)
  have hil:=(List.getElem?_eq_some_iff.1 hi).1
  have hle:=h.le
  obtain ⟨r,h2,h3,h4,h5⟩:=h.par i u hi
  refine ⟨r,h2,h3,by omega,fun hg=>?_,fun hg=>?_⟩
  · rcases h5 with h5 | h5
    · exact h5.2
    · rw [hg] at h5;cases h5.1
  · rcases h5 with h5 | ⟨_,j,s,_,_,_,h6,h7⟩
    · rw [hg] at h5;cases h5.1
    · exact ⟨s,h6,h7⟩
theorem BfsI.round (hN:NetOk ls) (h:BfsI ls a S S.length e R) (hl:S.length < ls.length):∃ u L,Cyc (hof ls a) (gof ls a) u L:=by
  have hI:=inn_of_may (a:=a) hN.rule
  have hex:∃ u,0≤u∧u < (ls.length:Int)∧u ∉ S:=by
    by_cases hx:∃ u,0≤u∧u < (ls.length:Int)∧u ∉ S
    · exact hx
    · exfalso
      have hall:∀ k,k < ls.length→(k:Int)∈S:=fun k hk=>by
        by_cases hm:(k:Int)∈S
        · exact hm
        · exact absurd ⟨(k:Int),by omega,by omega,hm⟩ hx
      have:=nodup_le S.length ((List.range ls.length).map fun k:Nat=>S.idxOf (k:Int)) (by
        rw [List.nodup_iff_pairwise_ne,List.pairwise_map]
        refine List.pairwise_lt_range.imp_of_mem fun {x y} hx hy hlt he=>?_
        have h1:=hall x (List.mem_range.1 hx)
        have h2:=hall y (List.mem_range.1 hy)
        have h3:=List.getElem_idxOf (List.idxOf_lt_length_iff.2 h1)
        have h4:=List.getElem_idxOf (List.idxOf_lt_length_iff.2 h2)
        simp only [he] at h3
        rw [h4] at h3
        omega) (fun x hx=>by
        obtain ⟨k,hk,rfl⟩:=List.mem_map.1 hx
        exact List.idxOf_lt_length_iff.2 (hall k (List.mem_range.1 hk)))
      rw [List.length_map,List.length_range] at this
      omega
  obtain ⟨u,h0,h1,hm⟩:=hex
  have hgo:∀ y,0≤y→y < (ls.length:Int)→y ∉ S→gof ls a y=true∧hof ls a y ∉ S:=fun y hy0 hy1 hy=>by
    have hg:gof ls a y=true:=by
      cases hg:gof ls a y with
      | true=>rfl
      | false=>exact absurd (h.snk y hy0 hy1 hg) hy
    refine ⟨hg,fun hh=>?_⟩
    obtain ⟨j,hj⟩:=List.mem_iff_getElem?.1 hh
    exact hy (h.cls j _ (List.getElem?_eq_some_iff.1 hj).1 hj y hg rfl)
  have hw:∀ k,(0≤itr (hof ls a) k u∧itr (hof ls a) k u < (ls.length:Int))∧itr (hof ls a) k u ∉ S:=by
    intro k
    induction k with
    | zero=>exact ⟨⟨h0,h1⟩,hm⟩
    | succ k ih =>
      obtain ⟨hg,hn⟩:=hgo _ ih.1.1 ih.1.2 ih.2
      exact ⟨hI _ hg,hn⟩
  obtain ⟨L,_,c⟩:=long_round hI ⟨h0,h1⟩ (fun j _=>(hgo _ (hw j).1.1 (hw j).1.2 (hw j).2).1)
  exact ⟨_,L,c⟩
theorem RankR.no (h:RankR ls a R) {u:Int} {L:Nat} (c:Cyc (hof ls a) (gof ls a) u L):False:=by
  have key:∀ k,∃ r,R[(itr (hof ls a) k u).toNat]? = some r∧0≤r∧∃ r0,R[u.toNat]? = some r0∧r+(k:Int)=r0:=by
    intro k
    induction k with
    | zero =>
      have hi:=gof_in (c.all 0)
      obtain ⟨r,h1,h2,_⟩:=h.each _ hi.1 hi.2
      exact ⟨r,h1,h2,r,h1,by simp⟩
    | succ k ih =>
      obtain ⟨r,h1,h2,r0,h3,h4⟩:=ih
      have hg:=c.all k
      have hi:=gof_in hg
      obtain ⟨r',h5,_,_,_,h6⟩:=h.each _ hi.1 hi.2
      rw [h1] at h5
      injection h5 with h5
      subst h5
      obtain ⟨s,h7,h8⟩:=h6 hg
      have hi2:=gof_in (c.all (k+1))
      obtain ⟨s',h9,h10,_⟩:=h.each _ hi2.1 hi2.2
      have h7':R[(itr (hof ls a) (k+1) u).toNat]? = some s:=h7
      rw [h7'] at h9
      injection h9 with h9
      subst h9
      exact ⟨s,h7',h10,r0,h3,by omega⟩
  obtain ⟨r,h1,_,r0,h3,h4⟩:=key L
  rw [c.back,h3] at h1
  injection h1 with h1
  have:=c.pos
  omega
theorem RankR.one {R':List Int} (h:RankR ls a R) (h':RankR ls a R'):R=R':=by
  have key:∀ (m:Nat) (u r:Int),r=(m:Int)→0≤u→u < (ls.length:Int)→R[u.toNat]? = some r→R'[u.toNat]? = some r:=by
    intro m
    induction m with
    | zero =>
      intro u r hr h0 h1 hu
      obtain ⟨r1,h2,_,_,h3,h4⟩:=h.each u h0 h1
      obtain ⟨r2,h5,h6,_,h7,h8⟩:=h'.each u h0 h1
      rw [hu] at h2
      injection h2 with h2
      subst h2
      cases hg:gof ls a u with
      | false=>rw [h5,h7 hg,hr];rfl
      | true =>
        obtain ⟨s,h9,h10⟩:=h4 hg
        have hi:0≤s:=by
          obtain ⟨s',h11,h12,_⟩:∃ s',R[(hof ls a u).toNat]? = some s'∧0≤s'∧True:=by
            by_cases hh:0≤hof ls a u∧hof ls a u < (ls.length:Int)
            · obtain ⟨s',e1,e2,_⟩:=h.each _ hh.1 hh.2
              exact ⟨s',e1,e2,trivial⟩
            · have hl:=(List.getElem?_eq_some_iff.1 h9).1
              rw [h.len] at hl
              by_cases h0':0≤hof ls a u
              · omega
              · have e0:(hof ls a u).toNat=0:=by omega
                have:=h.each 0 (by omega) (by omega)
                obtain ⟨s',e1,e2,_⟩:=this
                exact ⟨s',by rw [e0];exact e1,e2,trivial⟩
          rw [h9] at h11
          injection h11 with h11
          omega
        omega
    | succ m ih =>
      intro u r hr h0 h1 hu
      obtain ⟨r1,h2,_,_,h3,h4⟩:=h.each u h0 h1
      obtain ⟨r2,h5,h6,_,h7,h8⟩:=h'.each u h0 h1
      rw [hu] at h2
      injection h2 with h2
      subst h2
      cases hg:gof ls a u with
      | false=>have:=h3 hg;omega
      | true =>
        obtain ⟨s,h9,h10⟩:=h4 hg
        obtain ⟨t,h11,h12⟩:=h8 hg
        have hl:=(List.getElem?_eq_some_iff.1 h9).1
        rw [h.len] at hl
        have h13:R'[(hof ls a u).toNat]? = some s:=by
          have:=ih (((hof ls a u).toNat:Nat):Int) s (by omega) (by omega) (by omega) (by rw [Int.toNat_natCast];exact h9)
          rwa [Int.toNat_natCast] at this
        rw [h11] at h13
        injection h13 with h13
        rw [h5,h12,h13,h10]
  apply List.ext_getElem?
  intro i
  by_cases hi:i < ls.length
  · obtain ⟨r,h1,h2,_⟩:=h.each (i:Int) (by omega) (by omega)
    have:=key r.toNat (i:Int) r (by omega) (by omega) (by omega) h1
    rw [Int.toNat_natCast] at h1 this
    rw [h1,this]
  · rw [List.getElem?_eq_none (by rw [h.len];omega),List.getElem?_eq_none (by rw [h'.len];omega)]
end
end Go.Proofs.YtjandnidljbkoaaGreat
