/-
  A rule more that says what is found there without it: plain law.
-/
import Derived.Test.YtjandnidljbkoaaGreatGTpSame
import Derived.Test.YtjandnidljbkoaaGreatGTpMade
set_option linter.unusedVariables false
namespace Go.Th
def insR (x:Ru):List Ru→List Ru
  | []=>[x]
  | y :: l=>if x.cmp y < 0 then x :: y :: l else y :: insR x l
theorem mem_insR {x z:Ru}:∀ {l:List Ru},z∈insR x l↔z=x∨z∈l
  | []=>by simp [insR]
  | y :: l=>by
    unfold insR
    split
    · simp
    · rw [List.mem_cons,mem_insR,List.mem_cons]
      constructor
      · rintro (h | h | h)
        · exact .inr (.inl h)
        · exact .inl h
        · exact .inr (.inr h)
      · rintro (h | h | h)
        · exact .inr (.inl h)
        · exact .inl h
        · exact .inr (.inr h)
theorem insR_len (x:Ru):∀ l:List Ru,(insR x l).length=l.length+1
  | []=>rfl
  | y :: l=>by
    unfold insR
    split
    · rfl
    · rw [List.length_cons,insR_len x l,List.length_cons]
theorem insR_sorted {x:Ru}:∀ {l:List Ru},Sorted l→(∀ y∈l,x.cmp y≠0)→Sorted (insR x l)
  | [],_,_=>List.pairwise_singleton _ _
  | y :: l,hs,hx=>by
    obtain ⟨h1,h2⟩:=List.pairwise_cons.1 hs
    unfold insR
    split
    · rename_i hlt
      refine List.pairwise_cons.2 ⟨fun z hz=>?_,hs⟩
      rcases List.mem_cons.1 hz with rfl | hz
      · exact hlt
      · exact Ru.cmp_trans hlt (h1 z hz)
    · rename_i hge
      refine List.pairwise_cons.2 ⟨fun z hz=>?_,insR_sorted h2 fun z hz=>hx z (by simp [hz])⟩
      rcases mem_insR.1 hz with rfl | hz
      · have:=hx y (by simp)
        have:=Ru.cmp_neg y z
        have:=Ru.cmp_vals z y
        omega
      · exact h1 z hz
theorem insR_last {x:Ru}:∀ {t:List Ru},(∀ y∈t,¬ x.cmp y < 0)→insR x t=t ++ [x]
  | [],_=>rfl
  | y :: t,h=>by
    unfold insR
    rw [if_neg (h y (by simp)),insR_last fun z hz=>h z (by simp [hz])]
    rfl
theorem insR_new {x y:Ru} (hy:x.cmp y < 0):∀ {t:List Ru},(∀ y∈t,¬ x.cmp y < 0)→insR x (t ++ [y])=t ++ [x,y]
  | [],_=>by simp [insR,hy]
  | z :: t,h=>by
    rw [List.cons_append,insR,if_neg (h z (by simp)),insR_new hy fun q hq=>h q (by simp [hq])]
    rfl
theorem insR_snoc {x y:Ru}:∀ {t:List Ru},(∃ z∈t,x.cmp z < 0)→insR x (t ++ [y])=insR x t ++ [y]
  | [],h=>by obtain ⟨z,hz,_⟩:=h;cases hz
  | z :: t,h=>by
    rw [List.cons_append,insR,insR]
    by_cases hz:x.cmp z < 0
    · rw [if_pos hz,if_pos hz];rfl
    · rw [if_neg hz,if_neg hz,insR_snoc]
      · rfl
      · obtain ⟨q,hq,h1⟩:=h
        rcases List.mem_cons.1 hq with rfl | hq
        · exact absurd h1 hz
        · exact ⟨q,hq,h1⟩
def Gr (x:Ru) (l:List Ru) (j:Nat) (put:Bool) (row:List Ru):Prop :=
  (put=false∧row=l.take j∧∀ y∈l.take j,¬ x.cmp y < 0)∨(put=true∧(∃ z∈l.take j,x.cmp z < 0)∧row=insR x (l.take j))
section
variable {x y:Ru} {l row:List Ru} {j:Nat}
theorem Gr.zero (x:Ru) (l:List Ru):Gr x l 0 false []:=.inl ⟨rfl,rfl,by simp⟩
theorem Gr.new (h:Gr x l j false row) (hy:l[j]? = some y) (hlt:x.cmp y < 0):Gr x l (j+1) true ((row ++ [x]) ++ [y]):=by
  rcases h with ⟨_,rfl,h2⟩ | ⟨h1,_⟩
  · refine .inr ⟨rfl,⟨y,?_,hlt⟩,?_⟩
    · rw [take_more hy];simp
    · rw [take_more hy,insR_new hlt h2];simp
  · cases h1
theorem Gr.skip (h:Gr x l j false row) (hy:l[j]? = some y) (hge:¬ x.cmp y < 0):Gr x l (j+1) false (row ++ [y]):=by
  rcases h with ⟨_,rfl,h2⟩ | ⟨h1,_⟩
  · refine .inl ⟨rfl,by rw [take_more hy],fun z hz=>?_⟩
    rw [take_more hy] at hz
    rcases List.mem_append.1 hz with hz | hz
    · exact h2 z hz
    · rw [List.mem_singleton.1 hz];exact hge
  · cases h1
theorem Gr.on (h:Gr x l j true row) (hy:l[j]? = some y):Gr x l (j+1) true (row ++ [y]):=by
  rcases h with ⟨h1,_⟩ | ⟨_,⟨z,hz,hlt⟩,rfl⟩
  · cases h1
  · refine .inr ⟨rfl,⟨z,?_,hlt⟩,?_⟩
    · rw [take_more hy];simp [hz]
    · rw [take_more hy,insR_snoc ⟨z,hz,hlt⟩]
theorem Gr.fin (h:Gr x l l.length true row):row=insR x l:=by
  rcases h with ⟨h1,_⟩ | ⟨_,_,rfl⟩
  · cases h1
  · rw [List.take_length]
theorem Gr.fin' (h:Gr x l l.length false row):row ++ [x]=insR x l:=by
  rcases h with ⟨_,rfl,h2⟩ | ⟨h1,_⟩
  · rw [List.take_length] at h2 ⊢
    exact (insR_last h2).symm
  · cases h1
theorem Gr.len {put:Bool} (h:Gr x l j put row) (hj:j≤l.length):row.length≤j+1:=by
  rcases h with ⟨_,rfl,_⟩ | ⟨_,_,rfl⟩
  · rw [List.length_take];omega
  · rw [insR_len,List.length_take];omega
end
theorem head_less {a b n m:Int} (h0:0≤n) (hnm:n≤m) (hm:m≤32) (h:head a m=head b m):head a n=head b n:=by
  obtain ⟨n,rfl⟩:=Int.eq_ofNat_of_zero_le h0
  obtain ⟨m,rfl⟩:=Int.eq_ofNat_of_zero_le (show 0≤m by omega)
  rw [head_hd a (by omega),head_hd b (by omega)] at h ⊢
  exact hd_less (by omega) (by omega) h
theorem head_lead {a n m:Int} (h0:0≤n) (hnm:n≤m) (hm:m≤32):head (lead a m) n=head a n:=by
  obtain ⟨n,rfl⟩:=Int.eq_ofNat_of_zero_le h0
  obtain ⟨m,rfl⟩:=Int.eq_ofNat_of_zero_le (show 0≤m by omega)
  rw [ld_lead a (by omega),head_hd _ (by omega),head_hd a (by omega)]
  exact hd_ld (by omega) (by omega)
structure MoreC (l:List Ru) (r x:Ru) (a m:Int):Prop where
  good:GoodT l
  ha:0≤a∧a≤4294967295
  find:tfind l a=(r,true)
  hm:r.n < m∧m≤32
  hx:x=⟨lead a m,m,r.act,r.next⟩
  none:∀ y∈l,¬ (r.n < y.n∧Th.holds r.a r.n y.a=true)
section
variable {l:List Ru} {r x:Ru} {a m:Int}
theorem MoreC.best (h:MoreC l r x a m):r∈l∧r.holds a=true∧∀ q∈l,q.holds a=true→q.n≤r.n:=by
  have:=tfind_best l a
  rw [h.find] at this
  exact this.2 rfl
theorem MoreC.n0 (h:MoreC l r x a m):0≤r.n:=(h.good.pre r h.best.1).n0
theorem MoreC.pre (h:MoreC l r x a m):x.Pre:=by
  have h1:=h.good.pre r h.best.1
  have h2:=h.hm
  have h3:=h.n0
  have h4:=h.ha
  have ok:=h1.ok
  have hl:0≤lead a m∧lead a m≤a:=by
    unfold lead
    have:=Nat.div_mul_le_self a.toNat (2 ^ sh m)
    omega
  rw [h.hx]
  exact ⟨⟨⟨hl.1,by simp only;omega⟩,by simp only;omega,ok.act,ok.next⟩,by simp only;omega,by simp only;omega,lead_mod _ _⟩
theorem MoreC.apart (h:MoreC l r x a m):∀ y∈l,x.cmp y≠0:=by
  intro y hy he
  obtain ⟨e1,e2⟩:=(Ru.cmp_zero x y).1 he
  have hm:=h.hm
  rw [h.hx] at e1 e2
  simp only at e1 e2
  refine h.none y hy ⟨by omega,?_⟩
  have hb:=of_decide_eq_true h.best.2.1
  unfold Th.holds
  rw [← e1,head_lead h.n0 (by omega) hm.2]
  exact decide_eq_true hb
theorem MoreC.good' (h:MoreC l r x a m):GoodT (insR x l):=by
  refine ⟨fun q hq=>?_,insR_sorted h.good.sorted h.apart⟩
  rcases mem_insR.1 hq with rfl | hq
  · exact h.pre
  · exact h.good.pre q hq
theorem MoreC.find' (h:MoreC l r x a m) (b:Int):(x.holds b=false∧tfind (insR x l) b=tfind l b)∨(tfind l b=(r,true)∧tfind (insR x l) b=(x,true)):=by
  have hm:=h.hm
  obtain ⟨b1,b2,b3⟩:=h.best
  cases hx:x.holds b with
  | false =>
    refine .inl ⟨rfl,h.good'.best ?_⟩
    obtain ⟨c1,c2⟩:=tfind_best l b
    refine ⟨fun e=>⟨(c1 e).1,fun q hq=>?_⟩,fun e=>?_⟩
    · rcases mem_insR.1 hq with rfl | hq
      · exact hx
      · exact (c1 e).2 q hq
    · obtain ⟨d1,d2,d3⟩:=c2 e
      refine ⟨mem_insR.2 (.inr d1),d2,fun q hq hh=>?_⟩
      rcases mem_insR.1 hq with rfl | hq
      · rw [hx] at hh;cases hh
      · exact d3 q hq hh
  | true =>
    right
    have hxb:head (lead a m) m=head b m:=by
      have:=of_decide_eq_true hx
      rw [h.hx] at this
      exact this
    have hab:head a m=head b m:=by rw [← hxb,head_lead (by have:=h.n0;omega) (Int.le_refl _) hm.2]
    have hr:r.holds b=true:=by
      have:=of_decide_eq_true b2
      refine decide_eq_true ?_
      rw [this]
      exact head_less h.n0 (by omega) hm.2 hab
    have hlow:∀ q∈l,q.holds b=true→q.n≤r.n:=fun q hq hh=>by
      by_cases e:q.n≤r.n
      · exact e
      · exfalso
        refine h.none q hq ⟨by omega,?_⟩
        have e1:=of_decide_eq_true hr
        have e2:=of_decide_eq_true hh
        have hq1:=(h.good.pre q hq).n1
        refine decide_eq_true ?_
        rw [e1]
        exact (head_less h.n0 (by omega) hq1 e2).symm
    refine ⟨h.good.best ⟨(fun e=>by cases e),fun _=>⟨b1,hr,hlow⟩⟩,h.good'.best ⟨(fun e=>by cases e),fun _=>⟨mem_insR.2 (.inl rfl),hx,fun q hq hh=>?_⟩⟩⟩
    rcases mem_insR.1 hq with rfl | hq
    · exact Int.le_refl _
    · have:=hlow q hq hh
      have e:x.n=m:=by rw [h.hx]
      show q.n≤x.n
      omega
theorem MoreC.may (h:MoreC l r x a m) {nodes:Int} (hr:∀ q∈l,q.may nodes=0):∀ q∈insR x l,q.may nodes=0:=by
  intro q hq
  rcases mem_insR.1 hq with rfl | hq
  · have h1:=hr r h.best.1
    have hp:=h.pre
    have hpm:pmay q.a q.n=0:=by
      unfold pmay
      rw [if_neg (by have:=hp.n0;have:=hp.n1;omega),if_pos hp.host]
    have hrp:pmay r.a r.n=0:=by
      have hp:=h.good.pre r h.best.1
      unfold pmay
      rw [if_neg (by have:=hp.n0;have:=hp.n1;omega),if_pos hp.host]
    have ea:q.act=r.act:=by rw [h.hx]
    have en:q.next=r.next:=by rw [h.hx]
    unfold Ru.may at h1 ⊢
    rw [hpm,ea,en]
    rw [hrp] at h1
    exact h1
  · exact hr q hq
end
end Go.Th
namespace Go.Proofs.YtjandnidljbkoaaGreat
open Go.RowKit Go.Th
section
variable {ls:List (List Ru)} {l:List Ru} {r x:Ru} {a m:Int} {v:Nat}
theorem MoreC.vent (h:MoreC l r x a m) (b:Int):vent (tfind (insR x l) b)=vent (tfind l b):=by
  rcases h.find' b with ⟨_,e⟩ | ⟨e1,e2⟩
  · rw [e]
  · rw [e1,e2]
    unfold Go.Proofs.YtjandnidljbkoaaGreat.vent
    rw [h.hx]
theorem more_vec (h:MoreC l r x a m) (hv:ls[v]? = some l) (b:Int):vecOf (ls.set v (insR x l)) b=vecOf ls b:=by
  unfold vecOf
  apply List.ext_getElem?
  intro i
  rw [List.getElem?_map,List.getElem?_map,List.getElem?_set]
  by_cases e:v=i
  · subst e
    rw [if_pos rfl,if_pos (List.getElem?_eq_some_iff.1 hv).1,hv]
    simp only [Option.map_some]
    rw [MoreC.vent h b]
  · rw [if_neg e]
theorem more_ok (hN:NetOk ls) (h:MoreC l r x a m) (hv:ls[v]? = some l) (hs:∀ q∈ls,q.length≤20) (hn:ls.length≤8):NetOk (ls.set v (insR x l)):=by
  have hlm:=List.mem_of_getElem? hv
  have hmem:∀ q∈ls.set v (insR x l),q=insR x l∨q∈ls:=fun q hq=>by
    rcases List.mem_or_eq_of_mem_set hq with h1 | h1
    · exact .inr h1
    · exact .inl h1
  refine ⟨nmay_zero.2 ⟨by rw [List.length_set];omega,?_,fun q hq=>?_⟩,fun q hq t ht=>?_⟩
  · have:=nsize_le (ns:=ls.set v (insR x l)) (b:=21) fun q hq=>by
      rcases hmem q hq with rfl | hq
      · rw [insR_len];have:=hs l hlm;omega
      · have:=hs q hq;omega
    rw [List.length_set] at this
    omega
  · rw [List.length_set]
    rcases hmem q hq with rfl | hq
    · exact tmay_ok h.good'.sorted (h.may (hN.rule l hlm))
    · exact tmay_ok (hN.sorted q hq) (hN.rule q hq)
  · rcases hmem q hq with rfl | hq
    · exact (h.good'.pre t ht).ok
    · exact hN.ok q hq t ht
end
end Go.Proofs.YtjandnidljbkoaaGreat
