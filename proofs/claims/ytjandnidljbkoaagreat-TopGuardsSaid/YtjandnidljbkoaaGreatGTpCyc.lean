/-
  Going round: the plain law of a graph in which each node steps to one, and slices.Min. (Chapter 09's, for this seat.)
-/
import Derived.Test.YtjandnidljbkoaaGreatGTpNet
set_option linter.unusedVariables false
namespace Go.Th
def itr (h:Int→Int):Nat→Int→Int
  | 0,u=>u
  | k+1,u=>h (itr h k u)
theorem itr_add (h:Int→Int):∀ (i j:Nat) (u:Int),itr h (i+j) u=itr h i (itr h j u)
  | 0,j,u=>by rw [Nat.zero_add];rfl
  | i+1,j,u=>by rw [show i+1+j=(i+j)+1 by omega,itr,itr_add h i j u,itr]
structure Cyc (h:Int→Int) (g:Int→Bool) (u:Int) (L:Nat):Prop where
  pos:1≤L
  goes:∀ j,j < L→g (itr h j u)=true
  back:itr h L u=u
section
variable {h:Int→Int} {g:Int→Bool} {u:Int} {L:Nat}
theorem Cyc.per (c:Cyc h g u L):∀ (m j:Nat),itr h (j+m * L) u=itr h j u
  | 0,j=>by rw [Nat.zero_mul,Nat.add_zero]
  | m+1,j=>by rw [show j+(m+1) * L=(j+m * L)+L by rw [Nat.succ_mul];omega,itr_add,c.back,c.per m j]
theorem Cyc.mod (c:Cyc h g u L) (j:Nat):itr h j u=itr h (j % L) u:=by
  have e:j=j % L+(j / L) * L:=by rw [Nat.mul_comm];exact (Nat.mod_add_div j L).symm
  conv=>lhs;rw [e]
  exact c.per _ _
theorem Cyc.all (c:Cyc h g u L) (j:Nat):g (itr h j u)=true:=by
  rw [c.mod j]
  exact c.goes _ (Nat.mod_lt _ c.pos)
theorem Cyc.shift (c:Cyc h g u L) (t:Nat):Cyc h g (itr h t u) L :=
  ⟨c.pos,fun j _=>by rw [← itr_add];exact c.all _,by rw [← itr_add,Nat.add_comm,itr_add,c.back]⟩
theorem Cyc.home (c:Cyc h g u L) (t:Nat):∃ s,itr h s (itr h t u)=u:=by
  refine ⟨t * L - t,?_⟩
  have hp:=c.pos
  have:t≤t * L:=Nat.le_mul_of_pos_right t hp
  rw [← itr_add,show t * L - t+t=0+t * L by omega,c.per]
  rfl
theorem Cyc.least:∀ {L:Nat},Cyc h g u L→∃ M,Cyc h g u M∧M≤L∧∀ j,0 < j→j < M→itr h j u≠u:=by
  intro L
  induction L using Nat.strongRecOn with
  | _ L ih =>
    intro c
    by_cases e:∃ j,0 < j∧j < L∧itr h j u=u
    · obtain ⟨j,h1,h2,h3⟩:=e
      obtain ⟨M,h4,h5,h6⟩:=ih j h2 ⟨h1,fun i hi=>c.goes i (by omega),h3⟩
      exact ⟨M,h4,by omega,h6⟩
    · exact ⟨L,c,Nat.le_refl _,fun j h1 h2 h3=>e ⟨j,h1,h2,h3⟩⟩
theorem stays {S:Int→Prop} (hS:∀ x,S x→g x=true→S (h x)) (hg:∀ j,g (itr h j u)=true) {t:Nat} (ht:S (itr h t u)):∀ s,S (itr h s (itr h t u))
  | 0=>ht
  | s+1=>hS _ (stays hS hg ht s) (by rw [← itr_add];exact hg _)
theorem Cyc.inn {S:Int→Prop} (c:Cyc h g u L) (hS:∀ x,S x→g x=true→S (h x)) {t:Nat} (ht:S (itr h t u)):S u:=by
  obtain ⟨s,hs⟩:=c.home t
  have:=stays hS c.all ht s
  rw [hs] at this
  exact this
end
end Go.Th
namespace Go.Proofs.YtjandnidljbkoaaGreat
open Go.RowKit Go.Th
def sit (ls:List (List Ru)) (a v:Int):Nat→Int × Bool
  | 0=>(v,true)
  | k+1=>nstep ls a (sit ls a v k).1
def sits (ls:List (List Ru)) (a v:Int) (k:Nat):List Int:=(List.range k).map fun j=>(sit ls a v j).1
theorem sits_snoc (ls:List (List Ru)) (a v:Int) (k:Nat):sits ls a v (k+1)=sits ls a v k ++ [(sit ls a v k).1]:=by
  unfold sits
  rw [List.range_succ,List.map_append]
  rfl
def marks (ls:List (List Ru)) (a:Int) (v:Nat) (zs:List Int):Nat→List Int
  | 0=>zs.set v ((v:Int)+1)
  | k+1=>(marks ls a v zs k).set (sit ls a v (k+1)).1.toNat ((v:Int)+1)
theorem marks_len (ls:List (List Ru)) (a:Int) (v:Nat) (zs:List Int):∀ k,(marks ls a v zs k).length=zs.length
  | 0=>by simp [marks]
  | k+1=>by simp [marks,marks_len ls a v zs k]
theorem count_set_zero:∀ (zs:List Int) (i:Nat) (x:Int),zs[i]? = some 0→x≠0→(zs.set i x).count 0+1=zs.count 0
  | [],i,x,h,_=>by cases h
  | z :: zs,0,x,h,hx=>by
    obtain rfl:z=0:=by simpa using h
    simp [hx]
  | z :: zs,i+1,x,h,hx=>by
    have:=count_set_zero zs i x (by simpa using h) hx
    simp only [List.set_cons_succ,List.count_cons]
    omega
structure BackR (ls:List (List Ru)) (a:Int) (n v:Nat) (zs zs':List Int) (u:Int) (ok:Bool) (k:Nat):Prop where
  lt:k < n
  goes:∀ j,j≤k→(sit ls a v j).2=true
  inn:∀ j,j≤k→0≤(sit ls a v j).1∧(sit ls a v j).1 < n
  fresh:∀ j,j < k→(marks ls a v zs j)[(sit ls a v (j+1)).1.toNat]? = some 0
  got:zs' = marks ls a v zs k
  fin:(ok=false∧((sit ls a v (k+1)).2=false∨¬ (0≤(sit ls a v (k+1)).1∧(sit ls a v (k+1)).1 < n))) ∨
    ((sit ls a v (k+1)).2=true∧(0≤(sit ls a v (k+1)).1∧(sit ls a v (k+1)).1 < n)∧u=(sit ls a v (k+1)).1∧∃ z,zs'[(sit ls a v (k+1)).1.toNat]? = some z∧z≠0∧ok=(z == (v:Int)+1))
def hof (ls:List (List Ru)) (a:Int) (u:Int):Int:=(nstep ls a u).1
def gof (ls:List (List Ru)) (a:Int) (u:Int):Bool:=(nstep ls a u).2
theorem sit_itr (ls:List (List Ru)) (a v:Int):∀ k,(sit ls a v k).1=itr (hof ls a) k v
  | 0=>rfl
  | k+1=>by rw [sit,itr,← sit_itr ls a v k];rfl
theorem gof_in {ls:List (List Ru)} {a u:Int} (h:gof ls a u=true):0≤u∧u < (ls.length:Int):=by
  unfold gof nstep at h
  by_cases e:0≤u∧u < (ls.length:Int)
  · exact e
  · rw [if_neg e] at h;cases h
def minOf (x:Int) (l:List Int):Int:=l.foldl (fun m y=>if y < m then y else m) x
theorem minOf_snoc (x:Int) (l:List Int) (y:Int):minOf x (l ++ [y])=if y < minOf x l then y else minOf x l:=by
  unfold minOf
  rw [List.foldl_append]
  rfl
theorem minOf_le:∀ (l:List Int) (x:Int),minOf x l≤x∧∀ y∈l,minOf x l≤y
  | [],x=>⟨Int.le_refl _,by simp⟩
  | z :: l,x=>by
    have h:=minOf_le l (if z < x then z else x)
    have e:minOf x (z :: l)=minOf (if z < x then z else x) l:=rfl
    rw [e]
    have hx:(if z < x then z else x)≤x∧(if z < x then z else x)≤z:=by split <;> omega
    refine ⟨Int.le_trans h.1 hx.1,fun y hy=>?_⟩
    rcases List.mem_cons.1 hy with rfl | hy
    · exact Int.le_trans h.1 hx.2
    · exact h.2 y hy
theorem minOf_mem:∀ (l:List Int) (x:Int),minOf x l=x∨minOf x l∈l
  | [],x=>.inl rfl
  | z :: l,x=>by
    have e:minOf x (z :: l)=minOf (if z < x then z else x) l:=rfl
    rw [e]
    rcases minOf_mem l (if z < x then z else x) with h | h
    · rw [h]
      split
      · exact .inr (by simp)
      · exact .inl rfl
    · exact .inr (List.mem_cons_of_mem _ h)
def MinRel (x0:Int) (xs:List Int) (n:Nat) (w:World) (m i:Value) (wr:World):Prop :=
  ∃ k:Nat,1≤k∧k≤n∧i=.int .i64 k∧m=.int .i64 (minOf x0 ((xs.take k).drop 1))∧wr=w
set_option maxRecDepth 100000 in
theorem min_any (A:Option Addr) (n c:Nat) (xs:List Int) (w:World) (hn:n≤1000000) (B:Nat) (hr:RdS iv w B A n c xs) (x0:Int) (h0:xs[0]? = some x0) :
    Calls Tryz.prog 74 #[.slice A n c] w (RetB (.int .i64 (minOf x0 (xs.drop 1))) w):=by
  have hlen:=hr.len
  have hn1:1≤n:=by have:=(List.getElem?_eq_some_iff.1 h0).1;omega
  have hd:decide ((n:Int) < 1)=false:=decide_eq_false (by omega)
  have H0:=Lib.hid h0
  clear h0
  go_enter Tryz.func74,Tryz.ntmps74
  go_wp2_with ((with_reducible refine on_index (.tmp 9) ?_);refine wl_at_i rfl _ _ _ rfl el_int rfl rfl (by omega) (by omega) hr ?_;intro p x hx hc;have hxx:x=x0:=(by have e:=hx.out;rw [show (0:Int).toNat=0 from rfl,H0.out] at e;injection e with e;exact e.symm);subst hxx)
  go_loopw [3,4] (fun m i wr=>MinRel x xs n w m i wr) (fun _ i _=>n - (intOf i).toNat)
  case atStart=>exact ⟨1,by omega,hn1,rfl,by rw [List.drop_eq_nil_of_le (by simp;omega)];rfl,rfl⟩
  case round =>
    obtain ⟨k,hk1,hk,hi,hm,hww⟩:=hrel
    subst hi hm hww
    by_cases hlt:k < n
    · obtain ⟨y,hy⟩:∃ y,xs[k]? = some y:=⟨xs[k]'(by omega),List.getElem?_eq_getElem _⟩
      have hsn:(xs.take (k+1)).drop 1=(xs.take k).drop 1 ++ [y]:=by
        rw [List.take_add_one,hy,List.drop_append_of_le_length (by rw [List.length_take];omega)]
        rfl
      have hms:=minOf_snoc x ((xs.take k).drop 1) y
      rw [← hsn] at hms
      obtain ⟨m0,hm0⟩:∃ m0,minOf x ((xs.take k).drop 1)=m0:=⟨_,rfl⟩
      rw [hm0] at hms ⊢
      have Hms:=Lib.hid hms
      have Hy:=Lib.hid hy
      clear hms hsn hy hm0
      go_wp2_with ((with_reducible refine on_index (.tmp 19) ?_);refine wl_at_i rfl _ _ _ rfl el_int rfl rfl (by omega) (by omega) hr ?_;intro p2 x2 hx2 hc2;have hxx:y=x2:=(by have e:=hx2.out;rw [Int.toNat_natCast,Hy.out] at e;injection e);subst hxx)
      go_roundw
      case rel=>exact ⟨k+1,by omega,by omega,by go_num,by rw [Hms.out];congr 1;split <;> omega,rfl⟩
      case measure=>simp [intOf];omega
    · obtain rfl:k=n:=by omega
      rw [List.take_of_length_le (by omega)]
      go_wp2
      go_ret
      exact ⟨rfl,Below.refl _ _⟩
def Seen (n:Nat) (zs:List Int) (u:Int):Prop:=0≤u∧u < (n:Int)∧∃ z,zs[u.toNat]? = some z∧z≠0
theorem seen_set {n:Nat} {zs:List Int} {i:Nat} {x u:Int} (hl:zs.length=n) (hi:i < n) (hx:x≠0):Seen n (zs.set i x) u↔Seen n zs u∨u=(i:Int):=by
  constructor
  · rintro ⟨h0,h1,z,hz,hne⟩
    by_cases e:u=(i:Int)
    · exact .inr e
    · refine .inl ⟨h0,h1,z,?_,hne⟩
      rw [List.getElem?_set_ne (by omega)] at hz
      exact hz
  · rintro (⟨h0,h1,z,hz,hne⟩ | rfl)
    · by_cases e:i=u.toNat
      · exact ⟨h0,h1,x,by rw [← e,List.getElem?_set_self (by omega)],hx⟩
      · exact ⟨h0,h1,z,by rw [List.getElem?_set_ne e];exact hz,hne⟩
    · exact ⟨by omega,by omega,x,by rw [Int.toNat_natCast,List.getElem?_set_self (by omega)],hx⟩
theorem seen_marks {ls:List (List Ru)} {a:Int} {n v:Nat} {zs:List Int} (hl:zs.length=n) (hv:v < n):∀ {k:Nat},(∀ j,j≤k→0≤(sit ls a v j).1∧(sit ls a v j).1 < n)→∀ u,Seen n (marks ls a v zs k) u↔Seen n zs u∨∃ j,j≤k∧u=(sit ls a v j).1
  | 0,h,u=>by
    rw [marks,seen_set hl hv (by omega)]
    constructor
    · rintro (h1 | h1)
      · exact .inl h1
      · exact .inr ⟨0,Nat.le_refl _,h1⟩
    · rintro (h1 | ⟨j,hj,h1⟩)
      · exact .inl h1
      · obtain rfl:j=0:=by omega
        exact .inr h1
  | k+1,h,u=>by
    have h1:=h (k+1) (Nat.le_refl _)
    rw [marks,seen_set (by rw [marks_len];exact hl) (by omega) (by omega),seen_marks hl hv (fun j hj=>h j (by omega)) u,Int.toNat_of_nonneg h1.1]
    constructor
    · rintro ((h2 | ⟨j,hj,h2⟩) | h2)
      · exact .inl h2
      · exact .inr ⟨j,by omega,h2⟩
      · exact .inr ⟨k+1,Nat.le_refl _,h2⟩
    · rintro (h2 | ⟨j,hj,h2⟩)
      · exact .inl (.inl h2)
      · by_cases e:j=k+1
        · subst e;exact .inr h2
        · exact .inl (.inr ⟨j,by omega,h2⟩)
structure LInv (ls:List (List Ru)) (a:Int) (n:Nat) (zs:List Int) (found:Bool) (best:Int) (v:Nat):Prop where
  len:zs.length=n
  bnd:∀ (i:Nat) (z:Int),zs[i]? = some z→0≤z∧z≤(v:Int)
  past:∀ u:Nat,u < v→Seen n zs u
  closed:∀ u,Seen n zs u→gof ls a u=true→(0≤hof ls a u∧hof ls a u < n)→Seen n zs (hof ls a u)
  hno:found=false→∀ u L,Seen n zs u→¬ Cyc (hof ls a) (gof ls a) u L
  hso:found=true→(∃ L,L≤n∧Cyc (hof ls a) (gof ls a) best L)∧∀ u L,Seen n zs u→Cyc (hof ls a) (gof ls a) u L→best≤u
theorem LInv.init (ls:List (List Ru)) (a:Int) (n:Nat) (best:Int):LInv ls a n (List.replicate n 0) false best 0:=by
  have ns:∀ u,¬ Seen n (List.replicate n 0) u:=fun u h=>by
    obtain ⟨_,_,z,hz,hne⟩:=h
    rw [List.getElem?_replicate] at hz
    split at hz
    · injection hz with hz;exact hne hz.symm
    · cases hz
  have b0:∀ (i:Nat) (z:Int),(List.replicate n (0:Int))[i]? = some z→0≤z∧z≤((0:Nat):Int):=fun i z hz=>by
    rw [List.getElem?_replicate] at hz
    split at hz
    · injection hz with hz;omega
    · cases hz
  exact ⟨by simp,b0,fun u h=>absurd h (by omega),fun u h=>absurd h (ns u),fun _ u L h=>absurd h (ns u),fun h=>by cases h⟩
theorem LInv.skip {ls:List (List Ru)} {a:Int} {n v:Nat} {zs:List Int} {found:Bool} {best:Int} (h:LInv ls a n zs found best v) {z:Int} (hz:zs[v]? = some z) (hne:z≠0):LInv ls a n zs found best (v+1):=by
  have hp:∀ u:Nat,u < v+1→Seen n zs u:=fun u hu=>by
    by_cases e:u=v
    · subst e
      have:=(List.getElem?_eq_some_iff.1 hz).1
      have:=h.len
      exact ⟨by omega,by omega,z,by rw [Int.toNat_natCast];exact hz,hne⟩
    · exact h.past u (by omega)
  exact ⟨h.len,fun i y hy=>(by have:=h.bnd i y hy;omega),hp,h.closed,h.hno,h.hso⟩
theorem LInv.all {ls:List (List Ru)} {a:Int} {n:Nat} {zs:List Int} {found:Bool} {best:Int} (h:LInv ls a n zs found best n) {u:Int} (h0:0≤u∧u < n):Seen n zs u:=by
  have:=h.past u.toNat (by omega)
  rw [Int.toNat_of_nonneg h0.1] at this
  exact this
theorem marks_bnd {ls:List (List Ru)} {a:Int} {v:Nat} {zs:List Int} (h:∀ (i:Nat) (z:Int),zs[i]? = some z→0≤z∧z≤(v:Int)):∀ (k i:Nat) (z:Int),(marks ls a v zs k)[i]? = some z→0≤z∧z≤((v+1:Nat):Int)
  | 0,i,z,hz=>by
    rw [marks] at hz
    by_cases e:v=i
    · subst e
      rw [List.getElem?_set] at hz
      simp only [if_true] at hz
      split at hz
      · injection hz with hz;omega
      · cases hz
    · rw [List.getElem?_set_ne e] at hz
      have:=h i z hz
      omega
  | k+1,i,z,hz=>by
    rw [marks] at hz
    by_cases e:(sit ls a v (k+1)).1.toNat=i
    · rw [List.getElem?_set] at hz
      rw [if_pos e] at hz
      split at hz
      · injection hz with hz;omega
      · cases hz
    · rw [List.getElem?_set_ne e] at hz
      exact marks_bnd h k i z hz
theorem LInv.marked {ls:List (List Ru)} {a:Int} {n v k:Nat} {zs zs':List Int} {found ok:Bool} {best u:Int} (h:LInv ls a n zs found best v) (hv:v < n) (R:BackR ls a n v zs zs' u ok k) :
    (∀ x,Seen n zs' x↔Seen n zs x∨∃ j,j≤k∧x=(sit ls a v j).1)∧(∀ x,Seen n zs' x→gof ls a x=true→(0≤hof ls a x∧hof ls a x < n)→Seen n zs' (hof ls a x)):=by
  have hs:∀ x,Seen n zs' x↔Seen n zs x∨∃ j,j≤k∧x=(sit ls a v j).1:=fun x=>by rw [R.got];exact seen_marks h.len hv R.inn x
  refine ⟨hs,fun x hx hg hin=>?_⟩
  rcases (hs x).1 hx with hx | ⟨j,hj,rfl⟩
  · exact (hs _).2 (.inl (h.closed x hx hg hin))
  · have e:hof ls a (sit ls a v j).1=(sit ls a v (j+1)).1:=rfl
    have e2:gof ls a (sit ls a v j).1=(sit ls a v (j+1)).2:=rfl
    rw [e] at hin ⊢
    rw [e2] at hg
    by_cases ej:j=k
    · subst ej
      rcases R.fin with ⟨_,h1 | h1⟩ | ⟨_,h2,_,z,hz,hne,_⟩
      · rw [h1] at hg;cases hg
      · exact absurd hin h1
      · exact ⟨h2.1,h2.2,z,hz,hne⟩
    · exact (hs _).2 (.inr ⟨j+1,by omega,rfl⟩)
theorem marks_way {ls:List (List Ru)} {a:Int} {n v:Nat} {zs:List Int} (hl:zs.length=n) (hv:v < n):∀ {k:Nat},(∀ j,j≤k→0≤(sit ls a v j).1∧(sit ls a v j).1 < n)→∀ j,j≤k→(marks ls a v zs k)[(sit ls a v j).1.toNat]? = some ((v:Int)+1)
  | 0,h,j,hj=>by
    obtain rfl:j=0:=by omega
    rw [marks]
    show (zs.set v ((v:Int)+1))[((v:Int)).toNat]? = _
    rw [Int.toNat_natCast,List.getElem?_set_self (by omega)]
  | k+1,h,j,hj=>by
    rw [marks]
    have h1:=h j hj
    by_cases e:(sit ls a v (k+1)).1.toNat=(sit ls a v j).1.toNat
    · rw [e,List.getElem?_set_self (by rw [marks_len];omega)]
    · rw [List.getElem?_set_ne e]
      refine marks_way hl hv (fun i hi=>h i (by omega)) j ?_
      by_cases ej:j=k+1
      · subst ej;exact absurd rfl e
      · omega
theorem marks_off {ls:List (List Ru)} {a:Int} {n v:Nat} {zs:List Int} {x:Int} (hx:0≤x):∀ {k:Nat},(∀ j,j≤k→0≤(sit ls a v j).1∧(sit ls a v j).1 < n)→(∀ j,j≤k→x≠(sit ls a v j).1)→(marks ls a v zs k)[x.toNat]? = zs[x.toNat]?
  | 0,h,ho=>by
    have:=ho 0 (Nat.le_refl _)
    have e:(sit ls a v 0).1=(v:Int):=rfl
    rw [e] at this
    rw [marks,List.getElem?_set_ne (by omega)]
  | k+1,h,ho=>by
    have h1:=h (k+1) (Nat.le_refl _)
    have h2:=ho (k+1) (Nat.le_refl _)
    rw [marks,List.getElem?_set_ne (by omega)]
    exact marks_off hx (fun j hj=>h j (by omega)) (fun j hj=>ho j (by omega))
theorem LInv.way {ls:List (List Ru)} {a:Int} {n v k:Nat} {zs zs':List Int} {found:Bool} {best u:Int} (hls:ls.length=n) (h:LInv ls a n zs found best v) (hv:v < n) (R:BackR ls a n v zs zs' u false k)
    {j L:Nat} (hj:j≤k) (c:Cyc (hof ls a) (gof ls a) (sit ls a v j).1 L):Seen n zs (sit ls a v j).1:=by
  have eit:∀ t,(sit ls a v (t+j)).1=itr (hof ls a) t (sit ls a v j).1:=fun t=>by rw [sit_itr,sit_itr,itr_add]
  have hgo:(sit ls a v (k+1)).2=true:=by
    have:=c.all (k - j)
    rw [← eit,show k - j+j=k by omega] at this
    exact this
  have hin:0≤(sit ls a v (k+1)).1∧(sit ls a v (k+1)).1 < n:=by
    have:=c.all (k+1 - j)
    rw [← eit,show k+1 - j+j=k+1 by omega] at this
    have:=gof_in this
    rw [hls] at this
    exact this
  rcases R.fin with ⟨_,h1 | h1⟩ | ⟨_,h2,_,z,hz,hne,hzv⟩
  · rw [hgo] at h1;cases h1
  · exact absurd hin h1
  · have hzv:z≠(v:Int)+1:=fun e=>by subst e;simp at hzv
    have hw:Seen n zs (sit ls a v (k+1)).1:=by
      have hs:=(seen_marks h.len hv R.inn (sit ls a v (k+1)).1).1 ⟨h2.1,h2.2,z,by rw [← R.got];exact hz,hne⟩
      rcases hs with hs | ⟨i,hi,e⟩
      · exact hs
      · have:=marks_way h.len hv R.inn i hi
        rw [← e,← R.got,hz] at this
        injection this with this
        exact absurd this hzv
    have hS:∀ x,(Seen n zs x∨¬ (0≤x∧x < (n:Int)))→gof ls a x=true→(Seen n zs (hof ls a x)∨¬ (0≤hof ls a x∧hof ls a x < (n:Int))):=fun x hx hg=>by
      have hxi:=gof_in hg
      rw [hls] at hxi
      rcases hx with hx | hx
      · by_cases e:0≤hof ls a x∧hof ls a x < (n:Int)
        · exact .inl (h.closed x hx hg e)
        · exact .inr e
      · exact absurd hxi hx
    have:=c.inn hS (t:=k+1 - j) (by rw [← eit,show k+1 - j+j=k+1 by omega];exact .inl hw)
    rcases this with this | this
    · exact this
    · exact absurd (R.inn j hj) this
theorem LInv.away {ls:List (List Ru)} {a:Int} {n v k:Nat} {zs zs':List Int} {found:Bool} {best u:Int} (hls:ls.length=n) (h:LInv ls a n zs found best v) (hv:v < n) (R:BackR ls a n v zs zs' u false k):LInv ls a n zs' found best (v+1):=by
  obtain ⟨hs,hc⟩:=h.marked hv R
  have old:∀ x L,Seen n zs' x→Cyc (hof ls a) (gof ls a) x L→Seen n zs x:=fun x L hx c=>by
    rcases (hs x).1 hx with hx | ⟨j,hj,rfl⟩
    · exact hx
    · exact h.way hls hv R hj c
  have hp:∀ x:Nat,x < v+1→Seen n zs' x:=fun x hx=>by
    by_cases e:x=v
    · subst e;exact (hs _).2 (.inr ⟨0,Nat.zero_le _,rfl⟩)
    · exact (hs _).2 (.inl (h.past x (by omega)))
  refine ⟨by rw [R.got,marks_len];exact h.len,fun i z hz=>?_,hp,hc,fun hf x L hx c=>h.hno hf x L (old x L hx c) c,fun hf=>⟨(h.hso hf).1,fun x L hx c=>(h.hso hf).2 x L (old x L hx c) c⟩⟩
  rw [R.got] at hz
  exact marks_bnd h.bnd k i z hz
theorem LInv.loop {ls:List (List Ru)} {a:Int} {n v k:Nat} {zs zs':List Int} {found:Bool} {best u:Int} (h:LInv ls a n zs found best v) (hv:v < n) (R:BackR ls a n v zs zs' u true k) :
    ∃ L,L≤n∧Cyc (hof ls a) (gof ls a) u L∧∀ j L',j≤k→Cyc (hof ls a) (gof ls a) (sit ls a v j).1 L'→∃ t,(sit ls a v j).1=itr (hof ls a) t u:=by
  rcases R.fin with ⟨h0,_⟩ | ⟨h1,h2,hu,z,hz,hne,hzv⟩
  · cases h0
  · have hzv:z=(v:Int)+1:=by simpa using hzv.symm
    have hi:∃ i,i≤k∧u=(sit ls a v i).1:=by
      by_cases e:∃ i,i≤k∧(sit ls a v (k+1)).1=(sit ls a v i).1
      · obtain ⟨i,hi,e⟩:=e
        exact ⟨i,hi,hu.trans e⟩
      · have:=marks_off (zs:=zs) (k:=k) h2.1 R.inn (fun i hi e2=>e ⟨i,hi,e2⟩)
        rw [← R.got,hz] at this
        have:=h.bnd _ z this.symm
        omega
    obtain ⟨i,hi,e⟩:=hi
    have eit:∀ i t,(sit ls a v (t+i)).1=itr (hof ls a) t (sit ls a v i).1:=fun i t=>by rw [sit_itr,sit_itr,itr_add]
    refine ⟨k+1 - i,by have:=R.lt;omega,⟨by omega,fun j hj=>?_,?_⟩,fun j L' hj c=>?_⟩
    · rw [e,← eit]
      have:gof ls a (sit ls a v (j+i)).1=(sit ls a v (j+i+1)).2:=rfl
      rw [this]
      by_cases ej:j+i=k
      · rw [ej];exact h1
      · exact R.goes _ (by omega)
    · rw [e,← eit,show k+1 - i+i=k+1 by omega,← e];exact hu.symm
    · obtain ⟨s,hs⟩:=c.home (k+1 - j)
      refine ⟨s,?_⟩
      rw [← eit,show k+1 - j+j=k+1 by omega,← hu] at hs
      exact hs.symm
theorem mem_sits {ls:List (List Ru)} {a u:Int} {M:Nat} (c:Cyc (hof ls a) (gof ls a) u M) (t:Nat):itr (hof ls a) t u∈sits ls a u M:=by
  rw [c.mod t]
  unfold sits
  exact List.mem_map.2 ⟨t % M,List.mem_range.2 (Nat.mod_lt _ c.pos),by rw [sit_itr]⟩
theorem sits_mem {ls:List (List Ru)} {a u y:Int} {M:Nat} (h:y∈sits ls a u M):∃ t,y=itr (hof ls a) t u:=by
  unfold sits at h
  obtain ⟨t,_,rfl⟩:=List.mem_map.1 h
  exact ⟨t,sit_itr ls a u t⟩
def leastOf (ls:List (List Ru)) (a u:Int) (M:Nat):Int:=minOf u ((sits ls a u M).drop 1)
theorem sits_head {ls:List (List Ru)} {a u:Int} {M:Nat} (h:1≤M):sits ls a u M=u :: (sits ls a u M).drop 1:=by
  obtain ⟨m,rfl⟩:∃ m,M=m+1:=⟨M - 1,by omega⟩
  unfold sits
  rw [List.range_succ_eq_map]
  rfl
theorem leastOf_le {ls:List (List Ru)} {a u y:Int} {M:Nat} (hM:1≤M) (h:y∈sits ls a u M):leastOf ls a u M≤y:=by
  rw [sits_head hM] at h
  rcases List.mem_cons.1 h with rfl | h
  · exact (minOf_le _ _).1
  · exact (minOf_le _ _).2 y h
theorem leastOf_mem {ls:List (List Ru)} {a u:Int} {M:Nat} (hM:1≤M):leastOf ls a u M∈sits ls a u M:=by
  rw [sits_head hM]
  rcases minOf_mem ((sits ls a u M).drop 1) u with h | h
  · unfold leastOf;rw [h];exact List.mem_cons_self
  · exact List.mem_cons_of_mem _ h
theorem LInv.turn {ls:List (List Ru)} {a:Int} {n v k M:Nat} {zs zs':List Int} {found:Bool} {best u:Int} (h:LInv ls a n zs found best v) (hv:v < n) (R:BackR ls a n v zs zs' u true k) (c:Cyc (hof ls a) (gof ls a) u M) (hM:M≤n) (b:Int)
    (hb:b=if found=false∨leastOf ls a u M < best then leastOf ls a u M else best):LInv ls a n zs' true b (v+1):=by
  obtain ⟨hs,hc⟩:=h.marked hv R
  obtain ⟨_,_,_,hall⟩:=h.loop hv R
  have hp:∀ x:Nat,x < v+1→Seen n zs' x:=fun x hx=>by
    by_cases e:x=v
    · subst e;exact (hs _).2 (.inr ⟨0,Nat.zero_le _,rfl⟩)
    · exact (hs _).2 (.inl (h.past x (by omega)))
  have hlc:∃ L,L≤n∧Cyc (hof ls a) (gof ls a) (leastOf ls a u M) L:=by
    obtain ⟨t,ht⟩:=sits_mem (leastOf_mem (ls:=ls) (a:=a) (u:=u) c.pos)
    exact ⟨M,hM,by rw [ht];exact c.shift t⟩
  refine ⟨by rw [R.got,marks_len];exact h.len,fun i z hz=>?_,hp,hc,fun hf=>(by cases hf),fun _=>⟨?_,fun x L hx cx=>?_⟩⟩
  · rw [R.got] at hz
    exact marks_bnd h.bnd k i z hz
  · rw [hb]
    split
    · exact hlc
    · rename_i hn
      have hf:found=true:=by cases found <;> simp_all
      exact (h.hso hf).1
  · have way:(∃ j,j≤k∧x=(sit ls a v j).1)→leastOf ls a u M≤x:=fun ⟨j,hj,e⟩=>by
      subst e
      obtain ⟨t,ht⟩:=hall j L hj cx
      rw [ht]
      exact leastOf_le c.pos (mem_sits c t)
    rw [hb]
    rcases (hs x).1 hx with hx | hx
    · cases hfo:found with
      | false=>exact absurd cx (h.hno hfo x L hx)
      | true =>
        have:=(h.hso hfo).2 x L hx cx
        split
        · rename_i hn
          rcases hn with hn | hn
          · cases hn
          · omega
        · exact this
    · have:=way hx
      split
      · exact this
      · rename_i hn
        have:¬ (leastOf ls a u M < best):=fun e=>hn (.inr e)
        omega
theorem sits_zero {ls:List (List Ru)} {a u:Int} {M:Nat} (h:1≤M):(sits ls a u M)[0]? = some u:=by rw [sits_head h];rfl
section
variable {ls:List (List Ru)} {a v:Int}
theorem tnext_in {l:List Ru} {a:Int} {nodes:Int} (hm:∀ r∈l,r.may nodes=0) (h:(tnext l a).2=true):0≤(tnext l a).1∧(tnext l a).1 < nodes:=by
  have hb:=tfind_best l a
  obtain ⟨r,b,hp⟩:∃ r b,tfind l a=(r,b):=⟨_,_,rfl⟩
  unfold tnext at *
  rw [hp] at h hb ⊢
  dsimp only at h ⊢
  split at h
  · rename_i h1
    rw [if_pos h1]
    obtain ⟨rfl,h2⟩:=h1
    have hr:=hm r ((hb.2 rfl).1)
    unfold Ru.may at hr
    split at hr
    · omega
    · dsimp only at h2 ⊢
      split at hr <;> omega
  · cases h
def Inn (ls:List (List Ru)) (a:Int):Prop:=∀ u,gof ls a u=true→0≤hof ls a u∧hof ls a u < (ls.length:Int)
theorem inn_of_may (h:∀ l∈ls,∀ r∈l,r.may ls.length=0):Inn ls a:=by
  intro u hg
  have hu:=gof_in hg
  obtain ⟨k,rfl⟩:=Int.eq_ofNat_of_zero_le hu.1
  have hk:k < ls.length:=by omega
  unfold gof hof nstep at *
  rw [if_pos hu] at hg ⊢
  rw [Int.toNat_natCast,List.getD_eq_getElem?_getD,List.getElem?_eq_getElem hk] at hg ⊢
  exact tnext_in (h _ (List.getElem_mem hk)) hg
theorem Inn.itr (h:Inn ls a) (hv:0≤v∧v < (ls.length:Int)):∀ k,(∀ j,j < k→gof ls a (itr (hof ls a) j v)=true)→0≤Th.itr (hof ls a) k v∧Th.itr (hof ls a) k v < (ls.length:Int)
  | 0,_=>hv
  | k+1,hg=>h _ (hg k (by omega))
theorem nodup_le:∀ (n:Nat) (l:List Nat),l.Nodup→(∀ x∈l,x < n)→l.length≤n
  | 0,l,_,h=>by
    cases l with
    | nil=>simp
    | cons x l=>exact absurd (h x (by simp)) (by omega)
  | n+1,l,hn,h=>by
    have ih:=nodup_le n (l.erase n) (hn.erase n) (fun x hx=>by
      have:=hn.mem_erase_iff.1 hx
      have h2:=h x this.2
      omega)
    rw [List.length_erase] at ih
    split at ih <;> omega
theorem two_same {n m:Nat} (f:Nat→Int) (hf:∀ i,i < m→0≤f i∧f i < (n:Int)) (hm:n < m):∃ i j,i < j∧j < m∧f i=f j:=by
  have hd:¬ ((List.range m).map fun i=>(f i).toNat).Nodup:=by
    intro hn
    have:=nodup_le n _ hn (fun x hx=>by
      obtain ⟨i,hi,rfl⟩:=List.mem_map.1 hx
      have:=hf i (List.mem_range.1 hi)
      omega)
    simp at this
    omega
  by_cases e:∃ i j,i < j∧j < m∧f i=f j
  · exact e
  · exfalso
    apply hd
    rw [List.nodup_iff_pairwise_ne,List.pairwise_map]
    refine List.pairwise_lt_range.imp_of_mem ?_
    intro i j hi hj hij heq
    have h1:=hf i (List.mem_range.1 hi)
    have h2:=hf j (List.mem_range.1 hj)
    exact e ⟨i,j,hij,List.mem_range.1 hj,by omega⟩
theorem long_round (h:Inn ls a) (hv:0≤v∧v < (ls.length:Int)) (hg:∀ j,j < ls.length→gof ls a (itr (hof ls a) j v)=true):∃ L,L≤ls.length∧Cyc (hof ls a) (gof ls a) (itr (hof ls a) ls.length v) L:=by
  obtain ⟨i,j,h1,h2,h3⟩:=two_same (n:=ls.length) (m:=ls.length+1) (fun i=>Th.itr (hof ls a) i v) (fun i hi=>h.itr hv i (fun j hj=>hg j (by omega))) (by omega)
  have c:Cyc (hof ls a) (gof ls a) (itr (hof ls a) i v) (j - i):=⟨by omega,fun t ht=>by rw [← itr_add];exact hg _ (by omega),by rw [← itr_add,show j - i+i=j by omega];exact h3.symm⟩
  have:=c.shift (ls.length - i)
  rw [← itr_add,show ls.length - i+i=ls.length by omega] at this
  exact ⟨j - i,by omega,this⟩
end
end Go.Proofs.YtjandnidljbkoaaGreat
