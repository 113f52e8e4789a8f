/-
  Atoms hang on the vectors alone: where they begin is where the vector changes. Plain law.
-/
import Derived.Test.YtjandnidljbkoaaGreatGTpSure
set_option linter.unusedVariables false
namespace Go.Th
def thin (f:Int→List Int):Option Int→List Int→List Int
  | _,[]=>[]
  | p,a :: cs=>if p.map f=some (f a) then thin f (some a) cs else a :: thin f (some a) cs
theorem mem_get {l:List (List Int)} {i:Nat} {v:List Int} (h:l[i]? = some v):v∈l:=List.mem_of_getElem? h
theorem plc_at {l:List (List Int)} (hn:l.Nodup) {i:Nat} {v:List Int} (h:l[i]? = some v):plc l v=some i:=by
  cases hp:plc l v with
  | none=>exact absurd (mem_get h) (plc_none.1 hp)
  | some q =>
    obtain ⟨h1,h2⟩:=plc_some hp
    obtain ⟨h3,h4⟩:=List.getElem?_eq_some_iff.1 h
    obtain ⟨h5,h6⟩:=List.getElem?_eq_some_iff.1 h2
    have:=(List.getElem_inj (h₀:=h3) (h₁:=h5) hn).1 (h4.trans h6.symm)
    rw [this]
section
variable {f:Int→List Int} {ds:List Int} {s:AtS}
theorem AtOk.skip (h:AtOk f ds s) {a:Int} (he:ds.getLast?.map f=some (f a)):s.step (f a) a=s:=by
  rcases h.last with ⟨_,h2,_⟩ | ⟨x,h1,h2,h3⟩
  · rw [h2] at he;cases he
  · rw [h2] at he
    injection he with he
    rw [he] at h3
    have hr:=h.rng s.last (List.mem_of_getLast? h1)
    exact AtS.step_same (plc_at h.nd h3) (by omega)
theorem AtOk.add (h:AtOk f ds s) {a:Int} (he:ds.getLast?.map f≠some (f a)):(s.step (f a) a).fr=s.fr ++ [a]:=by
  cases hp:plc s.vs (f a) with
  | none=>rw [AtS.step_none hp]
  | some q =>
    by_cases hq:(q:Int)=s.last
    · exfalso
      rcases h.last with ⟨_,h2,h4⟩ | ⟨x,h1,h2,h3⟩
      · omega
      · have h5:=(plc_some hp).2
        rw [← hq,Int.toNat_natCast,h5] at h3
        injection h3 with h3
        rw [h2] at he
        exact he (congrArg some h3.symm)
    · rw [AtS.step_some hp hq]
theorem atGo_go (f:Int→List Int):∀ (cs ds:List Int) (s:AtS),AtOk f ds s →
    cs.foldl (fun s a=>s.step (f a) a) s=(thin f ds.getLast? cs).foldl (fun s a=>s.step (f a) a) s∧(cs.foldl (fun s a=>s.step (f a) a) s).fr=s.fr ++ thin f ds.getLast? cs:=by
  intro cs
  induction cs with
  | nil=>exact fun ds s _=>⟨rfl,by simp [thin]⟩
  | cons a cs ih =>
    intro ds s h
    have hi:=ih (ds ++ [a]) (s.step (f a) a) (h.step a)
    rw [List.getLast?_concat] at hi
    by_cases he:ds.getLast?.map f=some (f a)
    · rw [h.skip he] at hi
      rw [thin,if_pos he,List.foldl_cons,h.skip he]
      exact hi
    · rw [thin,if_neg he,List.foldl_cons,List.foldl_cons]
      refine ⟨hi.1,?_⟩
      rw [hi.2,h.add he,List.append_assoc]
      rfl
theorem atGo_thin (f:Int→List Int) (cs:List Int):atGo f cs=atGo f (thin f none cs)∧(atGo f cs).fr=thin f none cs:=by
  obtain ⟨h1,h2⟩:=atGo_go f cs [] AtS.nil (AtOk.nil f)
  exact ⟨h1,h2.trans (by simp [AtS.nil])⟩
theorem atGo_congr {f g:Int→List Int} {cs:List Int} (h:∀ a∈cs,f a=g a):atGo f cs=atGo g cs:=by
  unfold atGo
  suffices ∀ (cs:List Int) (s:AtS),(∀ a∈cs,f a=g a)→cs.foldl (fun s a=>s.step (f a) a) s=cs.foldl (fun s a=>s.step (g a) a) s from this cs _ h
  intro cs
  induction cs with
  | nil=>exact fun s _=>rfl
  | cons a cs ih =>
    intro s h
    rw [List.foldl_cons,List.foldl_cons,h a (by simp)]
    exact ih _ fun b hb=>h b (by simp [hb])
def Cst (f:Int→List Int) (cs:List Int):Prop:=∀ y∈cs,∀ a,y≤a→a≤4294967295→(∀ z∈cs,y < z→a < z)→f a=f y
theorem Cst.tail {p:Int} {cs:List Int} (h:Cst f (p :: cs)) (hs:(p :: cs).Pairwise (· < ·)):Cst f cs:=fun y hy a h1 h2 h3 =>
  h y (List.mem_cons_of_mem _ hy) a h1 h2 fun z hz hyz=>by
    rcases List.mem_cons.1 hz with rfl | hz
    · have:=(List.pairwise_cons.1 hs).1 y hy;omega
    · exact h3 z hz hyz
theorem mem_thin_go:∀ {cs:List Int} {p:Int},(p :: cs).Pairwise (· < ·)→Cst f (p :: cs)→(∀ x∈cs,x≤4294967295)→∀ x,x∈thin f (some p) cs↔x∈cs∧f (x - 1)≠f x:=by
  intro cs
  induction cs with
  | nil=>exact fun _ _ _ x=>by simp [thin]
  | cons a cs ih =>
    intro p hs hc hb x
    have hs2:=(List.pairwise_cons.1 hs).2
    have hpa:=(List.pairwise_cons.1 hs).1 a (by simp)
    have hab:=hb a (by simp)
    have hi:=ih hs2 (hc.tail hs) (fun x hx=>hb x (by simp [hx])) x
    have hfa:f (a - 1)=f p:=hc p (by simp) (a - 1) (by omega) (by omega) fun z hz hpz=>by
      rcases List.mem_cons.1 hz with rfl | hz
      · omega
      · rcases List.mem_cons.1 hz with rfl | hz
        · omega
        · have:=(List.pairwise_cons.1 hs2).1 z hz;omega
    have hna:a ∉ cs:=fun h=>by have:=(List.pairwise_cons.1 hs2).1 a h;omega
    by_cases he:(some p).map f=some (f a)
    · rw [thin,if_pos he,hi]
      have he2:f p=f a:=by simpa using he
      constructor
      · rintro ⟨h1,h2⟩
        exact ⟨by simp [h1],h2⟩
      · rintro ⟨h1,h2⟩
        rcases List.mem_cons.1 h1 with rfl | h1
        · exact absurd (hfa.trans he2) h2
        · exact ⟨h1,h2⟩
    · rw [thin,if_neg he,List.mem_cons,hi,List.mem_cons]
      have he2:f p≠f a:=by simpa using he
      constructor
      · rintro (rfl | ⟨h1,h2⟩)
        · exact ⟨.inl rfl,by rw [hfa];exact he2⟩
        · exact ⟨.inr h1,h2⟩
      · rintro ⟨rfl | h1,h2⟩
        · exact .inl rfl
        · exact .inr ⟨h1,h2⟩
theorem mem_thin {cs:List Int} (hh:cs.head? = some 0) (hs:cs.Pairwise (· < ·)) (hc:Cst f cs) (hb:∀ x∈cs,x≤4294967295) (x:Int):x∈thin f none cs↔x∈cs∧(x=0∨f (x - 1)≠f x):=by
  cases cs with
  | nil=>cases hh
  | cons p cs =>
    injection hh with hp
    subst hp
    have key:=mem_thin_go hs hc (fun x hx=>hb x (by simp [hx])) x
    have hx0:x∈cs→0 < x:=(List.pairwise_cons.1 hs).1 x
    rw [thin,if_neg (by simp),List.mem_cons,key,List.mem_cons]
    constructor
    · rintro (rfl | ⟨h1,h2⟩)
      · exact ⟨.inl rfl,.inl rfl⟩
      · exact ⟨.inr h1,.inr h2⟩
    · rintro ⟨rfl | h1,h2⟩
      · exact .inl rfl
      · rcases h2 with rfl | h2
        · have:=hx0 h1;omega
        · exact .inr ⟨h1,h2⟩
theorem up_ext {l l':List Int} (h:l.Pairwise (· < ·)) (h':l'.Pairwise (· < ·)) (hm:∀ x,x∈l↔x∈l'):l=l' :=
  List.Perm.eq_of_pairwise (le:=(· < ·)) (fun a b _ _ h1 h2=>by omega) h h' ((List.perm_ext_iff_of_nodup (h.imp fun h=>by omega) (h'.imp fun h=>by omega)).2 hm)
theorem change_at {x:Int}:∀ (n:Nat),f (x+n)≠f x→∃ z,x < z∧z≤x+n∧f (z - 1)≠f z
  | 0,h=>absurd (by simp) h
  | n+1,h=>by
    by_cases e:f (x+n)=f x
    · exact ⟨x+((n+1:Nat):Int),by omega,Int.le_refl _,by rw [show x+((n+1:Nat):Int) - 1=x+n by omega,e];exact fun e2=>h e2.symm⟩
    · obtain ⟨z,h1,h2,h3⟩:=change_at n e
      exact ⟨z,h1,by omega,h3⟩
end
end Go.Th
namespace Go.Proofs.YtjandnidljbkoaaGreat
open Go.RowKit Go.Th
theorem cuts_cst {ls:List (List Ru)} (hok:∀ l∈ls,∀ r∈l,r.Ok):Cst (vecOf ls) (cutsOf ls):=fun y hy a h1 h2 h3 =>
  vec_const (cuts_bound hok y hy).1 h1 h2 fun z hz hyz=>h3 z (mem_cutsOf.2 hz) hyz
theorem atoms_begin {ls:List (List Ru)} (h:NetOk ls) (x:Int):x∈(atomsOf ls).fr↔0≤x∧x≤4294967295∧(x=0∨vecOf ls (x - 1)≠vecOf ls x):=by
  have hb:=cuts_bound h.ok
  have hc:=cuts_cst h.ok
  have hm:=mem_thin (cuts_head h) (cutsOf_sorted ls) hc (fun x hx=>(hb x hx).2) x
  have e:(atomsOf ls).fr=thin (vecOf ls) none (cutsOf ls):=(atGo_thin _ _).2
  rw [e,hm]
  constructor
  · rintro ⟨h1,h2⟩
    exact ⟨(hb x h1).1,(hb x h1).2,h2⟩
  · rintro ⟨h1,h2,h3⟩
    refine ⟨?_,h3⟩
    have h0:(0:Int)∈cutsOf ls:=mem_cutsOf.2 (ckeys_zero ls)
    rcases h3 with rfl | h3
    · exact h0
    · obtain ⟨y,g1,g2,g3⟩:=last_le (l:=cutsOf ls) (a:=x) ⟨0,h0,h1⟩
      by_cases hyx:y=x
      · rw [← hyx];exact g1
      · exfalso
        have e1:=hc y g1 x g2 h2 fun z hz hyz=>by
          by_cases hzx:z≤x
          · have:=g3 z hz hzx;omega
          · omega
        have e2:=hc y g1 (x - 1) (by omega) (by omega) fun z hz hyz=>by
          by_cases hzx:z≤x
          · have:=g3 z hz hzx;omega
          · omega
        exact h3 (e2.trans e1.symm)
theorem atoms_const {ls:List (List Ru)} (h:NetOk ls) {i:Nat} {x y:Int} (hx:(atomsOf ls).fr[i]? = some x) (h1:x≤y) (h2:y≤endOf (atomsOf ls).fr i):vecOf ls y=vecOf ls x:=by
  obtain ⟨hs,hb⟩:=atoms_fr h
  obtain ⟨hi,hxe⟩:=List.getElem?_eq_some_iff.1 hx
  have hx0:=hb x (List.mem_of_getElem? hx)
  by_cases e:vecOf ls y=vecOf ls x
  · exact e
  exfalso
  obtain ⟨n,hn⟩:=Int.eq_ofNat_of_zero_le (show 0≤y - x by omega)
  have hy:y=x+n:=by omega
  rw [hy] at e
  obtain ⟨z,g1,g2,g3⟩:=change_at n e
  have hyb:y≤4294967295:=by
    unfold endOf at h2
    split at h2
    · rename_i hlt
      have:=hb _ (List.getElem_mem hlt)
      rw [List.getD_eq_getElem?_getD,List.getElem?_eq_getElem hlt] at h2
      simp only [Option.getD_some] at h2
      omega
    · exact h2
  have hz:z∈(atomsOf ls).fr:=(atoms_begin h z).2 ⟨by omega,by omega,.inr g3⟩
  obtain ⟨j,hj,hje⟩:=List.mem_iff_getElem.1 hz
  have hp:=List.pairwise_iff_getElem.1 hs
  have hij:i < j:=by
    rcases Nat.lt_trichotomy i j with h3 | h3 | h3
    · exact h3
    · subst h3;omega
    · have:=hp j i hj hi h3;omega
  unfold endOf at h2
  rw [if_pos (by omega),List.getD_eq_getElem?_getD,List.getElem?_eq_getElem (show i+1 < _ by omega)] at h2
  simp only [Option.getD_some] at h2
  by_cases e3:i+1=j
  · subst e3;omega
  · have:=hp (i+1) j (by omega) hj (by omega);omega
theorem endOf_le {ls:List (List Ru)} (h:NetOk ls) {i:Nat} {x:Int} (hx:(atomsOf ls).fr[i]? = some x):x≤endOf (atomsOf ls).fr i∧endOf (atomsOf ls).fr i≤4294967295:=by
  obtain ⟨hs,hb⟩:=atoms_fr h
  obtain ⟨hi,hxe⟩:=List.getElem?_eq_some_iff.1 hx
  have hx0:=hb x (List.mem_of_getElem? hx)
  unfold endOf
  split
  · rename_i hlt
    have h1:=List.pairwise_iff_getElem.1 hs i (i+1) hi hlt (by omega)
    have h2:=hb _ (List.getElem_mem hlt)
    rw [List.getD_eq_getElem?_getD,List.getElem?_eq_getElem hlt]
    simp only [Option.getD_some]
    omega
  · omega
theorem atoms_same {ls ls':List (List Ru)} (h:NetOk ls) (h':NetOk ls') (hv:∀ a,0≤a→a≤4294967295→vecOf ls a=vecOf ls' a):atomsOf ls=atomsOf ls':=by
  obtain ⟨hs,hb⟩:=atoms_fr h
  obtain ⟨hs',hb'⟩:=atoms_fr h'
  have e:(atomsOf ls).fr=(atomsOf ls').fr:=up_ext hs hs' fun x=>by
    rw [atoms_begin h,atoms_begin h']
    constructor
    · rintro ⟨h1,h2,h3⟩
      refine ⟨h1,h2,?_⟩
      by_cases hx:x=0
      · exact .inl hx
      · rw [← hv x h1 h2,← hv (x - 1) (by omega) (by omega)];exact h3
    · rintro ⟨h1,h2,h3⟩
      refine ⟨h1,h2,?_⟩
      by_cases hx:x=0
      · exact .inl hx
      · rw [hv x h1 h2,hv (x - 1) (by omega) (by omega)];exact h3
  have e1:(atomsOf ls).fr=thin (vecOf ls) none (cutsOf ls):=(atGo_thin _ _).2
  have e2:(atomsOf ls').fr=thin (vecOf ls') none (cutsOf ls'):=(atGo_thin _ _).2
  have e3:atomsOf ls=atGo (vecOf ls) (atomsOf ls).fr:=by rw [e1];exact (atGo_thin _ _).1
  have e4:atomsOf ls' = atGo (vecOf ls') (atomsOf ls').fr:=by rw [e2];exact (atGo_thin _ _).1
  rw [e3,e4,e]
  exact atGo_congr fun a ha=>hv a (hb' a ha).1 (hb' a ha).2
theorem rankR_vec {ls ls':List (List Ru)} (h:NetOk ls) (h':NetOk ls') (hl:ls.length=ls'.length) {a a':Int} (hv:vecOf ls a=vecOf ls' a') {R:List Int} (hR:RankR ls a R):RankR ls' a' R:=by
  have e1:hof ls a=hof ls' a':=by rw [hof_vec h,hof_vec h',hv,hl]
  have e2:gof ls a=gof ls' a':=by rw [gof_vec h,gof_vec h',hv,hl]
  refine ⟨by rw [← hl];exact hR.len,?_⟩
  have:=hR.each
  rw [e1,e2,hl] at this
  exact this
end Go.Proofs.YtjandnidljbkoaaGreat
