/-
  Atoms: the plain law.
-/
import Derived.Test.YtjandnidljbkoaaGreatGTpARanks
set_option linter.unusedVariables false
namespace Go.Th
structure AtOk (f:Int→List Int) (cs:List Int) (s:AtS):Prop where
  len:s.fr.length=s.wh.length
  sub:s.fr.Sublist cs
  rng:∀ p∈s.wh,0≤p∧p < (s.vs.length:Int)
  all:∀ k:Nat,k < s.vs.length→(k:Int)∈s.wh
  nd:s.vs.Nodup
  val:∀ (i:Nat) (x p:Int),s.fr[i]? = some x→s.wh[i]? = some p→s.vs[p.toNat]? = some (f x)
  last:(s.fr=[]∧cs=[]∧s.last = -1)∨(∃ x,s.wh.getLast? = some s.last∧cs.getLast? = some x∧s.vs[s.last.toNat]? = some (f x))
  head:cs.head? = s.fr.head?
theorem AtOk.nil (f:Int→List Int):AtOk f [] AtS.nil :=
  ⟨rfl,List.Sublist.refl _,by simp [AtS.nil],fun k h=>absurd h (by simp [AtS.nil]),List.nodup_nil,fun i x p h _=>by simp [AtS.nil] at h,.inl ⟨rfl,rfl,rfl⟩,rfl⟩
section
variable {f:Int→List Int} {cs:List Int} {s:AtS}
theorem AtOk.step (h:AtOk f cs s) (a:Int):AtOk f (cs ++ [a]) (s.step (f a) a):=by
  have hhd:∀ l:List Int,(cs ++ [a]).head? = (s.fr ++ [a]).head?:=fun _=>by
    have h1:=h.head
    rcases cs with _ | ⟨c,cs⟩
    · rcases hf:s.fr with _ | ⟨x,fr⟩
      · rfl
      · rw [hf] at h1;simp at h1
    · rcases hf:s.fr with _ | ⟨x,fr⟩
      · rw [hf] at h1;simp at h1
      · rw [hf] at h1;simpa using h1
  cases hp:plc s.vs (f a) with
  | none =>
    rw [AtS.step_none hp]
    have hnew:=plc_none.1 hp
    refine ⟨by simp [h.len],h.sub.append (List.Sublist.refl _),fun p hpm=>?_,fun k hk=>?_,?_,fun i x p hx hpp=>?_,.inr ⟨a,by simp,by simp,by simp⟩,hhd []⟩
    · rcases List.mem_append.1 hpm with hpm | hpm
      · have:=h.rng p hpm
        simp
        omega
      · rw [List.mem_singleton.1 hpm]
        simp
        omega
    · simp only [List.length_append,List.length_singleton] at hk
      by_cases e:k < s.vs.length
      · exact List.mem_append_left _ (h.all k e)
      · obtain rfl:k=s.vs.length:=by omega
        simp
    · rw [List.nodup_append]
      exact ⟨h.nd,by simp,fun y hy z hz=>by rw [List.mem_singleton.1 hz];exact fun e=>hnew (e ▸ hy)⟩
    · by_cases hi:i < s.fr.length
      · rw [List.getElem?_append_left hi] at hx
        rw [List.getElem?_append_left (by rw [← h.len];exact hi)] at hpp
        have h1:=h.val i x p hx hpp
        rw [List.getElem?_append_left (List.getElem?_eq_some_iff.1 h1).1]
        exact h1
      · rw [List.getElem?_append_right (by omega)] at hx
        rw [List.getElem?_append_right (by rw [← h.len];omega)] at hpp
        rw [List.mem_singleton.1 (List.mem_of_getElem? hx),List.mem_singleton.1 (List.mem_of_getElem? hpp)]
        simp
  | some q =>
    obtain ⟨hq1,hq2⟩:=plc_some hp
    by_cases hl:(q:Int)=s.last
    · rw [AtS.step_same hp hl]
      have hne:s.fr≠[]:=fun e=>by
        rcases h.last with h1 | ⟨x,h1,_⟩
        · have:=h1.2.2;omega
        · have:=h.len
          rw [e] at this
          have h2:s.wh=[]:=List.eq_nil_of_length_eq_zero this.symm
          rw [h2] at h1
          simp at h1
      refine ⟨h.len,h.sub.trans (List.sublist_append_left _ _),h.rng,h.all,h.nd,h.val,.inr ⟨a,?_,by simp,?_⟩,?_⟩
      · rcases h.last with h1 | ⟨x,h1,_⟩
        · exact absurd h1.1 hne
        · exact h1
      · rw [← hl,Int.toNat_natCast];exact hq2
      · have h1:=h.head
        rcases cs with _ | ⟨c,cs⟩
        · rcases hf:s.fr with _ | ⟨x,fr⟩
          · exact absurd hf hne
          · rw [hf] at h1;simp at h1
        · simpa using h1
    · rw [AtS.step_some hp hl]
      refine ⟨by simp [h.len],h.sub.append (List.Sublist.refl _),fun p hpm=>?_,fun k hk=>List.mem_append_left _ (h.all k hk),h.nd,fun i x p hx hpp=>?_,.inr ⟨a,by simp,by simp,by rw [Int.toNat_natCast];exact hq2⟩,hhd []⟩
      · rcases List.mem_append.1 hpm with hpm | hpm
        · exact h.rng p hpm
        · rw [List.mem_singleton.1 hpm];exact ⟨by omega,by show (q:Int) < (s.vs.length:Int);omega⟩
      · by_cases hi:i < s.fr.length
        · rw [List.getElem?_append_left hi] at hx
          rw [List.getElem?_append_left (by rw [← h.len];exact hi)] at hpp
          exact h.val i x p hx hpp
        · rw [List.getElem?_append_right (by omega)] at hx
          rw [List.getElem?_append_right (by rw [← h.len];omega)] at hpp
          rw [List.mem_singleton.1 (List.mem_of_getElem? hx),List.mem_singleton.1 (List.mem_of_getElem? hpp),Int.toNat_natCast]
          exact hq2
theorem atOk (f:Int→List Int) (cs:List Int):AtOk f cs (atGo f cs):=by
  have key:∀ (cs ds:List Int) (s:AtS),AtOk f ds s→AtOk f (ds ++ cs) (cs.foldl (fun s a=>s.step (f a) a) s):=by
    intro cs
    induction cs with
    | nil=>intro ds s h;simpa using h
    | cons a cs ih =>
      intro ds s h
      have:=ih (ds ++ [a]) _ (h.step a)
      rw [List.append_assoc] at this
      exact this
  have:=key cs [] AtS.nil (AtOk.nil f)
  rwa [List.nil_append] at this
end
end Go.Th
namespace Go.Proofs.YtjandnidljbkoaaGreat
open Go.RowKit Go.Th
theorem cutsOf_sorted (ls:List (List Ru)):(cutsOf ls).Pairwise (· < ·):=by
  have h1:(cutsOf ls).Pairwise (fun x y=>decide (x≤y)=true):=List.pairwise_mergeSort (fun a b c h1 h2=>by simp at h1 h2 ⊢;omega) (fun a b=>by simp;omega) _
  have h2:(cutsOf ls).Nodup:=((List.mergeSort_perm _ _).nodup_iff).2 (ckeys_nodup ls)
  have h3:=h1.and (List.nodup_iff_pairwise_ne.1 h2)
  exact h3.imp fun ⟨h4,h5⟩=>by simp at h4;omega
theorem atoms_fr {ls:List (List Ru)} (h:NetOk ls):(atomsOf ls).fr.Pairwise (· < ·)∧∀ x∈(atomsOf ls).fr,0≤x∧x≤4294967295:=by
  have hs:=(atOk (vecOf ls) (cutsOf ls)).sub
  exact ⟨List.Pairwise.sublist hs (cutsOf_sorted ls),fun x hx=>cuts_bound h.ok x (hs.subset hx)⟩
theorem atoms_end {ls:List (List Ru)} (h:NetOk ls) {i:Nat} (hi:i < (atomsOf ls).fr.length):EndOf (atomsOf ls).fr (atomsOf ls).fr.length i (endOf (atomsOf ls).fr i):=by
  obtain ⟨h1,h2⟩:=atoms_fr h
  unfold endOf
  by_cases e:i+1 < (atomsOf ls).fr.length
  · rw [if_pos e]
    have hy:(atomsOf ls).fr[i+1]? = some (atomsOf ls).fr[i+1]:=List.getElem?_eq_getElem e
    have h3:=List.pairwise_iff_getElem.1 h1 i (i+1) hi e (by omega)
    have h4:=h2 _ (List.getElem_mem hi)
    have h5:=h2 _ (List.getElem_mem e)
    refine .inr ⟨e,(atomsOf ls).fr[i+1],hy,by omega,by omega,?_⟩
    rw [List.getD_eq_getElem?_getD,hy]
    rfl
  · rw [if_neg e]
    exact .inl ⟨by omega,rfl⟩
theorem atoms_len {ls:List (List Ru)} (h:NetOk ls):(atomsOf ls).fr.length≤8193:=by
  have h1:=(atOk (vecOf ls) (cutsOf ls)).sub.length_le
  have h2:=cuts_len ls
  have h3:=h.size
  have:(atomsOf ls).fr.length≤(cutsOf ls).length:=h1
  omega
theorem cover_le {l:List Int} {n:Nat} (h:∀ k:Nat,k < n→(k:Int)∈l):n≤l.length:=by
  have:=nodup_le l.length ((List.range n).map fun k:Nat=>l.idxOf (k:Int)) (by
    rw [List.nodup_iff_pairwise_ne,List.pairwise_map]
    refine List.pairwise_lt_range.imp_of_mem fun {x y} hx hy hlt he=>?_
    have h3:=List.getElem_idxOf (List.idxOf_lt_length_iff.2 (h x (List.mem_range.1 hx)))
    have h4:=List.getElem_idxOf (List.idxOf_lt_length_iff.2 (h y (List.mem_range.1 hy)))
    simp only [he] at h3
    rw [h4] at h3
    omega) (fun x hx=>by
    obtain ⟨k,hk,rfl⟩:=List.mem_map.1 hx
    exact List.idxOf_lt_length_iff.2 (h k (List.mem_range.1 hk)))
  rwa [List.length_map,List.length_range] at this
theorem atoms_vs {ls:List (List Ru)} (h:NetOk ls):(atomsOf ls).vs.length≤8193:=by
  have h1:=atOk (vecOf ls) (cutsOf ls)
  have h2:=cover_le h1.all
  have h3:=atoms_len h
  have h4:=h1.len
  have e:atGo (vecOf ls) (cutsOf ls)=atomsOf ls:=rfl
  rw [e] at h2 h4
  omega
theorem first_at {l:List Int} {x:Int} (h:x∈l):∃ i,i < l.length∧l[i]? = some x∧∀ j,j < i→l[j]?≠some x:=by
  induction l with
  | nil=>cases h
  | cons y l ih =>
    by_cases e:y=x
    · exact ⟨0,by simp,by simp [e],fun j hj=>absurd hj (by omega)⟩
    · rcases List.mem_cons.1 h with h | h
      · exact absurd h.symm e
      · obtain ⟨i,h1,h2,h3⟩:=ih h
        refine ⟨i+1,by simp;omega,by simpa using h2,fun j hj=>?_⟩
        cases j with
        | zero=>simpa using e
        | succ j=>simpa using h3 j (by omega)
def AFree (ls:List (List Ru)) (ks:List PK):Prop :=
  ks.length=(atomsOf ls).fr.length∧∀ (i:Nat) (k:PK),ks[i]? = some k→∃ x p a,(atomsOf ls).fr[i]? = some x∧(atomsOf ls).wh[i]? = some p∧(atomsOf ls).vs[p.toNat]? = some (vecOf ls a)∧k.1=x∧k.2.1=endOf (atomsOf ls).fr i∧RankR ls a k.2.2
def ALoop (ls:List (List Ru)) (d:Int) (tr:List Int):Prop :=
  ∃ (k i:Nat) (a best:Int) (M:Nat),(∀ j v,j < k→(atomsOf ls).vs[j]? = some v→∃ a',v=vecOf ls a'∧∀ u L,¬ Cyc (hof ls a') (gof ls a') u L)∧(atomsOf ls).vs[k]? = some (vecOf ls a)∧M≤ls.length∧Cyc (hof ls a) (gof ls a) best M∧(∀ j,0 < j→j < M→itr (hof ls a) j best≠best)∧(∀ u L,Cyc (hof ls a) (gof ls a) u L→best≤u)∧tr=sits ls a best M ∧
    (atomsOf ls).wh[i]? = some (k:Int)∧(∀ j,j < i→(atomsOf ls).wh[j]?≠some (k:Int))∧(atomsOf ls).fr[i]? = some d
end Go.Proofs.YtjandnidljbkoaaGreat
