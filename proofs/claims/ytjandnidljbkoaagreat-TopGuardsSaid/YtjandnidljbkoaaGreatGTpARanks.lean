/-
  analyze.Ranks.
-/
import Derived.Test.YtjandnidljbkoaaGreatGTpSmall
import Derived.Test.YtjandnidljbkoaaGreatGTpRanks
import Derived.Test.YtjandnidljbkoaaGreatGTpGLoop
set_option linter.unusedVariables false
namespace Go.Th
open Go.RowKit
def srow (n:Nat) (p:Option Addr × Nat):Value:=.slice p.1 n p.2
theorem srow_one (n:Nat) (p:Option Addr × Nat):(srow n p).oneCell' = true:=rfl
end Go.Th
namespace Go.Proofs.YtjandnidljbkoaaGreat
open Go.RowKit Go.Th
structure RowsR (ls:List (List Ru)) (w:World) (base n:Nat) (A:Option Addr) (m c:Nat) (ps:List (Option Addr × Nat)) (vs:List (List Int)):Prop where
  row:OwS (srow n) w base 38 A m c ps
  each:∀ (i:Nat) (p:Option Addr × Nat) (v:List Int),ps[i]? = some p→vs[i]? = some v→∃ a R,v=vecOf ls a∧OwS iv w base 3 p.1 n p.2 R∧RankR ls a R
section
variable {ls:List (List Ru)} {w w' w8:World} {base n m c:Nat} {A:Option Addr} {ps:List (Option Addr × Nat)} {vs:List (List Int)}
theorem RowsR.below (h:RowsR ls w base n A m c ps vs) (hb:Below w.heap.size w w'):RowsR ls w' base n A m c ps vs :=
  ⟨h.row.below hb,fun i p v h1 h2=>by
    obtain ⟨a,R,h3,h4,h5⟩:=h.each i p v h1 h2
    exact ⟨a,R,h3,h4.below hb,h5⟩⟩
theorem RowsR.more {A':Option Addr} {c':Nat} {p:Option Addr × Nat} {v:List Int} {a:Int} {R:List Int} (h:RowsR ls w base n A m c ps vs) (hl:vs.length=m) (hg:w.grownBy w8 (rowOf A)) (ho:OwS (srow n) w8 base 38 A' (m+1) c' (ps ++ [p])) (h1:v=vecOf ls a) (h2:OwS iv w base 3 p.1 n p.2 R) (h3:RankR ls a R):RowsR ls w8 base n A' (m+1) c' (ps ++ [p]) (vs ++ [v]):=by
  have key:∀ {A:Option Addr} {c:Nat} {xs:List Int},OwS iv w base 3 A n c xs→OwS iv w8 base 3 A n c xs:=fun q=>q.grown hg (fun g hA=>q.ow.apart h.row.ow (by decide) g hA)
  have hpl:=h.row.len
  refine ⟨ho,fun i q u hq hu=>?_⟩
  by_cases hi:i < m
  · rw [List.getElem?_append_left (by omega)] at hq hu
    obtain ⟨a',R',e1,e2,e3⟩:=h.each i q u hq hu
    exact ⟨a',R',e1,key e2,e3⟩
  · rw [List.getElem?_append_right (by omega)] at hq hu
    have e1:=List.mem_singleton.1 (List.mem_of_getElem? hq)
    have e2:=List.mem_singleton.1 (List.mem_of_getElem? hu)
    subst e1 e2
    exact ⟨a,R,h1,key h2,h3⟩
end
def ArRel (ls:List (List Ru)) (w:World) (n m:Nat) (vs:List (List Int)) (s i:Value) (wr:World):Prop :=
  ∃ (k c:Nat) (A:Option Addr) (ps:List (Option Addr × Nat)),k≤m∧i=.int .i64 k∧s=.slice A k c∧RowsR ls wr w.heap.size n A k c ps (vs.take k)∧Below w.heap.size w wr
set_option maxRecDepth 100000 in
set_option maxHeartbeats 4000000 in
theorem aranks_any (BL n:Nat) (A1:Option Addr) (n1 c1:Nat) (A2:Option Addr) (n2 c2:Nat) (A3:Option Addr) (n3 c3:Nat) (fr wh:List Int) (vs:List (List Int)) (gs:List Nat) (ls:List (List Ru)) (w:World)
    (hA:AtR 23 3 38 w BL n A1 n1 c1 A2 n2 c2 A3 n3 c3 fr wh vs gs) (hN:NetOk ls) (hl:ls.length=n) (hn3:n3≤100000) (hvs:∀ v∈vs,∃ a,v=vecOf ls a∧∀ u L,¬ Cyc (hof ls a) (gof ls a) u L) :
    Calls Tryz.prog 80 #[.agg #[.slice A1 n1 c1,.slice A2 n2 c2,.slice A3 n3 c3]] w (fun e w'=>∃ A c ps,e=.returned (.tuple #[.slice A n3 c,.int .i64 0])∧RowsR ls w' w.heap.size n A n3 c ps vs∧Below w.heap.size w w'):=by
  have k0:=below_alloc w (Nat.le_refl _) (.cells #[.slice A1 n1 c1,.slice A2 n2 c2,.slice A3 n3 c3] 59)
  have b0:=Box.new w #[.slice A1 n1 c1,.slice A2 n2 c2,.slice A3 n3 c3] 59
  obtain ⟨W0,hW0⟩:∃ W,w.alloc (.cells #[.slice A1 n1 c1,.slice A2 n2 c2,.slice A3 n3 c3] 59)=W:=⟨_,rfl⟩
  rw [hW0] at k0 b0
  have y0:W0.cell? ⟨w.heap.size,2,none⟩=some (.slice A3 n3 c3):=b0.cell 2
  have hA0:=hA.below k0
  have HN:=Lib.hid hN
  have Hl:=Lib.hid hl
  have Hvs:=Lib.hid hvs
  have hlen:=hA.len
  have hgl:=hA.oV.len
  have k0s:=k0.size
  clear hN hl hvs hA
  go_enter Tryz.func80,Tryz.ntmps80
  go_upto_region 1 with fail
  clear hW0
  go_upto_region 2 with ((with_reducible refine on_make ?_);refine wl_make0S (base:=W0.heap.size) rfl _ _ _ rfl el_rowi (f:=srow n) n3 rfl rfl rfl (by omega) (by omega) (Nat.le_refl _) ?_;intro g W hg ow0 hW)
  have y1:W.cell? ⟨w.heap.size,2,none⟩=some (.slice A3 n3 c3):=(b0.step hW).cell 2
  clear b0 y0
  go_wp2
  go_loopw [4,16] (fun s i wr=>ArRel ls W0 n n3 vs s i wr) (fun _ i _=>n3 - (intOf i).toNat)
  case atStart=>exact ⟨0,n3,some ⟨g,0,none⟩,[],by omega,rfl,rfl,⟨ow0,fun i p v h1 _=>by simp at h1⟩,hW⟩
  case round =>
    clear ow0 hW
    obtain ⟨k,cr,Ar,ps,hk,rfl,rfl,RR,hb⟩:=hrel
    have hbs:=hb.size
    have hAr:=hA0.below hb
    by_cases hlt:k < n3
    · obtain ⟨v,hv⟩:∃ v,vs[k]? = some v:=⟨vs[k]'(by omega),List.getElem?_eq_getElem _⟩
      obtain ⟨gv,hgv⟩:∃ v,gs[k]? = some v:=⟨gs[k]'(by omega),List.getElem?_eq_getElem _⟩
      have hvr:=hAr.vec (gv,v) (List.mem_iff_getElem?.2 ⟨k,by rw [List.getElem?_zip_eq_some];exact ⟨hgv,hv⟩⟩)
      obtain ⟨a,rfl,hno⟩:=Hvs.out v (List.mem_of_getElem? hv)
      have KR:=Lib.hid (granks_any _ n n ls a wr HN.out Hl.out hvr.rd)
      have hmo:=take_more hv
      have Hgv:=Lib.hid hgv
      have Hmo:=Lib.hid hmo
      have Hno:=Lib.hid hno
      have hvl:(vs.take k).length=k:=by rw [List.length_take];omega
      have Hvl:=Lib.hid hvl
      clear hv hgv hmo hno hvl hvr
      go_upto_region 6 with (first
        | ((with_reducible refine on_index (.tmp 14) ?_);refine wm_at (one1_len (vrow n)) rfl _ (.tmp 14) _ rfl el_rowi.m rfl rfl (by omega) (by omega) hAr.oV.rd.m ?_;intro b j y hy hbB hc;have hxx:gv=y:=get_eq Hgv.out hy.out (by omega);subst hxx;have hc1:wr.cell? ⟨b,j,none⟩=some (.slice (some ⟨gv,0,none⟩) n n):=hc.out 0 _ rfl)
        | (go_at_call 27;refine (KR.out).mono ?_;rintro e w5 ⟨hb5,⟨A5,c5,R5,rfl,o5,r5⟩ | ⟨rfl,u5,L5,cy5⟩⟩;rotate_left;exact absurd cy5 (Hno.out _ _)))
      have RR5:=RR.below hb5
      have o5b:=o5.base_le hbs
      have h5s:=hb5.size
      go_wp2_with (first
        | ((with_reducible refine on_append (.tmp 28) (.tmp 30) ?_);refine wl_appendS rfl (.tmp 28) (.tmp 30) _ rfl el_rowi (f:=srow n) (srow_one n) rfl (RR5.row.alloc (.cells #[.slice A5 n c5] 38)) rfl (OwS.lit (base:=w5.heap.size) (e:=38) (xs:=[(A5,c5)]) w5 #[.slice A5 n c5] 1 (Nat.le_refl _) (by simp [maxLen]) rfl rfl).rd (by omega) (by omega) (by simp;omega) ?_;intro A8 c8 w8 ow8 hg8 hb8))
      have RR8:=(RR5.below (below_alloc w5 (Nat.le_refl _) (.cells #[.slice A5 n c5] 38))).more Hvl.out hg8 ow8 rfl (o5b.alloc (.cells #[.slice A5 n c5] 38)) r5
      rw [← Hmo.out] at RR8
      go_roundw
      case rel=>exact ⟨k+1,c8,A8,_,by omega,by go_num,rfl,RR8,((hb.trans (hb5.mono hbs)).alloc (by omega) _).trans hb8⟩
      case measure=>simp [intOf];omega
    · obtain rfl:k=n3:=by omega
      have h5:vs.take k=vs:=List.take_of_length_le (by omega)
      rw [h5] at RR
      go_wp2
      go_ret2
      refine ⟨Ar,cr,ps,rfl,⟨RR.row.base_le k0s,fun i p v h1 h2=>?_⟩,k0.trans (hb.mono k0s)⟩
      obtain ⟨a,R,e1,e2,e3⟩:=RR.each i p v h1 h2
      exact ⟨a,R,e1,e2.base_le k0s,e3⟩
end Go.Proofs.YtjandnidljbkoaaGreat
