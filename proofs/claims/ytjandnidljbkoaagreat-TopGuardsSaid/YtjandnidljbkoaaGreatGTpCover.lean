/-
  cover.points, cover.All.
-/
import Derived.Test.YtjandnidljbkoaaGreatGTpCheck1
set_option linter.unusedVariables false
namespace Go.Th
open Go.RowKit
def rowv (p:Option Addr × Nat × Nat):Value:=.slice p.1 p.2.1 p.2.2
theorem rowv_one (p:Option Addr × Nat × Nat):(rowv p).oneCell' = true:=rfl
end Go.Th
namespace Go.Proofs.YtjandnidljbkoaaGreat
open Go.RowKit Go.Th
theorem info_rowu:(Tryz.prog.info? 44).map (fun i=>(i.zero,i.size,i.bytes))=some (some (.slice none 0 0),1,24):=by kernel_rfl
theorem size_rowu (w:World):(sizeOf 44).run Tryz.prog w=.ok 1 w:=by kernel_rfl
theorem el_rowu:El Tryz.prog 193 44 (.slice none 0 0) 24:=⟨Tryz.underlying193,info_parts info_rowu,rfl,size_rowu⟩
def ptsOf (cs:List Int) (p:Pt):List Int:=p.fr :: insideF p.fr p.to cs
structure PtsR (cs:List Int) (w:World) (base:Nat) (A:Option Addr) (m c:Nat) (qs:List (Option Addr × Nat × Nat)) (ps:List Pt):Prop where
  row:OwS rowv w base 44 A m c qs
  each:∀ (i:Nat) (q:Option Addr × Nat × Nat) (p:Pt),qs[i]? = some q→ps[i]? = some p→OwS uv w base 23 q.1 q.2.1 q.2.2 (ptsOf cs p)
section
variable {cs:List Int} {w w' w8:World} {base m c:Nat} {A:Option Addr} {qs:List (Option Addr × Nat × Nat)} {ps:List Pt}
theorem PtsR.below (h:PtsR cs w base A m c qs ps) (hb:Below w.heap.size w w'):PtsR cs w' base A m c qs ps:=⟨h.row.below hb,fun i q p h1 h2=>(h.each i q p h1 h2).below hb⟩
theorem PtsR.base_le {base':Nat} (h:PtsR cs w base A m c qs ps) (hb:base'≤base):PtsR cs w base' A m c qs ps:=⟨h.row.base_le hb,fun i q p h1 h2=>(h.each i q p h1 h2).base_le hb⟩
theorem PtsR.more {A':Option Addr} {c':Nat} {q:Option Addr × Nat × Nat} {p:Pt} (h:PtsR cs w base A m c qs ps) (hl:ps.length=m) (hg:w.grownBy w8 (rowOf A)) (ho:OwS rowv w8 base 44 A' (m+1) c' (qs ++ [q])) (h2:OwS uv w base 23 q.1 q.2.1 q.2.2 (ptsOf cs p)):PtsR cs w8 base A' (m+1) c' (qs ++ [q]) (ps ++ [p]):=by
  have key:∀ {A:Option Addr} {n c:Nat} {xs:List Int},OwS uv w base 23 A n c xs→OwS uv w8 base 23 A n c xs:=fun o=>o.grown hg (fun g hA=>o.ow.apart h.row.ow (by decide) g hA)
  have hql:=h.row.len
  refine ⟨ho,fun i r u hr hu=>?_⟩
  by_cases hi:i < m
  · rw [List.getElem?_append_left (by omega)] at hr hu
    exact key (h.each i r u hr hu)
  · rw [List.getElem?_append_right (by omega)] at hr hu
    have e1:=List.mem_singleton.1 (List.mem_of_getElem? hr)
    have e2:=List.mem_singleton.1 (List.mem_of_getElem? hu)
    subst e1 e2
    exact key h2
end
def PoRel (cs:List Int) (ps:List Pt) (m:Nat) (W:World) (s i:Value) (wr:World):Prop :=
  ∃ (k c:Nat) (A:Option Addr) (qs:List (Option Addr × Nat × Nat)),k≤m∧i=.int .i64 k∧s=.slice A k c∧PtsR cs wr W.heap.size A k c qs (ps.take k)∧Below W.heap.size W wr
set_option maxRecDepth 100000 in
set_option maxHeartbeats 4000000 in
theorem points_any (A:Option Addr) (n c:Nat) (ns:List Nd) (A1:Option Addr) (n1 c1:Nat) (ps:List Pt) (w:World) (hr:NRd w w.heap.size A n c ns) (he:nmay (Nd.ls ns)=0) (hl:(ckeys (Nd.ls ns)).length≤100000) (hp:PRd w w.heap.size A1 n1 c1 ps) (hn1:n1≤100000) :
    Calls Tryz.prog 139 #[.agg #[.slice A n c],.slice A1 n1 c1] w (fun e w'=>∃ A' c' qs,e=.returned (.slice A' n1 c')∧PtsR (cutsOf (Nd.ls ns)) w' w.heap.size A' n1 c' qs ps∧Below w.heap.size w w'):=by
  have hNet:=netok_of hr he
  have hlen:=hr.len
  have hn:n≤256:=by have:=hNet.len;rw [Nd.ls_len] at this;omega
  have hcl:(cutsOf (Nd.ls ns)).length≤8193:=by have:=cuts_len (Nd.ls ns);have:=hNet.size;omega
  have k0:=below_alloc w (Nat.le_refl _) (.cells #[.slice A n c] 34)
  have b0:=(Box.new w #[.slice A n c] 34)
  obtain ⟨W0,hW0⟩:∃ W,w.alloc (.cells #[.slice A n c] 34)=W:=⟨_,rfl⟩
  rw [hW0] at k0 b0
  have k0s:=k0.size
  have K1:=Lib.hid (cuts_any A n c ns W0 hn hNet.size _ (hr.step k0) hl)
  have hp0:=hp.step k0
  have hpl:=hp.rd.len
  clear hr he hl hNet hlen hp
  go_enter Tryz.func139,Tryz.ntmps139
  go_upto_region 1 with fail
  clear hW0
  go_upto_region 2 with (first
    | ((with_reducible refine on_load (.tmp 2) ?_);refine wb_load rfl _ (.tmp 2) rfl st_net rfl b0 rfl ?_)
    | (go_at_call 22;refine (K1.out).mono ?_;rintro e w1 ⟨gc,m,cc,rfl,oc,hb1⟩))
  have hp1:=hp0.step hb1
  have k1:=k0.trans (hb1.mono k0s)
  have k1s:=k1.size
  have hml:=oc.len
  clear K1 b0
  go_upto_region 3 with ((with_reducible refine on_make ?_);refine wl_make0S (base:=w1.heap.size) rfl _ _ _ rfl el_rowu (f:=rowv) n1 rfl rfl rfl (by omega) (by omega) (Nat.le_refl _) ?_;intro gp W hgp ow0 hW)
  go_wp2
  go_loopw [6,16] (fun s i wr=>PoRel (cutsOf (Nd.ls ns)) ps n1 w1 s i wr) (fun _ i _=>n1 - (intOf i).toNat)
  case atStart=>exact ⟨0,n1,some ⟨gp,0,none⟩,[],by omega,rfl,rfl,⟨ow0,fun i q p h=>by simp at h⟩,hW⟩
  case round =>
    clear ow0 hW
    obtain ⟨k,cr,Ar,qs,hk,rfl,rfl,RR,hb⟩:=hrel
    have hbs:=hb.size
    have hpr:=hp1.step hb
    have ocr:=oc.below hb
    by_cases hlt:k < n1
    · obtain ⟨p,hpk⟩:∃ p,ps[k]? = some p:=⟨ps[k]'(by omega),List.getElem?_eq_getElem _⟩
      have hmo:=take_more hpk
      have hvl:(ps.take k).length=k:=by rw [List.length_take];omega
      have Hvl:=Lib.hid hvl
      have Hpk:=Lib.hid hpk
      have Hmo:=Lib.hid hmo
      clear hpk hmo hvl
      go_upto_region 6 with (first
        | ((with_reducible refine on_index (.tmp 14) ?_);refine wm_at Pt.cs_length rfl _ _ _ rfl el_part rfl rfl (by omega) (by omega) hpr.rd ?_;intro b1 j1 r1 hr1 hb1 hc1;have hxx:p=r1:=get_eq Hpk.out hr1.out (by omega);subst hxx)
        | ((with_reducible refine on_load (.tmp 18) ?_);refine wpt_load rfl _ _ rfl st_part rfl hc1 ?_)
        | ((with_reducible refine on_alloc ?_);refine wl_newBox rfl _ rfl z_part ?_;intro g8 w5 hg5 hl5 b5 hb5)
        | ((with_reducible refine on_store_at (.tmp 8) ?_);refine wb_store (cs:=#[.int .u32 0,.int .u32 0,.slice none 0 0]) (cs':=#[.int .u32 p.fr,.int .u32 p.to,.slice p.A p.n p.c]) rfl _ (.tmp 8) _ rfl st_part rfl rfl b5 rfl rfl (by simp [Value.oneCell']) ?_;intro w6 b6 hg6))
      have s5:=hb5.size
      have s6:=hg6.size
      have K6:Below wr.heap.size wr w6:=hb5.trans (below_of_grown hg6 (fun j e=>by injection e with e;omega) (by omega))
      have RR6:=RR.below K6
      have oc6:=ocr.below K6
      have y1:w6.cell? ⟨g8,0,none⟩=some (.int .u32 p.fr):=b6.cell 0
      have y2:w6.cell? ⟨g8,1,none⟩=some (.int .u32 p.to):=b6.cell 1
      have KI:=Lib.hid (cin_any _ m cc _ p.fr p.to w6 (by omega) _ oc6.rd)
      go_wp2_with (first
        | (go_at_call 158;refine (KI.out).mono ?_;rintro e w7 ⟨A7,n7,c7,rfl,o7,hb7⟩;have RR7:=RR6.below hb7;have s7:=hb7.size)
        | ((with_reducible refine on_append (.tmp 20) (.tmp 27) ?_);refine wl_appendS rfl (.tmp 20) (.tmp 27) _ rfl el_rowu (f:=rowv) rowv_one rfl (RR7.row.alloc (.cells #[.slice A7 n7 c7] 44)) rfl (OwS.lit (base:=w7.heap.size) (e:=44) (xs:=[(A7,n7,c7)]) w7 #[.slice A7 n7 c7] 1 (Nat.le_refl _) (by simp [maxLen]) rfl rfl).rd (by omega) (by omega) (by simp;omega) ?_;intro A8 c8 w8 ow8 hg8 hb8))
      have RR8:=(RR7.below (below_alloc w7 (Nat.le_refl _) (.cells #[.slice A7 n7 c7] 44))).more (p:=p) Hvl.out hg8 ow8 ((o7.base_le (by omega)).alloc (.cells #[.slice A7 n7 c7] 44))
      rw [← Hmo.out] at RR8
      have K7:Below w1.heap.size w1 w7:=hb.trans ((K6.trans (hb7.mono (by omega))).mono hbs)
      go_roundw
      case rel=>exact ⟨k+1,c8,A8,_,by omega,by go_num,rfl,RR8,(K7.alloc (by omega) _).trans hb8⟩
      case measure=>simp [intOf];omega
    · obtain rfl:k=n1:=by omega
      have h5:ps.take k=ps:=List.take_of_length_le (by omega)
      rw [h5] at RR
      go_wp2
      go_ret
      exact ⟨Ar,cr,qs,rfl,RR.base_le k1s,k1.trans (hb.mono k1s)⟩
set_option maxRecDepth 100000 in
theorem call_any (A:Option Addr) (n c:Nat) (ns:List Nd) (A1:Option Addr) (n1 c1:Nat) (ps:List Pt) (w:World) (hr:NRd w w.heap.size A n c ns) (he:nmay (Nd.ls ns)=0) (hl:(ckeys (Nd.ls ns)).length≤100000) (hp:PRd w w.heap.size A1 n1 c1 ps) (hn1:n1≤100000) (hm:pmeet ps=0) :
    Calls Tryz.prog 118 #[.agg #[.slice A n c],.slice A1 n1 c1] w (fun e w'=>∃ A' c' qs,e=.returned (.tuple #[.slice A' n1 c',.int .i64 0])∧PtsR (cutsOf (Nd.ls ns)) w' w.heap.size A' n1 c' qs ps∧Below w.heap.size w w'):=by
  have k0:=below_alloc w (Nat.le_refl _) (.cells #[.slice A n c] 34)
  have b0:=(Box.new w #[.slice A n c] 34)
  obtain ⟨W0,hW0⟩:∃ W,w.alloc (.cells #[.slice A n c] 34)=W:=⟨_,rfl⟩
  rw [hW0] at k0 b0
  have k0s:=k0.size
  have hr0:=hr.step k0
  have hp0:=hp.step k0
  have K1:=Lib.hid (meet_is A1 n1 c1 ps W0 (by omega) _ hp0.rd hp0.ok 0 hm)
  clear hr hp hm
  go_enter Tryz.func118,Tryz.ntmps118
  go_upto_region 1 with fail
  clear hW0
  go_upto_region 4 with (go_at_call 130;refine (K1.out).mono ?_;rintro e w1 ⟨rfl,hb1⟩)
  have b1:=b0.step hb1
  have s1:=hb1.size
  have k1:=k0.trans (hb1.mono k0s)
  have K2:=Lib.hid (points_any A n c ns A1 n1 c1 ps w1 ((hr0.step hb1).more (by omega)) he hl ((hp0.step hb1).more (by omega)) hn1)
  clear K1 b0 hl he
  go_wp2_with (first
    | ((with_reducible refine on_load (.tmp 2) ?_);refine wb_load rfl _ (.tmp 2) rfl st_net rfl b1 rfl ?_)
    | (go_at_call 139;refine (K2.out).mono ?_;rintro e w2 ⟨A',c',qs,rfl,RR,hb2⟩))
  go_ret2
  exact ⟨A',c',qs,rfl,RR.base_le (by omega),k1.trans (hb2.mono (by omega))⟩
end Go.Proofs.YtjandnidljbkoaaGreat
