/-
  Atoms: the plain law, and how they lie in memory while they are made.
-/
import Derived.Test.YtjandnidljbkoaaGreatGTpPlace
set_option linter.unusedVariables false
namespace Go.Th
open Go.RowKit
structure AtS where
  fr:List Int
  wh:List Int
  vs:List (List Int)
  last:Int
def AtS.nil:AtS:=⟨[],[],[],-1⟩
def AtS.step (s:AtS) (v:List Int) (a:Int):AtS :=
  match plc s.vs v with
  | none=>⟨s.fr ++ [a],s.wh ++ [(s.vs.length:Int)],s.vs ++ [v],s.vs.length⟩
  | some p=>if (p:Int)=s.last then s else ⟨s.fr ++ [a],s.wh ++ [(p:Int)],s.vs,p⟩
def atGo (f:Int→List Int) (cs:List Int):AtS:=cs.foldl (fun s a=>s.step (f a) a) AtS.nil
theorem atGo_more {f:Int→List Int} {cs:List Int} {k:Nat} {a:Int} (h:cs[k]? = some a):atGo f (cs.take (k+1))=(atGo f (cs.take k)).step (f a) a:=by
  unfold atGo
  rw [take_more h,List.foldl_append]
  rfl
theorem AtS.step_none {s:AtS} {v:List Int} {a:Int} (h:plc s.vs v=none):s.step v a=⟨s.fr ++ [a],s.wh ++ [(s.vs.length:Int)],s.vs ++ [v],s.vs.length⟩:=by
  unfold AtS.step
  rw [h]
theorem AtS.step_some {s:AtS} {v:List Int} {a:Int} {p:Nat} (h:plc s.vs v=some p) (hp:(p:Int)≠s.last):s.step v a=⟨s.fr ++ [a],s.wh ++ [(p:Int)],s.vs,p⟩:=by
  unfold AtS.step
  rw [h]
  exact if_neg hp
theorem AtS.step_same {s:AtS} {v:List Int} {a:Int} {p:Nat} (h:plc s.vs v=some p) (hp:(p:Int)=s.last):s.step v a=s:=by
  unfold AtS.step
  rw [h]
  exact if_pos hp
def vrow (n:Nat) (g:Nat):Value:=.slice (some ⟨g,0,none⟩) n n
theorem vrow_one (n g:Nat):(vrow n g).oneCell' = true:=rfl
structure Kp (BL gx b:Nat) (w w':World):Prop where
  os:w'.os=w.os
  tape:w'.tape=w.tape
  output:w'.output=w.output
  size:w.heap.size≤w'.heap.size
  block:∀ k,k < BL→k≠gx→k≠b→w'.heap[k]? = w.heap[k]?
section
variable {BL gx b:Nat} {w w' w'':World}
theorem Kp.refl (BL gx b:Nat) (w:World):Kp BL gx b w w:=⟨rfl,rfl,rfl,Nat.le_refl _,fun _ _ _ _=>rfl⟩
theorem Kp.below (h:Kp BL gx b w w') (hb:Below w'.heap.size w' w'') (hB:BL≤w'.heap.size):Kp BL gx b w w'' :=
  ⟨hb.os.trans h.os,hb.tape.trans h.tape,hb.output.trans h.output,Nat.le_trans h.size hb.size,fun k hk h1 h2=>(hb.block k (by omega)).trans (h.block k hk h1 h2)⟩
theorem Kp.grown {row:Option Nat} (h:Kp BL gx b w w') (hg:w'.grownBy w'' row) (hB:BL≤w'.heap.size) (hr:∀ k,row=some k→k=gx∨k=b∨BL≤k):Kp BL gx b w w'' :=
  ⟨hg.os.trans h.os,hg.tape.trans h.tape,hg.output.trans h.output,Nat.le_trans h.size hg.size,fun k hk h1 h2=>(hg.block k (by omega) (fun e=>by rcases hr k e.symm with h | h | h <;> omega)).trans (h.block k hk h1 h2)⟩
theorem Kp.out (h:Kp BL gx b w w') {B:Nat} (h1:B≤BL) (h2:B≤gx) (h3:B≤b):Below B w w' :=
  ⟨h.os,h.tape,h.output,h.size,fun k hk=>h.block k (by omega) (by omega) (by omega)⟩
theorem OwS.kp {α:Type} {f:α→Value} {base e n c g:Nat} {xs:List α} (h:OwS f w base e (some ⟨g,0,none⟩) n c xs) (k:Kp BL gx b w w') (h1:g < BL) (h2:g≠gx) (h3:g≠b):OwS f w' base e (some ⟨g,0,none⟩) n c xs:=by
  refine ⟨⟨h.ow.own.1,?_⟩⟩
  rcases h.ow.own.2 with h4 | ⟨g',cap,cur,hv,hbg,hg,r⟩
  · exact .inl h4
  · refine .inr ⟨g',cap,cur,hv,hbg,?_,r⟩
    injection hv with hA
    injection hA with hA
    injection hA with hA
    subst hA
    exact (k.block g h1 h2 h3).trans hg
end
structure AoS (tA tU tI tV:TypeId) (P:Program) (kt et:TypeId) (W:World) (BL gx b n:Nat) (w:World) (A1:Option Addr) (n1 c1:Nat) (A2:Option Addr) (n2 c2:Nat) (A3:Option Addr) (n3 c3:Nat) (fr wh:List Int) (vs:List (List Int)) (gs:List Nat) (nn:Nat) (ks:List (List UInt8)):Prop where
  box:Box w gx tA #[.slice A1 n1 c1,.slice A2 n2 c2,.slice A3 n3 c3]
  oF:OwS uv w BL tU A1 n1 c1 fr
  oW:OwS iv w BL tI A2 n2 c2 wh
  oV:OwS (vrow n) w BL tV A3 n3 c3 gs
  len:vs.length=n3
  vec:∀ p∈gs.zip vs,OwS iv w BL tI (some ⟨p.1,0,none⟩) n n p.2
  ne:∀ g∈gs,rowOf A2≠some g
  map:MapP w P kt et b nn ks
  kp:Kp BL gx b W w
  lg:gx < BL
  lb:b < BL
  nb:gx≠b
  sz:BL≤w.heap.size
section
variable {tA tU tI tV:TypeId} {P:Program} {kt et:TypeId} {W:World} {BL gx b n:Nat} {w w' w8:World} {A1 A2 A3:Option Addr} {n1 c1 n2 c2 n3 c3:Nat} {fr wh:List Int} {vs:List (List Int)} {gs:List Nat} {nn:Nat} {ks:List (List UInt8)}
theorem AoS.below (h:AoS tA tU tI tV P kt et W BL gx b n w A1 n1 c1 A2 n2 c2 A3 n3 c3 fr wh vs gs nn ks) (hb:Below w.heap.size w w'):AoS tA tU tI tV P kt et W BL gx b n w' A1 n1 c1 A2 n2 c2 A3 n3 c3 fr wh vs gs nn ks :=
  ⟨h.box.step hb,h.oF.below hb,h.oW.below hb,h.oV.below hb,h.len,fun p hp=>(h.vec p hp).below hb,h.ne,h.map.step hb,h.kp.below hb h.sz,h.lg,h.lb,h.nb,Nat.le_trans h.sz hb.size⟩
theorem AoS.lt (h:AoS tA tU tI tV P kt et W BL gx b n w A1 n1 c1 A2 n2 c2 A3 n3 c3 fr wh vs gs nn ks):∀ g∈gs,g < w.heap.size:=fun g hg=>by
  obtain ⟨i,hi⟩:=List.mem_iff_getElem?.1 hg
  have hl:=(List.getElem?_eq_some_iff.1 hi).1
  have hgl:=h.oV.len
  have hln:=h.len
  obtain ⟨v,hv⟩:∃ v,vs[i]? = some v:=⟨vs[i]'(by omega),List.getElem?_eq_getElem _⟩
  exact ((h.vec (g,v) (List.mem_iff_getElem?.2 ⟨i,by rw [List.getElem?_zip_eq_some];exact ⟨hi,hv⟩⟩)).ow.form.resolve_left (by simp)).elim fun g' hx=>by obtain ⟨e,_,hlt⟩:=hx;injection e with e;injection e with e;subst e;exact hlt
theorem AoS.put (h:AoS tA tU tI tV P kt et W BL gx b n w A1 n1 c1 A2 n2 c2 A3 n3 c3 fr wh vs gs nn ks) {nn':Nat} {ks':List (List UInt8)} (hm:MapP w' P kt et b nn' ks') (hg:w.grownBy w' (some b)):AoS tA tU tI tV P kt et W BL gx b n w' A1 n1 c1 A2 n2 c2 A3 n3 c3 fr wh vs gs nn' ks':=by
  have key:∀ {α:Type} {f:α→Value} {e n c:Nat} {A:Option Addr} {xs:List α},OwS f w BL e A n c xs→OwS f w' BL e A n c xs:=fun q =>
    q.grown hg (fun g hA e=>by have:=q.ow.row_ge g (by rw [hA];rfl);have:=h.lb;injection e with e;omega)
  exact ⟨h.box.grown hg (fun e=>h.nb (by injection e with e;exact e.symm)),key h.oF,key h.oW,key h.oV,h.len,fun p hp=>key (h.vec p hp),h.ne,hm,h.kp.grown hg h.sz (fun k e=>.inr (.inl (by injection e with e;exact e.symm))),h.lg,h.lb,h.nb,Nat.le_trans h.sz hg.size⟩
theorem rowOf_ge {w:World} {base e k n c:Nat} {A:Option Addr} {xs:List Value} (h:Ow w base e k A n c xs) {j:Nat} (hj:j < base):rowOf A≠some j:=fun e=>by
  have:=h.row_ge j e
  omega
theorem AoS.addF (h:AoS tA tU tI tV P kt et W BL gx b n w A1 n1 c1 A2 n2 c2 A3 n3 c3 fr wh vs gs nn ks) (h1:tI≠tU) (h2:tV≠tU) {A1':Option Addr} {c1':Nat} {a:Int} (hg:w.grownBy w8 (rowOf A1)) (ho:OwS uv w8 BL tU A1' (n1+1) c1' (fr ++ [a])) :
    AoS tA tU tI tV P kt et W BL gx b n (w8.setCell ⟨gx,0,none⟩ (.slice A1' (n1+1) c1')) A1' (n1+1) c1' A2 n2 c2 A3 n3 c3 (fr ++ [a]) wh vs gs nn ks∧w8.cell? ⟨gx,0,none⟩=some (.slice A1 n1 c1)∧w8.frozen? ⟨gx,0,none⟩=false:=by
  have hb:=h.box.grown hg (rowOf_ge h.oF.ow h.lg)
  have S:=hb.setCell 0 (.slice A1' (n1+1) c1')
  have key:∀ {α:Type} {f:α→Value} {e n c:Nat} {A:Option Addr} {xs:List α},OwS f w8 BL e A n c xs→OwS f (w8.setCell ⟨gx,0,none⟩ (.slice A1' (n1+1) c1')) BL e A n c xs:=fun q =>
    q.grown S.2 (fun g hA e=>by have:=q.ow.row_ge g (by rw [hA];rfl);have:=h.lg;injection e with e;omega)
  refine ⟨⟨S.1,key ho,key (h.oW.grown hg (fun g hA=>h.oW.ow.apart h.oF.ow h1 g hA)),key (h.oV.grown hg (fun g hA=>h.oV.ow.apart h.oF.ow h2 g hA)),h.len,fun p hp=>key ((h.vec p hp).grown hg (fun g hA=>(h.vec p hp).ow.apart h.oF.ow h1 g hA)),h.ne,(h.map.grown hg (rowOf_ge h.oF.ow h.lb)).grown S.2 (fun e=>h.nb (by injection e)),?_,h.lg,h.lb,h.nb,?_⟩,hb.cell 0,hb.frozen 0⟩
  · exact (h.kp.grown hg h.sz (fun k e=>.inr (.inr (h.oF.ow.row_ge k e)))).grown S.2 (Nat.le_trans h.sz hg.size) (fun k e=>.inl (by injection e with e;exact e.symm))
  · exact Nat.le_trans (Nat.le_trans h.sz hg.size) S.2.size
theorem AoS.addW (h:AoS tA tU tI tV P kt et W BL gx b n w A1 n1 c1 A2 n2 c2 A3 n3 c3 fr wh vs gs nn ks) (h1:tU≠tI) (h2:tV≠tI) {A2':Option Addr} {c2':Nat} {a:Int} (hg:w.grownBy w8 (rowOf A2)) (ho:OwS iv w8 BL tI A2' (n2+1) c2' (wh ++ [a])) (hA:A2' = A2∨A2' = some ⟨w.heap.size,0,none⟩) :
    AoS tA tU tI tV P kt et W BL gx b n (w8.setCell ⟨gx,1,none⟩ (.slice A2' (n2+1) c2')) A1 n1 c1 A2' (n2+1) c2' A3 n3 c3 fr (wh ++ [a]) vs gs nn ks∧w8.cell? ⟨gx,1,none⟩=some (.slice A2 n2 c2)∧w8.frozen? ⟨gx,1,none⟩=false:=by
  have hb:=h.box.grown hg (rowOf_ge h.oW.ow h.lg)
  have S:=hb.setCell 1 (.slice A2' (n2+1) c2')
  have key:∀ {α:Type} {f:α→Value} {e n c:Nat} {A:Option Addr} {xs:List α},OwS f w8 BL e A n c xs→OwS f (w8.setCell ⟨gx,1,none⟩ (.slice A2' (n2+1) c2')) BL e A n c xs:=fun q =>
    q.grown S.2 (fun g hA e=>by have:=q.ow.row_ge g (by rw [hA];rfl);have:=h.lg;injection e with e;omega)
  refine ⟨⟨S.1,key (h.oF.grown hg (fun g hA=>h.oF.ow.apart h.oW.ow h1 g hA)),key ho,key (h.oV.grown hg (fun g hA=>h.oV.ow.apart h.oW.ow h2 g hA)),h.len,fun p hp=>key ((h.vec p hp).grown hg (fun g hA e=>h.ne p.1 (List.of_mem_zip hp).1 ?_)),fun g hgm e=>?_,(h.map.grown hg (rowOf_ge h.oW.ow h.lb)).grown S.2 (fun e=>h.nb (by injection e)),?_,h.lg,h.lb,h.nb,?_⟩,hb.cell 1,hb.frozen 1⟩
  · injection hA with hA
    injection hA with hA
    rw [hA];exact e
  · rcases hA with rfl | rfl
    · exact h.ne g hgm e
    · have:=h.lt g hgm
      injection e with e
      simp at e
      omega
  · exact (h.kp.grown hg h.sz (fun k e=>.inr (.inr (h.oW.ow.row_ge k e)))).grown S.2 (Nat.le_trans h.sz hg.size) (fun k e=>.inl (by injection e with e;exact e.symm))
  · exact Nat.le_trans (Nat.le_trans h.sz hg.size) S.2.size
theorem AoS.addV (h:AoS tA tU tI tV P kt et W BL gx b n w A1 n1 c1 A2 n2 c2 A3 n3 c3 fr wh vs gs nn ks) (h1:tU≠tV) (h2:tI≠tV) {A3':Option Addr} {c3' g:Nat} {v:List Int} (hv:OwS iv w BL tI (some ⟨g,0,none⟩) n n v) (hn:rowOf A2≠some g) (hg:w.grownBy w8 (rowOf A3)) (ho:OwS (vrow n) w8 BL tV A3' (n3+1) c3' (gs ++ [g])) :
    AoS tA tU tI tV P kt et W BL gx b n (w8.setCell ⟨gx,2,none⟩ (.slice A3' (n3+1) c3')) A1 n1 c1 A2 n2 c2 A3' (n3+1) c3' fr wh (vs ++ [v]) (gs ++ [g]) nn ks∧w8.cell? ⟨gx,2,none⟩=some (.slice A3 n3 c3)∧w8.frozen? ⟨gx,2,none⟩=false:=by
  have hb:=h.box.grown hg (rowOf_ge h.oV.ow h.lg)
  have S:=hb.setCell 2 (.slice A3' (n3+1) c3')
  have key:∀ {α:Type} {f:α→Value} {e n c:Nat} {A:Option Addr} {xs:List α},OwS f w8 BL e A n c xs→OwS f (w8.setCell ⟨gx,2,none⟩ (.slice A3' (n3+1) c3')) BL e A n c xs:=fun q =>
    q.grown S.2 (fun g hA e=>by have:=q.ow.row_ge g (by rw [hA];rfl);have:=h.lg;injection e with e;omega)
  have key2:∀ {A:Option Addr} {c m:Nat} {xs:List Int},OwS iv w BL tI A m c xs→OwS iv (w8.setCell ⟨gx,2,none⟩ (.slice A3' (n3+1) c3')) BL tI A m c xs:=fun hq=>key (hq.grown hg (fun g hA=>hq.ow.apart h.oV.ow h2 g hA))
  refine ⟨⟨S.1,key (h.oF.grown hg (fun g hA=>h.oF.ow.apart h.oV.ow h1 g hA)),key2 h.oW,key ho,by simp [h.len],fun p hp=>?_,fun k hk=>?_,(h.map.grown hg (rowOf_ge h.oV.ow h.lb)).grown S.2 (fun e=>h.nb (by injection e)),?_,h.lg,h.lb,h.nb,?_⟩,hb.cell 2,hb.frozen 2⟩
  · have hgl:=h.oV.len
    rw [List.zip_append (by rw [hgl,h.len])] at hp
    rcases List.mem_append.1 hp with hp | hp
    · exact key2 (h.vec p hp)
    · simp at hp
      subst hp
      exact key2 hv
  · rcases List.mem_append.1 hk with hk | hk
    · exact h.ne k hk
    · simp at hk
      subst hk
      exact hn
  · exact (h.kp.grown hg h.sz (fun k e=>.inr (.inr (h.oV.ow.row_ge k e)))).grown S.2 (Nat.le_trans h.sz hg.size) (fun k e=>.inl (by injection e with e;exact e.symm))
  · exact Nat.le_trans (Nat.le_trans h.sz hg.size) S.2.size
end
end Go.Th
