/-
  What the walk of theseustop.TopGuards needs besides: a row of rules of a network of the call's own is appended to.
-/
import Derived.Test.YtjandnidljbkoaaGreatGTpMoreLaw
set_option linter.unusedVariables false
namespace Go.Th
open Go.RowKit
section
variable {P:Program} {ops:Array Oper} {rest:List Oper} {o:Oper} {a:Act} {Q:Exit→Act→World→Prop} {w:World} {α:Type} {f:α→List Value} {k:Nat}
theorem wm_appendA (hf:∀ x,(f x).length=k) (hw:Region.wanted o (yielded ops a.tmps)=true) (s x:Operand) (t:TypeId)
    (ho:o.op=.call { callee:=.builtin .append,args:=#[s,x],argTypes:=#[t,t] })
    {base E:Nat} {z:Value} {bytes:Nat} (el:ElM P t E z bytes k) (h1:∀ x,∀ u∈f x,u.oneCell' = true)
    {A:Option Addr} {n c:Nat} (hs:a.eval s=.slice A n c) {xs:List α} (hown:OwM f k w base E A n c xs)
    {B:Nat} {A':Option Addr} {m c':Nat} (hx:a.eval x=.slice A' m c') {ys:List α} (hr:RdM f w B A' m c' ys)
    (hbytes:(n+m) * bytes≤140737488355328) (hpos:0 < bytes) (hbase:base≤w.heap.size)
    (h:∀ A'' c'' w',OwM f k w' base E A'' (n+m) c'' (xs ++ ys)→w.grownBy w' (rowOf A)→Below base w w'→(A'' = A∨A'' = some ⟨w.heap.size,0,Option.none⟩)→wpList P ops Q rest (a.put o.dst (.slice A'' (n+m) c'')) w'):wpList P ops Q (o :: rest) a w:=by
  obtain ⟨i,hi,hz,hsize,hby⟩:=el.info
  have h63:n+m≤maxLen:=by
    have:=Nat.le_mul_of_pos_right (n+m) hpos
    simp only [maxLen];omega
  obtain ⟨A'',c'',w',hrun,h2,h3,h4⟩:=run_append (P:=P) (ty:=o.type) (c':=c') el.ht hi hz hsize hby el.cells el.pos hown.ow (news:=ys.flatMap f) (by rw [flat_length hf,hr.len]) hr.rd (by
    intro u hu
    obtain ⟨y,_,hu⟩:=List.mem_flatMap.1 hu
    exact h1 y u hu) h63 hbytes hbase
  refine wl_run hw ?_ (h A'' c'' w' ⟨by rw [← List.flatMap_append] at h2;exact h2,by have:=hown.len;have:=hr.len;simp;omega⟩ h3 ((Below.refl _ _).grown h3 hbase hown.ow.row_ge) h4)
  simp only [execOp,ho,resolve,invoke,builtin,Sem.run_bind,Sem.run_pure,Result.andThen,List.map_toArray,List.map_cons,List.map_nil,hs,hx,hrun]
end
section
variable {P:Program} {ops:Array Oper} {rest:List Oper} {o:Oper} {a:Act} {Q:Exit→Act→World→Prop} {w:World}
theorem wl_setV (hw:Region.wanted o (yielded ops a.tmps)=true) (T:TypeId) (x y:Operand) (ho:o.op=.store T x y) (hsz:∀ w,(sizeOf T).run P w=.ok 1 w)
    {g j n c base e:Nat} {xs:List Nd} (hx:a.eval x=.pointer (some ⟨g,j,none⟩)) (v:Nd) (hy:a.eval y=sv v)
    (hown:OwS sv w base e (some ⟨g,0,none⟩) n c xs) (hj:j < n)
    (h:∀ w',OwS sv w' base e (some ⟨g,0,none⟩) n c (xs.set j v)→w.grownBy w' (some g)→Below base w w'→wpList P ops Q rest (a.put o.dst undef) w'):wpList P ops Q (o :: rest) a w :=
  wl_store1 hw T x y ho hsz hx (v:=sv v) hy rfl rfl hown.ow hj fun w' h1 h2 h3=>h w' ⟨by rw [List.map_set];exact h1⟩ h2 h3
end
def GuS (g gy:Nat) (a:Addr):Prop:=a.block≤g∨a.block=gy
theorem guS_grown {w w':World} {g gy:Nat} {row:Option Nat} (hg:w.grownBy w' row) (hl:g < w.heap.size) (hy:gy < w.heap.size) (hr:∀ j,row=some j→g < j∧j≠gy):∀ a,GuS g gy a→w'.cell? a=w.cell? a:=by
  intro a ha
  have h1:a.block < w.heap.size∧some a.block≠row:=by
    rcases ha with e | e
    · exact ⟨by omega,fun h=>by have:=(hr a.block h.symm).1;omega⟩
    · exact ⟨by omega,fun h=>(hr a.block h.symm).2 e⟩
  have:=hg.block a.block h1.1 h1.2
  unfold World.cell?
  rw [this]
end Go.Th
namespace Go.Proofs.YtjandnidljbkoaaGreat
open Go.RowKit Go.Th
theorem OwM.row_lt {α:Type} {f:α→List Value} {k:Nat} {w:World} {base e n c:Nat} {A:Option Addr} {xs:List α} (h:OwM f k w base e A n c xs):∀ j,rowOf A=some j→j < w.heap.size:=by
  intro j hj
  rcases h.ow.form with ⟨rfl,_⟩ | ⟨g,rfl,_,hg⟩
  · cases hj
  · have:g=j:=by injection hj
    omega
def GuRel (nsa:List Nd) (v na cr g gr gx bs:Nat) (x:Ru) (l:List Ru) (W:World) (s i:Value) (wr:World):Prop :=
  ∃ (j:Nat) (put:Bool) (y:Nd),j≤l.length∧i=.int .i64 j∧s=.bool put∧Box wr g 34 #[.slice (some ⟨gr,0,none⟩) na cr]∧OwS sv wr bs 50 (some ⟨gr,0,none⟩) na cr (nsa.set v y) ∧
    OwM Ru.cs 4 wr (g+1) 52 y.A y.n y.c y.l∧Hid (Gr x l j put y.l)∧Below W.heap.size W wr
theorem two_nets {ls ls':List (List Ru)} (h:NetOk ls) (h':NetOk ls') (hl:ls.length=ls'.length) (hv:∀ a,0≤a→a≤4294967295→vecOf ls a=vecOf ls' a) {v v' d d':Int} {ps ps':List Pt} {tr tr':List Int}
    (k:(v=1∧d=0∧tr=[]∧AFree ls (ps.map pkey))∨(v=2∧ps=[]∧ALoop ls d tr)) (k':(v' = 1∧d' = 0∧tr' = []∧AFree ls' (ps'.map pkey))∨(v' = 2∧ps' = []∧ALoop ls' d' tr')) :
    v=v'∧d=d'∧tr=tr'∧ps.map pkey=ps'.map pkey∧CheckP ls v ps d tr∧CheckP ls' v ps d tr∧cmay v ps d tr ls.length=0∧(0≤d∧d≤4294967295):=by
  have ha:=atoms_same h h' hv
  rcases k with ⟨rfl,rfl,rfl,k⟩ | ⟨rfl,rfl,k⟩
  · rcases k' with ⟨rfl,rfl,rfl,k'⟩ | ⟨_,_,k'⟩
    · have hc:=afree_ok h k
      have hm:cmay 1 ps 0 [] ls.length=0:=by
        have h1:=hc.2
        rwa [cmayK_of] at h1
      refine ⟨rfl,rfl,rfl,afree_one h h' hl ha k k',?_,?_,hm,by omega⟩
      · refine .inl ⟨rfl,fun p hp=>?_⟩
        exact afree_holds h h rfl (fun _ _ _=>rfl) k (pkey p) (List.mem_map.2 ⟨p,hp,rfl⟩)
      · refine .inl ⟨rfl,fun p hp=>?_⟩
        exact afree_holds h h' hl hv k (pkey p) (List.mem_map.2 ⟨p,hp,rfl⟩)
    · exact (afree_aloop h h' hl ha k k').elim
  · rcases k' with ⟨_,_,_,k'⟩ | ⟨rfl,rfl,k'⟩
    · exact (afree_aloop h' h hl.symm ha.symm k' k).elim
    · obtain ⟨e1,e2⟩:=aloop_one h h' hl ha k k'
      have hc:=aloop_ok h k
      have hd:=cin_d hc.1
      have hm:cmay 2 [] d tr ls.length=0:=hc.2
      exact ⟨rfl,e1,e2,rfl,.inr ⟨rfl,aloop_holds h h rfl (fun _ _ _=>rfl) k⟩,.inr ⟨rfl,aloop_holds h h' hl hv k⟩,hm,hd⟩
end Go.Proofs.YtjandnidljbkoaaGreat
