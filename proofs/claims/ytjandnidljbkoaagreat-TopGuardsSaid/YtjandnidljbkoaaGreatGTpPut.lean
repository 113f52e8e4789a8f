/-
  The trie: put, hang, Build: a tree with a hole in memory. ! ### Spans compared
-/
import Derived.Test.YtjandnidljbkoaaGreatGTpTrie
import Derived.Deep.DeepCutAuto
set_option linter.unusedVariables false
namespace Go.Th
open Go.RowKit
structure Fr where
  b:Nat
  a:Int
  n:Nat
  rl:Ru
  is:Bool
  s:Bool
  o:Tr
def Fr.cells (f:Fr) (v:Value):Array Value:=if f.s then forkC f.a f.n f.rl f.is f.o.ptr v else forkC f.a f.n f.rl f.is v f.o.ptr
def Fr.at_ (f:Fr):Nat:=if f.s then 8 else 7
def Fr.fill (f:Fr) (t:Tr):Tr:=if f.s then .node f.b f.a f.n f.rl f.is f.o t else .node f.b f.a f.n f.rl f.is t f.o
def plug:List Fr→Tr→Tr
  | [],t=>t
  | f :: cx,t=>plug cx (f.fill t)
def Fr.ptr (f:Fr):Value:=.pointer (some ⟨f.b,0,none⟩)
def rootv:List Fr→Value→Value
  | [],v=>v
  | f :: cx,_=>rootv cx f.ptr
theorem fill_ptr (f:Fr) (t:Tr):(f.fill t).ptr=f.ptr:=by unfold Fr.fill;split <;> rfl
theorem rootv_plug:∀ (cx:List Fr) (t:Tr),(plug cx t).ptr=rootv cx t.ptr
  | [],t=>rfl
  | f :: cx,t=>by rw [plug,rootv,rootv_plug cx,fill_ptr]
def FAt (T:TypeId) (w:World):List Fr→Value→Prop
  | [],_=>True
  | f :: cx,v=>Box w f.b T (f.cells v)∧TAt T w f.o∧FAt T w cx f.ptr
def fbs:List Fr→List Nat
  | []=>[]
  | f :: cx=>f.b :: (f.o.bs ++ fbs cx)
theorem fill_at {T:TypeId} {w:World} (f:Fr) (t:Tr):TAt T w (f.fill t)↔Box w f.b T (f.cells t.ptr)∧TAt T w f.o∧TAt T w t:=by
  unfold Fr.fill Fr.cells
  split
  · exact Iff.rfl
  · exact ⟨fun ⟨h1,h2,h3⟩=>⟨h1,h3,h2⟩,fun ⟨h1,h2,h3⟩=>⟨h1,h3,h2⟩⟩
theorem plug_at {T:TypeId} {w:World}:∀ (cx:List Fr) (t:Tr),TAt T w (plug cx t)↔FAt T w cx t.ptr∧TAt T w t
  | [],t=>⟨fun h=>⟨trivial,h⟩,fun h=>h.2⟩
  | f :: cx,t=>by
    rw [plug,plug_at cx,fill_ptr,fill_at,FAt]
    exact ⟨fun ⟨h1,h2,h3,h4⟩=>⟨⟨h2,h3,h1⟩,h4⟩,fun ⟨⟨h2,h3,h1⟩,h4⟩=>⟨h1,h2,h3,h4⟩⟩
theorem FAt.step {T:TypeId} {w w':World} (hb:Below w.heap.size w w'):∀ {cx:List Fr} {v:Value},FAt T w cx v→FAt T w' cx v
  | [],_,_=>trivial
  | f :: cx,_,⟨h1,h2,h3⟩=>⟨h1.step hb,TAt.step hb h2,FAt.step hb h3⟩
theorem FAt.grown {T:TypeId} {w w':World} {g:Nat} (hg:w.grownBy w' (some g)):∀ {cx:List Fr} {v:Value},FAt T w cx v→g ∉ fbs cx→FAt T w' cx v
  | [],_,_,_=>trivial
  | f :: cx,_,⟨h1,h2,h3⟩,hn=>by
    simp only [fbs,List.mem_cons,List.mem_append,not_or] at hn
    exact ⟨h1.grown hg (fun e=>by injection e with e;exact hn.1 e),TAt.grown hg h2 hn.2.1,FAt.grown hg h3 hn.2.2⟩
theorem FAt.lt {T:TypeId} {w:World}:∀ {cx:List Fr} {v:Value},FAt T w cx v→∀ b∈fbs cx,b < w.heap.size
  | [],_,_,b,hb=>by cases hb
  | f :: cx,_,⟨h1,h2,h3⟩,b,hb=>by
    simp only [fbs,List.mem_cons,List.mem_append] at hb
    rcases hb with rfl | hb | hb
    · exact h1.lt
    · exact TAt.lt h2 b hb
    · exact FAt.lt h3 b hb
theorem Fr.cells_set (f:Fr) (v v':Value):(f.cells v).setIfInBounds f.at_ v' = f.cells v':=by
  unfold Fr.cells Fr.at_
  split <;> rfl
theorem Fr.cells_at (f:Fr) (v:Value):(f.cells v)[f.at_]? = some v:=by
  unfold Fr.cells Fr.at_
  split <;> rfl
structure ZH (TT T:TypeId) (w:World) (gt:Nat) (cx:List Fr) (v:Value) (size:Int):Prop where
  top:Box w gt TT #[rootv cx v,.int .i64 size]
  fr:FAt T w cx v
  ne:gt ∉ fbs cx
  nd:(fbs cx).Nodup
def holeB (gt:Nat):List Fr→Nat
  | []=>gt
  | f :: _=>f.b
def holeJ:List Fr→Nat
  | []=>0
  | f :: _=>f.at_
section
variable {TT T:TypeId} {w w':World} {gt:Nat} {cx:List Fr} {v v':Value} {size:Int}
theorem ZH.step (h:ZH TT T w gt cx v size) (hb:Below w.heap.size w w'):ZH TT T w' gt cx v size:=⟨h.top.step hb,FAt.step hb h.fr,h.ne,h.nd⟩
theorem ZH.grown {g:Nat} (h:ZH TT T w gt cx v size) (hg:w.grownBy w' (some g)) (h1:g≠gt) (h2:g ∉ fbs cx):ZH TT T w' gt cx v size :=
  ⟨h.top.grown hg (fun e=>by injection e with e;exact h1 e),FAt.grown hg h.fr h2,h.ne,h.nd⟩
theorem ZH.cell (h:ZH TT T w gt cx v size):w.cell? ⟨holeB gt cx,holeJ cx,none⟩=some v∧w.frozen? ⟨holeB gt cx,holeJ cx,none⟩=false:=by
  cases cx with
  | nil=>exact ⟨h.top.cell 0,h.top.frozen 0⟩
  | cons f cx=>exact ⟨(h.fr.1.cell _).trans (f.cells_at v),h.fr.1.frozen _⟩
theorem ZH.write (h:ZH TT T w gt cx v size) (v':Value):ZH TT T (w.setCell ⟨holeB gt cx,holeJ cx,none⟩ v') gt cx v' size∧w.grownBy (w.setCell ⟨holeB gt cx,holeJ cx,none⟩ v') (some (holeB gt cx)):=by
  cases cx with
  | nil =>
    have S:=h.top.setCell 0 v'
    exact ⟨⟨S.1,trivial,h.ne,h.nd⟩,S.2⟩
  | cons f cx =>
    obtain ⟨h1,h2,h3⟩:=h.fr
    have S:=h1.setCell f.at_ v'
    rw [f.cells_set] at S
    have hne:=h.ne
    have hnd:=h.nd
    simp only [fbs,List.mem_cons,List.mem_append,not_or] at hne
    simp only [fbs,List.nodup_cons,List.mem_append,not_or] at hnd
    exact ⟨⟨h.top.grown S.2 (fun e=>by injection e with e;exact hne.1 e.symm),⟨S.1,TAt.grown S.2 h2 hnd.1.1,FAt.grown S.2 h3 hnd.1.2⟩,h.ne,h.nd⟩,S.2⟩
theorem ZH.many (h:ZH TT T w gt cx v size):w.cell? ⟨gt,1,none⟩=some (.int .i64 size)∧w.frozen? ⟨gt,1,none⟩=false:=⟨h.top.cell 1,h.top.frozen 1⟩
theorem ZH.sized (h:ZH TT T w gt cx v size) (z:Int):ZH TT T (w.setCell ⟨gt,1,none⟩ (.int .i64 z)) gt cx v z∧w.grownBy (w.setCell ⟨gt,1,none⟩ (.int .i64 z)) (some gt):=by
  have S:=h.top.setCell 1 (.int .i64 z)
  exact ⟨⟨S.1,FAt.grown S.2 h.fr h.ne,h.ne,h.nd⟩,S.2⟩
end
end Go.Th
namespace Go.Proofs.YtjandnidljbkoaaGreat
open Go.RowKit Go.Th
theorem z_span:(Tryz.prog.info? 120).map (fun i=>(i.zero.map Value.cells,i.size))=some (some #[.int .u32 0,.int .i64 0],2):=by kernel_rfl
def HangR (base gt:Nat) (cx:List Fr) (r:Ru) (fb:Nat) (sz:Int) (s:Tr) (w:World) (e:Ending) (w':World):Prop :=
  e=.returned (.tuple #[])∧∃ (b2:Nat) (size:Int),w.heap.size≤b2∧ZH 115 123 w' gt cx (hangT r fb b2 s).ptr size∧0≤size∧size≤sz+2∧TAt 123 w' (hangT r fb b2 s)∧Below base w w'
set_option maxRecDepth 100000 in
set_option maxHeartbeats 1000000 in
theorem hang_nil (base gt:Nat) (cx:List Fr) (r:Ru) (fb:Nat) (size:Int) (w:World) (hz:ZH 115 123 w gt cx Tr.nil.ptr size) (hs:0≤size∧size≤1000000) (hf:Box w fb 123 (forkC r.a r.n.toNat r true Tr.nil.ptr Tr.nil.ptr)) (hne:fb≠gt∧fb ∉ fbs cx) (hb:base≤gt∧base≤holeB gt cx∧base≤w.heap.size) :
    Calls Tryz.prog 108 #[.pointer (some ⟨gt,0,none⟩),.pointer (some ⟨holeB gt cx,holeJ cx,none⟩),.pointer (some ⟨fb,0,none⟩)] w (HangR base gt cx r fb size .nil w):=by
  obtain ⟨c1,fz1⟩:=hz.cell
  have S:=hz.write (.pointer (some ⟨fb,0,none⟩))
  obtain ⟨pb,hpb⟩:∃ b,holeB gt cx=b:=⟨_,rfl⟩
  obtain ⟨pj,hpj⟩:∃ b,holeJ cx=b:=⟨_,rfl⟩
  rw [hpb,hpj] at c1 fz1 S ⊢
  rw [hpb] at hb
  have c2:=S.1.many
  obtain ⟨W,hW⟩:∃ W,w.setCell ⟨pb,pj,none⟩ (.pointer (some ⟨fb,0,none⟩))=W:=⟨_,rfl⟩
  rw [hW] at S c2
  obtain ⟨c2,fz2⟩:=c2
  have S2:=S.1.sized (size+1)
  change w.cell? ⟨pb,pj,none⟩=some (.pointer none) at c1
  have hpf:pb≠fb:=by
    rw [← hpb]
    cases cx with
    | nil=>exact fun e=>hne.1 e.symm
    | cons f cx=>exact fun e=>hne.2 (by simp [fbs,← e,holeB])
  have f1:=hf.grown S.2 (fun e=>by injection e with e;exact hpf e)
  have f2:=f1.grown S2.2 (fun e=>by injection e with e;exact hne.1 e.symm)
  have B1:=below_of_grown (B:=base) S.2 (fun j e=>by injection e with e;omega) hb.2.2
  have B2:=B1.trans (below_of_grown (B:=base) S2.2 (fun j e=>by injection e with e;omega) (Nat.le_trans hb.2.2 B1.size))
  have Z2:=Lib.hid S2.1
  clear S S2 hz hpb hpj f1 B1 hf
  go_enter Tryz.func108,Tryz.ntmps108
  go_wp2
  refine bodyPost_ret (results_none rfl _ _ _) rfl ?_
  exact ⟨rfl,w.heap.size,size+1,Nat.le_refl _,Z2.out,by omega,by omega,⟨f2,trivial,trivial⟩,B2⟩
theorem eq_span (a:Int) (n:Nat) (b:Int) (m:Nat) (w:World):(Op.equalIn 10000 120 (.agg #[.int .u32 a,.int .i64 (n:Int)]) (.agg #[.int .u32 b,.int .i64 (m:Int)])).run Tryz.prog w=.ok (decide (a=b∧n=m)) w:=by
  have hS:Tryz.prog.underlying 120=some (.struct (Tryz.prog.fieldsOf 120)):=by kernel_rfl
  have hp:Tryz.prog.stoodInHeld 120=false:=by kernel_rfl
  rw [show (10000:Nat)=9999+1 from rfl,run_equalIn_agg w 9999 120 _ _ hS hp]
  simp only [Program.fieldsOf,Tryz.underlying120]
  go_simp
  by_cases h1:a=b <;> by_cases h2:n=m <;> simp [h1,h2] <;> omega
theorem guard_span:Tryz.prog.eqGuardType Tryz.prog.depth 120=false:=by kernel_rfl
section
variable {ops:Array Oper} {rest:List Oper} {o:Oper} {a:Act} {C:World→Prop} {Q:Act→Prop}
theorem wq_neqS (hw:Region.wanted o (yielded ops a.tmps)=true) (x y:Operand) {T2:TypeId} (ho:o.op=.binOp .neq 120 x y T2) {p q:Int} {n m:Nat} (hx:a.eval x=.agg #[.int .u32 p,.int .i64 (n:Int)]) (hy:a.eval y=.agg #[.int .u32 q,.int .i64 (m:Int)])
    (h:wpQuiet Tryz.prog ops C Q rest (a.put o.dst (.bool (!(decide (p=q∧n=m)))))):wpQuiet Tryz.prog ops C Q (o :: rest) a:=by
  refine wq_run hw (fun w hC=>?_) h
  have e:=eq_span p n q m w
  simp only [execOp,ho,hx,hy]
  simp [run_eqGuard_agg w .neq 120 x y _ _ guard_span,run_neq_struct,e]
theorem wq_eqlS (hw:Region.wanted o (yielded ops a.tmps)=true) (x y:Operand) {T2:TypeId} (ho:o.op=.binOp .eql 120 x y T2) {p q:Int} {n m:Nat} (hx:a.eval x=.agg #[.int .u32 p,.int .i64 (n:Int)]) (hy:a.eval y=.agg #[.int .u32 q,.int .i64 (m:Int)])
    (h:wpQuiet Tryz.prog ops C Q rest (a.put o.dst (.bool (decide (p=q∧n=m))))):wpQuiet Tryz.prog ops C Q (o :: rest) a:=by
  refine wq_run hw (fun w hC=>?_) h
  have e:=eq_span p n q m w
  simp only [execOp,ho,hx,hy]
  simp [run_eqGuard_agg w .eql 120 x y _ _ guard_span,run_eql_struct,e]
theorem wq_spload (hw:Region.wanted o (yielded ops a.tmps)=true) (x:Operand) (ho:o.op=.load 120 x) {b:Nat} {p:Int} {n:Nat} (hx:a.eval x=.pointer (some ⟨b,0,none⟩)) (hb:∀ w,C w→w.cell? ⟨b,0,none⟩=some (.int .u32 p)∧w.cell? ⟨b,1,none⟩=some (.int .i64 (n:Int)))
    (h:wpQuiet Tryz.prog ops C Q rest (a.put o.dst (.agg #[.int .u32 p,.int .i64 (n:Int)]))):wpQuiet Tryz.prog ops C Q (o :: rest) a :=
  wq_run hw (fun w hC=>by simp only [execOp,ho,hx,Instr.loadAt,Instr.sureAddr,Sem.run_bind,Sem.run_pure,Result.andThen_ok,run_loadVar_at st_span (cs:=[.int .u32 p,.int .i64 (n:Int)]) rfl (fun i u hu=>by
    match i,hu with
    | 0,hu=>injection hu with hu;subst hu;exact (hb w hC).1
    | 1,hu=>injection hu with hu;subst hu;exact (hb w hC).2)]) h
end
theorem onq_bin (x:Operand) {P:Program} {ops:Array Oper} {rest:List Oper} {a:Act} {C:World→Prop} {Q:Act→Prop} {d op T y T2 ty pos af g} (h:wpQuiet P ops C Q (⟨d,.binOp op T x y T2,ty,pos,af,g⟩ :: rest) a):wpQuiet P ops C Q (⟨d,.binOp op T x y T2,ty,pos,af,g⟩ :: rest) a:=h
theorem meet_side {r:Ru} (hr:RuP r) {a:Int} {n:Nat} (ha:0≤a∧a≤4294967295) (hn:n≤32) (hu:¬ under r a n) {m:Nat} (hm:meetN r.a r.n.toNat a n=m):m≤r.n.toNat∧m < n∧(m≠r.n.toNat→bt r.a m = !bt a m):=by
  have h1:=hr.n0
  have h2:=hr.n1
  have hc:=cmn_le r.a a
  have hm1:m≤r.n.toNat∧m≤n∧m≤cmn r.a a:=by unfold meetN at hm;omega
  have hmm:m=r.n.toNat∨m=n∨m=cmn r.a a:=by unfold meetN at hm;omega
  have hmh:hd r.a m=hd a m:=(cmn_hd ⟨hr.a0,hr.a1⟩ ha (by omega)).1 hm1.2.2
  have hmn:m < n:=by
    by_cases e:m=n
    · exact absurd ⟨by omega,by rw [← e];exact hmh⟩ hu
    · omega
  refine ⟨hm1.1,hmn,fun e=>?_⟩
  have hne:bt r.a m≠bt a m:=by
    intro h
    have:=(hd_bt (by omega) hmh).2 h
    have:=(cmn_hd ⟨hr.a0,hr.a1⟩ ha (n:=m+1) (by omega)).2 this
    omega
  cases h1:bt r.a m <;> cases h2:bt a m <;> simp_all
set_option maxRecDepth 100000 in
set_option maxHeartbeats 4000000 in
theorem hang_node (base gt:Nat) (cx:List Fr) (r:Ru) (hr:RuP r) (fb:Nat) (size:Int) (w:World) (b:Nat) (a:Int) (n:Nat) (rl:Ru) (is:Bool) (k0 k1:Tr) (hz:ZH 115 123 w gt cx (Tr.node b a n rl is k0 k1).ptr size) (hs:0≤size∧size≤1000000)
    (hf:Box w fb 123 (forkC r.a r.n.toNat r true Tr.nil.ptr Tr.nil.ptr)) (hT:TAt 123 w (.node b a n rl is k0 k1)) (hn:n≤32) (ha:0≤a∧a≤4294967295) (hu:¬ under r a n)
    (hne:fb≠gt∧fb ∉ fbs cx∧fb ∉ (Tr.node b a n rl is k0 k1).bs) (hd:∀ x∈(Tr.node b a n rl is k0 k1).bs,x≠gt∧x ∉ fbs cx) (hb:base≤gt∧base≤holeB gt cx∧base≤w.heap.size∧base≤fb) :
    Calls Tryz.prog 108 #[.pointer (some ⟨gt,0,none⟩),.pointer (some ⟨holeB gt cx,holeJ cx,none⟩),.pointer (some ⟨fb,0,none⟩)] w (HangR base gt cx r fb size (.node b a n rl is k0 k1) w):=by
  obtain ⟨m,hm⟩:∃ m,meetN r.a r.n.toNat a n=m:=⟨_,rfl⟩
  obtain ⟨hm1,hm2,hm3⟩:=meet_side hr ha hn hu hm
  have hr1:=hr.n1
  have hra:0≤r.a∧r.a≤4294967295:=⟨hr.a0,hr.a1⟩
  obtain ⟨rn,hrn⟩:∃ k,r.n.toNat=k:=⟨_,rfl⟩
  have hrn32:rn≤32:=by omega
  have hrz:r.a=ld r.a rn:=by rw [← hrn];exact hr.z
  have Hm:=Lib.hid hm
  obtain ⟨old,hold⟩:∃ t,Tr.node b a n rl is k0 k1=t:=⟨_,rfl⟩
  have hbp:old.ptr=.pointer (some ⟨b,0,none⟩):=by rw [← hold];rfl
  have hbox:Box w b 123 (forkC a n rl is k0.ptr k1.ptr):=hT.1
  have hbb:b∈old.bs:=by rw [← hold];simp [Tr.bs]
  rw [hold] at hz hT hne hd ⊢
  rw [hbp] at hz
  rw [hrn] at hf hm1 hm3
  rw [hrn] at Hm
  obtain ⟨c1,fz1⟩:=hz.cell
  have S:=hz.write (.pointer (some ⟨fb,0,none⟩))
  obtain ⟨pb,hpb⟩:∃ x,holeB gt cx=x:=⟨_,rfl⟩
  obtain ⟨pj,hpj⟩:∃ x,holeJ cx=x:=⟨_,rfl⟩
  have hpin:pb=gt∨pb∈fbs cx:=by
    rw [← hpb]
    cases cx with
    | nil=>exact .inl rfl
    | cons f cx=>exact .inr (by simp [holeB,fbs])
  have hpo:∀ x,(x≠gt∧x ∉ fbs cx)→pb≠x:=fun x hx e=>by
    subst e
    rcases hpin with h | h
    · exact hx.1 h
    · exact hx.2 h
  rw [hpb,hpj] at c1 fz1 S ⊢
  rw [hpb] at hb
  obtain ⟨c2,fz2⟩:=S.1.many
  obtain ⟨W,hW⟩:∃ W,w.setCell ⟨pb,pj,none⟩ (.pointer (some ⟨fb,0,none⟩))=W:=⟨_,rfl⟩
  rw [hW] at S c2 fz2
  have S2:=S.1.sized (size+1)
  obtain ⟨W2,hW2⟩:∃ W2,W.setCell ⟨gt,1,none⟩ (.int .i64 (size+1))=W2:=⟨_,rfl⟩
  rw [hW2] at S2
  have f2:=(hf.grown S.2 (fun e=>by injection e with e;exact hpo fb ⟨hne.1,hne.2.1⟩ e)).grown S2.2 (fun e=>by injection e with e;exact hne.1 e.symm)
  have o2:=(hbox.grown S.2 (fun e=>by injection e with e;exact hpo b (hd b hbb) e)).grown S2.2 (fun e=>by injection e with e;exact (hd b hbb).1 e.symm)
  have T2:=TAt.grown S2.2 (TAt.grown S.2 hT (fun h=>hpo pb (hd pb h) rfl)) (fun h=>(hd gt h).1 rfl)
  have B1:=below_of_grown (B:=base) S.2 (fun j e=>by injection e with e;omega) hb.2.2.1
  have B2:=B1.trans (below_of_grown (B:=base) S2.2 (fun j e=>by injection e with e;omega) (Nat.le_trans hb.2.2.1 B1.size))
  have Z2:=S2.1
  have z12:w.heap.size≤W2.heap.size:=B2.size
  have Hhold:=Lib.hid hold
  have Hrn:=Lib.hid hrn
  have Hrz:=Lib.hid hrz
  have Hm3:=Lib.hid hm3
  clear S S2 hz B1 hf hbox hT hold hbp hrn hrz hm hm3
  have KM:=Lib.hid (fun w'=>smeet_any r.a rn a n w' hra hrn32 ha hn m Hm)
  obtain ⟨la,hla⟩:∃ x,ld r.a m=x:=⟨_,rfl⟩
  rw [hla] at KM
  have Hla:=Lib.hid hla
  clear hla
  go_enter Tryz.func108,Tryz.ntmps108
  go_upto_region 4 with fail
  clear hW hW2 c1 fz1 c2 fz2
  have QF:Hid (∀ w',Below W2.heap.size W2 w'→w'.cell? ⟨fb,0,none⟩=some (.int .u32 r.a)∧w'.cell? ⟨fb,1,none⟩=some (.int .i64 (rn:Int))):=Lib.hid (fun w' h=>⟨(f2.step h).cell 0,(f2.step h).cell 1⟩)
  have QO:Hid (∀ w',Below W2.heap.size W2 w'→w'.cell? ⟨b,0,none⟩=some (.int .u32 a)∧w'.cell? ⟨b,1,none⟩=some (.int .i64 (n:Int))):=Lib.hid (fun w' h=>⟨(o2.step h).cell 0,(o2.step h).cell 1⟩)
  go_cut [7] from 24 to 32 (fun s7 wx=>∃ g7:Nat,W2.heap.size≤g7∧s7=.pointer (some ⟨g7,0,none⟩)∧Box wx g7 120 #[.int .u32 la,.int .i64 (m:Int)]∧Below W2.heap.size W2 wx)
  case first =>
    have D:Below W2.heap.size W2 W2.drew:=bdrew1 W2
    refine wp_region_tree (.float 0 1 (.float 4 1 (.three 1 (.float 2 2 (.two 5 (.float 6 2 (.two 8 (.one 9 (.one 10 .done)) 9 (.one 8 (.one 10 .done)))) 9 (.one 5 (.float 6 2 (.one 8 (.one 10 .done)))))) 5 (.float 6 2 (.two 1 (.float 2 2 (.two 8 (.one 9 (.one 10 .done)) 9 (.one 8 (.one 10 .done)))) 9 (.one 1 (.float 2 2 (.one 8 (.one 10 .done)))))) 9 (.two 1 (.float 2 2 (.one 5 (.float 6 2 (.one 8 (.one 10 .done))))) 5 (.float 6 2 (.one 1 (.float 2 2 (.one 8 (.one 10 .done))))))))) (Th.Reach W2.heap.size) (Th.Reach.trans _) (Th.Reach.refl _) (by kernel_rfl) (by kernel_rfl) (fun KT hKT=>?_)
    repeat' first
      | ((with_reducible refine wpTree_done ?_);refine hKT _ _ ?_;clear hKT KT)
      | (with_reducible refine wpTree_two ?_ ?_)
      | ((with_reducible refine wpTree_float (fun KF hKF=>?_));(simp only [List.drop,List.take]);(repeat (first | go_big_quiet_skip | ((with_reducible refine onq_load (.tmp 26) ?_);refine wq_spload rfl (.tmp 26) rfl rfl (fun w' h=>QF.out w' (D.trans h.below)) ?_) | ((with_reducible refine onq_load (.tmp 30) ?_);refine wq_spload rfl (.tmp 30) rfl rfl (fun w' h=>QO.out w' (D.trans h.below)) ?_) | go_big_quiet_step (fail) | quiet_step (fail)));refine wpQuiet_nil ?_;refine hKF _ ?_;clear hKF KF)
      | ((with_reducible refine wpTree_one (fun KO hKO=>?_));(simp only [List.drop,List.take]);(go_wp2_with (first | (go_at_call 106;refine (KM.out _).mono ?_;rintro e w8 ⟨rfl,hb8⟩;have D:=D.trans (hb8.mono D.size);have zD:=D.size;(try have bg:=bg.step hb8)) | ((with_reducible refine on_alloc ?_);refine wl_newBox rfl _ rfl z_span ?_;intro g7 w9 hg9 hl9 bg hb9;have hg7:W2.heap.size≤g7:=Nat.le_trans D.size hg9;have D:=D.trans (hb9.mono D.size);have zD:=D.size) | ((with_reducible refine on_store_at (.tmp 7) ?_);refine wb_store (cs:=#[.int .u32 0,.int .i64 0]) (cs':=#[.int .u32 la,.int .i64 (m:Int)]) rfl _ (.tmp 7) _ rfl st_span rfl rfl bg rfl rfl (by simp [Value.oneCell']) ?_;intro w10 b10 hg10;have hs10:=below_of_grown (B:=W2.heap.size) hg10 (fun j e=>by injection e with e;omega) D.size;have D:=D.trans hs10)));(refine anch_end (Th.Reach.of (by first | exact Below.refl _ _ | exact below_alloc _ (by first | omega | (simp;done) | (simp;omega)) _ | exact below_alloc2 _ (by first | omega | (simp;done) | (simp;omega)) _ _ | exact below_alloc2d _ (by simp) _ _ | exact bdrew _ _ | assumption | (exact Below.mono (by assumption) (by first | (simp;done) | (simp;omega) | omega | assumption)))) (hKO _ _ ?_));clear hKO KO)
      | (with_reducible refine wpTree_three ?_ ?_ ?_)
    all_goals
      first
        | (refine Met.intro ?_;go_step;exact ⟨_,_,_,_,_,_,_,_,_,_,⟨_,hg7,rfl,b10,D⟩,rfl⟩)
        | (go_wp2;refine Met.intro ?_;go_step;exact ⟨_,_,_,_,_,_,_,_,_,_,⟨_,hg7,rfl,b10,D⟩,rfl⟩)
  case rest =>
    obtain ⟨g7,hg7,rfl,b7,hb7⟩:=hcut
    have f7:=f2.step hb7
    have o7:=o2.step hb7
    have T7:=TAt.step hb7 T2
    have Z7:=Z2.step hb7
    have B7:=B2.trans (hb7.mono (Nat.le_trans hb.2.2.1 z12))
    have l7:=TAt.lt T2
    have lf:=f2.lt
    have lgt2:=Z2.top.lt
    have lF2:=FAt.lt Z2.fr
    have lpb2:pb < W2.heap.size:=by
      rcases hpin with h | h
      · omega
      · exact lF2 pb h
    clear QF QO KM f2 o2 T2 Z2 B2 hb7
    go_upto_region 5 with fail
    refine wp_region_reach (by kernel_rfl) (by kernel_rfl) ?_
    repeat (first | go_big_quiet_skip | ((with_reducible refine onq_load (.tmp 7) ?_);refine wq_spload rfl (.tmp 7) rfl rfl (fun w' h=>⟨(b7.step h.below).cell 0,(b7.step h.below).cell 1⟩) ?_) | ((with_reducible refine onq_load (.tmp 36) ?_);refine wq_spload rfl (.tmp 36) rfl rfl (fun w' h=>⟨(f7.step h.below).cell 0,(f7.step h.below).cell 1⟩) ?_) | ((with_reducible refine onq_bin (.tmp 33) ?_);refine wq_neqS rfl (.tmp 33) (.tmp 37) rfl rfl rfl ?_) | go_big_quiet_step (fail) | quiet_step (fail))
    refine wpQuiet_nil ?_
    rintro _ ⟨q,rfl⟩
    have hqw8:=q.h
    obtain ⟨w8,hw8'⟩:∃ W,q.w=W:=⟨_,rfl⟩
    rw [hw8'] at hqw8 ⊢
    clear hw8' q
    have f8:=f7.step hqw8
    have o8:=o7.step hqw8
    have T8:=TAt.step hqw8 T7
    have Z8:=Z7.step hqw8
    have b8:=b7.step hqw8
    have B8:=B7.trans (hqw8.mono (Nat.le_trans hb.2.2.1 B7.size))
    have z8:w.heap.size≤w8.heap.size:=B8.size
    clear f7 o7 T7 Z7 b7 B7 hqw8
    by_cases hmr:m=rn
    · have hlr:la=r.a:=by rw [← Hla.out,hmr];exact Hrz.out.symm
      have hdec:(!(decide (la=r.a∧m=rn)))=false:=by simp [hmr,hlr]
      rw [hdec]
      have Hmr:=Lib.hid hmr
      clear hdec hlr hmr
      have KO:=Lib.hid (fun w'=>abit_any a m w' ha (by omega))
      have lgt:=Z8.top.lt
      obtain ⟨cK,fzK⟩:=Z8.cell
      rw [hpb,hpj] at cK
      cases hba:bt a m
      · rw [hba] at KO
        have KO2:Hid (∀ w,Calls Tryz.prog 107 #[.int .u32 a,.int .i64 (m:Int)] w (RetV (.int .i64 0) w)):=KO
        clear KO fzK
        go_upto_region 10 with fail
        have q0:∀ q:Step w8.heap.size w8.drew,q.w.cell? ⟨b,0,none⟩=some (.int .u32 a):=fun q=>(o8.drew.below q.h o8.lt).cell 0
        have q1:∀ q:Step w8.heap.size w8.drew,q.w.cell? ⟨g7,1,none⟩=some (.int .i64 (m:Int)):=fun q=>(b8.drew.below q.h b8.lt).cell 1
        have q2:∀ q:Step w8.heap.size w8.drew,q.w.cell? ⟨pb,pj,none⟩=some (.pointer (some ⟨fb,0,none⟩)):=fun q=>(q.h.cell (World.block_lt_of_cell? w8 ⟨pb,pj,none⟩ cK)).trans cK
        have y8:w8.drew.cell? ⟨fb,7,none⟩=some (.pointer none):=f8.drew.cell 7
        have fz8:=f8.drew.frozen 7
        have S8:=Lib.hid (f8.setCell 7 (.pointer (some ⟨b,0,none⟩)))
        have eh:hangT r fb w.heap.size old=.node fb r.a rn r true old .nil:=by
          rw [← Hhold.out]
          unfold hangT
          dsimp only
          rw [Hrn.out,Hm.out,if_pos Hmr.out,if_neg (by rw [hba];simp)]
        have fin:HangR base gt cx r fb size old w (.returned (.tuple #[])) (w8.setCell ⟨fb,7,none⟩ (.pointer (some ⟨b,0,none⟩))).drew:=by
          refine ⟨rfl,w.heap.size,size+1,by omega,?_,by omega,by omega,?_,?_⟩
          · rw [eh]
            exact (Z8.grown S8.out.2 hne.1 hne.2.1).step (bdrew1 _)
          · rw [eh]
            have e2:old.ptr=.pointer (some ⟨b,0,none⟩):=by rw [← Hhold.out];rfl
            have e3:=S8.out.1.drew
            refine ⟨?_,TAt.step (bdrew1 _) (TAt.grown S8.out.2 T8 hne.2.2),trivial⟩
            rw [e2]
            exact e3
          · exact (B8.trans (below_of_grown (B:=base) S8.out.2 (fun j e=>by injection e with e;omega) (Nat.le_trans hb.2.2.1 B8.size))).trans (bdrew1 _)
        have Fin:=Lib.hid fin
        clear fin eh
        refine wp_region_treeL 15 (.float 0 1 (.float 3 1 (.float 8 2 (.float 11 1 (.two 1 (.float 2 1 (.two 4 (.float 5 3 (.two 10 (.one 12 (.float 13 2 (.one 15 .done))) 12 (.float 13 1 (.one 10 (.float 14 1 (.one 15 .done)))))) 12 (.float 13 1 (.one 4 (.float 5 3 (.one 10 (.float 14 1 (.one 15 .done)))))))) 4 (.float 5 3 (.two 1 (.float 2 1 (.two 10 (.one 12 (.float 13 2 (.one 15 .done))) 12 (.float 13 1 (.one 10 (.float 14 1 (.one 15 .done)))))) 10 (.one 1 (.float 2 1 (.one 12 (.float 13 2 (.one 15 .done)))))))))))) (Th.Reach w8.heap.size) (Th.Reach.trans _) (Th.Reach.refl _) (by kernel_rfl) (by kernel_rfl) (by kernel_rfl) (fun KT hKT=>?_)
        repeat' first
          | ((with_reducible refine wpTreeL_done ?_);refine hKT _ _ ?_;clear hKT KT)
          | (with_reducible refine wpTreeL_two ?_ ?_)
          | ((with_reducible refine wpTreeL_float (fun KF hKF=>?_));(simp only [List.drop,List.take]);(repeat (first | go_big_quiet_skip | go_big_quiet_step (fail) | quiet_step (fail)));refine wpQuiet_nil ?_;refine hKF _ ?_;clear hKF KF)
          | ((with_reducible refine wpTreeL_one (fun KO hKO=>?_));(simp only [List.drop,List.take]);(go_wp2_with (first | (go_at_call 107;refine (KO2.out _).mono ?_;rintro e wq ⟨rfl,rfl⟩)));(first | (with_reducible refine anch_last (hKO _ _ ?_)) | refine anch_endL (Th.Reach.of (by first | exact Below.refl _ _ | exact below_alloc _ (by first | omega | (simp;done) | (simp;omega)) _ | exact below_alloc2 _ (by first | omega | (simp;done) | (simp;omega)) _ _ | exact below_alloc2d _ (by simp) _ _ | exact bdrew _ _ | assumption | (exact Below.mono (by assumption) (by first | (simp;done) | (simp;omega) | omega | assumption)))) (hKO _ _ ?_));clear hKO KO)
        all_goals exact bodyPost_end (results_none rfl _ _ _) rfl Fin.out
      · rw [hba] at KO
        have KO2:Hid (∀ w,Calls Tryz.prog 107 #[.int .u32 a,.int .i64 (m:Int)] w (RetV (.int .i64 1) w)):=KO
        clear KO fzK
        go_upto_region 10 with fail
        have q0:∀ q:Step w8.heap.size w8.drew,q.w.cell? ⟨b,0,none⟩=some (.int .u32 a):=fun q=>(o8.drew.below q.h o8.lt).cell 0
        have q1:∀ q:Step w8.heap.size w8.drew,q.w.cell? ⟨g7,1,none⟩=some (.int .i64 (m:Int)):=fun q=>(b8.drew.below q.h b8.lt).cell 1
        have q2:∀ q:Step w8.heap.size w8.drew,q.w.cell? ⟨pb,pj,none⟩=some (.pointer (some ⟨fb,0,none⟩)):=fun q=>(q.h.cell (World.block_lt_of_cell? w8 ⟨pb,pj,none⟩ cK)).trans cK
        have y8:w8.drew.cell? ⟨fb,8,none⟩=some (.pointer none):=f8.drew.cell 8
        have fz8:=f8.drew.frozen 8
        have S8:=Lib.hid (f8.setCell 8 (.pointer (some ⟨b,0,none⟩)))
        have eh:hangT r fb w.heap.size old=.node fb r.a rn r true .nil old:=by
          rw [← Hhold.out]
          unfold hangT
          dsimp only
          rw [Hrn.out,Hm.out,if_pos Hmr.out,if_pos hba]
        have fin:HangR base gt cx r fb size old w (.returned (.tuple #[])) (w8.setCell ⟨fb,8,none⟩ (.pointer (some ⟨b,0,none⟩))).drew:=by
          refine ⟨rfl,w.heap.size,size+1,by omega,?_,by omega,by omega,?_,?_⟩
          · rw [eh]
            exact (Z8.grown S8.out.2 hne.1 hne.2.1).step (bdrew1 _)
          · rw [eh]
            have e2:old.ptr=.pointer (some ⟨b,0,none⟩):=by rw [← Hhold.out];rfl
            have e3:=S8.out.1.drew
            refine ⟨?_,trivial,TAt.step (bdrew1 _) (TAt.grown S8.out.2 T8 hne.2.2)⟩
            rw [e2]
            exact e3
          · exact (B8.trans (below_of_grown (B:=base) S8.out.2 (fun j e=>by injection e with e;omega) (Nat.le_trans hb.2.2.1 B8.size))).trans (bdrew1 _)
        have Fin:=Lib.hid fin
        clear fin eh
        refine wp_region_treeL 15 (.float 0 1 (.float 3 1 (.float 8 2 (.float 11 1 (.two 1 (.float 2 1 (.two 4 (.float 5 3 (.two 10 (.one 12 (.float 13 2 (.one 15 .done))) 12 (.float 13 1 (.one 10 (.float 14 1 (.one 15 .done)))))) 12 (.float 13 1 (.one 4 (.float 5 3 (.one 10 (.float 14 1 (.one 15 .done)))))))) 4 (.float 5 3 (.two 1 (.float 2 1 (.two 10 (.one 12 (.float 13 2 (.one 15 .done))) 12 (.float 13 1 (.one 10 (.float 14 1 (.one 15 .done)))))) 10 (.one 1 (.float 2 1 (.one 12 (.float 13 2 (.one 15 .done)))))))))))) (Th.Reach w8.heap.size) (Th.Reach.trans _) (Th.Reach.refl _) (by kernel_rfl) (by kernel_rfl) (by kernel_rfl) (fun KT hKT=>?_)
        repeat' first
          | ((with_reducible refine wpTreeL_done ?_);refine hKT _ _ ?_;clear hKT KT)
          | (with_reducible refine wpTreeL_two ?_ ?_)
          | ((with_reducible refine wpTreeL_float (fun KF hKF=>?_));(simp only [List.drop,List.take]);(repeat (first | go_big_quiet_skip | go_big_quiet_step (fail) | quiet_step (fail)));refine wpQuiet_nil ?_;refine hKF _ ?_;clear hKF KF)
          | ((with_reducible refine wpTreeL_one (fun KO hKO=>?_));(simp only [List.drop,List.take]);(go_wp2_with (first | (go_at_call 107;refine (KO2.out _).mono ?_;rintro e wq ⟨rfl,rfl⟩)));(first | (with_reducible refine anch_last (hKO _ _ ?_)) | refine anch_endL (Th.Reach.of (by first | exact Below.refl _ _ | exact below_alloc _ (by first | omega | (simp;done) | (simp;omega)) _ | exact below_alloc2 _ (by first | omega | (simp;done) | (simp;omega)) _ _ | exact below_alloc2d _ (by simp) _ _ | exact bdrew _ _ | assumption | (exact Below.mono (by assumption) (by first | (simp;done) | (simp;omega) | omega | assumption)))) (hKO _ _ ?_));clear hKO KO)
        all_goals exact bodyPost_end (results_none rfl _ _ _) rfl Fin.out
    · have hdec:(!(decide (la=r.a∧m=rn)))=true:=by simp [hmr]
      rw [hdec]
      clear hdec
      have hside:=Hm3.out hmr
      have KR:=Lib.hid (fun w'=>abit_any r.a m w' hra (by omega))
      have KO:=Lib.hid (fun w'=>abit_any a m w' ha (by omega))
      cases hbr:bt r.a m
      · rw [hbr] at KR hside
        have hba:bt a m=true:=by simpa using hside.symm
        rw [hba] at KO
        have KR2:Hid (∀ w,Calls Tryz.prog 107 #[.int .u32 r.a,.int .i64 (m:Int)] w (RetV (.int .i64 0) w)):=KR
        have KO2:Hid (∀ w,Calls Tryz.prog 107 #[.int .u32 a,.int .i64 (m:Int)] w (RetV (.int .i64 1) w)):=KO
        clear KR KO hside
        have kJ:=below_alloc w8 (Nat.le_refl _) (.cells (forkC la m ⟨0,0,0,0⟩ false (.pointer none) (.pointer none)) 123)
        have bJ:=Box.new w8 (forkC la m ⟨0,0,0,0⟩ false (.pointer none) (.pointer none)) 123
        obtain ⟨w9,hw9⟩:∃ W,w8.alloc (.cells (forkC la m ⟨0,0,0,0⟩ false (.pointer none) (.pointer none)) 123)=W:=⟨_,rfl⟩
        rw [hw9] at kJ bJ
        have hw9':w8.alloc (.cells #[.int .u32 la,.int .i64 (m:Int),.int .u32 0,.int .i64 0,.int .i64 0,.int .i64 0,.bool false,.pointer none,.pointer none] 123)=w9:=hw9
        have H9:=Lib.hid hw9'
        clear hw9 hw9'
        go_upto_region 7 with ((with_reducible refine on_load (.tmp 7) ?_);refine wb_load rfl _ (.tmp 7) rfl st_span rfl b8 rfl ?_)
        try rw [H9.out]
        have f9:=f8.step kJ
        have o9:=o8.step kJ
        have b9:=b8.step kJ
        go_cut [] from 42 to 54 (fun wx=>Box wx w8.heap.size 123 (forkC la m ⟨0,0,0,0⟩ false (.pointer (some ⟨fb,0,none⟩)) (.pointer none))∧Below w8.heap.size w8 wx)
        case first =>
          have q0:∀ q:Step w9.heap.size w9.drew,q.w.cell? ⟨fb,0,none⟩=some (.int .u32 r.a):=fun q=>(f9.drew.below q.h f9.lt).cell 0
          have q1:∀ q:Step w9.heap.size w9.drew,q.w.cell? ⟨g7,1,none⟩=some (.int .i64 (m:Int)):=fun q=>(b9.drew.below q.h b9.lt).cell 1
          have y7:w9.drew.cell? ⟨w8.heap.size,7,none⟩=some (.pointer none):=bJ.drew.cell 7
          have fz7:=bJ.drew.frozen 7
          have S7:=Lib.hid (bJ.setCell 7 (.pointer (some ⟨fb,0,none⟩)))
          have B7:=(kJ.trans (below_of_grown (B:=w8.heap.size) S7.out.2 (fun j e=>by injection e with e;omega) kJ.size)).trans (bdrew1 _)
          refine wp_region_treeL 13 (.float 0 2 (.float 6 2 (.float 9 1 (.two 2 (.float 3 3 (.two 8 (.one 10 (.float 11 2 (.one 13 .done))) 10 (.float 11 1 (.one 8 (.float 12 1 (.one 13 .done)))))) 10 (.float 11 1 (.one 2 (.float 3 3 (.one 8 (.float 12 1 (.one 13 .done)))))))))) (Th.Reach w9.heap.size) (Th.Reach.trans _) (Th.Reach.refl _) (by kernel_rfl) (by kernel_rfl) (by kernel_rfl) (fun KT hKT=>?_)
          repeat' first
            | ((with_reducible refine wpTreeL_done ?_);refine hKT _ _ ?_;clear hKT KT)
            | (with_reducible refine wpTreeL_two ?_ ?_)
            | ((with_reducible refine wpTreeL_float (fun KF hKF=>?_));(simp only [List.drop,List.take]);(repeat (first | go_big_quiet_skip | go_big_quiet_step (fail) | quiet_step (fail)));refine wpQuiet_nil ?_;refine hKF _ ?_;clear hKF KF)
            | ((with_reducible refine wpTreeL_one (fun KO hKO=>?_));(simp only [List.drop,List.take]);(go_wp2_with (first | (go_at_call 107;refine (KR2.out _).mono ?_;rintro e wq ⟨rfl,rfl⟩)));(first | (with_reducible refine anch_last (hKO _ _ ?_)) | refine anch_endL (Th.Reach.of (by first | exact Below.refl _ _ | exact below_alloc _ (by first | omega | (simp;done) | (simp;omega)) _ | exact below_alloc2 _ (by first | omega | (simp;done) | (simp;omega)) _ _ | exact below_alloc2d _ (by simp) _ _ | exact bdrew _ _ | assumption | (exact Below.mono (by assumption) (by first | (simp;done) | (simp;omega) | omega | assumption)))) (hKO _ _ ?_));clear hKO KO)
          all_goals first
            | (refine Met.intro ?_;go_step;exact ⟨_,_,_,_,_,_,_,_,_,_,_,_,_,⟨S7.out.1.drew,B7⟩,rfl⟩)
            | (go_wp2;refine Met.intro ?_;go_step;exact ⟨_,_,_,_,_,_,_,_,_,_,_,_,_,⟨S7.out.1.drew,B7⟩,rfl⟩)
        case rest =>
          obtain ⟨bJ,hbJ⟩:=hcut
          have fJ:=f8.step hbJ
          have oJ:=o8.step hbJ
          have TJ:=TAt.step hbJ T8
          have ZJ:=Z8.step hbJ
          have b7:=b8.step hbJ
          have BJ:=B8.trans (hbJ.mono (Nat.le_trans hb.2.2.1 z8))
          have lf9:=f8.lt
          have lo9:=o8.lt
          have lz:=Z8.top.lt
          have lT:=TAt.lt T8
          have lF:=FAt.lt Z8.fr
          clear f8 o8 T8 Z8 b8 B8 b9 kJ
          obtain ⟨c1,fz1⟩:=ZJ.cell
          have S:=ZJ.write (.pointer (some ⟨w8.heap.size,0,none⟩))
          rw [hpb,hpj] at c1 fz1 S
          obtain ⟨Wa,hWa⟩:∃ W,wc.setCell ⟨pb,pj,none⟩ (.pointer (some ⟨w8.heap.size,0,none⟩))=W:=⟨_,rfl⟩
          rw [hWa] at S
          obtain ⟨c2,fz2⟩:=S.1.many
          have S2:=S.1.sized (size+1+1)
          obtain ⟨Wb,hWb⟩:∃ W,Wa.setCell ⟨gt,1,none⟩ (.int .i64 (size+1+1))=W:=⟨_,rfl⟩
          rw [hWb] at S2
          obtain ⟨jb,hjb⟩:∃ j,w8.heap.size=j:=⟨_,rfl⟩
          rw [hjb] at bJ lf9 lo9 lz lT lF S S2 hWa ⊢
          have hpj2:pb≠jb:=by
            rcases hpin with h | h
            · omega
            · have:=lF pb h;omega
          have bK:=(bJ.grown S.2 (fun e=>by injection e with e;exact hpj2 e)).grown S2.2 (fun e=>by injection e with e;omega)
          have fK:=(fJ.grown S.2 (fun e=>by injection e with e;exact hpo fb ⟨hne.1,hne.2.1⟩ e)).grown S2.2 (fun e=>by injection e with e;exact hne.1 e.symm)
          have oK:=(oJ.grown S.2 (fun e=>by injection e with e;exact hpo b (hd b hbb) e)).grown S2.2 (fun e=>by injection e with e;exact (hd b hbb).1 e.symm)
          have TK:=TAt.grown S2.2 (TAt.grown S.2 TJ (fun h=>hpo pb (hd pb h) rfl)) (fun h=>(hd gt h).1 rfl)
          have lb7:=b7.lt
          have sK:=(b7.grown S.2 (fun e=>by injection e with e;omega)).grown S2.2 (fun e=>by injection e with e;omega)
          have BK:=BJ.trans ((below_of_grown (B:=base) S.2 (fun j e=>by injection e with e;omega) (Nat.le_trans hb.2.2.1 BJ.size)).trans (below_of_grown (B:=base) S2.2 (fun j e=>by injection e with e;omega) (Nat.le_trans (Nat.le_trans hb.2.2.1 BJ.size) (by have:=S.2.size;omega))))
          have ZK:=S2.1
          obtain ⟨cK,fzK⟩:=ZK.cell
          rw [hpb,hpj] at cK
          have TKl:=TAt.lt TK
          clear fJ oJ TJ ZJ b7 BJ hbJ S S2 fzK
          go_upto_region 10 with fail
          have q0:∀ q:Step Wb.heap.size Wb.drew,q.w.cell? ⟨b,0,none⟩=some (.int .u32 a):=fun q=>(oK.drew.below q.h oK.lt).cell 0
          have q1:∀ q:Step Wb.heap.size Wb.drew,q.w.cell? ⟨g7,1,none⟩=some (.int .i64 (m:Int)):=fun q=>(sK.drew.below q.h sK.lt).cell 1
          have q2:∀ q:Step Wb.heap.size Wb.drew,q.w.cell? ⟨pb,pj,none⟩=some (.pointer (some ⟨jb,0,none⟩)):=fun q=>(q.h.cell (World.block_lt_of_cell? Wb ⟨pb,pj,none⟩ cK)).trans cK
          have y8:Wb.drew.cell? ⟨jb,8,none⟩=some (.pointer none):=bK.drew.cell 8
          have fz8:=bK.drew.frozen 8
          have S8:=Lib.hid (bK.setCell 8 (.pointer (some ⟨b,0,none⟩)))
          have eh:hangT r fb jb old=.node jb la m ⟨0,0,0,0⟩ false (leaf fb r) old:=by
            rw [← Hhold.out]
            unfold hangT
            dsimp only
            rw [Hrn.out,Hm.out,if_neg hmr,if_pos hba,Hla.out]
          have fin:HangR base gt cx r fb size old w (.returned (.tuple #[])) (Wb.setCell ⟨jb,8,none⟩ (.pointer (some ⟨b,0,none⟩))).drew:=by
            have nj:jb ∉ old.bs:=fun h=>by have:=lT jb h;omega
            have nf:jb ∉ fbs cx:=fun h=>by have:=lF jb h;omega
            refine ⟨rfl,jb,size+1+1,by omega,?_,by omega,by omega,?_,?_⟩
            · rw [eh]
              exact (ZK.grown S8.out.2 (by omega) nf).step (bdrew1 _)
            · rw [eh]
              refine ⟨?_,⟨?_,trivial,trivial⟩,TAt.step (bdrew1 _) (TAt.grown S8.out.2 TK nj)⟩
              · have:=S8.out.1.drew
                have e2:old.ptr=.pointer (some ⟨b,0,none⟩):=by rw [← Hhold.out];rfl
                rw [e2]
                exact this
              · rw [Hrn.out]
                exact (fK.grown S8.out.2 (fun e=>by injection e with e;omega)).drew
            · exact (BK.trans (below_of_grown (B:=base) S8.out.2 (fun j e=>by injection e with e;omega) (Nat.le_trans hb.2.2.1 BK.size))).trans (bdrew1 _)
          have Fin:=Lib.hid fin
          clear fin eh
          refine wp_region_treeL 15 (.float 0 1 (.float 3 1 (.float 8 2 (.float 11 1 (.two 1 (.float 2 1 (.two 4 (.float 5 3 (.two 10 (.one 12 (.float 13 2 (.one 15 .done))) 12 (.float 13 1 (.one 10 (.float 14 1 (.one 15 .done)))))) 12 (.float 13 1 (.one 4 (.float 5 3 (.one 10 (.float 14 1 (.one 15 .done)))))))) 4 (.float 5 3 (.two 1 (.float 2 1 (.two 10 (.one 12 (.float 13 2 (.one 15 .done))) 12 (.float 13 1 (.one 10 (.float 14 1 (.one 15 .done)))))) 10 (.one 1 (.float 2 1 (.one 12 (.float 13 2 (.one 15 .done)))))))))))) (Th.Reach Wb.heap.size) (Th.Reach.trans _) (Th.Reach.refl _) (by kernel_rfl) (by kernel_rfl) (by kernel_rfl) (fun KT hKT=>?_)
          repeat' first
            | ((with_reducible refine wpTreeL_done ?_);refine hKT _ _ ?_;clear hKT KT)
            | (with_reducible refine wpTreeL_two ?_ ?_)
            | ((with_reducible refine wpTreeL_float (fun KF hKF=>?_));(simp only [List.drop,List.take]);(repeat (first | go_big_quiet_skip | go_big_quiet_step (fail) | quiet_step (fail)));refine wpQuiet_nil ?_;refine hKF _ ?_;clear hKF KF)
            | ((with_reducible refine wpTreeL_one (fun KO hKO=>?_));(simp only [List.drop,List.take]);(go_wp2_with (first | (go_at_call 107;refine (KO2.out _).mono ?_;rintro e wq ⟨rfl,rfl⟩)));(first | (with_reducible refine anch_last (hKO _ _ ?_)) | refine anch_endL (Th.Reach.of (by first | exact Below.refl _ _ | exact below_alloc _ (by first | omega | (simp;done) | (simp;omega)) _ | exact below_alloc2 _ (by first | omega | (simp;done) | (simp;omega)) _ _ | exact below_alloc2d _ (by simp) _ _ | exact bdrew _ _ | assumption | (exact Below.mono (by assumption) (by first | (simp;done) | (simp;omega) | omega | assumption)))) (hKO _ _ ?_));clear hKO KO)
          all_goals exact bodyPost_end (results_none rfl _ _ _) rfl Fin.out
      · rw [hbr] at KR hside
        have hba:bt a m=false:=by simpa using hside.symm
        rw [hba] at KO
        have KR2:Hid (∀ w,Calls Tryz.prog 107 #[.int .u32 r.a,.int .i64 (m:Int)] w (RetV (.int .i64 1) w)):=KR
        have KO2:Hid (∀ w,Calls Tryz.prog 107 #[.int .u32 a,.int .i64 (m:Int)] w (RetV (.int .i64 0) w)):=KO
        clear KR KO hside
        have kJ:=below_alloc w8 (Nat.le_refl _) (.cells (forkC la m ⟨0,0,0,0⟩ false (.pointer none) (.pointer none)) 123)
        have bJ:=Box.new w8 (forkC la m ⟨0,0,0,0⟩ false (.pointer none) (.pointer none)) 123
        obtain ⟨w9,hw9⟩:∃ W,w8.alloc (.cells (forkC la m ⟨0,0,0,0⟩ false (.pointer none) (.pointer none)) 123)=W:=⟨_,rfl⟩
        rw [hw9] at kJ bJ
        have hw9':w8.alloc (.cells #[.int .u32 la,.int .i64 (m:Int),.int .u32 0,.int .i64 0,.int .i64 0,.int .i64 0,.bool false,.pointer none,.pointer none] 123)=w9:=hw9
        have H9:=Lib.hid hw9'
        clear hw9 hw9'
        go_upto_region 7 with ((with_reducible refine on_load (.tmp 7) ?_);refine wb_load rfl _ (.tmp 7) rfl st_span rfl b8 rfl ?_)
        try rw [H9.out]
        have f9:=f8.step kJ
        have o9:=o8.step kJ
        have b9:=b8.step kJ
        go_cut [] from 42 to 54 (fun wx=>Box wx w8.heap.size 123 (forkC la m ⟨0,0,0,0⟩ false (.pointer none) (.pointer (some ⟨fb,0,none⟩)))∧Below w8.heap.size w8 wx)
        case first =>
          have q0:∀ q:Step w9.heap.size w9.drew,q.w.cell? ⟨fb,0,none⟩=some (.int .u32 r.a):=fun q=>(f9.drew.below q.h f9.lt).cell 0
          have q1:∀ q:Step w9.heap.size w9.drew,q.w.cell? ⟨g7,1,none⟩=some (.int .i64 (m:Int)):=fun q=>(b9.drew.below q.h b9.lt).cell 1
          have y7:w9.drew.cell? ⟨w8.heap.size,8,none⟩=some (.pointer none):=bJ.drew.cell 8
          have fz7:=bJ.drew.frozen 8
          have S7:=Lib.hid (bJ.setCell 8 (.pointer (some ⟨fb,0,none⟩)))
          have B7:=(kJ.trans (below_of_grown (B:=w8.heap.size) S7.out.2 (fun j e=>by injection e with e;omega) kJ.size)).trans (bdrew1 _)
          refine wp_region_treeL 13 (.float 0 2 (.float 6 2 (.float 9 1 (.two 2 (.float 3 3 (.two 8 (.one 10 (.float 11 2 (.one 13 .done))) 10 (.float 11 1 (.one 8 (.float 12 1 (.one 13 .done)))))) 10 (.float 11 1 (.one 2 (.float 3 3 (.one 8 (.float 12 1 (.one 13 .done)))))))))) (Th.Reach w9.heap.size) (Th.Reach.trans _) (Th.Reach.refl _) (by kernel_rfl) (by kernel_rfl) (by kernel_rfl) (fun KT hKT=>?_)
          repeat' first
            | ((with_reducible refine wpTreeL_done ?_);refine hKT _ _ ?_;clear hKT KT)
            | (with_reducible refine wpTreeL_two ?_ ?_)
            | ((with_reducible refine wpTreeL_float (fun KF hKF=>?_));(simp only [List.drop,List.take]);(repeat (first | go_big_quiet_skip | go_big_quiet_step (fail) | quiet_step (fail)));refine wpQuiet_nil ?_;refine hKF _ ?_;clear hKF KF)
            | ((with_reducible refine wpTreeL_one (fun KO hKO=>?_));(simp only [List.drop,List.take]);(go_wp2_with (first | (go_at_call 107;refine (KR2.out _).mono ?_;rintro e wq ⟨rfl,rfl⟩)));(first | (with_reducible refine anch_last (hKO _ _ ?_)) | refine anch_endL (Th.Reach.of (by first | exact Below.refl _ _ | exact below_alloc _ (by first | omega | (simp;done) | (simp;omega)) _ | exact below_alloc2 _ (by first | omega | (simp;done) | (simp;omega)) _ _ | exact below_alloc2d _ (by simp) _ _ | exact bdrew _ _ | assumption | (exact Below.mono (by assumption) (by first | (simp;done) | (simp;omega) | omega | assumption)))) (hKO _ _ ?_));clear hKO KO)
          all_goals first
            | (refine Met.intro ?_;go_step;exact ⟨_,_,_,_,_,_,_,_,_,_,_,_,_,⟨S7.out.1.drew,B7⟩,rfl⟩)
            | (go_wp2;refine Met.intro ?_;go_step;exact ⟨_,_,_,_,_,_,_,_,_,_,_,_,_,⟨S7.out.1.drew,B7⟩,rfl⟩)
        case rest =>
          obtain ⟨bJ,hbJ⟩:=hcut
          have fJ:=f8.step hbJ
          have oJ:=o8.step hbJ
          have TJ:=TAt.step hbJ T8
          have ZJ:=Z8.step hbJ
          have b7:=b8.step hbJ
          have BJ:=B8.trans (hbJ.mono (Nat.le_trans hb.2.2.1 z8))
          have lf9:=f8.lt
          have lo9:=o8.lt
          have lz:=Z8.top.lt
          have lT:=TAt.lt T8
          have lF:=FAt.lt Z8.fr
          clear f8 o8 T8 Z8 b8 B8 b9 kJ
          obtain ⟨c1,fz1⟩:=ZJ.cell
          have S:=ZJ.write (.pointer (some ⟨w8.heap.size,0,none⟩))
          rw [hpb,hpj] at c1 fz1 S
          obtain ⟨Wa,hWa⟩:∃ W,wc.setCell ⟨pb,pj,none⟩ (.pointer (some ⟨w8.heap.size,0,none⟩))=W:=⟨_,rfl⟩
          rw [hWa] at S
          obtain ⟨c2,fz2⟩:=S.1.many
          have S2:=S.1.sized (size+1+1)
          obtain ⟨Wb,hWb⟩:∃ W,Wa.setCell ⟨gt,1,none⟩ (.int .i64 (size+1+1))=W:=⟨_,rfl⟩
          rw [hWb] at S2
          obtain ⟨jb,hjb⟩:∃ j,w8.heap.size=j:=⟨_,rfl⟩
          rw [hjb] at bJ lf9 lo9 lz lT lF S S2 hWa ⊢
          have hpj2:pb≠jb:=by
            rcases hpin with h | h
            · omega
            · have:=lF pb h;omega
          have bK:=(bJ.grown S.2 (fun e=>by injection e with e;exact hpj2 e)).grown S2.2 (fun e=>by injection e with e;omega)
          have fK:=(fJ.grown S.2 (fun e=>by injection e with e;exact hpo fb ⟨hne.1,hne.2.1⟩ e)).grown S2.2 (fun e=>by injection e with e;exact hne.1 e.symm)
          have oK:=(oJ.grown S.2 (fun e=>by injection e with e;exact hpo b (hd b hbb) e)).grown S2.2 (fun e=>by injection e with e;exact (hd b hbb).1 e.symm)
          have TK:=TAt.grown S2.2 (TAt.grown S.2 TJ (fun h=>hpo pb (hd pb h) rfl)) (fun h=>(hd gt h).1 rfl)
          have lb7:=b7.lt
          have sK:=(b7.grown S.2 (fun e=>by injection e with e;omega)).grown S2.2 (fun e=>by injection e with e;omega)
          have BK:=BJ.trans ((below_of_grown (B:=base) S.2 (fun j e=>by injection e with e;omega) (Nat.le_trans hb.2.2.1 BJ.size)).trans (below_of_grown (B:=base) S2.2 (fun j e=>by injection e with e;omega) (Nat.le_trans (Nat.le_trans hb.2.2.1 BJ.size) (by have:=S.2.size;omega))))
          have ZK:=S2.1
          obtain ⟨cK,fzK⟩:=ZK.cell
          rw [hpb,hpj] at cK
          have TKl:=TAt.lt TK
          clear fJ oJ TJ ZJ b7 BJ hbJ S S2 fzK
          go_upto_region 10 with fail
          have q0:∀ q:Step Wb.heap.size Wb.drew,q.w.cell? ⟨b,0,none⟩=some (.int .u32 a):=fun q=>(oK.drew.below q.h oK.lt).cell 0
          have q1:∀ q:Step Wb.heap.size Wb.drew,q.w.cell? ⟨g7,1,none⟩=some (.int .i64 (m:Int)):=fun q=>(sK.drew.below q.h sK.lt).cell 1
          have q2:∀ q:Step Wb.heap.size Wb.drew,q.w.cell? ⟨pb,pj,none⟩=some (.pointer (some ⟨jb,0,none⟩)):=fun q=>(q.h.cell (World.block_lt_of_cell? Wb ⟨pb,pj,none⟩ cK)).trans cK
          have y8:Wb.drew.cell? ⟨jb,7,none⟩=some (.pointer none):=bK.drew.cell 7
          have fz8:=bK.drew.frozen 7
          have S8:=Lib.hid (bK.setCell 7 (.pointer (some ⟨b,0,none⟩)))
          have eh:hangT r fb jb old=.node jb la m ⟨0,0,0,0⟩ false old (leaf fb r):=by
            rw [← Hhold.out]
            unfold hangT
            dsimp only
            rw [Hrn.out,Hm.out,if_neg hmr,if_neg (by rw [hba];simp),Hla.out]
          have fin:HangR base gt cx r fb size old w (.returned (.tuple #[])) (Wb.setCell ⟨jb,7,none⟩ (.pointer (some ⟨b,0,none⟩))).drew:=by
            have nj:jb ∉ old.bs:=fun h=>by have:=lT jb h;omega
            have nf:jb ∉ fbs cx:=fun h=>by have:=lF jb h;omega
            refine ⟨rfl,jb,size+1+1,by omega,?_,by omega,by omega,?_,?_⟩
            · rw [eh]
              exact (ZK.grown S8.out.2 (by omega) nf).step (bdrew1 _)
            · rw [eh]
              refine ⟨?_,TAt.step (bdrew1 _) (TAt.grown S8.out.2 TK nj),⟨?_,trivial,trivial⟩⟩
              · have:=S8.out.1.drew
                have e2:old.ptr=.pointer (some ⟨b,0,none⟩):=by rw [← Hhold.out];rfl
                rw [e2]
                exact this
              · rw [Hrn.out]
                exact (fK.grown S8.out.2 (fun e=>by injection e with e;omega)).drew
            · exact (BK.trans (below_of_grown (B:=base) S8.out.2 (fun j e=>by injection e with e;omega) (Nat.le_trans hb.2.2.1 BK.size))).trans (bdrew1 _)
          have Fin:=Lib.hid fin
          clear fin eh
          refine wp_region_treeL 15 (.float 0 1 (.float 3 1 (.float 8 2 (.float 11 1 (.two 1 (.float 2 1 (.two 4 (.float 5 3 (.two 10 (.one 12 (.float 13 2 (.one 15 .done))) 12 (.float 13 1 (.one 10 (.float 14 1 (.one 15 .done)))))) 12 (.float 13 1 (.one 4 (.float 5 3 (.one 10 (.float 14 1 (.one 15 .done)))))))) 4 (.float 5 3 (.two 1 (.float 2 1 (.two 10 (.one 12 (.float 13 2 (.one 15 .done))) 12 (.float 13 1 (.one 10 (.float 14 1 (.one 15 .done)))))) 10 (.one 1 (.float 2 1 (.one 12 (.float 13 2 (.one 15 .done)))))))))))) (Th.Reach Wb.heap.size) (Th.Reach.trans _) (Th.Reach.refl _) (by kernel_rfl) (by kernel_rfl) (by kernel_rfl) (fun KT hKT=>?_)
          repeat' first
            | ((with_reducible refine wpTreeL_done ?_);refine hKT _ _ ?_;clear hKT KT)
            | (with_reducible refine wpTreeL_two ?_ ?_)
            | ((with_reducible refine wpTreeL_float (fun KF hKF=>?_));(simp only [List.drop,List.take]);(repeat (first | go_big_quiet_skip | go_big_quiet_step (fail) | quiet_step (fail)));refine wpQuiet_nil ?_;refine hKF _ ?_;clear hKF KF)
            | ((with_reducible refine wpTreeL_one (fun KO hKO=>?_));(simp only [List.drop,List.take]);(go_wp2_with (first | (go_at_call 107;refine (KO2.out _).mono ?_;rintro e wq ⟨rfl,rfl⟩)));(first | (with_reducible refine anch_last (hKO _ _ ?_)) | refine anch_endL (Th.Reach.of (by first | exact Below.refl _ _ | exact below_alloc _ (by first | omega | (simp;done) | (simp;omega)) _ | exact below_alloc2 _ (by first | omega | (simp;done) | (simp;omega)) _ _ | exact below_alloc2d _ (by simp) _ _ | exact bdrew _ _ | assumption | (exact Below.mono (by assumption) (by first | (simp;done) | (simp;omega) | omega | assumption)))) (hKO _ _ ?_));clear hKO KO)
          all_goals exact bodyPost_end (results_none rfl _ _ _) rfl Fin.out
end Go.Proofs.YtjandnidljbkoaaGreat
