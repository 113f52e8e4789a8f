/-
  Laid together by wip/tools/merge.py out of: NfMa, NfMb. ! ### NfMa ! ### NfMb
-/
import Derived.WalkKit
import Derived.WalkSpells
import Derived.WalkLawsBesides
import Derived.Deep.QuietTactic
import Derived.BigQuiet
import Derived.Laws.BytesArg
import Derived.Lib.ConvBytes
import Derived.Lib.Hide
import Derived.Outline
import Derived.Maps.AppendAt
import Derived.Laws.Rows
import Derived.Test.YtjandnidljbkoaaGreatProg
import Derived.KernelRfl
import Derived.Deep.MidRow
set_option linter.unusedVariables false
namespace Go.Th
open Go.RowKit
def bv (b:UInt8):Value:=.int .u8 (b.toNat:Int)
def iv (n:Int):Value:=.int .i64 n
def uv (n:Int):Value:=.int .u32 n
theorem ofInt_nat (a:Nat) (h:a < 9223372036854775808):(BitVec.ofInt 64 (a:Int)).toNat=a:=by
  rw [BitVec.ofInt_natCast,BitVec.toNat_ofNat]
  exact Nat.mod_eq_of_lt (by omega)
theorem or_i64 (a b:Nat) (ha:a < 9223372036854775808) (hb:b < 9223372036854775808):bits .or .i64 (a:Int) (b:Int)=((a ||| b:Nat):Int):=by
  have hx:a ||| b < 2 ^ 63:=Nat.or_lt_two_pow (by omega) (by omega)
  show IntKind.i64.wrap ((BitVec.ofInt 64 (a:Int) ||| BitVec.ofInt 64 (b:Int)).toNat:Int)=_
  rw [BitVec.toNat_or,ofInt_nat a ha,ofInt_nat b hb,IntKind.wrap_i64]
  omega
theorem or_byte (v x:Nat) (hv:v < 16777216) (hx:x < 256):bits .or .i64 ((v:Int) * 256) (x:Int)=((v * 256+x:Nat):Int):=by
  have h:((v:Int) * 256)=((v * 256:Nat):Int):=by omega
  rw [h,or_i64 _ _ (by omega) (by omega)]
  have:=Nat.shiftLeft_add_eq_or_of_lt (i:=8) (b:=x) (by omega) v
  rw [Nat.shiftLeft_eq] at this
  rw [this]
structure Rd (w:World) (B:Nat) (A:Option Addr) (xs:List Value):Prop where
  at_:∀ j u,xs[j]? = some u→∃ b o,A=some ⟨b,o,none⟩∧b < B∧w.cell? ⟨b,o+j,none⟩=some u
structure Ow (w:World) (base:Nat) (e:TypeId) (size:Nat) (A:Option Addr) (n c:Nat) (xs:List Value):Prop where
  own:w.ownsRow base e size (.slice A n c) n xs
section
variable {w w':World} {B B' size n c base:Nat} {A:Option Addr} {xs:List Value} {e:TypeId}
theorem Rd.nil (w:World) (B:Nat) (A:Option Addr):Rd w B A []:=⟨fun j u h=>by simp at h⟩
theorem Rd.keep (h:Rd w B A xs) (hk:∀ p:Addr,p.block < B→w'.cell? p=w.cell? p):Rd w' B A xs :=
  ⟨fun j u hu=>by
    obtain ⟨b,o,e,hb,hc⟩:=h.at_ j u hu
    exact ⟨b,o,e,hb,(hk _ hb).trans hc⟩⟩
theorem Rd.more (h:Rd w B A xs) (hB:B≤B'):Rd w B' A xs :=
  ⟨fun j u hu=>by
    obtain ⟨b,o,e,hb,hc⟩:=h.at_ j u hu
    exact ⟨b,o,e,by omega,hc⟩⟩
theorem Rd.below (h:Rd w B A xs) (hb:Below B w w'):Rd w' B A xs:=h.keep fun _ hp=>hb.cell hp
theorem Rd.heap (h:Rd w B A xs):Rd w w.heap.size A xs :=
  ⟨fun j u hu=>by
    obtain ⟨b,o,e,hb,hc⟩:=h.at_ j u hu
    exact ⟨b,o,e,World.block_lt_of_cell? w ⟨b,o+j,none⟩ hc,hc⟩⟩
theorem Rd.drew (h:Rd w B A xs):Rd w.drew B A xs:=⟨h.at_⟩
theorem Rd.alloc (h:Rd w B A xs) (o:Obj):Rd (w.alloc o) B A xs:=by
  refine ⟨fun j u hu=>?_⟩
  obtain ⟨b,o',e,hb,hc⟩:=h.at_ j u hu
  exact ⟨b,o',e,hb,(World.cell?_alloc_lt w o _ (World.block_lt_of_cell? w ⟨b,o'+j,none⟩ hc)).trans hc⟩
theorem Rd.grown {row:Option Nat} (h:Rd w B A xs) (hg:w.grownBy w' row) (hr:∀ g,row=some g→B≤g):Rd w' B A xs:=by
  refine ⟨fun j u hu=>?_⟩
  obtain ⟨b,o',e,hb,hc⟩:=h.at_ j u hu
  exact ⟨b,o',e,hb,(World.cell?_of_block (hg.block b (World.block_lt_of_cell? w ⟨b,o'+j,none⟩ hc) (fun e=>by have:=hr _ e.symm;omega))).trans hc⟩
theorem Rd.drop (h:Rd w B A xs) (k m:Nat) (hm:m=k→xs.length≤k):Rd w B (if m=k then A else A.map (·.add k)) (xs.drop k):=by
  refine ⟨fun j u hu=>?_⟩
  rw [List.getElem?_drop] at hu
  obtain ⟨b,o,e,hb,hc⟩:=h.at_ (k+j) u hu
  have hl:k+j < xs.length:=by
    rcases Nat.lt_or_ge (k+j) xs.length with h' | h'
    · exact h'
    · rw [List.getElem?_eq_none h'] at hu;cases hu
  rw [if_neg (fun e=>by have:=hm e;omega)]
  subst e
  exact ⟨b,o+k,by simp only [Option.map_some,Addr.add_lit],hb,by rw [Nat.add_assoc];exact hc⟩
theorem Rd.take (h:Rd w B A xs) (k:Nat):Rd w B A (xs.take k):=by
  refine ⟨fun j u hu=>?_⟩
  rw [List.getElem?_take] at hu
  split at hu
  · exact h.at_ j u hu
  · cases hu
theorem Rd.cells {ad:Addr} (h:Rd w B A xs) (hA:A=some ad):∀ j u,xs[j]? = some u→w.cell? (ad.add j)=some u:=by
  intro j u hu
  obtain ⟨b,o,e,hb,hc⟩:=h.at_ j u hu
  rw [hA] at e
  injection e with e
  subst e
  rw [Addr.add_lit]
  exact hc
theorem Ow.len (h:Ow w base e size A n c xs):xs.length=n * size:=h.own.1
theorem Ow.cap (h:Ow w base e size A n c xs):n≤c:=by
  rcases h.own.2 with ⟨hv,hn⟩ | ⟨g,cap,cur,hv,_,_,hnc,_⟩
  · injection hv;omega
  · injection hv;omega
theorem Ow.capMax (h:Ow w base e size A n c xs):c≤maxLen:=by
  rcases h.own.2 with ⟨hv,hn⟩ | ⟨g,cap,cur,hv,_,_,hnc,hcm,_⟩
  · injection hv;simp [maxLen];omega
  · injection hv;omega
theorem Ow.form (h:Ow w base e size A n c xs):(A=none∧n=0∧c=0)∨∃ g,A=some ⟨g,0,none⟩∧base≤g∧g < w.heap.size:=by
  rcases h.own.2 with ⟨hv,hn⟩ | ⟨g,cap,cur,hv,hb,hg,_⟩
  · injection hv with h1 h2 h3;exact .inl ⟨h1,h2,h3⟩
  · injection hv with h1 h2 h3;exact .inr ⟨g,h1,hb,(Array.getElem?_eq_some_iff.1 hg).1⟩
theorem Ow.rd (h:Ow w base e size A n c xs):Rd w w.heap.size A xs:=by
  refine ⟨fun j u hu=>?_⟩
  rcases h.form with ⟨rfl,rfl,rfl⟩ | ⟨g,rfl,hb,hlt⟩
  · have h0:xs=[]:=List.eq_nil_of_length_eq_zero (by simpa using h.len)
    subst h0
    simp at hu
  · refine ⟨g,0,rfl,hlt,?_⟩
    have:=h.own.cells (g:=g) rfl j u hu
    rwa [Addr.add_lit] at this
theorem Ow.keep (h:Ow w base e size A n c xs) {B:Nat} (hb:Below B w w') (hB:w.heap.size≤B):Ow w' base e size A n c xs:=by
  refine ⟨h.own.1,?_⟩
  rcases h.own.2 with h1 | ⟨g,cap,cur,hv,hbg,hg,r⟩
  · exact .inl h1
  · exact .inr ⟨g,cap,cur,hv,hbg,(hb.block g (Nat.lt_of_lt_of_le (Array.getElem?_eq_some_iff.1 hg).1 hB)).trans hg,r⟩
theorem Ow.below (h:Ow w base e size A n c xs) (hb:Below w.heap.size w w'):Ow w' base e size A n c xs:=h.keep hb (Nat.le_refl _)
theorem Ow.grown {row:Option Nat} (h:Ow w base e size A n c xs) (hg:w.grownBy w' row) (hne:∀ g,A=some ⟨g,0,none⟩→row≠some g):Ow w' base e size A n c xs:=by
  refine ⟨h.own.1,?_⟩
  rcases h.own.2 with h1 | ⟨g,cap,cur,hv,hbg,hgg,r⟩
  · exact .inl h1
  · refine .inr ⟨g,cap,cur,hv,hbg,(hg.block g (Array.getElem?_eq_some_iff.1 hgg).1 ?_).trans hgg,r⟩
    injection hv with hA
    exact fun e=>hne g hA e.symm
theorem Ow.base_le {base':Nat} (h:Ow w base e size A n c xs) (hb:base'≤base):Ow w base' e size A n c xs:=by
  refine ⟨h.own.1,?_⟩
  rcases h.own.2 with h1 | ⟨g,cap,cur,hv,hbg,hgg,r⟩
  · exact .inl h1
  · exact .inr ⟨g,cap,cur,hv,by omega,hgg,r⟩
theorem Ow.nil_ (w:World) (base:Nat) (e:TypeId) (size:Nat):Ow w base e size Option.none 0 0 []:=⟨World.ownsRow_nil w base e size⟩
def rowOf:Option Addr→Option Nat
  | some a=>some a.block
  | none=>none
theorem Ow.row_ge (h:Ow w base e size A n c xs):∀ k,rowOf A=some k→base≤k:=by
  intro k hk
  rcases h.form with ⟨rfl,_⟩ | ⟨g,rfl,hb,_⟩
  · cases hk
  · cases hk;exact hb
end
structure RdS {α:Type} (f:α→Value) (w:World) (B:Nat) (A:Option Addr) (n c:Nat) (xs:List α):Prop where
  rd:Rd w B A (xs.map f)
  len:xs.length=n
  cap:n≤c
structure OwS {α:Type} (f:α→Value) (w:World) (base:Nat) (e:TypeId) (A:Option Addr) (n c:Nat) (xs:List α):Prop where
  ow:Ow w base e 1 A n c (xs.map f)
section
variable {α:Type} {f:α→Value} {w w':World} {B B' n c base:Nat} {A:Option Addr} {xs:List α} {e:TypeId}
theorem RdS.below (h:RdS f w B A n c xs) (hb:Below B w w'):RdS f w' B A n c xs:=⟨h.rd.below hb,h.len,h.cap⟩
theorem RdS.step (h:RdS f w B A n c xs) (hb:Below w.heap.size w w'):RdS f w' B A n c xs :=
  ⟨⟨fun j u hu=>by
    obtain ⟨b,o,e,hB,hc⟩:=h.rd.at_ j u hu
    exact ⟨b,o,e,hB,(hb.cell (World.block_lt_of_cell? w ⟨b,o+j,none⟩ hc)).trans hc⟩⟩,h.len,h.cap⟩
theorem RdS.more (h:RdS f w B A n c xs) (hB:B≤B'):RdS f w B' A n c xs:=⟨h.rd.more hB,h.len,h.cap⟩
theorem RdS.heap (h:RdS f w B A n c xs):RdS f w w.heap.size A n c xs:=⟨h.rd.heap,h.len,h.cap⟩
theorem RdS.alloc (h:RdS f w B A n c xs) (o:Obj):RdS f (w.alloc o) B A n c xs:=⟨h.rd.alloc o,h.len,h.cap⟩
theorem RdS.grown {row:Option Nat} (h:RdS f w B A n c xs) (hg:w.grownBy w' row) (hr:∀ g,row=some g→B≤g):RdS f w' B A n c xs:=⟨h.rd.grown hg hr,h.len,h.cap⟩
theorem RdS.nil (w:World) (B:Nat):RdS f w B none 0 0 []:=⟨Rd.nil _ _ _,rfl,Nat.le_refl _⟩
theorem OwS.len (h:OwS f w base e A n c xs):xs.length=n:=by simpa using h.ow.len
theorem OwS.cap (h:OwS f w base e A n c xs):n≤c:=h.ow.cap
theorem OwS.capMax (h:OwS f w base e A n c xs):c≤maxLen:=h.ow.capMax
theorem OwS.rd (h:OwS f w base e A n c xs):RdS f w w.heap.size A n c xs:=⟨h.ow.rd,h.len,h.cap⟩
theorem OwS.below (h:OwS f w base e A n c xs) (hb:Below w.heap.size w w'):OwS f w' base e A n c xs:=⟨h.ow.below hb⟩
theorem OwS.alloc (h:OwS f w base e A n c xs) (o:Obj):OwS f (w.alloc o) base e A n c xs:=h.below ((Below.refl _ _).alloc (Nat.le_refl _) o)
theorem OwS.base_le {base':Nat} (h:OwS f w base e A n c xs) (hb:base'≤base):OwS f w base' e A n c xs:=⟨h.ow.base_le hb⟩
theorem OwS.nil_ (w:World) (base:Nat) (e:TypeId):OwS f w base e Option.none 0 0 []:=⟨Ow.nil_ _ _ _ _⟩
theorem OwS.grown {row:Option Nat} (h:OwS f w base e A n c xs) (hg:w.grownBy w' row) (hne:∀ g,A=some ⟨g,0,Option.none⟩→row≠some g):OwS f w' base e A n c xs:=⟨h.ow.grown hg hne⟩
theorem OwS.lit (w:World) (cs:Array Value) (n:Nat) (hb:base≤w.heap.size) (hm:n≤maxLen) (hn:xs.length=n) (hs:cs.toList=xs.map f):OwS f (w.alloc (.cells cs e)) base e (some ⟨w.heap.size,0,Option.none⟩) n n xs:=by
  have h1:cs.size=n * 1:=by rw [← Array.length_toList,hs];simp [hn]
  refine ⟨⟨?_⟩⟩
  rw [← hs]
  exact World.ownsRow_lit w cs n hb hm h1
end
theorem next {w w1 w2:World} (h:Below w.heap.size w w1) (h2:Below w1.heap.size w1 w2):Below w.heap.size w w2:=h.trans (h2.mono h.size)
theorem below_alloc {B:Nat} (w:World) (h:B≤w.heap.size) (o:Obj):Below B w (w.alloc o):=(Below.refl _ _).alloc h o
theorem heap_size_alloc (w:World) (o:Obj):(w.alloc o).heap.size=w.heap.size+1:=by simp
theorem below_alloc2 {B:Nat} (w:World) (h:B≤w.heap.size) (o o':Obj):Below B (w.alloc o) (w.alloc o'):=by
  refine ⟨rfl,rfl,rfl,(by have h1:=heap_size_alloc w o;have h2:=heap_size_alloc w o';omega),fun g hg=>?_⟩
  have h1:=(below_alloc w h o).block g hg
  have h2:=(below_alloc w h o').block g hg
  exact h2.trans h1.symm
theorem below_alloc2d {B:Nat} (w:World) (h:B≤w.heap.size) (o o':Obj):Below B (w.alloc o).drew (w.alloc o').drew :=
  have k:=below_alloc2 w h o o'
  ⟨k.os,k.tape,k.output,k.size,k.block⟩
theorem bdrew {B:Nat} (w:World) (n:Nat):Below B w (w.drewN n):=⟨rfl,rfl,rfl,Nat.le_refl _,fun _ _=>rfl⟩
section
variable {P:Program} {ops:Array Oper} {rest:List Oper} {o:Oper} {a:Act} {Q:Exit→Act→World→Prop} {w:World}
theorem wl_run {v:Value} {w':World} (hw:Region.wanted o (yielded ops a.tmps)=true) (hr:(execOp a.eval o).run P w=.ok (.value v) w')
    (h:wpList P ops Q rest (a.put o.dst v) w'):wpList P ops Q (o :: rest) a w :=
  wpList_step fun K hK=>by
    rw [if_pos hw]
    unfold Oper.wp
    rw [hr]
    exact hK _ _ h
theorem wl_run0 {w':World} (hw:Region.wanted o (yielded ops a.tmps)=true) (hr:(execOp a.eval o).run P w=.ok .skip w')
    (h:wpList P ops Q rest (a.put o.dst undef) w'):wpList P ops Q (o :: rest) a w :=
  wpList_step fun K hK=>by
    rw [if_pos hw]
    unfold Oper.wp
    rw [hr]
    exact hK _ _ h
theorem run_indexAt (T:TypeId) {E sz:Nat} (ht:P.underlying T=some (.slice E)) (hsz:(sizeOf E).run P w=.ok sz w) (ad:Addr) (n c:Nat) (k:IntKind) (I:Int) (h0:0≤I) (h1:I < n) :
    (Instr.indexAt T (.slice (some ad) n c) (.int k I)).run P w=.ok (.pointer (some (ad.add (I.toNat * sz)))) w:=by
  simp [Instr.indexAt,run_underlying ht,asIntOf,h0,h1,hsz]
theorem wl_index_b (hw:Region.wanted o (yielded ops a.tmps)=true) (T:TypeId) (s i:Operand) (ho:o.op=.indexAddr T s i) {E:Nat} (ht:P.underlying T=some (.slice E)) (hsz:∀ w,(sizeOf E).run P w=.ok 1 w)
    {A:Option Addr} {n c:Nat} {k:IntKind} {I:Int} (hs:a.eval s=.slice A n c) (hi:a.eval i=.int k I) (h0:0≤I) (h1:I < n)
    {B:Nat} {bs:List UInt8} (hn:n≤bs.length) (hr:Rd w B A (bs.map bv))
    (h:∀ (p:Addr) (x:UInt8),Hid (bs[I.toNat]? = some x)→(x.toNat:Int)≤255→w.cell? p=some (.int .u8 (x.toNat:Int))→wpList P ops Q rest (a.put o.dst (.pointer (some p))) w) :
    wpList P ops Q (o :: rest) a w:=by
  have hl:I.toNat < bs.length:=by omega
  obtain ⟨b,off,hA,hb,hc⟩:=hr.at_ I.toNat (bv bs[I.toNat]) (by rw [List.getElem?_map,List.getElem?_eq_getElem hl];rfl)
  subst hA
  refine wl_run hw (v:=.pointer (some ((⟨b,off,none⟩:Addr).add (I.toNat * 1)))) (w':=w) ?_ ?_
  · simp only [execOp,ho,hs,hi,Sem.run_bind,run_indexAt T ht (hsz w) _ n c k I h0 h1,Result.andThen,Sem.run_pure]
  · refine h _ bs[I.toNat] (List.getElem?_eq_getElem hl) (by have:=(bs[I.toNat]).toNat_lt;omega) ?_
    rw [Nat.mul_one,Addr.add_lit]
    exact hc
theorem wl_index_i (hw:Region.wanted o (yielded ops a.tmps)=true) (T:TypeId) (s i:Operand) (ho:o.op=.indexAddr T s i) {E:Nat} (ht:P.underlying T=some (.slice E)) (hsz:∀ w,(sizeOf E).run P w=.ok 1 w)
    {A:Option Addr} {n c:Nat} {k kk:IntKind} {I:Int} (hs:a.eval s=.slice A n c) (hi:a.eval i=.int k I) (h0:0≤I) (h1:I < n)
    {B:Nat} {zs:List Int} (hn:n≤zs.length) (hr:Rd w B A (zs.map (Value.int kk)))
    (h:∀ (p:Addr) (x:Int),Hid (zs[I.toNat]? = some x)→w.cell? p=some (.int kk x)→wpList P ops Q rest (a.put o.dst (.pointer (some p))) w) :
    wpList P ops Q (o :: rest) a w:=by
  have hl:I.toNat < zs.length:=by omega
  obtain ⟨b,off,hA,hb,hc⟩:=hr.at_ I.toNat (.int kk zs[I.toNat]) (by rw [List.getElem?_map,List.getElem?_eq_getElem hl];rfl)
  subst hA
  refine wl_run hw (v:=.pointer (some ((⟨b,off,none⟩:Addr).add (I.toNat * 1)))) (w':=w) ?_ ?_
  · simp only [execOp,ho,hs,hi,Sem.run_bind,run_indexAt T ht (hsz w) _ n c k I h0 h1,Result.andThen,Sem.run_pure]
  · refine h _ zs[I.toNat] (List.getElem?_eq_getElem hl) ?_
    rw [Nat.mul_one,Addr.add_lit]
    exact hc
theorem wl_cut (hw:Region.wanted o (yielded ops a.tmps)=true) (T:TypeId) (s:Operand) (lo hi mx:Option Operand) (ho:o.op=.slice T s lo hi mx) {E:Nat} (ht:P.underlying T=some (.slice E)) (hsz:∀ w,(sizeOf E).run P w=.ok 1 w)
    {A:Option Addr} {n c:Nat} (hs:a.eval s=.slice A n c) (L H M:Nat)
    (hb:(Instr.sliceBounds true n c (lo.map a.eval) (hi.map a.eval) (mx.map a.eval)).run P w=.ok (L,H,M) w)
    (hLH:L≤H) (hHM:H≤M) {B:Nat} {xs:List Value} (hr:Rd w B A xs) (hn:xs.length=n) (hHn:H≤n)
    (h:∀ A',Rd w B A' ((xs.take H).drop L)→wpList P ops Q rest (a.put o.dst (.slice A' (H - L) (M - L))) w) :
    wpList P ops Q (o :: rest) a w:=by
  refine wl_run hw (v:=.slice (if M=L then A else A.map (·.add (L * 1))) (H - L) (M - L)) (w':=w) ?_ ?_
  · simp only [execOp,ho,hs,Sem.run_bind,Instr.sliceAt,run_underlying ht,Instr.slice,hb,hsz,Result.andThen,Sem.run_pure]
  · refine h _ ?_
    rw [Nat.mul_one]
    exact (hr.take H).drop L M (fun e=>by rw [List.length_take];omega)
theorem bounds_l {n c L:Nat} (k:IntKind) (h:L≤n):(Instr.sliceBounds true n c (some (.int k (L:Int))) Option.none Option.none).run P w=.ok (L,n,c) w:=by
  simp [Instr.sliceBounds,run_sliceBound,(by omega:(L:Int)≤(n:Int)),(by omega:(0:Int)≤(L:Int))]
theorem bounds_h {n c H:Nat} (k:IntKind) (h:H≤c):(Instr.sliceBounds true n c Option.none (some (.int k (H:Int))) Option.none).run P w=.ok (0,H,c) w:=by
  simp [Instr.sliceBounds,run_sliceBound,(by omega:(H:Int)≤(c:Int)),(by omega:(0:Int)≤(H:Int))]
theorem bounds_hm {n c H M:Nat} (k k':IntKind) (h:H≤M) (h':M≤c):(Instr.sliceBounds true n c Option.none (some (.int k (H:Int))) (some (.int k' (M:Int)))).run P w=.ok (0,H,M) w:=by
  simp [Instr.sliceBounds,run_sliceBound,(by omega:(H:Int)≤(M:Int)),(by omega:(M:Int)≤(c:Int)),(by omega:(0:Int)≤(M:Int)),(by omega:(0:Int)≤(H:Int))]
theorem bounds_lhm {n c L H M:Nat} (k k' k'':IntKind) (h0:L≤H) (h:H≤M) (h':M≤c):(Instr.sliceBounds true n c (some (.int k (L:Int))) (some (.int k' (H:Int))) (some (.int k'' (M:Int)))).run P w=.ok (L,H,M) w:=by
  simp [Instr.sliceBounds,run_sliceBound,(by omega:(L:Int)≤(H:Int)),(by omega:(H:Int)≤(M:Int)),(by omega:(M:Int)≤(c:Int)),(by omega:(0:Int)≤(M:Int)),(by omega:(0:Int)≤(H:Int)),(by omega:(0:Int)≤(L:Int))]
theorem run_str {src dst E:Nat} (hs:P.underlying src=some (.slice E)) (he:P.underlying E=some (.int .u8)) (hd:P.underlying dst=some .string) {A:Option Addr} {n c B:Nat} {bs:List UInt8}
    (hn:bs.length=n) (hr:Rd w B A (bs.map bv)):(convert src dst (.slice A n c)).run P w=.ok (.string ⟨bs.toArray⟩) w:=by
  rcases A with _ | ad
  · have h0:bs=[]:=by
      rcases bs with _ | ⟨b,bs⟩
      · rfl
      · obtain ⟨_,_,e,_⟩:=hr.at_ 0 (bv b) rfl
        cases e
    subst h0
    rw [run_convert_bytes_nil w src E hs he n c dst hd]
    rfl
  · rw [run_convert_bytes_string w src dst E _ n c hs he hd]
    have hl:(loadCells ad n).run P w=.ok ((bs.map fun b=>(b.toNat:Int)).map (Value.int .u8)).toArray w:=by
      have:=run_loadCells_list (P:=P) w ad (bs.map bv) (hr.cells rfl)
      rw [List.length_map,hn] at this
      rw [this]
      simp [bv]
    rw [run_bytesToString w ad n c _ hl,foldl_push_bytes]
    simp only [ByteArray.empty,ByteArray.emptyWithCapacity,Result.ok.injEq,Value.string.injEq,ByteArray.mk.injEq,and_true]
    have e:(List.map (fun n:Int=>UInt8.ofNat n.toNat) (bs.map fun b=>(b.toNat:Int)))=bs:=by
      rw [List.map_map]
      have e':((fun n:Int=>UInt8.ofNat n.toNat) ∘ fun b:UInt8=>(b.toNat:Int))=id:=by funext b;simp
      rw [e'];simp
    rw [e]
    exact Array.empty_append
theorem wl_str (hw:Region.wanted o (yielded ops a.tmps)=true) (src dst:TypeId) (x:Operand) (ho:o.op=.convert src dst x) {E:Nat} (hs:P.underlying src=some (.slice E)) (he:P.underlying E=some (.int .u8)) (hd:P.underlying dst=some .string)
    {A:Option Addr} {n c B:Nat} (hx:a.eval x=.slice A n c) {bs:List UInt8} (hn:bs.length=n) (hr:Rd w B A (bs.map bv))
    (h:wpList P ops Q rest (a.put o.dst (.string ⟨bs.toArray⟩)) w):wpList P ops Q (o :: rest) a w :=
  wl_run hw (by simp only [execOp,ho,hx,Sem.run_bind,run_str hs he hd hn hr,Result.andThen,Sem.run_pure]) h
theorem run_append {base:Nat} {t ty E:TypeId} {i:TypeInfo} {z:Value} {size bytes:Nat} (ht:P.underlying t=some (.slice E)) (hi:P.info? E=some i) (hz:i.zero=some z)
    (hsize:i.size=size) (hby:i.bytes=bytes) (hzs:z.cells.size=size) (hsz:0 < size)
    {A:Option Addr} {n c:Nat} {xs:List Value} (hown:Ow w base E size A n c xs)
    {B:Nat} {A':Option Addr} {m c':Nat} {news:List Value} (hl:news.length=m * size) (hr:Rd w B A' news) (h1:∀ u∈news,u.oneCell' = true)
    (h63:n+m≤maxLen) (hbytes:(n+m) * bytes≤140737488355328) (hbase:base≤w.heap.size) :
    ∃ A'' c'' w',(Builtin.append_ #[t,t] ty #[.slice A n c,.slice A' m c']).run P w=.ok (.slice A'' (n+m) c'') w'∧Ow w' base E size A'' (n+m) c'' (xs ++ news)∧w.grownBy w' (rowOf A) ∧
      (A'' = A∨A'' = some ⟨w.heap.size,0,Option.none⟩):=by
  rcases A' with _ | ad
  · have hn:news=[]:=by
      rcases news with _ | ⟨b,bs⟩
      · rfl
      · obtain ⟨_,_,e,_⟩:=hr.at_ 0 b rfl
        cases e
    subst hn
    have hm:m=0:=by
      rcases Nat.eq_zero_or_pos m with h | h
      · exact h
      · have:=Nat.mul_pos h hsz;simp at hl;omega
    subst hm
    refine ⟨A,c,w,?_,⟨by simpa using hown.own⟩,World.grownBy.refl w _,.inl rfl⟩
    rcases hown.own.2 with ⟨hv,hn⟩ | ⟨g,cap,cur,hv,_,_,hnc,_⟩
    · injection hv with h1 h2 h3
      subst h1 h2 h3
      simp [Builtin.append_,run_underlying ht,sizeOf,typeInfo,hi,Builtin.lenOf,Builtin.firstCells]
    · injection hv with h1 h2 h3
      subst h1 h3
      simp [Builtin.append_,run_underlying ht,sizeOf,typeInfo,hi,Builtin.lenOf,Builtin.firstCells,hnc,storeCells]
  · obtain ⟨v',w',hrun,h2,h3,_,h5⟩:=run_append_own_at (P:=P) w base t ty E i z size bytes ht hi hz hsize hby hzs hsz _ n xs hown.own ad m c' news hl (hr.cells rfl) h1 h63 hbytes hbase
    have hrow:rowOf A=Value.ownBlock (.slice A n c):=by cases A <;> rfl
    rw [← hrow] at h3
    rcases h2.2 with ⟨hv,hn⟩ | ⟨g,cap,cur,hv,hbg,hg,hnc,hrest⟩
    · subst hv
      have e1:n=0:=by omega
      have e2:m=0:=by omega
      subst e1 e2
      refine ⟨Option.none,0,w',hrun,⟨h2⟩,h3,?_⟩
      rcases h5 with h5 | h5
      · left
        cases A with
        | none=>rfl
        | some a=>simp [Value.ownBlock] at h5
      · simp [Value.ownBlock] at h5
    · subst hv
      refine ⟨some ⟨g,0,Option.none⟩,cap,w',hrun,⟨h2⟩,h3,?_⟩
      rcases h5 with h5 | h5
      · left
        rcases hown.form with ⟨rfl,_⟩ | ⟨g',rfl,_⟩
        · simp [Value.ownBlock] at h5
        · simp only [Value.ownBlock,Option.some.injEq] at h5
          rw [h5]
      · right
        simp only [Value.ownBlock,Option.some.injEq] at h5
        rw [h5]
theorem wl_append (hw:Region.wanted o (yielded ops a.tmps)=true) (s x:Operand) (t:TypeId)
    (ho:o.op=.call { callee:=.builtin .append,args:=#[s,x],argTypes:=#[t,t] })
    {base E:Nat} {i:TypeInfo} {z:Value} {size bytes:Nat} (ht:P.underlying t=some (.slice E)) (hi:P.info? E=some i) (hz:i.zero=some z)
    (hsize:i.size=size) (hby:i.bytes=bytes) (hzs:z.cells.size=size) (hsz:0 < size)
    {A:Option Addr} {n c:Nat} (hs:a.eval s=.slice A n c) {xs:List Value} (hown:Ow w base E size A n c xs)
    {B:Nat} {A':Option Addr} {m c':Nat} (hx:a.eval x=.slice A' m c') {news:List Value} (hl:news.length=m * size) (hr:Rd w B A' news) (h1:∀ u∈news,u.oneCell' = true)
    (h63:n+m≤maxLen) (hbytes:(n+m) * bytes≤140737488355328) (hbase:base≤w.heap.size)
    (h:∀ A'' c'' w',Ow w' base E size A'' (n+m) c'' (xs ++ news)→w.grownBy w' (rowOf A)→Below base w w'→wpList P ops Q rest (a.put o.dst (.slice A'' (n+m) c'')) w'):wpList P ops Q (o :: rest) a w:=by
  obtain ⟨A'',c'',w',hrun,h2,h3,_⟩:=run_append (P:=P) (ty:=o.type) (c':=c') ht hi hz hsize hby hzs hsz hown hl hr h1 h63 hbytes hbase
  refine wl_run hw ?_ (h A'' c'' w' h2 h3 ((Below.refl _ _).grown h3 hbase hown.row_ge))
  simp only [execOp,ho,resolve,invoke,builtin,Sem.run_bind,Sem.run_pure,Result.andThen,List.map_toArray,List.map_cons,List.map_nil,hs,hx,hrun]
theorem wl_index_own (hw:Region.wanted o (yielded ops a.tmps)=true) (T:TypeId) (s i:Operand) (ho:o.op=.indexAddr T s i) {E:Nat} (ht:P.underlying T=some (.slice E)) {sz:Nat} (hsz:∀ w,(sizeOf E).run P w=.ok sz w)
    {g n c:Nat} {k:IntKind} {I:Int} (hs:a.eval s=.slice (some ⟨g,0,none⟩) n c) (hi:a.eval i=.int k I) (h0:0≤I) (h1:I < n)
    (h:wpList P ops Q rest (a.put o.dst (.pointer (some ⟨g,I.toNat * sz,none⟩))) w):wpList P ops Q (o :: rest) a w:=by
  refine wl_run hw ?_ h
  have:=run_indexAt (P:=P) (w:=w) T ht (hsz w) ⟨g,0,none⟩ n c k I h0 h1
  rw [Addr.add_lit,Nat.zero_add] at this
  simp only [execOp,ho,hs,hi,Sem.run_bind,this,Result.andThen,Sem.run_pure]
theorem wl_store1 (hw:Region.wanted o (yielded ops a.tmps)=true) (T:TypeId) (x y:Operand) (ho:o.op=.store T x y) (hsz:∀ w,(sizeOf T).run P w=.ok 1 w)
    {g j n c base e:Nat} {xs:List Value} (hx:a.eval x=.pointer (some ⟨g,j,none⟩)) {v:Value} (hy:a.eval y=v) (hv:v.oneCell' = true) (hvc:v.cells = #[v])
    (hown:Ow w base e 1 (some ⟨g,0,none⟩) n c xs) (hj:j < n)
    (h:∀ w',Ow w' base e 1 (some ⟨g,0,none⟩) n c (xs.set j v)→w.grownBy w' (some g)→Below base w w'→wpList P ops Q rest (a.put o.dst undef) w'):wpList P ops Q (o :: rest) a w:=by
  obtain ⟨h1,h2⟩:=hown.own.stored j v
  have hc:=hown.own.cellAt j (by omega)
  have hf:=hown.own.frozenAt j
  have hl:=hown.len
  have hcs:w.cell? ⟨g,j,none⟩=some xs[j]:=by rw [hc];exact List.getElem?_eq_getElem (by omega)
  have hbase:base≤g∧g < w.heap.size:=by
    rcases hown.form with ⟨e,_⟩ | ⟨g',e,hb,hlt⟩
    · cases e
    · injection e with e;injection e with e;subst e;exact ⟨hb,hlt⟩
  refine wl_run0 hw ?_ (h _ ⟨h1⟩ h2 ((Below.refl _ _).grown h2 (by omega) (fun k hk=>by injection hk with hk;omega)))
  have hst:(store ⟨g,j,none⟩ v).run P w=.ok () (w.setCell ⟨g,j,none⟩ v):=by
    rw [run_store P w _ v _ hv,hcs]
    simp [hf]
  simp [execOp,ho,hx,hy,Instr.storeAt,Instr.sureAddr,storeVar,hvc,hsz,storeCells,Addr.add_zero',hst]
theorem wl_store_int (hw:Region.wanted o (yielded ops a.tmps)=true) (T:TypeId) (x y:Operand) (ho:o.op=.store T x y) (hsz:∀ w,(sizeOf T).run P w=.ok 1 w)
    {g j n c base e:Nat} {xs:List Value} (hx:a.eval x=.pointer (some ⟨g,j,none⟩)) {k:IntKind} {z:Int} (hy:a.eval y=.int k z)
    (hown:Ow w base e 1 (some ⟨g,0,none⟩) n c xs) (hj:j < n)
    (h:∀ w',Ow w' base e 1 (some ⟨g,0,none⟩) n c (xs.set j (.int k z))→w.grownBy w' (some g)→Below base w w'→wpList P ops Q rest (a.put o.dst undef) w'):wpList P ops Q (o :: rest) a w :=
  wl_store1 hw T x y ho hsz hx hy rfl rfl hown hj h
theorem wl_make (hw:Region.wanted o (yielded ops a.tmps)=true) (l c:Operand) (t:TypeId) (ho:o.op=.makeSlice t l c)
    {base E:Nat} {i:TypeInfo} {z:Value} {size:Nat} (ht:P.underlying t=some (.slice E)) (hi:P.info? E=some i) (hz:i.zero=some z) (hsize:i.size=size)
    {kl kc:IntKind} {L C:Int} (n:Nat) (hl:a.eval l=.int kl L) (hc:a.eval c=.int kc C) (hL:L=(n:Int)) (hC:C=(n:Int)) (b2:i.bytes * n≤281474976710656) (b3:n≤maxLen) (b4:base≤w.heap.size)
    (h:∀ g w',w.heap.size≤g→Ow w' base E size (some ⟨g,0,none⟩) n n (madeCells z.cells (n * size)).toList→Below w.heap.size w w'→wpList P ops Q rest (a.put o.dst (.slice (some ⟨g,0,none⟩) n n)) w'):wpList P ops Q (o :: rest) a w:=by
  obtain ⟨w',hrun,r1,r2⟩:=run_make_full (P:=P) w base t E i z size ht hi hz hsize kl kc n b2 b3 b4
  refine wl_run hw ?_ (h _ w' (Nat.le_refl _) ⟨r1⟩ ((Below.refl _ _).grown r2 (Nat.le_refl _) (fun k hk=>by cases hk)))
  subst hL hC
  simp only [execOp,ho,hl,hc,Sem.run_bind,hrun,Result.andThen,Sem.run_pure]
theorem wl_make1 (hw:Region.wanted o (yielded ops a.tmps)=true) (l c:Operand) (t:TypeId) (ho:o.op=.makeSlice t l c)
    {base E:Nat} {i:TypeInfo} {z:Value} (ht:P.underlying t=some (.slice E)) (hi:P.info? E=some i) (hz:i.zero=some z) (hsize:i.size=1) (hzc:z.cells = #[z])
    {kl kc:IntKind} {L C:Int} (n:Nat) (hl:a.eval l=.int kl L) (hc:a.eval c=.int kc C) (hL:L=(n:Int)) (hC:C=(n:Int)) (b2:i.bytes * n≤281474976710656) (b3:n≤maxLen) (b4:base≤w.heap.size)
    (h:∀ g w',w.heap.size≤g→Ow w' base E 1 (some ⟨g,0,none⟩) n n (List.replicate n z)→Below w.heap.size w w'→wpList P ops Q rest (a.put o.dst (.slice (some ⟨g,0,none⟩) n n)) w'):wpList P ops Q (o :: rest) a w :=
  wl_make hw l c t ho ht hi hz hsize n hl hc hL hC b2 b3 b4 fun g w' h1 h2 h3=>h g w' h1 (by
    rw [hzc,Nat.mul_one,toList_madeCells_one] at h2
    exact h2) h3
theorem wl_make0 (hw:Region.wanted o (yielded ops a.tmps)=true) (l c:Operand) (t:TypeId) (ho:o.op=.makeSlice t l c)
    {base E:Nat} {i:TypeInfo} {z:Value} {size:Nat} (ht:P.underlying t=some (.slice E)) (hi:P.info? E=some i) (hz:i.zero=some z) (hsize:i.size=size)
    {kl kc:IntKind} {C:Int} (n:Nat) (hl:a.eval l=.int kl 0) (hc:a.eval c=.int kc C) (hC:C=(n:Int)) (b2:i.bytes * n≤281474976710656) (b3:n≤maxLen) (b4:base≤w.heap.size)
    (h:∀ g w',w.heap.size≤g→Ow w' base E size (some ⟨g,0,none⟩) 0 n []→Below w.heap.size w w'→wpList P ops Q rest (a.put o.dst (.slice (some ⟨g,0,none⟩) 0 n)) w'):wpList P ops Q (o :: rest) a w:=by
  obtain ⟨w',hrun,r1,r2⟩:=run_make_own (P:=P) w base t E i z size ht hi hz hsize kl kc n b2 b3 b4
  refine wl_run hw ?_ (h _ w' (Nat.le_refl _) ⟨r1⟩ ((Below.refl _ _).grown r2 (Nat.le_refl _) (fun k hk=>by cases hk)))
  subst hC
  simp only [execOp,ho,hl,hc,Sem.run_bind,hrun,Result.andThen,Sem.run_pure]
structure El (P:Program) (t E:TypeId) (z:Value) (bytes:Nat):Prop where
  ht:P.underlying t=some (.slice E)
  info:∃ i,P.info? E=some i∧i.zero=some z∧i.size=1∧i.bytes=bytes
  cells:z.cells = #[z]
  size:∀ w,(sizeOf E).run P w=.ok 1 w
theorem wl_at_b (hw:Region.wanted o (yielded ops a.tmps)=true) (T:TypeId) (s i:Operand) (ho:o.op=.indexAddr T s i) {E bytes:Nat} {z:Value} (el:El P T E z bytes)
    {A:Option Addr} {n c:Nat} {k:IntKind} {I:Int} (hs:a.eval s=.slice A n c) (hi:a.eval i=.int k I) (h0:0≤I) (h1:I < n)
    {B:Nat} {bs:List UInt8} (hr:RdS bv w B A n c bs)
    (h:∀ (p:Addr) (x:UInt8),Hid (bs[I.toNat]? = some x)→(x.toNat:Int)≤255→w.cell? p=some (.int .u8 (x.toNat:Int))→wpList P ops Q rest (a.put o.dst (.pointer (some p))) w) :
    wpList P ops Q (o :: rest) a w :=
  wl_index_b hw T s i ho el.ht el.size hs hi h0 h1 (Nat.le_of_eq hr.len.symm) hr.rd h
theorem wl_at_i (hw:Region.wanted o (yielded ops a.tmps)=true) (T:TypeId) (s i:Operand) (ho:o.op=.indexAddr T s i) {E bytes:Nat} {z:Value} (el:El P T E z bytes)
    {A:Option Addr} {n c:Nat} {k:IntKind} {I:Int} (hs:a.eval s=.slice A n c) (hi:a.eval i=.int k I) (h0:0≤I) (h1:I < n)
    {B:Nat} {zs:List Int} (hr:RdS iv w B A n c zs)
    (h:∀ (p:Addr) (x:Int),Hid (zs[I.toNat]? = some x)→w.cell? p=some (.int .i64 x)→wpList P ops Q rest (a.put o.dst (.pointer (some p))) w) :
    wpList P ops Q (o :: rest) a w :=
  wl_index_i hw T s i ho el.ht el.size hs hi h0 h1 (Nat.le_of_eq hr.len.symm) (kk:=.i64) hr.rd h
theorem wl_at_u (hw:Region.wanted o (yielded ops a.tmps)=true) (T:TypeId) (s i:Operand) (ho:o.op=.indexAddr T s i) {E bytes:Nat} {z:Value} (el:El P T E z bytes)
    {A:Option Addr} {n c:Nat} {k:IntKind} {I:Int} (hs:a.eval s=.slice A n c) (hi:a.eval i=.int k I) (h0:0≤I) (h1:I < n)
    {B:Nat} {zs:List Int} (hr:RdS uv w B A n c zs)
    (h:∀ (p:Addr) (x:Int),Hid (zs[I.toNat]? = some x)→w.cell? p=some (.int .u32 x)→wpList P ops Q rest (a.put o.dst (.pointer (some p))) w) :
    wpList P ops Q (o :: rest) a w :=
  wl_index_i hw T s i ho el.ht el.size hs hi h0 h1 (Nat.le_of_eq hr.len.symm) (kk:=.u32) hr.rd h
theorem wl_strS (hw:Region.wanted o (yielded ops a.tmps)=true) (src dst:TypeId) (x:Operand) (ho:o.op=.convert src dst x) {E bytes:Nat} {z:Value} (el:El P src E z bytes) (he:P.underlying E=some (.int .u8)) (hd:P.underlying dst=some .string)
    {A:Option Addr} {n c B:Nat} (hx:a.eval x=.slice A n c) {bs:List UInt8} (hr:RdS bv w B A n c bs)
    (h:wpList P ops Q rest (a.put o.dst (.string ⟨bs.toArray⟩)) w):wpList P ops Q (o :: rest) a w :=
  wl_str hw src dst x ho el.ht he hd hx hr.len hr.rd h
theorem wl_cutS (hw:Region.wanted o (yielded ops a.tmps)=true) (T:TypeId) (s:Operand) (lo hi mx:Option Operand) (ho:o.op=.slice T s lo hi mx) {E bytes:Nat} {z:Value} (el:El P T E z bytes)
    {α:Type} {f:α→Value} {A:Option Addr} {n c:Nat} (hs:a.eval s=.slice A n c) {L H M:Nat}
    (hb:(Instr.sliceBounds true n c (lo.map a.eval) (hi.map a.eval) (mx.map a.eval)).run P w=.ok (L,H,M) w)
    {B:Nat} {xs:List α} (hr:RdS f w B A n c xs) (hLH:L≤H) (hHM:H≤M) (hHn:H≤n)
    (h:∀ A',RdS f w B A' (H - L) (M - L) ((xs.take H).drop L)→wpList P ops Q rest (a.put o.dst (.slice A' (H - L) (M - L))) w) :
    wpList P ops Q (o :: rest) a w :=
  wl_cut hw T s lo hi mx ho el.ht el.size hs L H M hb hLH hHM hr.rd (by rw [List.length_map];exact hr.len) hHn fun A' hA=>h A' ⟨by rw [← List.map_take,← List.map_drop] at hA;exact hA,by rw [List.length_drop,List.length_take,hr.len];omega,by omega⟩
section
variable (hw:Region.wanted o (yielded ops a.tmps)=true) (T:TypeId) (s:Operand) {E bytes:Nat} {z:Value} (el:El P T E z bytes)
    {α:Type} {f:α→Value} {A:Option Addr} {n c:Nat} (hs:a.eval s=.slice A n c) {B:Nat} {xs:List α} (hr:RdS f w B A n c xs)
include hw el hs hr
theorem wl_cut_l (lo:Operand) (ho:o.op=.slice T s (some lo) Option.none Option.none) {k:IntKind} {I:Int} (hlo:a.eval lo=.int k I) (L:Nat) (hL:I=(L:Int)∧L≤n)
    (h:∀ A',RdS f w B A' (n - L) (c - L) (xs.drop L)→wpList P ops Q rest (a.put o.dst (.slice A' (n - L) (c - L))) w):wpList P ops Q (o :: rest) a w:=by
  obtain ⟨rfl,hL⟩:=hL
  refine wl_cutS hw T s _ _ _ ho el hs (L:=L) (H:=n) (M:=c) ?_ hr hL hr.cap (Nat.le_refl _) fun A' hA=>h A' ?_
  · simp only [Option.map_some,Option.map_none,hlo]
    exact bounds_l k hL
  · rw [List.take_of_length_le (Nat.le_of_eq hr.len)] at hA
    exact hA
theorem wl_cut_lhm (lo hi mx:Operand) (ho:o.op=.slice T s (some lo) (some hi) (some mx)) {k k' k'':IntKind} {I J K:Int} (hlo:a.eval lo=.int k I) (hhi:a.eval hi=.int k' J) (hmx:a.eval mx=.int k'' K) (L H M:Nat) (hH:I=(L:Int)∧J=(H:Int)∧K=(M:Int)∧L≤H∧H≤M∧M≤n)
    (h:∀ A',RdS f w B A' (H - L) (M - L) ((xs.take H).drop L)→wpList P ops Q rest (a.put o.dst (.slice A' (H - L) (M - L))) w):wpList P ops Q (o :: rest) a w:=by
  obtain ⟨rfl,rfl,rfl,hLH,hHM,hM⟩:=hH
  have hc:=hr.cap
  refine wl_cutS hw T s _ _ _ ho el hs (L:=L) (H:=H) (M:=M) ?_ hr hLH hHM (by omega) h
  simp only [Option.map_some,hlo,hhi,hmx]
  exact bounds_lhm k k' k'' hLH hHM (by omega)
end
theorem wl_appendS (hw:Region.wanted o (yielded ops a.tmps)=true) (s x:Operand) (t:TypeId)
    (ho:o.op=.call { callee:=.builtin .append,args:=#[s,x],argTypes:=#[t,t] })
    {base E:Nat} {z:Value} {bytes:Nat} (el:El P t E z bytes) {α:Type} {f:α→Value} (hf:∀ x,(f x).oneCell' = true)
    {A:Option Addr} {n c:Nat} (hs:a.eval s=.slice A n c) {xs:List α} (hown:OwS f w base E A n c xs)
    {B:Nat} {A':Option Addr} {m c':Nat} (hx:a.eval x=.slice A' m c') {ys:List α} (hr:RdS f w B A' m c' ys)
    (hbytes:(n+m) * bytes≤140737488355328) (hpos:0 < bytes) (hbase:base≤w.heap.size)
    (h:∀ A'' c'' w',OwS f w' base E A'' (n+m) c'' (xs ++ ys)→w.grownBy w' (rowOf A)→Below base w w'→wpList P ops Q rest (a.put o.dst (.slice A'' (n+m) c'')) w'):wpList P ops Q (o :: rest) a w:=by
  obtain ⟨i,hi,hz,hsize,hby⟩:=el.info
  have h63:n+m≤maxLen:=by
    have:=Nat.le_mul_of_pos_right (n+m) hpos
    simp only [maxLen];omega
  exact wl_append hw s x t ho el.ht hi hz hsize hby (by rw [el.cells];rfl) (by omega) hs hown.ow hx (by rw [List.length_map,hr.len];omega) hr.rd (by
    intro u hu
    obtain ⟨y,_,rfl⟩:=List.mem_map.1 hu
    exact hf y) h63 hbytes hbase fun A'' c'' w' h1 h2 h3=>h A'' c'' w' ⟨by rw [← List.map_append] at h1;exact h1⟩ h2 h3
theorem wl_makeS (hw:Region.wanted o (yielded ops a.tmps)=true) (l c:Operand) (t:TypeId) (ho:o.op=.makeSlice t l c)
    {base E:Nat} {z:Value} {bytes:Nat} (el:El P t E z bytes) {α:Type} {f:α→Value} (x0:α) (hx0:f x0=z)
    {kl kc:IntKind} {L C:Int} (n:Nat) (hl:a.eval l=.int kl L) (hc:a.eval c=.int kc C) (hL:L=(n:Int)) (hC:C=(n:Int)) (b2:bytes * n≤281474976710656) (hpos:0 < bytes) (b4:base≤w.heap.size)
    (h:∀ g w',w.heap.size≤g→OwS f w' base E (some ⟨g,0,none⟩) n n (List.replicate n x0)→Below w.heap.size w w'→wpList P ops Q rest (a.put o.dst (.slice (some ⟨g,0,none⟩) n n)) w'):wpList P ops Q (o :: rest) a w:=by
  obtain ⟨i,hi,hz,hsize,hby⟩:=el.info
  have b3:n≤maxLen:=by
    have:=Nat.le_mul_of_pos_left n hpos
    simp only [maxLen];omega
  exact wl_make1 hw l c t ho el.ht hi hz hsize el.cells n hl hc hL hC (by rw [hby];exact b2) b3 b4 fun g w' h1 h2 h3=>h g w' h1 ⟨by rw [List.map_replicate,hx0];exact h2⟩ h3
theorem wl_make0S (hw:Region.wanted o (yielded ops a.tmps)=true) (l c:Operand) (t:TypeId) (ho:o.op=.makeSlice t l c)
    {base E:Nat} {z:Value} {bytes:Nat} (el:El P t E z bytes) {α:Type} {f:α→Value}
    {kl kc:IntKind} {C:Int} (n:Nat) (hl:a.eval l=.int kl 0) (hc:a.eval c=.int kc C) (hC:C=(n:Int)) (b2:bytes * n≤281474976710656) (hpos:0 < bytes) (b4:base≤w.heap.size)
    (h:∀ g w',w.heap.size≤g→OwS f w' base E (some ⟨g,0,none⟩) 0 n []→Below w.heap.size w w'→wpList P ops Q rest (a.put o.dst (.slice (some ⟨g,0,none⟩) 0 n)) w'):wpList P ops Q (o :: rest) a w:=by
  obtain ⟨i,hi,hz,hsize,hby⟩:=el.info
  have b3:n≤maxLen:=by
    have:=Nat.le_mul_of_pos_left n hpos
    simp only [maxLen];omega
  exact wl_make0 hw l c t ho el.ht hi hz hsize n hl hc hC (by rw [hby];exact b2) b3 b4 fun g w' h1 h2 h3=>h g w' h1 ⟨h2⟩ h3
theorem OwS.at0 {α:Type} {f:α→Value} {base e n c:Nat} {A:Option Addr} {xs:List α} (h:OwS f w base e A n c xs) (hn:0 < n):∃ g,A=some ⟨g,0,none⟩∧base≤g:=by
  rcases h.ow.form with ⟨_,h0,_⟩ | ⟨g,hA,hb,_⟩
  · omega
  · exact ⟨g,hA,hb⟩
theorem wl_setS (hw:Region.wanted o (yielded ops a.tmps)=true) (T:TypeId) (x y:Operand) (ho:o.op=.store T x y) (hsz:∀ w,(sizeOf T).run P w=.ok 1 w) {α:Type} {f:α→Value}
    {g j n c base e:Nat} {xs:List α} (hx:a.eval x=.pointer (some ⟨g,j,none⟩)) {k:IntKind} {z:Int} (hy:a.eval y=.int k z) (v:α) (hv:f v=.int k z)
    (hown:OwS f w base e (some ⟨g,0,none⟩) n c xs) (hj:j < n)
    (h:∀ w',OwS f w' base e (some ⟨g,0,none⟩) n c (xs.set j v)→w.grownBy w' (some g)→Below base w w'→wpList P ops Q rest (a.put o.dst undef) w'):wpList P ops Q (o :: rest) a w :=
  wl_store_int hw T x y ho hsz hx hy hown.ow hj fun w' h1 h2 h3=>h w' ⟨by rw [List.map_set,hv];exact h1⟩ h2 h3
end
section
variable {P:Program} {ops:Array Oper} {Q:Exit→Act→World→Prop} {rest:List Oper} {a:Act} {w:World}
theorem on_convert (x:Operand) {d src dst ty pos af g} (h:wpList P ops Q (⟨d,.convert src dst x,ty,pos,af,g⟩ :: rest) a w):wpList P ops Q (⟨d,.convert src dst x,ty,pos,af,g⟩ :: rest) a w:=h
theorem on_slice (s:Operand) {d T lo hi mx ty pos af g} (h:wpList P ops Q (⟨d,.slice T s lo hi mx,ty,pos,af,g⟩ :: rest) a w):wpList P ops Q (⟨d,.slice T s lo hi mx,ty,pos,af,g⟩ :: rest) a w:=h
theorem on_index (s:Operand) {d T i ty pos af g} (h:wpList P ops Q (⟨d,.indexAddr T s i,ty,pos,af,g⟩ :: rest) a w):wpList P ops Q (⟨d,.indexAddr T s i,ty,pos,af,g⟩ :: rest) a w:=h
theorem on_store {d T x y ty pos af g} (h:wpList P ops Q (⟨d,.store T x y,ty,pos,af,g⟩ :: rest) a w):wpList P ops Q (⟨d,.store T x y,ty,pos,af,g⟩ :: rest) a w:=h
theorem on_load (x:Operand) {d T ty pos af g} (h:wpList P ops Q (⟨d,.load T x,ty,pos,af,g⟩ :: rest) a w):wpList P ops Q (⟨d,.load T x,ty,pos,af,g⟩ :: rest) a w:=h
theorem on_make {d t l c ty pos af g} (h:wpList P ops Q (⟨d,.makeSlice t l c,ty,pos,af,g⟩ :: rest) a w):wpList P ops Q (⟨d,.makeSlice t l c,ty,pos,af,g⟩ :: rest) a w:=h
theorem on_append (s x:Operand) {d ats ty pos af g} (h:wpList P ops Q (⟨d,.call ⟨.builtin .append,#[s,x],ats⟩,ty,pos,af,g⟩ :: rest) a w):wpList P ops Q (⟨d,.call ⟨.builtin .append,#[s,x],ats⟩,ty,pos,af,g⟩ :: rest) a w:=h
end
def clamp (n:Int):Nat:=if n < 0 then 0 else if 32 < n then 32 else n.toNat
def sh (n:Int):Nat:=32 - clamp n
def maskN (n:Int):Nat:=4294967296 - 2 ^ sh n
theorem clamp_le (n:Int):clamp n≤32:=by unfold clamp;split <;> (try split) <;> omega
theorem sh_le (n:Int):sh n≤32:=by unfold sh;omega
theorem sh_in {n:Int} (h:0≤n) (h2:n≤32):sh n=32 - n.toNat:=by unfold sh clamp;rw [if_neg (by omega),if_neg (by omega)]
theorem pow_sh (n:Int):1≤2 ^ sh n∧2 ^ sh n≤4294967296:=⟨Nat.one_le_two_pow,by have:=Nat.pow_le_pow_right (n:=2) (by omega) (sh_le n);omega⟩
theorem maskN_lt (n:Int):maskN n < 4294967296:=by unfold maskN;have:=pow_sh n;omega
def head (a n:Int):Nat:=a.toNat / 2 ^ sh n
def holds (a n x:Int):Bool:=decide (head a n=head x n)
def pmay (a n:Int):Int:=if n < 0∨32 < n then 1 else if a.toNat % 2 ^ sh n=0 then 0 else 8
def icmp (a b:Int):Int:=if a < b then -1 else if b < a then 1 else 0
def pcmp (a m b n:Int):Int:=if a=b then icmp m n else icmp a b
theorem and_high (x s:Nat) (hx:x < 4294967296) (hs:s≤32):x &&& (4294967296 - 2 ^ s)=x / 2 ^ s * 2 ^ s:=by
  have e:4294967296 - 2 ^ s=(2 ^ (32 - s) - 1) <<< s:=by
    rw [Nat.shiftLeft_eq,Nat.sub_mul,← Nat.pow_add,show 32 - s+s=32 by omega,Nat.one_mul]
  rw [e]
  apply Nat.eq_of_testBit_eq
  intro i
  rw [Nat.testBit_and,Nat.testBit_shiftLeft,Nat.testBit_two_pow_sub_one,← Nat.shiftRight_eq_div_pow,← Nat.shiftLeft_eq,Nat.testBit_shiftLeft,Nat.testBit_shiftRight]
  by_cases h:s≤i
  · rw [show s+(i - s)=i by omega]
    by_cases h2:i < 32
    · simp [h,show i - s < 32 - s by omega]
    · have hb:x.testBit i=false:=Nat.testBit_lt_two_pow (Nat.lt_of_lt_of_le hx (by have:=Nat.pow_le_pow_right (n:=2) (by omega) (show 32≤i by omega);omega))
      simp [hb]
  · simp [h]
theorem and_u32 (a b:Nat) (ha:a < 4294967296) (hb:b < 4294967296):bits .and .u32 (a:Int) (b:Int)=((a &&& b:Nat):Int):=by
  have hx:a &&& b < 2 ^ 32:=Nat.and_lt_two_pow _ (by omega)
  show IntKind.u32.wrap ((BitVec.ofInt 32 (a:Int) &&& BitVec.ofInt 32 (b:Int)).toNat:Int)=_
  rw [BitVec.toNat_and,BitVec.ofInt_natCast,BitVec.ofInt_natCast,BitVec.toNat_ofNat,BitVec.toNat_ofNat,Nat.mod_eq_of_lt (show a < 2 ^ 32 by omega),Nat.mod_eq_of_lt (show b < 2 ^ 32 by omega),IntKind.wrap_u32]
  omega
theorem xor_u32 (a b:Nat) (ha:a < 4294967296) (hb:b < 4294967296):bits .xor .u32 (a:Int) (b:Int)=((a ^^^ b:Nat):Int):=by
  have hx:a ^^^ b < 2 ^ 32:=Nat.xor_lt_two_pow (by omega) (by omega)
  show IntKind.u32.wrap ((BitVec.ofInt 32 (a:Int) ^^^ BitVec.ofInt 32 (b:Int)).toNat:Int)=_
  rw [BitVec.toNat_xor,BitVec.ofInt_natCast,BitVec.ofInt_natCast,BitVec.toNat_ofNat,BitVec.toNat_ofNat,Nat.mod_eq_of_lt (show a < 2 ^ 32 by omega),Nat.mod_eq_of_lt (show b < 2 ^ 32 by omega),IntKind.wrap_u32]
  omega
theorem andNot_u32 (a s:Nat) (ha:a < 4294967296) (hs:s≤32):bits .andNot .u32 (a:Int) ((4294967296 - 2 ^ s:Nat):Int)=((a % 2 ^ s:Nat):Int):=by
  have hp:1≤2 ^ s∧2 ^ s≤4294967296:=⟨Nat.one_le_two_pow,by have:=Nat.pow_le_pow_right (n:=2) (by omega) hs;omega⟩
  show IntKind.u32.wrap ((BitVec.ofInt 32 (a:Int) &&& ~~~(BitVec.ofInt 32 ((4294967296 - 2 ^ s:Nat):Int))).toNat:Int)=_
  rw [BitVec.toNat_and,BitVec.toNat_not,BitVec.ofInt_natCast,BitVec.ofInt_natCast,BitVec.toNat_ofNat,BitVec.toNat_ofNat,Nat.mod_eq_of_lt (show a < 2 ^ 32 by omega),Nat.mod_eq_of_lt (show 4294967296 - 2 ^ s < 2 ^ 32 by omega),IntKind.wrap_u32]
  rw [show 2 ^ 32 - 1 - (4294967296 - 2 ^ s)=2 ^ s - 1 by omega,Nat.and_two_pow_sub_one_eq_mod]
  have:=Nat.mod_lt a (show 2 ^ s > 0 by omega)
  omega
theorem shl_fin:∀ s:Fin 33,(4294967295 * 2 ^ s.1 % 4294967296:Int)=((4294967296 - 2 ^ s.1:Nat):Int):=by decide +kernel
theorem shl_mask (s:Nat) (hs:s≤32):(4294967295 * 2 ^ s % 4294967296:Int)=((4294967296 - 2 ^ s:Nat):Int):=shl_fin ⟨s,by omega⟩
theorem xor_high (a x:Nat) (n:Int) (ha:a < 4294967296) (hx:x < 4294967296):((a ^^^ x) &&& maskN n=0)↔a / 2 ^ sh n=x / 2 ^ sh n:=by
  have hlt:a ^^^ x < 4294967296:=Nat.xor_lt_two_pow (n:=32) (by omega) (by omega)
  have hp:=pow_sh n
  unfold maskN
  rw [and_high _ _ hlt (sh_le n),← Nat.shiftRight_eq_div_pow,← Nat.shiftRight_eq_div_pow,← Nat.shiftRight_eq_div_pow,Nat.shiftRight_xor_distrib]
  constructor
  · intro h
    have:a >>> sh n ^^^ x >>> sh n=0:=by
      rcases Nat.mul_eq_zero.1 h with h | h
      · exact h
      · omega
    exact Nat.eq_of_testBit_eq fun i=>by have h2:=congrArg (fun z=>z.testBit i) this;simpa using h2
  · intro h
    rw [h,Nat.xor_self,Nat.zero_mul]
def maskTo (k i:Nat):Nat:=2 ^ i - 2 ^ (i - min i k)
theorem maskTo_lt (k i:Nat) (hi:i≤31):maskTo k i < 2147483648:=by
  unfold maskTo
  have h1:=Nat.pow_le_pow_right (n:=2) (by omega) hi
  have h2:1≤2 ^ (i - min i k):=Nat.one_le_two_pow
  omega
theorem maskTo_in (k i:Nat) (h:i < k):maskTo k (i+1)=maskTo k i * 2+1:=by
  unfold maskTo
  rw [show i+1 - min (i+1) k=0 by omega,show i - min i k=0 by omega,Nat.pow_succ]
  have:1≤2 ^ i:=Nat.one_le_two_pow
  omega
theorem maskTo_out (k i:Nat) (h:k≤i):maskTo k (i+1)=maskTo k i * 2:=by
  unfold maskTo
  rw [show i+1 - min (i+1) k=(i - min i k)+1 by omega,Nat.pow_succ,Nat.pow_succ,Nat.sub_mul]
theorem maskTo_end (n:Int):maskTo (clamp n) 32=maskN n:=by
  unfold maskTo maskN sh
  have:=clamp_le n
  rw [show 32 - min 32 (clamp n)=32 - clamp n by omega]
def bitN (a i:Nat):Nat:=a / 2 ^ (31 - i) % 2
theorem head_step (a i:Nat) (hi:i < 32):a / 2 ^ (32 - (i+1))=a / 2 ^ (32 - i) * 2+bitN a i:=by
  unfold bitN
  have e:32 - i=(32 - (i+1))+1:=by omega
  rw [e,Nat.pow_succ,← Nat.div_div_eq_div_mul,show 31 - i=32 - (i+1) by omega]
  omega
theorem head_bit (a x i:Nat) (hi:i < 32) (h:a / 2 ^ (32 - i)=x / 2 ^ (32 - i)):a / 2 ^ (32 - (i+1))=x / 2 ^ (32 - (i+1))↔bitN a i=bitN x i:=by
  rw [head_step a i hi,head_step x i hi,h]
  omega
theorem head_more (a x i j:Nat) (hij:i≤j) (h:a / 2 ^ i=x / 2 ^ i):a / 2 ^ j=x / 2 ^ j:=by
  obtain ⟨d,rfl⟩:∃ d,j=i+d:=⟨j - i,by omega⟩
  rw [Nat.pow_add,← Nat.div_div_eq_div_mul,← Nat.div_div_eq_div_mul,h]
open Go.RowKit
structure RdC {α:Type} (f:α→Value) (C:World→Prop) (B:Nat) (A:Option Addr) (n c:Nat) (xs:List α):Prop where
  rd:∀ w,C w→RdS f w B A n c xs
def cutA (A:Option Addr) (L M:Nat):Option Addr:=if M=L then A else A.map (·.add L)
theorem RdS.cut {α:Type} {f:α→Value} {w:World} {B:Nat} {A:Option Addr} {n c:Nat} {xs:List α} (h:RdS f w B A n c xs) (L H M:Nat) (hLH:L≤H) (hHM:H≤M) (hHn:H≤n) :
    RdS f w B (cutA A L M) (H - L) (M - L) ((xs.take H).drop L):=by
  refine ⟨?_,by rw [List.length_drop,List.length_take,h.len];omega,by omega⟩
  have:=(h.rd.take H).drop L M (fun e=>by rw [List.length_take,List.length_map,h.len];omega)
  rw [← List.map_take,← List.map_drop] at this
  exact this
section
variable {P:Program} {ops:Array Oper} {rest:List Oper} {o:Oper} {a:Act} {C:World→Prop} {Q:Act→Prop}
theorem wq_run {v:Value} (hw:Region.wanted o (yielded ops a.tmps)=true) (hr:∀ w,C w→(execOp a.eval o).run P w=.ok (.value v) w) (h:wpQuiet P ops C Q rest (a.put o.dst v)):wpQuiet P ops C Q (o :: rest) a:=by
  refine wpQuiet_step fun K hK=>?_
  rw [if_pos hw]
  refine ⟨v,fun w hC=>?_,hK _ h⟩
  unfold Oper.quietAt
  rw [hr w hC]
  exact ⟨rfl,rfl⟩
theorem wq_cutS (hw:Region.wanted o (yielded ops a.tmps)=true) (T:TypeId) (s:Operand) (lo hi mx:Option Operand) (ho:o.op=.slice T s lo hi mx) {E bytes:Nat} {z:Value} (el:El P T E z bytes)
    {α:Type} {f:α→Value} {A:Option Addr} {n c:Nat} (hs:a.eval s=.slice A n c) {L H M:Nat}
    (hb:∀ w,(Instr.sliceBounds true n c (lo.map a.eval) (hi.map a.eval) (mx.map a.eval)).run P w=.ok (L,H,M) w)
    {B:Nat} {xs:List α} (hr:RdC f C B A n c xs) (hLH:L≤H) (hHM:H≤M) (hHn:H≤n)
    (h:∀ A',RdC f C B A' (H - L) (M - L) ((xs.take H).drop L)→wpQuiet P ops C Q rest (a.put o.dst (.slice A' (H - L) (M - L)))) :
    wpQuiet P ops C Q (o :: rest) a:=by
  refine wq_run hw (v:=.slice (cutA A L M) (H - L) (M - L)) (fun w hC=>?_) (h _ ⟨fun w hC=>(hr.rd w hC).cut L H M hLH hHM hHn⟩)
  simp only [execOp,ho,hs,Sem.run_bind,Instr.sliceAt,run_underlying el.ht,Instr.slice,hb w,el.size,Result.andThen,Sem.run_pure,Nat.mul_one,cutA]
section
variable (hw:Region.wanted o (yielded ops a.tmps)=true) (T:TypeId) (s:Operand) {E bytes:Nat} {z:Value} (el:El P T E z bytes)
    {α:Type} {f:α→Value} {A:Option Addr} {n c:Nat} (hs:a.eval s=.slice A n c) {B:Nat} {xs:List α} (hr:RdC f C B A n c xs) {w0:World} (hC0:C w0)
include hw el hs hr hC0
theorem wq_cut_l (lo:Operand) (ho:o.op=.slice T s (some lo) Option.none Option.none) {k:IntKind} {I:Int} (hlo:a.eval lo=.int k I) (L:Nat) (hL:I=(L:Int)∧L≤n)
    (h:∀ A',RdC f C B A' (n - L) (c - L) (xs.drop L)→wpQuiet P ops C Q rest (a.put o.dst (.slice A' (n - L) (c - L)))):wpQuiet P ops C Q (o :: rest) a:=by
  obtain ⟨rfl,hL⟩:=hL
  refine wq_cutS hw T s _ _ _ ho el hs (L:=L) (H:=n) (M:=c) (fun w=>?_) hr hL (hr.rd w0 hC0).cap (Nat.le_refl _) fun A' hA=>h A' ?_
  · simp only [Option.map_some,Option.map_none,hlo]
    exact bounds_l k hL
  · rw [List.take_of_length_le (Nat.le_of_eq (hr.rd w0 hC0).len)] at hA
    exact hA
end
end
open Go.RowKit
theorem flat_get {α:Type} {f:α→List Value} {k:Nat} (hf:∀ x,(f x).length=k) {xs:List α} {i:Nat} {x:α} (h:xs[i]? = some x) {j:Nat} (hj:j < k):(xs.flatMap f)[i * k+j]? = (f x)[j]?:=by
  induction xs generalizing i with
  | nil=>simp at h
  | cons y ys ih =>
    rw [List.flatMap_cons]
    cases i with
    | zero =>
      simp at h
      subst h
      rw [List.getElem?_append_left (by rw [hf];omega)]
      simp
    | succ i =>
      rw [List.getElem?_cons_succ] at h
      rw [List.getElem?_append_right (by rw [hf,Nat.succ_mul];omega),hf,show (i+1) * k+j - k=i * k+j by rw [Nat.succ_mul];omega]
      exact ih h
theorem flat_length {α:Type} {f:α→List Value} {k:Nat} (hf:∀ x,(f x).length=k) (xs:List α):(xs.flatMap f).length=xs.length * k:=by
  induction xs with
  | nil=>simp
  | cons y ys ih=>rw [List.flatMap_cons,List.length_append,ih,hf,List.length_cons,Nat.succ_mul];omega
theorem flat_take {α:Type} {f:α→List Value} {k:Nat} (hf:∀ x,(f x).length=k):∀ (xs:List α) (n:Nat),(xs.flatMap f).take (n * k)=(xs.take n).flatMap f
  | xs,0=>by simp
  | [],n+1=>by simp
  | y :: ys,n+1=>by
    rw [List.flatMap_cons,List.take_succ_cons,List.flatMap_cons,List.take_append,hf,List.take_of_length_le (by rw [hf,Nat.succ_mul];omega),show (n+1) * k - k=n * k by rw [Nat.succ_mul];omega,flat_take hf ys n]
theorem flat_drop {α:Type} {f:α→List Value} {k:Nat} (hf:∀ x,(f x).length=k):∀ (xs:List α) (n:Nat),(xs.flatMap f).drop (n * k)=(xs.drop n).flatMap f
  | xs,0=>by simp
  | [],n+1=>by simp
  | y :: ys,n+1=>by
    rw [List.flatMap_cons,List.drop_succ_cons,List.drop_append,hf,List.drop_eq_nil_of_le (by rw [hf,Nat.succ_mul];omega),List.nil_append,show (n+1) * k - k=n * k by rw [Nat.succ_mul];omega,flat_drop hf ys n]
structure RdM {α:Type} (f:α→List Value) (w:World) (B:Nat) (A:Option Addr) (n c:Nat) (xs:List α):Prop where
  rd:Rd w B A (xs.flatMap f)
  len:xs.length=n
  cap:n≤c
structure OwM {α:Type} (f:α→List Value) (k:Nat) (w:World) (base:Nat) (e:TypeId) (A:Option Addr) (n c:Nat) (xs:List α):Prop where
  ow:Ow w base e k A n c (xs.flatMap f)
  len:xs.length=n
section
variable {α:Type} {f:α→List Value} {k:Nat} {w w':World} {B B' n c base:Nat} {A:Option Addr} {xs:List α} {e:TypeId}
theorem RdM.below (h:RdM f w B A n c xs) (hb:Below B w w'):RdM f w' B A n c xs:=⟨h.rd.below hb,h.len,h.cap⟩
theorem RdM.step (h:RdM f w B A n c xs) (hb:Below w.heap.size w w'):RdM f w' B A n c xs :=
  ⟨⟨fun j u hu=>by
    obtain ⟨b,o,e,hB,hc⟩:=h.rd.at_ j u hu
    exact ⟨b,o,e,hB,(hb.cell (World.block_lt_of_cell? w ⟨b,o+j,none⟩ hc)).trans hc⟩⟩,h.len,h.cap⟩
theorem RdM.more (h:RdM f w B A n c xs) (hB:B≤B'):RdM f w B' A n c xs:=⟨h.rd.more hB,h.len,h.cap⟩
theorem RdM.heap (h:RdM f w B A n c xs):RdM f w w.heap.size A n c xs:=⟨h.rd.heap,h.len,h.cap⟩
theorem RdM.alloc (h:RdM f w B A n c xs) (o:Obj):RdM f (w.alloc o) B A n c xs:=⟨h.rd.alloc o,h.len,h.cap⟩
theorem RdM.drew (h:RdM f w B A n c xs):RdM f w.drew B A n c xs:=⟨h.rd.drew,h.len,h.cap⟩
theorem RdM.nil (w:World) (B:Nat):RdM f w B Option.none 0 0 []:=⟨Rd.nil _ _ _,rfl,Nat.le_refl _⟩
theorem OwM.cap (h:OwM f k w base e A n c xs):n≤c:=h.ow.cap
theorem OwM.rd (h:OwM f k w base e A n c xs):RdM f w w.heap.size A n c xs:=⟨h.ow.rd,h.len,h.cap⟩
theorem OwM.below (h:OwM f k w base e A n c xs) (hb:Below w.heap.size w w'):OwM f k w' base e A n c xs:=⟨h.ow.below hb,h.len⟩
theorem OwM.alloc (h:OwM f k w base e A n c xs) (o:Obj):OwM f k (w.alloc o) base e A n c xs:=h.below ((Below.refl _ _).alloc (Nat.le_refl _) o)
theorem OwM.base_le {base':Nat} (h:OwM f k w base e A n c xs) (hb:base'≤base):OwM f k w base' e A n c xs:=⟨h.ow.base_le hb,h.len⟩
theorem OwM.nil_ (w:World) (base:Nat) (e:TypeId):OwM f k w base e Option.none 0 0 []:=⟨Ow.nil_ _ _ _ _,rfl⟩
theorem OwM.grown {row:Option Nat} (h:OwM f k w base e A n c xs) (hg:w.grownBy w' row) (hne:∀ g,A=some ⟨g,0,Option.none⟩→row≠some g):OwM f k w' base e A n c xs:=⟨h.ow.grown hg hne,h.len⟩
theorem OwM.lit' (hf:∀ x,(f x).length=k) (w:World) (cs:Array Value) (n g:Nat) (hg:g=w.heap.size) (hb:base≤w.heap.size) (hm:n≤maxLen) (hn:xs.length=n) (hs:cs.toList=xs.flatMap f):OwM f k (w.alloc (.cells cs e)) base e (some ⟨g,0,Option.none⟩) n n xs:=by
  subst hg
  have h1:cs.size=n * k:=by rw [← Array.length_toList,hs,flat_length hf,hn]
  refine ⟨⟨?_⟩,hn⟩
  rw [← hs]
  exact World.ownsRow_lit w cs n hb hm h1
theorem OwM.lit (hf:∀ x,(f x).length=k) (w:World) (cs:Array Value) (n:Nat) (hb:base≤w.heap.size) (hm:n≤maxLen) (hn:xs.length=n) (hs:cs.toList=xs.flatMap f):OwM f k (w.alloc (.cells cs e)) base e (some ⟨w.heap.size,0,Option.none⟩) n n xs:=OwM.lit' hf w cs n _ rfl hb hm hn hs
theorem RdM.cells (hf:∀ x,(f x).length=k) (h:RdM f w B A n c xs) {i:Nat} {x:α} (hx:xs[i]? = some x) (hk:0 < k):∃ b o,A=some ⟨b,o,none⟩∧b < B∧∀ j v,(f x)[j]? = some v→w.cell? ⟨b,o+i * k+j,none⟩=some v:=by
  have key:∀ j v,(f x)[j]? = some v→(xs.flatMap f)[i * k+j]? = some v:=fun j v hv=>by
    have hj:j < k:=by rw [← hf x];exact (List.getElem?_eq_some_iff.1 hv).1
    rw [flat_get hf hx hj,hv]
  obtain ⟨v0,hv0⟩:∃ v,(f x)[0]? = some v:=⟨(f x)[0]'(by rw [hf];exact hk),List.getElem?_eq_getElem _⟩
  obtain ⟨b,o,e,hb,_⟩:=h.rd.at_ _ _ (key 0 v0 hv0)
  refine ⟨b,o,e,hb,fun j v hv=>?_⟩
  obtain ⟨b',o',e',_,hc⟩:=h.rd.at_ _ _ (key j v hv)
  rw [e] at e'
  injection e' with e'
  injection e' with e1 e2
  subst e1 e2
  rw [Nat.add_assoc]
  exact hc
theorem RdM.cut (hf:∀ x,(f x).length=k) (h:RdM f w B A n c xs) (L H M:Nat) (hLH:L≤H) (hHM:H≤M) (hHn:H≤n) (hk:0 < k) :
    RdM f w B (if M=L then A else A.map (·.add (L * k))) (H - L) (M - L) ((xs.take H).drop L):=by
  refine ⟨?_,by rw [List.length_drop,List.length_take,h.len];omega,by omega⟩
  have h1:=h.rd.take (H * k)
  rw [flat_take hf] at h1
  rw [← flat_drop hf]
  by_cases e:M=L
  · have:H=L:=by omega
    subst this
    rw [if_pos e,List.drop_eq_nil_of_le (by rw [flat_length hf,List.length_take];exact Nat.mul_le_mul_right _ (by omega))]
    exact Rd.nil _ _ _
  · rw [if_neg e]
    have h2:=h1.drop (L * k) (L * k+1) (fun e=>by omega)
    rwa [if_neg (by omega)] at h2
end
structure ElM (P:Program) (t E:TypeId) (z:Value) (bytes k:Nat):Prop where
  ht:P.underlying t=some (.slice E)
  info:∃ i,P.info? E=some i∧i.zero=some z∧i.size=k∧i.bytes=bytes
  cells:z.cells.size=k
  size:∀ w,(sizeOf E).run P w=.ok k w
  pos:0 < k
section
variable {P:Program} {ops:Array Oper} {rest:List Oper} {o:Oper} {a:Act} {Q:Exit→Act→World→Prop} {w:World} {α:Type} {f:α→List Value} {k:Nat} (hf:∀ x,(f x).length=k)
theorem wm_at (hf:∀ x,(f x).length=k) (hw:Region.wanted o (yielded ops a.tmps)=true) (T:TypeId) (s i:Operand) (ho:o.op=.indexAddr T s i) {E bytes:Nat} {z:Value} (el:ElM P T E z bytes k)
    {A:Option Addr} {n c:Nat} {kk:IntKind} {I:Int} (hs:a.eval s=.slice A n c) (hi:a.eval i=.int kk I) (h0:0≤I) (h1:I < n)
    {B:Nat} {xs:List α} (hr:RdM f w B A n c xs)
    (h:∀ (b j:Nat) (x:α),Hid (xs[I.toNat]? = some x)→b < B→Hid (∀ i v,(f x)[i]? = some v→w.cell? ⟨b,j+i,none⟩=some v)→wpList P ops Q rest (a.put o.dst (.pointer (some ⟨b,j,none⟩))) w) :
    wpList P ops Q (o :: rest) a w:=by
  have hl:I.toNat < xs.length:=by have:=hr.len;omega
  obtain ⟨b,off,hA,hb,hc⟩:=hr.cells hf (List.getElem?_eq_getElem hl) el.pos
  subst hA
  refine wl_run hw (v:=.pointer (some ⟨b,off+I.toNat * k,none⟩)) (w':=w) ?_ (h b _ _ (List.getElem?_eq_getElem hl) hb hc)
  have:=run_indexAt (P:=P) (w:=w) T el.ht (el.size w) ⟨b,off,none⟩ n c kk I h0 h1
  rw [Addr.add_lit] at this
  simp only [execOp,ho,hs,hi,Sem.run_bind,this,Result.andThen,Sem.run_pure]
theorem wm_cutS (hf:∀ x,(f x).length=k) (hw:Region.wanted o (yielded ops a.tmps)=true) (T:TypeId) (s:Operand) (lo hi mx:Option Operand) (ho:o.op=.slice T s lo hi mx) {E bytes:Nat} {z:Value} (el:ElM P T E z bytes k)
    {A:Option Addr} {n c:Nat} (hs:a.eval s=.slice A n c) {L H M:Nat}
    (hb:(Instr.sliceBounds true n c (lo.map a.eval) (hi.map a.eval) (mx.map a.eval)).run P w=.ok (L,H,M) w)
    {B:Nat} {xs:List α} (hr:RdM f w B A n c xs) (hLH:L≤H) (hHM:H≤M) (hHn:H≤n)
    (h:∀ A',RdM f w B A' (H - L) (M - L) ((xs.take H).drop L)→wpList P ops Q rest (a.put o.dst (.slice A' (H - L) (M - L))) w) :
    wpList P ops Q (o :: rest) a w:=by
  refine wl_run hw (v:=.slice (if M=L then A else A.map (·.add (L * k))) (H - L) (M - L)) (w':=w) ?_ (h _ (hr.cut hf L H M hLH hHM hHn el.pos))
  simp only [execOp,ho,hs,Sem.run_bind,Instr.sliceAt,run_underlying el.ht,Instr.slice,hb,el.size,Result.andThen,Sem.run_pure]
section
variable (hf:∀ x,(f x).length=k) (hw:Region.wanted o (yielded ops a.tmps)=true) (T:TypeId) (s:Operand) {E bytes:Nat} {z:Value} (el:ElM P T E z bytes k)
    {A:Option Addr} {n c:Nat} (hs:a.eval s=.slice A n c) {B:Nat} {xs:List α} (hr:RdM f w B A n c xs)
include hf hw el hs hr
theorem wm_cut_h (hi:Operand) (ho:o.op=.slice T s Option.none (some hi) Option.none) {kk:IntKind} {I:Int} (hhi:a.eval hi=.int kk I) (H:Nat) (hH:I=(H:Int)∧H≤n)
    (h:∀ A',RdM f w B A' H c (xs.take H)→wpList P ops Q rest (a.put o.dst (.slice A' H c)) w):wpList P ops Q (o :: rest) a w:=by
  obtain ⟨rfl,hH⟩:=hH
  have hc:=hr.cap
  refine wm_cutS hf hw T s _ _ _ ho el hs (L:=0) (H:=H) (M:=c) ?_ hr (Nat.zero_le _) (by omega) hH fun A' hA=>h A' ?_
  · simp only [Option.map_some,Option.map_none,hhi]
    exact bounds_h kk (by omega)
  · exact hA
end
theorem wm_append (hf:∀ x,(f x).length=k) (hw:Region.wanted o (yielded ops a.tmps)=true) (s x:Operand) (t:TypeId)
    (ho:o.op=.call { callee:=.builtin .append,args:=#[s,x],argTypes:=#[t,t] })
    {base E:Nat} {z:Value} {bytes:Nat} (el:ElM P t E z bytes k) (h1:∀ x,∀ u∈f x,u.oneCell' = true)
    {A:Option Addr} {n c:Nat} (hs:a.eval s=.slice A n c) {xs:List α} (hown:OwM f k w base E A n c xs)
    {B:Nat} {A':Option Addr} {m c':Nat} (hx:a.eval x=.slice A' m c') {ys:List α} (hr:RdM f w B A' m c' ys)
    (hbytes:(n+m) * bytes≤140737488355328) (hpos:0 < bytes) (hbase:base≤w.heap.size)
    (h:∀ A'' c'' w',OwM f k w' base E A'' (n+m) c'' (xs ++ ys)→w.grownBy w' (rowOf A)→Below base w w'→wpList P ops Q rest (a.put o.dst (.slice A'' (n+m) c'')) w'):wpList P ops Q (o :: rest) a w:=by
  obtain ⟨i,hi,hz,hsize,hby⟩:=el.info
  have h63:n+m≤maxLen:=by
    have:=Nat.le_mul_of_pos_right (n+m) hpos
    simp only [maxLen];omega
  exact wl_append hw s x t ho el.ht hi hz hsize hby el.cells el.pos hs hown.ow hx (by rw [flat_length hf,hr.len]) hr.rd (by
    intro u hu
    obtain ⟨y,_,hy⟩:=List.mem_flatMap.1 hu
    exact h1 y u hy) h63 hbytes hbase fun A'' c'' w' h1 h2 h3=>h A'' c'' w' ⟨by rw [← List.flatMap_append] at h1;exact h1,by rw [List.length_append,hown.len,hr.len]⟩ h2 h3
end
structure Box (w:World) (g:Nat) (t:TypeId) (cs:Array Value):Prop where
  at_:w.heap[g]? = some (.cells cs t (0,0))
section
variable {w w':World} {g:Nat} {t:TypeId} {cs:Array Value}
theorem Box.lt (h:Box w g t cs):g < w.heap.size:=(Array.getElem?_eq_some_iff.1 h.at_).1
theorem Box.below {B:Nat} (h:Box w g t cs) (hb:Below B w w') (hg:g < B):Box w' g t cs:=⟨(hb.block g hg).trans h.at_⟩
theorem Box.step (h:Box w g t cs) (hb:Below w.heap.size w w'):Box w' g t cs:=h.below hb h.lt
theorem Box.new (w:World) (cs:Array Value) (t:TypeId):Box (w.alloc (.cells cs t)) w.heap.size t cs:=⟨heap_alloc_new w _⟩
theorem Box.alloc (h:Box w g t cs) (o:Obj):Box (w.alloc o) g t cs:=h.step (below_alloc w (Nat.le_refl _) o)
theorem Box.drew (h:Box w g t cs):Box w.drew g t cs:=⟨h.at_⟩
theorem Box.grown {row:Option Nat} (h:Box w g t cs) (hg:w.grownBy w' row) (hne:row≠some g):Box w' g t cs:=⟨(hg.block g h.lt (fun e=>hne e.symm)).trans h.at_⟩
theorem Box.cell (h:Box w g t cs) (j:Nat):w.cell? ⟨g,j,none⟩=cs[j]?:=cell_of_row w g j cs t (0,0) h.at_
theorem Box.frozen (h:Box w g t cs) (j:Nat):w.frozen? ⟨g,j,none⟩=false:=frozen_of_row w g j cs t h.at_
theorem Box.setRow (h:Box w g t cs) (cs':Array Value):Box (w.setRow g cs') g t cs'∧w.grownBy (w.setRow g cs') (some g) :=
  ⟨⟨setRow_heap w g cs cs' t (0,0) h.at_⟩,⟨rfl,rfl,rfl,by simp,fun k _ hk=>setRow_other w g k cs' (fun e=>hk (by rw [e]))⟩⟩
theorem Box.setCell (h:Box w g t cs) (j:Nat) (v:Value):Box (w.setCell ⟨g,j,none⟩ v) g t (cs.setIfInBounds j v)∧w.grownBy (w.setCell ⟨g,j,none⟩ v) (some g):=by
  rw [setCell_eq_setRow w g j cs t (0,0) v h.at_]
  exact h.setRow _
theorem below_of_grown {B:Nat} {row:Option Nat} (hg:w.grownBy w' row) (hr:∀ k,row=some k→B≤k) (hB:B≤w.heap.size):Below B w w':=(Below.refl _ _).grown hg hB hr
end
section
variable {P:Program} {ops:Array Oper} {rest:List Oper} {o:Oper} {a:Act} {Q:Exit→Act→World→Prop} {w:World}
structure St (P:Program) (T:TypeId) (k:Nat):Prop where
  under:∃ fs,P.underlying T=some (.struct fs)
  size:(P.info? T).map (·.size)=some k
theorem wb_load (hw:Region.wanted o (yielded ops a.tmps)=true) (T:TypeId) (x:Operand) (ho:o.op=.load T x) {k:Nat} (st:St P T k) {g:Nat} {t:TypeId} {cs:Array Value} (hx:a.eval x=.pointer (some ⟨g,0,none⟩)) (hb:Box w g t cs) (hk:cs.size=k)
    (h:wpList P ops Q rest (a.put o.dst (.agg cs)) w):wpList P ops Q (o :: rest) a w:=by
  obtain ⟨fs,hu⟩:=st.under
  subst hk
  refine wl_run hw ?_ h
  simp only [execOp,ho,hx,Instr.loadAt,Instr.sureAddr,Sem.run_bind,Sem.run_pure,Result.andThen_ok,run_loadVar_row w g t T cs (0,0) _ hb.at_ hu rfl st.size]
theorem wb_store (hw:Region.wanted o (yielded ops a.tmps)=true) (T:TypeId) (x y:Operand) (ho:o.op=.store T x y) {k:Nat} (st:St P T k) {g:Nat} {t:TypeId} {cs cs':Array Value} (hx:a.eval x=.pointer (some ⟨g,0,none⟩)) (hy:a.eval y=.agg cs')
    (hb:Box w g t cs) (hk:cs.size=k) (hk':cs'.size=k) (h1:cs'.all (·.oneCell')=true)
    (h:∀ w',Box w' g t cs'→w.grownBy w' (some g)→wpList P ops Q rest (a.put o.dst undef) w'):wpList P ops Q (o :: rest) a w:=by
  subst hk'
  obtain ⟨h2,h3⟩:=hb.setRow cs'
  refine wl_run0 hw ?_ (h _ h2 h3)
  simp only [execOp,ho,hx,hy,Instr.storeAt,Instr.sureAddr,Sem.run_bind,Sem.run_pure,Result.andThen_ok,run_storeVar_row w g t T cs cs' hb.at_ st.size hk h1]
theorem run_loadVar_at {T:TypeId} {k:Nat} (st:St P T k) {b j:Nat} {cs:List Value} (hk:cs.length=k) (hc:∀ i v,cs[i]? = some v→w.cell? ⟨b,j+i,none⟩=some v):(loadVar T ⟨b,j,none⟩).run P w=.ok (.agg cs.toArray) w:=by
  obtain ⟨fs,hu⟩:=st.under
  have hl:(loadCells ⟨b,j,none⟩ cs.length).run P w=.ok cs.toArray w:=run_loadCells_list (P:=P) w ⟨b,j,none⟩ cs (fun i v hv=>by rw [Addr.add_lit];exact hc i v hv)
  have hs:=st.size
  cases hq:P.info? T with
  | none=>simp [hq] at hs
  | some i =>
    have hs':i.size=k:=by simpa [hq] using hs
    have hagg:(isAgg T).run P w=.ok true w:=by
      unfold isAgg
      rw [Sem.run_bind,run_underlying hu w]
      rfl
    simp [loadVar,Sem.run_bind,hagg,sizeOf,typeInfo,hq,hs',← hk,hl]
theorem wm_load (hw:Region.wanted o (yielded ops a.tmps)=true) (T:TypeId) (x:Operand) (ho:o.op=.load T x) {k:Nat} (st:St P T k) {b j:Nat} {cs:List Value} (hx:a.eval x=.pointer (some ⟨b,j,none⟩)) (hk:cs.length=k) (hc:∀ i v,cs[i]? = some v→w.cell? ⟨b,j+i,none⟩=some v)
    (h:wpList P ops Q rest (a.put o.dst (.agg cs.toArray)) w):wpList P ops Q (o :: rest) a w:=by
  refine wl_run hw ?_ h
  simp only [execOp,ho,hx,Instr.loadAt,Instr.sureAddr,Sem.run_bind,Sem.run_pure,Result.andThen_ok,run_loadVar_at st hk hc]
end
end Go.Th
namespace Go.Proofs.YtjandnidljbkoaaGreat
theorem info_u8:(Tryz.prog.info? 5).map (fun i=>(i.zero,i.size,i.bytes))=some (some (.int .u8 0),1,1):=by kernel_rfl
theorem info_int:(Tryz.prog.info? 3).map (fun i=>(i.zero,i.size,i.bytes))=some (some (.int .i64 0),1,8):=by kernel_rfl
theorem size_u8 (w:World):(sizeOf 5).run Tryz.prog w=.ok 1 w:=by kernel_rfl
theorem size_int (w:World):(sizeOf 3).run Tryz.prog w=.ok 1 w:=by kernel_rfl
theorem el_u8:Go.Th.El Tryz.prog 22 5 (.int .u8 0) 1:=⟨Tryz.underlying22,info_parts info_u8,rfl,size_u8⟩
theorem el_int:Go.Th.El Tryz.prog 38 3 (.int .i64 0) 8:=⟨Tryz.underlying38,info_parts info_int,rfl,size_int⟩
theorem info_u32:(Tryz.prog.info? 23).map (fun i=>(i.zero,i.size,i.bytes))=some (some (.int .u32 0),1,4):=by kernel_rfl
theorem size_u32 (w:World):(sizeOf 23).run Tryz.prog w=.ok 1 w:=by kernel_rfl
theorem el_u32:Go.Th.El Tryz.prog 44 23 (.int .u32 0) 4:=⟨Tryz.underlying44,info_parts info_u32,rfl,size_u32⟩
theorem info_rule:(Tryz.prog.info? 52).map (fun i=>(i.zero,i.size,i.bytes))=some (some (.agg #[.int .u32 0,.int .i64 0,.int .i64 0,.int .i64 0]),4,32):=by kernel_rfl
theorem size_rule (w:World):(sizeOf 52).run Tryz.prog w=.ok 4 w:=by kernel_rfl
theorem el_rule:Go.Th.ElM Tryz.prog 50 52 (.agg #[.int .u32 0,.int .i64 0,.int .i64 0,.int .i64 0]) 32 4:=⟨Tryz.underlying50,info_parts info_rule,rfl,size_rule,by omega⟩
theorem st_rule:Go.Th.St Tryz.prog 52 4:=⟨⟨_,Tryz.underlying52⟩,by kernel_rfl⟩
open Go.RowKit Go.Th
def RetV (v:Value) (w:World) (e:Ending) (w':World):Prop:=e=.returned v∧w=w'
theorem mask_any (n:Int) (w:World) (h:-9223372036854775808≤n∧n≤9223372036854775807):Calls Tryz.prog 29 #[.int .i64 n] w (RetV (.int .u32 (maskN n:Nat)) w):=by
  obtain ⟨h1,h2⟩:=h
  obtain ⟨k,hk,hk2⟩:∃ k:Nat,clamp n=k∧k≤32:=⟨_,rfl,clamp_le n⟩
  have hs:sh n=32 - k:=by unfold sh;rw [hk]
  have hm:=shl_mask (32 - k) (by omega)
  have he:(maskN n:Nat)=4294967296 - 2 ^ (32 - k):=by unfold maskN;rw [hs]
  have Hm:=Lib.hid hm
  have He:=Lib.hid he
  have hc:(n < 0∧k=0)∨(32 < n∧k=32)∨(0≤n∧n≤32∧n=k):=by
    unfold clamp at hk
    split at hk
    · omega
    · split at hk <;> omega
  clear hm he hs hk
  rcases hc with ⟨h3,rfl⟩ | ⟨h3,rfl⟩ | ⟨h3,h4,rfl⟩
  all_goals go_enter Tryz.func29,Tryz.ntmps29
  all_goals go_wp2
  all_goals go_ret
  all_goals refine ⟨?_,rfl⟩
  all_goals rw [He.out,← Hm.out]
  all_goals rfl
theorem pmay_any (a n:Int) (w:World) (ha:0≤a∧a≤4294967295) (h:-9223372036854775808≤n∧n≤9223372036854775807) :
    Calls Tryz.prog 54 #[.int .u32 a,.int .i64 n] w (RetV (.int .i64 (pmay a n)) w):=by
  obtain ⟨a,rfl⟩:=Int.eq_ofNat_of_zero_le ha.1
  by_cases h1:n < 0
  · have e:pmay a n=1:=by unfold pmay;rw [if_pos (by omega)]
    rw [e]
    clear e
    go_enter Tryz.func54,Tryz.ntmps54
    go_wp2
    go_ret
    exact ⟨rfl,rfl⟩
  by_cases h2:32 < n
  · have e:pmay a n=1:=by unfold pmay;rw [if_pos (by omega)]
    rw [e]
    clear e
    go_enter Tryz.func54,Tryz.ntmps54
    go_wp2
    go_ret
    exact ⟨rfl,rfl⟩
  have h3:=andNot_u32 a (sh n) (by omega) (sh_le n)
  have he:pmay a n=if a % 2 ^ sh n=0 then 0 else 8:=by unfold pmay;rw [if_neg (by omega),Int.toNat_natCast]
  have hm:=mask_any n w h
  have hme:maskN n=4294967296 - 2 ^ sh n:=rfl
  rw [← hme] at h3
  clear hme
  obtain ⟨v,hv⟩:∃ v,pmay a n=v:=⟨_,rfl⟩
  rw [hv]
  rw [hv] at he
  generalize maskN n=m at *
  generalize a % 2 ^ sh n=y at *
  have hyb:(v=0∧((y:Int) != 0)=false)∨(v=8∧((y:Int) != 0)=true):=by
    by_cases hy:y=0
    · exact .inl ⟨by rw [he,if_pos hy],by subst hy;rfl⟩
    · exact .inr ⟨by rw [he,if_neg hy],by simpa using hy⟩
  have Hm:=Lib.hid hm
  clear he hv hm
  have h1':0≤n:=by omega
  have h2':n≤32:=by omega
  rcases hyb with ⟨rfl,hy⟩ | ⟨rfl,hy⟩
  all_goals go_enter Tryz.func54,Tryz.ntmps54
  all_goals go_wp2_with (go_at_call 29;refine (Hm.out).mono ?_;rintro e w' ⟨rfl,rfl⟩)
  all_goals go_ret
  all_goals exact ⟨rfl,rfl⟩
theorem icmp_u32 (a b:Int) (w:World) (ha:0≤a∧a≤4294967295) (hb:0≤b∧b≤4294967295):Calls Tryz.prog 76 #[.int .u32 a,.int .u32 b] w (RetV (.int .i64 (icmp a b)) w):=by
  have hc:(a < b∧icmp a b = -1)∨(b < a∧icmp a b=1)∨(a=b∧icmp a b=0):=by
    unfold icmp;split <;> (try split) <;> omega
  obtain ⟨v,hv⟩:∃ v,icmp a b=v:=⟨_,rfl⟩
  rw [hv] at hc ⊢
  clear hv
  have n1:((a:Int) != a)=false:=by simp
  have n2:((b:Int) != b)=false:=by simp
  rcases hc with ⟨h,rfl⟩ | ⟨h,rfl⟩ | ⟨rfl,rfl⟩
  all_goals go_enter Tryz.func76,Tryz.ntmps76
  all_goals go_wp2
  all_goals go_ret
  all_goals exact ⟨rfl,rfl⟩
theorem icmp_int (a b:Int) (w:World):Calls Tryz.prog 77 #[.int .i64 a,.int .i64 b] w (RetV (.int .i64 (icmp a b)) w):=by
  have hc:(a < b∧icmp a b = -1)∨(b < a∧icmp a b=1)∨(a=b∧icmp a b=0):=by
    unfold icmp;split <;> (try split) <;> omega
  obtain ⟨v,hv⟩:∃ v,icmp a b=v:=⟨_,rfl⟩
  rw [hv] at hc ⊢
  clear hv
  have n1:((a:Int) != a)=false:=by simp
  have n2:((b:Int) != b)=false:=by simp
  rcases hc with ⟨h,rfl⟩ | ⟨h,rfl⟩ | ⟨rfl,rfl⟩
  all_goals go_enter Tryz.func77,Tryz.ntmps77
  all_goals go_wp2
  all_goals go_ret
  all_goals exact ⟨rfl,rfl⟩
theorem pcmp_any (a m b n:Int) (w:World) (ha:0≤a∧a≤4294967295) (hb:0≤b∧b≤4294967295) :
    Calls Tryz.prog 30 #[.int .u32 a,.int .i64 m,.int .u32 b,.int .i64 n] w (RetV (.int .i64 (pcmp a m b n)) w):=by
  by_cases h:a=b
  · subst h
    have e:pcmp a m a n=icmp m n:=by unfold pcmp;rw [if_pos rfl]
    rw [e]
    clear e
    have n1:((a:Int) != a)=false:=by simp
    go_enter Tryz.func30,Tryz.ntmps30
    go_wp2_with (go_at_call 77;refine (icmp_int _ _ _).mono ?_;rintro e w' ⟨rfl,rfl⟩)
    go_ret
    exact ⟨rfl,rfl⟩
  · have e:pcmp a m b n=icmp a b:=by unfold pcmp;rw [if_neg h]
    rw [e]
    clear e
    have n1:((a:Int) != b)=true:=by simpa using h
    go_enter Tryz.func30,Tryz.ntmps30
    go_wp2_with (go_at_call 76;refine (icmp_u32 _ _ _ ha hb).mono ?_;rintro e w' ⟨rfl,rfl⟩)
    go_ret
    exact ⟨rfl,rfl⟩
open Go.RowKit Go.Th
theorem rmask_any (n:Int) (w:World):Calls Tryz.prog 132 #[.int .i64 n] w (RetV (.int .u32 (maskN n:Nat)) w):=by
  obtain ⟨k,hk,hk2⟩:∃ k:Nat,clamp n=k∧k≤32:=⟨_,rfl,clamp_le n⟩
  have hc:∀ i:Nat,i < 32→((i:Int) < n↔i < k):=by
    intro i hi
    unfold clamp at hk
    split at hk
    · omega
    · split at hk <;> omega
  have Hc:=Lib.hid hc
  have He:=Lib.hid (maskTo_end n)
  rw [hk] at He
  clear hc hk
  go_enter Tryz.func132,Tryz.ntmps132
  go_wp2
  go_loop [3,4] (fun m i=>∃ j:Nat,j≤32∧i=.int .i64 j∧m=.int .u32 (maskTo k j:Nat)) (fun _ i=>32 - (intOf i).toNat)
  case atStart=>exact ⟨0,by omega,rfl,by simp [maskTo]⟩
  case round =>
    obtain ⟨j,hj,rfl,rfl⟩:=hrel
    by_cases hlt:j < 32
    · have hb:=maskTo_lt k j (by omega)
      have h1:=Hc.out j hlt
      obtain ⟨m,hm⟩:∃ m,maskTo k j=m:=⟨_,rfl⟩
      rw [hm] at hb ⊢
      by_cases h2:j < k
      · have h3:(j:Int) < n:=h1.2 h2
        have h4:=Lib.hid (maskTo_in k j h2)
        rw [hm] at h4
        clear h1 hm
        go_wp2
        go_round
        case rel=>exact ⟨j+1,by omega,by go_num,by rw [h4.out];go_num⟩
        case measure=>simp [intOf];omega
      · have h3:¬ (j:Int) < n:=fun e=>h2 (h1.1 e)
        have h4:=Lib.hid (maskTo_out k j (by omega))
        rw [hm] at h4
        clear h1 hm
        go_wp2
        go_round
        case rel=>exact ⟨j+1,by omega,by go_num,by rw [h4.out];go_num⟩
        case measure=>simp [intOf];omega
    · have e:j=32:=by omega
      subst e
      rw [He.out]
      go_wp2
      go_ret
      exact ⟨rfl,rfl⟩
theorem rpcmp_any (a m b n:Int) (w:World) :
    Calls Tryz.prog 133 #[.int .u32 a,.int .i64 m,.int .u32 b,.int .i64 n] w (RetV (.int .i64 (pcmp a m b n)) w):=by
  have hc:(a < b∧pcmp a m b n = -1)∨(b < a∧pcmp a m b n=1)∨(a=b∧m < n∧pcmp a m b n = -1)∨(a=b∧n < m∧pcmp a m b n=1)∨(a=b∧m=n∧pcmp a m b n=0):=by
    unfold pcmp icmp;split <;> split <;> (try split) <;> omega
  obtain ⟨v,hv⟩:∃ v,pcmp a m b n=v:=⟨_,rfl⟩
  rw [hv] at hc ⊢
  clear hv
  rcases hc with ⟨h,rfl⟩ | ⟨h,rfl⟩ | ⟨rfl,h,rfl⟩ | ⟨rfl,h,rfl⟩ | ⟨rfl,rfl,rfl⟩
  · have n1:((a:Int) == b)=false:=by simp;omega
    go_enter Tryz.func133,Tryz.ntmps133
    go_wp2
    go_ret
    exact ⟨rfl,rfl⟩
  · have n1:((a:Int) == b)=false:=by simp;omega
    go_enter Tryz.func133,Tryz.ntmps133
    go_wp2
    go_ret
    exact ⟨rfl,rfl⟩
  · have n1:((m:Int) == n)=false:=by simp;omega
    go_enter Tryz.func133,Tryz.ntmps133
    go_wp2
    go_ret
    exact ⟨rfl,rfl⟩
  · have n1:((m:Int) == n)=false:=by simp;omega
    go_enter Tryz.func133,Tryz.ntmps133
    go_wp2
    go_ret
    exact ⟨rfl,rfl⟩
  · go_enter Tryz.func133,Tryz.ntmps133
    go_wp2
    go_ret
    exact ⟨rfl,rfl⟩
end Go.Proofs.YtjandnidljbkoaaGreat
namespace Go.Th
structure Ru where
  a:Int
  n:Int
  act:Int
  next:Int
deriving DecidableEq
def Ru.cs (r:Ru):List Value:=[.int .u32 r.a,.int .i64 r.n,.int .i64 r.act,.int .i64 r.next]
def Ru.v (r:Ru):Value:=.agg #[.int .u32 r.a,.int .i64 r.n,.int .i64 r.act,.int .i64 r.next]
structure Ru.Ok (r:Ru):Prop where
  a:0≤r.a∧r.a≤4294967295
  n:-9223372036854775808≤r.n∧r.n≤9223372036854775807
  act:-9223372036854775808≤r.act∧r.act≤9223372036854775807
  next:-9223372036854775808≤r.next∧r.next≤9223372036854775807
theorem Ru.cs_length (r:Ru):r.cs.length=4:=rfl
def Ru.cmp (r s:Ru):Int:=pcmp r.a r.n s.a s.n
def Ru.holds (r:Ru) (x:Int):Bool:=Th.holds r.a r.n x
def Ru.may (r:Ru) (nodes:Int):Int :=
  if pmay r.a r.n≠0 then pmay r.a r.n
  else if r.act=1 then (if r.next < 0∨nodes≤r.next then 10 else 0)
  else if r.act=2∨r.act=3 then (if r.next≠0 then 10 else 0)
  else 9
def lead (a n:Int):Int:=((a.toNat / 2 ^ sh n * 2 ^ sh n:Nat):Int)
def Ru.fit (r:Ru) (nodes:Int):Ru :=
  { a:=lead r.a (r.n % 33),n:=r.n % 33,act:=if r.act % 3=0 then 3 else r.act % 3,next:=if r.act % 3=1 then r.next % nodes else 0 }
theorem lead_and (a n:Int) (h:0≤a∧a≤4294967295):bits .and .u32 a (maskN n:Nat)=lead a n:=by
  obtain ⟨a,rfl⟩:=Int.eq_ofNat_of_zero_le h.1
  rw [and_u32 a (maskN n) (by omega) (maskN_lt n)]
  unfold lead maskN
  rw [and_high a _ (by omega) (sh_le n),Int.toNat_natCast]
theorem lead_bd (a n:Int) (h:0≤a∧a≤4294967295):0≤lead a n∧lead a n≤4294967295:=by
  unfold lead
  have:=Nat.div_mul_le_self a.toNat (2 ^ sh n)
  omega
theorem tmod_bd (x m:Int) (hm:0 < m):-m < x.tmod m∧x.tmod m < m:=by
  rcases Int.le_total 0 x with h | h
  · have h1:=Int.tmod_nonneg m h
    have h2:=Int.tmod_lt_of_pos x hm
    omega
  · have h1:=Int.tmod_nonneg m (show 0≤-x by omega)
    have h2:=Int.tmod_lt_of_pos (-x) hm
    rw [Int.neg_tmod] at h1 h2
    omega
theorem tmod_up (x m:Int):(x.tmod m+m) % m=x % m:=by
  rw [Int.add_emod_right]
  have h:x.tmod m=x - m * (x.tdiv m):=by have:=Int.tmod_add_mul_tdiv x m;omega
  rw [h,Int.sub_mul_emod_self_left]
theorem Ru.fit_ok (r:Ru) (nodes:Int) (h:r.Ok) (hn:1≤nodes∧nodes≤4611686018427387904):(r.fit nodes).Ok:=by
  have h1:=lead_bd r.a (r.n % 33) h.a
  have h2:=Int.emod_nonneg r.next (b:=nodes) (by omega)
  have h3:=Int.emod_lt_of_pos r.next (b:=nodes) (by omega)
  refine ⟨h1,?_,?_,?_⟩
  · show _≤r.n % 33∧r.n % 33≤_;omega
  · show _≤(if r.act % 3=0 then 3 else r.act % 3)∧(if r.act % 3=0 then 3 else r.act % 3)≤_;split <;> omega
  · show _≤(if r.act % 3=1 then r.next % nodes else 0)∧(if r.act % 3=1 then r.next % nodes else 0)≤_;split <;> omega
open Go.RowKit
def NoWay:Exit→Act→World→Prop:=fun _ _ _=>False
section
variable {P:Program} {ops:Array Oper} {G:World→World→Prop} {md:Region.Mode}
theorem upon_map {o:Oper} {a a':Act} {next next':Act→World→Prop} {Q':Exit→Act→World→Prop}
    (hval:∀ v w,next (a.put o.dst v) w→next' (a'.put o.dst v) w)
    (hdef:∀ d w,next ({ a with defers:=d :: a.defers }.put o.dst undef) w→next' ({ a' with defers:=d :: a'.defers }.put o.dst undef) w)
    (r:Result Next) (h:o.upon P a next NoWay r):o.upon P a' next' Q' r:=by
  cases r with
  | ok n w' =>
    cases n <;> simp only [Oper.upon] at h ⊢
    case value v=>exact hval _ _ h
    case skip=>exact hval _ _ h
    case defer d=>exact hdef _ _ h
    case enter f args =>
      refine h.mono fun e w'' hh=>?_
      cases e with
      | returned v=>exact hval _ _ hh
      | panicked c=>exact hh.elim
      | outgrown=>obtain ⟨_,_,hf⟩:=hh;exact hf.elim
    case row row args=>exact h.mono fun v w'' hh=>hval _ _ hh
  | halt x w' =>
    cases x <;> simp only [Oper.upon] at h
    case panic v=>exact h.elim
theorem wp_weak {o:Oper} {a:Act} {w:World} {K K':Act→World→Prop} {Q':Exit→Act→World→Prop} (h:∀ a w,K a w→K' a w) (hh:o.wp P a w K NoWay):o.wp P a w K' Q' :=
  upon_map (fun _ _=>h _ _) (fun _ _=>h _ _) _ hh
def opG (P:Program) (ops:Array Oper) (G:World→World→Prop) (i:Nat) (K:Act→World→Prop) (a:Act) (w:World):Prop :=
  match ops[i]? with
  | none=>K a w
  | some o=>if Region.wanted o (yielded ops a.tmps) then o.wp P a w (fun a' w'=>G w w'∧K a' w') NoWay else K (a.put o.dst undef) w
def anyG (P:Program) (md:Region.Mode) (ops:Array Oper) (G:World→World→Prop) (Q:Act→World→Prop):Nat→Array Bool→Act→World→Prop
  | 0,listed,a,w=>Region.ready md ops listed=[]∧Q a w
  | fuel+1,listed,a,w =>
    (Region.ready md ops listed=[]→Q a w) ∧
    ∀ i∈Region.ready md ops listed,opG P ops G i (anyG P md ops G Q fuel (listed.setIfInBounds i true)) a w
theorem wpAny_of_anyG {Q:Act→World→Prop} {Q':Exit→Act→World→Prop} (hQ:∀ a w,Q a w→Q' .normal a w):∀ (fuel:Nat) (listed:Array Bool) (a:Act) (w:World),anyG P md ops G Q fuel listed a w→wpAny P md ops Q' fuel listed a w
  | 0,_,_,_,h=>⟨h.1,hQ _ _ h.2⟩
  | fuel+1,listed,a,w,h=>by
    refine ⟨fun h0=>hQ _ _ (h.1 h0),fun i hi=>?_⟩
    have h1:=h.2 i hi
    unfold opG at h1
    unfold wpOp
    split
    · rename_i ho
      simp only [ho] at h1
      exact wpAny_of_anyG hQ fuel _ _ _ h1
    · rename_i o ho
      simp only [ho] at h1
      split
      · rename_i hw
        simp only [hw,if_true] at h1
        exact .inl (wp_weak (fun a' w' hh=>wpAny_of_anyG hQ fuel _ _ _ hh.2) h1)
      · rename_i hw
        simp only [hw] at h1
        exact wpAny_of_anyG hQ fuel _ _ _ h1
def YieldsG (P:Program) (ops:Array Oper) (G:World→World→Prop) (o:Oper) (v:Value) (a:Act) (w:World):Prop :=
  (Region.wanted o (yielded ops a.tmps)=true∧∀ w',G w w'→(execOp a.eval o).run P w' = .ok (.value v) w'∨((execOp a.eval o).run P w' = .ok .skip w'∧v=undef)) ∨
  (Region.wanted o (yielded ops a.tmps)=false∧v=undef)
theorem YieldsG.of_same {o:Oper} {v:Value} {a a':Act} {w:World} (hy:YieldsG P ops G o v a w) (he:execOp a'.eval o=execOp a.eval o)
    (hw:Region.wanted o (yielded ops a'.tmps)=Region.wanted o (yielded ops a.tmps)):YieldsG P ops G o v a' w:=by
  unfold YieldsG at *
  rw [he,hw]
  exact hy
theorem YieldsG.later {o:Oper} {v:Value} {a:Act} {w w':World} (hG:∀ x y z,G x y→G y z→G x z) (hy:YieldsG P ops G o v a w) (h:G w w'):YieldsG P ops G o v a w':=by
  rcases hy with ⟨h1,h2⟩ | h1
  · exact .inl ⟨h1,fun w'' hw=>h2 w'' (hG _ _ _ h hw)⟩
  · exact .inr h1
theorem YieldsG.opG {i:Nat} {o:Oper} {v:Value} {a:Act} {w:World} (hr:∀ x,G x x) (hi:ops[i]? = some o) (hy:YieldsG P ops G o v a w) {K:Act→World→Prop} (h:K (a.put o.dst v) w):opG P ops G i K a w:=by
  unfold Go.Th.opG
  simp only [hi]
  rcases hy with ⟨hw,hv⟩ | ⟨hw,rfl⟩
  · simp only [hw,if_true]
    unfold Oper.wp
    rcases hv w (hr w) with e | ⟨e,rfl⟩ <;> rw [e] <;> exact ⟨hr w,h⟩
  · simp only [hw,Bool.false_eq_true,if_false]
    exact h
theorem opG_mono {i:Nat} {a:Act} {w:World} {K K':Act→World→Prop} (h:∀ a' w',(w' = w∨G w w')→K a' w'→K' a' w') (hh:opG P ops G i K a w):opG P ops G i K' a w:=by
  unfold opG at *
  split
  · rename_i ho;simp only [ho] at hh;exact h _ _ (.inl rfl) hh
  · rename_i o ho
    simp only [ho] at hh
    split
    · rename_i hw;simp only [hw,if_true] at hh;exact wp_weak (fun a' w' q=>⟨q.1,h _ _ (.inr q.1) q.2⟩) hh
    · rename_i hw;simp only [hw] at hh;exact h _ _ (.inl rfl) hh
theorem opG_put {j:Nat} {oi oj:Oper} {v:Value} (hG:∀ x y z,G x y→G y z→G x z) (hj:ops[j]? = some oj) (hap:oi.apart ops oj=true)
    (hsi:∀ cs b,oi.op≠.select cs b) (hsj:∀ cs b,oj.op≠.select cs b) {K:Act→World→Prop} {a:Act} {w:World}
    (hy:YieldsG P ops G oi v a w) (h:opG P ops G j K (a.put oi.dst v) w) :
    opG P ops G j (fun a' w'=>YieldsG P ops G oi v a' w'∧K (a'.put oi.dst v) w') a w:=by
  obtain ⟨h1,h2,h3⟩:=Oper.apart_spec hap
  have keep:∀ (a:Act),YieldsG P ops G oi v a w→∀ u,YieldsG P ops G oi v (a.put oj.dst u) w:=fun a hy u =>
    hy.of_same (execOp_put oi hsi a oj.dst u h3) (wanted_put oi a oj.dst u h3)
  have defers_put:∀ (b:Act) (x:Option Tmp) (u:Value) (ds:List Deferred),({ b with defers:=ds }:Act).put x u={ b.put x u with defers:=ds }:=fun b x u ds=>by cases x <;> rfl
  have pd:∀ (b:Act) (x:Option Tmp) (u:Value),(b.put x u).defers=b.defers:=fun b x u=>by cases x <;> rfl
  unfold opG at *
  simp only [hj] at *
  rw [wanted_put oj a oi.dst v h1] at h
  split
  · rename_i hw
    simp only [hw,if_true] at h
    unfold Oper.wp at *
    rw [execOp_put oj hsj a oi.dst v h1] at h
    refine upon_map (a:=a.put oi.dst v) (fun u w' hh=>⟨hh.1,(keep a hy u).later hG hh.1,?_⟩) (fun d w' hh=>⟨hh.1,?_,?_⟩) _ h
    · rw [← Act.put_comm a v u h2];exact hh.2
    · exact (((keep a hy undef).later hG hh.1).of_same (a':=({ a with defers:=d :: a.defers }:Act).put oj.dst undef) (by rw [defers_put];rfl) (by rw [defers_put]))
    · have hh2:=hh.2
      have e:({ (a.put oi.dst v) with defers:=d :: (a.put oi.dst v).defers }:Act).put oj.dst undef=(({ a with defers:=d :: a.defers }:Act).put oj.dst undef).put oi.dst v:=by
        have hL:=defers_put (a.put oi.dst v) oj.dst undef (d :: (a.put oi.dst v).defers)
        have hR1:=defers_put a oj.dst undef (d :: a.defers)
        have hR2:=defers_put (a.put oj.dst undef) oi.dst v (d :: a.defers)
        rw [hL,hR1,hR2,Act.put_comm a v undef h2,pd]
      rw [e] at hh2
      exact hh2
  · rename_i hw
    simp only [hw] at h
    exact ⟨keep a hy _,by rw [← Act.put_comm a v undef h2];exact h⟩
theorem anyG_first {Q:Act→World→Prop} {i:Nat} {oi:Oper} {v:Value} (hG:∀ x y z,G x y→G y z→G x z) (hr0:∀ x,G x x) (hi:ops[i]? = some oi) (hsel:∀ (j:Nat) (o:Oper) cs b,ops[j]? = some o→o.op≠.select cs b) :
    ∀ (fuel:Nat) (listed:Array Bool) (a:Act) (w:World),
      (∀ j oj,ops[j]? = some oj→j≠i→listed.getD j true=false→(∀ e∈oj.after,Region.binds md e=true→e.on≠i)→oi.apart ops oj=true) →
      i∈Region.ready md ops listed→YieldsG P ops G oi v a w →
      anyG P md ops G Q fuel (listed.setIfInBounds i true) (a.put oi.dst v) w→anyG P md ops G Q (fuel+1) listed a w:=by
  intro fuel
  induction fuel with
  | zero =>
    intro listed a w _ hr hy H
    refine ⟨fun h=>(by rw [h] at hr;cases hr),fun j hj=>?_⟩
    by_cases hji:j=i
    · subst hji;exact hy.opG hr0 hi H
    · have:=ready_mono hj hji
      rw [H.1] at this
      cases this
  | succ fuel ih =>
    intro listed a w hfree hr hy H
    refine ⟨fun h=>(by rw [h] at hr;cases hr),fun j hj=>?_⟩
    by_cases hji:j=i
    · subst hji;exact hy.opG hr0 hi H
    · have h1:=H.2 j (ready_mono hj hji)
      obtain ⟨hjun,oj,hoj,hall⟩:=mem_ready.1 hj
      have hnot:∀ e∈oj.after,Region.binds md e=true→e.on≠i:=fun e he hb heq=>by
        have h1:=hall e he hb
        have h0:=(mem_ready.1 hr).1
        rw [heq] at h1
        rcases Nat.lt_or_ge i listed.size with h' | h'
        · simp [h'] at h0 h1;rw [h0] at h1;cases h1
        · simp [Array.getElem?_eq_none h'] at h1
      have h2:=opG_put hG hoj (hfree j oj hoj hji hjun hnot) (fun cs b=>hsel i oi cs b hi) (fun cs b=>hsel j oj cs b hoj) hy h1
      have hfree':∀ k ok,ops[k]? = some ok→k≠i→(listed.setIfInBounds j true).getD k true=false →
          (∀ e∈ok.after,Region.binds md e=true→e.on≠i)→oi.apart ops ok=true:=fun k ok hk hki hun hno=>by
        refine hfree k ok hk hki ?_ hno
        by_cases hjk:j=k
        · subst hjk;exact hjun
        · rw [getD_set_ne true hjk] at hun;exact hun
      refine opG_mono (fun a' w' _ h3=>ih (listed.setIfInBounds j true) a' w' hfree' (ready_mono hr (Ne.symm hji)) h3.1 ?_) h2
      rw [Array.setIfInBounds_comm _ _ hji]
      exact h3.2
def calm (o:Oper):Bool :=
  match o.op with
  | .move _ | .assign _ | .pick .. | .load .. | .binOp .. | .unOp .. | .convert .. | .slice .. | .fieldAddr .. | .field .. | .indexAddr .. | .index .. | .extract .. | .lookup .. | .build ..=>true
  | .call { callee:=.builtin .len,.. } | .call { callee:=.builtin .min,.. } | .call { callee:=.builtin .max,.. } | .call { callee:=.builtin .cap,.. }=>true
  | _=>false
theorem calm_run {o:Oper} (h:calm o=true) {ρ:Operand→Value} {w w':World} {n:Next} (hr:(execOp ρ o).run P w=.ok n w'):(∃ v,n=.value v)∨n=.skip:=by
  have key:∀ s:Sem Value,(do pure (Next.value (← s)):Sem Next).run P w=.ok n w'→∃ v,n=.value v:=by
    intro s hs
    rw [Sem.run_bind] at hs
    cases hq:s.run P w with
    | ok v w1 =>
      rw [hq] at hs
      simp only [Result.andThen,Sem.run_pure] at hs
      injection hs with h1 h2
      exact ⟨v,h1.symm⟩
    | halt x w1=>rw [hq] at hs;simp [Result.andThen] at hs
  obtain ⟨dst,op,ty,pos,after,guard⟩:=o
  cases op <;> simp only [calm] at h <;> (try cases h)
  case call c =>
    obtain ⟨callee,args,ats⟩:=c
    cases callee <;> (try simp only at h) <;> (try cases h)
    case builtin b =>
      cases b <;> (try simp only at h) <;> (try cases h)
      all_goals
        left
        rw [BigFrame.execOp_builtin] at hr
        first
          | (rw [BigFrame.builtin_len] at hr;exact key _ hr)
          | (rw [BigFrame.builtin_min] at hr;exact key _ hr)
          | (rw [BigFrame.builtin_max] at hr;exact key _ hr)
          | (rw [BigFrame.builtin_cap] at hr;exact key _ hr)
  case pick c a b =>
    left
    simp only [execOp,Sem.run_bind] at hr
    cases hq:(asBool (ρ c)).run P w with
    | ok v w1 =>
      rw [hq] at hr
      simp only [Result.andThen,Sem.run_pure] at hr
      injection hr with h1 h2
      exact ⟨_,h1.symm⟩
    | halt x w1=>rw [hq] at hr;simp [Result.andThen] at hr
  all_goals left
  all_goals first
    | (exact key _ hr)
    | (simp only [execOp,Sem.run_pure] at hr;injection hr with h1 h2;exact ⟨_,h1.symm⟩)
inductive Tree where
  | done
  | float (s n:Nat) (t:Tree)
  | one (i:Nat) (t:Tree)
  | two (i:Nat) (t:Tree) (j:Nat) (u:Tree)
  | three (i:Nat) (t:Tree) (j:Nat) (u:Tree) (k:Nat) (v:Tree)
def calmAt (ops:Array Oper) (i:Nat):Bool:=match ops[i]? with | some o=>calm o | none=>false
def floatsB (ops:Array Oper):Nat→Nat→Array Bool→Bool
  | 0,_,_=>true
  | n+1,k,listed=>(Region.ready .any ops listed).contains k && Region.free .any ops listed k && calmAt ops k && floatsB ops n (k+1) (listed.setIfInBounds k true)
def listAll:Nat→Nat→Array Bool→Array Bool
  | 0,_,listed=>listed
  | n+1,k,listed=>listAll n (k+1) (listed.setIfInBounds k true)
def Tree.len:Tree→Nat
  | .done=>0
  | .float _ n t=>n+t.len
  | .one _ t=>t.len+1
  | .two _ t _ _=>t.len+1
  | .three _ t _ _ _ _=>t.len+1
def Tree.okB (ops:Array Oper):Tree→Array Bool→Bool
  | .done,listed=>(Region.ready .any ops listed).isEmpty
  | .float s n t,listed=>floatsB ops n s listed && t.okB ops (listAll n s listed)
  | .one i t,listed=>decide (Region.ready .any ops listed=[i]) && t.okB ops (listed.setIfInBounds i true)
  | .two i t j u,listed=>decide (Region.ready .any ops listed=[i,j]) && t.len == u.len && t.okB ops (listed.setIfInBounds i true) && u.okB ops (listed.setIfInBounds j true)
  | .three i t j u k v,listed=>decide (Region.ready .any ops listed=[i,j,k]) && t.len == u.len && t.len == v.len && t.okB ops (listed.setIfInBounds i true) && u.okB ops (listed.setIfInBounds j true) && v.okB ops (listed.setIfInBounds k true)
def treeB (ops:Array Oper) (t:Tree):Bool:=Region.noSelect ops && t.len == ops.size && t.okB ops (Array.replicate ops.size false)
def Anch (G:World→World→Prop) (w:World) (K:Act→World→Prop) (e:Exit) (a:Act) (w':World):Prop:=e=.normal∧G w w'∧K a w'
def wpTree (P:Program) (ops:Array Oper) (G:World→World→Prop) (Q:Act→World→Prop) (l:List Oper):Tree→Act→World→Prop
  | .done,a,w=>Q a w
  | .float s n t,a,w=>wpQuiet P ops (G w) (fun a'=>wpTree P ops G Q l t a' w) ((l.drop s).take n) a
  | .one i t,a,w=>wpList P ops (Anch G w (wpTree P ops G Q l t)) ((l.drop i).take 1) a w
  | .two i t j u,a,w=>wpList P ops (Anch G w (wpTree P ops G Q l t)) ((l.drop i).take 1) a w∧wpList P ops (Anch G w (wpTree P ops G Q l u)) ((l.drop j).take 1) a w
  | .three i t j u k v,a,w=>wpList P ops (Anch G w (wpTree P ops G Q l t)) ((l.drop i).take 1) a w∧wpList P ops (Anch G w (wpTree P ops G Q l u)) ((l.drop j).take 1) a w∧wpList P ops (Anch G w (wpTree P ops G Q l v)) ((l.drop k).take 1) a w
theorem yieldsG_of_in {o:Oper} {v:Value} {a:Act} {w:World} (hc:calm o=true) (h:YieldsIn P ops (G w) o v a):YieldsG P ops G o v a w:=by
  rcases h with ⟨h1,h2⟩ | h1
  · refine .inl ⟨h1,fun w' hw=>?_⟩
    have h3:=h2 w' hw
    unfold Oper.quietAt at h3
    cases hq:(execOp a.eval o).run P w' with
    | ok n w1 =>
      rw [hq] at h3
      rcases calm_run hc hq with ⟨u,rfl⟩ | rfl
      · simp only [Oper.quietUpon] at h3
        obtain ⟨rfl,rfl⟩:=h3
        exact .inl rfl
      · simp only [Oper.quietUpon] at h3
        obtain ⟨rfl,rfl⟩:=h3
        exact .inr ⟨rfl,rfl⟩
    | halt x w1=>rw [hq] at h3;simp only [Oper.quietUpon] at h3
  · exact .inr h1
theorem anyG_floats {Q:Act→World→Prop} (hG:∀ x y z,G x y→G y z→G x z) (hr0:∀ x,G x x) (hs:Region.noSelect ops=true) (l:List Oper) (hl:l.toArray=ops) (K:Act→World→Prop) (fuel:Nat) (w:World) :
    ∀ (n s:Nat) (listed:Array Bool) (a:Act),floatsB ops n s listed=true→(∀ a',K a' w→anyG P .any ops G Q fuel (listAll n s listed) a' w) →
      wpQuiet P ops (G w) (fun a'=>K a' w) ((l.drop s).take n) a→anyG P .any ops G Q (n+fuel) listed a w:=by
  intro n
  induction n with
  | zero=>intro s listed a _ hK h;rw [Nat.zero_add];rw [List.take_zero] at h;exact hK a h
  | succ n ih =>
    intro s listed a hB hK h
    simp only [floatsB,Bool.and_eq_true] at hB
    obtain ⟨⟨⟨hr,hf⟩,hc⟩,hB'⟩:=hB
    unfold calmAt at hc
    cases ho:ops[s]? with
    | none=>rw [ho] at hc;simp at hc
    | some o =>
      rw [ho] at hc
      have hlt:s < l.length:=by
        have:=(Array.getElem?_eq_some_iff.1 ho).1
        rw [← hl] at this;simpa using this
      have hlo:l[s]=o:=by
        have h1:=(Array.getElem?_eq_some_iff.1 ho).2
        subst hl
        simpa using h1
      rw [List.drop_eq_getElem_cons hlt,List.take_succ_cons,hlo] at h
      have hst:qOp P ops (G w) s (wpQuiet P ops (G w) (fun a'=>K a' w) ((l.drop (s+1)).take n)) a:=by unfold qOp;simp only [ho];exact h
      obtain ⟨v,hy,hK1⟩:=yieldsIn_of_qOp ho hst
      rw [show n+1+fuel=(n+fuel)+1 by omega]
      exact anyG_first hG hr0 ho (Region.noSelect_spec hs) (n+fuel) listed a w (Region.free_spec ho hf) (by simpa using hr) (yieldsG_of_in hc hy)
        (ih (s+1) _ _ hB' hK hK1)
theorem wp_nowayOf {o:Oper} {w:World} {K:Act→World→Prop} {a:Act} {w0:World} (h:o.wp P a w (wpList P ops (Anch G w0 K) []) (Anch G w0 K)):o.wp P a w (fun a' w'=>G w0 w'∧K a' w') NoWay:=by
  unfold Oper.wp at *
  generalize (execOp a.eval o).run P w=r at *
  cases r with
  | ok n w' =>
    cases n <;> simp only [Oper.upon] at h ⊢
    case value v=>exact ⟨h.2.1,h.2.2⟩
    case skip=>exact ⟨h.2.1,h.2.2⟩
    case defer d=>exact ⟨h.2.1,h.2.2⟩
    case enter f args =>
      refine h.mono fun e w'' hh=>?_
      cases e with
      | returned v=>exact ⟨hh.2.1,hh.2.2⟩
      | panicked c=>exact absurd hh.1 (by simp)
      | outgrown=>obtain ⟨_,_,hf⟩:=hh;exact absurd hf.1 (by simp)
    case row row args=>exact h.mono fun v w'' hh=>⟨hh.2.1,hh.2.2⟩
  | halt x w' =>
    cases x <;> simp only [Oper.upon] at h
    case panic v=>exact absurd h.1 (by simp)
theorem opG_anch (l:List Oper) (hl:l.toArray=ops) {K K':Act→World→Prop} {a:Act} {w:World} {i:Nat} {listed:Array Bool} (hi:i∈Region.ready .any ops listed)
    (hK:∀ a w,K a w→K' a w) (h:wpList P ops (Anch G w K) ((l.drop i).take 1) a w):opG P ops G i K' a w:=by
  obtain ⟨_,o,ho,_⟩:=mem_ready.1 hi
  have hlt:i < l.length:=by
    have:=(Array.getElem?_eq_some_iff.1 ho).1
    rw [← hl] at this;simpa using this
  have hlo:l[i]=o:=by
    have h1:=(Array.getElem?_eq_some_iff.1 ho).2
    subst hl
    simpa using h1
  rw [List.drop_eq_getElem_cons hlt,List.take_succ_cons,List.take_zero,hlo] at h
  unfold opG
  simp only [ho]
  simp only [wpList] at h
  split
  · rename_i hw
    simp only [hw,if_true] at h
    rcases h with h | ⟨_,_,_,hq⟩
    · exact wp_weak (fun a' w' q=>⟨q.1,hK _ _ q.2⟩) (wp_nowayOf (ops:=ops) h)
    · exact absurd hq.1 (by simp)
  · rename_i hw
    simp only [hw] at h
    exact hK _ _ h.2.2
theorem anyG_tree {Q:Act→World→Prop} (hG:∀ x y z,G x y→G y z→G x z) (hr0:∀ x,G x x) (hs:Region.noSelect ops=true) (l:List Oper) (hl:l.toArray=ops) :
    ∀ (t:Tree) (listed:Array Bool) (a:Act) (w:World),t.okB ops listed=true→wpTree P ops G Q l t a w→anyG P .any ops G Q t.len listed a w
  | .done,listed,a,w,hB,h=>⟨by simpa [Tree.okB] using hB,h⟩
  | .float s n t,listed,a,w,hB,h=>by
    simp only [Tree.okB,Bool.and_eq_true] at hB
    exact anyG_floats hG hr0 hs l hl (wpTree P ops G Q l t) t.len w n s listed a hB.1 (fun a' h'=>anyG_tree hG hr0 hs l hl t _ a' w hB.2 h') h
  | .one i t,listed,a,w,hB,h=>by
    simp only [Tree.okB,Bool.and_eq_true,decide_eq_true_eq] at hB
    refine ⟨fun h0=>absurd (hB.1 ▸ h0) (by simp),fun k hk=>?_⟩
    have hk':=hk
    rw [hB.1] at hk'
    have hk':=List.mem_singleton.1 hk'
    subst hk'
    exact opG_anch l hl hk (fun a w h=>anyG_tree hG hr0 hs l hl t _ a w hB.2 h) h
  | .two i t j u,listed,a,w,hB,h=>by
    simp only [Tree.okB,Bool.and_eq_true,decide_eq_true_eq,beq_iff_eq] at hB
    obtain ⟨⟨⟨h1,h2⟩,h3⟩,h4⟩:=hB
    refine ⟨fun h0=>absurd (h1 ▸ h0) (by simp),fun k hk=>?_⟩
    have hk':=hk
    rw [h1] at hk'
    simp at hk'
    rcases hk' with hk' | hk'
    · subst hk'
      exact opG_anch l hl hk (fun a w h=>anyG_tree hG hr0 hs l hl t _ a w h3 h) h.1
    · subst hk'
      exact opG_anch l hl hk (fun a w h=>by have:=anyG_tree hG hr0 hs l hl u _ a w h4 h;rw [← h2] at this;exact this) h.2
  | .three i t j u m v,listed,a,w,hB,h=>by
    simp only [Tree.okB,Bool.and_eq_true,decide_eq_true_eq,beq_iff_eq] at hB
    obtain ⟨⟨⟨⟨⟨h1,h2⟩,h2'⟩,h3⟩,h4⟩,h5⟩:=hB
    refine ⟨fun h0=>absurd (h1 ▸ h0) (by simp),fun k hk=>?_⟩
    have hk':=hk
    rw [h1] at hk'
    simp at hk'
    rcases hk' with hk' | hk' | hk'
    · subst hk'
      exact opG_anch l hl hk (fun a w h=>anyG_tree hG hr0 hs l hl t _ a w h3 h) h.1
    · subst hk'
      exact opG_anch l hl hk (fun a w h=>by have:=anyG_tree hG hr0 hs l hl u _ a w h4 h;rw [← h2] at this;exact this) h.2.1
    · subst hk'
      exact opG_anch l hl hk (fun a w h=>by have:=anyG_tree hG hr0 hs l hl v _ a w h5 h;rw [← h2'] at this;exact this) h.2.2
theorem wp_region_tree (t:Tree) (G:World→World→Prop) (hG:∀ x y z,G x y→G y z→G x z) (hr0:∀ x,G x x) {id:Nat} {Q:Exit→Act→World→Prop} {a:Act} {w:World} {l:List Oper} (hm:P.follows .mixedOrders=true) (hB:treeB l.toArray t=true)
    (h:∀ K:Act→World→Prop,(∀ a w',Q .normal a w'→K a w')→wpTree P l.toArray G K l t a w.drew):(Code.region id l.toArray true).wp P Q a w:=by
  simp only [treeB,Bool.and_eq_true,beq_iff_eq] at hB
  obtain ⟨⟨h1,h2⟩,h3⟩:=hB
  refine wp_region_any hm (wpAny_of_anyG (Q:=Q .normal) (G:=G) (fun _ _ h=>h) _ _ _ _ ?_)
  have:=anyG_tree hG hr0 h1 l rfl t _ a _ h3 (h _ (fun _ _ h=>h))
  rw [h2] at this
  exact this
theorem wpTree_done {Q:Act→World→Prop} {l:List Oper} {a:Act} {w:World} (h:Q a w):wpTree P ops G Q l .done a w:=h
theorem wpTree_float {Q:Act→World→Prop} {l:List Oper} {a:Act} {w:World} {s n:Nat} {t:Tree}
    (h:∀ K:Act→Prop,(∀ a',wpTree P ops G Q l t a' w→K a')→wpQuiet P ops (G w) K ((l.drop s).take n) a):wpTree P ops G Q l (.float s n t) a w:=h _ (fun _ h=>h)
theorem wpTree_one {Q:Act→World→Prop} {l:List Oper} {a:Act} {w:World} {i:Nat} {t:Tree}
    (h:∀ K:Act→World→Prop,(∀ a' w',wpTree P ops G Q l t a' w'→K a' w')→wpList P ops (Anch G w K) ((l.drop i).take 1) a w):wpTree P ops G Q l (.one i t) a w:=h _ (fun _ _ h=>h)
theorem wpTree_two {Q:Act→World→Prop} {l:List Oper} {a:Act} {w:World} {i j:Nat} {t u:Tree}
    (h1:wpTree P ops G Q l (.one i t) a w) (h2:wpTree P ops G Q l (.one j u) a w):wpTree P ops G Q l (.two i t j u) a w:=⟨h1,h2⟩
theorem wpTree_three {Q:Act→World→Prop} {l:List Oper} {a:Act} {w:World} {i j k:Nat} {t u v:Tree}
    (h1:wpTree P ops G Q l (.one i t) a w) (h2:wpTree P ops G Q l (.one j u) a w) (h3:wpTree P ops G Q l (.one k v) a w):wpTree P ops G Q l (.three i t j u k v) a w:=⟨h1,h2,h3⟩
theorem anch_end {K:Act→World→Prop} {a:Act} {w w':World} (hG:G w w') (h:K a w'):Anch G w K .normal a w':=⟨rfl,hG,h⟩
end
structure Step (B:Nat) (w0:World) where
  w:World
  h:Below B w0 w
instance (B:Nat) (w:World):Nonempty (Step B w):=⟨⟨w,Below.refl _ _⟩⟩
def Reach (B:Nat) (w w':World):Prop:=∃ p:Step B w,w' = p.w
theorem Reach.of {B:Nat} {w w':World} (h:Below B w w'):Reach B w w':=⟨⟨w',h⟩,rfl⟩
theorem Reach.below {B:Nat} {w w':World} (h:Reach B w w'):Below B w w':=by obtain ⟨p,rfl⟩:=h;exact p.h
theorem Reach.refl (B:Nat) (w:World):Reach B w w:=.of (Below.refl _ _)
theorem Reach.trans (B:Nat) (x y z:World) (h1:Reach B x y) (h2:Reach B y z):Reach B x z:=.of (h1.below.trans h2.below)
attribute [go_sem] Reach
theorem RdC.of_reach {α:Type} {f:α→Value} {w:World} {B B':Nat} {A:Option Addr} {n c:Nat} {xs:List α} (h:RdS f w B A n c xs) (hB:B≤B'):RdC f (Reach B' w) B A n c xs :=
  ⟨fun _ hw=>h.below (hw.below.mono hB)⟩
section
variable {P:Program} {ops:Array Oper} {rest:List Oper} {o:Oper} {a:Act} {B':Nat} {w0:World} {Q:Act→Prop}
end
theorem Step.cell {B:Nat} {w:World} (q:Step B w) {p:Addr} {v:Value} (hp:p.block < B) (h:w.cell? p=some v):q.w.cell? p=some v:=(q.h.cell hp).trans h
theorem bdrew1 {B:Nat} (w:World):Below B w w.drew:=⟨rfl,rfl,rfl,Nat.le_refl _,fun _ _=>rfl⟩
end Go.Th
namespace Go.Proofs.YtjandnidljbkoaaGreat
open Go.RowKit Go.Th
def RetB (v:Value) (w:World) (e:Ending) (w':World):Prop:=e=.returned v∧Below w.heap.size w w'
theorem rcmp_any (r s:Ru) (w:World) (hr:r.Ok) (hs:s.Ok):Calls Tryz.prog 117 #[r.v,s.v] w (RetB (.int .i64 (r.cmp s)) w):=by
  have H1:=Lib.hid hr.a
  have H2:=Lib.hid hs.a
  obtain ⟨ra,rn,rac,rne⟩:=r
  obtain ⟨sa,sn,sac,sne⟩:=s
  show Calls Tryz.prog 117 #[.agg #[.int .u32 ra,.int .i64 rn,.int .i64 rac,.int .i64 rne],.agg #[.int .u32 sa,.int .i64 sn,.int .i64 sac,.int .i64 sne]] w (RetB (.int .i64 (pcmp ra rn sa sn)) w)
  clear hr hs
  go_enter Tryz.func117,Tryz.ntmps117
  go_wp2_with (go_at_call 30;refine (pcmp_any _ _ _ _ _ H1.out H2.out).mono ?_;rintro e w' ⟨rfl,rfl⟩)
  go_ret
  exact ⟨rfl,(below_alloc w (Nat.le_refl _) _).trans (below_alloc _ (by simp) _)⟩
theorem rrcmp_any (r s:Ru) (w:World):Calls Tryz.prog 105 #[r.v,s.v] w (RetB (.int .i64 (r.cmp s)) w):=by
  obtain ⟨ra,rn,rac,rne⟩:=r
  obtain ⟨sa,sn,sac,sne⟩:=s
  show Calls Tryz.prog 105 #[.agg #[.int .u32 ra,.int .i64 rn,.int .i64 rac,.int .i64 rne],.agg #[.int .u32 sa,.int .i64 sn,.int .i64 sac,.int .i64 sne]] w (RetB (.int .i64 (pcmp ra rn sa sn)) w)
  go_enter Tryz.func105,Tryz.ntmps105
  go_wp2_with (go_at_call 133;refine (rpcmp_any _ _ _ _ _).mono ?_;rintro e w' ⟨rfl,rfl⟩)
  go_ret
  exact ⟨rfl,(below_alloc w (Nat.le_refl _) _).trans (below_alloc _ (by simp) _)⟩
theorem rmask_still (n:Int) (w:World):Calls Tryz.prog 132 #[.int .i64 n] w (fun e w'=>e=.returned (.int .u32 (maskN n:Nat))∧w' = w):=(rmask_any n w).mono fun _ _ ⟨h1,h2⟩=>⟨h1,h2.symm⟩
set_option maxRecDepth 100000 in
set_option maxHeartbeats 2000000 in
theorem rfit_any (r:Ru) (nodes:Int) (w:World) (hr:r.Ok) (hn:1≤nodes∧nodes≤4611686018427387904) :
    Calls Tryz.prog 104 #[r.v,.int .i64 nodes] w (RetB (r.fit nodes).v w):=by
  obtain ⟨ra,rn,rac,rne⟩:=r
  obtain ⟨hn1,hn2⟩:=hn
  have hla:=lead_and ra (rn % 33) hr.a
  obtain ⟨t1,ht1⟩:∃ t,rn.tmod 33=t:=⟨_,rfl⟩
  obtain ⟨t2,ht2⟩:∃ t,rac.tmod 3=t:=⟨_,rfl⟩
  obtain ⟨t3,ht3⟩:∃ t,rne.tmod nodes=t:=⟨_,rfl⟩
  have b1:=tmod_bd rn 33 (by omega)
  have b2:=tmod_bd rac 3 (by omega)
  have b3:=tmod_bd rne nodes (by omega)
  have u1:=tmod_up rn 33
  have u2:=tmod_up rac 3
  have u3:=tmod_up rne nodes
  rw [ht1] at b1 u1
  rw [ht2] at b2 u2
  rw [ht3] at b3 u3
  obtain ⟨b11,b12⟩:=b1
  obtain ⟨b21,b22⟩:=b2
  obtain ⟨b31,b32⟩:=b3
  obtain ⟨n,hnn⟩:∃ n,rn % 33=n:=⟨_,rfl⟩
  obtain ⟨c,hcc⟩:∃ c,rac % 3=c:=⟨_,rfl⟩
  obtain ⟨x,hxx⟩:∃ x,rne % nodes=x:=⟨_,rfl⟩
  have bn:0≤n∧n≤32:=by omega
  have bc:c=0∨c=1∨c=2:=by omega
  have hfit:(Ru.mk ra rn rac rne).fit nodes=⟨lead ra n,n,if c=0 then 3 else c,if c=1 then x else 0⟩:=by unfold Ru.fit;simp only [hnn,hcc,hxx]
  rw [hfit]
  rw [hnn] at u1 hla
  rw [hcc] at u2
  rw [hxx] at u3
  obtain ⟨l,hl⟩:∃ l,lead ra n=l:=⟨_,rfl⟩
  rw [hl] at hla ⊢
  obtain ⟨m,hm⟩:∃ m,maskN n=m:=⟨_,rfl⟩
  have hms:∀ w:World,Calls Tryz.prog 132 #[.int .i64 n] w (fun e w'=>e=.returned (.int .u32 (m:Nat))∧w' = w):=fun w=>by
    have:=rmask_still n w
    rwa [hm] at this
  have Hms:=Lib.hid hms
  clear hms
  rw [hm] at hla
  clear hr hfit hnn hcc hxx hl hm
  show Calls Tryz.prog 104 #[.agg #[.int .u32 ra,.int .i64 rn,.int .i64 rac,.int .i64 rne],.int .i64 nodes] w _
  rcases bc with rfl | rfl | rfl
  all_goals go_enter Tryz.func104,Tryz.ntmps104
  all_goals go_wp2
  all_goals have hq0:∀ q:Step (w.heap.size+2) ((w.alloc (.cells #[.int .u32 ra,.int .i64 rn,.int .i64 rac,.int .i64 rne] 52)).alloc (.cells #[.int .u32 0,.int .i64 0,.int .i64 0,.int .i64 0] 52)).drew,q.w.cell? ⟨w.heap.size,0,none⟩=some (.int .u32 ra):=fun q=>q.cell (by simp) (by go_simp)
  all_goals have hq2:∀ q:Step (w.heap.size+2) ((w.alloc (.cells #[.int .u32 ra,.int .i64 rn,.int .i64 rac,.int .i64 rne] 52)).alloc (.cells #[.int .u32 0,.int .i64 0,.int .i64 0,.int .i64 0] 52)).drew,q.w.cell? ⟨w.heap.size,2,none⟩=some (.int .i64 rac):=fun q=>q.cell (by simp) (by go_simp)
  all_goals
    refine wp_region_tree (.float 0 3 (.float 5 6 (.two 3 (.float 4 1 (.float 11 1 (.one 12 (.one 13 .done)))) 12 (.one 3 (.float 4 1 (.float 11 1 (.one 13 .done))))))) (Th.Reach (w.heap.size+2)) (Th.Reach.trans _) (Th.Reach.refl _) (by kernel_rfl) (by kernel_rfl) (fun KT hKT=>?_)
    repeat' first
      | ((with_reducible refine wpTree_done ?_);refine hKT _ _ ?_;clear hKT KT)
      | (with_reducible refine wpTree_two ?_ ?_)
      | ((with_reducible refine wpTree_float (fun KF hKF=>?_));(simp only [List.drop,List.take]);(repeat (first | go_big_quiet_skip | go_big_quiet_step (fail) | quiet_step (fail)));refine wpQuiet_nil ?_;refine hKF _ ?_;clear hKF KF)
      | ((with_reducible refine wpTree_one (fun KO hKO=>?_));(simp only [List.drop,List.take]);(go_wp2_with (first | go_at_call 132;refine (Hms.out _).mono ?_;rintro e w9 ⟨rfl,rfl⟩));(refine anch_end (Th.Reach.of (by first | exact Below.refl _ _ | exact below_alloc _ (by first | omega | (simp;done) | (simp;omega)) _ | exact below_alloc2 _ (by first | omega | (simp;done) | (simp;omega)) _ _ | exact below_alloc2d _ (by simp) _ _ | exact bdrew _ _ | assumption | (exact Below.mono (by assumption) (by first | (simp;done) | (simp;omega) | omega | assumption)))) (hKO _ _ ?_));clear hKO KO)
  all_goals clear hq0 hq2
  all_goals go_wp2
  all_goals first
    | exact bodyPost_ret (v:=.agg #[.int .u32 l,.int .i64 n,.int .i64 3,.int .i64 0]) (by simp [results,Tryz.results104,go_sem]) rfl ⟨rfl,(by repeat (first | exact Below.refl _ _ | refine Below.drew ?_ | refine Below.alloc ?_ (by first | (simp;done) | (simp;omega)) _ | refine Below.setCell ?_ (by first | (simp;done) | (simp;omega)) _ | assumption))⟩
    | exact bodyPost_ret (v:=.agg #[.int .u32 l,.int .i64 n,.int .i64 1,.int .i64 x]) (by simp [results,Tryz.results104,go_sem]) rfl ⟨rfl,(by repeat (first | exact Below.refl _ _ | refine Below.drew ?_ | refine Below.alloc ?_ (by first | (simp;done) | (simp;omega)) _ | refine Below.setCell ?_ (by first | (simp;done) | (simp;omega)) _ | assumption))⟩
    | exact bodyPost_ret (v:=.agg #[.int .u32 l,.int .i64 n,.int .i64 2,.int .i64 0]) (by simp [results,Tryz.results104,go_sem]) rfl ⟨rfl,(by repeat (first | exact Below.refl _ _ | refine Below.drew ?_ | refine Below.alloc ?_ (by first | (simp;done) | (simp;omega)) _ | refine Below.setCell ?_ (by first | (simp;done) | (simp;omega)) _ | assumption))⟩
end Go.Proofs.YtjandnidljbkoaaGreat
namespace Go.Th
theorem bitN_lt (a i:Nat):bitN a i < 2:=Nat.mod_lt _ (by omega)
theorem and_one (x:Nat) (h:x < 4294967296):bits .and .u32 (x:Int) 1=((x % 2:Nat):Int):=by
  have:=and_u32 x 1 h (by omega)
  rw [show (x &&& 1)=x % 2 from Nat.and_one_is_mod x] at this
  exact this
def Ru.zero:Ru:=⟨0,0,0,0⟩
def fstep (x:Int) (st:Ru × Bool) (r:Ru):Ru × Bool:=if r.holds x=false then st else if st.2=true∧r.n≤st.1.n then st else (r,true)
def tfind (l:List Ru) (x:Int):Ru × Bool:=l.foldl (fstep x) (Ru.zero,false)
theorem tfind_snoc {l:List Ru} {k:Nat} {r:Ru} (x:Int) (h:l[k]? = some r):tfind (l.take (k+1)) x=fstep x (tfind (l.take k) x) r:=by
  unfold tfind
  rw [List.take_add_one,h,List.foldl_append]
  rfl
def tnext (l:List Ru) (x:Int):Int × Bool:=if (tfind l x).2=true∧(tfind l x).1.act=1 then ((tfind l x).1.next,true) else (0,false)
def below (r:Ru) (s:Ru):Bool:=decide (s.cmp r < 0)
def place (out:List Ru) (r:Ru):Nat:=(out.takeWhile (below r)).length
def ins (out:List Ru) (r:Ru):List Ru :=
  match out[place out r]? with
  | some s=>if s.cmp r=0 then out else out.take (place out r) ++ r :: out.drop (place out r)
  | none=>out ++ [r]
def fitT (l:List Ru) (nodes:Int):List Ru:=(l.take 20).foldl (fun out r=>ins out (r.fit nodes)) []
def fitTo (l:List Ru) (nodes:Int) (k:Nat):List Ru:=((l.take 20).take k).foldl (fun out r=>ins out (r.fit nodes)) []
theorem fitTo_snoc {l:List Ru} {k:Nat} {r:Ru} (nodes:Int) (h:l[k]? = some r) (hk:k < 20):fitTo l nodes (k+1)=ins (fitTo l nodes k) (r.fit nodes):=by
  unfold fitTo
  have h2:(l.take 20)[k]? = some r:=by rw [List.getElem?_take,if_pos hk,h]
  rw [List.take_add_one,h2,List.foldl_append]
  rfl
theorem fitTo_end {l:List Ru} {k:Nat} (nodes:Int) (h:min l.length 20≤k):fitTo l nodes k=fitT l nodes:=by
  unfold fitTo fitT
  rw [List.take_of_length_le (by rw [List.length_take];omega)]
theorem ins_length (out:List Ru) (r:Ru):(ins out r).length≤out.length+1:=by
  unfold ins
  split
  · split
    · omega
    · rw [List.length_append,List.length_cons,List.length_take,List.length_drop];omega
  · simp
theorem fitTo_length (l:List Ru) (nodes:Int) (k:Nat):(fitTo l nodes k).length≤k:=by
  unfold fitTo
  have key:∀ (m:List Ru) (out:List Ru),(m.foldl (fun out r=>ins out (r.fit nodes)) out).length≤out.length+m.length:=by
    intro m
    induction m with
    | nil=>simp
    | cons r m ih =>
      intro out
      have h1:=ih (ins out (r.fit nodes))
      have h2:=ins_length out (r.fit nodes)
      simp only [List.foldl_cons,List.length_cons]
      omega
  have:=key ((l.take 20).take k) []
  rw [List.length_take] at this
  simp at this ⊢
  omega
theorem takeWhile_at (p:Ru→Bool):∀ (out:List Ru) (j:Nat),(∀ i s,i < j→out[i]? = some s→p s=true)→j≤out.length→(∀ s,out[j]? = some s→p s=false)→(out.takeWhile p).length=j
  | [],j,_,hj,_=>by simp at hj;subst hj;rfl
  | s :: out,0,_,_,h=>by
    have:=h s rfl
    rw [List.takeWhile_cons,this]
    rfl
  | s :: out,j+1,h,hj,h2=>by
    have h0:=h 0 s (by omega) rfl
    rw [List.takeWhile_cons,h0]
    simp only [if_true,List.length_cons]
    rw [takeWhile_at p out j (fun i s' hi hs=>h (i+1) s' (by omega) (by simpa using hs)) (by simpa using hj) (fun s' hs=>h2 s' (by simpa using hs))]
theorem place_at {out:List Ru} {s:Ru} {j:Nat} (h:∀ i t,i < j→out[i]? = some t→below s t=true) (hj:j≤out.length) (h2:∀ t,out[j]? = some t→below s t=false):place out s=j:=takeWhile_at _ out j h hj h2
theorem ins_same {out:List Ru} {s t:Ru} {j:Nat} (hp:place out s=j) (ht:out[j]? = some t) (h:t.cmp s=0):ins out s=out:=by
  unfold ins
  rw [hp,ht]
  simp only [h,if_true]
theorem ins_new {out:List Ru} {s t:Ru} {j:Nat} (hp:place out s=j) (ht:out[j]? = some t) (h:t.cmp s≠0):ins out s=out.take j ++ s :: out.drop j:=by
  unfold ins
  rw [hp,ht]
  simp only [h,if_false]
theorem ins_last {out:List Ru} {s:Ru} {j:Nat} (hp:place out s=j) (hj:out.length=j):ins out s=out.take j ++ s :: out.drop j:=by
  unfold ins
  rw [hp,List.getElem?_eq_none (by omega),List.take_of_length_le (by omega),List.drop_eq_nil_of_le (by omega)]
structure Ru.Pre (r:Ru):Prop where
  ok:r.Ok
  n0:0≤r.n
  n1:r.n≤32
  host:r.a.toNat % 2 ^ sh r.n=0
theorem lead_mod (a n:Int):(lead a n).toNat % 2 ^ sh n=0:=by
  unfold lead
  rw [Int.toNat_natCast,Nat.mul_mod_left]
theorem Ru.fit_pre (r:Ru) (nodes:Int) (h:r.Ok) (hn:1≤nodes∧nodes≤4611686018427387904):(r.fit nodes).Pre :=
  ⟨Ru.fit_ok r nodes h hn,by show 0≤r.n % 33;omega,by show r.n % 33≤32;omega,lead_mod _ _⟩
theorem Ru.Pre.same {r s:Ru} (hr:r.Pre) (hs:s.Pre) {x:Int} (h1:r.holds x=true) (h2:s.holds x=true) (hn:r.n=s.n):r.a=s.a:=by
  have e1:=of_decide_eq_true h1
  have e2:=of_decide_eq_true h2
  unfold head at e1 e2
  rw [hn] at e1
  have e3:=e1.trans e2.symm
  have q1:=Nat.div_add_mod r.a.toNat (2 ^ sh s.n)
  have q2:=Nat.div_add_mod s.a.toNat (2 ^ sh s.n)
  have m1:=hr.host
  have m2:=hs.host
  rw [hn] at m1
  rw [m1,e3] at q1
  rw [m2] at q2
  have:=hr.ok.a
  have:=hs.ok.a
  omega
theorem icmp_neg (a b:Int):icmp b a = -icmp a b:=by unfold icmp;split <;> split <;> (try split) <;> omega
theorem Ru.cmp_neg (r s:Ru):s.cmp r = -r.cmp s:=by
  unfold Ru.cmp pcmp
  by_cases h:r.a=s.a
  · rw [if_pos h,if_pos h.symm,icmp_neg]
  · rw [if_neg h,if_neg (fun e=>h e.symm),icmp_neg]
theorem Ru.cmp_zero (r s:Ru):r.cmp s=0↔r.a=s.a∧r.n=s.n:=by
  unfold Ru.cmp pcmp icmp
  split <;> split <;> (try split) <;> omega
theorem Ru.cmp_lt (r s:Ru):r.cmp s < 0↔r.a < s.a∨(r.a=s.a∧r.n < s.n):=by
  unfold Ru.cmp pcmp icmp
  split <;> split <;> (try split) <;> omega
theorem Ru.cmp_trans {r s t:Ru} (h1:r.cmp s < 0) (h2:s.cmp t < 0):r.cmp t < 0:=by
  rw [Ru.cmp_lt] at *
  omega
theorem Ru.cmp_vals (r s:Ru):r.cmp s = -1∨r.cmp s=0∨r.cmp s=1:=by
  unfold Ru.cmp pcmp icmp
  split <;> split <;> (try split) <;> omega
def Sorted (l:List Ru):Prop:=l.Pairwise fun r s=>r.cmp s < 0
theorem Sorted.key {l:List Ru} (h:Sorted l) {r s:Ru} (hr:r∈l) (hs:s∈l) (hz:r.cmp s=0):r=s:=by
  induction l with
  | nil=>cases hr
  | cons t l ih =>
    obtain ⟨h1,h2⟩:=List.pairwise_cons.1 h
    rcases List.mem_cons.1 hr with rfl | hr' <;> rcases List.mem_cons.1 hs with rfl | hs'
    · rfl
    · have:=h1 s hs';omega
    · have:=h1 r hr';have:=Ru.cmp_neg r s;omega
    · exact ih h2 hr' hs'
def IsBest (l:List Ru) (x:Int) (p:Ru × Bool):Prop :=
  (p.2=false→p.1=Ru.zero∧∀ r∈l,r.holds x=false)∧(p.2=true→p.1∈l∧p.1.holds x=true∧∀ r∈l,r.holds x=true→r.n≤p.1.n)
theorem tfind_best (l:List Ru) (x:Int):IsBest l x (tfind l x):=by
  have key:∀ (m pre:List Ru) (p:Ru × Bool),IsBest pre x p→IsBest (pre ++ m) x (m.foldl (fstep x) p):=by
    intro m
    induction m with
    | nil=>intro pre p h;simpa using h
    | cons r m ih =>
      intro pre p h
      rw [List.foldl_cons,show pre ++ r :: m=(pre ++ [r]) ++ m by simp]
      refine ih _ _ ?_
      obtain ⟨h1,h2⟩:=h
      unfold fstep
      split
      · rename_i hh
        refine ⟨fun h=>⟨(h1 h).1,fun s hs=>?_⟩,fun h=>⟨List.mem_append_left _ (h2 h).1,(h2 h).2.1,fun s hs hs2=>?_⟩⟩
        · rcases List.mem_append.1 hs with hs | hs
          · exact (h1 h).2 s hs
          · rw [List.mem_singleton.1 hs];exact hh
        · rcases List.mem_append.1 hs with hs | hs
          · exact (h2 h).2.2 s hs hs2
          · rw [List.mem_singleton.1 hs,hh] at hs2;cases hs2
      · rename_i hh
        have hh':r.holds x=true:=by simpa using hh
        split
        · rename_i hc
          refine ⟨fun h=>(by rw [hc.1] at h;cases h),fun h=>⟨List.mem_append_left _ (h2 h).1,(h2 h).2.1,fun s hs hs2=>?_⟩⟩
          rcases List.mem_append.1 hs with hs | hs
          · exact (h2 h).2.2 s hs hs2
          · rw [List.mem_singleton.1 hs];exact hc.2
        · rename_i hc
          refine ⟨(fun h=>by cases h),fun _=>⟨List.mem_append_right _ (by simp),hh',fun s hs hs2=>?_⟩⟩
          rcases List.mem_append.1 hs with hs | hs
          · cases hp:p.2 with
            | false=>rw [(h1 hp).2 s hs] at hs2;cases hs2
            | true =>
              have:=(h2 hp).2.2 s hs hs2
              have:¬ r.n≤p.1.n:=fun e=>hc ⟨hp,e⟩
              show s.n≤r.n
              omega
          · rw [List.mem_singleton.1 hs];exact Int.le_refl _
  have:=key l [] (Ru.zero,false) ⟨fun _=>⟨rfl,by simp⟩,by simp⟩
  unfold tfind
  simpa using this
structure GoodT (l:List Ru):Prop where
  pre:∀ r∈l,r.Pre
  sorted:Sorted l
theorem GoodT.uniq {l:List Ru} (h:GoodT l) {x:Int} {r s:Ru} (hr:r∈l) (hs:s∈l) (h1:r.holds x=true) (h2:s.holds x=true) (hn:r.n=s.n):r=s :=
  h.sorted.key hr hs ((Ru.cmp_zero r s).2 ⟨(h.pre r hr).same (h.pre s hs) h1 h2 hn,hn⟩)
theorem GoodT.best {l:List Ru} (h:GoodT l) {x:Int} {p:Ru × Bool} (hp:IsBest l x p):tfind l x=p:=by
  have hq:=tfind_best l x
  generalize tfind l x=q at *
  obtain ⟨r,b⟩:=p
  obtain ⟨s,c⟩:=q
  cases b <;> cases c
  · have:=(hp.1 rfl).1;have:=(hq.1 rfl).1;simp_all
  · have h1:=(hq.2 rfl);have h2:=(hp.1 rfl).2 s h1.1;simp_all
  · have h1:=(hp.2 rfl);have h2:=(hq.1 rfl).2 r h1.1;simp_all
  · obtain ⟨a1,a2,a3⟩:=hp.2 rfl
    obtain ⟨b1,b2,b3⟩:=hq.2 rfl
    have c1:=a3 s b1 b2
    have c2:=b3 r a1 a2
    have:s=r:=h.uniq b1 a1 b2 a2 (by show s.n=r.n;simp only at c1 c2;omega)
    rw [this]
theorem GoodT.nil:GoodT []:=⟨by simp,List.Pairwise.nil⟩
theorem place_le (out:List Ru) (s:Ru):place out s≤out.length:=by
  unfold place
  exact (List.takeWhile_sublist _).length_le
theorem mem_takeWhile (p:Ru→Bool):∀ (l:List Ru) (t:Ru),t∈l.takeWhile p→p t=true
  | [],t,h=>by simp at h
  | u :: l,t,h=>by
    rw [List.takeWhile_cons] at h
    split at h
    · rename_i hu
      rcases List.mem_cons.1 h with rfl | h
      · exact hu
      · exact mem_takeWhile p l t h
    · cases h
theorem place_low (out:List Ru) (s:Ru):∀ t∈out.take (place out s),t.cmp s < 0:=by
  intro t ht
  unfold place at ht
  rw [List.prefix_iff_eq_take.1 (List.takeWhile_prefix (below s) (l:=out)) |>.symm] at ht
  exact of_decide_eq_true (mem_takeWhile _ _ _ ht)
theorem place_high (out:List Ru) (s t:Ru) (h:out[place out s]? = some t):¬ t.cmp s < 0:=by
  unfold place at h
  intro hc
  have key:∀ (l:List Ru),l[(l.takeWhile (below s)).length]? = some t→False:=by
    intro l
    induction l with
    | nil=>simp
    | cons u l ih =>
      rw [List.takeWhile_cons]
      split
      · intro h;rw [List.length_cons,List.getElem?_cons_succ] at h;exact ih h
      · rename_i hb
        intro h
        simp at h
        subst h
        exact hb (decide_eq_true hc)
  exact key out h
theorem place_above {out:List Ru} (hs:Sorted out) (s:Ru) (hne:∀ t,out[place out s]? = some t→t.cmp s≠0):∀ t∈out.drop (place out s),s.cmp t < 0:=by
  intro t ht
  generalize hj:place out s=j at *
  cases hd:out[j]? with
  | none =>
    rw [List.drop_eq_nil_of_le (by simpa using hd)] at ht
    cases ht
  | some u =>
    have h1:=place_high out s u (by rw [hj];exact hd)
    have h2:=hne u hd
    have h3:=Ru.cmp_neg u s
    have h4:s.cmp u < 0:=by omega
    obtain ⟨hl,rfl⟩:=List.getElem?_eq_some_iff.1 hd
    rw [List.drop_eq_getElem_cons hl] at ht
    rcases List.mem_cons.1 ht with rfl | ht
    · exact h4
    · have hp:Sorted (out.drop j):=List.Pairwise.sublist (List.drop_sublist j out) hs
      rw [List.drop_eq_getElem_cons hl] at hp
      exact Ru.cmp_trans h4 ((List.pairwise_cons.1 hp).1 t ht)
theorem ins_cases {out:List Ru} (h:GoodT out) (s:Ru):(ins out s=out∧∃ t∈out,t.cmp s=0)∨(ins out s=out.take (place out s) ++ s :: out.drop (place out s)∧(∀ t∈out,t.cmp s≠0)∧(∀ t∈out.take (place out s),t.cmp s < 0)∧∀ t∈out.drop (place out s),s.cmp t < 0):=by
  by_cases hz:∃ t,out[place out s]? = some t∧t.cmp s=0
  · obtain ⟨t,ht,hc⟩:=hz
    exact .inl ⟨ins_same rfl ht hc,t,List.mem_of_getElem? ht,hc⟩
  · have hne:∀ t,out[place out s]? = some t→t.cmp s≠0:=fun t ht hc=>hz ⟨t,ht,hc⟩
    have hab:=place_above h.sorted s hne
    have hlo:=place_low out s
    refine .inr ⟨?_,fun t ht=>?_,hlo,hab⟩
    · cases hd:out[place out s]? with
      | none=>exact ins_last rfl (by have:=place_le out s;have:=List.getElem?_eq_none_iff.1 hd;omega)
      | some u=>exact ins_new rfl hd (hne u hd)
    · rw [← List.take_append_drop (place out s) out] at ht
      rcases List.mem_append.1 ht with ht | ht
      · have:=hlo t ht;omega
      · have:=hab t ht;have:=Ru.cmp_neg s t;omega
theorem ins_good {out:List Ru} (h:GoodT out) {s:Ru} (hs:s.Pre):GoodT (ins out s):=by
  rcases ins_cases h s with ⟨e,_⟩ | ⟨e,_,hlo,hab⟩
  · rw [e];exact h
  · rw [e]
    refine ⟨fun t ht=>?_,?_⟩
    · rcases List.mem_append.1 ht with ht | ht
      · exact h.pre t (List.mem_of_mem_take ht)
      · rcases List.mem_cons.1 ht with rfl | ht
        · exact hs
        · exact h.pre t (List.mem_of_mem_drop ht)
    · refine List.pairwise_append.2 ⟨List.Pairwise.sublist (List.take_sublist _ _) h.sorted,List.pairwise_cons.2 ⟨hab,List.Pairwise.sublist (List.drop_sublist _ _) h.sorted⟩,fun a ha b hb=>?_⟩
      rcases List.mem_cons.1 hb with rfl | hb
      · exact hlo a ha
      · exact Ru.cmp_trans (hlo a ha) (hab b hb)
def Sound (nodes:Int):Prop:=1≤nodes∧nodes≤4611686018427387904
theorem fold_good {nodes:Int} (hn:Sound nodes):∀ (l out:List Ru),(∀ r∈l,r.Ok)→GoodT out→GoodT (l.foldl (fun out r=>ins out (r.fit nodes)) out)
  | [],out,_,h=>h
  | r :: l,out,hl,h=>fold_good hn l _ (fun s hs=>hl s (by simp [hs])) (ins_good h (Ru.fit_pre r nodes (hl r (by simp)) hn))
theorem fitT_good {nodes:Int} (hn:Sound nodes) (l:List Ru) (hl:∀ r∈l,r.Ok):GoodT (fitT l nodes):=fold_good hn _ [] (fun r hr=>hl r (List.mem_of_mem_take hr)) GoodT.nil
theorem lead_lead (a n:Int):lead (lead a n) n=lead a n:=by
  unfold lead
  rw [Int.toNat_natCast,Nat.mul_div_cancel _ (Nat.lt_of_lt_of_le (by omega) (pow_sh n).1)]
theorem Ru.fit_fit (r:Ru) (nodes:Int):(r.fit nodes).fit nodes=r.fit nodes:=by
  unfold Ru.fit
  have h0:0≤r.act % 3∧r.act % 3 < 3:=by omega
  have hc:r.act % 3=0∨r.act % 3=1∨r.act % 3=2:=by omega
  simp only [Int.emod_emod_of_dvd _ (Int.dvd_refl _),lead_lead,Ru.mk.injEq,true_and]
  rcases hc with h | h | h <;> simp [h,Int.emod_emod_of_dvd _ (Int.dvd_refl _)]
def Fitted (nodes:Int) (l:List Ru):Prop:=∀ r∈l,r.fit nodes=r
theorem ins_fitted {nodes:Int} {out:List Ru} (h:GoodT out) (hf:Fitted nodes out) (r:Ru):Fitted nodes (ins out (r.fit nodes)):=by
  intro t ht
  rcases ins_cases h (r.fit nodes) with ⟨e,_⟩ | ⟨e,_⟩
  · rw [e] at ht;exact hf t ht
  · rw [e] at ht
    rcases List.mem_append.1 ht with ht | ht
    · exact hf t (List.mem_of_mem_take ht)
    · rcases List.mem_cons.1 ht with rfl | ht
      · exact Ru.fit_fit r nodes
      · exact hf t (List.mem_of_mem_drop ht)
theorem fold_fitted {nodes:Int} (hn:Sound nodes):∀ (l out:List Ru),(∀ r∈l,r.Ok)→GoodT out→Fitted nodes out→Fitted nodes (l.foldl (fun out r=>ins out (r.fit nodes)) out)
  | [],out,_,_,h=>h
  | r :: l,out,hl,hg,h=>fold_fitted hn l _ (fun s hs=>hl s (by simp [hs])) (ins_good hg (Ru.fit_pre r nodes (hl r (by simp)) hn)) (ins_fitted hg h r)
theorem fitT_fitted {nodes:Int} (hn:Sound nodes) (l:List Ru) (hl:∀ r∈l,r.Ok):Fitted nodes (fitT l nodes):=fold_fitted hn _ [] (fun r hr=>hl r (List.mem_of_mem_take hr)) GoodT.nil (by intro r hr;cases hr)
theorem fitT_length (l:List Ru) (nodes:Int):(fitT l nodes).length≤min l.length 20:=by
  have h:=fitTo_length l nodes (min l.length 20)
  rwa [fitTo_end nodes (Nat.le_refl _)] at h
def host (a:Int):Ru:=⟨a,32,2,0⟩
def outOf (p:Option Ru) (r:Ru):Bool:=match p with
  | some q=>decide (r.cmp q≠1)
  | none=>false
def tmayGo (nodes:Int):Option Ru→List Ru→Int
  | _,[]=>0
  | p,r :: l=>if r.may nodes≠0 then r.may nodes else if outOf p r=true then 11 else tmayGo nodes (some r) l
def tmay (l:List Ru) (nodes:Int):Int:=tmayGo nodes none l
def aheadOf (l:List Ru) (k:Nat):Option Ru:=if k=0 then none else l[k - 1]?
theorem tmay_bad {l:List Ru} {k:Nat} {r:Ru} {nodes:Int} (h:l[k]? = some r) (he:r.may nodes≠0) (p:Option Ru):tmayGo nodes p (l.drop k)=r.may nodes:=by
  obtain ⟨hl,rfl⟩:=List.getElem?_eq_some_iff.1 h
  rw [List.drop_eq_getElem_cons hl,tmayGo,if_pos he]
theorem tmay_first {l:List Ru} {r:Ru} {nodes:Int} (h:l[0]? = some r) (he:r.may nodes=0):tmayGo nodes (aheadOf l 0) (l.drop 0)=tmayGo nodes (aheadOf l 1) (l.drop 1):=by
  obtain ⟨hl,rfl⟩:=List.getElem?_eq_some_iff.1 h
  have e:aheadOf l 1=some l[0]:=by unfold aheadOf;simp [hl]
  rw [List.drop_eq_getElem_cons hl,tmayGo,if_neg (by simp [he]),e,if_neg (by simp [aheadOf,outOf])]
theorem tmay_order {l:List Ru} {k:Nat} {r q:Ru} {nodes:Int} (h:l[k+1]? = some r) (hq:l[k]? = some q) (he:r.may nodes=0) (hc:r.cmp q≠1):tmayGo nodes (aheadOf l (k+1)) (l.drop (k+1))=11:=by
  obtain ⟨hl,rfl⟩:=List.getElem?_eq_some_iff.1 h
  have e:aheadOf l (k+1)=some q:=by unfold aheadOf;simp [hq]
  rw [List.drop_eq_getElem_cons hl,e,tmayGo,if_neg (by simp [he]),if_pos (by show decide (l[k+1].cmp q≠1)=true;exact decide_eq_true hc)]
theorem tmay_on {l:List Ru} {k:Nat} {r q:Ru} {nodes:Int} (h:l[k+1]? = some r) (hq:l[k]? = some q) (he:r.may nodes=0) (hc:r.cmp q=1):tmayGo nodes (aheadOf l (k+1)) (l.drop (k+1))=tmayGo nodes (aheadOf l (k+1+1)) (l.drop (k+1+1)):=by
  obtain ⟨hl,rfl⟩:=List.getElem?_eq_some_iff.1 h
  have e:aheadOf l (k+1)=some q:=by unfold aheadOf;simp [hq]
  have e2:aheadOf l (k+1+1)=some l[k+1]:=by unfold aheadOf;simp [hl]
  rw [List.drop_eq_getElem_cons hl,e,tmayGo,if_neg (by simp [he]),e2,if_neg (by simp [outOf,hc])]
open Go.RowKit
section
variable {P:Program} {ops:Array Oper} {rest:List Oper} {o:Oper} {a:Act} {C:World→Prop} {Q:Act→Prop}
theorem wp_region_reach {id:Nat} {Q:Exit→Act→World→Prop} {a:Act} {w:World} {l:List Oper} (hm:P.follows .mixedOrders=true) (hB:Region.lexB .any l.toArray=true)
    (h:wpQuiet P l.toArray (Reach w.heap.size w) (fun a'=>∀ w',Reach w.heap.size w w'→Q .normal a' w') l a):(Code.region id l.toArray true).wp P Q a w :=
  wp_region_quiet (C:=Reach w.heap.size w) hm hB (.of (bdrew1 w)) (by simpa using h)
theorem Calls.reach {w:World} {q:Step w.heap.size w} {f:FuncId} {args:Array Value} {v:Value} (h:Calls P f args q.w fun e w'=>e=.returned v∧Below q.w.heap.size q.w w') :
    Calls P f args q.w fun e w''=>e=.returned v∧∃ p:Step w.heap.size w,w'' = p.w :=
  h.mono fun e w' ⟨h1,h2⟩=>⟨h1,⟨w',q.h.trans (h2.mono q.h.size)⟩,rfl⟩
theorem Calls.reach_same {w:World} {q:Step w.heap.size w} {f:FuncId} {args:Array Value} {v:Value} (h:Calls P f args q.w fun e w'=>e=.returned v∧q.w=w') :
    Calls P f args q.w fun e w''=>e=.returned v∧∃ p:Step w.heap.size w,w'' = p.w :=
  h.mono fun e w' ⟨h1,h2⟩=>⟨h1,q,h2.symm⟩
theorem RdS.reach {α:Type} {f:α→Value} {w:World} {B:Nat} {A:Option Addr} {n c:Nat} {xs:List α} (h:RdS f w B A n c xs):RdC f (Reach w.heap.size w) B A n c xs:=⟨fun _ hw=>h.step hw.below⟩
end
section
variable {P:Program} {ops:Array Oper} {C:World→Prop} {Q:Act→Prop} {rest:List Oper} {o:Oper} {a:Act}
theorem wq_cut_hm (hw:Region.wanted o (yielded ops a.tmps)=true) (T:TypeId) (s:Operand) {E bytes:Nat} {z:Value} (el:El P T E z bytes)
    {α:Type} {f:α→Value} {A:Option Addr} {n c:Nat} (hs:a.eval s=.slice A n c) {B:Nat} {xs:List α} (hr:RdC f C B A n c xs) {w0:World} (hC0:C w0)
    (hi mx:Operand) (ho:o.op=.slice T s Option.none (some hi) (some mx)) {k k':IntKind} {I J:Int} (hhi:a.eval hi=.int k I) (hmx:a.eval mx=.int k' J) (H:Nat) (hH:I=(H:Int)∧J=(H:Int)∧H≤n)
    (h:∀ A',RdC f C B A' H H (xs.take H)→wpQuiet P ops C Q rest (a.put o.dst (.slice A' H H))):wpQuiet P ops C Q (o :: rest) a:=by
  obtain ⟨rfl,rfl,hH⟩:=hH
  have hc:=(hr.rd w0 hC0).cap
  refine wq_cutS hw T s _ _ _ ho el hs (L:=0) (H:=H) (M:=H) (fun w=>?_) hr (Nat.zero_le _) (Nat.le_refl _) hH fun A' hA=>h A' hA
  simp only [Option.map_some,Option.map_none,hhi,hmx]
  exact bounds_hm k k' (Nat.le_refl _) (by omega)
theorem onq_sl (s:Operand) {d T lo hi mx ty pos af g} (h:wpQuiet P ops C Q (⟨d,.slice T s lo hi mx,ty,pos,af,g⟩ :: rest) a):wpQuiet P ops C Q (⟨d,.slice T s lo hi mx,ty,pos,af,g⟩ :: rest) a:=h
end
section
variable {P:Program} {ops:Array Oper} {rest:List Oper} {o:Oper} {a:Act} {Q:Exit→Act→World→Prop} {w:World}
end
section
variable {P:Program} {ops:Array Oper} {rest:List Oper} {o:Oper} {a:Act} {Q:Exit→Act→World→Prop} {w:World}
theorem wl_placeS (hw:Region.wanted o (yielded ops a.tmps)=true) (T:TypeId) (s i:Operand) (ho:o.op=.indexAddr T s i) {E bytes:Nat} {z:Value} (el:El P T E z bytes)
    {g n c:Nat} {kk:IntKind} {I:Int} (hs:a.eval s=.slice (some ⟨g,0,none⟩) n c) (hi:a.eval i=.int kk I) (j:Nat) (hj:I=(j:Int)∧j < n)
    (h:wpList P ops Q rest (a.put o.dst (.pointer (some ⟨g,j,none⟩))) w):wpList P ops Q (o :: rest) a w:=by
  obtain ⟨rfl,hj⟩:=hj
  exact wl_index_own hw T s i ho el.ht el.size hs hi (by omega) (by omega) (by rw [Int.toNat_natCast,Nat.mul_one];exact h)
end
open Go.RowKit
theorem Ru.one (r:Ru):∀ u∈r.cs,u.oneCell' = true:=by
  intro u hu
  simp only [Ru.cs,List.mem_cons,List.not_mem_nil,or_false] at hu
  rcases hu with rfl | rfl | rfl | rfl <;> rfl
section
variable {P:Program} {ops:Array Oper} {rest:List Oper} {o:Oper} {a:Act} {Q:Exit→Act→World→Prop} {w:World}
theorem wr_load (hw:Region.wanted o (yielded ops a.tmps)=true) (T:TypeId) (x:Operand) (ho:o.op=.load T x) (st:St P T 4) {b j:Nat} {r:Ru} (hx:a.eval x=.pointer (some ⟨b,j,none⟩)) (hc:Hid (∀ i v,r.cs[i]? = some v→w.cell? ⟨b,j+i,none⟩=some v))
    (h:wpList P ops Q rest (a.put o.dst (.agg #[.int .u32 r.a,.int .i64 r.n,.int .i64 r.act,.int .i64 r.next])) w):wpList P ops Q (o :: rest) a w :=
  wm_load hw T x ho st hx (Ru.cs_length r) hc.out h
theorem wr_box (hw:Region.wanted o (yielded ops a.tmps)=true) (T:TypeId) (x:Operand) (ho:o.op=.load T x) (st:St P T 4) {g:Nat} {t:TypeId} {r:Ru} (hx:a.eval x=.pointer (some ⟨g,0,none⟩)) (hb:Box w g t r.cs.toArray)
    (h:wpList P ops Q rest (a.put o.dst (.agg #[.int .u32 r.a,.int .i64 r.n,.int .i64 r.act,.int .i64 r.next])) w):wpList P ops Q (o :: rest) a w :=
  wb_load hw T x ho st hx hb rfl h
theorem wr_store (hw:Region.wanted o (yielded ops a.tmps)=true) (T:TypeId) (x y:Operand) (ho:o.op=.store T x y) (st:St P T 4) {g:Nat} {t:TypeId} {r s:Ru} (hx:a.eval x=.pointer (some ⟨g,0,none⟩)) (hy:a.eval y=.agg #[.int .u32 s.a,.int .i64 s.n,.int .i64 s.act,.int .i64 s.next])
    (hb:Box w g t r.cs.toArray) (h:∀ w',Box w' g t s.cs.toArray→w.grownBy w' (some g)→wpList P ops Q rest (a.put o.dst undef) w'):wpList P ops Q (o :: rest) a w :=
  wb_store hw T x y ho st hx hy hb rfl rfl (by simp [Value.oneCell']) h
end
theorem Box.rule {w:World} {g:Nat} {t:TypeId} {r:Ru} (h:Box w g t r.cs.toArray):w.cell? ⟨g,0,none⟩=some (.int .u32 r.a)∧w.cell? ⟨g,1,none⟩=some (.int .i64 r.n)∧w.cell? ⟨g,2,none⟩=some (.int .i64 r.act)∧w.cell? ⟨g,3,none⟩=some (.int .i64 r.next) :=
  ⟨h.cell 0,h.cell 1,h.cell 2,h.cell 3⟩
section
variable {P:Program} {ops:Array Oper} {rest:List Oper} {o:Oper} {a:Act} {C:World→Prop} {Q:Act→Prop}
theorem wqr_at (hw:Region.wanted o (yielded ops a.tmps)=true) (T:TypeId) (s i:Operand) (ho:o.op=.indexAddr T s i) {E bytes:Nat} {z:Value} (el:ElM P T E z bytes 4)
    {A:Option Addr} {n c:Nat} {k:IntKind} {I:Int} (hs:a.eval s=.slice A n c) (hi:a.eval i=.int k I) (h0:0≤I) (h1:I < n) {w0:World} (hC0:C w0)
    {B:Nat} {xs:List Ru} (hr:∀ w,C w→RdM Ru.cs w B A n c xs)
    (h:∀ (b j:Nat) (x:Ru),Hid (xs[I.toNat]? = some x)→Hid (∀ w,C w→∀ i v,x.cs[i]? = some v→w.cell? ⟨b,j+i,none⟩=some v)→wpQuiet P ops C Q rest (a.put o.dst (.pointer (some ⟨b,j,none⟩)))) :
    wpQuiet P ops C Q (o :: rest) a:=by
  have hl:I.toNat < xs.length:=by have:=(hr w0 hC0).len;omega
  obtain ⟨b,off,hA,hb,hc⟩:=(hr w0 hC0).cells Ru.cs_length (List.getElem?_eq_getElem hl) (by omega)
  subst hA
  refine wq_run hw (v:=.pointer (some ⟨b,off+I.toNat * 4,none⟩)) (fun w hC=>?_) ?_
  · have:=run_indexAt (P:=P) (w:=w) T el.ht (el.size w) ⟨b,off,none⟩ n c k I h0 h1
    rw [Addr.add_lit] at this
    simp only [execOp,ho,hs,hi,Sem.run_bind,this,Result.andThen,Sem.run_pure]
  · refine h b _ xs[I.toNat] (List.getElem?_eq_getElem hl) fun w hC=>?_
    obtain ⟨b',off',hA',_,hc'⟩:=(hr w hC).cells Ru.cs_length (List.getElem?_eq_getElem hl) (by omega)
    injection hA' with hA'
    injection hA' with e1 e2
    subst e1 e2
    exact hc'
theorem wqr_load (hw:Region.wanted o (yielded ops a.tmps)=true) (T:TypeId) (x:Operand) (ho:o.op=.load T x) (st:St P T 4) {b j:Nat} {r:Ru} (hx:a.eval x=.pointer (some ⟨b,j,none⟩)) (hc:Hid (∀ w,C w→∀ i v,r.cs[i]? = some v→w.cell? ⟨b,j+i,none⟩=some v))
    (h:wpQuiet P ops C Q rest (a.put o.dst (.agg #[.int .u32 r.a,.int .i64 r.n,.int .i64 r.act,.int .i64 r.next]))):wpQuiet P ops C Q (o :: rest) a :=
  wq_run hw (fun w hC=>by simp only [execOp,ho,hx,Instr.loadAt,Instr.sureAddr,Sem.run_bind,Sem.run_pure,Result.andThen_ok,run_loadVar_at st (Ru.cs_length r) (hc.out w hC)];rfl) h
theorem wqr_box (hw:Region.wanted o (yielded ops a.tmps)=true) (T:TypeId) (x:Operand) (ho:o.op=.load T x) (st:St P T 4) {g:Nat} {t:TypeId} {r:Ru} (hx:a.eval x=.pointer (some ⟨g,0,none⟩)) (hb:∀ w,C w→Box w g t r.cs.toArray)
    (h:wpQuiet P ops C Q rest (a.put o.dst (.agg #[.int .u32 r.a,.int .i64 r.n,.int .i64 r.act,.int .i64 r.next]))):wpQuiet P ops C Q (o :: rest) a:=by
  obtain ⟨fs,hu⟩:=st.under
  exact wq_run hw (fun w hC=>by simp only [execOp,ho,hx,Instr.loadAt,Instr.sureAddr,Sem.run_bind,Sem.run_pure,Result.andThen_ok,run_loadVar_row w g t T r.cs.toArray (0,0) _ (hb w hC).at_ hu rfl st.size];rfl) h
theorem RdM.reach {α:Type} {f:α→List Value} {w:World} {B:Nat} {A:Option Addr} {n c:Nat} {xs:List α} (h:RdM f w B A n c xs):∀ w',Reach w.heap.size w w'→RdM f w' B A n c xs:=fun _ hw=>h.step hw.below
theorem Box.reach {w:World} {g:Nat} {t:TypeId} {cs:Array Value} (h:Box w g t cs):∀ w',Reach w.heap.size w w'→Box w' g t cs:=fun _ hw=>h.step hw.below
end
section
variable {P:Program} {ops:Array Oper} {rest:List Oper} {o:Oper} {a:Act} {C:World→Prop} {Q:Act→Prop} {α:Type} {f:α→List Value} {k:Nat}
theorem wqm_cutS (hf:∀ x,(f x).length=k) (hw:Region.wanted o (yielded ops a.tmps)=true) (T:TypeId) (s:Operand) (lo hi mx:Option Operand) (ho:o.op=.slice T s lo hi mx) {E bytes:Nat} {z:Value} (el:ElM P T E z bytes k)
    {A:Option Addr} {n c:Nat} (hs:a.eval s=.slice A n c) {L H M:Nat}
    (hb:∀ w,(Instr.sliceBounds true n c (lo.map a.eval) (hi.map a.eval) (mx.map a.eval)).run P w=.ok (L,H,M) w)
    {B:Nat} {xs:List α} (hr:∀ w,C w→RdM f w B A n c xs) (hLH:L≤H) (hHM:H≤M) (hHn:H≤n)
    (h:∀ A',(∀ w,C w→RdM f w B A' (H - L) (M - L) ((xs.take H).drop L))→wpQuiet P ops C Q rest (a.put o.dst (.slice A' (H - L) (M - L)))) :
    wpQuiet P ops C Q (o :: rest) a:=by
  refine wq_run hw (v:=.slice (if M=L then A else A.map (·.add (L * k))) (H - L) (M - L)) (fun w hC=>?_) (h _ fun w hC=>(hr w hC).cut hf L H M hLH hHM hHn el.pos)
  simp only [execOp,ho,hs,Sem.run_bind,Instr.sliceAt,run_underlying el.ht,Instr.slice,hb w,el.size,Result.andThen,Sem.run_pure]
section
variable (hf:∀ x,(f x).length=k) (hw:Region.wanted o (yielded ops a.tmps)=true) (T:TypeId) (s:Operand) {E bytes:Nat} {z:Value} (el:ElM P T E z bytes k)
    {A:Option Addr} {n c:Nat} (hs:a.eval s=.slice A n c) {B:Nat} {xs:List α} (hr:∀ w,C w→RdM f w B A n c xs) {w0:World} (hC0:C w0)
include hf hw el hs hr hC0
theorem wqm_cut_l (lo:Operand) (ho:o.op=.slice T s (some lo) Option.none Option.none) {kk:IntKind} {I:Int} (hlo:a.eval lo=.int kk I) (L:Nat) (hL:I=(L:Int)∧L≤n)
    (h:∀ A',(∀ w,C w→RdM f w B A' (n - L) (c - L) (xs.drop L))→wpQuiet P ops C Q rest (a.put o.dst (.slice A' (n - L) (c - L)))):wpQuiet P ops C Q (o :: rest) a:=by
  obtain ⟨rfl,hL⟩:=hL
  refine wqm_cutS hf hw T s _ _ _ ho el hs (L:=L) (H:=n) (M:=c) (fun w=>?_) hr hL (hr w0 hC0).cap (Nat.le_refl _) fun A' hA=>h A' ?_
  · simp only [Option.map_some,Option.map_none,hlo]
    exact bounds_l kk hL
  · rw [List.take_of_length_le (Nat.le_of_eq (hr w0 hC0).len)] at hA
    exact hA
end
end
end Go.Th
namespace Go.Proofs.YtjandnidljbkoaaGreat
open Go.RowKit Go.Th
def RetRule (p:Ru × Bool) (w:World) (e:Ending) (w':World):Prop:=e=.returned (.tuple #[.agg #[.int .u32 p.1.a,.int .i64 p.1.n,.int .i64 p.1.act,.int .i64 p.1.next],.bool p.2])∧Below w.heap.size w w'
def FindRel (x:Int) (l:List Ru) (n:Nat) (w:World) (fd i:Value) (wr:World):Prop :=
  ∃ (k:Nat) (best:Ru) (b:Bool),k≤n∧i=.int .i64 k∧fd=.bool b∧Hid (tfind (l.take k) x=(best,b))∧Box wr (w.heap.size+1) 52 best.cs.toArray∧Box wr w.heap.size 52 Ru.zero.cs.toArray∧Below w.heap.size w wr
def RetIB (p:Int × Bool) (w:World) (e:Ending) (w':World):Prop:=e=.returned (.tuple #[.int .i64 p.1,.bool p.2])∧Below w.heap.size w w'
open Go.RowKit Go.Th
set_option maxHeartbeats 1000000 in
theorem may_any (r:Ru) (nodes:Int) (w:World) (h:r.Ok):Calls Tryz.prog 116 #[r.v,.int .i64 nodes] w (RetB (.int .i64 (r.may nodes)) w):=by
  have Ha:=Lib.hid h.a
  have Hn:=Lib.hid h.n
  have hc:(pmay r.a r.n != 0)=true∧r.may nodes=pmay r.a r.n ∨
      (pmay r.a r.n != 0)=false∧(r.act == 1)=true∧r.next < 0∧r.may nodes=10 ∨
      (pmay r.a r.n != 0)=false∧(r.act == 1)=true∧0≤r.next∧nodes≤r.next∧r.may nodes=10 ∨
      (pmay r.a r.n != 0)=false∧(r.act == 1)=true∧0≤r.next∧r.next < nodes∧r.may nodes=0 ∨
      (pmay r.a r.n != 0)=false∧(r.act == 1)=false∧(r.act == 2)=true∧(r.next != 0)=true∧r.may nodes=10 ∨
      (pmay r.a r.n != 0)=false∧(r.act == 1)=false∧(r.act == 2)=true∧(r.next != 0)=false∧r.may nodes=0 ∨
      (pmay r.a r.n != 0)=false∧(r.act == 1)=false∧(r.act == 2)=false∧(r.act == 3)=true∧(r.next != 0)=true∧r.may nodes=10 ∨
      (pmay r.a r.n != 0)=false∧(r.act == 1)=false∧(r.act == 2)=false∧(r.act == 3)=true∧(r.next != 0)=false∧r.may nodes=0 ∨
      (pmay r.a r.n != 0)=false∧(r.act == 1)=false∧(r.act == 2)=false∧(r.act == 3)=false∧r.may nodes=9:=by
    unfold Ru.may
    by_cases h0:pmay r.a r.n=0
    · by_cases h1:r.act=1
      · by_cases h2:r.next < 0
        · simp [h0,h1,h2]
        · by_cases h3:nodes≤r.next
          · simp [h0,h1,h2,h3];omega
          · simp [h0,h1,h2,h3];omega
      · by_cases h2:r.act=2
        · by_cases h3:r.next=0 <;> simp [h0,h2,h3]
        · by_cases h3:r.act=3
          · by_cases h4:r.next=0 <;> simp [h0,h3,h4]
          · simp [h0,h1,h2,h3]
    · simp [h0]
  obtain ⟨a,n,act,next⟩:=r
  show Calls Tryz.prog 116 #[.agg #[.int .u32 a,.int .i64 n,.int .i64 act,.int .i64 next],.int .i64 nodes] w _
  simp only at Ha Hn hc
  generalize Ru.may ⟨a,n,act,next⟩ nodes=v at *
  have hp:=fun W=>pmay_any a n W Ha.out Hn.out
  generalize pmay a n=e at *
  have Hp:=Lib.hid hp
  clear h hp
  rcases hc with ⟨h1,rfl⟩ | ⟨h1,h2,h3,rfl⟩ | ⟨h1,h2,h3,h4,rfl⟩ | ⟨h1,h2,h3,h4,rfl⟩ | ⟨h1,h2,h3,h4,rfl⟩ | ⟨h1,h2,h3,h4,rfl⟩ | ⟨h1,h2,h3,h4,h5,rfl⟩ | ⟨h1,h2,h3,h4,h5,rfl⟩ | ⟨h1,h2,h3,h4,rfl⟩
  all_goals go_enter Tryz.func116,Tryz.ntmps116
  all_goals go_wp2_with (go_at_call 54;refine (Hp.out _).mono ?_;rintro e w' ⟨rfl,rfl⟩)
  all_goals go_ret
  all_goals exact ⟨rfl,below_alloc w (Nat.le_refl _) _⟩
theorem get_eq {α:Type} {xs:List α} {i j:Nat} {x y:α} (h1:xs[i]? = some x) (h2:xs[j]? = some y) (hij:i=j):x=y:=by subst hij;rw [h1] at h2;injection h2
theorem may_is (r:Ru) (nodes:Int) (w:World) (h:r.Ok) (e:Int) (he:r.may nodes=e):Calls Tryz.prog 116 #[.agg #[.int .u32 r.a,.int .i64 r.n,.int .i64 r.act,.int .i64 r.next],.int .i64 nodes] w fun x w'=>x=.returned (.int .i64 e)∧Below w.heap.size w w':=by
  have:=may_any r nodes w h
  rw [he] at this
  exact this
theorem cmp_is (r s:Ru) (w:World) (hr:r.Ok) (hs:s.Ok) (v:Int) (hv:r.cmp s=v):Calls Tryz.prog 117 #[.agg #[.int .u32 r.a,.int .i64 r.n,.int .i64 r.act,.int .i64 r.next],.agg #[.int .u32 s.a,.int .i64 s.n,.int .i64 s.act,.int .i64 s.next]] w fun x w'=>x=.returned (.int .i64 v)∧Below w.heap.size w w':=by
  have:=rcmp_any r s w hr hs
  rw [hv] at this
  exact this
def MayRel (l:List Ru) (nodes:Int) (n:Nat) (w:World) (i:Value) (wr:World):Prop :=
  ∃ k:Nat,k≤n∧i=.int .i64 k∧Hid (tmay l nodes=tmayGo nodes (aheadOf l k) (l.drop k))∧Below w.heap.size w wr
set_option maxHeartbeats 2000000 in
theorem tmay_any (A:Option Addr) (n c:Nat) (l:List Ru) (nodes:Int) (w:World) (hm:n≤9223372036854775807) (B:Nat) (hr:RdM Ru.cs w B A n c l) (hok:∀ r∈l,r.Ok) :
    Calls Tryz.prog 82 #[.slice A n c,.int .i64 nodes] w (RetB (.int .i64 (tmay l nodes)) w):=by
  have Hok:=Lib.hid hok
  clear hok
  go_enter Tryz.func82,Tryz.ntmps82
  go_wp2
  go_loopw [10] (fun i wr=>MayRel l nodes n w i wr) (fun i _=>n - (intOf i).toNat)
  case atStart=>exact ⟨0,by omega,rfl,rfl,Below.refl _ _⟩
  case round =>
    obtain ⟨k,hk,rfl,hf,hb⟩:=hrel
    have hrk:=hr.step hb
    have hlen:=hrk.len
    have hbs:=hb.size
    by_cases hlt:k < n
    · obtain ⟨r,hr0⟩:∃ r,l[k]? = some r:=⟨l[k]'(by omega),List.getElem?_eq_getElem _⟩
      have hro:=Hok.out r (List.mem_of_getElem? hr0)
      have Hro:=Lib.hid hro
      have Hr:=Lib.hid hr0
      obtain ⟨e,he⟩:∃ e,r.may nodes=e:=⟨_,rfl⟩
      have He:=Lib.hid he
      clear hr0 hro he
      by_cases hz:e=0
      · subst hz
        rcases Nat.eq_zero_or_pos k with h0 | h0
        · subst h0
          have h5:=Lib.hid (hf.out.trans (tmay_first Hr.out He.out))
          clear hf
          go_wp2_with (first
            | ((with_reducible refine on_index (.tmp 8) ?_);refine wm_at Ru.cs_length rfl _ _ _ rfl el_rule rfl rfl (by omega) (by omega) hrk ?_;intro b1 j1 r1 hr1 hb1 hc1;have hxx:r=r1:=(by have e:=hr1.out;rw [Int.toNat_natCast,Hr.out] at e;injection e);subst hxx)
            | ((with_reducible refine on_load (.tmp 13) ?_);refine wr_load rfl _ _ rfl st_rule rfl hc1 ?_)
            | (go_at_call 116;refine (may_is r nodes _ Hro.out 0 He.out).mono ?_;rintro y w1 ⟨rfl,hb1⟩))
          refine wp_region_reach (by kernel_rfl) (by kernel_rfl) ?_
          repeat (first | go_big_quiet_skip | go_big_quiet_step (fail) | quiet_step (fail))
          refine wpQuiet_nil ?_
          rintro _ ⟨q,rfl⟩
          have hqw5:=q.h
          obtain ⟨w5,hw5'⟩:∃ W,q.w=W:=⟨_,rfl⟩
          rw [hw5'] at hqw5 ⊢
          clear hw5' q
          go_wp2
          go_roundw
          case rel=>exact ⟨0+1,by omega,by go_num,h5.out,((hb.alloc hbs _).trans (hb1.mono (by simp;omega))).trans (hqw5.mono (by have:=hb1.size;simp at this;omega))⟩
          case measure=>simp [intOf];omega
        · obtain ⟨k,rfl⟩:∃ j,k=j+1:=⟨k - 1,by omega⟩
          obtain ⟨q,hq0⟩:∃ q,l[k]? = some q:=⟨l[k]'(by omega),List.getElem?_eq_getElem _⟩
          have Hqo:=Lib.hid (Hok.out q (List.mem_of_getElem? hq0))
          have Hq:=Lib.hid hq0
          obtain ⟨v,hv⟩:∃ v,r.cmp q=v:=⟨_,rfl⟩
          have hvw:((v != 1)=true∧tmay l nodes=11)∨((v != 1)=false∧tmay l nodes=tmayGo nodes (aheadOf l (k+1+1)) (l.drop (k+1+1))):=by
            by_cases h1:v=1
            · exact .inr ⟨by simp [h1],hf.out.trans (tmay_on Hr.out hq0 He.out (by rw [hv];exact h1))⟩
            · exact .inl ⟨by simp [h1],hf.out.trans (tmay_order Hr.out hq0 He.out (by rw [hv];exact h1))⟩
          have Hv:=Lib.hid hv
          clear hf hq0 hv
          rcases hvw with ⟨hv1,h5⟩ | ⟨hv1,h5⟩
          all_goals
            have H5:=Lib.hid h5
            clear h5
            go_wp2_with (first
              | ((with_reducible refine on_index (.tmp 8) ?_);refine wm_at Ru.cs_length rfl _ _ _ rfl el_rule rfl rfl (by omega) (by omega) hrk ?_;intro b1 j1 r1 hr1 hb1 hc1;have hxx:r=r1:=get_eq Hr.out hr1.out (by omega);subst hxx)
              | ((with_reducible refine on_load (.tmp 13) ?_);refine wr_load rfl _ _ rfl st_rule rfl hc1 ?_)
              | (go_at_call 116;refine (may_is r nodes _ Hro.out 0 He.out).mono ?_;rintro y w1 ⟨rfl,hb1⟩))
            have hx1:=((hrk.alloc (.cells r.cs.toArray 52)).step hb1).reach
            have bx1:=((Box.new wr r.cs.toArray 52).step hb1).reach
            have hb2:=(hb.alloc hbs (.cells r.cs.toArray 52)).trans (hb1.mono (by simp;omega))
            refine wp_region_reach (by kernel_rfl) (by kernel_rfl) ?_
            repeat (first | go_big_quiet_skip | (refine wqr_box rfl _ (.tmp 6) rfl st_rule rfl bx1 ?_) | (refine wqr_at rfl _ (.tmp 25) _ rfl el_rule rfl rfl (by omega) (by omega) (Th.Reach.refl _ _) hx1 ?_;intro b2 j2 t2 ht2 hc2;have hxx:q=t2:=get_eq Hq.out ht2.out (by omega);subst hxx) | (refine wqr_load rfl _ (.tmp 28) rfl st_rule rfl hc2 ?_) | go_big_quiet_step (exact Calls.reach (cmp_is r q _ Hro.out Hqo.out v Hv.out)) | quiet_step (exact Calls.reach (cmp_is r q _ Hro.out Hqo.out v Hv.out)))
            refine wpQuiet_nil ?_
            rintro _ ⟨q,rfl⟩
            have hqw5:=q.h
            obtain ⟨w5,hw5'⟩:∃ W,q.w=W:=⟨_,rfl⟩
            rw [hw5'] at hqw5 ⊢
            clear hw5' q
            have hb3:=hb2.trans (hqw5.mono hb2.size)
            go_wp2
          · go_ret
            exact ⟨(by rw [H5.out];try rfl),hb3⟩
          · go_roundw
            case rel=>exact ⟨k+1+1,by omega,by go_num,H5.out,hb3⟩
            case measure=>simp [intOf];omega
      · have h5:=Lib.hid (hf.out.trans (tmay_bad Hr.out (by rw [He.out];exact hz) _))
        have hz':(e != 0)=true:=by simp [hz]
        clear hf
        go_wp2_with (first
          | ((with_reducible refine on_index (.tmp 8) ?_);refine wm_at Ru.cs_length rfl _ _ _ rfl el_rule rfl rfl (by omega) (by omega) hrk ?_;intro b1 j1 r1 hr1 hb1 hc1;have hxx:r=r1:=(by have e:=hr1.out;rw [Int.toNat_natCast,Hr.out] at e;injection e);subst hxx)
          | ((with_reducible refine on_load (.tmp 13) ?_);refine wr_load rfl _ _ rfl st_rule rfl hc1 ?_)
          | (go_at_call 116;refine (may_is r nodes _ Hro.out e He.out).mono ?_;rintro e' w1 ⟨rfl,hb1⟩))
        go_ret
        exact ⟨(by rw [h5.out,He.out];try rfl),(hb.alloc hbs _).trans (hb1.mono (by simp;omega))⟩
    · have h5:tmay l nodes=0:=by rw [hf.out,List.drop_eq_nil_of_le (by omega)];rfl
      have H5:=Lib.hid h5
      clear h5 hf
      go_wp2
      go_ret
      exact ⟨(by rw [H5.out];try rfl),hb⟩
end Go.Proofs.YtjandnidljbkoaaGreat
namespace Go.Th
open Go.RowKit
theorem grown_refl (w:World) (row:Option Nat):w.grownBy w row:=⟨rfl,rfl,rfl,Nat.le_refl _,fun _ _ _=>rfl⟩
theorem grown_trans {a b c:World} {row:Option Nat} (h:a.grownBy b row) (h2:b.grownBy c row):a.grownBy c row :=
  ⟨h2.os.trans h.os,h2.tape.trans h.tape,h2.output.trans h.output,Nat.le_trans h.size h2.size,fun k hk hne=>(h2.block k (Nat.lt_of_lt_of_le hk h.size) hne).trans (h.block k hk hne)⟩
section
variable {P:Program} {ops:Array Oper} {rest:List Oper} {o:Oper} {a:Act} {Q:Exit→Act→World→Prop} {w:World}
theorem OwM.at0 {α:Type} {f:α→List Value} {k base e n c:Nat} {A:Option Addr} {xs:List α} (h:OwM f k w base e A n c xs) (hn:0 < n):∃ g,A=some ⟨g,0,none⟩∧base≤g∧g < w.heap.size:=by
  rcases h.ow.form with ⟨_,h0,_⟩ | ⟨g,hA,hb,hl⟩
  · omega
  · exact ⟨g,hA,hb,hl⟩
end
theorem on_store_at {P:Program} {ops:Array Oper} {Q:Exit→Act→World→Prop} {rest:List Oper} {a:Act} {w:World} (x:Operand) {d T y ty pos af g} (h:wpList P ops Q (⟨d,.store T x y,ty,pos,af,g⟩ :: rest) a w):wpList P ops Q (⟨d,.store T x y,ty,pos,af,g⟩ :: rest) a w:=h
section
variable {P:Program} {ops:Array Oper} {C:World→Prop} {Q:Act→Prop} {rest:List Oper} {a:Act}
theorem onq_slice (s:Operand) {d T lo hi mx ty pos af g} (h:wpQuiet P ops C Q (⟨d,.slice T s lo hi mx,ty,pos,af,g⟩ :: rest) a):wpQuiet P ops C Q (⟨d,.slice T s lo hi mx,ty,pos,af,g⟩ :: rest) a:=h
theorem onq_index (s:Operand) {d T i ty pos af g} (h:wpQuiet P ops C Q (⟨d,.indexAddr T s i,ty,pos,af,g⟩ :: rest) a):wpQuiet P ops C Q (⟨d,.indexAddr T s i,ty,pos,af,g⟩ :: rest) a:=h
theorem onq_load (x:Operand) {d T ty pos af g} (h:wpQuiet P ops C Q (⟨d,.load T x,ty,pos,af,g⟩ :: rest) a):wpQuiet P ops C Q (⟨d,.load T x,ty,pos,af,g⟩ :: rest) a:=h
end
end Go.Th
namespace Go.Proofs.YtjandnidljbkoaaGreat
open Go.RowKit Go.Th
def FitRel (l:List Ru) (nodes:Int) (n:Nat) (w:World) (out i:Value) (wr:World):Prop :=
  ∃ (k m c:Nat) (A:Option Addr),k≤min n 20∧out=.slice A m c∧i=.int .i64 k∧m≤k∧OwM Ru.cs 4 wr w.heap.size 52 A m c (fitTo l nodes k)∧Below w.heap.size w wr
def PlaceRel (out:List Ru) (s:Ru) (m c g base:Nat) (A:Option Addr) (w1:World) (at_:Value) (wr:World):Prop :=
  ∃ j:Nat,j≤m∧at_=.int .i64 j∧Hid (∀ i t,i < j→out[i]? = some t→below s t=true)∧Box wr g 52 s.cs.toArray∧OwM Ru.cs 4 wr base 52 A m c out∧Below base w1 wr
set_option maxHeartbeats 2000000 in
set_option maxRecDepth 100000 in
theorem fit_any (A:Option Addr) (n c:Nat) (l:List Ru) (nodes:Int) (w:World) (hm:n≤9223372036854775807) (B:Nat) (hr:RdM Ru.cs w B A n c l) (hok:∀ r∈l,r.Ok) (hn:1≤nodes∧nodes≤4611686018427387904) :
    Calls Tryz.prog 53 #[.slice A n c,.int .i64 nodes] w fun e w'=>∃ A' m c',e=.returned (.slice A' m c')∧m≤20∧OwM Ru.cs 4 w' w.heap.size 52 A' m c' (fitT l nodes)∧Below w.heap.size w w':=by
  have Hok:=Lib.hid hok
  have Hn:=Lib.hid hn
  clear hok hn
  go_enter Tryz.func53,Tryz.ntmps53
  go_wp2
  go_loopw [5,6] (fun out i wr=>FitRel l nodes n w out i wr) (fun _ i _=>20 - (intOf i).toNat)
  case atStart=>exact ⟨0,0,0,_,by omega,rfl,rfl,by omega,OwM.lit Ru.cs_length w #[] 0 (Nat.le_refl _) (by simp [maxLen]) rfl rfl,(by repeat (first | exact Below.refl _ _ | refine Below.drew ?_ | refine Below.alloc ?_ (by first | (simp;done) | (simp;omega)) _ | refine Below.setCell ?_ (by first | (simp;done) | (simp;omega)) _ | assumption))⟩
  case round =>
    obtain ⟨k,m,c1,A1,hk,rfl,rfl,hmk,how,hb⟩:=hrel
    have hrk:RdM Ru.cs wr B A n c l:=hr.step hb
    have hlen:=hrk.len
    by_cases hlt:k < min n 20
    · obtain ⟨r,hrk0⟩:∃ r,l[k]? = some r:=⟨l[k]'(by omega),List.getElem?_eq_getElem _⟩
      have hro:=Hok.out r (List.mem_of_getElem? hrk0)
      have hsn:=fitTo_snoc nodes hrk0 (by omega)
      obtain ⟨s,hs⟩:∃ s,r.fit nodes=s:=⟨_,rfl⟩
      have hfit:∀ W,Calls Tryz.prog 104 #[r.v,.int .i64 nodes] W (RetB (.agg #[.int .u32 s.a,.int .i64 s.n,.int .i64 s.act,.int .i64 s.next]) W):=fun W=>by
        have:=rfit_any r nodes W hro Hn.out
        rw [hs] at this
        exact this
      rw [hs] at hsn
      obtain ⟨out,ho⟩:∃ out,fitTo l nodes k=out:=⟨_,rfl⟩
      rw [ho] at how hsn
      have Hfit:=Lib.hid hfit
      have Hsn:=Lib.hid hsn
      have Hrk:=Lib.hid hrk0
      have hk20:k < 20:=by omega
      have hkn:k < n:=by omega
      clear hsn hrk0 hro hfit hs ho
      have hbs:=hb.size
      go_wp2_with (first
        | ((with_reducible refine on_index (.tmp 21) ?_);refine wm_at Ru.cs_length rfl _ _ _ rfl el_rule rfl rfl (by omega) (by omega) hrk ?_;intro b1 j1 r1 hr1 hb1 hc1;have hxx:r=r1:=(by have e:=hr1.out;rw [Int.toNat_natCast,Hrk.out] at e;injection e);subst hxx)
        | ((with_reducible refine on_load (.tmp 23) ?_);refine wr_load rfl _ _ rfl st_rule rfl hc1 ?_)
        | (go_at_call 104;refine (Hfit.out _).mono ?_;rintro e w1 ⟨rfl,hb1⟩))
      have hbox:Box (w1.alloc (.cells s.cs.toArray 52)) w1.heap.size 52 s.cs.toArray:=Box.new w1 _ _
      have how1:=(how.below hb1).alloc (.cells s.cs.toArray 52)
      have hb2:Below w.heap.size w (w1.alloc (.cells s.cs.toArray 52)):=(hb.trans (hb1.mono hbs)).alloc (Nat.le_trans hbs hb1.size) _
      have hw1:w.heap.size≤w1.heap.size:=Nat.le_trans hbs hb1.size
      go_loopw [8] (fun at_ wq=>PlaceRel out s m c1 w1.heap.size w.heap.size A1 w at_ wq) (fun at_ _=>m - (intOf at_).toNat)
      case atStart=>exact ⟨0,by omega,rfl,(fun i t hi=>absurd hi (by omega)),hbox,how1,hb2⟩
      case round =>
        clear hbox how1 hb2 hrk how hb hlen hb1 hc1 hr1
        obtain ⟨j,hj,rfl,hbel,hbox,how,hb⟩:=hrel
        have hol:=how.len
        have hxs:=how.rd.reach
        have hbx:=hbox.reach
        have hwq:=hb.size
        by_cases hjm:j < m
        · obtain ⟨t,ht⟩:∃ t,out[j]? = some t:=⟨out[j]'(by omega),List.getElem?_eq_getElem _⟩
          obtain ⟨v,hv⟩:∃ v,t.cmp s=v:=⟨_,rfl⟩
          have hcmp:∀ W,Calls Tryz.prog 105 #[t.v,s.v] W (fun e w'=>e=.returned (.int .i64 v)∧Below W.heap.size W w'):=fun W=>by
            have:=rrcmp_any t s W
            rw [hv] at this
            exact this
          have hbt:below s t=decide (v < 0):=by unfold below;rw [hv]
          have Ht:=Lib.hid ht
          have Hv:=Lib.hid hv
          have Hbt:=Lib.hid hbt
          have Hcmp:=Lib.hid hcmp
          clear ht hv hbt hcmp
          have hvw:v < 0∨(0≤v∧(v == 0)=true)∨(0≤v∧(v == 0)=false):=by
            by_cases h1:v < 0
            · exact .inl h1
            · by_cases h2:v=0
              · exact .inr (.inl ⟨by omega,by simp [h2]⟩)
              · exact .inr (.inr ⟨by omega,by simp [h2]⟩)
          rcases hvw with hv | ⟨hv,hv0⟩ | ⟨hv,hv0⟩
          · have hbel2:∀ i u,i < j+1→out[i]? = some u→below s u=true:=by
              intro i u hi hu
              rcases Nat.lt_or_ge i j with h1 | h1
              · exact hbel.out i u h1 hu
              · have:i=j:=by omega
                subst this
                rw [Ht.out] at hu
                injection hu with hu
                subst hu
                rw [Hbt.out]
                simpa using hv
            have Hbel2:=Lib.hid hbel2
            clear hbel2
            go_wp2
            refine wp_region_reach (by kernel_rfl) (by kernel_rfl) ?_
            repeat (first | go_big_quiet_skip | (refine wqr_at rfl _ (.tmp 32) _ rfl el_rule rfl rfl (by omega) (by omega) (Th.Reach.refl _ _) hxs ?_;intro b2 j2 t2 ht2 hc2;have hxx:t=t2:=(by have e:=ht2.out;rw [Int.toNat_natCast,Ht.out] at e;injection e);subst hxx) | (refine wqr_load rfl _ (.tmp 34) rfl st_rule rfl hc2 ?_) | (refine wqr_box rfl _ (.tmp 7) rfl st_rule rfl hbx ?_) | go_big_quiet_step (exact Calls.reach (Hcmp.out _)) | quiet_step (exact Calls.reach (Hcmp.out _)))
            refine wpQuiet_nil ?_
            rintro _ ⟨q,rfl⟩
            have hqw5:=q.h
            obtain ⟨w5,hw5'⟩:∃ W,q.w=W:=⟨_,rfl⟩
            rw [hw5'] at hqw5 ⊢
            clear hw5' q
            go_wp2
            go_roundw
            case rel=>exact ⟨j+1,by omega,by go_num,Hbel2.out,hbox.step hqw5,how.below hqw5,hb.trans (hqw5.mono hwq)⟩
            case measure=>simp [intOf];omega
          · have hp:place out s=j:=place_at hbel.out (by omega) (fun u hu=>by rw [Ht.out] at hu;injection hu with hu;subst hu;rw [Hbt.out];simpa using hv)
            have hins:ins out s=out:=ins_same hp Ht.out (by rw [Hv.out];simpa using hv0)
            have Hins:=Lib.hid hins
            clear hp hins
            go_wp2
            refine wp_region_reach (by kernel_rfl) (by kernel_rfl) ?_
            repeat (first | go_big_quiet_skip | (refine wqr_at rfl _ (.tmp 32) _ rfl el_rule rfl rfl (by omega) (by omega) (Th.Reach.refl _ _) hxs ?_;intro b2 j2 t2 ht2 hc2;have hxx:t=t2:=(by have e:=ht2.out;rw [Int.toNat_natCast,Ht.out] at e;injection e);subst hxx) | (refine wqr_load rfl _ (.tmp 34) rfl st_rule rfl hc2 ?_) | (refine wqr_box rfl _ (.tmp 7) rfl st_rule rfl hbx ?_) | go_big_quiet_step (exact Calls.reach (Hcmp.out _)) | quiet_step (exact Calls.reach (Hcmp.out _)))
            refine wpQuiet_nil ?_
            rintro _ ⟨q,rfl⟩
            have hqw5:=q.h
            obtain ⟨w5,hw5'⟩:∃ W,q.w=W:=⟨_,rfl⟩
            rw [hw5'] at hqw5 ⊢
            clear hw5' q
            have how:=how.below hqw5
            have hbox:=hbox.step hqw5
            have hb:=hb.trans (hqw5.mono hwq)
            have hxs:=how.rd.reach
            have hbx:=hbox.reach
            have hwq:=hb.size
            clear hc2
            go_wp2
            refine wp_region_reach (by kernel_rfl) (by kernel_rfl) ?_
            repeat (first | go_big_quiet_skip | (refine wqr_at rfl _ (.tmp 47) _ rfl el_rule rfl rfl (by omega) (by omega) (Th.Reach.refl _ _) hxs ?_;intro b2 j2 t2 ht2 hc2;have hxx:t=t2:=(by have e:=ht2.out;rw [Int.toNat_natCast,Ht.out] at e;injection e);subst hxx) | (refine wqr_load rfl _ (.tmp 49) rfl st_rule rfl hc2 ?_) | (refine wqr_box rfl _ (.tmp 7) rfl st_rule rfl hbx ?_) | go_big_quiet_step (exact Calls.reach (Hcmp.out _)) | quiet_step (exact Calls.reach (Hcmp.out _)))
            refine wpQuiet_nil ?_
            rintro _ ⟨q,rfl⟩
            have hqw6:=q.h
            obtain ⟨w6,hw6'⟩:∃ W,q.w=W:=⟨_,rfl⟩
            rw [hw6'] at hqw6 ⊢
            clear hw6' q
            go_wp2
            go_roundw
            case rel=>exact ⟨k+1,m,c1,A1,by omega,rfl,by go_num,by omega,(by rw [Hsn.out,Hins.out];exact how.below hqw6),hb.trans (hqw6.mono hwq)⟩
            case measure=>simp [intOf];omega
          · have hp:place out s=j:=place_at hbel.out (by omega) (fun u hu=>by rw [Ht.out] at hu;injection hu with hu;subst hu;rw [Hbt.out];simpa using hv)
            have hins:ins out s=out.take j ++ s :: out.drop j:=ins_new hp Ht.out (by rw [Hv.out];simpa using hv0)
            have Hins:=Lib.hid hins
            clear hp hins
            go_wp2
            refine wp_region_reach (by kernel_rfl) (by kernel_rfl) ?_
            repeat (first | go_big_quiet_skip | (refine wqr_at rfl _ (.tmp 32) _ rfl el_rule rfl rfl (by omega) (by omega) (Th.Reach.refl _ _) hxs ?_;intro b2 j2 t2 ht2 hc2;have hxx:t=t2:=(by have e:=ht2.out;rw [Int.toNat_natCast,Ht.out] at e;injection e);subst hxx) | (refine wqr_load rfl _ (.tmp 34) rfl st_rule rfl hc2 ?_) | (refine wqr_box rfl _ (.tmp 7) rfl st_rule rfl hbx ?_) | go_big_quiet_step (exact Calls.reach (Hcmp.out _)) | quiet_step (exact Calls.reach (Hcmp.out _)))
            refine wpQuiet_nil ?_
            rintro _ ⟨q,rfl⟩
            have hqw5:=q.h
            obtain ⟨w5,hw5'⟩:∃ W,q.w=W:=⟨_,rfl⟩
            rw [hw5'] at hqw5 ⊢
            clear hw5' q
            have how:=how.below hqw5
            have hbox:=hbox.step hqw5
            have hb:=hb.trans (hqw5.mono hwq)
            have hxs:=how.rd.reach
            have hbx:=hbox.reach
            have hwq:=hb.size
            clear hc2
            go_wp2
            refine wp_region_reach (by kernel_rfl) (by kernel_rfl) ?_
            repeat (first | go_big_quiet_skip | (refine wqr_at rfl _ (.tmp 47) _ rfl el_rule rfl rfl (by omega) (by omega) (Th.Reach.refl _ _) hxs ?_;intro b2 j2 t2 ht2 hc2;have hxx:t=t2:=(by have e:=ht2.out;rw [Int.toNat_natCast,Ht.out] at e;injection e);subst hxx) | (refine wqr_load rfl _ (.tmp 49) rfl st_rule rfl hc2 ?_) | (refine wqr_box rfl _ (.tmp 7) rfl st_rule rfl hbx ?_) | go_big_quiet_step (exact Calls.reach (Hcmp.out _)) | quiet_step (exact Calls.reach (Hcmp.out _)))
            refine wpQuiet_nil ?_
            rintro _ ⟨q,rfl⟩
            have hqw6:=q.h
            obtain ⟨w6,hw6'⟩:∃ W,q.w=W:=⟨_,rfl⟩
            rw [hw6'] at hqw6 ⊢
            clear hw6' q
            have how:=how.below hqw6
            have hbox:=hbox.step hqw6
            have hb:=hb.trans (hqw6.mono hwq)
            clear hc2 hxs hbx hwq
            go_wp2
            have hb60:=hb.size
            refine wp_region_tree (.float 0 1 (.float 2 3 (.one 1 (.one 5 (.float 6 1 .done))))) (Th.Reach (w6.heap.size)) (Th.Reach.trans _) (Th.Reach.refl _) (by kernel_rfl) (by kernel_rfl) (fun KT hKT=>?_)
            repeat' first
              | ((with_reducible refine wpTree_done ?_);refine hKT _ _ ?_;clear hKT KT)
              | ((with_reducible refine wpTree_float (fun KF hKF=>?_));(simp only [List.drop,List.take]);(repeat (first | go_big_quiet_skip | (refine wqr_box rfl _ (.tmp 7) rfl st_rule rfl (hbox.drew).reach ?_) | (refine wqm_cut_l Ru.cs_length rfl _ (.tmp 57) el_rule rfl (how.rd.drew).reach (Th.Reach.refl _ _) _ rfl rfl j (by omega) ?_;intro A59 r59) | go_big_quiet_step (fail) | quiet_step (fail)));refine wpQuiet_nil ?_;refine hKF _ ?_;clear hKF KF)
              | ((with_reducible refine wpTree_one (fun KO hKO=>?_));(simp only [List.drop,List.take]);(go_wp2_with (first | (with_reducible refine on_append (.tmp 56) (.tmp 59) ?_);refine wm_append Ru.cs_length rfl (.tmp 56) (.tmp 59) _ rfl el_rule Ru.one rfl (OwM.lit (base:=w6.heap.size) (e:=52) (xs:=[s]) Ru.cs_length w6.drew #[.int .u32 s.a,.int .i64 s.n,.int .i64 s.act,.int .i64 s.next] 1 (Nat.le_refl _) (by simp [maxLen]) rfl rfl) rfl (r59 _ (Th.Reach.of (below_alloc w6.drew (Nat.le_refl _) _))) (by omega) (by omega) (by first | (simp;done) | (simp;omega) | omega) ?_;intro A60 c60 w60 how60 hg60 hb61));(refine anch_end (Th.Reach.of (by first | exact Below.refl _ _ | exact below_alloc _ (by first | omega | (simp;done) | (simp;omega)) _ | exact below_alloc2 _ (by first | omega | (simp;done) | (simp;omega)) _ _ | exact below_alloc2d _ (by simp) _ _ | exact bdrew _ _ | assumption | (exact Below.mono (by assumption) (by first | (simp;done) | (simp;omega) | omega | assumption)))) (hKO _ _ ?_));clear hKO KO)
            have H60:Below w6.heap.size w6 w60:=((bdrew1 w6).trans (below_alloc w6.drew (Nat.le_refl _) _)).trans hb61
            have how6:=(how.below H60).rd
            clear hg60 hb61 r59 hbox
            go_wp2_with (first
              | ((with_reducible refine on_slice (.tmp 62) ?_);refine wm_cut_h Ru.cs_length rfl _ _ el_rule rfl (how6.alloc _) _ rfl rfl j (by omega) ?_;intro A64 r64)
              | ((with_reducible refine on_append (.tmp 61) (.tmp 64) ?_);refine wm_append Ru.cs_length rfl (.tmp 61) (.tmp 64) _ rfl el_rule Ru.one rfl (OwM.lit (base:=w60.heap.size) (e:=52) (xs:=[]) Ru.cs_length w60 #[] 0 (Nat.le_refl _) (by simp [maxLen]) rfl rfl) rfl r64 (by omega) (by omega) (by first | (simp;done) | (simp;omega) | omega) ?_;intro A65 c65 w65 how65 hg65 hb65;rw [Nat.zero_add,List.nil_append] at how65;have H65:Below w60.heap.size w60 w65:=(below_alloc w60 (Nat.le_refl _) _).trans hb65;have r60:=(how60.below H65).rd)
              | ((with_reducible refine on_append (.tmp 65) (.tmp 66) ?_);refine wm_append Ru.cs_length rfl (.tmp 65) (.tmp 66) _ rfl el_rule Ru.one rfl how65 rfl r60 (by omega) (by omega) H65.size ?_;intro A67 c67 w67 how67 _ hb67))
            go_roundw
            case rel=>exact ⟨k+1,j+(1+(m - j)),c67,A67,by omega,rfl,by go_num,by omega,(by rw [Hsn.out,Hins.out];exact how67.base_le (Nat.le_trans hb60 H60.size)),(hb.trans (H60.mono hb60)).trans ((H65.trans hb67).mono (Nat.le_trans hb60 H60.size))⟩
            case measure=>simp [intOf];omega
        · have hjm':j=m:=by omega
          have hp:place out s=j:=place_at hbel.out (by omega) (fun u hu=>by have:=(List.getElem?_eq_some_iff.1 hu).1;omega)
          have hins:ins out s=out.take j ++ s :: out.drop j:=ins_last hp (by omega)
          have Hins:=Lib.hid hins
          have hjm2:decide (j < m)=false:=by simp;omega
          clear hp hins hjm' hjm
          go_wp2
          refine wp_region_reach (by kernel_rfl) (by kernel_rfl) ?_
          repeat (first | go_big_quiet_skip | go_big_quiet_step (fail) | quiet_step (fail))
          refine wpQuiet_nil ?_
          rintro _ ⟨q,rfl⟩
          have hqw5:=q.h
          obtain ⟨w5,hw5'⟩:∃ W,q.w=W:=⟨_,rfl⟩
          rw [hw5'] at hqw5 ⊢
          clear hw5' q
          have how:=how.below hqw5
          have hbox:=hbox.step hqw5
          have hb:=hb.trans (hqw5.mono hwq)
          have hwq:=hb.size
          clear hxs hbx
          go_wp2
          refine wp_region_reach (by kernel_rfl) (by kernel_rfl) ?_
          repeat (first | go_big_quiet_skip | go_big_quiet_step (fail) | quiet_step (fail))
          refine wpQuiet_nil ?_
          rintro _ ⟨q,rfl⟩
          have hqw6:=q.h
          obtain ⟨w6,hw6'⟩:∃ W,q.w=W:=⟨_,rfl⟩
          rw [hw6'] at hqw6 ⊢
          clear hw6' q
          have how:=how.below hqw6
          have hbox:=hbox.step hqw6
          have hb:=hb.trans (hqw6.mono hwq)
          clear hwq
          go_wp2
          have hb60:=hb.size
          refine wp_region_tree (.float 0 1 (.float 2 3 (.one 1 (.one 5 (.float 6 1 .done))))) (Th.Reach (w6.heap.size)) (Th.Reach.trans _) (Th.Reach.refl _) (by kernel_rfl) (by kernel_rfl) (fun KT hKT=>?_)
          repeat' first
            | ((with_reducible refine wpTree_done ?_);refine hKT _ _ ?_;clear hKT KT)
            | ((with_reducible refine wpTree_float (fun KF hKF=>?_));(simp only [List.drop,List.take]);(repeat (first | go_big_quiet_skip | (refine wqr_box rfl _ (.tmp 7) rfl st_rule rfl (hbox.drew).reach ?_) | (refine wqm_cut_l Ru.cs_length rfl _ (.tmp 57) el_rule rfl (how.rd.drew).reach (Th.Reach.refl _ _) _ rfl rfl j (by omega) ?_;intro A59 r59) | go_big_quiet_step (fail) | quiet_step (fail)));refine wpQuiet_nil ?_;refine hKF _ ?_;clear hKF KF)
            | ((with_reducible refine wpTree_one (fun KO hKO=>?_));(simp only [List.drop,List.take]);(go_wp2_with (first | (with_reducible refine on_append (.tmp 56) (.tmp 59) ?_);refine wm_append Ru.cs_length rfl (.tmp 56) (.tmp 59) _ rfl el_rule Ru.one rfl (OwM.lit (base:=w6.heap.size) (e:=52) (xs:=[s]) Ru.cs_length w6.drew #[.int .u32 s.a,.int .i64 s.n,.int .i64 s.act,.int .i64 s.next] 1 (Nat.le_refl _) (by simp [maxLen]) rfl rfl) rfl (r59 _ (Th.Reach.of (below_alloc w6.drew (Nat.le_refl _) _))) (by omega) (by omega) (by first | (simp;done) | (simp;omega) | omega) ?_;intro A60 c60 w60 how60 hg60 hb61));(refine anch_end (Th.Reach.of (by first | exact Below.refl _ _ | exact below_alloc _ (by first | omega | (simp;done) | (simp;omega)) _ | exact below_alloc2 _ (by first | omega | (simp;done) | (simp;omega)) _ _ | exact below_alloc2d _ (by simp) _ _ | exact bdrew _ _ | assumption | (exact Below.mono (by assumption) (by first | (simp;done) | (simp;omega) | omega | assumption)))) (hKO _ _ ?_));clear hKO KO)
          have H60:Below w6.heap.size w6 w60:=((bdrew1 w6).trans (below_alloc w6.drew (Nat.le_refl _) _)).trans hb61
          have how6:=(how.below H60).rd
          clear hg60 hb61 r59 hbox
          go_wp2_with (first
            | ((with_reducible refine on_slice (.tmp 62) ?_);refine wm_cut_h Ru.cs_length rfl _ _ el_rule rfl (how6.alloc _) _ rfl rfl j (by omega) ?_;intro A64 r64)
            | ((with_reducible refine on_append (.tmp 61) (.tmp 64) ?_);refine wm_append Ru.cs_length rfl (.tmp 61) (.tmp 64) _ rfl el_rule Ru.one rfl (OwM.lit (base:=w60.heap.size) (e:=52) (xs:=[]) Ru.cs_length w60 #[] 0 (Nat.le_refl _) (by simp [maxLen]) rfl rfl) rfl r64 (by omega) (by omega) (by first | (simp;done) | (simp;omega) | omega) ?_;intro A65 c65 w65 how65 hg65 hb65;rw [Nat.zero_add,List.nil_append] at how65;have H65:Below w60.heap.size w60 w65:=(below_alloc w60 (Nat.le_refl _) _).trans hb65;have r60:=(how60.below H65).rd)
            | ((with_reducible refine on_append (.tmp 65) (.tmp 66) ?_);refine wm_append Ru.cs_length rfl (.tmp 65) (.tmp 66) _ rfl el_rule Ru.one rfl how65 rfl r60 (by omega) (by omega) H65.size ?_;intro A67 c67 w67 how67 _ hb67))
          go_roundw
          case rel=>exact ⟨k+1,j+(1+(m - j)),c67,A67,by omega,rfl,by go_num,by omega,(by rw [Hsn.out,Hins.out];exact how67.base_le (Nat.le_trans hb60 H60.size)),(hb.trans (H60.mono hb60)).trans ((H65.trans hb67).mono (Nat.le_trans hb60 H60.size))⟩
          case measure=>simp [intOf];omega
    · have hkn:fitTo l nodes k=fitT l nodes:=fitTo_end nodes (by omega)
      rw [hkn] at how
      have hk3:(k:Int) ≥ n∨((k:Int) < n∧(k:Int) ≥ 20):=by omega
      rcases hk3 with hk3 | ⟨hk3,hk4⟩
      all_goals go_wp2
      all_goals go_ret
      all_goals exact ⟨A1,m,c1,rfl,by omega,how,hb⟩
end Go.Proofs.YtjandnidljbkoaaGreat
namespace Go.Th
def be (n:Nat):Nat→List UInt8
  | 0=>[]
  | s+1=>be (n / 256) s ++ [UInt8.ofNat n]
theorem be_length (s:Nat):∀ n,(be n s).length=s:=by
  induction s with
  | zero=>intro n;rfl
  | succ s ih=>intro n;simp [be,ih]
def valFrom (a:Nat) (bs:List UInt8):Nat:=bs.foldl (fun a b=>a * 256+b.toNat) a
def val (bs:List UInt8):Nat:=valFrom 0 bs
theorem val_snoc (xs:List UInt8) (b:UInt8):val (xs ++ [b])=val xs * 256+b.toNat:=by simp [val,valFrom]
theorem val_lt (bs:List UInt8):val bs < 256 ^ bs.length:=by
  suffices h:∀ bs:List UInt8,∀ xs:List UInt8,bs=xs.reverse→val bs < 256 ^ bs.length from h bs bs.reverse (by simp)
  intro bs xs h
  subst h
  induction xs with
  | nil=>simp [val,valFrom]
  | cons b xs ih =>
    rw [List.reverse_cons,val_snoc,List.length_append,List.length_singleton,Nat.pow_succ]
    have:=b.toNat_lt
    omega
theorem val_be (s:Nat):∀ n,n < 256 ^ s→val (be n s)=n:=by
  induction s with
  | zero=>intro n h;simp at h;subst h;rfl
  | succ s ih =>
    intro n h
    rw [Nat.pow_succ] at h
    rw [be,val_snoc,ih (n / 256) (by omega)]
    simp
    omega
theorem be_val (bs:List UInt8):be (val bs) bs.length=bs:=by
  suffices h:∀ xs:List UInt8,be (val xs.reverse) xs.reverse.length=xs.reverse by
    have:=h bs.reverse
    simpa using this
  intro xs
  induction xs with
  | nil=>rfl
  | cons b xs ih =>
    rw [List.reverse_cons,val_snoc,List.length_append,List.length_singleton,be]
    have hb:=b.toNat_lt
    rw [show (val xs.reverse * 256+b.toNat) / 256=val xs.reverse by omega,ih]
    congr 2
    apply UInt8.toNat_inj.1
    simp
theorem be_get (s:Nat):∀ n i,i < s→(be n s)[s - 1 - i]? = some (UInt8.ofNat (n / 256 ^ i)):=by
  induction s with
  | zero=>intro n i h;omega
  | succ s ih =>
    intro n i h
    rw [be]
    rcases Nat.eq_zero_or_pos i with h0 | h0
    · subst h0
      rw [List.getElem?_append_right (by rw [be_length];omega),be_length]
      simp
    · rw [List.getElem?_append_left (by rw [be_length];omega)]
      have:=ih (n / 256) (i - 1) (by omega)
      rw [show s+1 - 1 - i=s - 1 - (i - 1) by omega,this,Nat.div_div_eq_div_mul,← Nat.pow_succ',show (i - 1).succ=i by omega]
theorem val_take_succ (bs:List UInt8) (k:Nat) (x:UInt8) (h:bs[k]? = some x):val (bs.take (k+1))=val (bs.take k) * 256+x.toNat:=by
  rw [List.take_add_one,h]
  exact val_snoc _ _
theorem be_fill (n s i:Nat) (h:i < s):(List.replicate (s - i) (0:UInt8) ++ (be n s).drop (s - i)).set (s - 1 - i) (UInt8.ofNat (n / 256 ^ i))=List.replicate (s - (i+1)) 0 ++ (be n s).drop (s - (i+1)):=by
  apply List.ext_getElem?
  intro j
  rw [List.getElem?_set]
  have hl:=be_length s n
  by_cases hj:s - 1 - i=j
  · subst hj
    rw [if_pos rfl,if_pos (by simp;omega),List.getElem?_append_right (by simp;omega),List.getElem?_drop,List.length_replicate]
    rw [show s - (i+1)+(s - 1 - i - (s - (i+1)))=s - 1 - i by omega,be_get s n i h]
  · rw [if_neg hj]
    rcases Nat.lt_or_ge j (s - (i+1)) with h1 | h1
    · rw [List.getElem?_append_left (by simp;omega),List.getElem?_append_left (by simp;omega),List.getElem?_replicate,List.getElem?_replicate,if_pos (by omega),if_pos h1]
    · rw [List.getElem?_append_right (by simp;omega),List.getElem?_append_right (by simp;omega),List.getElem?_drop,List.getElem?_drop,List.length_replicate,List.length_replicate]
      congr 1
      omega
end Go.Th
namespace Go.Proofs.YtjandnidljbkoaaGreat
open Go.RowKit Go.Th
def RetRow (w:World) (n:Nat) (bs:List UInt8) (er:Int) (e:Ending) (w':World):Prop :=
  ∃ A c,e=.returned (.tuple #[.slice A n c,.int .i64 er])∧OwS bv w' w.heap.size 5 A n c bs∧Below w.heap.size w w'
theorem sized_yes (s:Int) (w:World) (h1:1≤s) (h2:s≤4):Calls Tryz.prog 127 #[.int .i64 s] w fun e w'=>e=.returned (.bool true)∧w=w':=by
  go_enter Tryz.func127,Tryz.ntmps127
  go_wp2
  go_ret
  exact ⟨rfl,rfl⟩
theorem sized_no (s:Int) (w:World) (h:s < 1∨4 < s):Calls Tryz.prog 127 #[.int .i64 s] w fun e w'=>e=.returned (.bool false)∧w=w':=by
  rcases h with h | h
  · go_enter Tryz.func127,Tryz.ntmps127
    go_wp2
    go_ret
    exact ⟨rfl,rfl⟩
  · have h1:1≤s:=by omega
    go_enter Tryz.func127,Tryz.ntmps127
    go_wp2
    go_ret
    exact ⟨by simp;omega,rfl⟩
theorem put_byte (n:Int) (h3:0≤n) (i:Nat):bv (UInt8.ofNat (n.toNat / 256 ^ i))=.int .u8 (n / 2 ^ (8 * i) % 256):=by
  obtain ⟨m,rfl⟩:=Int.eq_ofNat_of_zero_le h3
  simp only [bv,Value.int.injEq,true_and,UInt8.toNat_ofNat',Int.toNat_natCast]
  have e3:(256:Nat) ^ i=2 ^ (8 * i):=by rw [Nat.pow_mul]
  rw [e3,Int.natCast_emod,Int.natCast_ediv,Int.natCast_pow]
  rfl
theorem put_yes (n:Int) (s:Nat) (w:World) (h1:1≤s) (h2:s≤4) (h3:0≤n) (h4:n.toNat < 256 ^ s) :
    Calls Tryz.prog 91 #[.int .i64 n,.int .i64 s] w (RetRow w s (be n.toNat s) 0):=by
  have hp:n < wrap64 (2 ^ (8 * s))∧n < 4294967296:=by
    have:s=1∨s=2∨s=3∨s=4:=by omega
    rcases this with rfl | rfl | rfl | rfl <;> simp [wrap64] at h4 ⊢ <;> omega
  obtain ⟨hp1,hp2⟩:=hp
  have hp3:¬ wrap64 (2 ^ (8 * s))≤n:=by omega
  clear h4
  go_enter Tryz.func91,Tryz.ntmps91
  go_wp2_with (first
    | (go_at_call 127;refine (sized_yes _ _ (by omega) (by omega)).mono ?_;rintro e w' ⟨rfl,rfl⟩)
    | (refine wl_makeS (base:=w.heap.size) rfl _ _ _ rfl el_u8 (f:=bv) 0 rfl s rfl rfl rfl rfl (by omega) (by omega) (Nat.le_refl _) ?_;intro g w1 hg how hb))
  have how0:OwS bv w1 w.heap.size 5 (some ⟨g,0,none⟩) s s (List.replicate (s - 0) 0 ++ (be n.toNat s).drop (s - 0)):=by
    rw [Nat.sub_zero,List.drop_eq_nil_of_le (by rw [be_length];omega),List.append_nil]
    exact how
  clear how
  go_loopw [25] (fun x wr=>∃ i:Nat,i≤s∧x=.int .i64 i∧OwS bv wr w.heap.size 5 (some ⟨g,0,none⟩) s s (List.replicate (s - i) 0 ++ (be n.toNat s).drop (s - i))∧Below w.heap.size w wr)
    (fun x _=>s - (intOf x).toNat)
  case atStart=>exact ⟨0,by omega,rfl,how0,hb⟩
  case round =>
    obtain ⟨i,hi,rfl,how,hb⟩:=hrel
    go_wp2_with (first
      | (refine wl_index_own rfl _ _ _ rfl Tryz.underlying22 size_u8 rfl rfl (by omega) (by omega) ?_)
      | (refine wl_setS rfl _ _ _ rfl size_u8 rfl rfl (UInt8.ofNat (n.toNat / 256 ^ i)) (put_byte n h3 i) how (by omega) ?_;intro w2 how2 hg2 hb2))
    · go_roundw
      case rel =>
        rw [show ((s:Int) - 1 - (i:Int)).toNat * 1=s - 1 - i by omega,be_fill n.toNat s i (by assumption)] at how2
        exact ⟨i+1,by omega,by go_num,how2,hb.trans hb2⟩
      case measure=>simp [intOf];omega
    · have e:i=s:=by omega
      subst e
      go_ret2
      rw [Nat.sub_self] at how
      exact ⟨_,_,rfl,how,hb⟩
theorem put_nat (n s:Nat) (w:World) (h1:1≤s) (h2:s≤4) (h4:n < 256 ^ s) :
    Calls Tryz.prog 91 #[.int .i64 n,.int .i64 s] w (RetRow w s (be n s) 0) :=
  put_yes n s w h1 h2 (by omega) h4
def RetNil (er:Int) (w:World) (e:Ending) (w':World):Prop:=e=.returned (.tuple #[.slice none 0 0,.int .i64 er])∧w=w'
theorem put_out (n:Int) (s:Nat) (w:World) (h1:1≤s) (h2:s≤4) (h:n < 0∨256 ^ s≤n):Calls Tryz.prog 91 #[.int .i64 n,.int .i64 s] w (RetNil 1 w):=by
  have hp:n < 0∨(0≤n∧wrap64 (2 ^ (8 * s))≤n):=by
    have:s=1∨s=2∨s=3∨s=4:=by omega
    rcases this with rfl | rfl | rfl | rfl <;> simp [wrap64] at h ⊢ <;> omega
  clear h
  rcases hp with hp | ⟨hp,hp'⟩
  · go_enter Tryz.func91,Tryz.ntmps91
    go_wp2_with (first
      | (go_at_call 127;refine (sized_yes _ _ (by omega) (by omega)).mono ?_;rintro e w' ⟨rfl,rfl⟩))
    go_ret2
    exact ⟨rfl,rfl⟩
  · go_enter Tryz.func91,Tryz.ntmps91
    go_wp2_with (first
      | (go_at_call 127;refine (sized_yes _ _ (by omega) (by omega)).mono ?_;rintro e w' ⟨rfl,rfl⟩))
    go_ret2
    exact ⟨rfl,rfl⟩
def RetNum (n er:Int) (w:World) (e:Ending) (w':World):Prop:=e=.returned (.tuple #[.int .i64 n,.int .i64 er])∧w=w'
theorem take_size (A:Option Addr) (n c:Nat) (s:Int) (w:World) (h:s < 1∨4 < s):Calls Tryz.prog 99 #[.slice A n c,.int .i64 s] w (RetNum 0 1 w):=by
  go_enter Tryz.func99,Tryz.ntmps99
  go_wp2_with (first
    | (go_at_call 127;refine (sized_no _ _ h).mono ?_;rintro e w' ⟨rfl,rfl⟩))
  go_ret2
  exact ⟨rfl,rfl⟩
theorem take_short (A:Option Addr) (n c:Nat) (s:Nat) (w:World) (h1:1≤s) (h2:s≤4) (h:n < s):Calls Tryz.prog 99 #[.slice A n c,.int .i64 s] w (RetNum 0 2 w):=by
  go_enter Tryz.func99,Tryz.ntmps99
  go_wp2_with (first
    | (go_at_call 127;refine (sized_yes _ _ (by omega) (by omega)).mono ?_;rintro e w' ⟨rfl,rfl⟩))
  go_ret2
  exact ⟨rfl,rfl⟩
theorem take_yes (A:Option Addr) (n c:Nat) (s:Nat) (w:World) (h1:1≤s) (h2:s≤4) (h:s≤n) (hm:n≤9223372036854775807) (B:Nat) (bs:List UInt8) (hr:RdS bv w B A n c bs) :
    Calls Tryz.prog 99 #[.slice A n c,.int .i64 s] w (RetNum (val (bs.take s)) 0 w):=by
  have hlen:=hr.len
  have Hlen:=Lib.hid hlen
  clear hlen
  go_enter Tryz.func99,Tryz.ntmps99
  go_wp2_with (first
    | (go_at_call 127;refine (sized_yes _ _ (by omega) (by omega)).mono ?_;rintro e w' ⟨rfl,rfl⟩))
  go_loop [4,15] (fun v x=>∃ i:Nat,i≤s∧x=.int .i64 i∧v=.int .i64 (val (bs.take i)))
    (fun _ x=>s - (intOf x).toNat)
  case atStart=>exact ⟨0,by omega,rfl,rfl⟩
  case round =>
    obtain ⟨i,hi,rfl,rfl⟩:=hrel
    by_cases hlt:i < s
    · have hv:(val (bs.take i):Int) < 16777216:=by
        have h5:=val_lt (bs.take i)
        have h6:256 ^ (bs.take i).length≤256 ^ 3:=Nat.pow_le_pow_right (by omega) (by rw [List.length_take];omega)
        have h7:256 ^ 3=16777216:=rfl
        omega
      go_wp2_with (first
        | (refine wl_at_b rfl _ _ _ rfl el_u8 rfl rfl (by omega) (by omega) hr ?_;intro p x hx hxl hc))
      have e1:=or_byte (val (bs.take i)) x.toNat (by omega) (by omega)
      have e2:val (bs.take (i+1))=val (bs.take i) * 256+x.toNat:=val_take_succ bs i x hx.out
      go_round
      case rel=>exact ⟨_,_,_,⟨i+1,by omega,by go_num,by rw [e2]⟩,by rw [e1],rfl,rfl⟩
      case measure=>simp [intOf];omega
    · go_wp2
      have e:i=s:=by omega
      subst e
      go_ret2
      exact ⟨rfl,rfl⟩
end Go.Proofs.YtjandnidljbkoaaGreat
