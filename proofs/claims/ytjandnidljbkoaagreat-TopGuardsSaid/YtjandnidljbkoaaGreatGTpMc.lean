/-
  Laid together by wip/tools/merge.py out of: NfTakePlain, NetMem, NetMay, NfPut, NfTake, NetFit, NfTakeN, NfTakeF, NfLaw, CfMa, CfMb. ! ### NfTakePlain ! ### NetMem ! ### NetMay ! ### NfPut ! ### NfTake ! ### NetFit ! ### NfTakeN ! ### NfTakeF ! ### NfLaw ! ### CfMa ! ### CfMb
-/
import Derived.Deep.DeepCutAuto
import Derived.Defers
import Derived.WalkKit
import Derived.WalkSpells
import Derived.WalkLawsBesides
import Derived.Deep.QuietTactic
import Derived.BigQuiet
import Derived.Laws.BytesArg
import Derived.Lib.ConvBytes
import Derived.Lib.Hide
import Derived.Outline
import Derived.Maps.AppendAt
import Derived.Laws.Rows
import Derived.Deep.MidRow
import Derived.Test.YtjandnidljbkoaaGreatProg
import Derived.KernelRfl
import Derived.Maps.OwnOps
import Derived.Maps.OwnSet
import Derived.Maps.Keyed
import Derived.Great.BuildSlice
import Derived.Test.YtjandnidljbkoaaGreatGTpMa
import Derived.Test.YtjandnidljbkoaaGreatGTpMb
set_option linter.unusedVariables false
namespace Go.Proofs.YtjandnidljbkoaaGreat
open Go.RowKit Go.Th
def rdr (bs:List UInt8):Ru × List UInt8 × Int:=if bs.length < 8 then (Ru.zero,[],2) else (rtk bs,bs.drop 8,0)
def goT {α:Type} (one:List UInt8→α × List UInt8 × Int):Nat→List α→List UInt8→List α × Int
  | 0,acc,bs=>if bs=[] then (acc,0) else ([],4)
  | n+1,acc,bs=>if (one bs).2.2≠0 then ([],(one bs).2.2) else goT one n (acc ++ [(one bs).1]) (one bs).2.1
def allT {α:Type} (one:List UInt8→α × List UInt8 × Int) (bound:Nat) (bs:List UInt8):List α × Int :=
  if (gtake bs).2.2≠0 then ([],(gtake bs).2.2) else if bound < (gtake bs).1 then ([],12) else goT one (gtake bs).1 [] (bs.drop (gtake bs).2.1)
def nodeT (bs:List UInt8):List Ru × List UInt8 × Int :=
  if (fopen 84 bs).2.2≠0 then ([],[],(fopen 84 bs).2.2)
  else if (allT rdr 4096 (fopen 84 bs).1).2≠0 then ([],[],(allT rdr 4096 (fopen 84 bs).1).2)
  else ((allT rdr 4096 (fopen 84 bs).1).1,(fopen 84 bs).2.1,0)
def netT (bs:List UInt8):List (List Ru) × Int:=allT nodeT 256 bs
def inT (bs:List UInt8):List (List Ru) × Int :=
  if (netT bs).2≠0 then ([],(netT bs).2) else if nmay (netT bs).1≠0 then ([],nmay (netT bs).1) else ((netT bs).1,0)
def ntk (bs:List UInt8):List (List Ru) × Int:=if (ftake 1179206193 bs).2≠0 then ([],(ftake 1179206193 bs).2) else inT (ftake 1179206193 bs).1
theorem goT_go {α:Type} {one:List UInt8→α × List UInt8 × Int} {n:Nat} {acc:List α} {bs:List UInt8} (h:(one bs).2.2=0):goT one (n+1) acc bs=goT one n (acc ++ [(one bs).1]) (one bs).2.1:=by
  rw [goT,if_neg (by simpa using h)]
theorem goT_stop {α:Type} {one:List UInt8→α × List UInt8 × Int} {n:Nat} {acc:List α} {bs:List UInt8} (h:(one bs).2.2≠0):goT one (n+1) acc bs=([],(one bs).2.2):=by
  rw [goT,if_pos h]
theorem goT_end {α:Type} {one:List UInt8→α × List UInt8 × Int} {acc:List α}:goT one 0 acc []=(acc,0):=by rw [goT,if_pos rfl]
theorem goT_more {α:Type} {one:List UInt8→α × List UInt8 × Int} {acc:List α} {bs:List UInt8} (h:bs≠[]):goT one 0 acc bs=([],4):=by rw [goT,if_neg h]
theorem goT_put {α:Type} {one:List UInt8→α × List UInt8 × Int} {put:α→List UInt8}:∀ (xs acc:List α) (t:List UInt8),(∀ x∈xs,∀ t,one (put x ++ t)=(x,t,0))→goT one xs.length acc (xs.flatMap put ++ t)=if t=[] then (acc ++ xs,0) else ([],4)
  | [],acc,t,_=>by simp [goT]
  | x :: xs,acc,t,h=>by
    have e:(x :: xs).flatMap put ++ t=put x ++ (xs.flatMap put ++ t):=by simp
    rw [e,List.length_cons,goT_go (by rw [h x (by simp)]),h x (by simp),goT_put xs _ t (fun y hy=>h y (by simp [hy]))]
    simp
theorem goT_back {α:Type} {one:List UInt8→α × List UInt8 × Int} {put:α→List UInt8} {ok:α→Prop} (hone:∀ bs,(one bs).2.2=0→bs=put (one bs).1 ++ (one bs).2.1∧ok (one bs).1) :
    ∀ (n:Nat) (acc:List α) (bs:List UInt8),(goT one n acc bs).2=0→∃ xs,(goT one n acc bs).1=acc ++ xs∧xs.length=n∧bs=xs.flatMap put∧∀ x∈xs,ok x
  | 0,acc,bs,h=>by
    by_cases hb:bs=[]
    · subst hb
      exact ⟨[],by simp [goT],rfl,rfl,by simp⟩
    · rw [goT_more hb] at h
      cases h
  | n+1,acc,bs,h=>by
    by_cases h1:(one bs).2.2=0
    · rw [goT_go h1] at h ⊢
      obtain ⟨xs,hx,hl,hb,ho⟩:=goT_back hone n _ _ h
      obtain ⟨h3,h4⟩:=hone bs h1
      refine ⟨(one bs).1 :: xs,by rw [hx];simp,by simp [hl],?_,?_⟩
      · conv=>lhs;rw [h3,hb]
        simp
      · intro x hx
        rcases List.mem_cons.1 hx with rfl | hx
        · exact h4
        · exact ho x hx
    · rw [goT_stop h1] at h
      exact absurd h h1
theorem allT_err {α:Type} {one:List UInt8→α × List UInt8 × Int} {b:Nat} {bs:List UInt8} (h:(gtake bs).2.2≠0):allT one b bs=([],(gtake bs).2.2):=if_pos h
theorem allT_many {α:Type} {one:List UInt8→α × List UInt8 × Int} {b:Nat} {bs:List UInt8} (h:(gtake bs).2.2=0) (h2:b < (gtake bs).1):allT one b bs=([],12):=by
  unfold allT
  rw [if_neg (by simpa using h),if_pos h2]
theorem allT_go {α:Type} {one:List UInt8→α × List UInt8 × Int} {b:Nat} {bs:List UInt8} (h:(gtake bs).2.2=0) (h2:¬ b < (gtake bs).1):allT one b bs=goT one (gtake bs).1 [] (bs.drop (gtake bs).2.1):=by
  unfold allT
  rw [if_neg (by simpa using h),if_neg h2]
theorem goT_len {α:Type} {one:List UInt8→α × List UInt8 × Int}:∀ (n:Nat) (acc:List α) (bs:List UInt8),(goT one n acc bs).1.length≤acc.length+n
  | 0,acc,bs=>by
    rw [goT]
    split <;> simp
  | n+1,acc,bs=>by
    rw [goT]
    split
    · simp
    · have:=goT_len (one:=one) n (acc ++ [(one bs).1]) (one bs).2.1
      simp at this
      omega
theorem goT_all {α:Type} {one:List UInt8→α × List UInt8 × Int} {P:α→Prop} (h:∀ bs,P (one bs).1):∀ (n:Nat) (acc:List α) (bs:List UInt8),(∀ x∈acc,P x)→∀ x∈(goT one n acc bs).1,P x
  | 0,acc,bs,ha=>by
    rw [goT]
    split
    · exact ha
    · simp
  | n+1,acc,bs,ha=>by
    rw [goT]
    split
    · simp
    · refine goT_all h n _ _ fun x hx=>?_
      rcases List.mem_append.1 hx with hx | hx
      · exact ha x hx
      · rw [List.mem_singleton.1 hx];exact h bs
theorem allT_len {α:Type} {one:List UInt8→α × List UInt8 × Int} (b:Nat) (bs:List UInt8):(allT one b bs).1.length≤b:=by
  unfold allT
  split
  · simp
  · split
    · simp
    · have:=goT_len (one:=one) (gtake bs).1 [] (bs.drop (gtake bs).2.1)
      simp at this
      omega
theorem allT_all {α:Type} {one:List UInt8→α × List UInt8 × Int} {P:α→Prop} (h:∀ bs,P (one bs).1) (b:Nat) (bs:List UInt8):∀ x∈(allT one b bs).1,P x:=by
  unfold allT
  split
  · simp
  · split
    · simp
    · exact goT_all h _ _ _ (by simp)
theorem rtk_ok (bs:List UInt8):(rtk bs).Ok:=by
  have h0:0≤(rtk bs).a∧(rtk bs).a < 4294967296:=fit1_rtk bs 0 (by omega)
  have h1:0≤(rtk bs).n∧(rtk bs).n < 256:=fit1_rtk bs 1 (by omega)
  have h2:0≤(rtk bs).act∧(rtk bs).act < 256:=fit1_rtk bs 2 (by omega)
  have h3:0≤(rtk bs).next∧(rtk bs).next < 65536:=fit1_rtk bs 3 (by omega)
  exact ⟨⟨h0.1,by omega⟩,⟨by omega,by omega⟩,⟨by omega,by omega⟩,⟨by omega,by omega⟩⟩
theorem zero_ok:Ru.zero.Ok:=⟨by decide,by decide,by decide,by decide⟩
theorem zero_fit:∀ j,j < 4→Fit1 Ru.zero j:=by
  intro j hj
  have:j=0∨j=1∨j=2∨j=3:=by omega
  rcases this with rfl | rfl | rfl | rfl <;> exact ⟨by decide,by decide⟩
theorem rdr_fit (bs:List UInt8):(rdr bs).1.Ok∧∀ j,j < 4→Fit1 (rdr bs).1 j:=by
  unfold rdr
  split
  · exact ⟨zero_ok,zero_fit⟩
  · exact ⟨rtk_ok bs,fit1_rtk bs⟩
theorem rdr_back {bs:List UInt8} (h:(rdr bs).2.2=0):bs=pre (rdr bs).1 4 ++ (rdr bs).2.1:=by
  unfold rdr at h ⊢
  split at h
  · cases h
  · rename_i h8
    rw [if_neg h8]
    simp only
    rw [pre_rtk (by omega),List.take_append_drop]
theorem rdr_put (r:Ru) (h:∀ j,j < 4→Fit1 r j) (t:List UInt8):rdr (pre r 4 ++ t)=(r,t,0):=by
  unfold rdr
  rw [if_neg (by rw [List.length_append,pre_length];omega),rtk_pre r h,List.drop_left' (pre_length r)]
theorem rdr_le (bs:List UInt8):(rdr bs).2.1.length≤bs.length:=by
  unfold rdr
  split
  · simp
  · rw [List.length_drop];omega
theorem fopen_le (t:UInt8) (bs:List UInt8):(fopen t bs).1.length≤bs.length∧(fopen t bs).2.1.length≤bs.length:=by
  cases bs with
  | nil=>exact ⟨Nat.le_refl _,Nat.le_refl _⟩
  | cons b r =>
    rw [fopen_cons]
    split
    · split
      · split
        · simp
        · simp only [List.length_take,List.length_drop,List.length_cons];omega
      · simp
    · simp
theorem nodeT_le (bs:List UInt8):(nodeT bs).2.1.length≤bs.length:=by
  unfold nodeT
  split
  · simp
  · split
    · simp
    · exact (fopen_le 84 bs).2
theorem nodeT_fit (bs:List UInt8):∀ r∈(nodeT bs).1,r.Ok∧∀ j,j < 4→Fit1 r j:=by
  unfold nodeT
  split
  · simp
  · split
    · simp
    · exact allT_all rdr_fit _ _
end Go.Proofs.YtjandnidljbkoaaGreat
namespace Go.Th
open Go.RowKit
structure Nd where
  A:Option Addr
  n:Nat
  c:Nat
  l:List Ru
def sv (x:Nd):Value:=.slice x.A x.n x.c
theorem sv_one (x:Nd):(sv x).oneCell' = true:=rfl
theorem Ow.type {w:World} {b e k n c g:Nat} {A:Option Addr} {xs:List Value} (h:Ow w b e k A n c xs) (hA:A=some ⟨g,0,none⟩):∃ cur fz,w.heap[g]? = some (.cells cur e fz):=by
  rcases h.own.2 with ⟨hv,_⟩ | ⟨g',cap,cur,hv,_,hg,_⟩
  · subst hA;cases hv
  · subst hA
    injection hv with hv
    injection hv with hv
    injection hv with hv
    subst hv
    exact ⟨_,_,hg⟩
theorem Ow.apart {w:World} {b e k n c b' e' k' n' c':Nat} {A A':Option Addr} {xs xs':List Value} (h:Ow w b e k A n c xs) (h':Ow w b' e' k' A' n' c' xs') (hne:e≠e'):∀ g,A=some ⟨g,0,none⟩→rowOf A'≠some g:=by
  intro g hA hr
  obtain ⟨cur,fz,h1⟩:=h.type hA
  rcases h'.form with ⟨e2,_⟩ | ⟨g',e2,_⟩
  · subst e2;cases hr
  · have:g' = g:=by subst e2;simpa [rowOf] using hr
    subst this
    obtain ⟨cur',fz',h2⟩:=h'.type e2
    rw [h1] at h2
    injection h2 with h2
    injection h2 with _ h2
    exact hne h2
theorem El.m {P:Program} {t E:TypeId} {z:Value} {bytes:Nat} (el:El P t E z bytes):ElM P t E z bytes 1:=⟨el.ht,el.info,by rw [el.cells];rfl,el.size,by omega⟩
def one1 {α:Type} (f:α→Value) (x:α):List Value:=[f x]
theorem one1_len {α:Type} (f:α→Value) (x:α):(one1 f x).length=1:=rfl
theorem flat_one1 {α:Type} (f:α→Value):∀ xs:List α,xs.flatMap (one1 f)=xs.map f
  | []=>rfl
  | x :: xs=>by rw [List.flatMap_cons,List.map_cons,flat_one1 f xs];rfl
theorem RdS.m {α:Type} {f:α→Value} {w:World} {B n c:Nat} {A:Option Addr} {xs:List α} (h:RdS f w B A n c xs):RdM (one1 f) w B A n c xs:=⟨by rw [flat_one1];exact h.rd,h.len,h.cap⟩
section
variable {P:Program} {ops:Array Oper} {rest:List Oper} {o:Oper} {a:Act} {C:World→Prop} {Q:Act→Prop} {α:Type} {f:α→List Value} {k:Nat}
theorem wqk_at (hf:∀ x,(f x).length=k) (hw:Region.wanted o (yielded ops a.tmps)=true) (T:TypeId) (s i:Operand) (ho:o.op=.indexAddr T s i) {E bytes:Nat} {z:Value} (el:ElM P T E z bytes k)
    {A:Option Addr} {n c:Nat} {kk:IntKind} {I:Int} (hs:a.eval s=.slice A n c) (hi:a.eval i=.int kk I) (h0:0≤I) (h1:I < n) {w0:World} (hC0:C w0)
    {B:Nat} {xs:List α} (hr:∀ w,C w→RdM f w B A n c xs)
    (h:∀ (b j:Nat) (x:α),Hid (xs[I.toNat]? = some x)→Hid (∀ w,C w→∀ i v,(f x)[i]? = some v→w.cell? ⟨b,j+i,none⟩=some v)→wpQuiet P ops C Q rest (a.put o.dst (.pointer (some ⟨b,j,none⟩)))) :
    wpQuiet P ops C Q (o :: rest) a:=by
  have hl:I.toNat < xs.length:=by have:=(hr w0 hC0).len;omega
  obtain ⟨b,off,hA,hb,hc⟩:=(hr w0 hC0).cells hf (List.getElem?_eq_getElem hl) el.pos
  subst hA
  refine wq_run hw (v:=.pointer (some ⟨b,off+I.toNat * k,none⟩)) (fun w hC=>?_) ?_
  · have:=run_indexAt (P:=P) (w:=w) T el.ht (el.size w) ⟨b,off,none⟩ n c kk I h0 h1
    rw [Addr.add_lit] at this
    simp only [execOp,ho,hs,hi,Sem.run_bind,this,Result.andThen,Sem.run_pure]
  · refine h b _ xs[I.toNat] (List.getElem?_eq_getElem hl) fun w hC=>?_
    obtain ⟨b',off',hA',_,hc'⟩:=(hr w hC).cells hf (List.getElem?_eq_getElem hl) el.pos
    injection hA' with hA'
    injection hA' with e1 e2
    subst e1 e2
    exact hc'
theorem wqn_at (hw:Region.wanted o (yielded ops a.tmps)=true) (T:TypeId) (s i:Operand) (ho:o.op=.indexAddr T s i) {E bytes:Nat} {z:Value} (el:El P T E z bytes)
    {A:Option Addr} {n c:Nat} {kk:IntKind} {I:Int} (hs:a.eval s=.slice A n c) (hi:a.eval i=.int kk I) (h0:0≤I) (h1:I < n) {w0:World} (hC0:C w0)
    {B:Nat} {xs:List Nd} (hr:∀ w,C w→RdS sv w B A n c xs)
    (h:∀ (b j:Nat) (x:Nd),Hid (xs[I.toNat]? = some x)→Hid (∀ w,C w→w.cell? ⟨b,j,none⟩=some (.slice x.A x.n x.c))→wpQuiet P ops C Q rest (a.put o.dst (.pointer (some ⟨b,j,none⟩)))) :
    wpQuiet P ops C Q (o :: rest) a :=
  wqk_at (one1_len sv) hw T s i ho el.m hs hi h0 h1 hC0 (fun w hC=>(hr w hC).m) fun b j x hx hc=>h b j x hx (Lib.hid fun w hC=>hc.out w hC 0 _ rfl)
end
section
variable {P:Program} {ops:Array Oper} {rest:List Oper} {o:Oper} {a:Act} {Q:Exit→Act→World→Prop} {w:World}
theorem wn_at (hw:Region.wanted o (yielded ops a.tmps)=true) (T:TypeId) (s i:Operand) (ho:o.op=.indexAddr T s i) {E bytes:Nat} {z:Value} (el:El P T E z bytes)
    {A:Option Addr} {n c:Nat} {kk:IntKind} {I:Int} (hs:a.eval s=.slice A n c) (hi:a.eval i=.int kk I) (h0:0≤I) (h1:I < n)
    {B:Nat} {xs:List Nd} (hr:RdS sv w B A n c xs)
    (h:∀ (b j:Nat) (x:Nd),Hid (xs[I.toNat]? = some x)→b < B→w.cell? ⟨b,j,none⟩=some (.slice x.A x.n x.c)→wpList P ops Q rest (a.put o.dst (.pointer (some ⟨b,j,none⟩))) w) :
    wpList P ops Q (o :: rest) a w :=
  wm_at (one1_len sv) hw T s i ho el.m hs hi h0 h1 hr.m fun b j x hx hb hc=>h b j x hx hb (hc.out 0 _ rfl)
end
structure NRd (w:World) (B:Nat) (A:Option Addr) (n c:Nat) (ns:List Nd):Prop where
  rd:RdS sv w B A n c ns
  rk:∀ x∈ns,RdM Ru.cs w B x.A x.n x.c x.l
  ok:∀ x∈ns,∀ r∈x.l,r.Ok
section
variable {w w':World} {B B' n c:Nat} {A:Option Addr} {ns:List Nd}
theorem NRd.step (h:NRd w B A n c ns) (hb:Below w.heap.size w w'):NRd w' B A n c ns:=⟨h.rd.step hb,fun x hx=>(h.rk x hx).step hb,h.ok⟩
theorem NRd.below (h:NRd w B A n c ns) (hb:Below B w w'):NRd w' B A n c ns:=⟨h.rd.below hb,fun x hx=>(h.rk x hx).below hb,h.ok⟩
theorem NRd.more (h:NRd w B A n c ns) (hB:B≤B'):NRd w B' A n c ns:=⟨h.rd.more hB,fun x hx=>(h.rk x hx).more hB,h.ok⟩
theorem NRd.heap (h:NRd w B A n c ns):NRd w w.heap.size A n c ns:=⟨h.rd.heap,fun x hx=>(h.rk x hx).heap,h.ok⟩
theorem NRd.nil (w:World) (B:Nat):NRd w B none 0 0 []:=⟨RdS.nil _ _,by simp,by simp⟩
theorem NRd.len (h:NRd w B A n c ns):ns.length=n:=h.rd.len
end
structure NO (e0 e1:Nat) (w:World) (base:Nat) (A:Option Addr) (n c:Nat) (ns:List Nd):Prop where
  row:OwS sv w base e0 A n c ns
  rk:∀ x∈ns,OwM Ru.cs 4 w base e1 x.A x.n x.c x.l
  ok:∀ x∈ns,∀ r∈x.l,r.Ok
section
variable {e0 e1:Nat} {w w':World} {base base' n c:Nat} {A:Option Addr} {ns:List Nd}
theorem NO.nil (w:World) (base:Nat):NO e0 e1 w base none 0 0 []:=⟨OwS.nil_ _ _ _,by simp,by simp⟩
theorem NO.rd (h:NO e0 e1 w base A n c ns):NRd w w.heap.size A n c ns:=⟨h.row.rd,fun p hp=>(h.rk p hp).rd,h.ok⟩
theorem NO.base_le (h:NO e0 e1 w base A n c ns) (hb:base'≤base):NO e0 e1 w base' A n c ns:=⟨h.row.base_le hb,fun p hp=>(h.rk p hp).base_le hb,h.ok⟩
theorem NO.below (h:NO e0 e1 w base A n c ns) (hb:Below w.heap.size w w'):NO e0 e1 w' base A n c ns:=⟨h.row.below hb,fun p hp=>(h.rk p hp).below hb,h.ok⟩
theorem NO.grown {row:Option Nat} (h:NO e0 e1 w base A n c ns) (hg:w.grownBy w' row) (hr:∀ k,row=some k→k < base):NO e0 e1 w' base A n c ns :=
  ⟨h.row.grown hg (fun g' hA e=>by have:=h.row.ow.row_ge g' (by rw [hA];rfl);have:=hr g' e;omega),fun p hp=>(h.rk p hp).grown hg (fun g' hA e=>by have:=(h.rk p hp).ow.row_ge g' (by rw [hA];rfl);have:=hr g' e;omega),h.ok⟩
theorem NO.more {A':Option Addr} {c':Nat} {x:Nd} (hne:e1≠e0) (h:NO e0 e1 w base A n c ns) (hx:OwM Ru.cs 4 w base e1 x.A x.n x.c x.l) (hok:∀ r∈x.l,r.Ok) (hg:w.grownBy w' (rowOf A)) (ho:OwS sv w' base e0 A' (n+1) c' (ns ++ [x])):NO e0 e1 w' base A' (n+1) c' (ns ++ [x]):=by
  have key:∀ q:Nd,OwM Ru.cs 4 w base e1 q.A q.n q.c q.l→OwM Ru.cs 4 w' base e1 q.A q.n q.c q.l:=fun q hq=>hq.grown hg (fun g hA e=>hq.ow.apart h.row.ow hne g hA e)
  refine ⟨ho,fun q hq=>?_,fun q hq=>?_⟩
  · rcases List.mem_append.1 hq with hq | hq
    · exact key q (h.rk q hq)
    · rw [List.mem_singleton.1 hq];exact key x hx
  · rcases List.mem_append.1 hq with hq | hq
    · exact h.ok q hq
    · rw [List.mem_singleton.1 hq];exact hok
end
def Nd.ls (ns:List Nd):List (List Ru):=ns.map Nd.l
theorem Nd.ls_get {ns:List Nd} {k:Nat} {x:Nd} (h:ns[k]? = some x):(Nd.ls ns)[k]? = some x.l:=by unfold Nd.ls;rw [List.getElem?_map,h];rfl
theorem Nd.ls_len (ns:List Nd):(Nd.ls ns).length=ns.length:=by simp [Nd.ls]
end Go.Th
namespace Go.Proofs.YtjandnidljbkoaaGreat
open Go.Th
theorem info_row:(Tryz.prog.info? 50).map (fun i=>(i.zero,i.size,i.bytes))=some (some (.slice none 0 0),1,24):=by kernel_rfl
theorem size_row (w:World):(sizeOf 50).run Tryz.prog w=.ok 1 w:=by kernel_rfl
theorem el_row:El Tryz.prog 32 50 (.slice none 0 0) 24:=⟨Tryz.underlying32,info_parts info_row,rfl,size_row⟩
theorem ty_rows:52≠50:=by decide
theorem st_net:St Tryz.prog 34 1:=⟨⟨_,Tryz.underlying34⟩,by kernel_rfl⟩
open Go.RowKit Go.Th
def NszRel (ns:List Nd) (n:Nat) (w:World) (s i:Value) (wr:World):Prop :=
  ∃ k:Nat,k≤n∧i=.int .i64 k∧s=.int .i64 (nsize ((Nd.ls ns).take k))∧Below w.heap.size w wr
set_option maxRecDepth 100000 in
set_option maxHeartbeats 2000000 in
theorem netsize_any (A:Option Addr) (n c:Nat) (ns:List Nd) (w:World) (hn:n≤4000000) (hs:nsize (Nd.ls ns)≤4000000) (B:Nat) (hr:NRd w B A n c ns) :
    Calls Tryz.prog 81 #[.agg #[.slice A n c]] w (RetB (.int .i64 (nsize (Nd.ls ns))) w):=by
  go_enter Tryz.func81,Tryz.ntmps81
  go_wp2
  go_loopw [3,9] (fun s i wr=>NszRel ns n w s i wr) (fun _ i _=>n - (intOf i).toNat)
  case atStart=>exact ⟨0,by omega,rfl,rfl,(by repeat (first | exact Below.refl _ _ | refine Below.drew ?_ | refine Below.alloc ?_ (by first | (simp;done) | (simp;omega)) _ | refine Below.setCell ?_ (by first | (simp;done) | (simp;omega)) _ | assumption))⟩
  case round =>
    obtain ⟨k,hk,rfl,rfl,hb⟩:=hrel
    have hrk:=hr.step hb
    have hlen:=hrk.len
    by_cases hlt:k < n
    · obtain ⟨x,hx⟩:∃ x,ns[k]? = some x:=⟨ns[k]'(by omega),List.getElem?_eq_getElem _⟩
      have hst:=nsize_take (Nd.ls_get hx)
      have h1:=nsize_take_le (Nd.ls ns) (k+1)
      have hxl:=(hrk.rk x (List.mem_of_getElem? hx)).len
      obtain ⟨a,ha⟩:∃ a,nsize ((Nd.ls ns).take k)=a:=⟨_,rfl⟩
      rw [ha] at hst ⊢
      have hab:a+x.n≤4000000:=by omega
      have Hst:=Lib.hid hst
      have Hx:=Lib.hid hx
      have Hxl:=Lib.hid hxl
      clear hst h1 ha hx hlen hxl
      go_wp2_with ((with_reducible refine on_index (.tmp 7) ?_);refine wn_at rfl _ (.tmp 7) _ rfl el_row rfl rfl (by omega) (by omega) hrk.rd ?_;intro b j y hy hbB hc;have hxx:x=y:=(by have e:=hy.out;rw [Int.toNat_natCast,Hx.out] at e;injection e);subst hxx)
      go_roundw
      case rel=>exact ⟨k+1,by omega,by go_num,by rw [Hst.out,Hxl.out];simp,hb⟩
      case measure=>simp [intOf];omega
    · obtain rfl:k=n:=by omega
      go_wp2
      go_ret
      refine ⟨?_,hb⟩
      rw [List.take_of_length_le (by rw [Nd.ls_len];omega)]
      rfl
def NmayRel (ns:List Nd) (n:Nat) (w:World) (i:Value) (wr:World):Prop :=
  ∃ k:Nat,k≤n∧i=.int .i64 k∧Hid (nmayGo n (Nd.ls ns)=nmayGo n ((Nd.ls ns).drop k))∧Below w.heap.size w wr
set_option maxRecDepth 100000 in
set_option maxHeartbeats 2000000 in
theorem netmay_any (A:Option Addr) (n c:Nat) (ns:List Nd) (w:World) (hn:n≤4000000) (hs:nsize (Nd.ls ns)≤4000000) (B:Nat) (hr:NRd w B A n c ns) (e:Int) (he:nmay (Nd.ls ns)=e) :
    Calls Tryz.prog 32 #[.agg #[.slice A n c]] w (RetB (.int .i64 e) w):=by
  have hlen:=hr.len
  have k0:=below_alloc w (Nat.le_refl _) (.cells #[.slice A n c] 34)
  have hr0:=hr.step k0
  have He:=Lib.hid he
  clear he
  go_enter Tryz.func32,Tryz.ntmps32
  by_cases hbig:256 < n∨4096 < nsize (Nd.ls ns)
  · have he:=He.out
    unfold nmay at he
    rw [Nd.ls_len,hlen,if_pos hbig] at he
    subst he
    by_cases h1:256 < n
    · have hd:decide ((256:Int) < (n:Int))=true:=decide_eq_true (by omega)
      go_wp2
      go_ret
      exact ⟨rfl,k0⟩
    · have h2:4096 < nsize (Nd.ls ns):=by omega
      have hd:decide ((256:Int) < (n:Int))=false:=decide_eq_false (by omega)
      have hd2:decide ((4096:Int) < (nsize (Nd.ls ns):Int))=true:=decide_eq_true (by omega)
      clear hbig h1 h2
      go_wp2_with (go_at_call 81;refine (netsize_any A n c ns _ hn hs B hr0).mono ?_;rintro e w1 ⟨rfl,hb1⟩)
      go_ret
      exact ⟨rfl,k0.trans (hb1.mono k0.size)⟩
  · have he:=He.out
    unfold nmay at he
    rw [Nd.ls_len,hlen,if_neg hbig] at he
    have He2:=Lib.hid he
    have hd:decide ((256:Int) < (n:Int))=false:=decide_eq_false (by omega)
    have hd2:decide ((4096:Int) < (nsize (Nd.ls ns):Int))=false:=decide_eq_false (by omega)
    clear he He
    have bx0:=Box.new w #[.slice A n c] 34
    go_wp2_with (go_at_call 81;refine (netsize_any A n c ns _ hn hs B hr0).mono ?_;rintro e1 w1 ⟨rfl,hb1⟩;have bx1:=bx0.step hb1;have y1:w1.cell? ⟨w.heap.size,0,none⟩=some (.slice A n c):=bx1.cell 0)
    have k1:=k0.trans (hb1.mono k0.size)
    clear hbig hd hd2 hb1 hr0 k0 bx0
    go_loopw [18] (fun i wr=>NmayRel ns n w1 i wr) (fun i _=>n - (intOf i).toNat)
    case atStart=>exact ⟨0,by omega,rfl,Lib.hid rfl,Below.refl _ _⟩
    case round =>
      obtain ⟨k,hk,rfl,hgo,hb⟩:=hrel
      have hrk:=(hr.step k1).step hb
      have yk:wr.cell? ⟨w.heap.size,0,none⟩=some (.slice A n c):=(bx1.step hb).cell 0
      have kk:=k1.trans (hb.mono k1.size)
      clear bx1 y1
      by_cases hlt:k < n
      · obtain ⟨x,hx⟩:∃ x,ns[k]? = some x:=⟨ns[k]'(by omega),List.getElem?_eq_getElem _⟩
        have hxm:=List.mem_of_getElem? hx
        have hxr:=hrk.rk x hxm
        have hxl:=hxr.len
        have hle:x.l.length≤nsize (Nd.ls ns):=len_le_nsize (List.mem_map.2 ⟨x,hxm,rfl⟩)
        have hxn:x.n≤4000000:=by omega
        have K:=Lib.hid (fun W (h:wr=W)=>tmay_any x.A x.n x.c x.l n W (by omega) B (h ▸ hxr) (hrk.ok x hxm))
        obtain ⟨t,ht⟩:∃ t,tmay x.l n=t:=⟨_,rfl⟩
        rw [ht] at K
        have Hx:=Lib.hid hx
        have Ht:=Lib.hid ht
        clear hx hxm hxr hxl hle ht
        by_cases h0:t=0
        · subst h0
          go_wp2_with (first
            | ((with_reducible refine on_index (.tmp 16) ?_);refine wn_at rfl _ (.tmp 16) _ rfl el_row rfl rfl (by omega) (by omega) hrk.rd ?_;intro b j y hy hbB hc;have hxx:x=y:=(by have e:=hy.out;rw [Int.toNat_natCast,Hx.out] at e;injection e);subst hxx)
            | (go_at_call 82;refine (K.out _ rfl).mono ?_;rintro e2 w2 ⟨rfl,hb2⟩))
          go_roundw
          case rel=>exact ⟨k+1,by omega,by go_num,Lib.hid (by rw [hgo.out];exact nmayGo_ok (Nd.ls_get Hx.out) Ht.out),hb.trans (hb2.mono hb.size)⟩
          case measure=>simp [intOf];omega
        · have ht1:(t != 0)=true:=by simpa using h0
          have hgo2:nmayGo n (Nd.ls ns)=t:=by rw [hgo.out,nmayGo_bad (Nd.ls_get Hx.out) (by rw [Ht.out];exact h0)];exact Ht.out
          rw [He2.out] at hgo2
          subst hgo2
          go_wp2_with (first
            | ((with_reducible refine on_index (.tmp 16) ?_);refine wn_at rfl _ (.tmp 16) _ rfl el_row rfl rfl (by omega) (by omega) hrk.rd ?_;intro b j y hy hbB hc;have hxx:x=y:=(by have e:=hy.out;rw [Int.toNat_natCast,Hx.out] at e;injection e);subst hxx)
            | (go_at_call 82;refine (K.out _ rfl).mono ?_;rintro e2 w2 ⟨rfl,hb2⟩))
          go_ret
          exact ⟨rfl,kk.trans (hb2.mono kk.size)⟩
      · obtain rfl:k=n:=by omega
        have he:e=0:=by
          rw [← He2.out,hgo.out,List.drop_eq_nil_of_le (by rw [Nd.ls_len];omega)]
          rfl
        subst he
        go_wp2
        go_ret
        exact ⟨rfl,kk⟩
open Go.RowKit Go.Th
theorem z_rule:(Tryz.prog.info? 52).map (fun i=>(i.zero.map Value.cells,i.size))=some (some Ru.zero.cs.toArray,4):=by kernel_rfl
def RFit (r:Ru):Prop:=r.Ok∧∀ j,j < 4→Fit1 r j
def PrRel (l:List Ru) (n:Nat) (w:World) (all i:Value) (wr:World):Prop :=
  ∃ (k m c:Nat) (A:Option Addr),k≤n∧i=.int .i64 k∧all=.slice A m c∧OwS bv wr w.heap.size 5 A m c (gput n ++ lrows (l.take k))∧Below w.heap.size w wr
set_option maxRecDepth 100000 in
set_option maxHeartbeats 4000000 in
theorem putRules_any (A:Option Addr) (n c:Nat) (l:List Ru) (w:World) (hn:n≤100000) (B:Nat) (hr:RdM Ru.cs w B A n c l) (hf:∀ r∈l,RFit r) (bs:List UInt8) (hbs:lbody l=bs) :
    Calls Tryz.prog 122 #[.slice A n c,.func (.func 123) #[] #[]] w (RetBytes bs 0 w):=by
  have hlen:=hr.len
  have Hf:=Lib.hid hf
  have Hbs:=Lib.hid hbs
  clear hf hbs
  go_enter Tryz.func122,Tryz.ntmps122
  go_wp2_with (go_at_call 121;refine (gput_natF n (by omega) w).mono ?_;rintro e w1 ⟨A1,c1,rfl,ow1,hb1⟩)
  go_loopw [6,23] (fun all i wr=>PrRel l n w all i wr) (fun _ i _=>n - (intOf i).toNat)
  case atStart=>exact ⟨0,_,c1,A1,by omega,rfl,rfl,by simpa [lrows] using ow1,hb1⟩
  case round =>
    obtain ⟨k,m,c2,A2,hk,rfl,rfl,ow,hb⟩:=hrel
    have hrk:=hr.step hb
    have hml:=ow.len
    have hm2:m≤900000:=by
      have h1:=lrows_length (l.take k)
      have h2:(l.take k).length≤n:=by rw [List.length_take];omega
      have h3:=gsize_pos n
      rw [List.length_append,gput_length] at hml
      omega
    have hz:=hb.size
    clear hml hb1 ow1
    by_cases hlt:k < n
    · obtain ⟨r,hrk0⟩:∃ r,l[k]? = some r:=⟨l[k]'(by omega),List.getElem?_eq_getElem _⟩
      obtain ⟨hok,hfi⟩:=Hf.out r (List.mem_of_getElem? hrk0)
      have htk:=lrows_take hrk0
      have Hput:=Lib.hid (fun W=>put_fits r hok.a hfi (pre r 4) rfl W)
      have Htk:=Lib.hid htk
      have Hrk:=Lib.hid hrk0
      clear htk hrk0 hfi hok
      go_wp2_with (first
        | ((with_reducible refine on_index (.tmp 21) ?_);refine wm_at Ru.cs_length rfl _ (.tmp 21) _ rfl el_rule rfl rfl (by omega) (by omega) hrk ?_;intro b1 j1 r1 hr1 hb1 hc1;have hxx:r=r1:=(by have e:=hr1.out;rw [Int.toNat_natCast,Hrk.out] at e;injection e);subst hxx)
        | ((with_reducible refine on_load (.tmp 25) ?_);refine wr_load rfl _ _ rfl st_rule rfl hc1 ?_)
        | ((with_reducible refine on_load (.tmp 9) ?_);refine wr_box rfl _ _ rfl st_rule rfl b4 ?_)
        | ((with_reducible refine on_alloc ?_);refine wl_newBox rfl _ rfl z_rule ?_;intro g3 w3 hg3 hl3 b3 hb3)
        | ((with_reducible refine on_store_at (.tmp 9) ?_);refine wr_store (r:=Ru.zero) (s:=r) rfl _ (.tmp 9) _ rfl st_rule rfl rfl b3 ?_;intro w4 b4 hg4;have B4:Below wr.heap.size wr w4:=hb3.trans (below_of_grown hg4 (fun j e=>by injection e with e;omega) hb3.size))
        | (go_at_call 123;refine (Hput.out w4).mono ?_;rintro e w5 ⟨A5,c5,rfl,ow5,hb5⟩;have ow4:=(ow.below B4).below hb5)
        | ((with_reducible refine on_append (.tmp 36) (.tmp 37) ?_);refine wl_appendS rfl (.tmp 36) (.tmp 37) _ rfl el_u8 (f:=bv) (fun _=>rfl) rfl ow4 rfl ow5.rd (by omega) (by omega) (by have:=B4.size;have:=hb5.size;omega) ?_;intro A6 c6 w6 ow6 hg6 hb6))
      go_roundw
      case rel=>exact ⟨k+1,_,c6,A6,by omega,by go_num,rfl,by rw [Htk.out,← List.append_assoc];exact ow6,(hb.trans ((B4.trans (hb5.mono B4.size)).mono hz)).trans hb6⟩
      case measure=>simp [intOf];omega
    · obtain rfl:k=n:=by omega
      go_wp2
      go_ret2
      refine ⟨A2,m,c2,rfl,?_,hb⟩
      rw [List.take_of_length_le (by omega)] at ow
      rw [← Hbs.out]
      unfold lbody
      rw [hlen]
      exact ow
set_option maxRecDepth 100000 in
set_option maxHeartbeats 4000000 in
theorem putNode_any (A:Option Addr) (n c:Nat) (l:List Ru) (w:World) (hn:n≤100000) (B:Nat) (hr:RdM Ru.cs w B A n c l) (hf:∀ r∈l,RFit r) (bs:List UInt8) (hbs:fsec 84 (lbody l)=bs) :
    Calls Tryz.prog 89 #[.slice A n c] w (RetBytes bs 0 w):=by
  have hll:(lbody l).length≤900000:=by have:=lbody_length l;have:=gsize_pos l.length;have:=hr.len;omega
  obtain ⟨lb,hlb⟩:∃ b,lbody l=b:=⟨_,rfl⟩
  rw [hlb] at hbs hll
  have K:=Lib.hid (putRules_any A n c l w hn B hr hf lb hlb)
  have Hll:=Lib.hid hll
  clear hlb hf hll
  go_enter Tryz.func89,Tryz.ntmps89
  go_wp2_with (first
    | (go_at_call 122;refine (K.out).mono ?_;rintro e w1 ⟨A1,n1,c1,rfl,ow1,hb1⟩)
    | (go_at_call 124;refine (sec_any 84 84 rfl A1 n1 c1 w1 (by have:=ow1.len;have:=Hll.out;omega) _ lb ow1.rd (Nat.le_refl _)).mono ?_;rintro e w2 ⟨A2,n2,c2,rfl,ow2,hb2⟩))
  go_ret2
  rw [hbs] at ow2
  exact ⟨A2,n2,c2,rfl,ow2.base_le hb1.size,hb1.trans (hb2.mono hb1.size)⟩
def PnRel (ns:List Nd) (n:Nat) (w:World) (all i:Value) (wr:World):Prop :=
  ∃ (k m c:Nat) (A:Option Addr),k≤n∧i=.int .i64 k∧all=.slice A m c∧OwS bv wr w.heap.size 5 A m c (gput n ++ nrows ((Nd.ls ns).take k))∧Below w.heap.size w wr
set_option maxRecDepth 100000 in
set_option maxHeartbeats 4000000 in
theorem putNodes_any (A:Option Addr) (n c:Nat) (ns:List Nd) (w:World) (hn:n≤256) (hs:nsize (Nd.ls ns)≤4096) (B:Nat) (hr:NRd w B A n c ns) (hf:∀ x∈ns,∀ r∈x.l,RFit r) (bs:List UInt8) (hbs:nbody (Nd.ls ns)=bs) :
    Calls Tryz.prog 88 #[.slice A n c,.func (.func 89) #[] #[]] w (RetBytes bs 0 w):=by
  have hlen:=hr.len
  have Hf:=Lib.hid hf
  have Hbs:=Lib.hid hbs
  clear hf hbs
  go_enter Tryz.func88,Tryz.ntmps88
  go_wp2_with (go_at_call 121;refine (gput_natF n (by omega) w).mono ?_;rintro e w1 ⟨A1,c1,rfl,ow1,hb1⟩)
  go_loopw [6,23] (fun all i wr=>PnRel ns n w all i wr) (fun _ i _=>n - (intOf i).toNat)
  case atStart=>exact ⟨0,_,c1,A1,by omega,rfl,rfl,by simpa [nrows] using ow1,hb1⟩
  case round =>
    obtain ⟨k,m,c2,A2,hk,rfl,rfl,ow,hb⟩:=hrel
    have hrk:=hr.step hb
    have hml:=ow.len
    have hm2:m≤100000:=by
      have h1:=nrows_le ((Nd.ls ns).take k) (fun l hl=>by have:=len_le_nsize (List.mem_of_mem_take hl);omega)
      have h2:((Nd.ls ns).take k).length≤n:=by rw [List.length_take,Nd.ls_len];omega
      have h3:=gsize_pos n
      have h4:=nsize_take_le (Nd.ls ns) k
      rw [List.length_append,gput_length] at hml
      omega
    have hz:=hb.size
    clear hml hb1 ow1
    by_cases hlt:k < n
    · obtain ⟨x,hx⟩:∃ x,ns[k]? = some x:=⟨ns[k]'(by omega),List.getElem?_eq_getElem _⟩
      have hxm:=List.mem_of_getElem? hx
      have htk:=nrows_take (Nd.ls_get hx)
      have hxr:=hrk.rk x hxm
      have hxl:=hxr.len
      have hxs:x.l.length≤nsize (Nd.ls ns):=len_le_nsize (List.mem_map.2 ⟨x,hxm,rfl⟩)
      have hsl:(fsec 84 (lbody x.l)).length≤900000:=by have:=fsec_length 84 (lbody x.l);have:=lbody_length x.l;have:=gsize_pos x.l.length;have:=gsize_pos (lbody x.l).length;omega
      obtain ⟨sb,hsb⟩:∃ b,fsec 84 (lbody x.l)=b:=⟨_,rfl⟩
      rw [hsb] at htk hsl
      have Hput:=Lib.hid (putNode_any x.A x.n x.c x.l wr (by omega) B hxr (Hf.out x hxm) sb hsb)
      have Htk:=Lib.hid htk
      have Hrk:=Lib.hid hx
      have Hsl:=Lib.hid hsl
      clear htk hx hxr hsb hxm hxl hxs hsl
      go_wp2_with (first
        | ((with_reducible refine on_index (.tmp 21) ?_);refine wn_at rfl _ (.tmp 21) _ rfl el_row rfl rfl (by omega) (by omega) hrk.rd ?_;intro b1 j1 r1 hr1 hb1 hc1;have hxx:x=r1:=(by have e:=hr1.out;rw [Int.toNat_natCast,Hrk.out] at e;injection e);subst hxx)
        | (go_at_call 89;refine (Hput.out).mono ?_;rintro e w5 ⟨A5,n5,c5,rfl,ow5,hb5⟩;have ow4:=ow.below hb5;have hl5:=ow5.len)
        | ((with_reducible refine on_append (.tmp 36) (.tmp 37) ?_);refine wl_appendS rfl (.tmp 36) (.tmp 37) _ rfl el_u8 (f:=bv) (fun _=>rfl) rfl ow4 rfl ow5.rd (by have:=Hsl.out;omega) (by omega) (by have:=hb5.size;omega) ?_;intro A6 c6 w6 ow6 hg6 hb6))
      go_roundw
      case rel=>exact ⟨k+1,_,c6,A6,by omega,by go_num,rfl,by rw [Htk.out,← List.append_assoc];exact ow6,(hb.trans (hb5.mono hz)).trans hb6⟩
      case measure=>simp [intOf];omega
    · obtain rfl:k=n:=by omega
      go_wp2
      go_ret2
      refine ⟨A2,m,c2,rfl,?_,hb⟩
      rw [List.take_of_length_le (by rw [Nd.ls_len];omega)] at ow
      rw [← Hbs.out]
      unfold nbody
      rw [Nd.ls_len,hlen]
      exact ow
theorem netput_any (A:Option Addr) (n c:Nat) (ns:List Nd) (w:World) (B:Nat) (hr:NRd w B A n c ns) (hm:nmay (Nd.ls ns)=0) (hf:∀ x∈ns,∀ r∈x.l,RFit r) (bs:List UInt8) (hbs:fput 1179206193 (nbody (Nd.ls ns))=bs) :
    Calls Tryz.prog 35 #[.agg #[.slice A n c]] w (RetBytes bs 0 w):=by
  have hlen:=hr.len
  obtain ⟨h1,h2,_⟩:=nmay_zero.1 hm
  rw [Nd.ls_len,hlen] at h1
  obtain ⟨nb,hnb⟩:∃ b,nbody (Nd.ls ns)=b:=⟨_,rfl⟩
  have hl:nb.length≤100000:=by
    have h3:=nrows_le (Nd.ls ns) (fun l hl=>by have:=len_le_nsize hl;omega)
    have h4:=gsize_pos (Nd.ls ns).length
    rw [← hnb]
    unfold nbody
    rw [List.length_append,gput_length]
    rw [Nd.ls_len] at h3 h4 ⊢
    omega
  rw [hnb] at hbs
  have k0:=below_alloc w (Nat.le_refl _) (.cells #[.slice A n c] 34)
  have b0:=Box.new w #[.slice A n c] 34
  have hr0:=hr.step k0
  have K1:=Lib.hid (netmay_any A n c ns _ (by omega) (by omega) B hr0 0 hm)
  have K2:=Lib.hid (fun W (h:Below (w.alloc (.cells #[.slice A n c] 34)).heap.size (w.alloc (.cells #[.slice A n c] 34)) W)=>putNodes_any A n c ns W h1 h2 B (hr0.step h) hf nb hnb)
  have Hl:=Lib.hid hl
  clear hm hf hnb hl
  go_enter Tryz.func35,Tryz.ntmps35
  go_wp2_with (first
    | ((with_reducible refine on_load (.tmp 1) ?_);refine wb_load rfl _ (.tmp 1) rfl st_net rfl b0 rfl ?_)
    | (go_at_call 32;refine (K1.out).mono ?_;rintro e w1 ⟨rfl,hb1⟩;have b1:=b0.step hb1;have y1:w1.cell? ⟨w.heap.size,0,none⟩=some (.slice A n c):=b1.cell 0)
    | (go_at_call 88;refine (K2.out _ hb1).mono ?_;rintro e w2 ⟨A2,n2,c2,rfl,ow2,hb2⟩)
    | (go_at_call 8;refine (fput_any 1179206193 (by omega) 1179206193 rfl A2 n2 c2 w2 (by have:=ow2.len;have:=Hl.out;omega) nb ow2.rd).mono ?_;rw [hbs];rintro e w3 ⟨A3,n3,c3,rfl,ow3,hb3⟩))
  go_ret2
  have a:=k0.trans (hb1.mono k0.size)
  have b:=a.trans (hb2.mono a.size)
  exact ⟨A3,n3,c3,rfl,ow3.base_le b.size,b.trans (hb3.mono b.size)⟩
end Go.Proofs.YtjandnidljbkoaaGreat
namespace Go.Th
open Go.RowKit
theorem results_cell2 {P:Program} {fn:Func} {p u x:Tmp} {ty:TypeId} (h:fn.results = #[.cell p ty,.tmp u,.tmp x]) (tmps:Array Value) (w:World) (g:Nat) (t:TypeId) (cs:Array Value) (fr:Nat × Nat) (d:TypeDesc)
    (hp:tmps.getD p undef=.pointer (some ⟨g,0,none⟩)) (hg:w.heap[g]? = some (.cells cs t fr)) {U X:Value} (hu2:tmps.getD u undef=U) (hx2:tmps.getD x undef=X)
    (hu:P.underlying ty=some d) (hd:(match d with | .struct _ | .array _ _=>true | _=>false)=true) (hi:(P.info? ty).map (·.size)=some cs.size) :
    (results fn tmps).run P w=.ok (.tuple #[.agg cs,U,X]) w:=by
  have hp':tmps[p]?.getD undef=.pointer (some ⟨g,0,none⟩):=by simpa using hp
  have hu':tmps[u]?.getD undef=U:=by simpa using hu2
  have hx':tmps[x]?.getD undef=X:=by simpa using hx2
  simp [results,h,hp',hu',hx',asAddr,run_loadVar_row w g t ty cs fr d hg hu hd hi]
section
variable {P:Program} {ops:Array Oper} {C:World→Prop} {Q:Act→Prop} {rest:List Oper} {o:Oper} {a:Act}
theorem wq_cut_lz (hw:Region.wanted o (yielded ops a.tmps)=true) (T:TypeId) (s:Operand) {E bytes:Nat} {z:Value} (el:El P T E z bytes)
    {A:Option Addr} {n c:Nat} (hs:a.eval s=.slice A n c) (lo:Operand) (ho:o.op=.slice T s (some lo) Option.none Option.none) {k:IntKind} {I:Int} (hlo:a.eval lo=.int k I) (L:Nat) (hL:I=(L:Int)∧L≤n)
    (h:wpQuiet P ops C Q rest (a.put o.dst (.slice (cutA A L c) (n - L) (c - L)))):wpQuiet P ops C Q (o :: rest) a:=by
  obtain ⟨rfl,hL⟩:=hL
  refine wq_run hw (v:=.slice (cutA A L c) (n - L) (c - L)) (fun w hC=>?_) h
  have hb:(Instr.sliceBounds true n c (some (.int k (L:Int))) Option.none Option.none).run P w=.ok (L,n,c) w:=bounds_l k hL
  simp only [execOp,ho,hs,hlo,Option.map_some,Option.map_none,Sem.run_bind,Instr.sliceAt,run_underlying el.ht,Instr.slice,hb,el.size,Result.andThen,Sem.run_pure,Nat.mul_one,cutA]
end
section
variable {P:Program} {ops:Array Oper} {rest:List Oper} {o:Oper} {a:Act} {Q:Exit→Act→World→Prop} {w:World}
theorem wl_cut_lx (hw:Region.wanted o (yielded ops a.tmps)=true) (T:TypeId) (s:Operand) {E bytes:Nat} {z:Value} (el:El P T E z bytes)
    {A:Option Addr} {n c:Nat} (hs:a.eval s=.slice A n c) (hc:n≤c) (lo:Operand) (ho:o.op=.slice T s (some lo) Option.none Option.none) {k:IntKind} {I:Int} (hlo:a.eval lo=.int k I) (L:Nat) (hL:I=(L:Int)∧L≤n)
    (h:wpList P ops Q rest (a.put o.dst (.slice (cutA A L c) (n - L) (c - L))) w):wpList P ops Q (o :: rest) a w:=by
  obtain ⟨rfl,hL⟩:=hL
  refine wl_run hw (v:=.slice (cutA A L c) (n - L) (c - L)) (w':=w) ?_ h
  have hb:(Instr.sliceBounds true n c (some (.int k (L:Int))) Option.none Option.none).run P w=.ok (L,n,c) w:=bounds_l k hL
  simp only [execOp,ho,hs,hlo,Option.map_some,Option.map_none,Sem.run_bind,Instr.sliceAt,run_underlying el.ht,Instr.slice,hb,el.size,Result.andThen,Sem.run_pure,Nat.mul_one,cutA]
end
theorem cut_l {α:Type} {f:α→Value} {w:World} {B:Nat} {A:Option Addr} {n c:Nat} {xs:List α} (h:RdS f w B A n c xs) (L:Nat) (hL:L≤n):RdS f w B (cutA A L c) (n - L) (c - L) (xs.drop L):=by
  have:=h.cut L n c hL h.cap (Nat.le_refl _)
  rwa [List.take_of_length_le (Nat.le_of_eq h.len)] at this
theorem rowOf_cut (A:Option Addr) (L c:Nat):rowOf (cutA A L c)=rowOf A:=by
  unfold cutA
  split
  · rfl
  · cases A with
    | none=>rfl
    | some a =>
      show some (a.add L).block=some a.block
      unfold Addr.add
      split <;> rfl
end Go.Th
namespace Go.Proofs.YtjandnidljbkoaaGreat
open Go.RowKit Go.Th
set_option maxRecDepth 100000 in
set_option maxHeartbeats 4000000 in
theorem takeRule_any (A:Option Addr) (n c:Nat) (w:World) (hn:n≤1000000) (bs:List UInt8) (hr:RdS bv w w.heap.size A n c bs) (r:Ru) (t:List UInt8) (er:Int) (h:rdr bs=(r,t,er)) :
    Calls Tryz.prog 98 #[.slice A n c] w (fun e w'=>∃ A' n' c',e=.returned (.tuple #[.agg #[.int .u32 r.a,.int .i64 r.n,.int .i64 r.act,.int .i64 r.next],.slice A' n' c',.int .i64 er])∧(A' = none∨rowOf A' = rowOf A)∧(∀ W B,RdS bv W B A n c bs→RdS bv W B A' n' c' t)∧Below w.heap.size w w'):=by
  have hlen:=hr.len
  have hcap:=hr.cap
  unfold rdr at h
  by_cases h8:n < 8
  · rw [if_pos (by omega)] at h
    obtain ⟨rfl,rfl,rfl⟩:Ru.zero=r∧[]=t∧2=er:=by injection h with a b;injection b with b c;exact ⟨a,b,c⟩
    clear h
    go_enter Tryz.func98,Tryz.ntmps98
    go_wp2_with (first
      | ((with_reducible refine on_alloc ?_);refine wl_newBox rfl _ rfl z_rule ?_;intro g w1 hg hl b1 hb1)
      | (go_at_call 129;refine (ruleTake_short A n c w1 h8).mono ?_;rintro e w2 ⟨rfl,hb2⟩;have b2:=b1.step hb2)
      | ((with_reducible refine on_store_at (.tmp 2) ?_);first | (refine wr_store (r:=Ru.zero) (s:=Ru.zero) rfl _ (.tmp 2) _ rfl st_rule rfl rfl b2 ?_;intro w3 b3 hg3) | (refine wr_store (r:=Ru.zero) (s:=Ru.zero) rfl _ (.tmp 2) _ rfl st_rule rfl rfl b3 ?_;intro w4 b4 hg4)))
    have hz1:=hb2.size
    have B4:Below w.heap.size w w4:=by
      have a:=hb1.trans (hb2.mono hb1.size)
      have b:=a.trans (below_of_grown hg3 (fun j e=>by injection e with e;omega) a.size)
      exact b.trans (below_of_grown hg4 (fun j e=>by injection e with e;omega) b.size)
    refine bodyPost_ret (results_cell2 rfl _ w4 g 52 _ (0,0) _ rfl b4.at_ rfl rfl Tryz.underlying52 rfl st_rule.size) rfl ?_
    exact ⟨none,0,0,rfl,.inl rfl,fun W B _=>RdS.nil _ _,B4⟩
  · rw [if_neg (by omega)] at h
    obtain ⟨hr0,ht0,rfl⟩:rtk bs=r∧bs.drop 8=t∧0=er:=by injection h with a b;injection b with b c;exact ⟨a,b,c⟩
    have Hr0:=Lib.hid hr0
    have Ht0:=Lib.hid ht0
    clear h hr0 ht0
    go_enter Tryz.func98,Tryz.ntmps98
    go_upto_region 4 with (first
      | ((with_reducible refine on_alloc ?_);refine wl_newBox rfl _ rfl z_rule ?_;intro g w1 hg hl b1 hb1)
      | (go_at_call 129;refine (ruleTake A n c w1 bs (hr.step hb1).heap (by omega) hn).mono ?_;rw [Hr0.out];rintro e w2 ⟨rfl,hb2⟩;have b2:=b1.step hb2)
      | ((with_reducible refine on_store_at (.tmp 2) ?_);refine wr_store (r:=Ru.zero) (s:=r) rfl _ (.tmp 2) _ rfl st_rule rfl rfl b2 ?_;intro w3 b3 hg3))
    have B3:Below w.heap.size w w3:=by
      have a:=hb1.trans (hb2.mono hb1.size)
      exact a.trans (below_of_grown hg3 (fun j e=>by injection e with e;omega) a.size)
    have q3:∀ w',Th.KReach g w3.drew w'→Box w' g 52 r.cs.toArray:=fun w' hk=>by
      obtain ⟨q,rfl⟩:=hk
      exact b3.drew.keep q
    have hgz:=B3.size
    clear hb1 hb2 hg3 b1 b2 hl
    refine wp_region_tree (.float 0 3 (.one 3 (.float 4 2 .done))) (Th.KReach g) (Th.KReach.trans _) (Th.KReach.refl _) (by kernel_rfl) (by kernel_rfl) (fun KT hKT=>?_)
    repeat' first
      | ((with_reducible refine wpTree_done ?_);refine hKT _ _ ?_;clear hKT KT)
      | (with_reducible refine wpTree_two ?_ ?_)
      | ((with_reducible refine wpTree_float (fun KF hKF=>?_));(simp only [List.drop,List.take]);(repeat (first | go_big_quiet_skip | ((with_reducible refine onq_load (.tmp 2) ?_);refine wqr_box rfl _ (.tmp 2) rfl st_rule rfl q3 ?_) | ((with_reducible refine onq_slice (.tmp 15) ?_);refine wq_cut_lz rfl _ (.tmp 15) el_u8 rfl _ rfl rfl 8 (by omega) ?_) | go_big_quiet_step (fail) | quiet_step (fail)));refine wpQuiet_nil ?_;refine hKF _ ?_;clear hKF KF)
      | ((with_reducible refine wpTree_one (fun KO hKO=>?_));(simp only [List.drop,List.take]);(go_wp2_with (first | ((with_reducible refine on_store_at (.tmp 2) ?_);refine wr_store (r:=r) (s:=r) rfl _ (.tmp 2) _ rfl st_rule rfl rfl b3.drew ?_;intro w4 b4 hg4;have kg:w4.heap[g]? = w3.drew.heap[g]?:=b4.at_.trans b3.drew.at_.symm)));(refine anch_end (Th.KReach.of (by first | exact rfl | assumption | (simp;done) | (exact keep_alloc _ _ (by assumption)))) (hKO _ _ ?_));clear hKO KO)
    go_wp2
    have B4:Below w.heap.size w w4:=B3.drew.trans (below_of_grown hg4 (fun j e=>by injection e with e;omega) hgz)
    refine bodyPost_ret (results_cell2 rfl _ w4 g 52 _ (0,0) _ rfl b4.at_ rfl rfl Tryz.underlying52 rfl st_rule.size) rfl ?_
    exact ⟨_,_,_,rfl,.inr (rowOf_cut A 8 c),fun W B h=>by rw [← Ht0.out];exact cut_l h 8 (by omega),B4⟩
def TrRel (bs:List UInt8) (n cnt:Nat) (w:World) (b l i:Value) (wr:World):Prop :=
  ∃ (k:Nat) (Ab:Option Addr) (nb cb:Nat) (t:List UInt8) (A:Option Addr) (m c:Nat) (acc:List Ru),k≤cnt∧i=.int .i64 k∧b=.slice Ab nb cb∧l=.slice A m c∧RdS bv wr w.heap.size Ab nb cb t∧nb≤n∧m≤k∧OwM Ru.cs 4 wr w.heap.size 52 A m c acc∧Hid (goT rdr cnt [] bs=goT rdr (cnt - k) acc t)∧Below w.heap.size w wr
set_option maxRecDepth 100000 in
set_option maxHeartbeats 4000000 in
theorem takeRules_any (A:Option Addr) (n c:Nat) (w:World) (hn:n≤1000000) (bs:List UInt8) (hr:RdS bv w w.heap.size A n c bs) (ls:List Ru) (er:Int) (h:allT rdr 4096 bs=(ls,er)) :
    Calls Tryz.prog 97 #[.slice A n c,.int .i64 4096,.func (.func 98) #[] #[]] w (fun e w'=>∃ A' m c',e=.returned (.tuple #[.slice A' m c',.int .i64 er])∧OwM Ru.cs 4 w' w.heap.size 52 A' m c' ls∧Below w.heap.size w w'):=by
  have hlen:=hr.len
  have hcap:=hr.cap
  have hgt:=gtake_any A n c w (by omega) _ bs hr
  have hwhat:=gtake_what bs
  by_cases h1:(gtake bs).2.2=0
  rotate_left
  · rw [allT_err h1] at h
    obtain ⟨rfl,rfl⟩:[]=ls∧(gtake bs).2.2=er:=by injection h with a b;exact ⟨a,b⟩
    obtain ⟨t3,ht3⟩:∃ t3,gtake bs=t3:=⟨_,rfl⟩
    rw [ht3] at h1 hgt ⊢
    have he:(t3.2.2 != 0)=true:=by simpa using h1
    have Hgt:=Lib.hid hgt
    clear h hgt hwhat h1 ht3
    go_enter Tryz.func97,Tryz.ntmps97
    go_wp2_with (go_at_call 95;refine (Hgt.out).mono ?_;rintro e w1 ⟨rfl,rfl⟩)
    go_ret2
    exact ⟨none,0,0,rfl,OwM.nil_ _ _ _,Below.refl _ _⟩
  · obtain ⟨cnt,used,hg,hc,hu1,hu2,hu3,_⟩:∃ cnt used,gtake bs=(cnt,used,0)∧cnt < 268435456∧1≤used∧used≤bs.length∧used≤4∧True:=by
      rcases hwhat with h2 | h2 | ⟨a,b,h2,h3,h4,h5,h6,_⟩
      · rw [h2.1] at h1;cases h1
      · rw [h2] at h1;cases h1
      · exact ⟨a,b,h2,h3,h4,h5,h6,trivial⟩
    rw [hg] at hgt
    have Hgt:=Lib.hid hgt
    by_cases hm:4096 < cnt
    · rw [allT_many h1 (by rw [hg];exact hm)] at h
      obtain ⟨rfl,rfl⟩:[]=ls∧12=er:=by injection h with a b;exact ⟨a,b⟩
      have hd:decide ((4096:Int) < (cnt:Int))=true:=decide_eq_true (by omega)
      clear h hgt hwhat h1 hg
      go_enter Tryz.func97,Tryz.ntmps97
      go_wp2_with (go_at_call 95;refine (Hgt.out).mono ?_;rintro e w1 ⟨rfl,rfl⟩)
      go_ret2
      exact ⟨none,0,0,rfl,OwM.nil_ _ _ _,Below.refl _ _⟩
    · rw [allT_go h1 (by rw [hg];exact hm),hg] at h
      have H:=Lib.hid h
      have hd:decide ((4096:Int) < (cnt:Int))=false:=decide_eq_false (by omega)
      have r0:=cut_l hr used (by omega)
      clear h hgt hwhat h1 hg
      go_enter Tryz.func97,Tryz.ntmps97
      go_wp2_with (first
        | (go_at_call 95;refine (Hgt.out).mono ?_;rintro e w1 ⟨rfl,rfl⟩)
        | ((with_reducible refine on_slice (.tmp 27) ?_);refine wl_cut_lx rfl _ _ el_u8 rfl hcap _ rfl rfl used (by omega) ?_))
      obtain ⟨b0,hb0⟩:∃ b0,bs.drop used=b0:=⟨_,rfl⟩
      rw [hb0] at r0 H
      clear hb0
      go_loopw [0,11,31] (fun b l i wr=>TrRel b0 n cnt w b l i wr) (fun _ _ i _=>cnt - (intOf i).toNat)
      case atStart=>exact ⟨0,_,_,_,b0,none,0,0,[],by omega,rfl,rfl,rfl,r0,by omega,by omega,OwM.nil_ _ _ _,Lib.hid rfl,Below.refl _ _⟩
      case round =>
        obtain ⟨k,Ab,nb,cb,t,A1,m,c1,acc,hk,rfl,rfl,rfl,rb,hnb,hmk,ow,hgo,hb⟩:=hrel
        have hz:=hb.size
        have htl:=rb.len
        by_cases hlt:k < cnt
        · obtain ⟨x,hx⟩:∃ x,rdr t=x:=⟨_,rfl⟩
          have hfx:=rdr_fit t
          rw [hx] at hfx
          obtain ⟨r,t2,e2⟩:=x
          have K:=Lib.hid (takeRule_any Ab nb cb wr (by omega) t (rb.more hz) r t2 e2 hx)
          by_cases he:e2=0
          · subst he
            have hgo2:=hgo.out
            rw [show cnt - k=(cnt - (k+1))+1 by omega,goT_go (by rw [hx]),hx] at hgo2
            have Hgo2:=Lib.hid hgo2
            have hle:=rdr_le t
            rw [hx] at hle
            have Hle:=Lib.hid hle
            clear hgo2 hgo hx hle hfx
            go_wp2_with (first
              | (go_at_call 98;refine (K.out).mono ?_;rintro e w2 ⟨A2,n2,c2,rfl,-,hrow,hb2⟩;have ow2:=ow.below hb2)
              | ((with_reducible refine on_alloc ?_);refine wl_newBox rfl _ rfl z_rule ?_;intro g3 w3 hg3 hl3 b3 hb3;have ow3:=ow2.below hb3)
              | ((with_reducible refine on_store_at (.tmp 12) ?_);refine wr_store (r:=Ru.zero) (s:=r) rfl _ (.tmp 12) _ rfl st_rule rfl rfl b3 ?_;intro w4 b4 hg4;have B4:Below w2.heap.size w2 w4:=hb3.trans (below_of_grown hg4 (fun j e=>by injection e with e;omega) hb3.size);have ow4:=ow2.below B4)
              | ((with_reducible refine on_load (.tmp 12) ?_);refine wr_box rfl _ _ rfl st_rule rfl b4 ?_)
              | ((with_reducible refine on_append (.tmp 43) (.tmp 45) ?_);refine wm_append Ru.cs_length rfl (.tmp 43) (.tmp 45) _ rfl el_rule Ru.one rfl (ow4.alloc _) rfl (OwM.lit' (base:=w4.heap.size) (e:=52) (xs:=[r]) Ru.cs_length w4 _ 1 _ rfl (Nat.le_refl _) (by simp [maxLen]) rfl rfl).rd (by omega) (by omega) (by have:=hb2.size;have:=B4.size;simp;omega) ?_;intro A8 c8 w8 ow8 hg8 hb8))
            have B24:=hb2.trans (B4.mono hb2.size)
            have B5:=B24.trans ((below_alloc w4 (Nat.le_refl _) (.cells #[.int .u32 r.a,.int .i64 r.n,.int .i64 r.act,.int .i64 r.next] 52)).mono B24.size)
            have B8:=(hb.trans (B5.mono hz)).trans hb8
            have rb8:RdS bv w8 w.heap.size A2 n2 c2 t2:=hrow w8 w.heap.size (rb.below ((B5.mono hz).trans hb8))
            go_roundw
            case rel=>exact ⟨k+1,A2,n2,c2,t2,A8,_,c8,_,by omega,by go_num,rfl,rfl,rb8,by have:=rb8.len;have h5:t2.length≤t.length:=Hle.out;omega,by omega,ow8,Hgo2,B8⟩
            case measure=>simp [intOf];omega
          · have hgo2:=hgo.out
            rw [H.out,show cnt - k=(cnt - (k+1))+1 by omega,goT_stop (by rw [hx];exact he),hx] at hgo2
            obtain ⟨rfl,rfl⟩:ls=[]∧er=e2:=by injection hgo2 with a b;exact ⟨a,b⟩
            have he2:(er != 0)=true:=by simpa using he
            clear hgo2 hgo hx hfx H he
            go_wp2_with (first
              | (go_at_call 98;refine (K.out).mono ?_;rintro e w2 ⟨A2,n2,c2,rfl,-,hrow,hb2⟩)
              | ((with_reducible refine on_alloc ?_);refine wl_newBox rfl _ rfl z_rule ?_;intro g3 w3 hg3 hl3 b3 hb3)
              | ((with_reducible refine on_store_at (.tmp 12) ?_);refine wr_store (r:=Ru.zero) (s:=r) rfl _ (.tmp 12) _ rfl st_rule rfl rfl b3 ?_;intro w4 b4 hg4;have B4:Below w2.heap.size w2 w4:=hb3.trans (below_of_grown hg4 (fun j e=>by injection e with e;omega) hb3.size)))
            go_ret2
            exact ⟨none,0,0,rfl,OwM.nil_ _ _ _,hb.trans ((hb2.trans (B4.mono hb2.size)).mono hz)⟩
        · obtain rfl:k=cnt:=by omega
          have hgo2:=hgo.out
          rw [H.out,Nat.sub_self] at hgo2
          by_cases ht:t=[]
          · subst ht
            rw [goT_end] at hgo2
            obtain ⟨rfl,rfl⟩:ls=acc∧er=0:=by injection hgo2 with a b;exact ⟨a,b⟩
            have hnb0:nb=0:=by simpa using htl.symm
            subst hnb0
            clear hgo2 hgo H
            go_wp2
            go_ret2
            exact ⟨A1,m,c1,rfl,ow,hb⟩
          · rw [goT_more ht] at hgo2
            obtain ⟨rfl,rfl⟩:ls=[]∧er=4:=by injection hgo2 with a b;exact ⟨a,b⟩
            have hnb0:0 < nb:=by rw [← htl];exact List.length_pos_iff.2 ht
            have hd2:decide ((0:Int) < (nb:Int))=true:=decide_eq_true (by omega)
            clear hgo2 hgo H
            go_wp2
            go_ret2
            exact ⟨none,0,0,rfl,OwM.nil_ _ _ _,hb⟩
open Go.RowKit Go.Th
theorem z_net:(Tryz.prog.info? 34).map (fun i=>(i.zero.map Value.cells,i.size))=some (some #[.slice none 0 0],1):=by kernel_rfl
theorem ins_ok {out:List Ru} {r:Ru} (h:∀ s∈out,s.Ok) (hr:r.Ok):∀ s∈ins out r,s.Ok:=by
  intro s hs
  unfold ins at hs
  split at hs
  · split at hs
    · exact h s hs
    · rcases List.mem_append.1 hs with hs | hs
      · exact h s (List.mem_of_mem_take hs)
      · rcases List.mem_cons.1 hs with rfl | hs
        · exact hr
        · exact h s (List.mem_of_mem_drop hs)
  · rcases List.mem_append.1 hs with hs | hs
    · exact h s hs
    · rw [List.mem_singleton.1 hs];exact hr
theorem fold_ok {nodes:Int} (hn:1≤nodes∧nodes≤4611686018427387904):∀ (l out:List Ru),(∀ r∈l,r.Ok)→(∀ r∈out,r.Ok)→∀ r∈l.foldl (fun out r=>ins out (r.fit nodes)) out,r.Ok
  | [],out,_,h=>h
  | r :: l,out,hl,h=>fold_ok hn l _ (fun s hs=>hl s (by simp [hs])) (ins_ok h (Ru.fit_ok r nodes (hl r (by simp)) hn))
theorem fitT_ok (l:List Ru) (M:Nat) (hl:∀ r∈l,r.Ok) (hM:1≤(M:Int)∧(M:Int)≤4611686018427387904):∀ r∈fitT l M,r.Ok:=fold_ok hM _ [] (fun r hr=>hl r (List.mem_of_mem_take hr)) (by simp)
def NfitRel (ns:List Nd) (w:World) (g:Nat) (w2:World) (i:Value) (wr:World):Prop :=
  ∃ (k c:Nat) (A:Option Addr) (ms:List Nd),k≤nmany (Nd.ls ns)∧i=.int .i64 k∧Box wr g 34 #[.slice A k c]∧NO 50 52 wr (g+1) A k c ms∧Hid (Nd.ls ms=nfitTo (Nd.ls ns) k)∧Below g w2 wr
set_option maxRecDepth 100000 in
set_option maxHeartbeats 4000000 in
theorem netfit_any (A:Option Addr) (n c:Nat) (ns:List Nd) (w:World) (hn:n≤9223372036854775807) (hx:∀ x∈ns,x.n≤9223372036854775807) (B:Nat) (hr:NRd w B A n c ns) :
    Calls Tryz.prog 15 #[.agg #[.slice A n c]] w (fun e w'=>∃ A' m c' ms,e=.returned (.agg #[.slice A' m c'])∧NO 50 52 w' w.heap.size A' m c' ms∧Nd.ls ms=nfit (Nd.ls ns)∧Below w.heap.size w w'):=by
  have hlen:=hr.len
  have hmany:nmany (Nd.ls ns)=max 1 (min n 8):=by unfold nmany;rw [Nd.ls_len,hlen]
  have hm8:=nmany_bd (Nd.ls ns)
  obtain ⟨M,hM⟩:∃ M,nmany (Nd.ls ns)=M:=⟨_,rfl⟩
  rw [hM] at hmany hm8
  have HM:=Lib.hid hM
  have Hx:=Lib.hid hx
  have Hmany:=Lib.hid hmany
  clear hM hx
  have hMi:(if (1:Int) < if (8:Int) < (n:Int) then 8 else (n:Int) then if (8:Int) < (n:Int) then 8 else (n:Int) else 1)=(M:Int):=by
    by_cases h:(8:Int) < (n:Int)
    · simp only [h,if_true];omega
    · simp only [h,if_false]
      by_cases h2:(1:Int) < (n:Int)
      · rw [if_pos h2];omega
      · rw [if_neg h2];omega
  clear hmany
  have k0:=below_alloc w (Nat.le_refl _) (.cells #[.slice A n c] 34)
  have b0:=Box.new w #[.slice A n c] 34
  go_enter Tryz.func15,Tryz.ntmps15
  go_upto_region 1 with ((with_reducible refine on_alloc ?_);refine wl_newBox rfl _ rfl z_net ?_;intro gr w1 hgr hlr br hb1;have l0:=b0.lt;have b0:=b0.step hb1;have k0:=k0.trans (hb1.mono k0.size))
  go_upto_region 2 with (first
    | ((with_reducible refine on_alloc ?_);refine wl_newBox rfl _ rfl z_net ?_;intro g w2 hg2 hl2 b2 hb2;have br:=br.step hb2;have b0:=b0.step hb2;have k0:=k0.trans (hb2.mono k0.size))
    | ((with_reducible refine on_store_at (.tmp 3) ?_);refine wb_store (cs:=#[.slice none 0 0]) (cs':=#[.slice none 0 0]) rfl _ (.tmp 3) _ rfl st_net rfl rfl b2 rfl rfl (by simp [Value.oneCell']) ?_;intro w4 b4 hg4))
  have ngr:gr < g:=by omega
  have n0:w.heap.size < gr:=by omega
  have b0:=b0.grown hg4 (fun e=>by injection e with e;omega)
  have br:=br.grown hg4 (fun e=>by injection e with e;omega)
  have k4:Below w.heap.size w w4:=k0.trans (below_of_grown hg4 (fun j e=>by injection e with e;omega) k0.size)
  have hg4':=b4.lt
  clear hb1 hb2 hg2 hl2 hgr hlr hg4 b2 k0 l0
  have y0:w4.cell? ⟨w.heap.size,0,none⟩=some (.slice A n c):=b0.cell 0
  go_upto_region 3 with fail
  obtain ⟨m11,h11⟩:∃ m:Int,(if (8:Int) < (n:Int) then 8 else (n:Int))=m:=⟨_,rfl⟩
  rw [h11]
  clear hMi y0 h11
  go_wp2_with fail
  go_loopw [5,6] (fun i _ wr=>NfitRel ns w g w4 i wr) (fun i _ _=>M - (intOf i).toNat)
  case atStart=>exact ⟨0,0,none,[],by omega,rfl,b4,NO.nil _ _,Lib.hid rfl,Below.refl _ _⟩
  case round =>
    obtain ⟨k,c1,A1,ms,hk,rfl,bx,no,hms,hb⟩:=hrel
    rw [HM.out] at hk
    have kw:=k4.trans (hb.mono (by omega))
    have hrk:=hr.step kw
    have hgb:=bx.lt
    have b0r:=b0.below hb (by omega)
    have brr:=br.below hb ngr
    have y0:wr.cell? ⟨w.heap.size,0,none⟩=some (.slice A n c):=b0r.cell 0
    by_cases hlt:k < M
    · obtain ⟨l,hl⟩:∃ l,(Nd.ls ns).getD k []=l:=⟨_,rfl⟩
      have hsn:=nfitTo_snoc (Nd.ls ns) k
      rw [hl,HM.out] at hsn
      have Hsn:=Lib.hid hsn
      have Hl:=Lib.hid hl
      clear hsn hl
      go_upto_region 7 with fail
      have k5:=below_alloc wr (Nat.le_refl _) (.cells #[] 52)
      have o5:=OwM.lit (base:=wr.heap.size) (e:=52) (xs:=[]) Ru.cs_length wr #[] 0 (Nat.le_refl _) (by simp [maxLen]) rfl rfl
      obtain ⟨w5,hw5⟩:∃ W,wr.alloc (.cells #[] 52)=W:=⟨_,rfl⟩
      rw [hw5] at k5 o5 ⊢
      clear hw5
      have y5:w5.cell? ⟨w.heap.size,0,none⟩=some (.slice A n c):=(b0r.step k5).cell 0
      have hr5:=hrk.step k5
      go_upto_if 23 with fail
      go_cut [6] (fun s6 wx=>wx=w5∧∃ (A':Option Addr) (n' c':Nat),s6=.slice A' n' c'∧RdM Ru.cs w5 w5.heap.size A' n' c' l∧n'≤9223372036854775807∧∀ r∈l,r.Ok)
      case first =>
        by_cases hkn:k < n
        · obtain ⟨x,hx⟩:∃ x,ns[k]? = some x:=⟨ns[k]'(by omega),List.getElem?_eq_getElem _⟩
          have hxm:=List.mem_of_getElem? hx
          have hxl:x.l=l:=by rw [← Hl.out,List.getD_eq_getElem?_getD,Nd.ls_get hx];rfl
          have hd:decide ((k:Int) < (n:Int))=true:=decide_eq_true (by omega)
          have Hx1:=Lib.hid hx
          clear hx
          go_wp2_with ((with_reducible refine on_index (.tmp 25) ?_);refine wn_at rfl _ (.tmp 25) _ rfl el_row rfl rfl (by omega) (by omega) hr5.rd ?_;intro b j y hy hbB hc;have hxx:x=y:=(by have e:=hy.out;rw [Int.toNat_natCast,Hx1.out] at e;injection e);subst hxx)
          go_meet
          case rel=>exact ⟨rfl,x.A,x.n,x.c,rfl,by rw [← hxl];exact (hr5.rk x hxm).heap,Hx.out x hxm,by rw [← hxl];exact hr5.ok x hxm⟩
        · have hd:decide ((k:Int) < (n:Int))=false:=decide_eq_false (by omega)
          have hl0:l=[]:=by rw [← Hl.out,List.getD_eq_getElem?_getD,List.getElem?_eq_none (by rw [Nd.ls_len];omega)];rfl
          go_wp2
          go_meet
          case rel=>exact ⟨rfl,_,0,0,rfl,by rw [hl0];exact o5.rd,by omega,by rw [hl0];simp⟩
      case rest =>
        obtain ⟨rfl,A',n',c',rfl,rl,hn',hok⟩:=hcut
        go_upto_region 9 with fail
        have bx5:=bx.step k5
        have no5:=no.below k5
        have gl5:=bx5.lt
        have zg:g < wc.drew.heap.size:=gl5
        have y2:∀ q:KStep g wc.drew,q.w.cell? ⟨g,0,none⟩=some (.slice A1 k c1):=fun q=>(bx5.drew.keep q).cell 0
        have hrow:Hid (rowOf A1≠some g):=Lib.hid (fun e=>by have:=no.row.ow.row_ge _ e;omega)
        have noD:=no5.below (bdrew1 wc)
        have rl5:=(rl.step (bdrew1 wc)).heap
        obtain ⟨t,ht⟩:∃ t,fitT l (M:Int)=t:=⟨_,rfl⟩
        rw [ht] at Hsn
        have htok:∀ r∈t,r.Ok:=by rw [← ht];exact fun r hr=>fitT_ok l M hok (by omega) r hr
        have K:=Lib.hid (fit_any A' n' c' l M wc.drew hn' _ rl5 hok (by omega))
        rw [ht] at K
        have Htok:=Lib.hid htok
        have hgw:g+1≤wc.drew.heap.size:=zg
        clear ht htok o5 y5 hr5 b0r hrk rl rl5 no5
        refine wp_region_treeL 8 (.float 0 4 (.one 4 (.one 5 (.one 6 (.float 7 1 (.one 8 .done)))))) (Th.KReach g) (Th.KReach.trans _) (Th.KReach.refl _) (by kernel_rfl) (by kernel_rfl) (by kernel_rfl) (fun KT hKT=>?_)
        repeat' first
          | ((with_reducible refine wpTreeL_done ?_);refine hKT _ _ ?_;clear hKT KT)
          | (with_reducible refine wpTreeL_two ?_ ?_)
          | ((with_reducible refine wpTreeL_float (fun KF hKF=>?_));(simp only [List.drop,List.take]);(repeat (first | go_big_quiet_skip | go_big_quiet_step (fail) | quiet_step (fail)));refine wpQuiet_nil ?_;refine hKF _ ?_;clear hKF KF)
          | ((with_reducible refine wpTreeL_one (fun KO hKO=>?_));(simp only [List.drop,List.take]);(go_wp2_with (first | (go_at_call 53;refine (K.out).mono ?_;rintro e w6 ⟨Af,mf,cf,rfl,hmf,owf,hb6⟩;have kg6:w6.heap[g]? = wc.drew.heap[g]?:=hb6.block g zg;have z6:g < w6.heap.size:=Nat.lt_of_lt_of_le zg hb6.size;have no6:=noD.below hb6) | ((with_reducible refine on_append (.tmp 30) (.tmp 34) ?_);refine wl_appendS rfl (.tmp 30) (.tmp 34) _ rfl el_row (f:=sv) sv_one rfl (no6.row.alloc (.cells #[.slice Af mf cf] 50)) rfl (OwS.lit (base:=w6.heap.size) (e:=50) (xs:=[(⟨Af,mf,cf,t⟩:Nd)]) w6 #[.slice Af mf cf] 1 (Nat.le_refl _) (by simp [maxLen]) rfl rfl).rd (by omega) (by omega) (by simp;omega) ?_;intro A8 c8 w8 ow8 hg8 hb8;have kg:w8.heap[g]? = (w6.alloc (.cells #[.slice Af mf cf] 50)).heap[g]?:=keep_grown hg8 (by simp;omega) hrow.out;have bx8:=((bx5.drew.step hb6).alloc (.cells #[.slice Af mf cf] 50)).grown hg8 hrow.out;have k2:w8.cell? ⟨g,0,none⟩=some (.slice A1 k c1):=bx8.cell 0;have fz2:=bx8.frozen 0;have bS:=bx8.setCell 0 (.slice A8 (k+1) c8);have no8:=(no6.below (below_alloc w6 (Nat.le_refl _) (.cells #[.slice Af mf cf] 50))).more (x:=⟨Af,mf,cf,t⟩) ty_rows ((owf.alloc (.cells #[.slice Af mf cf] 50)).base_le hgw) Htok.out hg8 ow8;have no9:=no8.grown bS.2 (fun j e=>by injection e with e;omega);have B8:=((bdrew _ _:Below g wc wc.drew).trans ((hb6.mono (by omega)).trans (below_alloc w6 (by omega) (.cells #[.slice Af mf cf] 50)))).trans ((hb8.mono (by omega)).trans (below_of_grown (B:=g) bS.2 (fun j e=>by injection e with e;omega) (by have:=bx8.lt;omega))))));(first | (with_reducible refine anch_last (hKO _ _ ?_)) | refine anch_endL (Th.KReach.of (by first | exact rfl | assumption | (simp;done) | (exact keep_alloc _ _ (by assumption)))) (hKO _ _ ?_));clear hKO KO)
        clear y2 k2 fz2
        go_wp2
        go_roundw
        case rel=>exact ⟨k+1,c8,A8,_,by rw [HM.out];omega,by go_num,bS.1,no9,Lib.hid (by rw [Hsn.out,← hms.out];simp [Nd.ls]),hb.trans ((k5.mono (by omega)).trans B8)⟩
        case measure=>simp [intOf];omega
    · obtain rfl:k=M:=by omega
      have yg:wr.cell? ⟨g,0,none⟩=some (.slice A1 k c1):=bx.cell 0
      go_wp2_with (first
        | ((with_reducible refine on_load (.tmp 3) ?_);refine wb_load rfl _ (.tmp 3) rfl st_net rfl bx rfl ?_)
        | ((with_reducible refine on_store_at (.tmp 2) ?_);refine wb_store (cs:=#[.slice none 0 0]) (cs':=#[.slice A1 k c1]) rfl _ (.tmp 2) _ rfl st_net rfl rfl brr rfl rfl (by simp [Value.oneCell']) ?_;intro w9 b9 hg9))
      have no9:=no.grown hg9 (fun j e=>by injection e with e;omega)
      refine bodyPost_ret (v:=.agg #[.slice A1 k c1]) ?_ rfl ⟨A1,k,c1,ms,rfl,no9.base_le (by omega),by rw [hms.out,nfit,HM.out],kw.trans (below_of_grown hg9 (fun j e=>by injection e with e;omega) kw.size)⟩
      exact results_cell_row rfl _ w9 gr 34 _ (0,0) _ rfl b9.at_ Tryz.underlying34 rfl st_net.size
open Go.RowKit Go.Th
set_option maxRecDepth 100000 in
set_option maxHeartbeats 4000000 in
theorem takeNode_any (A:Option Addr) (n c:Nat) (w:World) (hn:n≤1000000) (bs:List UInt8) (hr:RdS bv w w.heap.size A n c bs) (ls:List Ru) (t:List UInt8) (er:Int) (h:nodeT bs=(ls,t,er)) :
    Calls Tryz.prog 42 #[.slice A n c] w (fun e w'=>∃ A' m c' A2 n2 c2,e=.returned (.tuple #[.slice A' m c',.slice A2 n2 c2,.int .i64 er])∧OwM Ru.cs 4 w' w.heap.size 52 A' m c' ls∧OwS bv w' w.heap.size 5 A2 n2 c2 t∧Below w.heap.size w w'):=by
  have hlen:=hr.len
  have hle:=fopen_le 84 bs
  unfold nodeT at h
  obtain ⟨fo,hfo⟩:∃ fo,fopen 84 bs=fo:=⟨_,rfl⟩
  rw [hfo] at h hle
  obtain ⟨x,y,eo⟩:=fo
  have K1:=Lib.hid (open_is 84 84 rfl A n c w hn bs hr x y eo hfo)
  simp only at h hle
  by_cases h1:eo=0
  rotate_left
  · rw [if_pos h1] at h
    obtain ⟨rfl,rfl,rfl⟩:[]=ls∧[]=t∧eo=er:=by injection h with a b;injection b with b c;exact ⟨a,b,c⟩
    have he:(eo != 0)=true:=by simpa using h1
    clear h hle hfo h1
    go_enter Tryz.func42,Tryz.ntmps42
    go_wp2_with (go_at_call 96;refine (K1.out).mono ?_;rintro e w1 ⟨A1,n1,c1,A2,n2,c2,rfl,ow1,ow2,hb1⟩)
    go_ret3
    exact ⟨none,0,0,none,0,0,rfl,OwM.nil_ _ _ _,OwS.nil_ _ _ _,hb1⟩
  · subst h1
    rw [if_neg (by simp)] at h
    obtain ⟨r2,hr2⟩:∃ r,allT rdr 4096 x=r:=⟨_,rfl⟩
    rw [hr2] at h
    obtain ⟨ls2,e2⟩:=r2
    have Hle:=Lib.hid hle
    have K2:=Lib.hid (fun W A1 n1 c1 (h:RdS bv W W.heap.size A1 n1 c1 x)=>takeRules_any A1 n1 c1 W (by have:=h.len;have:=hle.1;omega) x h ls2 e2 hr2)
    simp only at h
    by_cases h2:e2=0
    rotate_left
    · rw [if_pos h2] at h
      obtain ⟨rfl,rfl,rfl⟩:[]=ls∧[]=t∧e2=er:=by injection h with a b;injection b with b c;exact ⟨a,b,c⟩
      have he:(e2 != 0)=true:=by simpa using h2
      clear h hle hfo h2 hr2
      go_enter Tryz.func42,Tryz.ntmps42
      go_wp2_with (first
        | (go_at_call 96;refine (K1.out).mono ?_;rintro e w1 ⟨A1,n1,c1,A2,n2,c2,rfl,ow1,ow2,hb1⟩)
        | (go_at_call 97;refine (K2.out w1 A1 n1 c1 ow1.rd).mono ?_;rintro e w2 ⟨A3,n3,c3,rfl,ow3,hb2⟩))
      go_ret3
      exact ⟨none,0,0,none,0,0,rfl,OwM.nil_ _ _ _,OwS.nil_ _ _ _,hb1.trans (hb2.mono hb1.size)⟩
    · subst h2
      rw [if_neg (by simp)] at h
      obtain ⟨rfl,rfl,rfl⟩:ls2=ls∧y=t∧0=er:=by injection h with a b;injection b with b c;exact ⟨a,b,c⟩
      clear h hle hfo hr2
      go_enter Tryz.func42,Tryz.ntmps42
      go_wp2_with (first
        | (go_at_call 96;refine (K1.out).mono ?_;rintro e w1 ⟨A1,n1,c1,A2,n2,c2,rfl,ow1,ow2,hb1⟩)
        | (go_at_call 97;refine (K2.out w1 A1 n1 c1 ow1.rd).mono ?_;rintro e w2 ⟨A3,n3,c3,rfl,ow3,hb2⟩))
      go_ret3
      exact ⟨A3,n3,c3,A2,n2,c2,rfl,ow3.base_le hb1.size,ow2.below hb2,hb1.trans (hb2.mono hb1.size)⟩
def BR (w:World) (base:Nat) (A:Option Addr) (n c:Nat) (bs:List UInt8):Prop:=RdS bv w base A n c bs∨OwS bv w base 5 A n c bs
theorem BR.rd {w:World} {base:Nat} {A:Option Addr} {n c:Nat} {bs:List UInt8} (h:BR w base A n c bs) (hb:base≤w.heap.size):RdS bv w w.heap.size A n c bs:=by
  rcases h with h | h
  · exact h.more hb
  · exact h.rd
theorem BR.len {w:World} {base:Nat} {A:Option Addr} {n c:Nat} {bs:List UInt8} (h:BR w base A n c bs):bs.length=n:=by
  rcases h with h | h
  · exact h.len
  · exact h.len
theorem ty_u8row:5≠50:=by decide
def TnRel (bs:List UInt8) (n cnt:Nat) (w:World) (b l i:Value) (wr:World):Prop :=
  ∃ (k:Nat) (Ab:Option Addr) (nb cb:Nat) (t:List UInt8) (A:Option Addr) (c:Nat) (ns:List Nd),k≤cnt∧i=.int .i64 k∧b=.slice Ab nb cb∧l=.slice A k c∧BR wr w.heap.size Ab nb cb t∧nb≤n∧NO 50 52 wr w.heap.size A k c ns∧Hid (goT nodeT cnt [] bs=goT nodeT (cnt - k) (Nd.ls ns) t)∧Below w.heap.size w wr
set_option maxRecDepth 100000 in
set_option maxHeartbeats 4000000 in
theorem takeNodes_any (A:Option Addr) (n c:Nat) (w:World) (hn:n≤1000000) (bs:List UInt8) (hr:RdS bv w w.heap.size A n c bs) (lss:List (List Ru)) (er:Int) (h:netT bs=(lss,er)) :
    Calls Tryz.prog 41 #[.slice A n c,.int .i64 256,.func (.func 42) #[] #[]] w (fun e w'=>∃ A' m c' ns,e=.returned (.tuple #[.slice A' m c',.int .i64 er])∧NO 50 52 w' w.heap.size A' m c' ns∧Nd.ls ns=lss∧Below w.heap.size w w'):=by
  have hlen:=hr.len
  have hcap:=hr.cap
  have hgt:=gtake_any A n c w (by omega) _ bs hr
  have hwhat:=gtake_what bs
  unfold netT at h
  by_cases h1:(gtake bs).2.2=0
  rotate_left
  · rw [allT_err h1] at h
    obtain ⟨rfl,rfl⟩:[]=lss∧(gtake bs).2.2=er:=by injection h with a b;exact ⟨a,b⟩
    obtain ⟨t3,ht3⟩:∃ t3,gtake bs=t3:=⟨_,rfl⟩
    rw [ht3] at h1 hgt ⊢
    have he:(t3.2.2 != 0)=true:=by simpa using h1
    have Hgt:=Lib.hid hgt
    clear h hgt hwhat h1 ht3
    go_enter Tryz.func41,Tryz.ntmps41
    go_wp2_with (go_at_call 95;refine (Hgt.out).mono ?_;rintro e w1 ⟨rfl,rfl⟩)
    go_ret2
    exact ⟨none,0,0,[],rfl,NO.nil _ _,rfl,Below.refl _ _⟩
  · obtain ⟨cnt,used,hg,hc,hu1,hu2,hu3,_⟩:∃ cnt used,gtake bs=(cnt,used,0)∧cnt < 268435456∧1≤used∧used≤bs.length∧used≤4∧True:=by
      rcases hwhat with h2 | h2 | ⟨a,b,h2,h3,h4,h5,h6,_⟩
      · rw [h2.1] at h1;cases h1
      · rw [h2] at h1;cases h1
      · exact ⟨a,b,h2,h3,h4,h5,h6,trivial⟩
    rw [hg] at hgt
    have Hgt:=Lib.hid hgt
    by_cases hm:256 < cnt
    · rw [allT_many h1 (by rw [hg];exact hm)] at h
      obtain ⟨rfl,rfl⟩:[]=lss∧12=er:=by injection h with a b;exact ⟨a,b⟩
      have hd:decide ((256:Int) < (cnt:Int))=true:=decide_eq_true (by omega)
      clear h hgt hwhat h1 hg
      go_enter Tryz.func41,Tryz.ntmps41
      go_wp2_with (go_at_call 95;refine (Hgt.out).mono ?_;rintro e w1 ⟨rfl,rfl⟩)
      go_ret2
      exact ⟨none,0,0,[],rfl,NO.nil _ _,rfl,Below.refl _ _⟩
    · rw [allT_go h1 (by rw [hg];exact hm),hg] at h
      have H:=Lib.hid h
      have hd:decide ((256:Int) < (cnt:Int))=false:=decide_eq_false (by omega)
      have r0:=cut_l hr used (by omega)
      clear h hgt hwhat h1 hg
      go_enter Tryz.func41,Tryz.ntmps41
      go_wp2_with (first
        | (go_at_call 95;refine (Hgt.out).mono ?_;rintro e w1 ⟨rfl,rfl⟩)
        | ((with_reducible refine on_slice (.tmp 27) ?_);refine wl_cut_lx rfl _ _ el_u8 rfl hcap _ rfl rfl used (by omega) ?_))
      obtain ⟨b0,hb0⟩:∃ b0,bs.drop used=b0:=⟨_,rfl⟩
      rw [hb0] at r0 H
      clear hb0
      go_loopw [0,11,31] (fun b l i wr=>TnRel b0 n cnt w b l i wr) (fun _ _ i _=>cnt - (intOf i).toNat)
      case atStart=>exact ⟨0,_,_,_,b0,none,0,[],by omega,rfl,rfl,rfl,.inl r0,by omega,NO.nil _ _,Lib.hid rfl,Below.refl _ _⟩
      case round =>
        obtain ⟨k,Ab,nb,cb,t,A1,c1,ns,hk,rfl,rfl,rfl,rb,hnb,no,hgo,hb⟩:=hrel
        have hz:=hb.size
        have htl:=rb.len
        by_cases hlt:k < cnt
        · obtain ⟨x,hx⟩:∃ x,nodeT t=x:=⟨_,rfl⟩
          have hfx:=nodeT_fit t
          have hle:=nodeT_le t
          rw [hx] at hfx hle
          obtain ⟨l,t2,e2⟩:=x
          have K:=Lib.hid (takeNode_any Ab nb cb wr (by omega) t (rb.rd hz) l t2 e2 hx)
          by_cases he:e2=0
          · subst he
            have hgo2:=hgo.out
            rw [show cnt - k=(cnt - (k+1))+1 by omega,goT_go (by rw [hx]),hx] at hgo2
            have Hgo2:=Lib.hid hgo2
            have Hle:=Lib.hid hle
            have Hfx:=Lib.hid hfx
            clear hgo2 hgo hx hle hfx
            go_wp2_with (first
              | (go_at_call 42;refine (K.out).mono ?_;rintro e w2 ⟨Al,nl,cl,A2,n2,c2,rfl,owl,owt,hb2⟩;have no2:=no.below hb2)
              | ((with_reducible refine on_append (.tmp 43) (.tmp 45) ?_);refine wl_appendS rfl (.tmp 43) (.tmp 45) _ rfl el_row (f:=sv) sv_one rfl (no2.row.alloc (.cells #[.slice Al nl cl] 50)) rfl (OwS.lit (base:=w2.heap.size) (e:=50) (xs:=[(⟨Al,nl,cl,l⟩:Nd)]) w2 #[.slice Al nl cl] 1 (Nat.le_refl _) (by simp [maxLen]) rfl rfl).rd (by omega) (by omega) (by have:=hb2.size;simp;omega) ?_;intro A8 c8 w8 ow8 hg8 hb8))
            have k3:=below_alloc w2 (Nat.le_refl _) (.cells #[.slice Al nl cl] 50)
            have no8:=(no2.below k3).more (x:=⟨Al,nl,cl,l⟩) ty_rows ((owl.below k3).base_le hz) (fun r hr=>(Hfx.out r hr).1) hg8 ow8
            have t8:=(owt.below k3).grown hg8 (fun g hA e=>(owt.below k3).ow.apart (no2.below k3).row.ow ty_u8row g hA e)
            have B3:=hb2.trans (k3.mono hb2.size)
            have B8:=(hb.trans (B3.mono hz)).trans hb8
            go_roundw
            case rel=>exact ⟨k+1,A2,n2,c2,t2,A8,c8,_,by omega,by go_num,rfl,rfl,.inr (t8.base_le hz),by have:=t8.len;have h5:t2.length≤t.length:=Hle.out;omega,no8,Lib.hid (by rw [Hgo2.out];simp [Nd.ls]),B8⟩
            case measure=>simp [intOf];omega
          · have hgo2:=hgo.out
            rw [H.out,show cnt - k=(cnt - (k+1))+1 by omega,goT_stop (by rw [hx];exact he),hx] at hgo2
            obtain ⟨rfl,rfl⟩:lss=[]∧er=e2:=by injection hgo2 with a b;exact ⟨a,b⟩
            have he2:(er != 0)=true:=by simpa using he
            clear hgo2 hgo hx hfx H he hle
            go_wp2_with (go_at_call 42;refine (K.out).mono ?_;rintro e w2 ⟨Al,nl,cl,A2,n2,c2,rfl,owl,owt,hb2⟩)
            go_ret2
            exact ⟨none,0,0,[],rfl,NO.nil _ _,rfl,hb.trans (hb2.mono hz)⟩
        · obtain rfl:k=cnt:=by omega
          have hgo2:=hgo.out
          rw [H.out,Nat.sub_self] at hgo2
          by_cases ht:t=[]
          · subst ht
            rw [goT_end] at hgo2
            obtain ⟨rfl,rfl⟩:lss=Nd.ls ns∧er=0:=by injection hgo2 with a b;exact ⟨a,b⟩
            have hnb0:nb=0:=by simpa using htl.symm
            subst hnb0
            clear hgo2 hgo H
            go_wp2
            go_ret2
            exact ⟨A1,_,c1,ns,rfl,no,rfl,hb⟩
          · rw [goT_more ht] at hgo2
            obtain ⟨rfl,rfl⟩:lss=[]∧er=4:=by injection hgo2 with a b;exact ⟨a,b⟩
            have hnb0:0 < nb:=by rw [← htl];exact List.length_pos_iff.2 ht
            have hd2:decide ((0:Int) < (nb:Int))=true:=decide_eq_true (by omega)
            clear hgo2 hgo H
            go_wp2
            go_ret2
            exact ⟨none,0,0,[],rfl,NO.nil _ _,rfl,hb⟩
open Go.RowKit Go.Th
theorem z_errno:(Tryz.prog.info? 28).map (fun i=>(i.zero.map Value.cells,i.size))=some (some #[.int .i64 0],1):=by kernel_rfl
theorem clear_any (ge gn:Nat) (e:Int) (A:Option Addr) (n c:Nat) (u:FrameMode) (w:World) (hne:ge≠gn) (be:Box w ge 28 #[.int .i64 e]) (bn:Box w gn 34 #[.slice A n c]) (v:Value) (hv:v=if e=0 then .slice A n c else .slice none 0 0) :
    CallsD Tryz.prog 39 #[.pointer (some ⟨ge,0,none⟩),.pointer (some ⟨gn,0,none⟩)] u w fun x u' w'=>u' = u∧(x=.returned (.tuple #[])∧Box w' gn 34 #[v]∧Box w' ge 28 #[.int .i64 e]∧w.grownBy w' (some gn)):=by
  have y:w.cell? ⟨ge,0,none⟩=some (.int .i64 e):=be.cell 0
  by_cases h:e=0
  · subst h
    rw [if_pos rfl] at hv
    subst hv
    go_enter_d Tryz.func39,Tryz.ntmps39
    go_wp2
    go_end0
    exact ⟨rfl,bn,be,grown_refl _ _⟩
  · rw [if_neg h] at hv
    subst hv
    have h2:(e != 0)=true:=by simpa using h
    go_enter_d Tryz.func39,Tryz.ntmps39
    go_wp2_with ((with_reducible refine on_store_at (.tmp 1) ?_);refine wb_store (cs:=#[.slice A n c]) (cs':=#[.slice none 0 0]) rfl _ (.tmp 1) _ rfl st_net rfl rfl bn rfl rfl (by simp [Value.oneCell']) ?_;intro w4 b4 hg4)
    go_end0
    exact ⟨rfl,b4,be.grown hg4 (fun e=>by injection e with e;exact hne e.symm),hg4⟩
theorem wq_netload {ops:Array Oper} {rest:List Oper} {o:Oper} {a:Act} {C:World→Prop} {Q:Act→Prop} (hw:Region.wanted o (yielded ops a.tmps)=true) (x:Operand) (ho:o.op=.load 34 x) {g:Nat} {v:Value} (hx:a.eval x=.pointer (some ⟨g,0,none⟩)) (hb:∀ w,C w→w.cell? ⟨g,0,none⟩=some v)
    (h:wpQuiet Tryz.prog ops C Q rest (a.put o.dst (.agg #[v]))):wpQuiet Tryz.prog ops C Q (o :: rest) a :=
  wq_run hw (fun w hC=>by simp only [execOp,ho,hx,Instr.loadAt,Instr.sureAddr,Sem.run_bind,Sem.run_pure,Result.andThen_ok,run_loadVar_at st_net (cs:=[v]) rfl (fun i u hu=>by cases i with | zero=>injection hu with hu;subst hu;exact hb w hC | succ i=>cases hu)]) h
def TkS (gn ge:Nat) (a:Addr):Prop:=a=⟨gn,0,none⟩∨a=⟨ge,0,none⟩
theorem TkS.n (gn ge:Nat):TkS gn ge ⟨gn,0,none⟩:=.inl rfl
theorem TkS.e (gn ge:Nat):TkS gn ge ⟨ge,0,none⟩:=.inr rfl
theorem ks_two {gn ge:Nat} {w w':World} {cs es:Array Value} {tn te:TypeId} (bn:Box w gn tn cs) (be:Box w ge te es) (bn':Box w' gn tn cs) (be':Box w' ge te es):∀ a,TkS gn ge a→w'.cell? a=w.cell? a:=by
  intro a ha
  rcases ha with rfl | rfl
  · rw [bn.cell 0,bn'.cell 0]
  · rw [be.cell 0,be'.cell 0]
theorem results_cc {P:Program} {fn:Func} {p u:Tmp} {ty ty2:TypeId} (h:fn.results = #[.cell p ty,.cell u ty2]) (tmps:Array Value) (w:World) (g g2:Nat) (t:TypeId) (cs:Array Value) (d:TypeDesc) {k:IntKind} {z:Int}
    (hp:tmps.getD p undef=.pointer (some ⟨g,0,none⟩)) (hg:Box w g t cs) (hp2:tmps.getD u undef=.pointer (some ⟨g2,0,none⟩)) (hg2:w.cell? ⟨g2,0,none⟩=some (.int k z))
    (hu:P.underlying ty=some d) (hd:(match d with | .struct _ | .array _ _=>true | _=>false)=true) (hi:(P.info? ty).map (·.size)=some cs.size) (hu2:P.underlying ty2=some (.int k)) :
    (results fn tmps).run P w=.ok (.tuple #[.agg cs,.int k z]) w:=by
  have hp':tmps[p]?.getD undef=.pointer (some ⟨g,0,none⟩):=by simpa using hp
  have hu':tmps[u]?.getD undef=.pointer (some ⟨g2,0,none⟩):=by simpa using hp2
  have e2:(loadVar ty2 ⟨g2,0,none⟩).run P w=.ok (.int k z) w:=by
    simp [loadVar,isAgg,run_underlying hu2,hg2]
  simp [results,h,hp',hu',asAddr,run_loadVar_row w g t ty cs (0,0) d hg.at_ hu hd hi,e2]
theorem nodeT_len (bs:List UInt8):(nodeT bs).1.length≤4096:=by
  unfold nodeT
  split
  · simp
  · split
    · simp
    · exact allT_len 4096 _
theorem netT_bd (bs:List UInt8):(netT bs).1.length≤256∧nsize (netT bs).1≤1048576:=by
  have h1:(netT bs).1.length≤256:=allT_len 256 bs
  have h2:=nsize_le (b:=4096) (allT_all (P:=fun l:List Ru=>l.length≤4096) nodeT_len 256 bs)
  have h3:nsize (netT bs).1≤(netT bs).1.length * 4096:=h2
  omega
def RetNet (t:List (List Ru) × Int) (w:World) (e:Ending) (w':World):Prop :=
  ∃ A n c ns,e=.returned (.tuple #[.agg #[.slice A n c],.int .i64 t.2])∧NRd w' w'.heap.size A n c ns∧Nd.ls ns=t.1∧Below w.heap.size w w'
set_option maxRecDepth 100000 in
set_option maxHeartbeats 4000000 in
theorem nettake_any (A:Option Addr) (n c:Nat) (w:World) (hn:n≤1000000) (bs:List UInt8) (hr:RdS bv w w.heap.size A n c bs) (t:List (List Ru) × Int) (ht:Hid (ntk bs=t)) :
    Calls Tryz.prog 11 #[.slice A n c] w (RetNet t w):=by
  have hmf:∀ (fn:Fn) (first cap:Array Value) (w:World),(Instr.makeFunc fn first cap).run Tryz.prog w=.ok (.func fn first cap) w:=fun _ _ _ _=>rfl
  obtain ⟨fr,hfr⟩:∃ fr,ftake 1179206193 bs=fr:=⟨_,rfl⟩
  have htk:=ht.out
  unfold ntk at htk
  rw [hfr] at htk
  obtain ⟨bi,ef⟩:=fr
  have Htk:=Lib.hid htk
  clear htk ht
  go_enter_defers Tryz.func11,Tryz.ntmps11
  go_upto_region 2 with (first
    | ((with_reducible refine on_alloc ?_);refine wl_newBox rfl _ rfl z_net ?_;intro gn w1 hgn hln bn hb1)
    | ((with_reducible refine on_alloc ?_);refine wl_newBox rfl _ rfl z_errno ?_;intro ge w2 hge hle be hb2;have bn:=bn.step hb2;have k2:=hb1.trans (hb2.mono hb1.size)))
  have hr2:=(hr.step k2).heap
  have hne:ge≠gn:=by omega
  have K1:=Lib.hid (ftake_isP 1179206193 (by omega) 1179206193 rfl A n c w2 hn bs hr2 bi ef hfr)
  go_upto_region 3 with (go_at_call 40;refine (K1.out).mono ?_;rintro e w3 ⟨A3,n3,c3,rfl,ow3,hb3⟩;have be3:=be.step hb3;have fz3:=be3.frozen 0;have y3:w3.cell? ⟨ge,0,none⟩=some (.int .i64 0):=be3.cell 0)
  have bn3:=bn.step hb3
  have bS:=be3.setCell 0 (.int .i64 ef)
  have k3:=k2.trans (hb3.mono k2.size)
  have k4:Below w.heap.size w (w3.setCell ⟨ge,0,none⟩ (.int .i64 ef)):=k3.trans (below_of_grown bS.2 (fun j e=>by injection e with e;have:=hb1.size;omega) k3.size)
  have ow4:=ow3.grown bS.2 (fun g' hA e=>by have:=ow3.ow.row_ge g' (by rw [hA];rfl);injection e with e;omega)
  have bn4:=bn3.grown bS.2 (fun e=>by injection e with e;omega)
  have be4:Box (w3.setCell ⟨ge,0,none⟩ (.int .i64 ef)) ge 28 #[.int .i64 ef]:=bS.1
  obtain ⟨w4,hw4⟩:∃ W,w3.setCell ⟨ge,0,none⟩ (.int .i64 ef)=W:=⟨_,rfl⟩
  rw [hw4] at k4 ow4 bn4 be4 ⊢
  have l3:n3≤1000000:=by
    have h1:=ow3.len
    have h2:=hr.len
    have h3:bi.length≤bs.length:=by
      have:bi=(ftake 1179206193 bs).1:=by rw [hfr]
      rw [this]
      unfold ftake
      split
      · simp
      · split
        · split
          · simp only [List.length_drop,List.length_take];omega
          · simp
        · simp
    omega
  have hge':w.heap.size≤ge:=by have:=hb1.size;omega
  have hgl:gn < w4.heap.size∧ge < w4.heap.size:=⟨bn4.lt,be4.lt⟩
  have y4:w4.cell? ⟨ge,0,none⟩=some (.int .i64 ef):=be4.cell 0
  clear hw4 bS bn3 k3 ow3 fz3 y3 be3 hb3 K1 hr2 hb2 hb1 bn be k2 hfr hln hle hge
  by_cases he:ef=0
  rotate_left
  · have htk:=Htk.out
    rw [if_pos he] at htk
    subst htk
    have he2:(ef != 0)=true:=by simpa using he
    go_upto_region 4 with fail
    have q1:∀ q:KSStep (TkS gn ge) w4.drew,q.w.cell? ⟨ge,0,none⟩=some (.int .i64 ef):=fun q=>(q.h _ (TkS.e gn ge)).trans (be4.drew.cell 0)
    have q2:∀ w',Th.KSReach (TkS gn ge) w4.drew w'→w'.cell? ⟨gn,0,none⟩=some (.slice none 0 0):=fun w' hk=>by
      obtain ⟨q,rfl⟩:=hk
      exact (q.h _ (TkS.n gn ge)).trans (bn4.drew.cell 0)
    refine wp_region_treeL 3 (.float 0 2 (.one 2 (.one 3 .done))) (Th.KSReach (TkS gn ge)) (Th.KSReach.trans _) (Th.KSReach.refl _) (by kernel_rfl) (by kernel_rfl) (by kernel_rfl) (fun KT hKT=>?_)
    repeat' first
      | ((with_reducible refine wpTreeL_done ?_);refine hKT _ _ ?_;clear hKT KT)
      | (with_reducible refine wpTreeL_two ?_ ?_)
      | ((with_reducible refine wpTreeL_float (fun KF hKF=>?_));(simp only [List.drop,List.take]);(repeat (first | go_big_quiet_skip | ((with_reducible refine onq_load (.tmp 2) ?_);refine wq_netload rfl (.tmp 2) rfl rfl q2 ?_) | go_big_quiet_step (fail) | quiet_step (fail)));refine wpQuiet_nil ?_;refine hKF _ ?_;clear hKF KF)
      | ((with_reducible refine wpTreeL_one (fun KO hKO=>?_));(simp only [List.drop,List.take]);(go_wp2_with (first | ((with_reducible refine on_store_at (.tmp 2) ?_);refine wb_store (cs:=#[.slice none 0 0]) (cs':=#[.slice none 0 0]) rfl _ (.tmp 2) _ rfl st_net rfl rfl bn4.drew rfl rfl (by simp [Value.oneCell']) ?_;intro w5 bn5 hg5;have be5:=be4.drew.grown hg5 (fun e=>by injection e with e;omega);have ks5:=ks_two bn4.drew be4.drew bn5 be5;have y5:w5.cell? ⟨ge,0,none⟩=some (.int .i64 ef):=be5.cell 0;have fz5:=be5.frozen 0)));(first | (with_reducible refine anch_last (hKO _ _ ?_)) | refine anch_endL (Th.KSReach.of (by first | exact fun _ _=>rfl | assumption | (exact ks_alloc _ _ (by assumption)))) (hKO _ _ ?_));clear hKO KO)
    go_wp2
    have bS5:=be5.setCell 0 (.int .i64 ef)
    have be6:Box (w5.setCell ⟨ge,0,none⟩ (.int .i64 ef)) ge 28 #[.int .i64 ef]:=bS5.1
    have bn6:=bn5.grown bS5.2 (fun e=>by injection e with e;omega)
    refine leaves_cons (f:=39) (args:=#[.pointer (some ⟨ge,0,none⟩),.pointer (some ⟨gn,0,none⟩)]) (by simp) (by simp [go_sem]) ?_
    refine (clear_any ge gn ef _ _ _ .returning _ hne be6 bn6 _ rfl).mono ?_
    rintro x u' w7 ⟨rfl,rfl,bn7,be7,hg7⟩
    rw [if_neg he] at bn7
    refine ⟨_,results_cc rfl _ w7 gn ge _ _ _ rfl bn7 rfl (be7.cell 0) Tryz.underlying34 rfl st_net.size Tryz.underlying28,none,0,0,[],rfl,NRd.nil _ _,rfl,?_⟩
    have B5:Below w.heap.size w w5:=k4.drew.trans (below_of_grown hg5 (fun j e=>by injection e with e;omega) k4.size)
    have B6:=B5.trans (below_of_grown bS5.2 (fun j e=>by injection e with e;omega) B5.size)
    exact B6.trans (below_of_grown hg7 (fun j e=>by injection e with e;omega) B6.size)
  · subst he
    have htk:=Htk.out
    rw [if_neg (by simp)] at htk
    unfold inT at htk
    obtain ⟨nt,hnt⟩:∃ nt,netT bi=nt:=⟨_,rfl⟩
    rw [hnt] at htk
    obtain ⟨lss,en⟩:=nt
    have K2:=Lib.hid (takeNodes_any A3 n3 c3 w4 l3 bi ow4.rd lss en hnt)
    simp only at htk
    have Htk2:=Lib.hid htk
    clear htk Htk
    go_upto_region 6 with (first
      | (go_at_call 41;refine (K2.out).mono ?_;rintro e w8 ⟨A8,n8,c8,ns,rfl,no8,hns,hb8⟩;have bn8:=bn4.step hb8;have be8:=be4.step hb8;have y8:w8.cell? ⟨gn,0,none⟩=some (.slice none 0 0):=bn8.cell 0;have y8e:w8.cell? ⟨ge,0,none⟩=some (.int .i64 0):=be8.cell 0;have fz8:=bn8.frozen 0;have fz8e:=be8.frozen 0;have bS8:=bn8.setCell 0 (.slice A8 n8 c8);have be9:=be8.grown bS8.2 (fun e=>by injection e with e;omega);have y9e:(w8.setCell ⟨gn,0,none⟩ (.slice A8 n8 c8)).cell? ⟨ge,0,none⟩=some (.int .i64 0):=be9.cell 0;have fz9e:=be9.frozen 0))
    have no9:=no8.grown bS8.2 (fun j e=>by injection e with e;omega)
    have bn9:Box (w8.setCell ⟨gn,0,none⟩ (.slice A8 n8 c8)) gn 34 #[.slice A8 n8 c8]:=bS8.1
    have bS9:=be9.setCell 0 (.int .i64 en)
    have bn9:=bn9.grown bS9.2 (fun e=>by injection e with e;omega)
    have no9:=no9.grown bS9.2 (fun j e=>by injection e with e;omega)
    have B8:=k4.trans (hb8.mono k4.size)
    have B9:=B8.trans (below_of_grown bS8.2 (fun j e=>by injection e with e;omega) B8.size)
    have B9:=B9.trans (below_of_grown bS9.2 (fun j e=>by injection e with e;omega) B9.size)
    have be9:Box ((w8.setCell ⟨gn,0,none⟩ (.slice A8 n8 c8)).setCell ⟨ge,0,none⟩ (.int .i64 en)) ge 28 #[.int .i64 en]:=bS9.1
    obtain ⟨w9,hw9⟩:∃ W,(w8.setCell ⟨gn,0,none⟩ (.slice A8 n8 c8)).setCell ⟨ge,0,none⟩ (.int .i64 en)=W:=⟨_,rfl⟩
    rw [hw9] at bn9 no9 be9 B9 ⊢
    have y9:w9.cell? ⟨ge,0,none⟩=some (.int .i64 en):=be9.cell 0
    have hbd:=netT_bd bi
    rw [hnt] at hbd
    clear hw9 bS8 bS9 fz9e y9e fz8 fz8e y8 y8e be8 bn8 hb8 no8 K2 ow4 bn4 be4 y4 B8 k4 hnt
    by_cases he:en=0
    rotate_left
    · have htk:=Htk2.out
      rw [if_pos he] at htk
      subst htk
      have he2:(en != 0)=true:=by simpa using he
      go_upto_region 7 with fail
      have q1:∀ q:KSStep (TkS gn ge) w9.drew,q.w.cell? ⟨ge,0,none⟩=some (.int .i64 en):=fun q=>(q.h _ (TkS.e gn ge)).trans (be9.drew.cell 0)
      have q2:∀ w',Th.KSReach (TkS gn ge) w9.drew w'→w'.cell? ⟨gn,0,none⟩=some (.slice A8 n8 c8):=fun w' hk=>by
        obtain ⟨q,rfl⟩:=hk
        exact (q.h _ (TkS.n gn ge)).trans (bn9.drew.cell 0)
      refine wp_region_treeL 3 (.float 0 2 (.one 2 (.one 3 .done))) (Th.KSReach (TkS gn ge)) (Th.KSReach.trans _) (Th.KSReach.refl _) (by kernel_rfl) (by kernel_rfl) (by kernel_rfl) (fun KT hKT=>?_)
      repeat' first
        | ((with_reducible refine wpTreeL_done ?_);refine hKT _ _ ?_;clear hKT KT)
        | (with_reducible refine wpTreeL_two ?_ ?_)
        | ((with_reducible refine wpTreeL_float (fun KF hKF=>?_));(simp only [List.drop,List.take]);(repeat (first | go_big_quiet_skip | ((with_reducible refine onq_load (.tmp 2) ?_);refine wq_netload rfl (.tmp 2) rfl rfl q2 ?_) | go_big_quiet_step (fail) | quiet_step (fail)));refine wpQuiet_nil ?_;refine hKF _ ?_;clear hKF KF)
        | ((with_reducible refine wpTreeL_one (fun KO hKO=>?_));(simp only [List.drop,List.take]);(go_wp2_with (first | ((with_reducible refine on_store_at (.tmp 2) ?_);refine wb_store (cs:=#[.slice A8 n8 c8]) (cs':=#[.slice A8 n8 c8]) rfl _ (.tmp 2) _ rfl st_net rfl rfl bn9.drew rfl rfl (by simp [Value.oneCell']) ?_;intro w5 bn5 hg5;have be5:=be9.drew.grown hg5 (fun e=>by injection e with e;omega);have ks5:=ks_two bn9.drew be9.drew bn5 be5;have y5:w5.cell? ⟨ge,0,none⟩=some (.int .i64 en):=be5.cell 0;have fz5:=be5.frozen 0)));(first | (with_reducible refine anch_last (hKO _ _ ?_)) | refine anch_endL (Th.KSReach.of (by first | exact fun _ _=>rfl | assumption | (exact ks_alloc _ _ (by assumption)))) (hKO _ _ ?_));clear hKO KO)
      go_wp2
      have bS5:=be5.setCell 0 (.int .i64 en)
      have be6:Box (w5.setCell ⟨ge,0,none⟩ (.int .i64 en)) ge 28 #[.int .i64 en]:=bS5.1
      have bn6:=bn5.grown bS5.2 (fun e=>by injection e with e;omega)
      refine leaves_cons (f:=39) (args:=#[.pointer (some ⟨ge,0,none⟩),.pointer (some ⟨gn,0,none⟩)]) (by simp) (by simp [go_sem]) ?_
      refine (clear_any ge gn en _ _ _ .returning _ hne be6 bn6 _ rfl).mono ?_
      rintro x u' w7 ⟨rfl,rfl,bn7,be7,hg7⟩
      rw [if_neg he] at bn7
      refine ⟨_,results_cc rfl _ w7 gn ge _ _ _ rfl bn7 rfl (be7.cell 0) Tryz.underlying34 rfl st_net.size Tryz.underlying28,none,0,0,[],rfl,NRd.nil _ _,rfl,?_⟩
      have B5:Below w.heap.size w w5:=B9.drew.trans (below_of_grown hg5 (fun j e=>by injection e with e;omega) B9.size)
      have B6:=B5.trans (below_of_grown bS5.2 (fun j e=>by injection e with e;omega) B5.size)
      exact B6.trans (below_of_grown hg7 (fun j e=>by injection e with e;omega) B6.size)
    · subst he
      have htk:=Htk2.out
      rw [if_neg (by simp)] at htk
      obtain ⟨em,hem⟩:∃ em,nmay lss=em:=⟨_,rfl⟩
      rw [hem] at htk
      have hl8:=no9.rd.len
      have hK:=netmay_any A8 n8 c8 ns w9.drew (by rw [← hns,Nd.ls_len] at hbd;omega) (by rw [hns];have:=hbd.2;simp only at this;omega) _ ((no9.below (bdrew1 w9)).rd) em (by rw [hns];exact hem)
      have K3:=Lib.hid hK
      have Htk3:=Lib.hid htk
      clear htk Htk2 hK hem hbd
      go_upto_region 8 with fail
      have q2:∀ w',Th.KSReach (TkS gn ge) w9.drew w'→w'.cell? ⟨gn,0,none⟩=some (.slice A8 n8 c8):=fun w' hk=>by
        obtain ⟨q,rfl⟩:=hk
        exact (q.h _ (TkS.n gn ge)).trans (bn9.drew.cell 0)
      refine wp_region_treeL 4 (.float 0 2 (.one 2 (.one 3 (.one 4 .done)))) (Th.KSReach (TkS gn ge)) (Th.KSReach.trans _) (Th.KSReach.refl _) (by kernel_rfl) (by kernel_rfl) (by kernel_rfl) (fun KT hKT=>?_)
      repeat' first
        | ((with_reducible refine wpTreeL_done ?_);refine hKT _ _ ?_;clear hKT KT)
        | (with_reducible refine wpTreeL_two ?_ ?_)
        | ((with_reducible refine wpTreeL_float (fun KF hKF=>?_));(simp only [List.drop,List.take]);(repeat (first | go_big_quiet_skip | ((with_reducible refine onq_load (.tmp 2) ?_);refine wq_netload rfl (.tmp 2) rfl rfl q2 ?_) | go_big_quiet_step (fail) | quiet_step (fail)));refine wpQuiet_nil ?_;refine hKF _ ?_;clear hKF KF)
        | ((with_reducible refine wpTreeL_one (fun KO hKO=>?_));(simp only [List.drop,List.take]);(go_wp2_with (first | (go_at_call 32;refine (K3.out).mono ?_;rintro e w10 ⟨rfl,hb10⟩;have bn10:=bn9.drew.step hb10;have be10:=be9.drew.step hb10;have ks10:=ks_two bn9.drew be9.drew bn10 be10) | ((with_reducible refine on_store_at (.tmp 2) ?_);refine wb_store (cs:=#[.slice A8 n8 c8]) (cs':=#[.slice A8 n8 c8]) rfl _ (.tmp 2) _ rfl st_net rfl rfl bn10 rfl rfl (by simp [Value.oneCell']) ?_;intro w5 bn5 hg5;have be5:=be10.grown hg5 (fun e=>by injection e with e;omega);have ks5:=ks_two bn10 be10 bn5 be5;have y5:w5.cell? ⟨ge,0,none⟩=some (.int .i64 0):=be5.cell 0;have fz5:=be5.frozen 0)));(first | (with_reducible refine anch_last (hKO _ _ ?_)) | refine anch_endL (Th.KSReach.of (by first | exact fun _ _=>rfl | assumption | (exact ks_alloc _ _ (by assumption)))) (hKO _ _ ?_));clear hKO KO)
      go_wp2
      have bS5:=be5.setCell 0 (.int .i64 em)
      have be6:Box (w5.setCell ⟨ge,0,none⟩ (.int .i64 em)) ge 28 #[.int .i64 em]:=bS5.1
      have bn6:=bn5.grown bS5.2 (fun e=>by injection e with e;omega)
      refine leaves_cons (f:=39) (args:=#[.pointer (some ⟨ge,0,none⟩),.pointer (some ⟨gn,0,none⟩)]) (by simp) (by simp [go_sem]) ?_
      refine (clear_any ge gn em _ _ _ .returning _ hne be6 bn6 _ rfl).mono ?_
      rintro x u' w7 ⟨rfl,rfl,bn7,be7,hg7⟩
      have B5:Below w.heap.size w w10:=B9.drew.trans (hb10.mono B9.size)
      have B5:=B5.trans (below_of_grown hg5 (fun j e=>by injection e with e;omega) B5.size)
      have B6:=B5.trans (below_of_grown bS5.2 (fun j e=>by injection e with e;omega) B5.size)
      have B7:=B6.trans (below_of_grown hg7 (fun j e=>by injection e with e;omega) B6.size)
      by_cases hm:em=0
      · subst hm
        have ht:=Htk3.out
        rw [if_neg (by simp)] at ht
        subst ht
        rw [if_pos rfl] at bn7
        have no10:=(no9.below (bdrew1 w9)).below hb10
        have no7:=((no10.grown hg5 (fun j e=>by injection e with e;omega)).grown bS5.2 (fun j e=>by injection e with e;omega)).grown hg7 (fun j e=>by injection e with e;omega)
        exact ⟨_,results_cc rfl _ w7 gn ge _ _ _ rfl bn7 rfl (be7.cell 0) Tryz.underlying34 rfl st_net.size Tryz.underlying28,A8,n8,c8,ns,rfl,no7.rd,hns,B7⟩
      · have ht:=Htk3.out
        rw [if_pos hm] at ht
        subst ht
        rw [if_neg hm] at bn7
        exact ⟨_,results_cc rfl _ w7 gn ge _ _ _ rfl bn7 rfl (be7.cell 0) Tryz.underlying34 rfl st_net.size Tryz.underlying28,none,0,0,[],rfl,NRd.nil _ _,rfl,B7⟩
open Go.RowKit Go.Th
theorem tmayGo_each {nodes:Int}:∀ (l:List Ru) (p:Option Ru),tmayGo nodes p l=0→∀ r∈l,r.may nodes=0
  | [],_,_,r,hr=>by cases hr
  | x :: l,p,h,r,hr=>by
    rw [tmayGo] at h
    by_cases h1:x.may nodes≠0
    · rw [if_pos h1] at h;exact absurd h h1
    · rw [if_neg h1] at h
      by_cases h2:outOf p x=true
      · rw [if_pos h2] at h;cases h
      · rw [if_neg h2] at h
        rcases List.mem_cons.1 hr with rfl | hr
        · simpa using h1
        · exact tmayGo_each l _ h r hr
theorem may_fit1 {r:Ru} {nodes:Int} (hok:r.Ok) (hn:nodes≤256) (h:r.may nodes=0):∀ j,j < 4→Fit1 r j:=by
  unfold Ru.may pmay at h
  by_cases h1:r.n < 0∨32 < r.n
  · simp [h1] at h
  · have ha:=hok.a
    by_cases h2:r.a.toNat % 2 ^ sh r.n=0
    · simp only [h1,h2,if_true,if_false,ne_eq,not_true_eq_false] at h
      by_cases h3:r.act=1
      · rw [if_pos h3] at h
        by_cases h4:r.next < 0∨nodes≤r.next
        · rw [if_pos h4] at h;cases h
        · exact fit1_all ⟨by omega,by omega⟩ ⟨by omega,by omega⟩ ⟨by omega,by omega⟩ ⟨by omega,by omega⟩
      · rw [if_neg h3] at h
        by_cases h4:r.act=2∨r.act=3
        · rw [if_pos h4] at h
          by_cases h5:r.next≠0
          · rw [if_pos h5] at h;cases h
          · exact fit1_all ⟨by omega,by omega⟩ ⟨by omega,by omega⟩ ⟨by omega,by omega⟩ ⟨by omega,by omega⟩
        · rw [if_neg h4] at h;cases h
    · simp [h1,h2] at h
theorem nmay_rfit {ns:List (List Ru)} (h:nmay ns=0) (hok:∀ l∈ns,∀ r∈l,r.Ok):∀ l∈ns,∀ r∈l,RFit r:=by
  obtain ⟨h1,h2,h3⟩:=nmay_zero.1 h
  exact fun l hl r hr=>⟨hok l hl r hr,may_fit1 (hok l hl r hr) (by omega) (tmayGo_each l none (h3 l hl) r hr)⟩
theorem gtake_put (n:Nat) (hn:n < 268435456) (t:List UInt8):gtake (gput n ++ t)=(n,gsize n,0):=gtake_gput n hn t
theorem drop_gput (n:Nat) (t:List UInt8):(gput n ++ t).drop (gsize n)=t:=List.drop_left' (gput_length n)
theorem rules_put (l:List Ru) (hl:l.length≤4096) (hf:∀ r∈l,∀ j,j < 4→Fit1 r j):allT rdr 4096 (lbody l)=(l,0):=by
  unfold lbody
  rw [allT_go (by rw [gtake_put _ (by omega)]) (by rw [gtake_put _ (by omega)];omega),gtake_put _ (by omega),drop_gput]
  have:=goT_put (one:=rdr) (put:=fun r=>pre r 4) l [] [] (fun r hr t=>rdr_put r (hf r hr) t)
  rw [List.append_nil,if_pos rfl,List.nil_append] at this
  exact this
theorem node_put (l:List Ru) (hl:l.length≤4096) (hf:∀ r∈l,∀ j,j < 4→Fit1 r j) (t:List UInt8):nodeT (fsec 84 (lbody l) ++ t)=(l,t,0):=by
  unfold nodeT
  rw [fopen_fsec 84 (lbody l) t (by have:=lbody_length l;have:=gsize_pos l.length;omega)]
  simp only [rules_put l hl hf]
  rfl
theorem net_put (ns:List (List Ru)) (hn:ns.length≤256) (hl:∀ l∈ns,l.length≤4096) (hf:∀ l∈ns,∀ r∈l,∀ j,j < 4→Fit1 r j) (t:List UInt8):netT (nbody ns ++ t)=if t=[] then (ns,0) else ([],4):=by
  unfold netT nbody
  rw [List.append_assoc,allT_go (by rw [gtake_put _ (by omega)]) (by rw [gtake_put _ (by omega)];omega),gtake_put _ (by omega),drop_gput]
  have:=goT_put (one:=nodeT) (put:=fun l=>fsec 84 (lbody l)) ns [] t (fun l hx t=>node_put l (hl l hx) (hf l hx) t)
  rw [List.nil_append] at this
  exact this
structure NOk (ns:List (List Ru)):Prop where
  may:nmay ns=0
  ok:∀ l∈ns,∀ r∈l,r.Ok
theorem NOk.put {ns:List (List Ru)} (h:NOk ns) (t:List UInt8):netT (nbody ns ++ t)=if t=[] then (ns,0) else ([],4):=by
  obtain ⟨h1,h2,h3⟩:=nmay_zero.1 h.may
  exact net_put ns h1 (fun l hl=>by have:=len_le_nsize hl;omega) (fun l hl r hr=>(nmay_rfit h.may h.ok l hl r hr).2) t
theorem inT_put {ns:List (List Ru)} (h:NOk ns):inT (nbody ns)=(ns,0):=by
  have:=h.put []
  rw [List.append_nil,if_pos rfl] at this
  unfold inT
  rw [this]
  simp [h.may]
theorem rules_back {bs:List UInt8} (h:(allT rdr 4096 bs).2=0):bs=lbody (allT rdr 4096 bs).1∧∀ r∈(allT rdr 4096 bs).1,r.Ok∧∀ j,j < 4→Fit1 r j:=by
  by_cases h1:(gtake bs).2.2=0
  · by_cases h2:4096 < (gtake bs).1
    · rw [allT_many h1 h2] at h;cases h
    · rw [allT_go h1 h2] at h ⊢
      obtain ⟨xs,hx,hl,hb,ho⟩:=goT_back (one:=rdr) (put:=fun r=>pre r 4) (ok:=fun r=>r.Ok∧∀ j,j < 4→Fit1 r j) (fun b h=>⟨rdr_back h,rdr_fit b⟩) _ _ _ h
      rw [hx,List.nil_append]
      refine ⟨?_,ho⟩
      rcases gtake_what bs with h3 | h3 | ⟨n,k,h3,h4,h5,h6,h7,h8⟩
      · rw [h3.1] at h1;cases h1
      · rw [h3] at h1;cases h1
      · rw [h3] at hl hb
        unfold lbody
        rw [hl,h8]
        show bs=bs.take k ++ lrows xs
        conv=>lhs;rw [← List.take_append_drop k bs]
        rw [show lrows xs=bs.drop k from hb.symm]
  · rw [allT_err h1] at h;exact absurd h h1
theorem fopen_back {tag:UInt8} {bs:List UInt8} (h:(fopen tag bs).2.2=0):bs=fsec tag (fopen tag bs).1 ++ (fopen tag bs).2.1:=by
  cases bs with
  | nil=>cases h
  | cons b r =>
    rw [fopen_cons] at h ⊢
    by_cases h1:b=tag
    · rw [if_pos h1] at h ⊢
      by_cases h2:(gtake r).2.2=0
      · rw [if_pos h2] at h ⊢
        by_cases h3:(r.drop (gtake r).2.1).length < (gtake r).1
        · rw [if_pos h3] at h;cases h
        · rw [if_neg h3]
          rcases gtake_what r with h4 | h4 | ⟨n,k,h4,h5,h6,h7,h8,h9⟩
          · rw [h4.1] at h2;cases h2
          · rw [h4] at h2;cases h2
          · rw [h4] at h3 ⊢
            simp only [List.length_drop] at h3
            have hl:((r.drop k).take n).length=n:=by rw [List.length_take,List.length_drop];omega
            unfold fsec
            simp only [hl,h9,h1]
            rw [List.cons_append,List.append_assoc,List.take_append_drop,List.take_append_drop]
      · rw [if_neg h2] at h;exact absurd h h2
    · rw [if_neg h1] at h;cases h
theorem node_back {bs:List UInt8} (h:(nodeT bs).2.2=0):bs=fsec 84 (lbody (nodeT bs).1) ++ (nodeT bs).2.1∧∀ r∈(nodeT bs).1,r.Ok∧∀ j,j < 4→Fit1 r j:=by
  unfold nodeT at h ⊢
  by_cases h1:(fopen 84 bs).2.2≠0
  · rw [if_pos h1] at h;exact absurd h h1
  · rw [if_neg h1] at h ⊢
    by_cases h2:(allT rdr 4096 (fopen 84 bs).1).2≠0
    · rw [if_pos h2] at h;exact absurd h h2
    · rw [if_neg h2]
      simp only [ne_eq,Decidable.not_not] at h1 h2
      obtain ⟨h3,h4⟩:=rules_back h2
      refine ⟨?_,h4⟩
      have:=fopen_back h1
      rw [h3] at this
      exact this
theorem net_back {bs:List UInt8} (h:(netT bs).2=0):bs=nbody (netT bs).1∧∀ l∈(netT bs).1,∀ r∈l,r.Ok:=by
  unfold netT at h ⊢
  by_cases h1:(gtake bs).2.2=0
  · by_cases h2:256 < (gtake bs).1
    · rw [allT_many h1 h2] at h;cases h
    · rw [allT_go h1 h2] at h ⊢
      obtain ⟨xs,hx,hl,hb,ho⟩:=goT_back (one:=nodeT) (put:=fun l=>fsec 84 (lbody l)) (ok:=fun l=>∀ r∈l,r.Ok∧∀ j,j < 4→Fit1 r j) (fun b h=>node_back h) _ _ _ h
      rw [hx,List.nil_append]
      refine ⟨?_,fun l hl r hr=>(ho l hl r hr).1⟩
      rcases gtake_what bs with h3 | h3 | ⟨n,k,h3,h4,h5,h6,h7,h8⟩
      · rw [h3.1] at h1;cases h1
      · rw [h3] at h1;cases h1
      · rw [h3] at hl hb
        unfold nbody
        rw [hl,h8]
        show bs=bs.take k ++ nrows xs
        conv=>lhs;rw [← List.take_append_drop k bs]
        rw [show nrows xs=bs.drop k from hb.symm]
  · rw [allT_err h1] at h;exact absurd h h1
theorem inT_back {bs:List UInt8} (h:(inT bs).2=0):NOk (inT bs).1∧nbody (inT bs).1=bs:=by
  unfold inT at h ⊢
  by_cases h1:(netT bs).2≠0
  · rw [if_pos h1] at h;exact absurd h h1
  · rw [if_neg h1] at h ⊢
    by_cases h2:nmay (netT bs).1≠0
    · rw [if_pos h2] at h;exact absurd h h2
    · rw [if_neg h2]
      simp only [ne_eq,Decidable.not_not] at h1 h2
      obtain ⟨h3,h4⟩:=net_back h1
      exact ⟨⟨h2,h4⟩,h3.symm⟩
theorem nfit_ok {ns:List (List Ru)} (hok:∀ l∈ns,∀ r∈l,r.Ok):NOk (nfit ns):=by
  have hm:=nmany_bd ns
  have hS:Sound (nmany ns:Int):=⟨by omega,by omega⟩
  have hall:∀ t,(t∈ns∨t=[])→∀ r∈t,r.Ok:=by
    rintro t (ht | rfl) r hr
    · exact hok t ht r hr
    · cases hr
  have hlen:∀ l∈nfit ns,l.length≤20:=by
    intro l hl
    obtain ⟨t,ht,rfl⟩:=nfit_each hl
    have:=fitT_length t (nmany ns)
    omega
  have hoks:∀ l∈nfit ns,∀ r∈l,r.Ok:=by
    intro l hl
    obtain ⟨t,ht,rfl⟩:=nfit_each hl
    exact fitT_ok t (nmany ns) (hall t ht) (by omega)
  refine ⟨nmay_zero.2 ⟨by rw [nfit_length];omega,by have:=nsize_le hlen;rw [nfit_length] at this;omega,?_⟩,hoks⟩
  intro l hl
  have ho:=hoks l hl
  obtain ⟨t,ht,rfl⟩:=nfit_each hl
  rw [nfit_length]
  exact tmay_ok (fitT_good hS t (hall t ht)).sorted (fitted_may (by omega) (fitT_fitted hS t (hall t ht)) ho)
theorem nfit_size {ns:List (List Ru)} (hok:∀ l∈ns,∀ r∈l,r.Ok):(∀ l∈nfit ns,l.length≤20)∧(nfit ns).length≤8∧1≤(nfit ns).length:=by
  have hm:=nmany_bd ns
  refine ⟨?_,by rw [nfit_length];omega,by rw [nfit_length];omega⟩
  intro l hl
  obtain ⟨t,ht,rfl⟩:=nfit_each hl
  have:=fitT_length t (nmany ns)
  omega
theorem ntk_fput (bs:List UInt8):ntk (fput 1179206193 bs)=inT bs:=by
  unfold ntk
  rw [ftake_fput]
  simp
end Go.Proofs.YtjandnidljbkoaaGreat
namespace Go.Th
open Go.RowKit
section
variable {w w':World} {B B' size n c base:Nat} {A:Option Addr} {xs:List Value} {e:TypeId}
end
section
variable {α:Type} {f:α→Value} {w w':World} {B B' n c base:Nat} {A:Option Addr} {xs:List α} {e:TypeId}
end
section
variable {P:Program} {ops:Array Oper} {rest:List Oper} {o:Oper} {a:Act} {Q:Exit→Act→World→Prop} {w:World}
section
variable (hw:Region.wanted o (yielded ops a.tmps)=true) (T:TypeId) (s:Operand) {E bytes:Nat} {z:Value} (el:El P T E z bytes)
    {α:Type} {f:α→Value} {A:Option Addr} {n c:Nat} (hs:a.eval s=.slice A n c) {B:Nat} {xs:List α} (hr:RdS f w B A n c xs)
include hw el hs hr
end
end
section
variable {P:Program} {ops:Array Oper} {Q:Exit→Act→World→Prop} {rest:List Oper} {a:Act} {w:World}
end
structure Row0 (l:List Int):Prop where
  head:l[0]? = some 0
  up:l.Pairwise (· < ·)
  rng:∀ x∈l,0≤x∧x≤4294967295
open Go.RowKit
section
variable {P:Program} {ops:Array Oper} {rest:List Oper} {o:Oper} {a:Act} {C:World→Prop} {Q:Act→Prop}
section
variable (hw:Region.wanted o (yielded ops a.tmps)=true) (T:TypeId) (s:Operand) {E bytes:Nat} {z:Value} (el:El P T E z bytes)
    {α:Type} {f:α→Value} {A:Option Addr} {n c:Nat} (hs:a.eval s=.slice A n c) {B:Nat} {xs:List α} (hr:RdC f C B A n c xs) {w0:World} (hC0:C w0)
include hw el hs hr hC0
end
end
open Go.RowKit
section
variable {α:Type} {f:α→List Value} {k:Nat} {w w':World} {B B' n c base:Nat} {A:Option Addr} {xs:List α} {e:TypeId}
end
section
variable {P:Program} {ops:Array Oper} {rest:List Oper} {o:Oper} {a:Act} {Q:Exit→Act→World→Prop} {w:World} {α:Type} {f:α→List Value} {k:Nat} (hf:∀ x,(f x).length=k)
section
variable (hf:∀ x,(f x).length=k) (hw:Region.wanted o (yielded ops a.tmps)=true) (T:TypeId) (s:Operand) {E bytes:Nat} {z:Value} (el:ElM P T E z bytes k)
    {A:Option Addr} {n c:Nat} (hs:a.eval s=.slice A n c) {B:Nat} {xs:List α} (hr:RdM f w B A n c xs)
include hf hw el hs hr
end
end
section
variable {w w':World} {g:Nat} {t:TypeId} {cs:Array Value}
end
section
variable {P:Program} {ops:Array Oper} {rest:List Oper} {o:Oper} {a:Act} {Q:Exit→Act→World→Prop} {w:World}
end
open Go.RowKit
section
variable {P:Program} {ops:Array Oper} {G:World→World→Prop} {md:Region.Mode}
end
instance (B:Nat) (w:World):Nonempty (Step B w):=⟨⟨w,Below.refl _ _⟩⟩
attribute [go_sem] Reach
section
variable {P:Program} {ops:Array Oper} {rest:List Oper} {o:Oper} {a:Act} {B':Nat} {w0:World} {Q:Act→Prop}
end
open Go.RowKit
section
variable {P:Program} {ops:Array Oper} {rest:List Oper} {o:Oper} {a:Act} {C:World→Prop} {Q:Act→Prop}
end
section
variable {P:Program} {ops:Array Oper} {C:World→Prop} {Q:Act→Prop} {rest:List Oper} {o:Oper} {a:Act}
end
section
variable {P:Program} {ops:Array Oper} {rest:List Oper} {o:Oper} {a:Act} {Q:Exit→Act→World→Prop} {w:World}
end
section
variable {P:Program} {ops:Array Oper} {rest:List Oper} {o:Oper} {a:Act} {Q:Exit→Act→World→Prop} {w:World}
end
open Go.RowKit
section
variable {P:Program} {ops:Array Oper} {rest:List Oper} {o:Oper} {a:Act} {Q:Exit→Act→World→Prop} {w:World}
end
section
variable {P:Program} {ops:Array Oper} {rest:List Oper} {o:Oper} {a:Act} {C:World→Prop} {Q:Act→Prop}
end
section
variable {P:Program} {ops:Array Oper} {rest:List Oper} {o:Oper} {a:Act} {C:World→Prop} {Q:Act→Prop} {α:Type} {f:α→List Value} {k:Nat}
section
variable (hf:∀ x,(f x).length=k) (hw:Region.wanted o (yielded ops a.tmps)=true) (T:TypeId) (s:Operand) {E bytes:Nat} {z:Value} (el:ElM P T E z bytes k)
    {A:Option Addr} {n c:Nat} (hs:a.eval s=.slice A n c) {B:Nat} {xs:List α} (hr:∀ w,C w→RdM f w B A n c xs) {w0:World} (hC0:C w0)
include hf hw el hs hr hC0
end
end
open Go.RowKit
section
variable {P:Program} {ops:Array Oper} {rest:List Oper} {o:Oper} {a:Act} {Q:Exit→Act→World→Prop} {w:World}
end
section
variable {P:Program} {ops:Array Oper} {C:World→Prop} {Q:Act→Prop} {rest:List Oper} {a:Act}
end
open Go.RowKit
structure Pt where
  fr:Int
  «to»:Int
  A:Option Addr
  n:Nat
  c:Nat
  rk:List Int
def Pt.cs (p:Pt):List Value:=[.int .u32 p.fr,.int .u32 p.to,.slice p.A p.n p.c]
theorem Pt.cs_length (p:Pt):p.cs.length=3:=rfl
structure Pt.Ok (p:Pt):Prop where
  fr:0≤p.fr∧p.fr≤4294967295
  «to»:0≤p.to∧p.to≤4294967295
theorem Pt.one (p:Pt):∀ u∈p.cs,u.oneCell' = true:=by
  intro u hu
  simp only [Pt.cs,List.mem_cons,List.not_mem_nil,or_false] at hu
  rcases hu with rfl | rfl | rfl <;> rfl
def meetF:Int→List Pt→Bool
  | x,[]=>decide (x=4294967296)
  | x,p :: ps=>decide (p.fr=x) && (decide (p.fr≤p.to) && meetF (p.to+1) ps)
def pmeet (ps:List Pt):Int:=if meetF 0 ps=true then 0 else 15
def nextOf (ps:List Pt):Nat→Int
  | 0=>0
  | k+1=>match ps[k]? with
    | some p=>p.to+1
    | none=>0
theorem nextOf_succ {ps:List Pt} {k:Nat} {p:Pt} (h:ps[k]? = some p):nextOf ps (k+1)=p.to+1:=by simp [nextOf,h]
theorem drop_cons {α:Type} {ps:List α} {k:Nat} {p:α} (h:ps[k]? = some p):ps.drop k=p :: ps.drop (k+1):=by
  obtain ⟨hl,e⟩:=List.getElem?_eq_some_iff.1 h
  rw [List.drop_eq_getElem_cons hl,e]
theorem meet_on {ps:List Pt} {k:Nat} {p:Pt} (h:ps[k]? = some p) (h1:p.fr=nextOf ps k) (h2:p.fr≤p.to):meetF (nextOf ps k) (ps.drop k)=meetF (nextOf ps (k+1)) (ps.drop (k+1)):=by
  rw [drop_cons h,nextOf_succ h]
  show (decide (p.fr=nextOf ps k) && (decide (p.fr≤p.to) && meetF (p.to+1) _))=_
  rw [decide_eq_true h1,decide_eq_true h2]
  rfl
theorem meet_no {ps:List Pt} {k:Nat} {p:Pt} (h:ps[k]? = some p) (h1:p.fr≠nextOf ps k∨p.to < p.fr):meetF (nextOf ps k) (ps.drop k)=false:=by
  rw [drop_cons h]
  simp only [meetF]
  rcases h1 with h1 | h1
  · simp [h1]
  · have:¬ p.fr≤p.to:=by omega
    simp [this]
theorem meet_last:∀ (ps:List Pt) (x:Int) (p:Pt),meetF x ps=true→ps.getLast? = some p→p.to=4294967295
  | [],_,_,_,h=>by simp at h
  | [q],x,p,h,hl=>by
    simp at hl
    subst hl
    simp only [meetF,Bool.and_eq_true,decide_eq_true_eq] at h
    omega
  | q :: r :: ps,x,p,h,hl=>by
    simp only [meetF,Bool.and_eq_true] at h
    exact meet_last (r :: ps) (q.to+1) p (by simp only [meetF,Bool.and_eq_true];exact h.2.2) (by rw [List.getLast?_cons_cons] at hl;exact hl)
theorem meet_first {ps:List Pt} {p:Pt} (h:ps[0]? = some p) (hf:p.fr≠0):meetF 0 ps=false:=by
  cases ps with
  | nil=>simp at h
  | cons q ps=>simp at h;subst h;simp [meetF,hf]
theorem meet_end {ps:List Pt} {n:Nat} {p:Pt} (hn:ps.length=n+1) (h:ps[n]? = some p) (hf:p.to≠4294967295):meetF 0 ps=false:=by
  cases hm:meetF 0 ps with
  | false=>rfl
  | true=>exact absurd (meet_last ps 0 p hm (by rw [List.getLast?_eq_getElem?,hn];exact h)) hf
def outs (nodes x:Int):Bool:=decide (x < 0) || decide (nodes≤x)
def ranks (nodes:Int):List Pt→Int
  | []=>0
  | p :: ps=>if (p.rk.length:Int)≠nodes then 1 else if p.rk.any (outs nodes)=true then 16 else ranks nodes ps
def cfree (ps:List Pt) (d:Int) (tr:List Int) (nodes:Int):Int :=
  if d≠0∨tr.length≠0 then 3 else if 8193 < ps.length then 12 else if meetF 0 ps=false then 15 else ranks nodes ps
def trgo (seen:List Int) (first:Int):List Int→Int
  | []=>0
  | x :: l=>if x∈seen∨x < first then 17 else trgo (seen ++ [x]) first l
def trfirst:List Int→Int
  | []=>0
  | x :: _=>x
def cloops (ps:List Pt) (tr:List Int) (nodes:Int):Int :=
  if ps.length≠0 then 3 else if tr.length=0∨nodes < tr.length then 12 else if tr.any (outs nodes)=true then 10 else trgo [] (trfirst tr) tr
def cmay (v:Int) (ps:List Pt) (d:Int) (tr:List Int) (nodes:Int):Int :=
  if v=1 then cfree ps d tr nodes else if v=2 then cloops ps tr nodes else 9
theorem ranks_on {ps:List Pt} {nodes:Int} {k:Nat} {p:Pt} (h:ps[k]? = some p) (h1:(p.rk.length:Int)=nodes) (h2:p.rk.any (outs nodes)=false):ranks nodes (ps.drop k)=ranks nodes (ps.drop (k+1)):=by
  rw [drop_cons h]
  simp only [ranks]
  rw [if_neg (by omega),if_neg (by simp [h2])]
theorem ranks_size {ps:List Pt} {nodes:Int} {k:Nat} {p:Pt} (h:ps[k]? = some p) (h1:(p.rk.length:Int)≠nodes):ranks nodes (ps.drop k)=1:=by
  rw [drop_cons h]
  simp only [ranks]
  rw [if_pos h1]
theorem ranks_out {ps:List Pt} {nodes:Int} {k:Nat} {p:Pt} (h:ps[k]? = some p) (h1:(p.rk.length:Int)=nodes) (h2:p.rk.any (outs nodes)=true):ranks nodes (ps.drop k)=16:=by
  rw [drop_cons h]
  simp only [ranks]
  rw [if_neg (by omega),if_pos h2]
theorem any_snoc {α:Type} {l:List α} {k:Nat} {x:α} (h:l[k]? = some x) (f:α→Bool):(l.take (k+1)).any f=((l.take k).any f || f x):=by
  rw [List.take_add_one,h]
  simp
theorem trgo_zero:∀ (l s:List Int) (f:Int),trgo s f l=0↔((∀ x∈l,x ∉ s∧f≤x)∧l.Nodup)
  | [],s,f=>by simp [trgo]
  | x :: l,s,f=>by
    simp only [trgo]
    by_cases h:x∈s∨x < f
    · rw [if_pos h]
      constructor
      · intro e;exact absurd e (by decide)
      · intro e
        have:=e.1 x (by simp)
        rcases h with h | h
        · exact absurd h this.1
        · omega
    · rw [if_neg h,trgo_zero l (s ++ [x]) f]
      simp only [List.mem_append,not_or,List.nodup_cons,List.mem_cons]
      constructor
      · intro ⟨e1,e2⟩
        refine ⟨fun y hy=>?_,fun hx=>(e1 x hx).1.2.1 rfl,e2⟩
        rcases hy with rfl | hy
        · exact ⟨fun hh=>h (.inl hh),by have:¬ y < f:=fun hh=>h (.inr hh);omega⟩
        · exact ⟨(e1 y hy).1.1,(e1 y hy).2⟩
      · intro ⟨e1,e2,e3⟩
        exact ⟨fun y hy=>⟨⟨(e1 y (.inr hy)).1,fun hh=>e2 (by rw [← hh];exact hy),by simp⟩,(e1 y (.inr hy)).2⟩,e3⟩
open Go.RowKit
def marks (n:Nat) (out:List Int):List Bool:=(List.range n).map fun (j:Nat)=>decide ((j:Int)∈out)
theorem marks_len (n:Nat) (out:List Int):(marks n out).length=n:=by simp [marks]
theorem meet_from (ps:List Pt):∀ (m k:Nat),k+m=ps.length→(meetF (nextOf ps k) (ps.drop k)=true↔(∀ j p,k≤j→ps[j]? = some p→p.fr=nextOf ps j∧p.fr≤p.to)∧nextOf ps ps.length=4294967296)
  | 0,k,h=>by
    have hk:k=ps.length:=by omega
    subst hk
    rw [List.drop_length]
    simp only [meetF,decide_eq_true_eq]
    refine ⟨fun e=>⟨fun j p hj hp=>?_,e⟩,fun e=>e.2⟩
    rw [List.getElem?_eq_none hj] at hp
    cases hp
  | m+1,k,h=>by
    have hk:k < ps.length:=by omega
    have hp:ps[k]? = some ps[k]:=List.getElem?_eq_getElem hk
    by_cases hc:ps[k].fr=nextOf ps k∧ps[k].fr≤ps[k].to
    · rw [meet_on hp hc.1 hc.2,meet_from ps m (k+1) (by omega)]
      refine ⟨fun ⟨h1,h2⟩=>⟨fun j p hj hpj=>?_,h2⟩,fun ⟨h1,h2⟩=>⟨fun j p hj hpj=>h1 j p (by omega) hpj,h2⟩⟩
      by_cases e:j=k
      · subst e;rw [hp] at hpj;injection hpj with hpj;subst hpj;exact hc
      · exact h1 j p (by omega) hpj
    · rw [meet_no hp (by omega)]
      refine ⟨fun h=>(by cases h),fun ⟨h1,_⟩=>absurd (h1 k _ (Nat.le_refl _) hp) hc⟩
theorem meet_iff (ps:List Pt):meetF 0 ps=true↔(∀ j p,ps[j]? = some p→p.fr=nextOf ps j∧p.fr≤p.to)∧nextOf ps ps.length=4294967296:=by
  have:=meet_from ps ps.length 0 (by omega)
  rw [List.drop_zero] at this
  rw [show (0:Int)=nextOf ps 0 from rfl,this]
  exact ⟨fun ⟨h1,h2⟩=>⟨fun j p=>h1 j p (Nat.zero_le _),h2⟩,fun ⟨h1,h2⟩=>⟨fun j p _=>h1 j p,h2⟩⟩
def pkey (p:Pt):Int × Int × List Int:=(p.fr,p.to,p.rk)
def endOf (l:List Int) (i:Nat):Int:=if i+1 < l.length then l.getD (i+1) 0 - 1 else 4294967295
def frk (rs:List Int) (n at_:Nat):Int:=if rs=[] then 0 else (rs.getD (at_ % rs.length) 0) % n
def franks (rs:List Int) (n i:Nat):List Int:=(List.range n).map fun k=>frk rs n (i * n+k)
def fpart (l rs:List Int) (n i:Nat):Int × Int × List Int:=(l.getD i 0,endOf l i,franks rs n i)
def fparts (l rs:List Int) (n:Nat):List (Int × Int × List Int):=(List.range l.length).map (fpart l rs n)
structure FPs (l rs:List Int) (n:Nat) (ps:List Pt):Prop where
  key:ps.map pkey=fparts l rs n
  row:Row0 l
  pos:0 < n
section
variable {l rs:List Int} {n:Nat} {ps:List Pt} (h:FPs l rs n ps)
include h
end
open Go.RowKit
section
variable {P:Program} {ops:Array Oper} {rest:List Oper} {o:Oper} {a:Act} {Q:Exit→Act→World→Prop} {w:World}
theorem wpt_load (hw:Region.wanted o (yielded ops a.tmps)=true) (T:TypeId) (x:Operand) (ho:o.op=.load T x) (st:St P T 3) {b j:Nat} {r:Pt} (hx:a.eval x=.pointer (some ⟨b,j,none⟩)) (hc:Hid (∀ i v,r.cs[i]? = some v→w.cell? ⟨b,j+i,none⟩=some v))
    (h:wpList P ops Q rest (a.put o.dst (.agg #[.int .u32 r.fr,.int .u32 r.to,.slice r.A r.n r.c])) w):wpList P ops Q (o :: rest) a w :=
  wm_load hw T x ho st hx (Pt.cs_length r) hc.out h
theorem wpt_box (hw:Region.wanted o (yielded ops a.tmps)=true) (T:TypeId) (x:Operand) (ho:o.op=.load T x) (st:St P T 3) {g:Nat} {t:TypeId} {r:Pt} (hx:a.eval x=.pointer (some ⟨g,0,none⟩)) (hb:Box w g t r.cs.toArray)
    (h:wpList P ops Q rest (a.put o.dst (.agg #[.int .u32 r.fr,.int .u32 r.to,.slice r.A r.n r.c])) w):wpList P ops Q (o :: rest) a w :=
  wb_load hw T x ho st hx hb rfl h
theorem wpt_store (hw:Region.wanted o (yielded ops a.tmps)=true) (T:TypeId) (x y:Operand) (ho:o.op=.store T x y) (st:St P T 3) {g:Nat} {t:TypeId} {r s:Pt} (hx:a.eval x=.pointer (some ⟨g,0,none⟩)) (hy:a.eval y=.agg #[.int .u32 s.fr,.int .u32 s.to,.slice s.A s.n s.c])
    (hb:Box w g t r.cs.toArray) (h:∀ w',Box w' g t s.cs.toArray→w.grownBy w' (some g)→wpList P ops Q rest (a.put o.dst undef) w'):wpList P ops Q (o :: rest) a w :=
  wb_store hw T x y ho st hx hy hb rfl rfl (by simp [Value.oneCell']) h
end
def Pt.zero:Pt:=⟨0,0,none,0,0,[]⟩
theorem Box.part {w:World} {g:Nat} {t:TypeId} {r:Pt} (h:Box w g t r.cs.toArray):w.cell? ⟨g,0,none⟩=some (.int .u32 r.fr)∧w.cell? ⟨g,1,none⟩=some (.int .u32 r.to)∧w.cell? ⟨g,2,none⟩=some (.slice r.A r.n r.c) :=
  ⟨h.cell 0,h.cell 1,h.cell 2⟩
theorem Box.partC {w:World} {g:Nat} {t:TypeId} {r:Pt} (h:Box w g t r.cs.toArray):(∀ q:Step w.heap.size w,q.w.cell? ⟨g,0,none⟩=some (.int .u32 r.fr))∧(∀ q:Step w.heap.size w,q.w.cell? ⟨g,1,none⟩=some (.int .u32 r.to))∧(∀ q:Step w.heap.size w,q.w.cell? ⟨g,2,none⟩=some (.slice r.A r.n r.c)) :=
  ⟨fun q=>(h.step q.h).part.1,fun q=>(h.step q.h).part.2.1,fun q=>(h.step q.h).part.2.2⟩
section
variable {P:Program} {ops:Array Oper} {rest:List Oper} {o:Oper} {a:Act} {C:World→Prop} {Q:Act→Prop} {α:Type} {f:α→List Value} {k:Nat}
theorem wqm_at (hf:∀ x,(f x).length=k) (hw:Region.wanted o (yielded ops a.tmps)=true) (T:TypeId) (s i:Operand) (ho:o.op=.indexAddr T s i) {E bytes:Nat} {z:Value} (el:ElM P T E z bytes k)
    {A:Option Addr} {n c:Nat} {kk:IntKind} {I:Int} (hs:a.eval s=.slice A n c) (hi:a.eval i=.int kk I) (h0:0≤I) (h1:I < n) {w0:World} (hC0:C w0)
    {B:Nat} {xs:List α} (hr:∀ w,C w→RdM f w B A n c xs)
    (h:∀ (b j:Nat) (x:α),Hid (xs[I.toNat]? = some x)→Hid (∀ w,C w→∀ i v,(f x)[i]? = some v→w.cell? ⟨b,j+i,none⟩=some v)→wpQuiet P ops C Q rest (a.put o.dst (.pointer (some ⟨b,j,none⟩)))) :
    wpQuiet P ops C Q (o :: rest) a:=by
  have hl:I.toNat < xs.length:=by have:=(hr w0 hC0).len;omega
  obtain ⟨b,off,hA,hb,hc⟩:=(hr w0 hC0).cells hf (List.getElem?_eq_getElem hl) el.pos
  subst hA
  refine wq_run hw (v:=.pointer (some ⟨b,off+I.toNat * k,none⟩)) (fun w hC=>?_) ?_
  · have:=run_indexAt (P:=P) (w:=w) T el.ht (el.size w) ⟨b,off,none⟩ n c kk I h0 h1
    rw [Addr.add_lit] at this
    simp only [execOp,ho,hs,hi,Sem.run_bind,this,Result.andThen,Sem.run_pure]
  · refine h b _ xs[I.toNat] (List.getElem?_eq_getElem hl) fun w hC=>?_
    obtain ⟨b',off',hA',_,hc'⟩:=(hr w hC).cells hf (List.getElem?_eq_getElem hl) el.pos
    injection hA' with hA'
    injection hA' with e1 e2
    subst e1 e2
    exact hc'
end
structure PRd (w:World) (B:Nat) (A:Option Addr) (n c:Nat) (ps:List Pt):Prop where
  rd:RdM Pt.cs w B A n c ps
  rk:∀ p∈ps,RdS iv w B p.A p.n p.c p.rk
  ok:∀ p∈ps,p.Ok
theorem PRd.step {w w':World} {B:Nat} {A:Option Addr} {n c:Nat} {ps:List Pt} (h:PRd w B A n c ps) (hb:Below w.heap.size w w'):PRd w' B A n c ps:=⟨h.rd.step hb,fun p hp=>(h.rk p hp).step hb,h.ok⟩
theorem PRd.more {w:World} {B B':Nat} {A:Option Addr} {n c:Nat} {ps:List Pt} (h:PRd w B A n c ps) (hB:B≤B'):PRd w B' A n c ps:=⟨h.rd.more hB,fun p hp=>(h.rk p hp).more hB,h.ok⟩
end Go.Th
namespace Go.Proofs.YtjandnidljbkoaaGreat
open Go.RowKit Go.Th
theorem info_part:(Tryz.prog.info? 102).map (fun i=>(i.zero,i.size,i.bytes))=some (some (.agg #[.int .u32 0,.int .u32 0,.slice none 0 0]),3,32):=by kernel_rfl
theorem size_part (w:World):(sizeOf 102).run Tryz.prog w=.ok 3 w:=by kernel_rfl
theorem el_part:ElM Tryz.prog 37 102 (.agg #[.int .u32 0,.int .u32 0,.slice none 0 0]) 32 3:=⟨Tryz.underlying37,info_parts info_part,rfl,size_part,by omega⟩
theorem st_part:St Tryz.prog 102 3:=⟨⟨_,Tryz.underlying102⟩,by kernel_rfl⟩
def MeetRel (ps:List Pt) (n:Nat) (w:World) (i:Value) (wr:World):Prop :=
  ∃ k:Nat,k≤n∧i=.int .i64 k∧Hid (meetF 0 ps=meetF (nextOf ps k) (ps.drop k))∧Below w.heap.size w wr
set_option maxRecDepth 100000 in
set_option maxHeartbeats 4000000 in
theorem meet_any (A:Option Addr) (n c:Nat) (ps:List Pt) (w:World) (hm:n≤9223372036854775807) (B:Nat) (hr:RdM Pt.cs w B A n c ps) (hok:∀ p∈ps,p.Ok) :
    Calls Tryz.prog 130 #[.slice A n c] w (RetB (.int .i64 (pmeet ps)) w):=by
  have Hok:=Lib.hid hok
  have hlen:=hr.len
  clear hok
  rcases Nat.eq_zero_or_pos n with hn0 | hn0
  · have hv:pmeet ps=15:=by
      have:ps=[]:=List.eq_nil_of_length_eq_zero (by omega)
      subst this
      rfl
    rw [hv]
    clear hv hlen
    subst hn0
    go_enter Tryz.func130,Tryz.ntmps130
    go_wp2
    go_ret
    exact ⟨rfl,Below.refl _ _⟩
  obtain ⟨p0,hp0⟩:∃ p,ps[0]? = some p:=⟨ps[0]'(by omega),List.getElem?_eq_getElem _⟩
  obtain ⟨m,rfl⟩:∃ m,n=m+1:=⟨n - 1,by omega⟩
  obtain ⟨pl,hpl⟩:∃ p,ps[m]? = some p:=⟨ps[m]'(by omega),List.getElem?_eq_getElem _⟩
  obtain ⟨v,hv⟩:∃ v,pmeet ps=v:=⟨_,rfl⟩
  have hways:((p0.fr != 0)=true∧v=15)∨((p0.fr != 0)=false∧(pl.to != 4294967295)=true∧v=15)∨((p0.fr != 0)=false∧(pl.to != 4294967295)=false∧p0.fr=0∧pl.to=4294967295):=by
    by_cases h1:p0.fr=0
    · by_cases h2:pl.to=4294967295
      · exact .inr (.inr ⟨by simp [h1],by simp [h2],h1,h2⟩)
      · exact .inr (.inl ⟨by simp [h1],by simp [h2],by rw [← hv];unfold pmeet;rw [meet_end hlen hpl h2];rfl⟩)
    · exact .inl ⟨by simp [h1],by rw [← hv];unfold pmeet;rw [meet_first hp0 h1];rfl⟩
  have n1:(((m+1:Nat):Int) == 0)=false:=by simp;omega
  have Hp0:=Lib.hid hp0
  have Hpl:=Lib.hid hpl
  have Hv:=Lib.hid hv
  have Hlen:=Lib.hid hlen
  have o0:=Hok.out p0 (List.mem_of_getElem? hp0)
  have ol:=Hok.out pl (List.mem_of_getElem? hpl)
  have o01:=o0.fr.1
  have o02:=o0.fr.2
  have ol1:=ol.to.1
  have ol2:=ol.to.2
  clear hp0 hpl hlen hn0 o0 ol
  rw [hv]
  clear hv
  rcases hways with ⟨h1,rfl⟩ | ⟨h1,h2,rfl⟩ | ⟨h1,h2,h3,h4⟩
  · go_enter Tryz.func130,Tryz.ntmps130
    go_wp2_with ((with_reducible refine on_index (.tmp 9) ?_);refine wm_at Pt.cs_length rfl _ (.tmp 9) _ rfl el_part rfl rfl (by omega) (by omega) hr ?_;intro b1 j1 r1 hr1 hb1 hc1;have hxx:p0=r1:=get_eq Hp0.out hr1.out (by omega);subst hxx;have f0:w.cell? ⟨b1,j1,none⟩=some (.int .u32 p0.fr):=hc1.out 0 _ rfl)
    go_ret
    exact ⟨rfl,Below.refl _ _⟩
  · go_enter Tryz.func130,Tryz.ntmps130
    go_wp2_with (first
      | ((with_reducible refine on_index (.tmp 9) ?_);refine wm_at Pt.cs_length rfl _ (.tmp 9) _ rfl el_part rfl rfl (by omega) (by omega) hr ?_;intro b1 j1 r1 hr1 hb1 hc1;have hxx:p0=r1:=get_eq Hp0.out hr1.out (by omega);subst hxx;have f0:w.cell? ⟨b1,j1,none⟩=some (.int .u32 p0.fr):=hc1.out 0 _ rfl)
      | ((with_reducible refine on_index (.tmp 16) ?_);refine wm_at Pt.cs_length rfl _ (.tmp 16) _ rfl el_part rfl rfl (by omega) (by omega) hr ?_;intro b2 j2 r2 hr2 hb2 hc2;have hxx:pl=r2:=get_eq Hpl.out hr2.out (by omega);subst hxx;have f1:w.cell? ⟨b2,j2+1,none⟩=some (.int .u32 pl.to):=hc2.out 1 _ rfl))
    go_ret
    exact ⟨rfl,Below.refl _ _⟩
  · have Hh3:=Lib.hid h3
    have Hh4:=Lib.hid h4
    clear h3 h4
    go_enter Tryz.func130,Tryz.ntmps130
    go_wp2_with (first
      | ((with_reducible refine on_index (.tmp 9) ?_);refine wm_at Pt.cs_length rfl _ (.tmp 9) _ rfl el_part rfl rfl (by omega) (by omega) hr ?_;intro b1 j1 r1 hr1 hb1 hc1;have hxx:p0=r1:=get_eq Hp0.out hr1.out (by omega);subst hxx;have f0:w.cell? ⟨b1,j1,none⟩=some (.int .u32 p0.fr):=hc1.out 0 _ rfl)
      | ((with_reducible refine on_index (.tmp 16) ?_);refine wm_at Pt.cs_length rfl _ (.tmp 16) _ rfl el_part rfl rfl (by omega) (by omega) hr ?_;intro b2 j2 r2 hr2 hb2 hc2;have hxx:pl=r2:=get_eq Hpl.out hr2.out (by omega);subst hxx;have f1:w.cell? ⟨b2,j2+1,none⟩=some (.int .u32 pl.to):=hc2.out 1 _ rfl))
    go_loopw [3,4,27] (fun _ _ i wr=>MeetRel ps (m+1) w i wr) (fun _ _ i _=>(m+1) - (intOf i).toNat)
    case atStart=>exact ⟨0,by omega,rfl,Lib.hid rfl,Below.refl _ _⟩
    case round =>
      obtain ⟨k,hk,rfl,hf,hb⟩:=hrel
      have hrk:=hr.step hb
      have hbs:=hb.size
      by_cases hlt:k < m+1
      · obtain ⟨p,hp⟩:∃ p,ps[k]? = some p:=⟨ps[k]'(by have:=Hlen.out;omega),List.getElem?_eq_getElem _⟩
        have op:=Hok.out p (List.mem_of_getElem? hp)
        have op1:=op.fr.1
        have op2:=op.fr.2
        have op3:=op.to.1
        have op4:=op.to.2
        have Hp:=Lib.hid hp
        clear hp op
        by_cases hgt:p.fr > p.to
        · have hfin:v=15:=by rw [← Hv.out];unfold pmeet;rw [hf.out,meet_no Hp.out (.inr hgt)];rfl
          have Hfin:=Lib.hid hfin
          clear hfin hf
          go_upto_region 6 with (first
            | ((with_reducible refine on_index (.tmp 25) ?_);refine wm_at Pt.cs_length rfl _ (.tmp 25) _ rfl el_part rfl rfl (by omega) (by omega) hrk ?_;intro b1 j1 r1 hr1 hb1 hc1;have hxx:p=r1:=get_eq Hp.out hr1.out (by omega);subst hxx)
            | ((with_reducible refine on_load (.tmp 30) ?_);refine wpt_load rfl _ (.tmp 30) rfl st_part rfl hc1 ?_)
            | ((with_reducible refine on_store_at (.tmp 4) ?_);refine wpt_store (r:=Pt.zero) (s:=p) rfl _ (.tmp 4) _ rfl st_part rfl rfl (Box.new wr _ _) ?_;intro w3 bx3 hg3))
          have k3:Below wr.heap.size wr w3:=(below_alloc wr (Nat.le_refl _) (.cells Pt.zero.cs.toArray 102)).trans (below_of_grown hg3 (fun j e=>by injection e with e;omega) (by simp))
          have hb3:=hb.trans (k3.mono hbs)
          have hr3:=hrk.step k3
          obtain ⟨c0,c1,c2⟩:=bx3.part
          clear hg3 hc1
          go_wp2
          go_ret
          exact ⟨by rw [Hfin.out];try rfl,hb3⟩
        · have hle:p.fr≤p.to:=by omega
          rcases Nat.eq_zero_or_pos k with h0 | h0
          · subst h0
            have hp0:p=p0:=get_eq Hp.out Hp0.out rfl
            have hf2:=Lib.hid (hf.out.trans (meet_on Hp.out (by rw [hp0,Hh3.out];rfl) hle))
            clear hp0 hf
            go_upto_region 6 with (first
              | ((with_reducible refine on_index (.tmp 25) ?_);refine wm_at Pt.cs_length rfl _ (.tmp 25) _ rfl el_part rfl rfl (by omega) (by omega) hrk ?_;intro b1 j1 r1 hr1 hb1 hc1;have hxx:p=r1:=get_eq Hp.out hr1.out (by omega);subst hxx)
              | ((with_reducible refine on_load (.tmp 30) ?_);refine wpt_load rfl _ (.tmp 30) rfl st_part rfl hc1 ?_)
              | ((with_reducible refine on_store_at (.tmp 4) ?_);refine wpt_store (r:=Pt.zero) (s:=p) rfl _ (.tmp 4) _ rfl st_part rfl rfl (Box.new wr _ _) ?_;intro w3 bx3 hg3))
            have k3:Below wr.heap.size wr w3:=(below_alloc wr (Nat.le_refl _) (.cells Pt.zero.cs.toArray 102)).trans (below_of_grown hg3 (fun j e=>by injection e with e;omega) (by simp))
            have hb3:=hb.trans (k3.mono hbs)
            have hr3:=hrk.step k3
            obtain ⟨c0,c1,c2⟩:=bx3.part
            clear hg3 hc1
            go_upto_region 8 with fail
            refine wp_region_reach (by kernel_rfl) (by kernel_rfl) ?_
            repeat (first | go_big_quiet_skip | go_big_quiet_step (fail) | quiet_step (fail))
            refine wpQuiet_nil ?_
            rintro _ ⟨q,rfl⟩
            have hqw5:=q.h
            obtain ⟨w5,hw5'⟩:∃ W,q.w=W:=⟨_,rfl⟩
            rw [hw5'] at hqw5 ⊢
            clear hw5' q
            go_wp2
            go_roundw
            case rel=>exact ⟨_,_,_,_,⟨0+1,by omega,by go_num,hf2,hb3.trans (hqw5.mono hb3.size)⟩,rfl,rfl,rfl,rfl⟩
            case measure=>simp [intOf] <;> omega
          · obtain ⟨k,rfl⟩:∃ j,k=j+1:=⟨k - 1,by omega⟩
            obtain ⟨q,hq⟩:∃ q,ps[k]? = some q:=⟨ps[k]'(by have:=Hlen.out;omega),List.getElem?_eq_getElem _⟩
            have oq:=Hok.out q (List.mem_of_getElem? hq)
            have oq1:=oq.to.1
            have oq2:=oq.to.2
            have hnx:=nextOf_succ hq
            have Hq:=Lib.hid hq
            have hways:((q.to == 4294967295)=true∧v=15)∨((q.to == 4294967295)=false∧q.to+1≤4294967295∧(p.fr != q.to+1)=true∧v=15)∨((q.to == 4294967295)=false∧q.to+1≤4294967295∧(p.fr != q.to+1)=false∧meetF 0 ps=meetF (nextOf ps (k+1+1)) (ps.drop (k+1+1))):=by
              by_cases h1:p.fr=q.to+1
              · exact .inr (.inr ⟨by simp;omega,by omega,by simp [h1],hf.out.trans (meet_on Hp.out (by rw [hnx];exact h1) hle)⟩)
              · have hv15:v=15:=by rw [← Hv.out];unfold pmeet;rw [hf.out,meet_no Hp.out (.inl (by rw [hnx];exact h1))];rfl
                by_cases h2:q.to=4294967295
                · exact .inl ⟨by simp [h2],hv15⟩
                · exact .inr (.inl ⟨by simp [h2],by omega,by simp [h1],hv15⟩)
            clear hq oq hnx hf
            rcases hways with ⟨g1,g2⟩ | ⟨g1,g2,g3,g4⟩ | ⟨g1,g2,g3,g4⟩
            · have Hfin:=Lib.hid g2
              clear g2
              go_upto_region 6 with (first
                | ((with_reducible refine on_index (.tmp 25) ?_);refine wm_at Pt.cs_length rfl _ (.tmp 25) _ rfl el_part rfl rfl (by omega) (by omega) hrk ?_;intro b1 j1 r1 hr1 hb1 hc1;have hxx:p=r1:=get_eq Hp.out hr1.out (by omega);subst hxx)
                | ((with_reducible refine on_load (.tmp 30) ?_);refine wpt_load rfl _ (.tmp 30) rfl st_part rfl hc1 ?_)
                | ((with_reducible refine on_store_at (.tmp 4) ?_);refine wpt_store (r:=Pt.zero) (s:=p) rfl _ (.tmp 4) _ rfl st_part rfl rfl (Box.new wr _ _) ?_;intro w3 bx3 hg3))
              have k3:Below wr.heap.size wr w3:=(below_alloc wr (Nat.le_refl _) (.cells Pt.zero.cs.toArray 102)).trans (below_of_grown hg3 (fun j e=>by injection e with e;omega) (by simp))
              have hb3:=hb.trans (k3.mono hbs)
              have hr3:=hrk.step k3
              obtain ⟨c0,c1,c2⟩:=bx3.part
              clear hg3 hc1
              go_upto_region 8 with fail
              have hx1:=hr3.reach
              obtain ⟨y0,y1,y2⟩:=bx3.partC
              refine wp_region_reach (by kernel_rfl) (by kernel_rfl) ?_
              repeat (first | go_big_quiet_skip | ((with_reducible refine onq_index (.tmp 40) ?_);refine wqm_at Pt.cs_length rfl _ (.tmp 40) _ rfl el_part rfl rfl (by omega) (by omega) (Th.Reach.refl _ _) hx1 ?_;intro b4 j4 t4 ht4 hc4;have hxx:q=t4:=get_eq Hq.out ht4.out (by omega);subst hxx;have f4:∀ x:Step _ _,x.w.cell? ⟨b4,j4+1,none⟩=some (.int .u32 q.to):=fun x=>hc4.out x.w ⟨x,rfl⟩ 1 _ rfl) | go_big_quiet_step (fail) | quiet_step (fail))
              refine wpQuiet_nil ?_
              rintro _ ⟨q,rfl⟩
              have hqw5:=q.h
              obtain ⟨w5,hw5'⟩:∃ W,q.w=W:=⟨_,rfl⟩
              rw [hw5'] at hqw5 ⊢
              clear hw5' q
              go_wp2
              go_ret
              exact ⟨by rw [Hfin.out];try rfl,hb3.trans (hqw5.mono hb3.size)⟩
            · have Hfin:=Lib.hid g4
              clear g4
              go_upto_region 6 with (first
                | ((with_reducible refine on_index (.tmp 25) ?_);refine wm_at Pt.cs_length rfl _ (.tmp 25) _ rfl el_part rfl rfl (by omega) (by omega) hrk ?_;intro b1 j1 r1 hr1 hb1 hc1;have hxx:p=r1:=get_eq Hp.out hr1.out (by omega);subst hxx)
                | ((with_reducible refine on_load (.tmp 30) ?_);refine wpt_load rfl _ (.tmp 30) rfl st_part rfl hc1 ?_)
                | ((with_reducible refine on_store_at (.tmp 4) ?_);refine wpt_store (r:=Pt.zero) (s:=p) rfl _ (.tmp 4) _ rfl st_part rfl rfl (Box.new wr _ _) ?_;intro w3 bx3 hg3))
              have k3:Below wr.heap.size wr w3:=(below_alloc wr (Nat.le_refl _) (.cells Pt.zero.cs.toArray 102)).trans (below_of_grown hg3 (fun j e=>by injection e with e;omega) (by simp))
              have hb3:=hb.trans (k3.mono hbs)
              have hr3:=hrk.step k3
              obtain ⟨c0,c1,c2⟩:=bx3.part
              clear hg3 hc1
              go_upto_region 8 with fail
              have hx1:=hr3.reach
              obtain ⟨y0,y1,y2⟩:=bx3.partC
              refine wp_region_reach (by kernel_rfl) (by kernel_rfl) ?_
              repeat (first | go_big_quiet_skip | ((with_reducible refine onq_index (.tmp 40) ?_);refine wqm_at Pt.cs_length rfl _ (.tmp 40) _ rfl el_part rfl rfl (by omega) (by omega) (Th.Reach.refl _ _) hx1 ?_;intro b4 j4 t4 ht4 hc4;have hxx:q=t4:=get_eq Hq.out ht4.out (by omega);subst hxx;have f4:∀ x:Step _ _,x.w.cell? ⟨b4,j4+1,none⟩=some (.int .u32 q.to):=fun x=>hc4.out x.w ⟨x,rfl⟩ 1 _ rfl) | ((with_reducible refine onq_index (.tmp 50) ?_);refine wqm_at Pt.cs_length rfl _ (.tmp 50) _ rfl el_part rfl rfl (by omega) (by omega) (Th.Reach.refl _ _) hx1 ?_;intro b5 j5 t5 ht5 hc5;have hxx:q=t5:=get_eq Hq.out ht5.out (by omega);subst hxx;have f5:∀ x:Step _ _,x.w.cell? ⟨b5,j5+1,none⟩=some (.int .u32 q.to):=fun x=>hc5.out x.w ⟨x,rfl⟩ 1 _ rfl) | go_big_quiet_step (fail) | quiet_step (fail))
              refine wpQuiet_nil ?_
              rintro _ ⟨q,rfl⟩
              have hqw5:=q.h
              obtain ⟨w5,hw5'⟩:∃ W,q.w=W:=⟨_,rfl⟩
              rw [hw5'] at hqw5 ⊢
              clear hw5' q
              go_wp2
              go_ret
              exact ⟨by rw [Hfin.out];try rfl,hb3.trans (hqw5.mono hb3.size)⟩
            · have Hf2:=Lib.hid g4
              clear g4
              go_upto_region 6 with (first
                | ((with_reducible refine on_index (.tmp 25) ?_);refine wm_at Pt.cs_length rfl _ (.tmp 25) _ rfl el_part rfl rfl (by omega) (by omega) hrk ?_;intro b1 j1 r1 hr1 hb1 hc1;have hxx:p=r1:=get_eq Hp.out hr1.out (by omega);subst hxx)
                | ((with_reducible refine on_load (.tmp 30) ?_);refine wpt_load rfl _ (.tmp 30) rfl st_part rfl hc1 ?_)
                | ((with_reducible refine on_store_at (.tmp 4) ?_);refine wpt_store (r:=Pt.zero) (s:=p) rfl _ (.tmp 4) _ rfl st_part rfl rfl (Box.new wr _ _) ?_;intro w3 bx3 hg3))
              have k3:Below wr.heap.size wr w3:=(below_alloc wr (Nat.le_refl _) (.cells Pt.zero.cs.toArray 102)).trans (below_of_grown hg3 (fun j e=>by injection e with e;omega) (by simp))
              have hb3:=hb.trans (k3.mono hbs)
              have hr3:=hrk.step k3
              obtain ⟨c0,c1,c2⟩:=bx3.part
              clear hg3 hc1
              go_upto_region 8 with fail
              have hx1:=hr3.reach
              obtain ⟨y0,y1,y2⟩:=bx3.partC
              refine wp_region_reach (by kernel_rfl) (by kernel_rfl) ?_
              repeat (first | go_big_quiet_skip | ((with_reducible refine onq_index (.tmp 40) ?_);refine wqm_at Pt.cs_length rfl _ (.tmp 40) _ rfl el_part rfl rfl (by omega) (by omega) (Th.Reach.refl _ _) hx1 ?_;intro b4 j4 t4 ht4 hc4;have hxx:q=t4:=get_eq Hq.out ht4.out (by omega);subst hxx;have f4:∀ x:Step _ _,x.w.cell? ⟨b4,j4+1,none⟩=some (.int .u32 q.to):=fun x=>hc4.out x.w ⟨x,rfl⟩ 1 _ rfl) | ((with_reducible refine onq_index (.tmp 50) ?_);refine wqm_at Pt.cs_length rfl _ (.tmp 50) _ rfl el_part rfl rfl (by omega) (by omega) (Th.Reach.refl _ _) hx1 ?_;intro b5 j5 t5 ht5 hc5;have hxx:q=t5:=get_eq Hq.out ht5.out (by omega);subst hxx;have f5:∀ x:Step _ _,x.w.cell? ⟨b5,j5+1,none⟩=some (.int .u32 q.to):=fun x=>hc5.out x.w ⟨x,rfl⟩ 1 _ rfl) | go_big_quiet_step (fail) | quiet_step (fail))
              refine wpQuiet_nil ?_
              rintro _ ⟨q,rfl⟩
              have hqw5:=q.h
              obtain ⟨w5,hw5'⟩:∃ W,q.w=W:=⟨_,rfl⟩
              rw [hw5'] at hqw5 ⊢
              clear hw5' q
              go_wp2
              go_roundw
              case rel=>exact ⟨_,_,_,_,⟨k+1+1,by omega,by go_num,Hf2,hb3.trans (hqw5.mono hb3.size)⟩,rfl,rfl,rfl,rfl⟩
              case measure=>simp [intOf] <;> omega
      · have hkn:k=m+1:=by omega
        subst hkn
        have hfin:v=0:=by
          rw [← Hv.out];unfold pmeet
          rw [hf.out,List.drop_eq_nil_of_le (by have:=Hlen.out;omega),nextOf_succ Hpl.out,Hh4.out];rfl
        have Hfin:=Lib.hid hfin
        clear hfin hf
        go_wp2
        go_ret
        exact ⟨by rw [Hfin.out];try rfl,hb⟩
end Go.Proofs.YtjandnidljbkoaaGreat
namespace Go.Th
open Go.RowKit Go.Maps
def SetB (w:World) (P:Program) (k e:TypeId) (b n:Nat) (seen:List Int):Prop :=
  ∃ D:DataW Unit,w.ownsMap P k (plainElem P e) b n D∧∀ x:Int,D.atKey (.int .i64 x) (.lit (.bool false))=.lit (.bool (decide (x∈seen)))
theorem SetB.made (w:World) (P:Program) (k e:TypeId):SetB (w.alloc (.map #[] 0)) P k e w.heap.size 0 [] :=
  ⟨.map [],World.ownsMap_made _ _ _ _,fun x=>by simp [DataW.atKey]⟩
theorem plainElem_bool_inv {P:Program} {e:TypeId} (he:P.underlying e=some .bool) {v:Value} {c:Bool} {ps:List MemPlace} (h:plainElem (H:=Unit) P e v=some (.lit (.bool c),ps)):v=.bool c:=by
  unfold plainElem at h
  rw [he] at h
  split at h
  · simp at h;rw [h.1]
  · rename_i hq;simp at hq
  · rename_i hq;simp at hq
  · simp at h
theorem wf_i64 {x:Int} (hx:-9223372036854775808≤x∧x≤9223372036854775807):(Lit.int .i64 x).wf=true:=by
  have h1:IntKind.i64.min = -9223372036854775808:=by decide

  simp [Lit.wf]
  rw [h1]
  exact hx
theorem SetB.look {w:World} {P:Program} {k e t:TypeId} {b n:Nat} {seen:List Int} (h:SetB w P k e b n seen) (hk:P.underlying k=some (.int .i64)) (ht:P.underlying t=some (.map k e)) (he:P.underlying e=some .bool) (hz:(zeroValue e).run P w=.ok (.bool false) w)
    (x:Int) (hx:-9223372036854775808≤x∧x≤9223372036854775807):(Instr.lookup t (.map (some b)) (.int .i64 x) false).run P w=.ok (.bool (decide (x∈seen))) w:=by
  obtain ⟨D,h1,h2⟩:=h
  have hwf:=wf_i64 hx
  obtain ⟨v,ps,hrun,hv⟩:=h1.lookup (Maps.int_keyed hk) ht hz (plainElem_bool he false) (Maps.keyOf_int_mk hk hwf)
  rw [h2 x] at hv
  rw [hrun,plainElem_bool_inv he hv]
section
variable {P:Program} {ops:Array Oper} {rest:List Oper} {o:Oper} {a:Act} {Q:Exit→Act→World→Prop} {w:World}
theorem wl_lookB (hw:Region.wanted o (yielded ops a.tmps)=true) (m y:Operand) (t:TypeId) (hop:o.op=.lookup t m y false) {k e:TypeId} (hk:P.underlying k=some (.int .i64)) (ht:P.underlying t=some (.map k e)) (he:P.underlying e=some .bool) (hz:∀ w,(zeroValue e).run P w=.ok (.bool false) w)
    {b n:Nat} {seen:List Int} (hm:a.eval m=.map (some b)) (hs:SetB w P k e b n seen) {x:Int} (hy:a.eval y=.int .i64 x) (hx:-9223372036854775808≤x∧x≤9223372036854775807)
    (h:wpList P ops Q rest (a.put o.dst (.bool (decide (x∈seen)))) w):wpList P ops Q (o :: rest) a w :=
  wl_run hw (by simp only [execOp,hop,hm,hy,Sem.run_bind,hs.look hk ht he (hz w) x hx,Result.andThen,Sem.run_pure]) h
theorem wl_storeB (hg:o.guard=none) (m y v:Operand) (t:TypeId) (hop:o.op=.mapUpdate t m y v) {k e:TypeId} (hk:P.underlying k=some (.int .i64)) (ht:P.underlying t=some (.map k e)) (he:P.underlying e=some .bool)
    {b n:Nat} {seen:List Int} (hm:a.eval m=.map (some b)) (hs:SetB w P k e b n seen) (hn:n < maxLen) {x:Int} (hy:a.eval y=.int .i64 x) (hx:-9223372036854775808≤x∧x≤9223372036854775807) (hv:a.eval v=.bool true)
    (h:∀ w',SetB w' P k e b (n+1) (seen ++ [x])→w.grownBy w' (some b)→wpList P ops Q rest (a.put o.dst undef) w'):wpList P ops Q (o :: rest) a w:=by
  obtain ⟨D,h1,h2⟩:=hs
  have hwf:=wf_i64 hx
  refine wpList_mapUpdate_own w hg m y v t hop k e (Maps.int_keyed hk) ht _ b n D hm h1 hn _ _ (.int .i64 x) hy hv (Maps.keyOf_int_mk hk hwf) (.lit (.bool true)) [] (plainElem_bool he true) fun w' h3 h4=>h w' ⟨_,h3,fun z=>?_⟩ h4
  by_cases hzx:z=x
  · subst hzx
    rw [Maps.atKey_put_same h1.isMap (show WideAt.IsKeyLit (.int .i64 z) from trivial)]
    simp
  · rw [Maps.atKey_put_other (fun e=>hzx (by injection e)),h2 z]
    simp [hzx]
theorem on_lookup (m y:Operand) {d t ok ty pos af g} (h:wpList P ops Q (⟨d,.lookup t m y ok,ty,pos,af,g⟩ :: rest) a w):wpList P ops Q (⟨d,.lookup t m y ok,ty,pos,af,g⟩ :: rest) a w:=h
theorem on_mapUpdate (m y v:Operand) {d t ty pos af g} (h:wpList P ops Q (⟨d,.mapUpdate t m y v,ty,pos,af,g⟩ :: rest) a w):wpList P ops Q (⟨d,.mapUpdate t m y v,ty,pos,af,g⟩ :: rest) a w:=h
end
end Go.Th
namespace Go.Proofs.YtjandnidljbkoaaGreat
open Go.RowKit Go.Th
theorem outside_any (x nodes:Int) (g:Nat) (w:World) (hg:Box w g 3 #[.int .i64 nodes]):Calls Tryz.prog 100 #[.int .i64 x,.pointer (some ⟨g,0,none⟩)] w fun e w'=>e=.returned (.bool (outs nodes x))∧w=w':=by
  have c0:w.cell? ⟨g,0,none⟩=some (.int .i64 nodes):=hg.cell 0
  have hw:(decide (x < 0)=true∧outs nodes x=true)∨(decide (x < 0)=false∧outs nodes x=decide (nodes≤x)):=by
    unfold outs
    cases h:decide (x < 0) <;> simp
  generalize outs nodes x=b at hw ⊢
  rcases hw with ⟨h1,rfl⟩ | ⟨h1,rfl⟩
  all_goals go_enter Tryz.func100,Tryz.ntmps100
  all_goals go_wp2
  all_goals go_ret
  all_goals exact ⟨rfl,rfl⟩
theorem indexFunc_any (A:Option Addr) (n c:Nat) (zs:List Int) (nodes:Int) (g:Nat) (w:World) (hm:n≤9223372036854775807) (B:Nat) (hr:RdS iv w B A n c zs) (hg:Box w g 3 #[.int .i64 nodes]) (b:Bool) (hb:Hid (zs.any (outs nodes)=b)) :
    Calls Tryz.prog 145 #[.slice A n c,.func (.func 100) #[] #[.pointer (some ⟨g,0,none⟩)]] w fun e w'=>(∃ i:Int,e=.returned (.int .i64 i)∧(b=true∧0≤i∨b=false∧i = -1))∧w=w':=by
  have Hlen:=Lib.hid hr.len
  go_enter Tryz.func145,Tryz.ntmps145
  go_wp2
  go_loop [8] (fun i=>∃ k:Nat,k≤n∧i=.int .i64 k∧Hid ((zs.take k).any (outs nodes)=false)) (fun i=>n - (intOf i).toNat)
  case atStart=>exact ⟨0,by omega,rfl,Lib.hid rfl⟩
  case round =>
    obtain ⟨k,hk,rfl,hf⟩:=hrel
    by_cases hlt:k < n
    · obtain ⟨x,hx⟩:∃ x,zs[k]? = some x:=⟨zs[k]'(by have:=Hlen.out;omega),List.getElem?_eq_getElem _⟩
      have hsn:=any_snoc hx (outs nodes)
      have hmem:=List.mem_of_getElem? hx
      have Hx:=Lib.hid hx
      have Hmem:=Lib.hid hmem
      rw [hf.out,Bool.false_or] at hsn
      have hc:=outside_any x nodes g w hg
      obtain ⟨b1,hb1⟩:∃ b,outs nodes x=b:=⟨_,rfl⟩
      rw [hb1] at hsn hc
      have Hsn:=Lib.hid hsn
      have Hc:=Lib.hid hc
      have Hb:=Lib.hid hb1
      clear hsn hc hx hmem hb1 hf
      cases b1 with
      | true =>
        go_wp2_with (first
          | (refine wl_at_i rfl _ (.tmp 12) _ rfl el_int rfl rfl (by omega) (by omega) hr ?_;intro p x' hx' hc1;obtain rfl:x' = x:=Option.some.inj (hx'.out.symm.trans Hx.out))
          | (go_at_call 100;refine (Hc.out).mono ?_;rintro e w' ⟨rfl,rfl⟩))
        go_ret
        exact ⟨⟨k,rfl,.inl ⟨by rw [← hb.out];exact List.any_eq_true.2 ⟨_,Hmem.out,Hb.out⟩,by omega⟩⟩,rfl⟩
      | false =>
        go_wp2_with (first
          | (refine wl_at_i rfl _ (.tmp 12) _ rfl el_int rfl rfl (by omega) (by omega) hr ?_;intro p x' hx' hc1;obtain rfl:x' = x:=Option.some.inj (hx'.out.symm.trans Hx.out))
          | (go_at_call 100;refine (Hc.out).mono ?_;rintro e w' ⟨rfl,rfl⟩))
        go_round
        case rel=>exact ⟨k+1,by omega,by go_num,Hsn⟩
        case measure=>simp [intOf] <;> omega
    · have hfin:zs.any (outs nodes)=false:=by
        have:=hf.out
        rwa [List.take_of_length_le (by have:=Hlen.out;omega)] at this
      have Hfin:=Lib.hid hfin
      clear hfin hf
      go_wp2
      go_ret
      exact ⟨⟨-1,rfl,.inr ⟨by rw [← hb.out];exact Hfin.out,rfl⟩⟩,rfl⟩
theorem containsFunc_any (A:Option Addr) (n c:Nat) (zs:List Int) (nodes:Int) (g:Nat) (w:World) (hm:n≤9223372036854775807) (B:Nat) (hr:RdS iv w B A n c zs) (hg:Box w g 3 #[.int .i64 nodes]) (b:Bool) (hb:Hid (zs.any (outs nodes)=b)) :
    Calls Tryz.prog 131 #[.slice A n c,.func (.func 100) #[] #[.pointer (some ⟨g,0,none⟩)]] w fun e w'=>e=.returned (.bool b)∧w=w':=by
  have hc:=indexFunc_any A n c zs nodes g w hm B hr hg b hb
  have Hc:=Lib.hid hc
  clear hc
  go_enter Tryz.func131,Tryz.ntmps131
  go_wp2_with fail
  refine Hc.out.mono ?_
  rintro e w' ⟨⟨i,rfl,hi⟩,rfl⟩
  rcases hi with ⟨rfl,hi⟩ | ⟨rfl,rfl⟩
  · go_wp2
    go_ret
    exact ⟨rfl,rfl⟩
  · go_wp2
    go_ret
    exact ⟨rfl,rfl⟩
def Cv (v:Int) (Ap:Option Addr) (np cp:Nat) (d:Int) (At:Option Addr) (nt ct:Nat):Array Value:=#[.int .i64 v,.slice Ap np cp,.int .u32 d,.slice At nt ct]
theorem zero_bool (w:World):(zeroValue 4).run Tryz.prog w=.ok (.bool false) w:=by kernel_rfl
def LoopsRel (tr:List Int) (first:Int) (n m:Nat) (wm:World) (i:Value) (wr:World):Prop :=
  ∃ k:Nat,k≤n∧i=.int .i64 k∧Hid (trgo [] first tr=trgo (tr.take k) first (tr.drop k))∧SetB wr Tryz.prog 3 4 m k (tr.take k)∧Below m wm wr
theorem tr_no {tr:List Int} {first:Int} {k:Nat} {x:Int} (h:tr[k]? = some x) (h1:x∈tr.take k∨x < first):trgo (tr.take k) first (tr.drop k)=17:=by
  rw [drop_cons h];simp only [trgo];rw [if_pos h1]
theorem tr_on {tr:List Int} {first:Int} {k:Nat} {x:Int} (h:tr[k]? = some x) (h1:¬ (x∈tr.take k∨x < first)):trgo (tr.take k) first (tr.drop k)=trgo (tr.take (k+1)) first (tr.drop (k+1)):=by
  rw [drop_cons h];simp only [trgo];rw [if_neg h1,List.take_add_one,h];rfl
set_option maxRecDepth 100000 in
set_option maxHeartbeats 4000000 in
theorem loops_any (v:Int) (Ap:Option Addr) (np cp:Nat) (d:Int) (At:Option Addr) (nt ct:Nat) (nodes:Int) (g:Nat) (w:World) (hnp:np≤9223372036854775807) (hnt:nt≤1000000) (ps:List Pt) (tr:List Int) (hps:ps.length=np) (B:Nat) (hB:B≤w.heap.size) (hr:RdS iv w B At nt ct tr) (hbd:∀ x∈tr,-9223372036854775808≤x∧x≤9223372036854775807) (hg:Box w g 3 #[.int .i64 nodes]) :
    Calls Tryz.prog 102 #[.agg #[.int .i64 v,.slice Ap np cp,.int .u32 d,.slice At nt ct],.int .i64 nodes,.func (.func 100) #[] #[.pointer (some ⟨g,0,none⟩)]] w (RetB (.int .i64 (cloops ps tr nodes)) w):=by
  obtain ⟨V,hV⟩:∃ V,cloops ps tr nodes=V:=⟨_,rfl⟩
  have hlen:=hr.len
  have hways:(0 < np∧V=3)∨(np=0∧nt=0∧V=12)∨(np=0∧0 < nt∧nodes < nt∧V=12)∨(np=0∧0 < nt∧(nt:Int)≤nodes∧tr.any (outs nodes)=true∧V=10)∨(np=0∧0 < nt∧(nt:Int)≤nodes∧tr.any (outs nodes)=false∧V=trgo [] (trfirst tr) tr):=by
    rw [← hV]
    unfold cloops
    by_cases h1:np=0
    · rw [if_neg (by omega)]
      by_cases h2:nt=0
      · rw [if_pos (.inl (by omega))];exact .inr (.inl ⟨h1,h2,rfl⟩)
      · by_cases h3:nodes < nt
        · rw [if_pos (.inr (by omega))];exact .inr (.inr (.inl ⟨h1,by omega,h3,rfl⟩))
        · rw [if_neg (by omega)]
          cases h4:tr.any (outs nodes) with
          | true=>rw [if_pos rfl];exact .inr (.inr (.inr (.inl ⟨h1,by omega,by omega,rfl,rfl⟩)))
          | false=>rw [if_neg (by simp)];exact .inr (.inr (.inr (.inr ⟨h1,by omega,by omega,rfl,rfl⟩)))
    · rw [if_pos (by omega)];exact .inl ⟨by omega,rfl⟩
  have Hlen:=Lib.hid hlen
  have Hbd:=Lib.hid hbd
  have bx:=Box.new w (Cv v Ap np cp d At nt ct) 40
  obtain ⟨c0,c1,c2,c3⟩:(w.alloc (.cells (Cv v Ap np cp d At nt ct) 40)).cell? ⟨w.heap.size,0,none⟩=some (.int .i64 v)∧(w.alloc (.cells (Cv v Ap np cp d At nt ct) 40)).cell? ⟨w.heap.size,1,none⟩=some (.slice Ap np cp)∧(w.alloc (.cells (Cv v Ap np cp d At nt ct) 40)).cell? ⟨w.heap.size,2,none⟩=some (.int .u32 d)∧(w.alloc (.cells (Cv v Ap np cp d At nt ct) 40)).cell? ⟨w.heap.size,3,none⟩=some (.slice At nt ct):=⟨bx.cell 0,bx.cell 1,bx.cell 2,bx.cell 3⟩
  have k1:=below_alloc w (Nat.le_refl _) (.cells (Cv v Ap np cp d At nt ct) 40)
  have hr1:=hr.step k1
  have hg1:=hg.step k1
  have hmm:=@run_makeMap Tryz.prog
  rw [hV]
  clear hlen hbd hV hr hg hps
  rcases hways with ⟨h1,rfl⟩ | ⟨rfl,rfl,rfl⟩ | ⟨rfl,h1,h2,rfl⟩ | ⟨rfl,h1,h2,h3,rfl⟩ | ⟨rfl,h1,h2,h3,h4⟩
  · go_enter Tryz.func102,Tryz.ntmps102
    go_wp2
    go_ret
    exact ⟨rfl,k1⟩
  · go_enter Tryz.func102,Tryz.ntmps102
    go_wp2
    go_ret
    exact ⟨rfl,k1⟩
  · have n1:((nt:Int) == 0)=false:=by simp;omega
    go_enter Tryz.func102,Tryz.ntmps102
    go_wp2
    go_ret
    exact ⟨rfl,k1⟩
  · have n1:((nt:Int) == 0)=false:=by simp;omega
    have n2:decide (nodes < (nt:Int))=false:=decide_eq_false (by omega)
    have H3:=Lib.hid h3
    clear h3
    go_enter Tryz.func102,Tryz.ntmps102
    go_wp2_with (go_at_call 131;refine (containsFunc_any _ _ _ tr nodes g _ (by omega) _ hr1 hg1 true H3).mono ?_;rintro e w1 ⟨rfl,rfl⟩)
    go_ret
    exact ⟨rfl,k1⟩
  · have n1:((nt:Int) == 0)=false:=by simp;omega
    have n2:decide (nodes < (nt:Int))=false:=decide_eq_false (by omega)
    have H3:=Lib.hid h3
    obtain ⟨x0,hx0⟩:∃ x,tr[0]? = some x:=⟨tr[0]'(by have:=Hlen.out;omega),List.getElem?_eq_getElem _⟩
    have hfi:trfirst tr=x0:=by
      cases tr with
      | nil=>simp at hx0
      | cons y ys=>simp at hx0;exact hx0
    rw [hfi] at h4
    have Hx0:=Lib.hid hx0
    have H4:=Lib.hid h4
    have m3:((w.alloc (.cells (Cv v Ap 0 cp d At nt ct) 40)).alloc (.map #[] 0)).cell? ⟨w.heap.size,3,none⟩=some (.slice At nt ct):=(bx.alloc (.map #[] 0)).cell 3
    have bxm:=bx.alloc (.map #[] 0)
    have hrm:=hr1.alloc (.map #[] 0)
    clear h3 hfi hx0 h4
    go_enter Tryz.func102,Tryz.ntmps102
    go_wp2_with (go_at_call 131;refine (containsFunc_any _ _ _ tr nodes g _ (by omega) _ hr1 hg1 false H3).mono ?_;rintro e w1 ⟨rfl,rfl⟩)
    have hs0:=SetB.made (w.alloc (.cells (Cv v Ap 0 cp d At nt ct) 40)) Tryz.prog 3 4
    rw [heap_size_alloc] at hs0
    go_loopw [33] (fun i wr=>LoopsRel tr x0 nt (w.heap.size+1) ((w.alloc (.cells (Cv v Ap 0 cp d At nt ct) 40)).alloc (.map #[] 0)) i wr) (fun i _=>nt - (intOf i).toNat)
    case atStart=>exact ⟨0,by omega,rfl,Lib.hid rfl,hs0,Below.refl _ _⟩
    case round =>
      obtain ⟨k,hk,rfl,hf,hsb,hb⟩:=hrel
      have bxr:=bxm.below hb (by omega)
      have hrk:=hrm.below (hb.mono (by omega))
      have c3:wr.cell? ⟨w.heap.size,3,none⟩=some (.slice At nt ct):=bxr.cell 3
      by_cases hlt:k < nt
      · obtain ⟨x,hx⟩:∃ x,tr[k]? = some x:=⟨tr[k]'(by have:=Hlen.out;omega),List.getElem?_eq_getElem _⟩
        have hxb:=Lib.hid (Hbd.out x (List.mem_of_getElem? hx))
        have Hx:=Lib.hid hx
        have hways:(decide (x∈tr.take k)=true∧V=17)∨(decide (x∈tr.take k)=false∧x < x0∧V=17)∨(decide (x∈tr.take k)=false∧x0≤x∧trgo [] x0 tr=trgo (tr.take (k+1)) x0 (tr.drop (k+1))):=by
          rw [H4.out,hf.out]
          by_cases g1:x∈tr.take k
          · exact .inl ⟨decide_eq_true g1,tr_no hx (.inl g1)⟩
          · by_cases g2:x < x0
            · exact .inr (.inl ⟨decide_eq_false g1,g2,tr_no hx (.inr g2)⟩)
            · exact .inr (.inr ⟨decide_eq_false g1,by omega,tr_on hx (fun h=>h.elim g1 g2)⟩)
        have hst:tr.take (k+1)=tr.take k ++ [x]:=by rw [List.take_add_one,hx];rfl
        have Hst:=Lib.hid hst
        clear hx hf hst
        obtain ⟨b,hb0⟩:∃ b,decide (x∈tr.take k)=b:=⟨_,rfl⟩
        have Hb0:=Lib.hid hb0
        rw [hb0] at hways
        clear hb0
        rcases hways with ⟨rfl,g1⟩ | ⟨rfl,g1,g2⟩ | ⟨rfl,g1,g2⟩
        · have H1:=Lib.hid g1
          clear g1
          go_wp2_with (first
            | ((with_reducible refine on_index (.tmp 31) ?_);refine wl_at_i rfl _ (.tmp 31) _ rfl el_int rfl rfl (by omega) (by omega) hrk ?_;intro p x' hx' hc1;obtain rfl:x' = x:=Option.some.inj (hx'.out.symm.trans Hx.out))
            | ((with_reducible refine on_lookup (.tmp 37) (.tmp 38) ?_);refine wl_lookB rfl _ _ _ rfl Tryz.underlying3 Tryz.underlying217 Tryz.underlying4 zero_bool rfl hsb rfl hxb.out ?_;rw [Hb0.out]))
          go_ret
          exact ⟨by rw [H1.out];try rfl,k1.trans (((below_alloc _ (by simp) (.map #[] 0)).trans (hb.mono (by omega))))⟩
        · have H2:=Lib.hid g2
          clear g2
          go_wp2_with (first
            | ((with_reducible refine on_index (.tmp 31) ?_);refine wl_at_i rfl _ (.tmp 31) _ rfl el_int rfl rfl (by omega) (by omega) hrk ?_;intro p x' hx' hc1;obtain rfl:x' = x:=Option.some.inj (hx'.out.symm.trans Hx.out))
            | ((with_reducible refine on_index (.tmp 43) ?_);refine wl_at_i rfl _ (.tmp 43) _ rfl el_int rfl rfl (by omega) (by omega) hrk ?_;intro p2 x2 hx2 hc2;obtain rfl:x2=x0:=Option.some.inj (hx2.out.symm.trans Hx0.out))
            | ((with_reducible refine on_lookup (.tmp 37) (.tmp 38) ?_);refine wl_lookB rfl _ _ _ rfl Tryz.underlying3 Tryz.underlying217 Tryz.underlying4 zero_bool rfl hsb rfl hxb.out ?_;rw [Hb0.out]))
          go_ret
          exact ⟨by rw [H2.out];try rfl,k1.trans (((below_alloc _ (by simp) (.map #[] 0)).trans (hb.mono (by omega))))⟩
        · have H2:=Lib.hid g2
          clear g2
          have hdl:decide (x < x0)=false:=decide_eq_false (by omega)
          go_wp2_with (first
            | ((with_reducible refine on_index (.tmp 31) ?_);refine wl_at_i rfl _ (.tmp 31) _ rfl el_int rfl rfl (by omega) (by omega) hrk ?_;intro p x' hx' hc1;obtain rfl:x' = x:=Option.some.inj (hx'.out.symm.trans Hx.out))
            | ((with_reducible refine on_index (.tmp 43) ?_);refine wl_at_i rfl _ (.tmp 43) _ rfl el_int rfl rfl (by omega) (by omega) hrk ?_;intro p2 x2 hx2 hc2;obtain rfl:x2=x0:=Option.some.inj (hx2.out.symm.trans Hx0.out))
            | ((with_reducible refine on_lookup (.tmp 37) (.tmp 38) ?_);refine wl_lookB rfl _ _ _ rfl Tryz.underlying3 Tryz.underlying217 Tryz.underlying4 zero_bool rfl hsb rfl hxb.out ?_;rw [Hb0.out])
            | ((with_reducible refine on_mapUpdate (.tmp 48) (.tmp 49) _ ?_);refine wl_storeB rfl _ _ _ _ rfl Tryz.underlying3 Tryz.underlying217 Tryz.underlying4 rfl hsb (by simp only [maxLen];omega) rfl hxb.out rfl ?_;intro w5 hs5 hg5;rw [← Hst.out] at hs5))
          go_roundw
          case rel=>exact ⟨k+1,by omega,by go_num,H2,hs5,hb.trans (below_of_grown hg5 (fun j e=>by injection e with e;omega) (by have:=hb.size;simp at this;omega))⟩
          case measure=>simp [intOf] <;> omega
      · have hkn:k=nt:=by omega
        subst hkn
        have hfin:V=0:=by
          rw [H4.out,hf.out,List.drop_eq_nil_of_le (by have:=Hlen.out;omega)];rfl
        have Hfin:=Lib.hid hfin
        clear hfin hf
        go_wp2
        go_ret
        exact ⟨by rw [Hfin.out];try rfl,k1.trans (((below_alloc _ (by simp) (.map #[] 0)).trans (hb.mono (by omega))))⟩
def FreeRel (ps:List Pt) (nodes:Int) (n:Nat) (w:World) (i:Value) (wr:World):Prop :=
  ∃ k:Nat,k≤n∧i=.int .i64 k∧Hid (ranks nodes ps=ranks nodes (ps.drop k))∧Below w.heap.size w wr
set_option maxRecDepth 100000 in
set_option maxHeartbeats 4000000 in
theorem free_any (v:Int) (Ap:Option Addr) (np cp:Nat) (d:Int) (At:Option Addr) (nt ct:Nat) (nodes:Int) (g:Nat) (w:World) (hnp:np≤9223372036854775807) (hnt:nt≤9223372036854775807) (ps:List Pt) (tr:List Int) (B:Nat) (hp:PRd w B Ap np cp ps) (htl:tr.length=nt) (hsm:∀ p∈ps,p.n≤9223372036854775807) (hg:Box w g 3 #[.int .i64 nodes]) :
    Calls Tryz.prog 101 #[.agg #[.int .i64 v,.slice Ap np cp,.int .u32 d,.slice At nt ct],.int .i64 nodes,.func (.func 100) #[] #[.pointer (some ⟨g,0,none⟩)]] w (RetB (.int .i64 (cfree ps d tr nodes)) w):=by
  obtain ⟨V,hV⟩:∃ V,cfree ps d tr nodes=V:=⟨_,rfl⟩
  have hlen:=hp.rd.len
  have hways:((d != 0)=true∧V=3)∨((d != 0)=false∧0 < nt∧V=3)∨((d != 0)=false∧nt=0∧8193 < np∧V=12)∨((d != 0)=false∧nt=0∧np≤8193∧pmeet ps=15∧V=15)∨((d != 0)=false∧nt=0∧np≤8193∧pmeet ps=0∧V=ranks nodes ps):=by
    rw [← hV]
    unfold cfree pmeet
    by_cases h1:d=0
    · by_cases h2:nt=0
      · rw [if_neg (by omega)]
        by_cases h3:8193 < np
        · rw [if_pos (by omega)];exact .inr (.inr (.inl ⟨by simp [h1],h2,h3,rfl⟩))
        · rw [if_neg (by omega)]
          cases h4:meetF 0 ps with
          | false=>exact .inr (.inr (.inr (.inl ⟨by simp [h1],h2,by omega,rfl,rfl⟩)))
          | true=>exact .inr (.inr (.inr (.inr ⟨by simp [h1],h2,by omega,rfl,rfl⟩)))
      · rw [if_pos (by omega)];exact .inr (.inl ⟨by simp [h1],by omega,rfl⟩)
    · rw [if_pos (by omega)];exact .inl ⟨by simp [h1],rfl⟩
  have Hlen:=Lib.hid hlen
  have Hsm:=Lib.hid hsm
  have bx:=Box.new w (Cv v Ap np cp d At nt ct) 40
  obtain ⟨c0,c1,c2,c3⟩:(w.alloc (.cells (Cv v Ap np cp d At nt ct) 40)).cell? ⟨w.heap.size,0,none⟩=some (.int .i64 v)∧(w.alloc (.cells (Cv v Ap np cp d At nt ct) 40)).cell? ⟨w.heap.size,1,none⟩=some (.slice Ap np cp)∧(w.alloc (.cells (Cv v Ap np cp d At nt ct) 40)).cell? ⟨w.heap.size,2,none⟩=some (.int .u32 d)∧(w.alloc (.cells (Cv v Ap np cp d At nt ct) 40)).cell? ⟨w.heap.size,3,none⟩=some (.slice At nt ct):=⟨bx.cell 0,bx.cell 1,bx.cell 2,bx.cell 3⟩
  have k1:=below_alloc w (Nat.le_refl _) (.cells (Cv v Ap np cp d At nt ct) 40)
  have hp1:=hp.step k1
  have hg1:=hg.step k1
  rw [hV]
  clear hlen hsm hV hp hg htl
  rcases hways with ⟨h1,rfl⟩ | ⟨h1,h2,rfl⟩ | ⟨h1,rfl,h2,rfl⟩ | ⟨h1,rfl,h2,h3,rfl⟩ | ⟨h1,rfl,h2,h3,h4⟩
  · go_enter Tryz.func101,Tryz.ntmps101
    go_wp2
    go_ret
    exact ⟨rfl,k1⟩
  · go_enter Tryz.func101,Tryz.ntmps101
    go_wp2
    go_ret
    exact ⟨rfl,k1⟩
  · go_enter Tryz.func101,Tryz.ntmps101
    go_wp2
    go_ret
    exact ⟨rfl,k1⟩
  · have hc:=meet_any Ap np cp ps _ hnp _ hp1.rd hp1.ok
    rw [h3] at hc
    have Hc:=Lib.hid hc
    have n1:decide ((np:Int) > 8193)=false:=decide_eq_false (by omega)
    clear hc h3
    go_enter Tryz.func101,Tryz.ntmps101
    go_wp2_with (go_at_call 130;refine (Hc.out).mono ?_;rintro e w2 ⟨rfl,hb2⟩)
    go_ret
    exact ⟨rfl,k1.trans (hb2.mono k1.size)⟩
  · have hc:=meet_any Ap np cp ps _ hnp _ hp1.rd hp1.ok
    rw [h3] at hc
    have Hc:=Lib.hid hc
    have H4:=Lib.hid h4
    clear hc h3 h4
    go_enter Tryz.func101,Tryz.ntmps101
    go_wp2_with (go_at_call 130;refine (Hc.out).mono ?_;rintro e w2 ⟨rfl,hb2⟩;have e1:w2.cell? ⟨w.heap.size,1,none⟩=some (.slice Ap np cp):=(bx.step hb2).cell 1;have hp2:=hp1.step hb2;have hg2:=hg1.step hb2;have B2:=k1.trans (hb2.mono k1.size))
    go_loopw [6,9,32] (fun _ _ i wr=>FreeRel ps nodes np w2 i wr) (fun _ _ i _=>np - (intOf i).toNat)
    case atStart=>exact ⟨0,by omega,rfl,Lib.hid rfl,Below.refl _ _⟩
    case round =>
      obtain ⟨k,hk,rfl,hf,hb⟩:=hrel
      have hbs:=hb.size
      have hrk:=hp2.step hb
      have hgk:=hg2.step hb
      by_cases hlt:k < np
      · obtain ⟨p,hp⟩:∃ p,ps[k]? = some p:=⟨ps[k]'(by have:=Hlen.out;omega),List.getElem?_eq_getElem _⟩
        have hpn:=Hsm.out p (List.mem_of_getElem? hp)
        have hrl:p.rk.length=p.n:=(hrk.rk p (List.mem_of_getElem? hp)).len
        have hways:(((p.n:Int) != nodes)=true∧V=1)∨(((p.n:Int) != nodes)=false∧p.rk.any (outs nodes)=true∧V=16)∨(((p.n:Int) != nodes)=false∧p.rk.any (outs nodes)=false∧ranks nodes ps=ranks nodes (ps.drop (k+1))):=by
          rw [H4.out,hf.out]
          by_cases g1:(p.n:Int)=nodes
          · cases g2:p.rk.any (outs nodes) with
            | true=>exact .inr (.inl ⟨by simp [g1],rfl,ranks_out hp (by omega) g2⟩)
            | false=>exact .inr (.inr ⟨by simp [g1],rfl,ranks_on hp (by omega) g2⟩)
          · exact .inl ⟨by simp [g1],ranks_size hp (by omega)⟩
        have Hp:=Lib.hid hp
        clear hp hf hrl
        rcases hways with ⟨g1,g2⟩ | ⟨g1,g2,g3⟩ | ⟨g1,g2,g3⟩
        · have H2:=Lib.hid g2
          have Hany:Hid (p.rk.any (outs nodes)=p.rk.any (outs nodes)):=Lib.hid rfl
          clear g2
          go_wp2_with (first
            | ((with_reducible refine on_index (.tmp 30) ?_);refine wm_at Pt.cs_length rfl _ (.tmp 30) _ rfl el_part rfl rfl (by omega) (by omega) hrk.rd ?_;intro b1 j1 r1 hr1 hb1 hc1;have hxx:p=r1:=get_eq Hp.out hr1.out (by omega);subst hxx)
            | ((with_reducible refine on_load (.tmp 34) ?_);refine wpt_load rfl _ (.tmp 34) rfl st_part rfl hc1 ?_)
            | ((with_reducible refine on_store_at (.tmp 9) ?_);refine wpt_store (r:=Pt.zero) (s:=p) rfl _ (.tmp 9) _ rfl st_part rfl rfl (Box.new wr _ _) ?_;intro w3 bx3 hg3;have k3:Below wr.heap.size wr w3:=(below_alloc wr (Nat.le_refl _) (.cells Pt.zero.cs.toArray 102)).trans (below_of_grown hg3 (fun j e=>by injection e with e;omega) (by simp));have hb3:=hb.trans (k3.mono hbs);have hr3:=(hrk.step k3).rk _ (List.mem_of_getElem? Hp.out);have hg3':=hgk.step k3;obtain ⟨d0,d1,d2⟩:=bx3.part)
            | (go_at_call 131;refine (containsFunc_any _ _ _ p.rk nodes g _ (by omega) _ hr3 hg3' _ Hany).mono ?_;rintro e w4 ⟨rfl,rfl⟩))
          go_ret
          exact ⟨by rw [H2.out];try rfl,B2.trans (hb3.mono B2.size)⟩
        · have H2:=Lib.hid g3
          have Hany:=Lib.hid g2
          clear g2 g3
          go_wp2_with (first
            | ((with_reducible refine on_index (.tmp 30) ?_);refine wm_at Pt.cs_length rfl _ (.tmp 30) _ rfl el_part rfl rfl (by omega) (by omega) hrk.rd ?_;intro b1 j1 r1 hr1 hb1 hc1;have hxx:p=r1:=get_eq Hp.out hr1.out (by omega);subst hxx)
            | ((with_reducible refine on_load (.tmp 34) ?_);refine wpt_load rfl _ (.tmp 34) rfl st_part rfl hc1 ?_)
            | ((with_reducible refine on_store_at (.tmp 9) ?_);refine wpt_store (r:=Pt.zero) (s:=p) rfl _ (.tmp 9) _ rfl st_part rfl rfl (Box.new wr _ _) ?_;intro w3 bx3 hg3;have k3:Below wr.heap.size wr w3:=(below_alloc wr (Nat.le_refl _) (.cells Pt.zero.cs.toArray 102)).trans (below_of_grown hg3 (fun j e=>by injection e with e;omega) (by simp));have hb3:=hb.trans (k3.mono hbs);have hr3:=(hrk.step k3).rk _ (List.mem_of_getElem? Hp.out);have hg3':=hgk.step k3;obtain ⟨d0,d1,d2⟩:=bx3.part)
            | (go_at_call 131;refine (containsFunc_any _ _ _ p.rk nodes g _ (by omega) _ hr3 hg3' _ Hany).mono ?_;rintro e w4 ⟨rfl,rfl⟩))
          go_ret
          exact ⟨by rw [H2.out];try rfl,B2.trans (hb3.mono B2.size)⟩
        · have H2:=Lib.hid g3
          have Hany:=Lib.hid g2
          clear g2 g3
          go_wp2_with (first
            | ((with_reducible refine on_index (.tmp 30) ?_);refine wm_at Pt.cs_length rfl _ (.tmp 30) _ rfl el_part rfl rfl (by omega) (by omega) hrk.rd ?_;intro b1 j1 r1 hr1 hb1 hc1;have hxx:p=r1:=get_eq Hp.out hr1.out (by omega);subst hxx)
            | ((with_reducible refine on_load (.tmp 34) ?_);refine wpt_load rfl _ (.tmp 34) rfl st_part rfl hc1 ?_)
            | ((with_reducible refine on_store_at (.tmp 9) ?_);refine wpt_store (r:=Pt.zero) (s:=p) rfl _ (.tmp 9) _ rfl st_part rfl rfl (Box.new wr _ _) ?_;intro w3 bx3 hg3;have k3:Below wr.heap.size wr w3:=(below_alloc wr (Nat.le_refl _) (.cells Pt.zero.cs.toArray 102)).trans (below_of_grown hg3 (fun j e=>by injection e with e;omega) (by simp));have hb3:=hb.trans (k3.mono hbs);have hr3:=(hrk.step k3).rk _ (List.mem_of_getElem? Hp.out);have hg3':=hgk.step k3;obtain ⟨d0,d1,d2⟩:=bx3.part)
            | (go_at_call 131;refine (containsFunc_any _ _ _ p.rk nodes g _ (by omega) _ hr3 hg3' _ Hany).mono ?_;rintro e w4 ⟨rfl,rfl⟩))
          go_roundw
          case rel=>exact ⟨k+1,by omega,by go_num,H2,hb3⟩
          case measure=>simp [intOf] <;> omega
      · have hkn:k=np:=by omega
        subst hkn
        have hfin:V=0:=by
          rw [H4.out,hf.out,List.drop_eq_nil_of_le (by have:=Hlen.out;omega)];rfl
        have Hfin:=Lib.hid hfin
        clear hfin hf
        go_wp2
        go_ret
        exact ⟨by rw [Hfin.out];try rfl,B2.trans (hb.mono B2.size)⟩
theorem st_cert:St Tryz.prog 40 4:=⟨⟨_,Tryz.underlying40⟩,by kernel_rfl⟩
section
variable {ops:Array Oper} {rest:List Oper} {o:Oper} {a:Act} {Q:Exit→Act→World→Prop} {w:World}
theorem wcv_box (hw:Region.wanted o (yielded ops a.tmps)=true) (x:Operand) (ho:o.op=.load 40 x) {g:Nat} {t:TypeId} {v:Int} {Ap:Option Addr} {np cp:Nat} {d:Int} {At:Option Addr} {nt ct:Nat} (hx:a.eval x=.pointer (some ⟨g,0,none⟩)) (hb:Box w g t (Cv v Ap np cp d At nt ct))
    (h:wpList Tryz.prog ops Q rest (a.put o.dst (.agg #[.int .i64 v,.slice Ap np cp,.int .u32 d,.slice At nt ct])) w):wpList Tryz.prog ops Q (o :: rest) a w :=
  wb_load hw _ x ho st_cert hx hb rfl h
end
set_option maxRecDepth 100000 in
set_option maxHeartbeats 4000000 in
theorem cmay_any (v:Int) (Ap:Option Addr) (np cp:Nat) (d:Int) (At:Option Addr) (nt ct:Nat) (nodes:Int) (w:World) (hnp:np≤9223372036854775807) (hnt:nt≤1000000) (ps:List Pt) (tr:List Int) (B:Nat) (hB:B≤w.heap.size) (hp:PRd w B Ap np cp ps) (ht:RdS iv w B At nt ct tr) (hbd:∀ x∈tr,-9223372036854775808≤x∧x≤9223372036854775807) (hsm:∀ p∈ps,p.n≤9223372036854775807) :
    Calls Tryz.prog 50 #[.agg #[.int .i64 v,.slice Ap np cp,.int .u32 d,.slice At nt ct],.int .i64 nodes] w (RetB (.int .i64 (cmay v ps d tr nodes)) w):=by
  obtain ⟨V,hV⟩:∃ V,cmay v ps d tr nodes=V:=⟨_,rfl⟩
  have bx:=(Box.new w (Cv v Ap np cp d At nt ct) 40).alloc (.cells #[.int .i64 nodes] 3)
  have bn:=Box.new (w.alloc (.cells (Cv v Ap np cp d At nt ct) 40)) #[.int .i64 nodes] 3
  rw [heap_size_alloc] at bn
  have k1:=(below_alloc w (Nat.le_refl _) (.cells (Cv v Ap np cp d At nt ct) 40)).alloc (by simp) (.cells #[.int .i64 nodes] 3)
  have hways:((v == 1)=true∧V=cfree ps d tr nodes)∨((v == 1)=false∧(v == 2)=true∧V=cloops ps tr nodes)∨((v == 1)=false∧(v == 2)=false∧V=9):=by
    rw [← hV]
    unfold cmay
    by_cases h1:v=1
    · exact .inl ⟨by simp [h1],if_pos h1⟩
    · by_cases h2:v=2
      · exact .inr (.inl ⟨by simp [h1],by simp [h2],by rw [if_neg h1,if_pos h2]⟩)
      · exact .inr (.inr ⟨by simp [h1],by simp [h2],by rw [if_neg h1,if_neg h2]⟩)
  have hf:=free_any v Ap np cp d At nt ct nodes (w.heap.size+1) _ hnp (by omega) ps tr B (hp.step k1) ht.len hsm bn
  have hl:=loops_any v Ap np cp d At nt ct nodes (w.heap.size+1) _ hnp hnt ps tr hp.rd.len B (by simp;omega) (ht.step k1) hbd bn
  rw [hV]
  clear hp ht hbd hsm hV
  generalize cfree ps d tr nodes=a1 at hf hways
  generalize cloops ps tr nodes=a2 at hl hways
  have Hf:=Lib.hid hf
  have Hl:=Lib.hid hl
  clear hf hl
  rcases hways with ⟨h1,rfl⟩ | ⟨h1,h2,rfl⟩ | ⟨h1,h2,rfl⟩
  · go_enter Tryz.func50,Tryz.ntmps50
    go_wp2_with (first
      | ((with_reducible refine on_load (.tmp 2) ?_);refine wcv_box rfl (.tmp 2) rfl rfl bx ?_)
      | (go_at_call 101;refine (Hf.out).mono ?_;rintro e w2 ⟨rfl,hb2⟩))
    go_ret
    exact ⟨rfl,k1.trans (hb2.mono k1.size)⟩
  · go_enter Tryz.func50,Tryz.ntmps50
    go_wp2_with (first
      | ((with_reducible refine on_load (.tmp 2) ?_);refine wcv_box rfl (.tmp 2) rfl rfl bx ?_)
      | (go_at_call 102;refine (Hl.out).mono ?_;rintro e w2 ⟨rfl,hb2⟩))
    go_ret
    exact ⟨rfl,k1.trans (hb2.mono k1.size)⟩
  · go_enter Tryz.func50,Tryz.ntmps50
    go_wp2
    go_ret
    exact ⟨rfl,k1⟩
theorem cmay_is (v:Int) (Ap:Option Addr) (np cp:Nat) (d:Int) (At:Option Addr) (nt ct:Nat) (nodes:Int) (w:World) (hnp:np≤9223372036854775807) (hnt:nt≤1000000) (ps:List Pt) (tr:List Int) (B:Nat) (hB:B≤w.heap.size) (hp:PRd w B Ap np cp ps) (ht:RdS iv w B At nt ct tr) (hbd:∀ x∈tr,-9223372036854775808≤x∧x≤9223372036854775807) (hsm:∀ p∈ps,p.n≤9223372036854775807) (V:Int) (hV:cmay v ps d tr nodes=V) :
    Calls Tryz.prog 50 #[.agg #[.int .i64 v,.slice Ap np cp,.int .u32 d,.slice At nt ct],.int .i64 nodes] w fun e w'=>e=.returned (.int .i64 V)∧Below w.heap.size w w':=by
  have:=cmay_any v Ap np cp d At nt ct nodes w hnp hnt ps tr B hB hp ht hbd hsm
  rw [hV] at this
  exact this
theorem meet_is (A:Option Addr) (n c:Nat) (ps:List Pt) (w:World) (hm:n≤9223372036854775807) (B:Nat) (hr:RdM Pt.cs w B A n c ps) (hok:∀ p∈ps,p.Ok) (V:Int) (hV:pmeet ps=V) :
    Calls Tryz.prog 130 #[.slice A n c] w fun e w'=>e=.returned (.int .i64 V)∧Below w.heap.size w w':=by
  have:=meet_any A n c ps w hm B hr hok
  rw [hV] at this
  exact this
end Go.Proofs.YtjandnidljbkoaaGreat
namespace Go.Th
open Go.RowKit
theorem PRd.none_ {w:World} {B:Nat} {A:Option Addr} {c:Nat} {ps:List Pt} (h:PRd w B A 0 c ps) (w':World) (B':Nat):PRd w' B' A 0 c ps:=by
  have:ps=[]:=List.eq_nil_of_length_eq_zero h.rd.len
  subst this
  exact ⟨⟨⟨by simp⟩,rfl,Nat.zero_le _⟩,by simp,by simp⟩
open Go.RowKit
section
variable {P:Program} {ops:Array Oper} {rest:List Oper} {o:Oper} {a:Act} {Q:Exit→Act→World→Prop} {w:World}
end
section
variable {P:Program} {ops:Array Oper} {rest:List Oper} {o:Oper} {a:Act} {C:World→Prop} {Q:Act→Prop}
end
instance (g:Nat) (w:World):Nonempty (KStep g w):=⟨⟨w,rfl⟩⟩
attribute [go_sem] KReach
open Go.RowKit
section
variable {P:Program} {ops:Array Oper} {rest:List Oper} {o:Oper} {a:Act} {Q:Exit→Act→World→Prop} {w:World}
end
end Go.Th
namespace Go.Proofs.YtjandnidljbkoaaGreat
open Go.RowKit Go.Th
theorem z_cert:(Tryz.prog.info? 40).map (fun i=>(i.zero.map Value.cells,i.size))=some (some (Cv 0 none 0 0 0 none 0 0),4):=by kernel_rfl
end Go.Proofs.YtjandnidljbkoaaGreat
