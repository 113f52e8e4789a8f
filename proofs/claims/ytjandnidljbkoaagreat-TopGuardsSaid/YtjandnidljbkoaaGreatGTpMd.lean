/-
  Laid together by wip/tools/merge.py out of: CfMc, CfMd, CfMe, CfPlain, CfWrite, CfPut, CfRead, CfList, CfTake, NhMa, NhMb, NhMc, NhRef. ! ### CfMc ! ### CfMd ! ### CfMe ! ### CfPlain ! ### CfWrite ! ### CfPut ! ### CfRead ! ### CfList ! ### CfTake ! ### NhMa ! ### NhMb ! ### NhMc ! ### NhRef
-/
import Derived.Deep.CutBlock
import Derived.ProofKit
import Derived.OpenShut
import Derived.ShutString
import Derived.ChangeOld
import Derived.Deep.Slices
import Derived.Deep.Fields
import Derived.Lib.SmallJoins
import Derived.WalkKit
import Derived.Lib.SlBytesConst
import Derived.Laws.BitsAllLaws
import Derived.StillTailTactics
import Derived.Deep.DeepCutAuto
import Derived.WalkSpells
import Derived.WalkLawsBesides
import Derived.Deep.QuietTactic
import Derived.BigQuiet
import Derived.Laws.BytesArg
import Derived.Lib.ConvBytes
import Derived.Lib.Hide
import Derived.Outline
import Derived.Maps.AppendAt
import Derived.Laws.Rows
import Derived.Test.YtjandnidljbkoaaGreatProg
import Derived.KernelRfl
import Derived.Deep.MidRow
import Derived.Laws.ResultCell
import Derived.Great.BuildSlice
import Derived.Great.FillDense
import Derived.Maps.OwnOps
import Derived.Maps.OwnSet
import Derived.Maps.Keyed
import Derived.Test.YtjandnidljbkoaaGreatGTpMc
set_option linter.unusedVariables false
namespace Go.Th
open Go.RowKit
theorem cutA_zero (A:Option Addr) (c:Nat):cutA A 0 c=A:=by
  unfold cutA
  split
  · rfl
  · cases A with
    | none=>rfl
    | some a=>simp [Addr.add]
theorem RdS.few {α:Type} {f:α→Value} {A:Option Addr} {n c:Nat} (m N:Nat) (hN:min n m=N) {w:World} {B:Nat} {bs:List α} (hr:RdS f w B A n c bs):RdS f w B A N c (bs.take m):=by
  have hc:=hr.cap
  have h:=hr.cut 0 N c (by omega) (by omega) (by omega)
  rw [cutA_zero] at h
  have e:bs.take m=bs.take N:=by
    by_cases hm:m≤n
    · rw [show N=m by omega]
    · rw [show N=n by omega,List.take_of_length_le (by rw [hr.len];omega),List.take_of_length_le (by rw [hr.len];omega)]
  rw [e]
  exact h
def Pt.few (p:Pt):Pt:=⟨p.fr,p.to,p.A,min p.n 20,p.c,p.rk.take 20⟩
theorem PRd.few {w:World} {B:Nat} {A:Option Addr} {n c:Nat} {ps:List Pt} (h:PRd w B A n c ps) {w':World} {base:Nat} {e:TypeId} {A':Option Addr} {n' c':Nat} (ho:OwM Pt.cs 3 w' base e A' n' c' ((ps.take 20).map Pt.few)) (hb:Below w.heap.size w w') :
    PRd w' w'.heap.size A' n' c' ((ps.take 20).map Pt.few):=by
  refine ⟨ho.rd,fun p hp=>?_,fun p hp=>?_⟩
  · obtain ⟨q,hq,rfl⟩:=List.mem_map.1 hp
    have:=(h.step hb).rk q (List.mem_of_mem_take hq)
    exact (this.few 20 _ rfl).heap
  · obtain ⟨q,hq,rfl⟩:=List.mem_map.1 hp
    exact ⟨(h.ok q (List.mem_of_mem_take hq)).fr,(h.ok q (List.mem_of_mem_take hq)).to⟩
theorem PRd.heap {w:World} {B:Nat} {A:Option Addr} {n c:Nat} {ps:List Pt} (h:PRd w B A n c ps):PRd w w.heap.size A n c ps:=⟨h.rd.heap,fun p hp=>(h.rk p hp).heap,h.ok⟩
theorem PRd.below {w w':World} {B:Nat} {A:Option Addr} {n c:Nat} {ps:List Pt} (h:PRd w B A n c ps) (hb:Below B w w'):PRd w' B A n c ps:=⟨h.rd.below hb,fun p hp=>(h.rk p hp).below hb,h.ok⟩
section
variable {P:Program} {ops:Array Oper} {rest:List Oper} {o:Oper} {a:Act} {Q:Exit→Act→World→Prop} {w:World}
end
section
variable {P:Program} {ops:Array Oper} {C:World→Prop} {Q:Act→Prop} {rest:List Oper} {o:Oper} {a:Act}
end
end Go.Th
namespace Go.Proofs.YtjandnidljbkoaaGreat
open Go.RowKit Go.Th
theorem z_part:(Tryz.prog.info? 102).map (fun i=>(i.zero.map Value.cells,i.size))=some (some Pt.zero.cs.toArray,3):=by kernel_rfl
section
variable {ops:Array Oper} {rest:List Oper} {o:Oper} {a:Act} {Q:Exit→Act→World→Prop} {w:World}
end
end Go.Proofs.YtjandnidljbkoaaGreat
namespace Go.Th
open Go.RowKit
section
variable {P:Program} {ops:Array Oper} {rest:List Oper} {o:Oper} {a:Act} {C:World→Prop} {Q:Act→Prop}
theorem wq_at_i (hw:Region.wanted o (yielded ops a.tmps)=true) (T:TypeId) (s i:Operand) (ho:o.op=.indexAddr T s i) {E bytes:Nat} {z:Value} (el:El P T E z bytes)
    {A:Option Addr} {n c:Nat} {k:IntKind} {I:Int} (hs:a.eval s=.slice A n c) (hi:a.eval i=.int k I) (h0:0≤I) (h1:I < n) {w0:World} (hC0:C w0)
    {B:Nat} {zs:List Int} (hr:RdC iv C B A n c zs)
    (h:∀ (p:Addr) (x:Int),Hid (zs[I.toNat]? = some x)→(∀ w,C w→w.cell? p=some (.int .i64 x))→wpQuiet P ops C Q rest (a.put o.dst (.pointer (some p)))) :
    wpQuiet P ops C Q (o :: rest) a:=by
  have hl:I.toNat < zs.length:=by have:=(hr.rd w0 hC0).len;omega
  obtain ⟨b,off,hA,hb,hc⟩:=(hr.rd w0 hC0).rd.at_ I.toNat (iv zs[I.toNat]) (by rw [List.getElem?_map,List.getElem?_eq_getElem hl];rfl)
  subst hA
  refine wq_run hw (v:=.pointer (some ((⟨b,off,none⟩:Addr).add (I.toNat * 1)))) (fun w hC=>?_) ?_
  · simp only [execOp,ho,hs,hi,Sem.run_bind,run_indexAt T el.ht (el.size w) _ n c k I h0 h1,Result.andThen,Sem.run_pure]
  · refine h _ zs[I.toNat] (List.getElem?_eq_getElem hl) fun w hC=>?_
    obtain ⟨b',off',hA',_,hc'⟩:=(hr.rd w hC).rd.at_ I.toNat (iv zs[I.toNat]) (by rw [List.getElem?_map,List.getElem?_eq_getElem hl];rfl)
    injection hA' with hA'
    injection hA' with e1 e2
    subst e1 e2
    rw [Nat.mul_one,Addr.add_lit]
    exact hc'
end
open Go.RowKit
def EndOf (l:List Int) (n i:Nat) (h:Int):Prop:=(i+1=n∧h=4294967295)∨(i+1 < n∧∃ y,l[i+1]? = some y∧1≤y∧y≤4294967295∧h=y - 1)
section
variable {P:Program} {ops:Array Oper} {rest:List Oper} {o:Oper} {a:Act} {C:World→Prop} {Q:Act→Prop}
end
open Go.RowKit
section
variable {P:Program} {ops:Array Oper} {rest:List Oper} {o:Oper} {a:Act} {Q:Exit→Act→World→Prop} {w:World}
end
open Go.RowKit
section
variable {P:Program} {ops:Array Oper} {G:World→World→Prop} {md:Region.Mode} {L:Nat}
end
open Go.RowKit
def psame:List Pt→List Pt→Bool
  | [],[]=>true
  | p :: ps,q :: qs=>(decide (p.fr=q.fr) && decide (p.to=q.to) && decide (p.rk=q.rk)) && psame ps qs
  | [],_ :: _=>false
  | _ :: _,[]=>false
def csame (v:Int) (ps:List Pt) (d:Int) (tr:List Int) (v':Int) (qs:List Pt) (d':Int) (tr':List Int):Bool :=
  decide (v=v') && decide (d=d') && decide (tr=tr') && psame ps qs
theorem psame_len:∀ (ps qs:List Pt),psame ps qs=true→ps.length=qs.length
  | [],[],_=>rfl
  | p :: ps,q :: qs,h=>by
    simp only [psame,Bool.and_eq_true] at h
    simp [psame_len ps qs h.2]
  | [],_ :: _,h=>by simp [psame] at h
  | _ :: _,[],h=>by simp [psame] at h
theorem take_eq_snoc {α:Type} {xs ys:List α} {k:Nat} {x y:α} (hx:xs[k]? = some x) (hy:ys[k]? = some y) (h:xs.take k=ys.take k) (hxy:x=y):xs.take (k+1)=ys.take (k+1):=by
  rw [List.take_add_one,List.take_add_one,hx,hy,h,hxy]
theorem ne_at {α:Type} {xs ys:List α} {k:Nat} {x y:α} (hx:xs[k]? = some x) (hy:ys[k]? = some y) (hxy:x≠y):xs≠ys:=fun e=>by
  subst e
  rw [hx] at hy
  injection hy with hy
  exact hxy hy
theorem psame_on {ps qs:List Pt} {k:Nat} {p q:Pt} (hp:ps[k]? = some p) (hq:qs[k]? = some q) (h:p.fr=q.fr∧p.to=q.to∧p.rk=q.rk):psame (ps.drop k) (qs.drop k)=psame (ps.drop (k+1)) (qs.drop (k+1)):=by
  rw [drop_cons hp,drop_cons hq]
  simp [psame,h.1,h.2.1,h.2.2]
theorem psame_no {ps qs:List Pt} {k:Nat} {p q:Pt} (hp:ps[k]? = some p) (hq:qs[k]? = some q) (h:¬ (p.fr=q.fr∧p.to=q.to∧p.rk=q.rk)):psame (ps.drop k) (qs.drop k)=false:=by
  rw [drop_cons hp,drop_cons hq]
  simp only [psame]
  by_cases h1:p.fr=q.fr
  · by_cases h2:p.to=q.to
    · have h3:¬ p.rk=q.rk:=fun h3=>h ⟨h1,h2,h3⟩
      simp [h3]
    · simp [h2]
  · simp [h1]
end Go.Th
namespace Go.Proofs.YtjandnidljbkoaaGreat
open Go.RowKit Go.Th
def cfm_RowRel (xs ys:List Int) (n:Nat) (w:World) (i:Value) (wr:World):Prop :=
  ∃ k:Nat,k≤n∧i=.int .i64 k∧Hid (xs.take k=ys.take k)∧Below w.heap.size w wr
set_option maxRecDepth 100000 in
theorem cfm_equal_any (A:Option Addr) (n c:Nat) (A2:Option Addr) (n2 c2:Nat) (xs ys:List Int) (w:World) (hm:n≤9223372036854775807) (hm2:n2≤9223372036854775807) (B B2:Nat) (hr:RdS iv w B A n c xs) (hr2:RdS iv w B2 A2 n2 c2 ys) (b:Bool) (hb:Hid (decide (xs=ys)=b)) :
    Calls Tryz.prog 83 #[.slice A n c,.slice A2 n2 c2] w (RetB (.bool b) w):=by
  have Hlen:=Lib.hid hr.len
  have Hlen2:=Lib.hid hr2.len
  by_cases hnn:n=n2
  rotate_left
  · have n1:((n:Int) != (n2:Int))=true:=by simp;omega
    have Hb:Hid (b=false):=Lib.hid (by rw [← hb.out];exact decide_eq_false fun e=>by subst e;exact hnn (Hlen.out.symm.trans Hlen2.out))
    go_enter Tryz.func83,Tryz.ntmps83
    go_wp2
    go_ret
    exact ⟨by rw [Hb.out];try rfl,Below.refl _ _⟩
  · subst hnn
    have n1:((n:Int) != (n:Int))=false:=by simp
    go_enter Tryz.func83,Tryz.ntmps83
    go_wp2
    go_loopw [5,13] (fun _ i wr=>cfm_RowRel xs ys n w i wr) (fun _ i _=>n - (intOf i).toNat)
    case atStart=>exact ⟨0,by omega,rfl,Lib.hid rfl,Below.refl _ _⟩
    case round =>
      obtain ⟨k,hk,rfl,hf,hbw⟩:=hrel
      have hrk:=hr.step hbw
      have hrk2:=hr2.step hbw
      have hbs:=hbw.size
      by_cases hlt:k < n
      · obtain ⟨x,hx⟩:∃ x,xs[k]? = some x:=⟨xs[k]'(by have:=Hlen.out;omega),List.getElem?_eq_getElem _⟩
        obtain ⟨y,hy⟩:∃ y,ys[k]? = some y:=⟨ys[k]'(by have:=Hlen2.out;omega),List.getElem?_eq_getElem _⟩
        have hways:((x != y)=true∧b=false)∨((x != y)=false∧xs.take (k+1)=ys.take (k+1)):=by
          by_cases h:x=y
          · exact .inr ⟨by simp [h],take_eq_snoc hx hy hf.out h⟩
          · exact .inl ⟨by simp [h],by rw [← hb.out];exact decide_eq_false (ne_at hx hy h)⟩
        have Hx:=Lib.hid hx
        have Hy:=Lib.hid hy
        have x1:=hrk.reach
        have x2:=hrk2.reach
        clear hx hy hf
        rcases hways with ⟨e1,e2⟩ | ⟨e1,e2⟩
        all_goals
          have He:=Lib.hid e2
          clear e2
          go_upto_region 6 with fail
          refine wp_region_reach (by kernel_rfl) (by kernel_rfl) ?_
          repeat (first | go_big_quiet_skip | ((with_reducible refine onq_index (.tmp 16) ?_);refine wq_at_i rfl _ (.tmp 16) _ rfl el_int rfl rfl (by omega) (by omega) (Th.Reach.refl _ _) x1 ?_;intro p1 z1 hz1 hc1;have hxx:=get_eq Hx.out hz1.out (by omega);subst hxx;have f1:∀ q:Step _ _,q.w.cell? p1=some (.int .i64 x):=fun q=>hc1 q.w ⟨q,rfl⟩) | ((with_reducible refine onq_index (.tmp 20) ?_);refine wq_at_i rfl _ (.tmp 20) _ rfl el_int rfl rfl (by omega) (by omega) (Th.Reach.refl _ _) x2 ?_;intro p2 z2 hz2 hc2;have hxx:=get_eq Hy.out hz2.out (by omega);subst hxx;have f2:∀ q:Step _ _,q.w.cell? p2=some (.int .i64 y):=fun q=>hc2 q.w ⟨q,rfl⟩) | go_big_quiet_step (fail) | quiet_step (fail))
          refine wpQuiet_nil ?_
          rintro _ ⟨q,rfl⟩
          have hqw5:=q.h
          obtain ⟨w5,hw5'⟩:∃ W,q.w=W:=⟨_,rfl⟩
          rw [hw5'] at hqw5 ⊢
          clear hw5' q
          go_wp2
        · go_ret
          exact ⟨by rw [He.out];try rfl,hbw.trans (hqw5.mono hbs)⟩
        · go_roundw
          case rel=>first | exact ⟨k+1,by omega,by go_num,He,hbw.trans (hqw5.mono hbs)⟩ | exact ⟨_,_,⟨k+1,by omega,by go_num,He,hbw.trans (hqw5.mono hbs)⟩,rfl,rfl⟩ | exact ⟨_,_,_,⟨k+1,by omega,by go_num,He,hbw.trans (hqw5.mono hbs)⟩,rfl,rfl,rfl⟩
          case measure=>simp [intOf] <;> omega
      · have hkn:k=n:=by omega
        have Hb:Hid (b=true):=Lib.hid (by
          have h:=hf.out
          rw [List.take_of_length_le (by have:=Hlen.out;omega),List.take_of_length_le (by have:=Hlen2.out;omega)] at h
          rw [← hb.out];exact decide_eq_true h)
        clear hf
        go_wp2
        go_ret
        exact ⟨by rw [Hb.out];try rfl,hbw⟩
open Go.RowKit Go.Th
def pone (p q:Pt):Bool:=decide (p.fr=q.fr∧p.to=q.to∧p.rk=q.rk)
set_option maxRecDepth 100000 in
theorem same1_any (p q:Pt) (w:World) (hn:p.n≤9223372036854775807) (hn2:q.n≤9223372036854775807) (B B2:Nat) (hr:RdS iv w B p.A p.n p.c p.rk) (hr2:RdS iv w B2 q.A q.n q.c q.rk) (b:Bool) (hb:Hid (pone p q=b)) :
    Calls Tryz.prog 85 #[.agg #[.int .u32 p.fr,.int .u32 p.to,.slice p.A p.n p.c],.agg #[.int .u32 q.fr,.int .u32 q.to,.slice q.A q.n q.c]] w fun e w'=>e=.returned (.bool b)∧Below w.heap.size w w':=by
  have hways:((p.fr == q.fr)=false∧b=false)∨((p.fr == q.fr)=true∧(p.to == q.to)=false∧b=false)∨((p.fr == q.fr)=true∧(p.to == q.to)=true∧decide (p.rk=q.rk)=b):=by
    rw [← hb.out]
    unfold pone
    by_cases h1:p.fr=q.fr
    · by_cases h2:p.to=q.to
      · exact .inr (.inr ⟨by simp [h1],by simp [h2],by simp [h1,h2]⟩)
      · exact .inr (.inl ⟨by simp [h1],by simp [h2],by simp [h2]⟩)
    · exact .inl ⟨by simp [h1],by simp [h1]⟩
  have K0:=(below_alloc w (Nat.le_refl _) (.cells p.cs.toArray 102)).alloc (by simp) (.cells q.cs.toArray 102)
  have h1:=hr.step K0
  have h2:=hr2.step K0
  have bp:=(Box.new w p.cs.toArray 102).alloc (.cells q.cs.toArray 102)
  have bq:=Box.new (w.alloc (.cells p.cs.toArray 102)) q.cs.toArray 102
  rw [heap_size_alloc] at bq
  obtain ⟨c0,c1,c2⟩:=bp.part
  obtain ⟨d0,d1,d2⟩:=bq.part
  clear hr hr2 bp bq hb
  rcases hways with ⟨e1,rfl⟩ | ⟨e1,e2,rfl⟩ | ⟨e1,e2,e3⟩
  · go_enter Tryz.func85,Tryz.ntmps85
    go_wp2
    go_ret
    exact ⟨rfl,K0⟩
  · go_enter Tryz.func85,Tryz.ntmps85
    go_wp2
    go_ret
    exact ⟨rfl,K0⟩
  · have H3:=Lib.hid e3
    clear e3
    go_enter Tryz.func85,Tryz.ntmps85
    go_wp2_with (go_at_call 83;refine (cfm_equal_any _ _ _ _ _ _ p.rk q.rk _ hn hn2 _ _ h1 h2 b H3).mono ?_;rintro e w1 ⟨rfl,hb1⟩)
    go_ret
    exact ⟨rfl,K0.trans (hb1.mono K0.size)⟩
theorem psame_one {ps qs:List Pt} {k:Nat} {p q:Pt} (hp:ps[k]? = some p) (hq:qs[k]? = some q):(pone p q=true∧psame (ps.drop k) (qs.drop k)=psame (ps.drop (k+1)) (qs.drop (k+1)))∨(pone p q=false∧psame (ps.drop k) (qs.drop k)=false):=by
  unfold pone
  by_cases h:p.fr=q.fr∧p.to=q.to∧p.rk=q.rk
  · exact .inl ⟨decide_eq_true h,psame_on hp hq h⟩
  · exact .inr ⟨decide_eq_false h,psame_no hp hq h⟩
def PsRel (ps qs:List Pt) (n:Nat) (w:World) (i:Value) (wr:World):Prop :=
  ∃ k:Nat,k≤n∧i=.int .i64 k∧Hid (psame ps qs=psame (ps.drop k) (qs.drop k))∧Below w.heap.size w wr
set_option maxRecDepth 100000 in
set_option maxHeartbeats 4000000 in
theorem equalFunc_any (A:Option Addr) (n c:Nat) (A2:Option Addr) (n2 c2:Nat) (ps qs:List Pt) (w:World) (hm:n≤9223372036854775807) (hm2:n2≤9223372036854775807) (B B2:Nat) (hr:PRd w B A n c ps) (hr2:PRd w B2 A2 n2 c2 qs) (hsm:∀ p∈ps,p.n≤9223372036854775807) (hsm2:∀ p∈qs,p.n≤9223372036854775807) (b:Bool) (hb:Hid (psame ps qs=b)) :
    Calls Tryz.prog 84 #[.slice A n c,.slice A2 n2 c2,.func (.func 85) #[] #[]] w (RetB (.bool b) w):=by
  have Hlen:=Lib.hid hr.rd.len
  have Hlen2:=Lib.hid hr2.rd.len
  have Hsm:=Lib.hid hsm
  have Hsm2:=Lib.hid hsm2
  clear hsm hsm2
  by_cases hnn:n=n2
  rotate_left
  · have n1:((n:Int) != (n2:Int))=true:=by simp;omega
    have Hb:Hid (b=false):=Lib.hid (by
      rw [← hb.out]
      cases h:psame ps qs with
      | false=>rfl
      | true=>exact absurd (Hlen.out.symm.trans ((psame_len ps qs h).trans Hlen2.out)) hnn)
    go_enter Tryz.func84,Tryz.ntmps84
    go_wp2
    go_ret
    exact ⟨by rw [Hb.out];try rfl,Below.refl _ _⟩
  · subst hnn
    have n1:((n:Int) != (n:Int))=false:=by simp
    go_enter Tryz.func84,Tryz.ntmps84
    go_wp2
    go_loopw [6,7,8,9,17] (fun _ _ _ _ i wr=>PsRel ps qs n w i wr) (fun _ _ _ _ i _=>n - (intOf i).toNat)
    case atStart=>exact ⟨0,by omega,rfl,Lib.hid rfl,Below.refl _ _⟩
    case round =>
      obtain ⟨k,hk,rfl,hf,hbw⟩:=hrel
      have hrk:=hr.step hbw
      have hrk2:=hr2.step hbw
      have hbs:=hbw.size
      by_cases hlt:k < n
      · obtain ⟨p,hp⟩:∃ x,ps[k]? = some x:=⟨ps[k]'(by have:=Hlen.out;omega),List.getElem?_eq_getElem _⟩
        obtain ⟨q,hq⟩:∃ x,qs[k]? = some x:=⟨qs[k]'(by have:=Hlen2.out;omega),List.getElem?_eq_getElem _⟩
        have hpn:=Hsm.out p (List.mem_of_getElem? hp)
        have hqn:=Hsm2.out q (List.mem_of_getElem? hq)
        have hways:=psame_one hp hq
        have Hp:=Lib.hid hp
        have Hq:=Lib.hid hq
        clear hp hq
        go_upto_region 6 with (first
          | ((with_reducible refine on_index (.tmp 15) ?_);refine wm_at Pt.cs_length rfl _ (.tmp 15) _ rfl el_part rfl rfl (by omega) (by omega) hrk.rd ?_;intro b1 j1 r1 hr1 hb1 hc1;have hxx:p=r1:=get_eq Hp.out hr1.out (by omega);subst hxx)
          | ((with_reducible refine on_load (.tmp 20) ?_);refine wpt_load rfl _ (.tmp 20) rfl st_part rfl hc1 ?_)
          | ((with_reducible refine on_store_at (.tmp 8) ?_);refine wpt_store (r:=Pt.zero) (s:=p) rfl _ (.tmp 8) _ rfl st_part rfl rfl (Box.new wr _ _) ?_;intro w3 bx3 hg3))
        have k3:Below wr.heap.size wr w3:=(below_alloc wr (Nat.le_refl _) (.cells Pt.zero.cs.toArray 102)).trans (below_of_grown hg3 (fun j e=>by injection e with e;omega) (by simp))
        have hrk3:=hrk2.step k3
        have hp3:=(hrk.step k3).rk p (List.mem_of_getElem? Hp.out)
        have z3:=k3.size
        clear hg3 hc1
        go_upto_region 7 with (first
          | ((with_reducible refine on_index (.tmp 22) ?_);refine wm_at Pt.cs_length rfl _ (.tmp 22) _ rfl el_part rfl rfl (by omega) (by omega) hrk3.rd ?_;intro b4 j4 r4 hr4 hb4 hc4;have hxx:q=r4:=get_eq Hq.out hr4.out (by omega);subst hxx)
          | ((with_reducible refine on_load (.tmp 24) ?_);refine wpt_load rfl _ (.tmp 24) rfl st_part rfl hc4 ?_)
          | ((with_reducible refine on_store_at (.tmp 9) ?_);refine wpt_store (r:=Pt.zero) (s:=q) rfl _ (.tmp 9) _ rfl st_part rfl rfl (Box.new w3 _ _) ?_;intro w5 bx5 hg5))
        have k5:Below w3.heap.size w3 w5:=(below_alloc w3 (Nat.le_refl _) (.cells Pt.zero.cs.toArray 102)).trans (below_of_grown hg5 (fun j e=>by injection e with e;omega) (by simp))
        have bx35:=bx3.step k5
        have hp5:=hp3.step k5
        have hq5:=(hrk3.step k5).rk q (List.mem_of_getElem? Hq.out)
        have k35:Below wr.heap.size wr w5:=k3.trans (k5.mono z3)
        have hb5:=hbw.trans (k35.mono hbs)
        clear hg5 hc4 k5 k3
        rcases hways with ⟨e1,e2⟩ | ⟨e1,e2⟩
        · have H1:=Lib.hid e1
          have H2:=Lib.hid (hf.out.trans e2)
          clear e1 e2 hf
          go_wp2_with (first
            | ((with_reducible refine on_load (.tmp 8) ?_);refine wpt_box rfl _ (.tmp 8) rfl st_part rfl bx35 ?_)
            | ((with_reducible refine on_load (.tmp 9) ?_);refine wpt_box rfl _ (.tmp 9) rfl st_part rfl bx5 ?_)
            | (go_at_call 85;refine (same1_any p q _ hpn hqn _ _ hp5 hq5 true H1).mono ?_;rintro e w6 ⟨rfl,hb6⟩))
          go_roundw
          case rel=>first | exact ⟨k+1,by omega,by go_num,H2,hb5.trans (hb6.mono hb5.size)⟩ | exact ⟨_,_,_,_,_,⟨k+1,by omega,by go_num,H2,hb5.trans (hb6.mono hb5.size)⟩,rfl,rfl,rfl,rfl,rfl⟩
          case measure=>simp [intOf] <;> omega
        · have H1:=Lib.hid e1
          have H2:Hid (b=false):=Lib.hid (by rw [← hb.out,hf.out,e2])
          clear e1 e2 hf
          go_wp2_with (first
            | ((with_reducible refine on_load (.tmp 8) ?_);refine wpt_box rfl _ (.tmp 8) rfl st_part rfl bx35 ?_)
            | ((with_reducible refine on_load (.tmp 9) ?_);refine wpt_box rfl _ (.tmp 9) rfl st_part rfl bx5 ?_)
            | (go_at_call 85;refine (same1_any p q _ hpn hqn _ _ hp5 hq5 false H1).mono ?_;rintro e w6 ⟨rfl,hb6⟩))
          go_ret
          exact ⟨by rw [H2.out];try rfl,hb5.trans (hb6.mono hb5.size)⟩
      · have hkn:k=n:=by omega
        have Hb:Hid (b=true):=Lib.hid (by
          have h:=hf.out
          rw [List.drop_eq_nil_of_le (by have:=Hlen.out;omega),List.drop_eq_nil_of_le (by have:=Hlen2.out;omega)] at h
          rw [← hb.out,h];rfl)
        clear hf
        go_wp2
        go_ret
        exact ⟨by rw [Hb.out];try rfl,hbw⟩
set_option maxRecDepth 100000 in
set_option maxHeartbeats 4000000 in
theorem csame_any (v1:Int) (Ap1:Option Addr) (np1 cp1:Nat) (d1:Int) (At1:Option Addr) (nt1 ct1:Nat) (v2:Int) (Ap2:Option Addr) (np2 cp2:Nat) (d2:Int) (At2:Option Addr) (nt2 ct2:Nat) (w:World) (hnp1:np1≤9223372036854775807) (hnt1:nt1≤9223372036854775807) (ps1:List Pt) (tr1:List Int) (B1:Nat) (hp1:PRd w B1 Ap1 np1 cp1 ps1) (ht1:RdS iv w B1 At1 nt1 ct1 tr1) (hsm1:∀ p∈ps1,p.n≤9223372036854775807) (hnp2:np2≤9223372036854775807) (hnt2:nt2≤9223372036854775807) (ps2:List Pt) (tr2:List Int) (B2:Nat) (hp2:PRd w B2 Ap2 np2 cp2 ps2) (ht2:RdS iv w B2 At2 nt2 ct2 tr2) (hsm2:∀ p∈ps2,p.n≤9223372036854775807) (b:Bool) (hb:Hid (csame v1 ps1 d1 tr1 v2 ps2 d2 tr2=b)) :
    Calls Tryz.prog 33 #[.agg #[.int .i64 v1,.slice Ap1 np1 cp1,.int .u32 d1,.slice At1 nt1 ct1],.agg #[.int .i64 v2,.slice Ap2 np2 cp2,.int .u32 d2,.slice At2 nt2 ct2]] w (RetB (.bool b) w):=by
  have hways:((v1 != v2)=true∧b=false)∨((v1 != v2)=false∧(d1 != d2)=true∧b=false)∨((v1 != v2)=false∧(d1 != d2)=false∧decide (tr1=tr2)=false∧b=false)∨((v1 != v2)=false∧(d1 != d2)=false∧decide (tr1=tr2)=true∧psame ps1 ps2=b):=by
    rw [← hb.out]
    unfold csame
    by_cases h1:v1=v2
    · by_cases h2:d1=d2
      · by_cases h3:tr1=tr2
        · exact .inr (.inr (.inr ⟨by simp [h1],by simp [h2],decide_eq_true h3,by simp [h1,h2,h3]⟩))
        · exact .inr (.inr (.inl ⟨by simp [h1],by simp [h2],decide_eq_false h3,by simp [h3]⟩))
      · exact .inr (.inl ⟨by simp [h1],by simp [h2],by simp [h2]⟩)
    · exact .inl ⟨by simp [h1],by simp [h1]⟩
  have bx1:=(Box.new w (Cv v1 Ap1 np1 cp1 d1 At1 nt1 ct1) 40).alloc (.cells (Cv v2 Ap2 np2 cp2 d2 At2 nt2 ct2) 40)
  have bx2:=Box.new (w.alloc (.cells (Cv v1 Ap1 np1 cp1 d1 At1 nt1 ct1) 40)) (Cv v2 Ap2 np2 cp2 d2 At2 nt2 ct2) 40
  rw [heap_size_alloc] at bx2
  have K0:=(below_alloc w (Nat.le_refl _) (.cells (Cv v1 Ap1 np1 cp1 d1 At1 nt1 ct1) 40)).alloc (by simp) (.cells (Cv v2 Ap2 np2 cp2 d2 At2 nt2 ct2) 40)
  have hp1:=hp1.step K0
  have hp2:=hp2.step K0
  have ht1:=ht1.step K0
  have ht2:=ht2.step K0
  have z0:=K0.size
  obtain ⟨c0,c1,c2,c3⟩:((w.alloc (.cells (Cv v1 Ap1 np1 cp1 d1 At1 nt1 ct1) 40)).alloc (.cells (Cv v2 Ap2 np2 cp2 d2 At2 nt2 ct2) 40)).cell? ⟨w.heap.size,0,none⟩=some (.int .i64 v1)∧((w.alloc (.cells (Cv v1 Ap1 np1 cp1 d1 At1 nt1 ct1) 40)).alloc (.cells (Cv v2 Ap2 np2 cp2 d2 At2 nt2 ct2) 40)).cell? ⟨w.heap.size,1,none⟩=some (.slice Ap1 np1 cp1)∧((w.alloc (.cells (Cv v1 Ap1 np1 cp1 d1 At1 nt1 ct1) 40)).alloc (.cells (Cv v2 Ap2 np2 cp2 d2 At2 nt2 ct2) 40)).cell? ⟨w.heap.size,2,none⟩=some (.int .u32 d1)∧((w.alloc (.cells (Cv v1 Ap1 np1 cp1 d1 At1 nt1 ct1) 40)).alloc (.cells (Cv v2 Ap2 np2 cp2 d2 At2 nt2 ct2) 40)).cell? ⟨w.heap.size,3,none⟩=some (.slice At1 nt1 ct1):=⟨bx1.cell 0,bx1.cell 1,bx1.cell 2,bx1.cell 3⟩
  obtain ⟨e0,e1,e2,e3⟩:((w.alloc (.cells (Cv v1 Ap1 np1 cp1 d1 At1 nt1 ct1) 40)).alloc (.cells (Cv v2 Ap2 np2 cp2 d2 At2 nt2 ct2) 40)).cell? ⟨w.heap.size+1,0,none⟩=some (.int .i64 v2)∧((w.alloc (.cells (Cv v1 Ap1 np1 cp1 d1 At1 nt1 ct1) 40)).alloc (.cells (Cv v2 Ap2 np2 cp2 d2 At2 nt2 ct2) 40)).cell? ⟨w.heap.size+1,1,none⟩=some (.slice Ap2 np2 cp2)∧((w.alloc (.cells (Cv v1 Ap1 np1 cp1 d1 At1 nt1 ct1) 40)).alloc (.cells (Cv v2 Ap2 np2 cp2 d2 At2 nt2 ct2) 40)).cell? ⟨w.heap.size+1,2,none⟩=some (.int .u32 d2)∧((w.alloc (.cells (Cv v1 Ap1 np1 cp1 d1 At1 nt1 ct1) 40)).alloc (.cells (Cv v2 Ap2 np2 cp2 d2 At2 nt2 ct2) 40)).cell? ⟨w.heap.size+1,3,none⟩=some (.slice At2 nt2 ct2):=⟨bx2.cell 0,bx2.cell 1,bx2.cell 2,bx2.cell 3⟩
  clear hb
  rcases hways with ⟨g1,rfl⟩ | ⟨g1,g2,rfl⟩ | ⟨g1,g2,g3,rfl⟩ | ⟨g1,g2,g3,g4⟩
  · go_enter Tryz.func33,Tryz.ntmps33
    go_wp2
    go_ret
    exact ⟨rfl,K0⟩
  · go_enter Tryz.func33,Tryz.ntmps33
    go_wp2
    go_ret
    exact ⟨rfl,K0⟩
  · have H3:=Lib.hid g3
    clear g3
    go_enter Tryz.func33,Tryz.ntmps33
    go_wp2_with (go_at_call 83;refine (cfm_equal_any _ _ _ _ _ _ tr1 tr2 _ hnt1 hnt2 _ _ ht1 ht2 false H3).mono ?_;rintro e w1 ⟨rfl,hb1⟩)
    go_ret
    exact ⟨rfl,K0.trans (hb1.mono z0)⟩
  · have H3:=Lib.hid g3
    have H4:=Lib.hid g4
    clear g3 g4
    go_enter Tryz.func33,Tryz.ntmps33
    go_wp2_with (first
      | (go_at_call 83;refine (cfm_equal_any _ _ _ _ _ _ tr1 tr2 _ hnt1 hnt2 _ _ ht1 ht2 true H3).mono ?_;rintro e w1 ⟨rfl,hb1⟩;have hp11:=hp1.step hb1;have hp21:=hp2.step hb1;have f1:w1.cell? ⟨w.heap.size,1,none⟩=some (.slice Ap1 np1 cp1):=(bx1.step hb1).cell 1;have f2:w1.cell? ⟨w.heap.size+1,1,none⟩=some (.slice Ap2 np2 cp2):=(bx2.step hb1).cell 1)
      | (go_at_call 84;refine (equalFunc_any _ _ _ _ _ _ ps1 ps2 _ hnp1 hnp2 _ _ hp11 hp21 hsm1 hsm2 b H4).mono ?_;rintro e w2 ⟨rfl,hb2⟩))
    go_ret
    exact ⟨rfl,K0.trans ((hb1.trans (hb2.mono hb1.size)).mono z0)⟩
end Go.Proofs.YtjandnidljbkoaaGreat
namespace Go.Th
open Go.ChangeShapes Go.WideShapes Go.ChangeAt Go.RowKit
section
variable {H:Type} {enc:TypeId × Value→H} {P:Program} {w:World} {base:Nat} {spare:Nat→Bool} {held:Bool} {r:Go.Reach} {b0:Nat} {t e:TypeId} {v:Value} {d:DataW H} {p:List MemPlace}
end
open Go.ChangeShapes Go.WideShapes Go.ChangeAt Go.RowKit Go.Deep Go.Joins
structure RuleT (P:Program) (t:TypeId):Prop where
  fields:∃ f0 f1 f2 f3:Field,P.underlying t=some (.struct #[f0,f1,f2,f3])∧oneCellFields P #[f0,f1,f2,f3]=true ∧
    P.underlying f0.type=some (.int .u32)∧P.underlying f1.type=some (.int .i64)∧P.underlying f2.type=some (.int .i64)∧P.underlying f3.type=some (.int .i64)
  cells:P.cellsOf t=4
section
variable {H:Type} {enc:TypeId × Value→H} {P:Program} {w:World} {base:Nat} {spare:Nat→Bool} {held:Bool} {r:Go.Reach} {b0:Nat} {t e:TypeId} {v:Value} {d:DataW H} {p:List MemPlace}
theorem trod_rule (rt:RuleT P t) {fuel:Nat} {cs:List Value} {x:DataW H × List MemPlace} (h:DataW.trod enc P w base spare held fuel t cs=some x):∃ r:Ru,cs=r.cs∧r.Ok:=by
  obtain ⟨f0,f1,f2,f3,hs,hone,u0,u1,u2,u3⟩:=rt.fields
  obtain ⟨xs,n,_,_,hlen,hxl,hf⟩:=DataW.trod_struct hs h
  rw [rt.cells] at hlen
  have key:∀ (i:Nat) (f:Field) (k:IntKind),(#[f0,f1,f2,f3]:Array Field)[i]? = some f→P.underlying f.type=some (.int k)→∃ z,(cs.drop i).take 1=[.int k z]∧(Lit.int k z).wf=true:=by
    intro i f k hi hu
    obtain ⟨o,c⟩:=hone_of hone i f hi
    have h1:=hf i f hi
    rw [o,c] at h1
    have hil:i < xs.length:=by rw [hxl];exact (Array.getElem?_eq_some_iff.1 hi).1
    rw [List.getElem?_eq_getElem hil] at h1
    obtain ⟨z,hz,_,hw⟩:=DataW.trod_int hu h1
    exact ⟨z,hz,hw⟩
  match cs,hlen with
  | [c0,c1,c2,c3],_ =>
    obtain ⟨z0,e0,w0⟩:=key 0 f0 .u32 rfl u0
    obtain ⟨z1,e1,w1⟩:=key 1 f1 .i64 rfl u1
    obtain ⟨z2,e2,w2⟩:=key 2 f2 .i64 rfl u2
    obtain ⟨z3,e3,w3⟩:=key 3 f3 .i64 rfl u3
    simp at e0 e1 e2 e3
    subst e0 e1 e2 e3
    exact ⟨⟨z0,z1,z2,z3⟩,rfl,⟨bounds_u32 w0,bounds_i64 w1,bounds_i64 w2,bounds_i64 w3⟩⟩
end
open Go.ChangeShapes Go.WideShapes Go.ChangeAt Go.RowKit Go.Deep Go.Joins
section
variable {H:Type} {enc:TypeId × Value→H} {P:Program} {w:World} {base:Nat} {spare:Nat→Bool} {held:Bool} {r:Go.Reach} {b0:Nat} {t e:TypeId} {v:Value} {d:DataW H} {p:List MemPlace}
theorem trod_slice_gen {α:Type} {f:α→List Value} {k:Nat} (hf:∀ x,(f x).length=k) (hk:0 < k) {R:α→Prop} (hc:P.cellsOf e=k)
    (hel:∀ (spare:Nat→Bool) (held:Bool) (fuel:Nat) (cs:List Value) (x:DataW H × List MemPlace),DataW.trod enc P w base spare held fuel e cs=some x→∃ r:α,cs=f r∧R r)
    (ht:P.underlying t=some (.slice e)) {fuel:Nat} {cs:List Value} {x:DataW H × List MemPlace} (h:DataW.trod enc P w base spare held fuel t cs=some x) :
    ∃ A n c xs,cs=[.slice A n c]∧RdM f w w.heap.size A n c xs∧n≤9223372036854775807∧∀ x∈xs,R x:=by
  obtain ⟨D,Pl⟩:=x
  rcases open_slice ht h with ⟨hcs,_⟩ | ⟨x,n,c,m,n',D,Pl,hcs,_,hl,hm,hmm,_,hcell⟩
  · exact ⟨none,0,0,[],hcs,RdM.nil _ _,by omega,by simp⟩
  · rw [hc] at hcell
    have hnm:n≤m:=by rw [hmm];split <;> omega
    have each:∀ i,i < n→∃ r:α,R r∧∀ j u,(f r)[j]? = some u→w.cell? (x.add (i * k+j))=some u:=by
      intro i hi
      obtain ⟨cs',hc,htr⟩:=hcell i (by omega)
      obtain ⟨r,rfl,hok⟩:=hel _ _ _ _ _ htr
      obtain ⟨_,_,hat⟩:=World.cells?_some hc
      refine ⟨r,hok,fun j u hu=>?_⟩
      have hj:j < k:=by rw [← hf r];exact (List.getElem?_eq_some_iff.1 hu).1
      have:=hat j hj
      rw [← Go.Deep.add_add,this,hu]
    have build:∀ m,m≤n→∃ xs:List α,xs.length=m∧(∀ r∈xs,R r)∧∀ i r,xs[i]? = some r→∀ j u,(f r)[j]? = some u→w.cell? (x.add (i * k+j))=some u:=by
      intro m
      induction m with
      | zero=>intro _;exact ⟨[],rfl,by simp,by simp⟩
      | succ m ih =>
        intro hk
        obtain ⟨xs,h1,h2,h3⟩:=ih (by omega)
        obtain ⟨r,hr,hc⟩:=each m (by omega)
        refine ⟨xs ++ [r],by simp [h1],fun s hs=>?_,fun i s hi=>?_⟩
        · rcases List.mem_append.1 hs with hs | hs
          · exact h2 s hs
          · rw [List.mem_singleton.1 hs];exact hr
        · rcases Nat.lt_trichotomy i m with h | h | h
          · rw [List.getElem?_append_left (by omega)] at hi;exact h3 i s hi
          · subst h
            rw [List.getElem?_append_right (by omega),h1,Nat.sub_self] at hi
            injection hi with hi
            subst hi
            exact hc
          · rw [List.getElem?_eq_none (by simp;omega)] at hi;cases hi
    obtain ⟨xs,h1,h2,h3⟩:=build n (Nat.le_refl _)
    refine ⟨some x,n,c,xs,hcs,⟨⟨fun j u hu=>?_⟩,h1,hl⟩,by simp only [maxLen] at hm;omega,h2⟩
    have hjl:j < n * k:=by
      have:=(List.getElem?_eq_some_iff.1 hu).1
      rwa [flat_length hf,h1] at this
    have hq:j / k < xs.length:=by rw [h1];exact Nat.div_lt_of_lt_mul (by rw [Nat.mul_comm];exact hjl)
    have ej:j / k * k+j % k=j:=by rw [Nat.mul_comm];exact Nat.div_add_mod j k
    have hjk:j % k < k:=Nat.mod_lt _ hk
    have e1:=flat_get hf (List.getElem?_eq_getElem hq) hjk
    rw [ej,hu] at e1
    have hc:=h3 (j / k) _ (List.getElem?_eq_getElem hq) (j % k) u e1.symm
    rw [ej] at hc
    have h0l:0 < xs.length:=Nat.lt_of_le_of_lt (Nat.zero_le _) hq
    obtain ⟨u0,hu0⟩:∃ u,(f xs[0])[0]? = some u:=⟨(f xs[0])[0]'(by rw [hf];exact hk),List.getElem?_eq_getElem _⟩
    have hc0:=h3 0 _ (List.getElem?_eq_getElem h0l) 0 _ hu0
    obtain ⟨b,off,spot⟩:=x
    have hspot:spot=none:=by simpa [Addr.add] using World.cell?_spot hc0
    subst hspot
    rw [Addr.add_lit] at hc
    exact ⟨b,off,rfl,World.block_lt_of_cell? w ⟨b,off+j,none⟩ hc,hc⟩
end
open Go.RowKit
theorem Ow.box_ne {w:World} {b e k n c g:Nat} {t:TypeId} {cs:Array Value} {A:Option Addr} {xs:List Value} (h:Ow w b e k A n c xs) (hb:Box w g t cs) (hne:e≠t):∀ g',A=some ⟨g',0,none⟩→(some g:Option Nat)≠some g':=by
  intro g' hA e2
  injection e2 with e2
  subst e2
  obtain ⟨cur,fz,h1⟩:=h.type hA
  rw [hb.at_] at h1
  injection h1 with h1
  injection h1 with _ h1
  exact hne h1.symm
section
variable {P:Program} {ops:Array Oper} {rest:List Oper} {o:Oper} {a:Act} {Q:Exit→Act→World→Prop} {w:World}
end
end Go.Th
namespace Go.Proofs.YtjandnidljbkoaaGreat
open Go.RowKit Go.Th
def num_RowRel (s n:Nat) (zs:List Int) (w:World) (all i:Value) (wr:World):Prop :=
  ∃ (k:Nat) (A:Option Addr) (m c:Nat),k≤n∧i=.int .i64 k∧(∀ z∈zs.take k,Fits s z)∧m≤4 * k∧all=.slice A m c∧OwS bv wr w.heap.size 5 A m c (rowB s (zs.take k))∧Below w.heap.size w wr
theorem num_row_any (s:Nat) (A:Option Addr) (n c:Nat) (w:World) (h1:1≤s) (h2:s≤4) (hn:n≤1048576) (zs:List Int) (B:Nat) (hB:B≤w.heap.size) (hr:RdS iv w B A n c zs) :
    Calls Tryz.prog 143 #[.int .i64 s,.slice A n c] w (RetRows s zs w):=by
  have Hn:=Lib.hid hr.len
  go_enter Tryz.func143,Tryz.ntmps143
  go_wp2_with (first
    | (go_at_call 127;refine (sized_yes _ _ (by omega) (by omega)).mono ?_;rintro e w' ⟨rfl,rfl⟩))
  go_loopw [6,16] (fun all i wr=>num_RowRel s n zs w all i wr) (fun _ i _=>n - (intOf i).toNat)
  case atStart=>exact ⟨0,none,0,0,by omega,rfl,by simp,by omega,rfl,OwS.nil_ _ _ _,Below.refl _ _⟩
  case round =>
    obtain ⟨k,A1,m,c1,hk,rfl,hall,hm,rfl,how,hb⟩:=hrel
    have Hall:=Lib.hid hall
    clear hall
    by_cases hlt:k < n
    · have hrk:=hr.below (hb.mono hB)
      obtain ⟨x,hx⟩:∃ x,zs[k]? = some x:=⟨zs[k]'(by rw [Hn.out];exact hlt),List.getElem?_eq_getElem _⟩
      have hmem:x∈zs:=List.mem_of_getElem? hx
      have Hx:=Lib.hid hx
      clear hx
      by_cases hfit:Fits s x
      · go_wp2_with (first
          | (refine wl_at_i rfl _ _ _ rfl el_int rfl rfl (by omega) (by omega) hrk ?_;intro p x' hx' hc;obtain rfl:x' = x:=Option.some.inj (hx'.out.symm.trans Hx.out))
          | (go_at_call 91;refine (put_fit x' s _ h1 h2 hfit).mono ?_;rintro e w2 ⟨A2,c2,rfl,how2,hb2⟩)
          | (refine wl_appendS rfl _ _ _ rfl el_u8 (f:=bv) (fun _=>rfl) rfl (how.below hb2) rfl how2.rd (by omega) (by omega) (Nat.le_trans hb.size hb2.size) ?_;intro A3 c3 w3 how3 _ hb3))
        go_roundw
        case rel=>exact ⟨k+1,A3,m+s,c3,by omega,by go_num,fits_take s zs k x' Hx.out Hall.out hfit,by omega,rfl,by rw [rowB_take s zs k x' Hx.out];exact how3,(hb.trans (hb2.mono hb.size)).trans hb3⟩
        case measure=>simp [intOf];omega
      · go_wp2_with (first
          | (refine wl_at_i rfl _ _ _ rfl el_int rfl rfl (by omega) (by omega) hrk ?_;intro p x' hx' hc;obtain rfl:x' = x:=Option.some.inj (hx'.out.symm.trans Hx.out))
          | (go_at_call 91;refine (put_misfit x' s _ h1 h2 hfit).mono ?_;rintro e w2 ⟨rfl,rfl⟩))
        go_ret2
        exact ⟨fun h=>absurd (h _ hmem) hfit,fun _=>⟨rfl,hb⟩⟩
    · obtain rfl:k=n:=by omega
      have Hfull:Hid (zs.take k=zs):=List.take_of_length_le (by rw [Hn.out];exact Nat.le_refl _)
      have hms:m=zs.length * s:=by rw [← how.len,rowB_length,Hfull.out]
      go_wp2
      go_ret2
      refine ⟨fun _=>⟨A1,c1,?_,?_,hb⟩,fun h=>absurd (by rw [← Hfull.out];exact Hall.out) h⟩
      · exact congrArg (fun j=>Ending.returned (.tuple #[.slice A1 j c1,.int .i64 0])) hms
      · rw [← hms]
        rw [Hfull.out] at how
        exact how
open Go.RowKit Go.Th
theorem fra_equal_any (A:Option Addr) (n c:Nat) (A':Option Addr) (n' c':Nat) (w:World) (B B':Nat) (bs cs:List UInt8) (hr:RdS bv w B A n c bs) (hr':RdS bv w B' A' n' c' cs) (b:Bool) (hb:(bs == cs)=b) :
    Calls Tryz.prog 93 #[.slice A n c,.slice A' n' c'] w fun e w'=>e=.returned (.bool b)∧w=w':=by
  go_enter Tryz.func93,Tryz.ntmps93
  go_wp2_with (first
    | ((with_reducible refine on_convert (.tmp 5) ?_);refine wl_strS rfl _ _ (.tmp 5) rfl el_u8 Tryz.underlying5 Tryz.underlying9 rfl hr ?_)
    | ((with_reducible refine on_convert (.tmp 7) ?_);refine wl_strS rfl _ _ (.tmp 7) rfl el_u8 Tryz.underlying5 Tryz.underlying9 rfl hr' ?_))
  go_ret
  exact ⟨rfl,rfl⟩
set_option maxHeartbeats 2000000 in
theorem cfm_ftake_any (m:Nat) (hm:m < 4294967296) (M:Int) (hM:(m:Int)=M) (A:Option Addr) (n c:Nat) (w:World) (hn:n≤1000000) (bs:List UInt8) (hr:RdS bv w w.heap.size A n c bs) :
    Calls Tryz.prog 40 #[.int .u32 M,.slice A n c] w (RetTak (ftake m bs) w):=by
  subst hM
  have hl:=hr.len
  by_cases h8:n < 8
  · rw [ftake_short (by omega)]
    go_enter Tryz.func40,Tryz.ntmps40
    go_wp2
    go_ret2
    exact ⟨none,0,0,rfl,OwS.nil_ _ _ _,Below.refl _ _⟩
  · obtain ⟨xh,hh⟩:∃ xh,bs.take (n - 4)=xh:=⟨_,rfl⟩
    obtain ⟨xs,hs⟩:∃ xs,bs.drop (n - 4)=xs:=⟨_,rfl⟩
    have lh:xh.length=n - 4:=by rw [← hh,List.length_take];omega
    have ls:xs.length=4:=by rw [← hs,List.length_drop];omega
    have hcs:=csum_lt xh
    rw [ftake_parts (h:=xh) (s:=xs) (by omega) ls (by rw [← hh,← hs,List.take_append_drop])]
    obtain ⟨b1,hb1⟩:∃ b,(xh.take 4 == be m 4)=b:=⟨_,rfl⟩
    obtain ⟨b2,hb2⟩:∃ b,(xs == be (csum xh) 4)=b:=⟨_,rfl⟩
    have hgoal:(if xh.take 4=be m 4 then (if xs=be (csum xh) 4 then (xh.drop 4,(0:Int)) else ([],6)) else ([],5))=if b1=true then (if b2=true then (xh.drop 4,0) else ([],6)) else ([],5):=by
      rw [← hb1,← hb2]
      simp only [beq_iff_eq]
    rw [hgoal]
    obtain ⟨r,hr0⟩:∃ r,(if b1=true then (if b2=true then (xh.drop 4,(0:Int)) else ([],6)) else ([],5))=r:=⟨_,rfl⟩
    rw [hr0]
    have HR:=Lib.hid hr0
    have H1:=Lib.hid hb1
    have H2:=Lib.hid hb2
    have Hh:=Lib.hid hh
    have Hs:=Lib.hid hs
    have Lh:=Lib.hid lh
    obtain ⟨n4,hn4⟩:∃ k,n=k+4:=⟨n - 4,by omega⟩
    subst hn4
    rw [Nat.add_sub_cancel] at *
    have h8i:decide ((n4:Int)+4 < 8)=false:=decide_eq_false (by omega)
    have h8n:decide (n4+4 < 8)=false:=decide_eq_false (by omega)
    clear hgoal hr0 hb1 hb2 hh hs lh ls
    go_enter Tryz.func40,Tryz.ntmps40
    go_wp2
    have q1:=RdC.of_reach (B':=w.heap.size) (hr.step (bdrew1 w)) (Nat.le_refl _)
    refine wp_region_tree (.float 0 9 .done) (Th.Reach w.heap.size) (Th.Reach.trans _) (Th.Reach.refl _) (by kernel_rfl) (by kernel_rfl) (fun KT hKT=>?_)
    repeat' first
      | ((with_reducible refine wpTree_done ?_);refine hKT _ _ ?_;clear hKT KT)
      | ((with_reducible refine wpTree_float (fun KF hKF=>?_));(simp only [List.drop,List.take]);(repeat (first | go_big_quiet_skip | ((with_reducible refine onq_sl (.tmp 15) ?_);refine wq_cut_hm rfl _ (.tmp 15) el_u8 rfl q1 (Th.Reach.refl _ _) _ _ rfl rfl rfl n4 (by omega) ?_;intro A18 r18) | ((with_reducible refine onq_sl (.tmp 19) ?_);refine wq_cut_l rfl _ (.tmp 19) el_u8 rfl q1 (Th.Reach.refl _ _) _ rfl rfl n4 (by omega) ?_;intro A21 r21) | go_big_quiet_step (fail) | quiet_step (fail)));refine wpQuiet_nil ?_;refine hKF _ ?_;clear hKF KF)
    have ra:=r18.rd w.drew (Th.Reach.refl _ _)
    have rs:=r21.rd w.drew (Th.Reach.refl _ _)
    rw [Hh.out] at ra
    rw [Hs.out,show n4+4 - n4=4 by omega] at rs
    have B1:Below w.heap.size w w.drew:=bdrew1 w
    clear q1 r18 r21 hr
    generalize w.drew=w1 at B1 ra rs ⊢
    have z1:=B1.size
    go_wp2
    have q2:=RdC.of_reach (B':=w1.heap.size) (ra.step (bdrew1 w1)) z1
    refine wp_region_tree (.float 0 3 (.one 3 (.one 4 (.float 5 1 .done)))) (Th.Reach w1.heap.size) (Th.Reach.trans _) (Th.Reach.refl _) (by kernel_rfl) (by kernel_rfl) (fun KT hKT=>?_)
    repeat' first
      | ((with_reducible refine wpTree_done ?_);refine hKT _ _ ?_;clear hKT KT)
      | ((with_reducible refine wpTree_float (fun KF hKF=>?_));(simp only [List.drop,List.take]);(repeat (first | go_big_quiet_skip | ((with_reducible refine onq_sl (.tmp 22) ?_);refine wq_cut_hm rfl _ (.tmp 22) el_u8 rfl q2 (Th.Reach.refl _ _) _ _ rfl rfl rfl 4 (by omega) ?_;intro A23 r23) | go_big_quiet_step (fail) | quiet_step (fail)));refine wpQuiet_nil ?_;refine hKF _ ?_;clear hKF KF)
      | ((with_reducible refine wpTree_one (fun KO hKO=>?_));(simp only [List.drop,List.take]);(go_wp2_with (first | (go_at_call 37;refine (four_any m hm _ rfl w1.drew).mono ?_;rintro e w3 ⟨A3,c3,rfl,how3,hb3⟩;have hb3:Below w1.heap.size w1.drew w3:=hb3) | (go_at_call 93;refine (fra_equal_any _ _ _ _ _ _ w3 _ _ _ _ (r23.rd w3 (Th.Reach.of hb3)) how3.rd b1 H1.out).mono ?_;rintro e w4 ⟨rfl,rfl⟩)));(refine anch_end (Th.Reach.of (by first | exact Below.refl _ _ | exact below_alloc _ (by first | omega | (simp;done) | (simp;omega)) _ | exact below_alloc2 _ (by first | omega | (simp;done) | (simp;omega)) _ _ | exact below_alloc2d _ (by simp) _ _ | exact bdrew _ _ | assumption | (exact Below.mono (by assumption) (by first | (simp;done) | (simp;omega) | omega | assumption)))) (hKO _ _ ?_));clear hKO KO)
    have B3:=B1.trans (((bdrew1 w1).trans hb3).mono z1)
    have z3:=B3.size
    have ra:=ra.step ((bdrew1 w1).trans hb3)
    have rs:=rs.step ((bdrew1 w1).trans hb3)
    clear q2 r23 how3 hb3 B1
    cases b1 with
    | false =>
      go_wp2
      go_ret2
      rw [← HR.out]
      exact ⟨none,0,0,rfl,OwS.nil_ _ _ _,B3⟩
    | true =>
      go_wp2_with fail
      refine (sum_any A18 _ _ w3 (by omega) _ (ra.more z3)).mono ?_
      rintro e w5 ⟨rfl,hb5⟩
      have ra:=ra.step hb5
      have rs:=rs.step hb5
      have B5:=B3.trans (hb5.mono z3)
      have z5:=B5.size
      go_wp2_with fail
      refine (four_any (csum xh) hcs _ rfl w5).mono ?_
      rintro e w6 ⟨A6,c6,rfl,how6,hb6⟩
      have ra:=ra.step hb6
      have rs:=rs.step hb6
      have B6:=B5.trans (hb6.mono z5)
      have z6:=B6.size
      go_wp2_with fail
      refine (fra_equal_any _ _ _ _ _ _ w6 _ _ _ _ rs how6.rd b2 H2.out).mono ?_
      rintro e w7 ⟨rfl,rfl⟩
      cases b2 with
      | false =>
        go_wp2
        go_ret2
        rw [← HR.out]
        exact ⟨none,0,0,rfl,OwS.nil_ _ _ _,B6⟩
      | true =>
        have ht:xh.take n4=xh:=List.take_of_length_le (by rw [Lh.out];exact Nat.le_refl _)
        go_wp2_with ((with_reducible refine on_slice (.tmp 34) ?_);refine wl_cut_lhm rfl _ (.tmp 34) el_u8 rfl ra _ _ _ rfl rfl rfl rfl 4 n4 n4 (by omega) ?_;intro A9 r9;rw [ht] at r9)
        go_wp2_with fail
        refine (own_any _ _ _ w6 (by omega) _ _ r9).mono ?_
        rintro e w8 ⟨A8,n8,c8,rfl,how8,hb8⟩
        go_wp2
        go_ret2
        rw [← HR.out]
        exact ⟨A8,n8,c8,rfl,how8.base_le z6,B6.trans (hb8.mono z6)⟩
open Go.RowKit Go.Th
def TS (bs:List UInt8) (s:Int):Nat × Int:=if 1≤s∧s≤4 then (if (bs.length:Int) < s then (0,2) else (val (bs.take s.toNat),0)) else (0,1)
def RetBs (bs:List UInt8) (er:Int) (w:World) (e:Ending) (w':World):Prop :=
  ∃ A n c,e=.returned (.tuple #[.slice A n c,.int .i64 er])∧OwS bv w' w.heap.size 5 A n c bs∧Below w.heap.size w w'
theorem take_any (A:Option Addr) (n c:Nat) (s:Int) (w:World) (hm:n≤9223372036854775807) (B:Nat) (bs:List UInt8) (hr:RdS bv w B A n c bs) :
    Calls Tryz.prog 99 #[.slice A n c,.int .i64 s] w (RetNum (TS bs s).1 (TS bs s).2 w):=by
  have hl:=hr.len
  by_cases hs:1≤s∧s≤4
  · obtain ⟨h1,h2⟩:=hs
    obtain ⟨k,rfl⟩:=Int.eq_ofNat_of_zero_le (by omega:0≤s)
    by_cases hf:n < k
    · have e:TS bs k=(0,2):=by unfold TS;rw [if_pos ⟨h1,h2⟩,if_pos (by omega)]
      rw [e]
      exact take_short A n c k w (by omega) (by omega) hf
    · have e:TS bs k=(val (bs.take k),0):=by unfold TS;rw [if_pos ⟨h1,h2⟩,if_neg (by omega)];simp
      rw [e]
      exact take_yes A n c k w (by omega) (by omega) (by omega) hm B bs hr
  · have e:TS bs s=(0,1):=by unfold TS;rw [if_neg hs]
    rw [e]
    exact take_size A n c s w (by omega)
end Go.Proofs.YtjandnidljbkoaaGreat
namespace Go.Th
section
variable {P:Program} {ops:Array Oper} {rest:List Oper} {o:Oper} {a:Act} {Q:Act→Prop} {w:World}
end
open Go.RowKit
instance (S:Addr→Prop) (w:World):Nonempty (KSStep S w):=⟨⟨w,fun _ _=>rfl⟩⟩
attribute [go_sem] KSReach
open Go.RowKit
section
variable {P:Program} {ops:Array Oper} {rest:List Oper} {o:Oper} {a:Act} {Q:Exit→Act→World→Prop} {w:World}
end
open Go.RowKit
abbrev PK:=Int × Int × List Int
def gN (xs:List Int):List UInt8:=xs.flatMap fun x=>gput x.toNat
def pbody (p:PK):List UInt8:=be p.1.toNat 4 ++ (be p.2.1.toNat 4 ++ gN p.2.2)
def pbodies (ks:List PK):List UInt8:=ks.flatMap pbody
def cbody (v:Int) (ks:List PK) (d:Int) (tr:List Int) (nodes:Int):List UInt8 :=
  be v.toNat 1 ++ (gput nodes.toNat ++ (if v=1 then gput ks.length ++ pbodies ks else be d.toNat 4 ++ (gput tr.length ++ gN tr)))
abbrev Rs:=List UInt8 × Int
def rfail (e:Int) (r:Rs):Rs:=if r.2=0 then (r.1,e) else r
def rnum (s:Nat) (r:Rs):Int × Rs:=if r.2≠0 then (0,r) else if r.1.length < s then (0,(r.1,2)) else ((val (r.1.take s):Int),(r.1.drop s,0))
def rgrp (r:Rs):Int × Rs:=if r.2≠0 then (0,r) else if (gtake r.1).2.2≠0 then (0,(r.1,(gtake r.1).2.2)) else (((gtake r.1).1:Int),(r.1.drop (gtake r.1).2.1,0))
def rcnt (most:Int) (r:Rs):Int × Rs:=if most < (rgrp r).1 then (0,rfail 12 (rgrp r).2) else rgrp r
def rlist {α:Type} (one:Rs→α × Rs):Nat→List α→Rs→List α × Rs
  | 0,acc,r=>(acc,r)
  | n+1,acc,r=>if (one r).2.2≠0 then ([],(one r).2) else rlist one n (acc ++ [(one r).1]) (one r).2
def rpart (nodes:Int) (r:Rs):PK × Rs :=
  (((rnum 4 r).1,(rnum 4 (rnum 4 r).2).1,(rlist rgrp nodes.toNat [] (rnum 4 (rnum 4 r).2).2).1),(rlist rgrp nodes.toNat [] (rnum 4 (rnum 4 r).2).2).2)
def ptOf (k:PK):Pt:=⟨k.1,k.2.1,none,0,0,k.2.2⟩
def cmayK (v:Int) (ks:List PK) (d:Int) (tr:List Int) (nodes:Int):Int:=cmay v (ks.map ptOf) d tr nodes
structure CR where
  v:Int
  ks:List PK
  d:Int
  tr:List Int
  nodes:Int
  e:Int
def rmore (r:Rs):Rs:=if r.1≠[] then rfail 4 r else r
def cend (v:Int) (ks:List PK) (d:Int) (tr:List Int) (nodes:Int) (r:Rs):CR :=
  if (if (rmore r).2=0 then cmayK v ks d tr nodes else (rmore r).2)≠0 then ⟨0,[],0,[],0,if (rmore r).2=0 then cmayK v ks d tr nodes else (rmore r).2⟩ else ⟨v,ks,d,tr,nodes,0⟩
def cact (bs:List UInt8):Rs:=if (rnum 1 (bs,0)).1≠1∧(rnum 1 (bs,0)).1≠2 then rfail 9 (rnum 1 (bs,0)).2 else (rnum 1 (bs,0)).2
def cfreeT (v nodes:Int) (r:Rs):CR:=cend v (rlist (rpart nodes) (rcnt 8193 r).1.toNat [] (rcnt 8193 r).2).1 0 [] nodes (rlist (rpart nodes) (rcnt 8193 r).1.toNat [] (rcnt 8193 r).2).2
def cloopT (v nodes:Int) (r:Rs):CR:=cend v [] (rnum 4 r).1 (rlist rgrp (rcnt 256 (rnum 4 r).2).1.toNat [] (rcnt 256 (rnum 4 r).2).2).1 nodes (rlist rgrp (rcnt 256 (rnum 4 r).2).1.toNat [] (rcnt 256 (rnum 4 r).2).2).2
def ctake (bs:List UInt8):CR :=
  if (rnum 1 (bs,0)).1=1 then cfreeT 1 (rcnt 256 (cact bs)).1 (rcnt 256 (cact bs)).2 else cloopT (rnum 1 (bs,0)).1 (rcnt 256 (cact bs)).1 (rcnt 256 (cact bs)).2
theorem meet_key:∀ (ps qs:List Pt) (x:Int),ps.map pkey=qs.map pkey→meetF x ps=meetF x qs
  | [],[],_,_=>rfl
  | [],_ :: _,_,h=>by simp at h
  | _ :: _,[],_,h=>by simp at h
  | p :: ps,q :: qs,x,h=>by
    simp only [List.map_cons,List.cons.injEq,pkey,Prod.mk.injEq] at h
    obtain ⟨⟨h1,h2,h3⟩,h4⟩:=h
    simp only [meetF,h1,h2,meet_key ps qs _ h4]
theorem ranks_key (nodes:Int):∀ (ps qs:List Pt),ps.map pkey=qs.map pkey→ranks nodes ps=ranks nodes qs
  | [],[],_=>rfl
  | [],_ :: _,h=>by simp at h
  | _ :: _,[],h=>by simp at h
  | p :: ps,q :: qs,h=>by
    simp only [List.map_cons,List.cons.injEq,pkey,Prod.mk.injEq] at h
    obtain ⟨⟨h1,h2,h3⟩,h4⟩:=h
    simp only [ranks,h3,ranks_key nodes ps qs h4]
theorem cmay_key {ps qs:List Pt} (v d:Int) (tr:List Int) (nodes:Int) (h:ps.map pkey=qs.map pkey):cmay v ps d tr nodes=cmay v qs d tr nodes:=by
  have hl:ps.length=qs.length:=by have:=congrArg List.length h;simpa using this
  simp only [cmay,cfree,cloops,hl,meet_key ps qs 0 h,ranks_key nodes ps qs h]
theorem key_ptOf (ks:List PK):(ks.map ptOf).map pkey=ks:=by
  rw [List.map_map]
  have:(pkey ∘ ptOf)=id:=by funext k;rfl
  rw [this,List.map_id]
theorem cmayK_of (ps:List Pt) (v d:Int) (tr:List Int) (nodes:Int):cmayK v (ps.map pkey) d tr nodes=cmay v ps d tr nodes:=cmay_key _ _ _ _ (key_ptOf _)
theorem rnum_put (s n:Nat) (t:List UInt8) (h:n < 256 ^ s):rnum s (be n s ++ t,0)=((n:Int),(t,0)):=by
  unfold rnum
  rw [if_neg (by simp),if_neg (by simp [be_length])]
  simp only [List.take_left' (be_length s n),List.drop_left' (be_length s n),val_be s n h]
theorem rgrp_put (n:Nat) (t:List UInt8) (h:n < 268435456):rgrp (gput n ++ t,0)=((n:Int),(t,0)):=by
  unfold rgrp
  rw [if_neg (by simp)]
  simp only [gtake_gput n h]
  rw [if_neg (by simp),List.drop_left' (gput_length n)]
theorem rcnt_put (most:Int) (n:Nat) (t:List UInt8) (h:n < 268435456) (h2:(n:Int)≤most):rcnt most (gput n ++ t,0)=((n:Int),(t,0)):=by
  unfold rcnt
  rw [rgrp_put n t h,if_neg (by simp;omega)]
theorem rlist_put {α:Type} {one:Rs→α × Rs} {put:α→List UInt8}:∀ (xs acc:List α) (t:List UInt8),(∀ x∈xs,∀ t,one (put x ++ t,0)=(x,(t,0)))→rlist one xs.length acc (xs.flatMap put ++ t,0)=(acc ++ xs,(t,0))
  | [],acc,t,_=>by simp [rlist]
  | x :: xs,acc,t,h=>by
    have e:(x :: xs).flatMap put ++ t=put x ++ (xs.flatMap put ++ t):=by simp
    rw [e,List.length_cons,rlist,h x (by simp),if_neg (by simp)]
    rw [rlist_put xs (acc ++ [x]) t (fun y hy=>h y (by simp [hy]))]
    simp
theorem rranks_put (xs:List Int) (t:List UInt8) (h:∀ x∈xs,0≤x∧x < 268435456):rlist rgrp xs.length [] (gN xs ++ t,0)=(xs,(t,0)):=by
  have:=rlist_put (one:=rgrp) (put:=fun x:Int=>gput x.toNat) xs [] t (fun x hx t=>by
    have:=h x hx
    rw [rgrp_put x.toNat t (by omega),Int.toNat_of_nonneg this.1])
  simpa [gN] using this
def PKin (nodes:Int) (k:PK):Prop:=(0≤k.1∧k.1≤4294967295)∧(0≤k.2.1∧k.2.1≤4294967295)∧(k.2.2.length:Int)=nodes∧∀ x∈k.2.2,0≤x∧x < 268435456
theorem rpart_put (nodes:Int) (k:PK) (h:PKin nodes k) (t:List UInt8):rpart nodes (pbody k ++ t,0)=(k,(t,0)):=by
  obtain ⟨h1,h2,h3,h4⟩:=h
  obtain ⟨a,b,r⟩:=k
  simp only at h1 h2 h3 h4
  have e1:rnum 4 (pbody (a,b,r) ++ t,0)=(a,(be b.toNat 4 ++ (gN r ++ t),0)):=by
    have:=rnum_put 4 a.toNat (be b.toNat 4 ++ (gN r ++ t)) (by omega)
    rw [Int.toNat_of_nonneg h1.1] at this
    rw [← this]
    simp [pbody]
  have e2:rnum 4 (be b.toNat 4 ++ (gN r ++ t),0)=(b,(gN r ++ t,0)):=by
    rw [rnum_put 4 b.toNat _ (by omega),Int.toNat_of_nonneg h2.1]
  have hn:nodes.toNat=r.length:=by omega
  unfold rpart
  simp only [e1,e2,hn,rranks_put r t h4]
theorem rmore_nil:rmore ([],0)=([],0):=rfl
theorem cend_ok {v d nodes:Int} {ks:List PK} {tr:List Int} (h:cmayK v ks d tr nodes=0):cend v ks d tr nodes ([],0)=⟨v,ks,d,tr,nodes,0⟩:=by
  unfold cend
  simp [rmore_nil,h]
structure CIn (v:Int) (ks:List PK) (d:Int) (tr:List Int) (nodes:Int):Prop where
  nb:0≤nodes∧nodes≤256
  kind:(v=1∧d=0∧tr=[]∧ks.length≤8193∧∀ k∈ks,PKin nodes k)∨(v=2∧ks=[]∧(0≤d∧d≤4294967295)∧tr.length≤256∧∀ x∈tr,0≤x∧x < 268435456)
theorem ctake_put {v d nodes:Int} {ks:List PK} {tr:List Int} (h:CIn v ks d tr nodes) (t:List UInt8):ctake (cbody v ks d tr nodes ++ t)=cend v ks d tr nodes (t,0):=by
  obtain ⟨hn,hk⟩:=h
  have hv:v=1∨v=2:=by rcases hk with h | h <;> simp [h.1]
  obtain ⟨tail,hT⟩:∃ tail,(if v=1 then gput ks.length ++ pbodies ks else be d.toNat 4 ++ (gput tr.length ++ gN tr))=tail:=⟨_,rfl⟩
  have e1:rnum 1 (cbody v ks d tr nodes ++ t,0)=(v,(gput nodes.toNat ++ (tail ++ t),0)):=by
    have:=rnum_put 1 v.toNat (gput nodes.toNat ++ (tail ++ t)) (by rcases hv with rfl | rfl <;> decide)
    rw [Int.toNat_of_nonneg (by omega)] at this
    rw [← this]
    simp [cbody,hT]
  have e2:cact (cbody v ks d tr nodes ++ t)=(gput nodes.toNat ++ (tail ++ t),0):=by
    unfold cact
    rw [e1,if_neg (by simp;omega)]
  have e3:rcnt 256 (gput nodes.toNat ++ (tail ++ t),0)=(nodes,(tail ++ t,0)):=by
    rw [rcnt_put 256 nodes.toNat _ (by omega) (by omega),Int.toNat_of_nonneg hn.1]
  unfold ctake
  rw [e1,e2,e3]
  rcases hk with ⟨rfl,rfl,rfl,hl,hp⟩ | ⟨rfl,rfl,hd,hl,hp⟩
  · rw [if_pos rfl] at hT ⊢
    subst hT
    have e4:rcnt 8193 (gput ks.length ++ pbodies ks ++ t,0)=((ks.length:Int),(pbodies ks ++ t,0)):=by
      rw [List.append_assoc,rcnt_put 8193 ks.length _ (by omega) (by omega)]
    unfold cfreeT
    simp only [e4,Int.toNat_natCast]
    have:=rlist_put (one:=rpart nodes) (put:=pbody) ks [] t (fun k hk t=>rpart_put nodes k (hp k hk) t)
    rw [List.nil_append] at this
    simp only [pbodies,this]
  · rw [if_neg (show ¬ (2:Int)=1 by decide)] at hT ⊢
    subst hT
    have e4:rnum 4 (be d.toNat 4 ++ (gput tr.length ++ gN tr) ++ t,0)=(d,(gput tr.length ++ (gN tr ++ t),0)):=by
      rw [List.append_assoc,List.append_assoc,rnum_put 4 d.toNat _ (by omega),Int.toNat_of_nonneg hd.1]
    have e5:rcnt 256 (gput tr.length ++ (gN tr ++ t),0)=((tr.length:Int),(gN tr ++ t,0)):=rcnt_put 256 tr.length _ (by omega) (by omega)
    unfold cloopT
    simp only [e4,e5,Int.toNat_natCast,rranks_put tr t hp]
theorem ctake_cbody {v d nodes:Int} {ks:List PK} {tr:List Int} (h:CIn v ks d tr nodes) (hm:cmayK v ks d tr nodes=0):ctake (cbody v ks d tr nodes)=⟨v,ks,d,tr,nodes,0⟩:=by
  have:=ctake_put h []
  rw [List.append_nil] at this
  rw [this,cend_ok hm]
theorem rnum_back {s:Nat} {r:Rs} (h:(rnum s r).2.2=0):r.2=0∧r.1=be (rnum s r).1.toNat s ++ (rnum s r).2.1∧0≤(rnum s r).1∧(rnum s r).1 < 256 ^ s:=by
  obtain ⟨bs,e⟩:=r
  revert h
  unfold rnum
  by_cases h1:e≠0
  · rw [if_pos h1];intro h;exact absurd h h1
  rw [if_neg h1]
  by_cases h2:bs.length < s
  · rw [if_pos h2];intro h;cases h
  rw [if_neg h2]
  intro _
  have hl:(bs.take s).length=s:=by rw [List.length_take];omega
  have hv:=val_lt (bs.take s)
  have hb:=be_val (bs.take s)
  rw [hl] at hv hb
  refine ⟨by simpa using h1,?_,by simp,by simpa using (by exact_mod_cast hv:((val (bs.take s):Nat):Int) < ((256 ^ s:Nat):Int))⟩
  simp only [Int.toNat_natCast,hb,List.take_append_drop]
theorem rgrp_back {r:Rs} (h:(rgrp r).2.2=0):r.2=0∧r.1=gput (rgrp r).1.toNat ++ (rgrp r).2.1∧0≤(rgrp r).1∧(rgrp r).1 < 268435456:=by
  obtain ⟨bs,e⟩:=r
  revert h
  unfold rgrp
  by_cases h1:e≠0
  · rw [if_pos h1];intro h;exact absurd h h1
  rw [if_neg h1]
  by_cases h2:(gtake bs).2.2≠0
  · rw [if_pos h2];intro h;exact absurd h h2
  rw [if_neg h2]
  intro _
  rcases gtake_what bs with h3 | h3 | h3
  · exact absurd (by rw [h3.1];decide) h2
  · exact absurd (by rw [h3];decide) h2
  · obtain ⟨n,k,he,hn,_,hk,_,hg⟩:=h3
    rw [he]
    refine ⟨by simpa using h1,?_,by simp,by simp;omega⟩
    simp only [Int.toNat_natCast,hg,List.take_append_drop]
theorem rfail_back {e:Int} {r:Rs} (he:e≠0) (h:(rfail e r).2=0):False:=by
  unfold rfail at h
  split at h
  · exact he h
  · rename_i h2;exact h2 h
theorem rcnt_back {most:Int} {r:Rs} (h:(rcnt most r).2.2=0):r.2=0∧r.1=gput (rcnt most r).1.toNat ++ (rcnt most r).2.1∧0≤(rcnt most r).1∧(rcnt most r).1 < 268435456∧(rcnt most r).1≤most:=by
  unfold rcnt at h ⊢
  by_cases hm:most < (rgrp r).1
  · rw [if_pos hm] at h
    exact absurd h (fun h=>rfail_back (by decide) h)
  · rw [if_neg hm] at h ⊢
    obtain ⟨h1,h2,h3,h4⟩:=rgrp_back h
    exact ⟨h1,h2,h3,h4,by omega⟩
theorem rlist_back {α:Type} {one:Rs→α × Rs} {put:α→List UInt8} {ok:α→Prop} (hone:∀ r,(one r).2.2=0→r.2=0∧r.1=put (one r).1 ++ (one r).2.1∧ok (one r).1) :
    ∀ (n:Nat) (acc:List α) (r:Rs),(rlist one n acc r).2.2=0→r.2=0∧∃ xs,(rlist one n acc r).1=acc ++ xs∧xs.length=n∧r.1=xs.flatMap put ++ (rlist one n acc r).2.1∧∀ x∈xs,ok x
  | 0,acc,r,h=>⟨h,[],by simp [rlist],rfl,by simp [rlist],by simp⟩
  | n+1,acc,r,h=>by
    rw [rlist] at h ⊢
    by_cases h1:(one r).2.2≠0
    · rw [if_pos h1] at h
      exact absurd h h1
    · rw [if_neg h1] at h ⊢
      obtain ⟨_,xs,hx,hl,hb,ho⟩:=rlist_back hone n _ _ h
      obtain ⟨h2,h3,h4⟩:=hone r (by simpa using h1)
      refine ⟨h2,(one r).1 :: xs,by rw [hx];simp,by simp [hl],?_,?_⟩
      · rw [h3]
        conv=>lhs;rw [hb]
        simp
      · intro x hx
        rcases List.mem_cons.1 hx with rfl | hx
        · exact h4
        · exact ho x hx
theorem rranks_back {n:Nat} {r:Rs} (h:(rlist rgrp n [] r).2.2=0):r.2=0∧r.1=gN (rlist rgrp n [] r).1 ++ (rlist rgrp n [] r).2.1∧(rlist rgrp n [] r).1.length=n∧∀ x∈(rlist rgrp n [] r).1,0≤x∧x < 268435456:=by
  obtain ⟨h1,xs,hx,hl,hb,ho⟩:=rlist_back (one:=rgrp) (put:=fun x:Int=>gput x.toNat) (ok:=fun x:Int=>0≤x∧x < 268435456) (fun r h=>by
    obtain ⟨a,b,c,d⟩:=rgrp_back h
    exact ⟨a,b,c,d⟩) n [] r h
  rw [List.nil_append] at hx
  rw [hx]
  exact ⟨h1,hb,hl,ho⟩
theorem rpart_back {nodes:Int} (hn:0≤nodes) {r:Rs} (h:(rpart nodes r).2.2=0):r.2=0∧r.1=pbody (rpart nodes r).1 ++ (rpart nodes r).2.1∧PKin nodes (rpart nodes r).1:=by
  unfold rpart at h ⊢
  simp only at h ⊢
  obtain ⟨a1,a2,a3,a4⟩:=rranks_back h
  obtain ⟨b1,b2,b3,b4⟩:=rnum_back a1
  obtain ⟨c1,c2,c3,c4⟩:=rnum_back b1
  refine ⟨c1,?_,⟨c3,?_⟩,⟨b3,?_⟩,?_,a4⟩
  rotate_left
  · show (rnum 4 r).1≤4294967295;simp at c4;omega
  · show (rnum 4 (rnum 4 r).2).1≤4294967295;simp at b4;omega
  · show (((rlist rgrp nodes.toNat [] (rnum 4 (rnum 4 r).2).2).1.length:Nat):Int)=nodes;omega
  conv=>lhs;rw [c2,b2,a2]
  simp [pbody]
theorem rmore_back {r:Rs} (h:(rmore r).2=0):r=([],0):=by
  unfold rmore at h
  by_cases h1:r.1≠[]
  · rw [if_pos h1] at h
    exact (rfail_back (by decide) h).elim
  · rw [if_neg h1] at h
    obtain ⟨a,b⟩:=r
    simp only [ne_eq,Decidable.not_not] at h1 h
    rw [h1,h]
theorem cend_back {v d nodes:Int} {ks:List PK} {tr:List Int} {r:Rs} (h:(cend v ks d tr nodes r).e=0):r=([],0)∧cmayK v ks d tr nodes=0∧cend v ks d tr nodes r=⟨v,ks,d,tr,nodes,0⟩:=by
  unfold cend at h ⊢
  by_cases h1:(if (rmore r).2=0 then cmayK v ks d tr nodes else (rmore r).2)≠0
  · rw [if_pos h1] at h
    exact absurd h h1
  · rw [if_neg h1]
    simp only [ne_eq,Decidable.not_not] at h1
    by_cases h2:(rmore r).2=0
    · rw [if_pos h2] at h1
      exact ⟨rmore_back h2,h1,rfl⟩
    · rw [if_neg h2] at h1
      exact absurd h1 h2
theorem ctake_back {bs:List UInt8} (h:(ctake bs).e=0):CIn (ctake bs).v (ctake bs).ks (ctake bs).d (ctake bs).tr (ctake bs).nodes∧cmayK (ctake bs).v (ctake bs).ks (ctake bs).d (ctake bs).tr (ctake bs).nodes=0 ∧
    cbody (ctake bs).v (ctake bs).ks (ctake bs).d (ctake bs).tr (ctake bs).nodes=bs:=by
  unfold ctake at h ⊢
  obtain ⟨nd,hnd⟩:∃ nd,rcnt 256 (cact bs)=nd:=⟨_,rfl⟩
  rw [hnd] at h ⊢
  have key:nd.2.2=0→((rnum 1 (bs,0)).1=1∨(rnum 1 (bs,0)).1=2)∧bs=be (rnum 1 (bs,0)).1.toNat 1 ++ (gput nd.1.toNat ++ nd.2.1)∧0≤nd.1∧nd.1≤256:=by
    intro h0
    rw [← hnd] at h0 ⊢
    obtain ⟨a1,a2,a3,_,a5⟩:=rcnt_back h0
    have hk:(rnum 1 (bs,0)).1=1∨(rnum 1 (bs,0)).1=2:=by
      by_cases hk:(rnum 1 (bs,0)).1≠1∧(rnum 1 (bs,0)).1≠2
      · unfold cact at a1
        rw [if_pos hk] at a1
        exact (rfail_back (by decide) a1).elim
      · omega
    have hc:cact bs=(rnum 1 (bs,0)).2:=by unfold cact;rw [if_neg (by omega)]
    obtain ⟨b1,b2,_,_⟩:=rnum_back (s:=1) (r:=(bs,0)) (by rw [← hc];exact a1)
    refine ⟨hk,?_,a3,a5⟩
    conv=>lhs;rw [show bs=(bs,(0:Int)).1 from rfl,b2,← hc,a2]
  by_cases hv:(rnum 1 (bs,0)).1=1
  · rw [if_pos hv] at h ⊢
    unfold cfreeT at h ⊢
    obtain ⟨k1,k2,k3⟩:=cend_back h
    rw [k3]
    obtain ⟨L,hL⟩:∃ L,rlist (rpart nd.1) (rcnt 8193 nd.2).1.toNat [] (rcnt 8193 nd.2).2=L:=⟨_,rfl⟩
    have hl0:L.2.2=0:=by rw [← hL,k1]
    have hl1:L.2.1=[]:=by rw [← hL,k1]
    obtain ⟨N,hN⟩:∃ N,rcnt 8193 nd.2=N:=⟨_,rfl⟩
    rw [hN] at hL k2 ⊢
    rw [hL] at k2 ⊢
    have hN0:N.2.2=0:=by
      by_cases hz:N.1.toNat=0
      · rw [hz] at hL;rw [← hL] at hl0;exact hl0
      · obtain ⟨m,hm⟩:=Nat.exists_eq_succ_of_ne_zero hz
        by_cases he:N.2.2=0
        · exact he
        · exfalso
          have:(rpart nd.1 N.2).2.2≠0:=fun hp=>by
            unfold rpart at hp
            simp only at hp
            have a:=rlist_back (one:=rgrp) (put:=fun x:Int=>gput x.toNat) (ok:=fun _=>True) (fun r h=>⟨(rgrp_back h).1,(rgrp_back h).2.1,trivial⟩) _ _ _ hp
            exact he (rnum_back (rnum_back a.1).1).1
          rw [hm,rlist,if_pos this] at hL
          rw [← hL] at hl0
          exact this hl0
    rw [← hN] at hN0
    obtain ⟨c1,c2,c3,c4,c5⟩:=rcnt_back hN0
    rw [hN] at c2 c3 c4 c5
    obtain ⟨d1,d2,d3,d4⟩:=key c1
    rw [← hL] at hl0
    obtain ⟨_,xs,hx,hlen,hb,ho⟩:=rlist_back (one:=rpart nd.1) (put:=pbody) (ok:=PKin nd.1) (fun r h=>rpart_back d3 h) _ _ _ hl0
    rw [hL,List.nil_append] at hx
    rw [hL,hl1,List.append_nil] at hb
    rw [hx] at k2 ⊢
    refine ⟨⟨⟨d3,d4⟩,.inl ⟨rfl,rfl,rfl,(show xs.length≤8193 by omega),ho⟩⟩,k2,?_⟩
    conv=>rhs;rw [d2,hv,c2,hb]
    simp only [cbody,if_pos,hlen,pbodies]
  · rw [if_neg hv] at h ⊢
    unfold cloopT at h ⊢
    obtain ⟨k1,k2,k3⟩:=cend_back h
    rw [k3]
    obtain ⟨D,hD⟩:∃ D,rnum 4 nd.2=D:=⟨_,rfl⟩
    obtain ⟨N,hN⟩:∃ N,rcnt 256 D.2=N:=⟨_,rfl⟩
    rw [hD,hN] at k1 k2 ⊢
    obtain ⟨b1,b2,b3,b4⟩:=rranks_back (n:=N.1.toNat) (r:=N.2) (by rw [k1])
    rw [k1] at b2
    rw [← hN] at b1
    obtain ⟨c1,c2,c3,c4,c5⟩:=rcnt_back b1
    rw [hN] at c2 c3 c4 c5
    rw [← hD] at c1
    obtain ⟨e1,e2,e3,e4⟩:=rnum_back c1
    rw [hD] at e2 e3 e4
    obtain ⟨d1,d2,d3,d4⟩:=key e1
    have hv2:(rnum 1 (bs,0)).1=2:=by omega
    rw [hv2] at k2 ⊢
    have hlen:(rlist rgrp N.1.toNat [] N.2).1.length=N.1.toNat:=b3
    refine ⟨⟨⟨d3,d4⟩,.inr ⟨rfl,rfl,⟨e3,(show D.1≤4294967295 by simp at e4;omega)⟩,(show (rlist rgrp N.1.toNat [] N.2).1.length≤256 by omega),b4⟩⟩,k2,?_⟩
    conv=>rhs;rw [d2,hv2,e2,c2,b2]
    simp [cbody,hlen]
end Go.Th
namespace Go.Proofs.YtjandnidljbkoaaGreat
open Go.RowKit Go.Th
structure Wr (w:World) (base g:Nat) (bs:List UInt8):Prop where
  ex:∃ A n c,Box w g 207 #[.slice A n c,.int .i64 0]∧OwS bv w base 5 A n c bs
  ge:base≤g
theorem ty_bw:5≠207:=by decide
theorem Wr.below {w w':World} {base g:Nat} {bs:List UInt8} (h:Wr w base g bs) (hb:Below w.heap.size w w'):Wr w' base g bs:=by
  obtain ⟨⟨A,n,c,hbx,how⟩,hge⟩:=h
  exact ⟨⟨A,n,c,hbx.step hb,how.below hb⟩,hge⟩
theorem Wr.lt {w:World} {base g:Nat} {bs:List UInt8} (h:Wr w base g bs):g < w.heap.size:=by
  obtain ⟨⟨A,n,c,hbx,how⟩,hge⟩:=h
  exact hbx.lt
def Apart (w:World) (base:Nat) (A:Option Addr):Prop:=∀ k,rowOf A=some k→k < base∨∃ cur fz,w.heap[k]? = some (Obj.cells cur 3 fz)
structure WBel (base:Nat) (w w':World):Prop where
  b:Below base w w'
  r:∀ (k:Nat) (cur:Array Value) (e:TypeId) (fz:Nat × Nat),w.heap[k]? = some (Obj.cells cur e fz)→e≠5→e≠207→w'.heap[k]? = w.heap[k]?
theorem WBel.refl (base:Nat) (w:World):WBel base w w:=⟨Below.refl _ _,fun _ _ _ _ _ _ _=>rfl⟩
theorem WBel.trans {base:Nat} {w1 w2 w3:World} (h:WBel base w1 w2) (h2:WBel base w2 w3):WBel base w1 w3 :=
  ⟨h.b.trans h2.b,fun k cur e fz hk h3 h4=>(h2.r k cur e fz ((h.r k cur e fz hk h3 h4).trans hk) h3 h4).trans (h.r k cur e fz hk h3 h4)⟩
theorem WBel.of_below {base:Nat} {w w':World} (hb:base≤w.heap.size) (h:Below w.heap.size w w'):WBel base w w' :=
  ⟨h.mono hb,fun k cur e fz hk _ _=>h.block k (Array.getElem?_eq_some_iff.1 hk).1⟩
theorem WBel.of_grown {base:Nat} {w w':World} {row:Option Nat} (h:w.grownBy w' row) (hb:base≤w.heap.size) (hr:∀ k,row=some k→base≤k∧∀ cur e fz,w.heap[k]? = some (Obj.cells cur e fz)→e=5∨e=207):WBel base w w' :=
  ⟨below_of_grown h (fun k hk=>(hr k hk).1) hb,fun k cur e fz hk h3 h4=>h.block k (Array.getElem?_eq_some_iff.1 hk).1 (fun e2=>((hr k e2.symm).2 cur e fz hk).elim h3 h4)⟩
theorem box_no_int {w:World} {g:Nat} {cs:Array Value} (h:Box w g 207 cs):∀ cur e fz,w.heap[g]? = some (Obj.cells cur e fz)→e=5∨e=207:=fun cur e fz h2=>by
  rw [h.at_] at h2
  injection h2 with h2
  injection h2 with _ h2
  exact .inr h2.symm
theorem box_wbel {w w':World} {base g:Nat} {t:TypeId} {cs:Array Value} (h:Box w g t cs) (hb:WBel base w w') (h1:t≠5) (h2:t≠207):Box w' g t cs:=⟨(hb.r g cs t _ h.at_ h1 h2).trans h.at_⟩
theorem own_no_int {w:World} {base n c:Nat} {A:Option Addr} {bs:List UInt8} (h:OwS bv w base 5 A n c bs):∀ k,rowOf A=some k→base≤k∧∀ cur e fz,w.heap[k]? = some (Obj.cells cur e fz)→e=5∨e=207:=fun k hk=>by
  refine ⟨h.ow.row_ge k hk,fun cur e fz h2=>?_⟩
  rcases h.ow.form with ⟨rfl,_⟩ | ⟨g',rfl,_⟩
  · cases hk
  · cases hk
    obtain ⟨cur',fz',e'⟩:=h.ow.type rfl
    rw [h2] at e'
    injection e' with e'
    injection e' with _ e'
    exact .inl e'
theorem own_ne_box {w:World} {base n c g:Nat} {A:Option Addr} {bs:List UInt8} {cs:Array Value} (h:OwS bv w base 5 A n c bs) (hb:Box w g 207 cs):rowOf A≠some g:=fun e=>by
  rcases h.ow.form with ⟨rfl,_⟩ | ⟨g',rfl,_⟩
  · cases e
  · exact h.ow.box_ne hb ty_bw g' rfl e.symm
theorem rds_wbel {α:Type} {f:α→Value} {w w':World} {base B n c:Nat} {A:Option Addr} {xs:List α} (h:RdS f w B A n c xs) (ha:xs=[]∨Apart w base A) (hb:WBel base w w'):RdS f w' B A n c xs :=
  ⟨⟨fun j u hu=>by
    rcases ha with rfl | ha
    · simp at hu
    obtain ⟨b,o,e,hB,hc⟩:=h.rd.at_ j u hu
    refine ⟨b,o,e,hB,(World.cell?_of_block ?_).trans hc⟩
    have hl:=World.block_lt_of_cell? w ⟨b,o+j,none⟩ hc
    rcases ha b (by rw [e];rfl) with h1 | ⟨cur,fz,h1⟩
    · exact hb.b.block b h1
    · exact hb.r b cur _ fz h1 (by decide) (by decide)⟩,h.len,h.cap⟩
theorem Apart.below {w:World} {base B n c:Nat} {A:Option Addr} {α:Type} {f:α→Value} {xs:List α} (h:RdS f w B A n c xs) (hB:B≤base):xs=[]∨Apart w base A:=by
  cases xs with
  | nil=>exact .inl rfl
  | cons x xs =>
    refine .inr fun k hk=>?_
    obtain ⟨b,o,e,hb,_⟩:=h.rd.at_ 0 (f x) rfl
    rw [e] at hk
    cases hk
    exact .inl (Nat.lt_of_lt_of_le hb hB)
theorem Apart.own {w:World} {base b n c:Nat} {A:Option Addr} {xs:List Int} (h:OwS iv w b 3 A n c xs):Apart w base A:=fun k hk=>by
  rcases h.ow.form with ⟨rfl,_⟩ | ⟨g',rfl,_⟩
  · cases hk
  · cases hk
    exact .inr (h.ow.type rfl)
set_option maxRecDepth 100000 in
set_option maxHeartbeats 2000000 in
theorem wnum_any (base g:Nat) (bs:List UInt8) (s:Nat) (Al:Option Addr) (nl cl:Nat) (zs:List Int) (w:World) (hbase:base≤w.heap.size) (h:Wr w base g bs) (hlen:bs.length≤1000000000) (hs:1≤s∧s≤4) (hz:∀ z∈zs,Fits s z) (hn:nl≤1000) (hr:RdS iv w w.heap.size Al nl cl zs) :
    Calls Tryz.prog 125 #[.pointer (some ⟨g,0,none⟩),.int .i64 s,.slice Al nl cl] w (fun e w'=>e=.returned (.tuple #[])∧Wr w' base g (bs ++ rowB s zs)∧WBel base w w'):=by
  obtain ⟨⟨A,n,c,bx,ow⟩,hge⟩:=h
  have hnl:=ow.len
  have hgl:=bx.lt
  have y1:w.cell? ⟨g,1,none⟩=some (.int .i64 0):=bx.cell 1
  have hzl:(rowB s zs).length=zs.length * s:=rowB_length s zs
  have hzn:=hr.len
  subst hzn
  subst hnl
  have hbd:zs.length * s≤4000:=by have:=Nat.mul_le_mul hn hs.2;omega
  have Hbd:=Lib.hid hbd
  clear hbd
  go_enter Tryz.func125,Tryz.ntmps125
  go_wp2_with (first
    | (go_at_call 143;(with_reducible refine (num_row_any s Al _ cl w hs.1 hs.2 (by omega) zs w.heap.size (Nat.le_refl _) hr).mono ?_);rintro e w1 hR;obtain ⟨A1,c1,rfl,ow1,hb1⟩:=hR.1 hz;have bx1:=bx.step hb1;have ow0:=ow.below hb1;have x0:w1.cell? ⟨g,0,none⟩=some (.slice A bs.length c):=bx1.cell 0)
    | ((with_reducible refine on_append (.tmp 23) (.tmp 24) ?_);refine wl_appendS rfl (.tmp 23) (.tmp 24) _ rfl el_u8 (f:=bv) (fun _=>rfl) rfl ow0 rfl ow1.rd (by have:=Hbd.out;omega) (by omega) (Nat.le_trans hbase hb1.size) ?_;intro A8 c8 w8 ow8 hg8 hb8;have bx8:=bx1.grown hg8 (own_ne_box ow0 bx1);have f8:=bx8.frozen 0;have d8:w8.cell? ⟨g,0,none⟩=some (.slice A bs.length c):=bx8.cell 0;have d9:w8.cell? ⟨g,1,none⟩=some (.int .i64 0):=bx8.cell 1;have bS8:=bx8.setCell 0 (.slice A8 (bs.length+zs.length * s) c8);have f9:=bS8.1.frozen 1;have bS9:=bS8.1.setCell 1 (.int .i64 0)))
  refine bodyPost_end (results_none rfl _ _ _) rfl ?_
  have k1:WBel base w w1:=.of_below hbase hb1
  have k2:WBel base w1 w8:=.of_grown hg8 (Nat.le_trans hbase hb1.size) (own_no_int ow0)
  have k3:=WBel.of_grown bS8.2 (Nat.le_trans (Nat.le_trans hbase hb1.size) hb8.size) (fun k e=>by injection e with e;subst e;exact ⟨hge,box_no_int bx8⟩)
  have k4:=WBel.of_grown bS9.2 (Nat.le_trans (Nat.le_trans (Nat.le_trans hbase hb1.size) hb8.size) k3.b.size) (fun k e=>by injection e with e;subst e;exact ⟨hge,box_no_int bS8.1⟩)
  have hne:=own_ne_box ow8 bx8
  have o9:=ow8.grown bS8.2 (fun g' hA e=>hne (by rw [hA];exact e.symm))
  have hne2:=own_ne_box o9 bS8.1
  have o10:=o9.grown bS9.2 (fun g' hA e=>hne2 (by rw [hA];exact e.symm))
  exact ⟨rfl,⟨⟨A8,_,c8,bS9.1,o10⟩,hge⟩,((k1.trans k2).trans k3).trans k4⟩
def WGRel (base g:Nat) (bs:List UInt8) (zs:List Int) (w:World) (i:Value) (wr:World):Prop :=
  ∃ k:Nat,k≤zs.length∧i=.int .i64 k∧Wr wr base g (bs ++ gN (zs.take k))∧WBel base w wr
theorem gN_take {xs:List Int} {k:Nat} {x:Int} (h:xs[k]? = some x):gN (xs.take (k+1))=gN (xs.take k) ++ gput x.toNat:=by
  simp [gN,List.take_add_one,h]
theorem gN_len (xs:List Int):(gN xs).length≤4 * xs.length:=by
  induction xs with
  | nil=>simp [gN]
  | cons x xs ih =>
    have e:gN (x :: xs)=gput x.toNat ++ gN xs:=by simp [gN]
    rw [e,List.length_append,gput_length,List.length_cons]
    have:=(gsize_pos x.toNat).2
    omega
set_option maxRecDepth 100000 in
set_option maxHeartbeats 2000000 in
theorem wgroup_any (base g:Nat) (bs:List UInt8) (Al:Option Addr) (nl cl:Nat) (zs:List Int) (w:World) (hbase:base≤w.heap.size) (h:Wr w base g bs) (hlen:bs.length≤1000000000) (hz:∀ z∈zs,0≤z∧z < 268435456) (hn:nl≤1000000) (hr:RdS iv w w.heap.size Al nl cl zs) (ha:zs=[]∨Apart w base Al) :
    Calls Tryz.prog 126 #[.pointer (some ⟨g,0,none⟩),.slice Al nl cl] w (fun e w'=>e=.returned (.tuple #[])∧Wr w' base g (bs ++ gN zs)∧WBel base w w'):=by
  have hzn:=hr.len
  subst hzn
  have Hz:=Lib.hid hz
  clear hz
  go_enter Tryz.func126,Tryz.ntmps126
  go_wp2_with fail
  go_loopw [10] (fun i wr=>WGRel base g bs zs w i wr) (fun i _=>zs.length - (intOf i).toNat)
  case atStart=>exact ⟨0,by omega,rfl,by simpa [gN] using h,.refl _ _⟩
  case round =>
    obtain ⟨k,hk,rfl,hW,hb⟩:=hrel
    have hrr:=rds_wbel hr ha hb
    have hgl:=hW.lt
    have hbr:=Nat.le_trans hbase hb.b.size
    obtain ⟨⟨A,n,c,bx,ow⟩,hge⟩:=hW
    have hnl:=ow.len
    subst hnl
    have hlt2:(bs ++ gN (zs.take k)).length≤1004000000:=by
      have h1:=gN_len (zs.take k)
      have h2:(zs.take k).length≤zs.length:=by rw [List.length_take];omega
      rw [List.length_append]
      omega
    obtain ⟨cs,hcs⟩:∃ cs,bs ++ gN (zs.take k)=cs:=⟨_,rfl⟩
    rw [hcs] at bx ow hlt2
    have y1:wr.cell? ⟨g,1,none⟩=some (.int .i64 0):=bx.cell 1
    by_cases hlt:k < zs.length
    · obtain ⟨z,hzk⟩:∃ z,zs[k]? = some z:=⟨zs[k],List.getElem?_eq_getElem hlt⟩
      have hz0:=Hz.out z (List.mem_of_getElem? hzk)
      have hgt:=Lib.hid (gN_take hzk)
      have Hzk:=Lib.hid hzk
      have Hcs:=Lib.hid hcs
      clear hzk hcs
      obtain ⟨m,rfl⟩:=Int.eq_ofNat_of_zero_le hz0.1
      obtain ⟨gm,hgm⟩:∃ gm,gsize m=gm:=⟨_,rfl⟩
      have hg4:gm≤4:=by have:=gsize_pos m;omega
      have hm:m < 268435456:=by omega
      have Hgm:=Lib.hid hgm
      clear hgm
      go_wp2_with (first
        | ((with_reducible refine on_index (.tmp 8) ?_);refine wl_at_i rfl _ (.tmp 8) _ rfl el_int rfl rfl (by omega) (by omega) hrr ?_;intro p x hx hc;have hxx:(m:Int)=x:=(by have e:=hx.out;rw [Int.toNat_natCast,Hzk.out] at e;injection e);subst hxx)
        | (go_at_call 121;(with_reducible refine (gput_any m _).mono ?_);rintro e w1 ⟨A1,c1,rfl,ow1,hb1⟩;rw [GP_in m hm,GS_in m hm,Hgm.out] at ow1 ⊢;have bx1:=bx.step hb1;have ow0:=ow.below hb1;have x0:w1.cell? ⟨g,0,none⟩=some (.slice A cs.length c):=bx1.cell 0)
        | ((with_reducible refine on_append (.tmp 28) (.tmp 29) ?_);refine wl_appendS rfl (.tmp 28) (.tmp 29) _ rfl el_u8 (f:=bv) (fun _=>rfl) rfl ow0 rfl ow1.rd (by omega) (by omega) (Nat.le_trans hbr hb1.size) ?_;intro A8 c8 w8 ow8 hg8 hb8;have bx8:=bx1.grown hg8 (own_ne_box ow0 bx1);have f8:=bx8.frozen 0;have d8:w8.cell? ⟨g,0,none⟩=some (.slice A cs.length c):=bx8.cell 0;have d9:w8.cell? ⟨g,1,none⟩=some (.int .i64 0):=bx8.cell 1;have bS8:=bx8.setCell 0 (.slice A8 (cs.length+gm) c8);have f9:=bS8.1.frozen 1;have bS9:=bS8.1.setCell 1 (.int .i64 0)))
      go_roundw
      case rel =>
        have k1:WBel base wr w1:=.of_below hbr hb1
        have k2:WBel base w1 w8:=.of_grown hg8 (Nat.le_trans hbr hb1.size) (own_no_int ow0)
        have k3:=WBel.of_grown bS8.2 (Nat.le_trans (Nat.le_trans hbr hb1.size) hb8.size) (fun k e=>by injection e with e;subst e;exact ⟨hge,box_no_int bx8⟩)
        have k4:=WBel.of_grown bS9.2 (Nat.le_trans (Nat.le_trans (Nat.le_trans hbr hb1.size) hb8.size) k3.b.size) (fun k e=>by injection e with e;subst e;exact ⟨hge,box_no_int bS8.1⟩)
        have hne:=own_ne_box ow8 bx8
        have o9:=ow8.grown bS8.2 (fun g' hA e=>hne (by rw [hA];exact e.symm))
        have hne2:=own_ne_box o9 bS8.1
        have o10:=o9.grown bS9.2 (fun g' hA e=>hne2 (by rw [hA];exact e.symm))
        have ec:bs ++ gN (zs.take (k+1))=cs ++ gput m:=by rw [hgt.out,← Hcs.out,List.append_assoc];rfl
        exact ⟨k+1,by omega,by go_num,⟨⟨A8,_,c8,bS9.1,by rw [ec];exact o10⟩,hge⟩,(((hb.trans k1).trans k2).trans k3).trans k4⟩
      case measure=>simp [intOf];omega
    · obtain rfl:k=zs.length:=by omega
      go_wp2
      refine bodyPost_end (results_none rfl _ _ _) rfl ?_
      rw [List.take_length] at hcs
      rw [← hcs] at bx ow
      exact ⟨rfl,⟨⟨A,_,c,bx,ow⟩,hge⟩,hb⟩
theorem wnum_lit (base g:Nat) (bs:List UInt8) (s:Nat) (zs:List Int) (m:Nat) (cs:Array Value) (w:World) (hbase:base≤w.heap.size) (h:Wr w base g bs) (hlen:bs.length≤1000000000) (hs:1≤s∧s≤4) (hz:∀ z∈zs,Fits s z) (hm:zs.length=m) (hm2:m≤1000) (hc:cs.toList=zs.map iv) :
    Calls Tryz.prog 125 #[.pointer (some ⟨g,0,none⟩),.int .i64 s,.slice (some ⟨w.heap.size,0,none⟩) m m] (w.alloc (.cells cs 3)) (fun e w'=>e=.returned (.tuple #[])∧Wr w' base g (bs ++ rowB s zs)∧WBel base w w'):=by
  have k:=below_alloc w (Nat.le_refl _) (.cells cs 3)
  refine (wnum_any base g bs s _ m m zs _ (by simp;omega) (h.below k) hlen hs hz hm2 (OwS.lit (base:=w.heap.size) w cs m (Nat.le_refl _) (by simp [maxLen];omega) hm hc).rd).mono ?_
  rintro e w' ⟨h1,h2,h3⟩
  exact ⟨h1,h2,(WBel.of_below hbase k).trans h3⟩
theorem wgroup_lit (base g:Nat) (bs:List UInt8) (zs:List Int) (m:Nat) (cs:Array Value) (w:World) (hbase:base≤w.heap.size) (h:Wr w base g bs) (hlen:bs.length≤1000000000) (hz:∀ z∈zs,0≤z∧z < 268435456) (hm:zs.length=m) (hm2:m≤1000) (hc:cs.toList=zs.map iv) :
    Calls Tryz.prog 126 #[.pointer (some ⟨g,0,none⟩),.slice (some ⟨w.heap.size,0,none⟩) m m] (w.alloc (.cells cs 3)) (fun e w'=>e=.returned (.tuple #[])∧Wr w' base g (bs ++ gN zs)∧WBel base w w'):=by
  have k:=below_alloc w (Nat.le_refl _) (.cells cs 3)
  have ho:=OwS.lit (f:=iv) (base:=w.heap.size) (e:=3) w cs m (Nat.le_refl _) (by simp [maxLen];omega) hm hc
  refine (wgroup_any base g bs _ m m zs _ (by simp;omega) (h.below k) hlen hz (by omega) ho.rd (.inr (Apart.own ho))).mono ?_
  rintro e w' ⟨h1,h2,h3⟩
  exact ⟨h1,h2,(WBel.of_below hbase k).trans h3⟩
open Go.RowKit Go.Th
theorem rowB_one (s:Nat) (z:Int):rowB s [z]=be z.toNat s:=by simp [rowB]
theorem gN_one (z:Int):gN [z]=gput z.toNat:=by simp [gN]
set_option maxRecDepth 100000 in
set_option maxHeartbeats 4000000 in
theorem cfput_loops (Ap:Option Addr) (cp:Nat) (d:Int) (At:Option Addr) (nt ct:Nat) (nodes:Nat) (w:World) (hn:nodes≤256) (hd:0≤d∧d≤4294967295) (hnt:nt≤256) (B:Nat) (hB:B≤w.heap.size) (hp:PRd w B Ap 0 cp []) (tr:List Int) (ht:RdS iv w B At nt ct tr) (htr:∀ x∈tr,0≤x∧x < 268435456) (hm:cmay 2 [] d tr nodes=0) :
    Calls Tryz.prog 90 #[.agg #[.int .i64 2,.slice Ap 0 cp,.int .u32 d,.slice At nt ct],.int .i64 nodes] w (RetBs (fput 1129468977 (cbody 2 [] d tr nodes)) 0 w):=by
  have hl:=ht.len
  subst hl
  have hmay:=fun w1 (hb:Below w.heap.size w w1)=>cmay_is 2 Ap 0 cp d At tr.length ct nodes w1 (by omega) (by omega) [] tr B (Nat.le_trans hB hb.size) (hp.step hb) (ht.step hb) (fun x hx=>by have:=htr x hx;omega) (by simp) 0 hm
  have n1:decide ((nodes:Int) < 0)=false:=by simp
  have n2:decide ((nodes:Int) > 256)=false:=by simp;omega
  have bx:=Box.new w (Cv 2 Ap 0 cp d At tr.length ct) 40
  have k1:=below_alloc w (Nat.le_refl _) (.cells (Cv 2 Ap 0 cp d At tr.length ct) 40)
  have Hmay:=Lib.hid hmay
  have Hm:=Lib.hid hm
  have Htr:=Lib.hid htr
  have Hd:=Lib.hid hd
  clear hmay hm htr hd
  go_enter Tryz.func90,Tryz.ntmps90
  go_upto_region 6 with (first
    | ((with_reducible refine on_load (.tmp 2) ?_);refine wcv_box rfl (.tmp 2) rfl rfl bx ?_)
    | (go_at_call 50;refine (Hmay.out _ k1).mono ?_;rintro e w2 ⟨rfl,hb2⟩))
  have bx2:=bx.step hb2
  have gl2:w.heap.size < w2.heap.size:=bx2.lt
  have k2:=k1.trans (hb2.mono k1.size)
  have ht2:=(ht.step k2).heap
  clear bx k1 hb2 Hmay hp ht
  go_upto_region 7 with fail
  have W3:Wr (w2.alloc (.cells #[.slice none 0 0,.int .i64 0] 207)) w2.heap.size w2.heap.size []:=⟨⟨none,0,0,Box.new _ _ _,OwS.nil_ _ _ _⟩,Nat.le_refl _⟩
  have B3:WBel w2.heap.size w2 (w2.alloc (.cells #[.slice none 0 0,.int .i64 0] 207)):=.of_below (Nat.le_refl _) (below_alloc w2 (Nat.le_refl _) _)
  obtain ⟨w3,hw3⟩:∃ W,w2.alloc (.cells #[.slice none 0 0,.int .i64 0] 207)=W:=⟨_,rfl⟩
  rw [hw3] at W3 B3 ⊢
  clear hw3
  have bx3:=bx2.below B3.b gl2
  have c0:w3.cell? ⟨w.heap.size,0,none⟩=some (.int .i64 2):=bx3.cell 0
  go_upto_region 8 with (go_at_call 125;refine (wnum_lit w2.heap.size w2.heap.size [] 1 [2] 1 #[.int .i64 2] w3 B3.b.size W3 (by simp) (by omega) (by simp [Fits]) rfl (by omega) rfl).mono ?_;rintro e w4 ⟨rfl,W4,B4⟩)
  have B4':=B3.trans B4
  clear B4 W3 B3 bx3 c0
  rw [List.nil_append,rowB_one] at W4
  go_upto_region 9 with (go_at_call 126;refine (wgroup_lit w2.heap.size w2.heap.size _ [(nodes:Int)] 1 #[.int .i64 nodes] w4 B4'.b.size W4 (by simp [be_length]) (by simp;omega) rfl (by omega) rfl).mono ?_;rintro e w5 ⟨rfl,W5,B5⟩)
  have B5':=B4'.trans B5
  clear B5 W4 B4'
  rw [gN_one] at W5
  have bx5:=bx2.below B5'.b gl2
  have c0:w5.cell? ⟨w.heap.size,0,none⟩=some (.int .i64 2):=bx5.cell 0
  have c2:w5.cell? ⟨w.heap.size,2,none⟩=some (.int .u32 d):=bx5.cell 2
  have hd:=Hd.out
  go_upto_region 18 with (go_at_call 125;refine (wnum_lit w2.heap.size w2.heap.size _ 4 [d] 1 #[.int .i64 d] w5 B5'.b.size W5 (by simp [be_length,gput_length];have:=gsize_pos nodes;omega) (by omega) (by simp [Fits];omega) rfl (by omega) rfl).mono ?_;rintro e w6 ⟨rfl,W6,B6⟩)
  have B6':=B5'.trans B6
  clear B6 W5 B5' bx5 c0 c2
  rw [rowB_one] at W6
  have bx6:=bx2.below B6'.b gl2
  have c3:w6.cell? ⟨w.heap.size,3,none⟩=some (.slice At tr.length ct):=bx6.cell 3
  go_upto_region 19 with (go_at_call 126;refine (wgroup_lit w2.heap.size w2.heap.size _ [(tr.length:Int)] 1 #[.int .i64 tr.length] w6 B6'.b.size W6 (by simp [be_length,gput_length];have:=gsize_pos nodes;omega) (by simp;omega) rfl (by omega) rfl).mono ?_;rintro e w7 ⟨rfl,W7,B7⟩)
  have B7':=B6'.trans B7
  clear B7 W6 B6' bx6 c3
  rw [gN_one] at W7
  have bx7:=bx2.below B7'.b gl2
  have c3:w7.cell? ⟨w.heap.size,3,none⟩=some (.slice At tr.length ct):=bx7.cell 3
  have ht7:=ht2.below B7'.b
  go_upto_region 20 with (go_at_call 126;refine (wgroup_any w2.heap.size w2.heap.size _ At _ ct tr w7 B7'.b.size W7 (by simp [be_length,gput_length];have:=gsize_pos nodes;have:=gsize_pos tr.length;omega) Htr.out (by omega) ht7.heap (Apart.below ht7 (Nat.le_refl _))).mono ?_;rintro e w8 ⟨rfl,W8,B8⟩)
  have B8':=B7'.trans B8
  clear B8 W7 B7' bx7 c3 ht7
  have e8:∀ ns:Nat,(((be (2:Int).toNat 1 ++ gput ns) ++ be d.toNat 4) ++ gput (tr.length:Int).toNat) ++ gN tr=cbody 2 [] d tr ns:=fun ns=>by simp [cbody]
  rw [Int.toNat_natCast,e8] at W8
  have hl8:(cbody 2 [] d tr nodes).length≤10000:=by
    have h1:=gN_len tr
    rw [← e8]
    simp only [List.length_append,be_length,gput_length]
    have:=gsize_pos nodes;have:=gsize_pos (tr.length:Int).toNat;omega
  obtain ⟨cb,hcb⟩:∃ cb,cbody 2 [] d tr nodes=cb:=⟨_,rfl⟩
  rw [hcb] at W8 hl8
  have Hcb:=Lib.hid hcb
  clear hcb e8
  obtain ⟨⟨A,n,c,bw,ow⟩,hge⟩:=W8
  have hnl:=ow.len
  subst hnl
  have y0:w8.cell? ⟨w2.heap.size,0,none⟩=some (.slice A cb.length c):=bw.cell 0
  have y1:w8.cell? ⟨w2.heap.size,1,none⟩=some (.int .i64 0):=bw.cell 1
  go_wp2_with (go_at_call 8;refine (fput_any 1129468977 (by omega) 1129468977 rfl A cb.length c w8 (by omega) cb ow.rd).mono ?_;rintro e w9 ⟨A9,n9,c9,rfl,ow9,hb9⟩)
  go_ret2
  rw [← Hcb.out] at ow9
  exact ⟨A9,n9,c9,rfl,ow9.base_le (Nat.le_trans k2.size B8'.b.size),(k2.trans (B8'.b.mono k2.size)).trans (hb9.mono (Nat.le_trans k2.size B8'.b.size))⟩
def CfRel (base g np:Nat) (pre:List UInt8) (ks:List PK) (w:World) (i:Value) (wr:World):Prop :=
  ∃ k:Nat,k≤np∧i=.int .i64 k∧Wr wr base g (pre ++ pbodies (ks.take k))∧WBel base w wr
theorem pbodies_take {ks:List PK} {k:Nat} {p:PK} (h:ks[k]? = some p):pbodies (ks.take (k+1))=pbodies (ks.take k) ++ pbody p:=by
  simp [pbodies,List.take_add_one,h]
theorem pbodies_le (ks:List PK) (k:Nat):(pbodies (ks.take k)).length≤(pbodies ks).length:=by
  have e:pbodies ks=pbodies (ks.take k) ++ pbodies (ks.drop k):=by
    unfold pbodies
    rw [← List.flatMap_append,List.take_append_drop]
  rw [e,List.length_append]
  omega
theorem rowB_two (s:Nat) (a b:Int):rowB s [a,b]=be a.toNat s ++ be b.toNat s:=by simp [rowB]
set_option maxRecDepth 100000 in
set_option maxHeartbeats 4000000 in
theorem cfput_free (Ap:Option Addr) (np cp:Nat) (At:Option Addr) (ct:Nat) (nodes:Nat) (w:World) (hn:nodes≤256) (ps:List Pt) (B:Nat) (hB:B≤w.heap.size) (hp:PRd w B Ap np cp ps) (ht:RdS iv w B At 0 ct []) (hin:np≤8193∧∀ p∈ps,PKin nodes (pkey p)) (hm:cmay 1 ps 0 [] nodes=0) (hlen:(cbody 1 (ps.map pkey) 0 [] nodes).length≤1000000) :
    Calls Tryz.prog 90 #[.agg #[.int .i64 1,.slice Ap np cp,.int .u32 0,.slice At 0 ct],.int .i64 nodes] w (RetBs (fput 1129468977 (cbody 1 (ps.map pkey) 0 [] nodes)) 0 w):=by
  obtain ⟨hnp,hks⟩:=hin
  have hsm:∀ p∈ps,p.n≤256:=fun p hp2=>by
    have h1:=(hks p hp2).2.2.1
    have h2:=(hp.rk p hp2).len
    have h3:((p.rk.length:Nat):Int)=nodes:=h1
    omega
  have hpl:=hp.rd.len
  have hmay:=fun w1 (hb:Below w.heap.size w w1)=>cmay_is 1 Ap np cp 0 At 0 ct nodes w1 (by omega) (by omega) ps [] B (Nat.le_trans hB hb.size) (hp.step hb) (ht.step hb) (by simp) (fun p hp2=>by have:=hsm p hp2;omega) 0 hm
  have n1:decide ((nodes:Int) < 0)=false:=by simp
  have n2:decide ((nodes:Int) > 256)=false:=by simp;omega
  have bx:=Box.new w (Cv 1 Ap np cp 0 At 0 ct) 40
  have k1:=below_alloc w (Nat.le_refl _) (.cells (Cv 1 Ap np cp 0 At 0 ct) 40)
  have Hmay:=Lib.hid hmay
  have Hm:=Lib.hid hm
  have Hks:=Lib.hid hks
  have Hsm:=Lib.hid hsm
  have Hpl:=Lib.hid hpl
  have Hlen:=Lib.hid hlen
  clear hmay hm hks hsm hpl hlen
  go_enter Tryz.func90,Tryz.ntmps90
  go_upto_region 6 with (first
    | ((with_reducible refine on_load (.tmp 2) ?_);refine wcv_box rfl (.tmp 2) rfl rfl bx ?_)
    | (go_at_call 50;refine (Hmay.out _ k1).mono ?_;rintro e w2 ⟨rfl,hb2⟩))
  have bx2:=bx.step hb2
  have gl2:w.heap.size < w2.heap.size:=bx2.lt
  have k2:=k1.trans (hb2.mono k1.size)
  have hp2:=(hp.step k2).heap
  clear bx k1 hb2 Hmay hp ht
  go_upto_region 7 with fail
  have W3:Wr (w2.alloc (.cells #[.slice none 0 0,.int .i64 0] 207)) w2.heap.size w2.heap.size []:=⟨⟨none,0,0,Box.new _ _ _,OwS.nil_ _ _ _⟩,Nat.le_refl _⟩
  have B3:WBel w2.heap.size w2 (w2.alloc (.cells #[.slice none 0 0,.int .i64 0] 207)):=.of_below (Nat.le_refl _) (below_alloc w2 (Nat.le_refl _) _)
  obtain ⟨w3,hw3⟩:∃ W,w2.alloc (.cells #[.slice none 0 0,.int .i64 0] 207)=W:=⟨_,rfl⟩
  rw [hw3] at W3 B3 ⊢
  clear hw3
  have bx3:=bx2.below B3.b gl2
  have c0:w3.cell? ⟨w.heap.size,0,none⟩=some (.int .i64 1):=bx3.cell 0
  go_upto_region 8 with (go_at_call 125;refine (wnum_lit w2.heap.size w2.heap.size [] 1 [1] 1 #[.int .i64 1] w3 B3.b.size W3 (by simp) (by omega) (by simp [Fits]) rfl (by omega) rfl).mono ?_;rintro e w4 ⟨rfl,W4,B4⟩)
  have B4':=B3.trans B4
  clear B4 W3 B3 bx3 c0
  rw [List.nil_append,rowB_one] at W4
  go_upto_region 9 with (go_at_call 126;refine (wgroup_lit w2.heap.size w2.heap.size _ [(nodes:Int)] 1 #[.int .i64 nodes] w4 B4'.b.size W4 (by simp [be_length]) (by simp;omega) rfl (by omega) rfl).mono ?_;rintro e w5 ⟨rfl,W5,B5⟩)
  have B5':=B4'.trans B5
  clear B5 W4 B4'
  rw [gN_one] at W5
  have bx5:=bx2.below B5'.b gl2
  have c0:w5.cell? ⟨w.heap.size,0,none⟩=some (.int .i64 1):=bx5.cell 0
  have c1:w5.cell? ⟨w.heap.size,1,none⟩=some (.slice Ap np cp):=bx5.cell 1
  go_upto_region 11 with (go_at_call 126;refine (wgroup_lit w2.heap.size w2.heap.size _ [(np:Int)] 1 #[.int .i64 np] w5 B5'.b.size W5 (by simp [be_length,gput_length];have:=gsize_pos nodes;omega) (by simp;omega) rfl (by omega) rfl).mono ?_;rintro e w6 ⟨rfl,W6,B6⟩)
  have B6':=B5'.trans B6
  clear B6 W5 B5' bx5 c0 c1
  rw [gN_one] at W6
  have bx6:=bx2.below B6'.b gl2
  have c1:w6.cell? ⟨w.heap.size,1,none⟩=some (.slice Ap np cp):=bx6.cell 1
  have hp6:=hp2.below B6'.b
  have e8:((be (1:Int).toNat 1 ++ gput (nodes:Int).toNat) ++ gput (np:Int).toNat) ++ pbodies (ps.map pkey)=cbody 1 (ps.map pkey) 0 [] nodes:=by simp [cbody,Hpl.out]
  obtain ⟨pre,hpre⟩:∃ pre,(be (1:Int).toNat 1 ++ gput (nodes:Int).toNat) ++ gput (np:Int).toNat=pre:=⟨_,rfl⟩
  rw [hpre] at W6 e8
  clear hpre
  have E8:=Lib.hid e8
  clear e8
  go_wp2_with fail
  go_loopw [45] (fun i wr=>CfRel w2.heap.size w2.heap.size np pre (ps.map pkey) w6 i wr) (fun i _=>np - (intOf i).toNat)
  case atStart=>exact ⟨0,by omega,rfl,by simpa [pbodies] using W6,.refl _ _⟩
  case round =>
    obtain ⟨k,hk,rfl,WR,hb⟩:=hrel
    have hpr:=hp6.below hb.b
    have hkl:(pre ++ pbodies ((ps.map pkey).take k)).length≤1000000:=by
      have h1:=Hlen.out
      rw [← E8.out] at h1
      have h2:=pbodies_le (ps.map pkey) k
      simp only [List.length_append] at h1 ⊢
      omega
    have hbr:=Nat.le_trans B6'.b.size hb.b.size
    by_cases hlt:k < np
    · obtain ⟨p,hpk⟩:∃ p,ps[k]? = some p:=⟨ps[k]'(by have:=Hpl.out;omega),List.getElem?_eq_getElem _⟩
      have hpm:=List.mem_of_getElem? hpk
      obtain ⟨q1,q2,q3,q4⟩:=Hks.out p hpm
      have hpn:=Hsm.out p hpm
      have Hpb:=Lib.hid (pbodies_take (ks:=ps.map pkey) (k:=k) (p:=pkey p) (by rw [List.getElem?_map,hpk];rfl))
      have hrk:=hpr.rk p hpm
      have Hpk:=Lib.hid hpk
      have q1a:0≤p.fr∧p.fr≤4294967295:=q1
      have q2a:0≤p.to∧p.to≤4294967295:=q2
      have Q4:=Lib.hid q4
      clear hpk hpm q1 q2 q3 q4
      obtain ⟨cs,hcs⟩:∃ cs,pre ++ pbodies ((ps.map pkey).take k)=cs:=⟨_,rfl⟩
      rw [hcs] at WR hkl
      have Hcs:=Lib.hid hcs
      clear hcs
      go_wp2_with (first
        | ((with_reducible refine on_index (.tmp 43) ?_);refine wm_at Pt.cs_length rfl _ (.tmp 43) _ rfl el_part rfl rfl (by omega) (by omega) hpr.rd ?_;intro b1 j1 r1 hr1 hb1 hc1;have hxx:p=r1:=get_eq Hpk.out hr1.out (by omega);subst hxx)
        | ((with_reducible refine on_load (.tmp 47) ?_);refine wpt_load rfl _ (.tmp 47) rfl st_part rfl hc1 ?_)
        | ((with_reducible refine on_alloc ?_);refine wl_newBox rfl _ rfl z_part ?_;intro g5 w7 hg5 hl5 bp5 hb5)
        | ((with_reducible refine on_store_at (.tmp 9) ?_);refine wpt_store (r:=Pt.zero) (s:=p) rfl _ (.tmp 9) _ rfl st_part rfl rfl bp5 ?_;intro w8 bp6 hg6;have u0:w8.cell? ⟨g5,0,none⟩=some (.int .u32 p.fr):=bp6.cell 0;have u1:w8.cell? ⟨g5,1,none⟩=some (.int .u32 p.to):=bp6.cell 1;have bb8:Below wr.heap.size wr w8:=hb5.trans (below_of_grown hg6 (fun j e=>by injection e with e;omega) hb5.size);have WR8:=WR.below bb8)
        | (go_at_call 125;refine (wnum_lit w2.heap.size w2.heap.size cs 4 [p.fr,p.to] 2 #[.int .i64 p.fr,.int .i64 p.to] w8 (by have:=bb8.size;omega) WR8 (by omega) (by omega) (by simp [Fits];omega) rfl (by omega) rfl).mono ?_;rintro e w9 ⟨rfl,WR9,B9⟩;have bp9:=box_wbel bp6 B9 (by decide) (by decide);have u2:w9.cell? ⟨g5,2,none⟩=some (.slice p.A p.n p.c):=bp9.cell 2;have B9':=(WBel.of_below hbr bb8).trans B9;have hrk9:=hrk.below B9'.b)
        | (go_at_call 126;refine (wgroup_any w2.heap.size w2.heap.size _ p.A p.n p.c p.rk w9 (by have:=B9'.b.size;omega) WR9 (by simp [rowB_length];omega) Q4.out (by omega) hrk9.heap (Apart.below hrk9 (Nat.le_refl _))).mono ?_;rintro e w10 ⟨rfl,W10,B10⟩))
      go_roundw
      case rel =>
        rw [rowB_two,List.append_assoc,List.append_assoc] at W10
        have ec:pre ++ pbodies ((ps.map pkey).take (k+1))=cs ++ (be p.fr.toNat 4 ++ (be p.to.toNat 4 ++ gN p.rk)):=by rw [Hpb.out,← Hcs.out,List.append_assoc];rfl
        exact ⟨k+1,by omega,by go_num,by rw [ec];exact W10,(hb.trans B9').trans B10⟩
      case measure=>simp [intOf];omega
    · obtain rfl:k=np:=by omega
      have ek:pre ++ pbodies ((ps.map pkey).take k)=cbody 1 (ps.map pkey) 0 [] nodes:=by rw [List.take_of_length_le (by simp [Hpl.out]),E8.out]
      obtain ⟨cb,hcb⟩:∃ cb,cbody 1 (ps.map pkey) 0 [] nodes=cb:=⟨_,rfl⟩
      rw [ek,hcb] at WR hkl
      have Hcb:=Lib.hid hcb
      clear ek hcb
      have B8':=B6'.trans hb
      obtain ⟨⟨A,n,c,bw,ow⟩,hge⟩:=WR
      have hnl:=ow.len
      subst hnl
      have y0:wr.cell? ⟨w2.heap.size,0,none⟩=some (.slice A cb.length c):=bw.cell 0
      have y1:wr.cell? ⟨w2.heap.size,1,none⟩=some (.int .i64 0):=bw.cell 1
      go_wp2_with (go_at_call 8;refine (fput_any 1129468977 (by omega) 1129468977 rfl A cb.length c wr (by omega) cb ow.rd).mono ?_;rintro e w9 ⟨A9,n9,c9,rfl,ow9,hb9⟩)
      go_ret2
      rw [← Hcb.out] at ow9
      exact ⟨A9,n9,c9,rfl,ow9.base_le (Nat.le_trans k2.size B8'.b.size),(k2.trans (B8'.b.mono k2.size)).trans (hb9.mono (Nat.le_trans k2.size B8'.b.size))⟩
theorem cfput_any (v:Int) (Ap:Option Addr) (np cp:Nat) (d:Int) (At:Option Addr) (nt ct:Nat) (nodes:Int) (w:World) (ps:List Pt) (tr:List Int) (B:Nat) (hB:B≤w.heap.size) (hp:PRd w B Ap np cp ps) (ht:RdS iv w B At nt ct tr) (hin:CIn v (ps.map pkey) d tr nodes) (hm:cmay v ps d tr nodes=0) (hlen:(cbody v (ps.map pkey) d tr nodes).length≤1000000) (bs:List UInt8) (hbs:fput 1129468977 (cbody v (ps.map pkey) d tr nodes)=bs) :
    Calls Tryz.prog 90 #[.agg #[.int .i64 v,.slice Ap np cp,.int .u32 d,.slice At nt ct],.int .i64 nodes] w (RetBs bs 0 w):=by
  subst hbs
  obtain ⟨⟨h1,h2⟩,hk⟩:=hin
  obtain ⟨N,rfl⟩:=Int.eq_ofNat_of_zero_le h1
  have hl1:=hp.rd.len
  have hl2:=ht.len
  rcases hk with ⟨rfl,rfl,rfl,a,b⟩ | ⟨rfl,a,b,c,e⟩
  · obtain rfl:nt=0:=by simpa using hl2.symm
    exact cfput_free Ap np cp At ct N w (by omega) ps B hB hp ht ⟨by simpa [hl1] using a,fun p hp2=>b _ (List.mem_map.2 ⟨p,hp2,rfl⟩)⟩ hm hlen
  · obtain rfl:ps=[]:=by simpa using a
    obtain rfl:np=0:=by simpa using hl1.symm
    exact cfput_loops Ap cp d At nt ct N w (by omega) b (by omega) B hB hp tr ht e hm
open Go.RowKit Go.Th
structure Rr (w:World) (lo B g:Nat) (nodes:Int) (r:Rs):Prop where
  ex:∃ A n c,Box w g 93 #[.slice A n c,.int .i64 nodes,.int .i64 r.2]∧RdS bv w B A n c r.1∧n≤1000000∧∀ k,rowOf A=some k→lo≤k
  ge:B≤g
theorem Rr.lt {w:World} {lo B g:Nat} {nodes:Int} {r:Rs} (h:Rr w lo B g nodes r):g < w.heap.size:=by
  obtain ⟨⟨A,n,c,hbx,_,_,_⟩,_⟩:=h
  exact hbx.lt
theorem Rr.below {w w':World} {lo B g:Nat} {nodes:Int} {r:Rs} (h:Rr w lo B g nodes r) (hb:Below w.heap.size w w'):Rr w' lo B g nodes r:=by
  obtain ⟨⟨A,n,c,hbx,hr,hn,hlo⟩,hge⟩:=h
  exact ⟨⟨A,n,c,hbx.step hb,hr.step hb,hn,hlo⟩,hge⟩
theorem rowOf_cutA (A:Option Addr) (L M:Nat):rowOf (cutA A L M)=rowOf A:=by
  unfold cutA
  split
  · rfl
  · cases A with
    | none=>rfl
    | some a =>
      show some (a.add L).block=some a.block
      unfold Addr.add
      split <;> rfl
theorem cut_l {α:Type} {f:α→Value} {w:World} {B:Nat} {A:Option Addr} {n c:Nat} {xs:List α} (h:RdS f w B A n c xs) (L:Nat) (hL:L≤n):RdS f w B (cutA A L c) (n - L) (c - L) (xs.drop L):=by
  have:=h.cut L n c hL h.cap (Nat.le_refl _)
  rwa [List.take_of_length_le (Nat.le_of_eq h.len)] at this
section
variable {P:Program} {ops:Array Oper} {rest:List Oper} {o:Oper} {a:Act} {Q:Exit→Act→World→Prop} {w:World}
theorem wl_cut_lx (hw:Region.wanted o (yielded ops a.tmps)=true) (T:TypeId) (s:Operand) {E bytes:Nat} {z:Value} (el:El P T E z bytes)
    {A:Option Addr} {n c:Nat} (hs:a.eval s=.slice A n c) (hc:n≤c) (lo:Operand) (ho:o.op=.slice T s (some lo) Option.none Option.none) {k:IntKind} {I:Int} (hlo:a.eval lo=.int k I) (L:Nat) (hL:I=(L:Int)∧L≤n)
    (h:wpList P ops Q rest (a.put o.dst (.slice (cutA A L c) (n - L) (c - L))) w):wpList P ops Q (o :: rest) a w:=by
  obtain ⟨rfl,hL⟩:=hL
  refine wl_run hw (v:=.slice (cutA A L c) (n - L) (c - L)) (w':=w) ?_ h
  have hb:(Instr.sliceBounds true n c (some (.int k (L:Int))) Option.none Option.none).run P w=.ok (L,n,c) w:=bounds_l k hL
  simp only [execOp,ho,hs,hlo,Option.map_some,Option.map_none,Sem.run_bind,Instr.sliceAt,run_underlying el.ht,Instr.slice,hb,el.size,Result.andThen,Sem.run_pure,Nat.mul_one,cutA]
end
theorem rnum_err {s:Nat} {bs:List UInt8} {e:Int} (h:e≠0):rnum s (bs,e)=(0,(bs,e)):=if_pos h
theorem rnum_short {s:Nat} {bs:List UInt8} (h:bs.length < s):rnum s (bs,0)=(0,(bs,2)):=by
  unfold rnum
  rw [if_neg (by simp),if_pos h]
theorem rnum_yes {s:Nat} {bs:List UInt8} (h:s≤bs.length):rnum s (bs,0)=((val (bs.take s):Int),(bs.drop s,0)):=by
  unfold rnum
  rw [if_neg (by simp),if_neg (by simp;omega)]
theorem rgrp_err {bs:List UInt8} {e:Int} (h:e≠0):rgrp (bs,e)=(0,(bs,e)):=if_pos h
theorem rgrp_bad {bs:List UInt8} (h:(gtake bs).2.2≠0):rgrp (bs,0)=(0,(bs,(gtake bs).2.2)):=by
  unfold rgrp
  rw [if_neg (by simp),if_pos h]
theorem rgrp_yes {bs:List UInt8} (h:(gtake bs).2.2=0):rgrp (bs,0)=(((gtake bs).1:Int),(bs.drop (gtake bs).2.1,0)):=by
  unfold rgrp
  rw [if_neg (by simp),if_neg (by simpa using h)]
set_option maxRecDepth 100000 in
set_option maxHeartbeats 2000000 in
theorem rdnum_any (lo B g:Nat) (nodes:Int) (r:Rs) (s:Nat) (S:Int) (hS:(s:Int)=S) (hs:1≤s∧s≤4) (w:World) (h:Rr w lo B g nodes r) :
    Calls Tryz.prog 43 #[.pointer (some ⟨g,0,none⟩),.int .i64 S] w (fun e w'=>e=.returned (.int .i64 (rnum s r).1)∧Rr w' lo B g nodes (rnum s r).2∧w.grownBy w' (some g)):=by
  subst hS
  obtain ⟨bs,e⟩:=r
  obtain ⟨⟨A,n,c,bx,hr,hn,hlo⟩,hge⟩:=h
  have hl:=hr.len
  subst hl
  have y0:w.cell? ⟨g,0,none⟩=some (.slice A bs.length c):=bx.cell 0
  have y2:w.cell? ⟨g,2,none⟩=some (.int .i64 e):=bx.cell 2
  by_cases he:e=0
  · subst he
    have hcap:=hr.cap
    have ht:Hid (TS bs s=if bs.length < s then (0,2) else (val (bs.take s),0)):=Lib.hid (by unfold TS;rw [if_pos (by omega)];simp)
    have f0:=bx.frozen 0
    have f2:=bx.frozen 2
    by_cases hlt:bs.length < s
    · rw [rnum_short hlt]
      have bS:=bx.setCell 2 (.int .i64 2)
      go_enter Tryz.func43,Tryz.ntmps43
      go_wp2_with (go_at_call 99;refine (take_any A bs.length c s w (by omega) B bs hr).mono ?_;rintro e w1 ⟨rfl,rfl⟩;rw [ht.out,if_pos hlt])
      go_ret
      exact ⟨rfl,⟨⟨A,_,c,bS.1,hr.grown bS.2 (fun g' e=>by injection e with e;omega),hn,hlo⟩,hge⟩,bS.2⟩
    · rw [rnum_yes (by omega)]
      go_enter Tryz.func43,Tryz.ntmps43
      go_wp2_with (first
        | (go_at_call 99;refine (take_any A bs.length c s w (by omega) B bs hr).mono ?_;rintro e w1 ⟨rfl,rfl⟩;rw [ht.out,if_neg hlt])
        | ((with_reducible refine on_slice (.tmp 31) ?_);refine wl_cut_lx rfl _ _ el_u8 rfl hcap _ rfl rfl s (by omega) ?_;have bS:=bx.setCell 0 (.slice (cutA A s c) (bs.length - s) (c - s))))
      go_ret
      exact ⟨rfl,⟨⟨_,_,_,bS.1,(cut_l hr s (by omega)).grown bS.2 (fun g' e=>by injection e with e;omega),by omega,fun k hk=>hlo k (by rw [← rowOf_cutA A s c];exact hk)⟩,hge⟩,bS.2⟩
  · rw [rnum_err he]
    have hb:(e != 0)=true:=by simpa using he
    go_enter Tryz.func43,Tryz.ntmps43
    go_wp2
    go_ret
    exact ⟨rfl,⟨⟨A,_,c,bx,hr,hn,hlo⟩,hge⟩,grown_refl _ _⟩
set_option maxRecDepth 100000 in
set_option maxHeartbeats 2000000 in
theorem rdgrp_any (lo B g:Nat) (nodes:Int) (r:Rs) (w:World) (h:Rr w lo B g nodes r) :
    Calls Tryz.prog 48 #[.pointer (some ⟨g,0,none⟩)] w (fun e w'=>e=.returned (.int .i64 (rgrp r).1)∧Rr w' lo B g nodes (rgrp r).2∧w.grownBy w' (some g)):=by
  obtain ⟨bs,e⟩:=r
  obtain ⟨⟨A,n,c,bx,hr,hn,hlo⟩,hge⟩:=h
  have hl:=hr.len
  subst hl
  have y0:w.cell? ⟨g,0,none⟩=some (.slice A bs.length c):=bx.cell 0
  have y2:w.cell? ⟨g,2,none⟩=some (.int .i64 e):=bx.cell 2
  by_cases he:e=0
  · subst he
    have hcap:=hr.cap
    have f0:=bx.frozen 0
    have f2:=bx.frozen 2
    by_cases hlt:(gtake bs).2.2=0
    · rw [rgrp_yes hlt]
      obtain ⟨x,k,ht,hk⟩:∃ x k,gtake bs=(x,k,0)∧k≤bs.length:=by
        rcases gtake_what bs with h3 | h3 | ⟨x,k,h3,_,_,h4,_⟩
        · rw [h3.1] at hlt;cases hlt
        · rw [h3] at hlt;cases hlt
        · exact ⟨x,k,h3,h4⟩
      rw [ht]
      have Ht:=Lib.hid ht
      clear ht hlt
      go_enter Tryz.func48,Tryz.ntmps48
      go_wp2_with (first
        | (go_at_call 95;refine (gtake_any A bs.length c w (by omega) B bs hr).mono ?_;rintro e w1 ⟨rfl,rfl⟩;rw [Ht.out])
        | ((with_reducible refine on_slice (.tmp 30) ?_);refine wl_cut_lx rfl _ _ el_u8 rfl hcap _ rfl rfl k (by omega) ?_;have bS:=bx.setCell 0 (.slice (cutA A k c) (bs.length - k) (c - k))))
      go_ret
      exact ⟨rfl,⟨⟨_,_,_,bS.1,(cut_l hr k (by omega)).grown bS.2 (fun g' e=>by injection e with e;omega),by omega,fun j hj=>hlo j (by rw [← rowOf_cutA A k c];exact hj)⟩,hge⟩,bS.2⟩
    · rw [rgrp_bad hlt]
      obtain ⟨t,ht⟩:∃ t,gtake bs=t:=⟨_,rfl⟩
      rw [ht] at hlt ⊢
      have Ht:=Lib.hid ht
      have hb:(t.2.2 != 0)=true:=by simpa using hlt
      have bS:=bx.setCell 2 (.int .i64 t.2.2)
      clear ht hlt
      go_enter Tryz.func48,Tryz.ntmps48
      go_wp2_with (go_at_call 95;refine (gtake_any A bs.length c w (by omega) B bs hr).mono ?_;rintro e w1 ⟨rfl,rfl⟩;rw [Ht.out])
      go_ret
      exact ⟨rfl,⟨⟨A,_,c,bS.1,hr.grown bS.2 (fun g' e=>by injection e with e;omega),hn,hlo⟩,hge⟩,bS.2⟩
  · rw [rgrp_err he]
    have hb:(e != 0)=true:=by simpa using he
    go_enter Tryz.func48,Tryz.ntmps48
    go_wp2
    go_ret
    exact ⟨rfl,⟨⟨A,_,c,bx,hr,hn,hlo⟩,hge⟩,grown_refl _ _⟩
set_option maxRecDepth 100000 in
set_option maxHeartbeats 2000000 in
theorem rdfail_any (lo B g:Nat) (nodes:Int) (r:Rs) (er:Int) (w:World) (h:Rr w lo B g nodes r) :
    Calls Tryz.prog 44 #[.pointer (some ⟨g,0,none⟩),.int .i64 er] w (fun e w'=>e=.returned (.tuple #[])∧Rr w' lo B g nodes (rfail er r)∧w.grownBy w' (some g)):=by
  obtain ⟨bs,e⟩:=r
  obtain ⟨⟨A,n,c,bx,hr,hn,hlo⟩,hge⟩:=h
  have y2:w.cell? ⟨g,2,none⟩=some (.int .i64 e):=bx.cell 2
  have f2:=bx.frozen 2
  have bS:=bx.setCell 2 (.int .i64 er)
  by_cases he:e=0
  · have e1:rfail er (bs,e)=(bs,er):=if_pos he
    rw [e1]
    subst he
    go_enter Tryz.func44,Tryz.ntmps44
    go_wp2
    refine bodyPost_end (results_none rfl _ _ _) rfl ?_
    exact ⟨rfl,⟨⟨A,_,c,bS.1,hr.grown bS.2 (fun g' e=>by injection e with e;omega),hn,hlo⟩,hge⟩,bS.2⟩
  · have e1:rfail er (bs,e)=(bs,e):=if_neg he
    rw [e1]
    have hb:(e == 0)=false:=by simpa using he
    go_enter Tryz.func44,Tryz.ntmps44
    go_wp2
    refine bodyPost_end (results_none rfl _ _ _) rfl ?_
    exact ⟨rfl,⟨⟨A,_,c,bx,hr,hn,hlo⟩,hge⟩,grown_refl _ _⟩
set_option maxRecDepth 100000 in
set_option maxHeartbeats 2000000 in
theorem rdcnt_any (lo B g:Nat) (nodes:Int) (r:Rs) (most:Int) (w:World) (h:Rr w lo B g nodes r) :
    Calls Tryz.prog 45 #[.pointer (some ⟨g,0,none⟩),.int .i64 most] w (fun e w'=>e=.returned (.int .i64 (rcnt most r).1)∧Rr w' lo B g nodes (rcnt most r).2∧w.grownBy w' (some g)):=by
  obtain ⟨x,hx⟩:∃ x,rgrp r=x:=⟨_,rfl⟩
  have hg:=rdgrp_any lo B g nodes r w h
  rw [hx] at hg
  have Hg:=Lib.hid hg
  clear hg
  by_cases hm:most < x.1
  · have e1:rcnt most r=(0,rfail 12 x.2):=by unfold rcnt;rw [hx,if_pos hm]
    rw [e1]
    clear e1 hx
    have h1:decide (x.1 > most)=true:=by simpa using hm
    go_enter Tryz.func45,Tryz.ntmps45
    go_wp2_with (first
      | (go_at_call 48;refine (Hg.out).mono ?_;rintro e w1 ⟨rfl,R1,g1⟩)
      | (go_at_call 44;refine (rdfail_any lo B g nodes x.2 12 w1 R1).mono ?_;rintro e w2 ⟨rfl,R2,g2⟩))
    go_ret
    exact ⟨rfl,R2,grown_trans g1 g2⟩
  · have e1:rcnt most r=x:=by unfold rcnt;rw [hx,if_neg hm]
    rw [e1]
    clear e1 hx
    have h1:decide (x.1 > most)=false:=by simpa using hm
    go_enter Tryz.func45,Tryz.ntmps45
    go_wp2_with (go_at_call 48;refine (Hg.out).mono ?_;rintro e w1 ⟨rfl,R1,g1⟩)
    go_ret
    exact ⟨rfl,R1,g1⟩
open Go.RowKit Go.Th
theorem grown_below {w w':World} {row:Option Nat} (h:Below w.heap.size w w'):w.grownBy w' row:=⟨h.os,h.tape,h.output,h.size,fun k hk _=>h.block k hk⟩
theorem grown_new {w w1 w2:World} {row row2:Option Nat} (h:w.grownBy w1 row) (h2:w1.grownBy w2 row2) (hr:∀ k,row2=some k→w.heap.size≤k):w.grownBy w2 row:=by
  refine ⟨h2.os.trans h.os,h2.tape.trans h.tape,h2.output.trans h.output,Nat.le_trans h.size h2.size,fun k hk hne=>?_⟩
  exact (h2.block k (Nat.lt_of_lt_of_le hk h.size) (fun e=>by have:=hr k e.symm;omega)).trans (h.block k hk hne)
theorem Rr.grown {w w':World} {lo B g:Nat} {nodes:Int} {r:Rs} {row:Option Nat} (h:Rr w lo B g nodes r) (hg:w.grownBy w' row) (hne:∀ k,row=some k→g < k∨(k < lo∧k < g)):Rr w' lo B g nodes r:=by
  obtain ⟨⟨A,n,c,hbx,hr,hn,hlo⟩,hge⟩:=h
  refine ⟨⟨A,n,c,hbx.grown hg (fun e=>by have:=hne g e;omega),⟨⟨fun j u hu=>?_⟩,hr.len,hr.cap⟩,hn,hlo⟩,hge⟩
  obtain ⟨b,o,e,hB,hc⟩:=hr.rd.at_ j u hu
  have hb:=hlo b (by rw [e];rfl)
  refine ⟨b,o,e,hB,(World.cell?_of_block (hg.block b (World.block_lt_of_cell? w ⟨b,o+j,none⟩ hc) (fun e=>?_))).trans hc⟩
  have:=hne b e.symm
  omega
theorem rlist_go {α:Type} {one:Rs→α × Rs} {n:Nat} {acc:List α} {r:Rs} (h:(one r).2.2=0):rlist one (n+1) acc r=rlist one n (acc ++ [(one r).1]) (one r).2:=by
  rw [rlist,if_neg (by simpa using h)]
theorem rlist_stop {α:Type} {one:Rs→α × Rs} {n:Nat} {acc:List α} {r:Rs} (h:(one r).2.2≠0):rlist one (n+1) acc r=([],(one r).2):=by
  rw [rlist,if_pos h]
def ListRel (lo B g:Nat) (nodes:Int) (n:Nat) (r:Rs) (w:World) (all i:Value) (wr:World):Prop :=
  ∃ (k c:Nat) (A:Option Addr) (acc:List Int) (rk:Rs),k≤n∧i=.int .i64 k∧all=.slice A k c∧OwS iv wr (w.heap.size+1) 3 A k c acc∧Rr wr lo B g nodes rk∧w.grownBy wr (some g)∧w.heap.size+1≤wr.heap.size∧Box wr w.heap.size 106 #[.func (.func 48) #[] #[]]∧Hid (rlist rgrp n [] r=rlist rgrp (n - k) acc rk)
set_option maxRecDepth 100000 in
set_option maxHeartbeats 4000000 in
theorem rdlist_any (lo B g:Nat) (nodes:Int) (r:Rs) (n:Nat) (hn:n≤1000000) (w:World) (h:Rr w lo B g nodes r) :
    Calls Tryz.prog 49 #[.agg #[.func (.func 48) #[] #[]],.pointer (some ⟨g,0,none⟩),.int .i64 n] w (fun e w'=>∃ A m c,e=.returned (.slice A m c)∧OwS iv w' w.heap.size 3 A m c (rlist rgrp n [] r).1∧Rr w' lo B g nodes (rlist rgrp n [] r).2∧w.grownBy w' (some g)):=by
  obtain ⟨L,hL⟩:∃ L,rlist rgrp n [] r=L:=⟨_,rfl⟩
  rw [hL]
  have HL:=Lib.hid hL
  clear hL
  have hgl:=h.lt
  go_enter Tryz.func49,Tryz.ntmps49
  go_wp2_with fail
  go_loopw [7,10] (fun all i wr=>ListRel lo B g nodes n r w all i wr) (fun _ i _=>n - (intOf i).toNat)
  case atStart =>
    have k0:=below_alloc w (Nat.le_refl _) (.cells #[.func (.func 48) #[] #[]] 106)
    exact ⟨0,0,none,[],r,by omega,rfl,rfl,OwS.nil_ _ _ _,h.below k0,grown_below k0,by simp,Box.new _ _ _,Lib.hid rfl⟩
  case round =>
    obtain ⟨k,c,A,acc,rk,hk,rfl,rfl,ow,R,hg,hsz,bl,hl⟩:=hrel
    have y0:wr.cell? ⟨w.heap.size,0,none⟩=some (.func (.func 48) #[] #[]):=bl.cell 0
    have hrow:∀ g',A=some ⟨g',0,none⟩→w.heap.size+1≤g':=fun g' hA=>ow.ow.row_ge g' (by rw [hA];rfl)
    have Hrow:=Lib.hid hrow
    clear hrow
    by_cases hlt:k < n
    · obtain ⟨x,hx⟩:∃ x,rgrp rk=x:=⟨_,rfl⟩
      have hc:=rdgrp_any lo B g nodes rk wr R
      rw [hx] at hc
      have Hc:=Lib.hid hc
      clear hc
      by_cases he:x.2.2=0
      · have hl2:=hl.out
        rw [show n - k=(n - (k+1))+1 by omega,rlist_go (by rw [hx];exact he),hx] at hl2
        have Hl2:=Lib.hid hl2
        clear hl2 hl hx
        have he2:(x.2.2 == 0)=true:=by simpa using he
        have He:=Lib.hid he
        clear he
        go_wp2_with (first
          | (go_at_call 48;refine (Hc.out).mono ?_;rintro e w1 ⟨rfl,R1,g1⟩;obtain ⟨⟨Ar,nr,cr,bxr,hrr,hnr,hlr⟩,hge⟩:=R1;rw [He.out] at bxr;have z2:w1.cell? ⟨g,2,none⟩=some (.int .i64 0):=bxr.cell 2;have ow1:=ow.grown g1 (fun g' hA e=>by have:=Hrow.out g' hA;injection e with e;omega);have bl1:=bl.grown g1 (fun e=>by injection e with e;omega);have hs1:=g1.size)
          | ((with_reducible refine on_append (.tmp 21) (.tmp 23) ?_);refine wl_appendS rfl (.tmp 21) (.tmp 23) _ rfl el_int (f:=iv) (fun _=>rfl) rfl (ow1.alloc (.cells #[.int .i64 x.1] 3)) rfl (OwS.lit (base:=w1.heap.size) (e:=3) (xs:=[x.1]) w1 #[.int .i64 x.1] 1 (Nat.le_refl _) (by simp [maxLen]) rfl rfl).rd (by omega) (by omega) (by simp;omega) ?_;intro A8 c8 w8 ow8 hg8 hb8))
        go_roundw
        case rel =>
          have k1:=below_alloc w1 (Nat.le_refl _) (.cells #[.int .i64 x.1] 3)
          have hra:∀ j,rowOf A=some j→w.heap.size+1≤j:=fun j hj=>ow.ow.row_ge j hj
          have R1:Rr w1 lo B g nodes x.2:=⟨⟨Ar,nr,cr,by rw [He.out];exact bxr,hrr,hnr,hlr⟩,hge⟩
          have R8:=(R1.below k1).grown hg8 (fun j e=>by have:=hra j e;omega)
          have bl8:=(bl1.step k1).grown hg8 (fun e=>by have:=hra _ e;omega)
          have G1:=grown_trans hg g1
          have G2:=grown_new (row2:=none) G1 (grown_below k1) (fun j e=>by cases e)
          have G8:=grown_new G2 hg8 (fun j e=>by have:=hra j e;omega)
          exact ⟨k+1,c8,A8,acc ++ [x.1],x.2,by omega,by go_num,rfl,ow8,R8,G8,by have:=hg8.size;have:=k1.size;omega,bl8,Hl2⟩
        case measure=>simp [intOf];omega
      · have hl2:=hl.out
        rw [show n - k=(n - (k+1))+1 by omega,rlist_stop (by rw [hx];exact he),hx,HL.out] at hl2
        have Hl2:=Lib.hid hl2
        clear hl2 hl hx
        have he2:(x.2.2 != 0)=true:=by simpa using he
        clear he
        go_wp2_with (go_at_call 48;refine (Hc.out).mono ?_;rintro e w1 ⟨rfl,R1,g1⟩;have z2:w1.cell? ⟨g,2,none⟩=some (.int .i64 x.2.2):=by obtain ⟨⟨Ar,nr,cr,bxr,hrr,hnr,hlr⟩,hge⟩:=R1;exact bxr.cell 2)
        go_ret
        rw [Hl2.out]
        exact ⟨none,0,0,rfl,OwS.nil_ _ _ _,R1,grown_trans hg g1⟩
    · obtain rfl:k=n:=by omega
      go_wp2
      go_ret
      have hl2:=hl.out
      rw [HL.out,Nat.sub_self] at hl2
      subst hl2
      exact ⟨A,_,c,rfl,ow.base_le (by omega),R,hg⟩
theorem rnum_bd (s:Nat) (r:Rs):0≤(rnum s r).1∧(rnum s r).1 < 256 ^ s:=by
  have hp:(0:Int) < 256 ^ s:=Int.pow_pos (by decide)
  unfold rnum
  split
  · exact ⟨by simp,hp⟩
  · split
    · exact ⟨by simp,hp⟩
    · have hv:=val_lt (r.1.take s)
      have hl:(r.1.take s).length=s:=by rw [List.length_take];omega
      rw [hl] at hv
      exact ⟨by simp,by simpa using (by exact_mod_cast hv:((val (r.1.take s):Nat):Int) < ((256 ^ s:Nat):Int))⟩
set_option maxRecDepth 100000 in
set_option maxHeartbeats 4000000 in
theorem rdpart_any (lo B g nodes:Nat) (hno:nodes≤256) (r:Rs) (w:World) (h:Rr w lo B g nodes r) :
    Calls Tryz.prog 46 #[.pointer (some ⟨g,0,none⟩)] w (fun e w'=>∃ A m c,e=.returned (.agg #[.int .u32 (rpart nodes r).1.1,.int .u32 (rpart nodes r).1.2.1,.slice A m c])∧OwS iv w' w.heap.size 3 A m c (rpart nodes r).1.2.2∧Rr w' lo B g nodes (rpart nodes r).2∧w.grownBy w' (some g)):=by
  have hgl:=h.lt
  have hf:=rnum_bd 4 r
  have ht:=rnum_bd 4 (rnum 4 r).2
  unfold rpart
  simp only [Int.toNat_natCast]
  obtain ⟨f,hF⟩:∃ f,rnum 4 r=f:=⟨_,rfl⟩
  have hc1:=fun w1 h1=>rdnum_any lo B g nodes r 4 4 rfl (by omega) w1 h1
  rw [hF] at hf ht hc1 ⊢
  obtain ⟨t,hT⟩:∃ t,rnum 4 f.2=t:=⟨_,rfl⟩
  have hc2:=fun w1 h1=>rdnum_any lo B g nodes f.2 4 4 rfl (by omega) w1 h1
  rw [hT] at ht hc2 ⊢
  have Hc1:=Lib.hid hc1
  have Hc2:=Lib.hid hc2
  have hf':0≤f.1∧f.1≤4294967295:=⟨hf.1,by have:=hf.2;simp at this;omega⟩
  have ht':0≤t.1∧t.1≤4294967295:=⟨ht.1,by have:=ht.2;simp at this;omega⟩
  clear hc1 hc2 hF hT hf ht
  have k0:=below_alloc w (Nat.le_refl _) (.cells #[.int .u32 0,.int .u32 0,.slice none 0 0] 102)
  have R0:=h.below k0
  have b0:Box (w.alloc (.cells #[.int .u32 0,.int .u32 0,.slice none 0 0] 102)) w.heap.size 102 Pt.zero.cs.toArray:=Box.new w _ _
  clear h
  go_enter Tryz.func46,Tryz.ntmps46
  go_wp2_with (first
    | (go_at_call 43;(with_reducible refine (Hc1.out _ R0).mono ?_);rintro e w1 ⟨rfl,R1,g1⟩)
    | (go_at_call 43;(with_reducible refine (Hc2.out _ R1).mono ?_);rintro e w2 ⟨rfl,R2,g2⟩;have n2:w2.cell? ⟨g,1,none⟩=some (.int .i64 nodes):=by obtain ⟨⟨Ar,nr,cr,bxr,hrr,hnr,hlr⟩,hge⟩:=R2;exact bxr.cell 1)
    | (go_at_call 49;refine (rdlist_any lo B g nodes _ nodes (by omega) _ R2).mono ?_;rintro e w3 ⟨A3,m3,c3,rfl,ow3,R3,g3⟩;have bx3:=((b0.grown g1 (fun e=>by injection e with e;omega)).grown g2 (fun e=>by injection e with e;omega)).grown g3 (fun e=>by injection e with e;omega))
    | ((with_reducible refine on_store_at (.tmp 2) ?_);refine wpt_store (r:=Pt.zero) (s:=⟨f.1,t.1,A3,m3,c3,[]⟩) rfl _ (.tmp 2) _ rfl st_part rfl rfl bx3 ?_;intro w4 bp4 hg4))
  have hs0:(w.alloc (.cells #[.int .u32 0,.int .u32 0,.slice none 0 0] 102)).heap.size=w.heap.size+1:=heap_size_alloc _ _
  have h1:=g1.size
  have h2:=g2.size
  refine bodyPost_ret (v:=.agg #[.int .u32 f.1,.int .u32 t.1,.slice A3 m3 c3]) ?_ rfl ⟨A3,m3,c3,rfl,?_,?_,?_⟩
  · exact results_cell_row rfl _ w4 w.heap.size 102 _ (0,0) _ rfl bp4.at_ Tryz.underlying102 rfl st_part.size
  · exact (ow3.grown hg4 (fun g' hA e=>by have:=ow3.ow.row_ge g' (by rw [hA];rfl);injection e with e;omega)).base_le (by omega)
  · exact R3.grown hg4 (fun j e=>by injection e with e;omega)
  · have G1:=grown_trans (grown_below (row:=some g) k0) g1
    exact grown_new (grown_trans (grown_trans G1 g2) g3) hg4 (fun j e=>by injection e with e;omega)
structure PO (w:World) (base:Nat) (A:Option Addr) (n c:Nat) (ps:List Pt):Prop where
  row:OwM Pt.cs 3 w base 102 A n c ps
  rk:∀ p∈ps,OwS iv w base 3 p.A p.n p.c p.rk
  ok:∀ p∈ps,p.Ok
theorem PO.nil (w:World) (base:Nat):PO w base none 0 0 []:=⟨OwM.nil_ _ _ _,by simp,by simp⟩
theorem PO.rd {w:World} {base n c:Nat} {A:Option Addr} {ps:List Pt} (h:PO w base A n c ps):PRd w w.heap.size A n c ps:=⟨h.row.rd,fun p hp=>(h.rk p hp).rd,h.ok⟩
theorem PO.base_le {w:World} {base base' n c:Nat} {A:Option Addr} {ps:List Pt} (h:PO w base A n c ps) (hb:base'≤base):PO w base' A n c ps:=⟨h.row.base_le hb,fun p hp=>(h.rk p hp).base_le hb,h.ok⟩
theorem PO.below {w w':World} {base n c:Nat} {A:Option Addr} {ps:List Pt} (h:PO w base A n c ps) (hb:Below w.heap.size w w'):PO w' base A n c ps:=⟨h.row.below hb,fun p hp=>(h.rk p hp).below hb,h.ok⟩
theorem PO.grown {w w':World} {base n c:Nat} {A:Option Addr} {ps:List Pt} {row:Option Nat} (h:PO w base A n c ps) (hg:w.grownBy w' row) (hr:∀ k,row=some k→k < base):PO w' base A n c ps :=
  ⟨h.row.grown hg (fun g' hA e=>by have:=h.row.ow.row_ge g' (by rw [hA];rfl);have:=hr g' e;omega),fun p hp=>(h.rk p hp).grown hg (fun g' hA e=>by have:=(h.rk p hp).ow.row_ge g' (by rw [hA];rfl);have:=hr g' e;omega),h.ok⟩
theorem rlist_all {α:Type} {one:Rs→α × Rs} {P:α→Prop} (h:∀ r,P (one r).1):∀ (n:Nat) (acc:List α) (r:Rs),(∀ x∈acc,P x)→∀ x∈(rlist one n acc r).1,P x
  | 0,acc,r,ha=>ha
  | n+1,acc,r,ha=>by
    rw [rlist]
    split
    · simp
    · refine rlist_all h n _ _ fun x hx=>?_
      rcases List.mem_append.1 hx with hx | hx
      · exact ha x hx
      · obtain rfl:=by simpa using hx
        exact h r
theorem rlist_len {α:Type} {one:Rs→α × Rs}:∀ (n:Nat) (acc:List α) (r:Rs),(rlist one n acc r).1.length≤acc.length+n
  | 0,acc,r=>by simp [rlist]
  | n+1,acc,r=>by
    rw [rlist]
    split
    · simp
    · have:=rlist_len (one:=one) n (acc ++ [(one r).1]) (one r).2
      simp at this
      omega
theorem rgrp_bd (r:Rs):0≤(rgrp r).1∧(rgrp r).1 < 268435456:=by
  unfold rgrp
  split
  · simp
  · split
    · simp
    · rcases gtake_what r.1 with h | h | ⟨n,k,h,hn,_⟩
      · rw [h.1];simp
      · rw [h];simp
      · rw [h];simp;omega
theorem rcnt_bd (most:Int) (hm:0≤most) (r:Rs):0≤(rcnt most r).1∧(rcnt most r).1≤most:=by
  have:=rgrp_bd r
  unfold rcnt
  split
  · exact ⟨by simp,hm⟩
  · exact ⟨this.1,by omega⟩
def PartsRel (lo B g nodes:Nat) (n:Nat) (r:Rs) (w:World) (all i:Value) (wr:World):Prop :=
  ∃ (k c:Nat) (A:Option Addr) (ps:List Pt) (rk:Rs),k≤n∧i=.int .i64 k∧all=.slice A k c∧OwM Pt.cs 3 wr (w.heap.size+1) 102 A k c ps∧(∀ p∈ps,OwS iv wr (w.heap.size+1) 3 p.A p.n p.c p.rk)∧(∀ p∈ps,p.Ok)∧Rr wr lo B g nodes rk∧w.grownBy wr (some g)∧w.heap.size+1≤wr.heap.size∧Box wr w.heap.size 99 #[.func (.func 46) #[] #[]]∧Hid (rlist (rpart nodes) n [] r=rlist (rpart nodes) (n - k) (ps.map pkey) rk)
theorem rpart_bd (nodes:Int) (r:Rs):(0≤(rpart nodes r).1.1∧(rpart nodes r).1.1≤4294967295)∧(0≤(rpart nodes r).1.2.1∧(rpart nodes r).1.2.1≤4294967295):=by
  have h1:=rnum_bd 4 r
  have h2:=rnum_bd 4 (rnum 4 r).2
  unfold rpart
  simp at h1 h2 ⊢
  omega
theorem ty_pi:102≠3:=by decide
set_option maxRecDepth 100000 in
set_option maxHeartbeats 4000000 in
theorem rdparts_any (lo B g nodes:Nat) (hno:nodes≤256) (r:Rs) (n:Nat) (hn:n≤1000000) (w:World) (h:Rr w lo B g nodes r) :
    Calls Tryz.prog 47 #[.agg #[.func (.func 46) #[] #[]],.pointer (some ⟨g,0,none⟩),.int .i64 n] w (fun e w'=>∃ A m c ps,e=.returned (.slice A m c)∧PO w' w.heap.size A m c ps∧Hid (ps.map pkey=(rlist (rpart nodes) n [] r).1)∧Rr w' lo B g nodes (rlist (rpart nodes) n [] r).2∧w.grownBy w' (some g)):=by
  obtain ⟨L,hL⟩:∃ L,rlist (rpart nodes) n [] r=L:=⟨_,rfl⟩
  rw [hL]
  have HL:=Lib.hid hL
  clear hL
  have hgl:=h.lt
  go_enter Tryz.func47,Tryz.ntmps47
  go_wp2_with fail
  go_loopw [7,10] (fun all i wr=>PartsRel lo B g nodes n r w all i wr) (fun _ i _=>n - (intOf i).toNat)
  case atStart =>
    have k0:=below_alloc w (Nat.le_refl _) (.cells #[.func (.func 46) #[] #[]] 99)
    exact ⟨0,0,none,[],r,by omega,rfl,rfl,OwM.nil_ _ _ _,by simp,by simp,h.below k0,grown_below k0,by simp,Box.new _ _ _,Lib.hid rfl⟩
  case round =>
    obtain ⟨k,c,A,ps,rk,hk,rfl,rfl,ow,orr,hok,R,hg,hsz,bl,hl⟩:=hrel
    have y0:wr.cell? ⟨w.heap.size,0,none⟩=some (.func (.func 46) #[] #[]):=bl.cell 0
    have Orr:=Lib.hid orr
    have Hok:=Lib.hid hok
    clear orr hok
    by_cases hlt:k < n
    · have hbd:=rpart_bd nodes rk
      obtain ⟨x,hx⟩:∃ x,rpart nodes rk=x:=⟨_,rfl⟩
      have hc:=rdpart_any lo B g nodes hno rk wr R
      rw [hx] at hc hbd
      have Hc:=Lib.hid hc
      have Hbd:=Lib.hid hbd
      clear hc hbd
      by_cases he:x.2.2=0
      · have hl2:=hl.out
        rw [show n - k=(n - (k+1))+1 by omega,rlist_go (by rw [hx];exact he),hx] at hl2
        have Hl2:=Lib.hid hl2
        clear hl2 hl hx
        have he2:(x.2.2 == 0)=true:=by simpa using he
        have He:=Lib.hid he
        clear he
        go_wp2_with (first
          | (go_at_call 46;refine (Hc.out).mono ?_;rintro e w1 ⟨A3,m3,c3,rfl,ow3,R1,g1⟩;obtain ⟨p,hp⟩:∃ p:Pt,p=⟨x.1.1,x.1.2.1,A3,m3,c3,x.1.2.2⟩:=⟨_,rfl⟩)
          | ((with_reducible refine on_alloc ?_);refine wl_newBox rfl _ rfl z_part ?_;intro g5 w5 hg5 hl5 bp5 hb5)
          | ((with_reducible refine on_store_at (.tmp 8) ?_);refine wpt_store (r:=Pt.zero) (s:=⟨x.1.1,x.1.2.1,A3,m3,c3,x.1.2.2⟩) rfl _ (.tmp 8) _ rfl st_part rfl rfl bp5 ?_;intro w6 bp6 hg6;have B6:Below w1.heap.size w1 w6:=hb5.trans (below_of_grown hg6 (fun j e=>by injection e with e;omega) hb5.size);have ow1:=((ow.grown g1 (fun g' hA e=>by have:=ow.ow.row_ge g' (by rw [hA];rfl);injection e with e;omega))).below B6;have R6:=R1.below B6;have z2:w6.cell? ⟨g,2,none⟩=some (.int .i64 0):=by obtain ⟨⟨Ar,nr,cr,bxr,hrr,hnr,hlr⟩,hge⟩:=R6;rw [He.out] at bxr;exact bxr.cell 2)
          | ((with_reducible refine on_load (.tmp 8) ?_);refine wpt_box rfl _ (.tmp 8) rfl st_part rfl bp6 ?_)
          | ((with_reducible refine on_append (.tmp 21) (.tmp 23) ?_);refine wm_append Pt.cs_length rfl (.tmp 21) (.tmp 23) _ rfl el_part Pt.one rfl (ow1.alloc _) rfl (OwM.lit' (base:=w6.heap.size) (e:=102) (xs:=[⟨x.1.1,x.1.2.1,A3,m3,c3,x.1.2.2⟩]) Pt.cs_length w6 _ 1 _ rfl (Nat.le_refl _) (by simp [maxLen]) rfl rfl).rd (by omega) (by omega) (by have:=B6.size;have:=g1.size;simp;omega) ?_;intro A8 c8 w8 ow8 hg8 hb8))
        go_roundw
        case rel =>
          have k7:=below_alloc w6 (Nat.le_refl _) (.cells #[.int .u32 x.1.1,.int .u32 x.1.2.1,.slice A3 m3 c3] 102)
          have hra:∀ j,rowOf A=some j→w.heap.size+1≤j:=fun j hj=>ow.ow.row_ge j hj
          have hs1:=g1.size
          have ow7:=ow1.below k7
          have rank:∀ q:Pt,OwS iv w1 (w.heap.size+1) 3 q.A q.n q.c q.rk→OwS iv w8 (w.heap.size+1) 3 q.A q.n q.c q.rk:=fun q hq=>by
            have h7:=(hq.below B6).below k7
            exact h7.grown hg8 (h7.ow.apart ow7.ow (fun e=>ty_pi e.symm))
          have hps:∀ q∈ps ++ [⟨x.1.1,x.1.2.1,A3,m3,c3,x.1.2.2⟩],OwS iv w8 (w.heap.size+1) 3 q.A q.n q.c q.rk:=fun q hq=>by
            rcases List.mem_append.1 hq with hq | hq
            · exact rank q ((Orr.out q hq).grown g1 (fun g' hA e=>by have:=(Orr.out q hq).ow.row_ge g' (by rw [hA];rfl);injection e with e;omega))
            · obtain rfl:q=⟨x.1.1,x.1.2.1,A3,m3,c3,x.1.2.2⟩:=by simpa using hq
              exact rank _ (ow3.base_le (by omega))
          have hok8:∀ q∈ps ++ [(⟨x.1.1,x.1.2.1,A3,m3,c3,x.1.2.2⟩:Pt)],q.Ok:=fun q hq=>by
            rcases List.mem_append.1 hq with hq | hq
            · exact Hok.out q hq
            · obtain rfl:q=⟨x.1.1,x.1.2.1,A3,m3,c3,x.1.2.2⟩:=by simpa using hq
              exact ⟨Hbd.out.1,Hbd.out.2⟩
          have R8:=(R6.below k7).grown hg8 (fun j e=>by have:=hra j e;omega)
          have bl8:=(((bl.grown g1 (fun e=>by injection e with e;omega)).step B6).step k7).grown hg8 (fun e=>by have:=hra _ e;omega)
          have G1:=grown_trans hg g1
          have G2:=grown_new (row2:=none) G1 (grown_below B6) (fun j e=>by cases e)
          have G3:=grown_new (row2:=none) G2 (grown_below k7) (fun j e=>by cases e)
          have G8:=grown_new G3 hg8 (fun j e=>by have:=hra j e;omega)
          exact ⟨k+1,c8,A8,_,x.2,by omega,by go_num,rfl,ow8,hps,hok8,R8,G8,by have:=hg8.size;have:=k7.size;have:=B6.size;omega,bl8,by rw [List.map_append];exact Hl2⟩
        case measure=>simp [intOf];omega
      · have hl2:=hl.out
        rw [show n - k=(n - (k+1))+1 by omega,rlist_stop (by rw [hx];exact he),hx,HL.out] at hl2
        have Hl2:=Lib.hid hl2
        clear hl2 hl hx
        have he2:(x.2.2 != 0)=true:=by simpa using he
        clear he
        go_wp2_with (first
          | (go_at_call 46;refine (Hc.out).mono ?_;rintro e w1 ⟨A3,m3,c3,rfl,ow3,R1,g1⟩)
          | ((with_reducible refine on_alloc ?_);refine wl_newBox rfl _ rfl z_part ?_;intro g5 w5 hg5 hl5 bp5 hb5)
          | ((with_reducible refine on_store_at (.tmp 8) ?_);refine wpt_store (r:=Pt.zero) (s:=⟨x.1.1,x.1.2.1,A3,m3,c3,x.1.2.2⟩) rfl _ (.tmp 8) _ rfl st_part rfl rfl bp5 ?_;intro w6 bp6 hg6;have B6:Below w1.heap.size w1 w6:=hb5.trans (below_of_grown hg6 (fun j e=>by injection e with e;omega) hb5.size);have R6:=R1.below B6;have z2:w6.cell? ⟨g,2,none⟩=some (.int .i64 x.2.2):=by obtain ⟨⟨Ar,nr,cr,bxr,hrr,hnr,hlr⟩,hge⟩:=R6;exact bxr.cell 2))
        go_ret
        rw [Hl2.out]
        exact ⟨none,0,0,[],rfl,PO.nil _ _,Lib.hid rfl,R6,grown_new (row2:=none) (grown_trans hg g1) (grown_below B6) (fun j e=>by cases e)⟩
    · obtain rfl:k=n:=by omega
      go_wp2
      go_ret
      have hl2:=hl.out
      rw [HL.out,Nat.sub_self] at hl2
      subst hl2
      exact ⟨A,_,c,ps,rfl,⟨ow.base_le (by omega),fun p hp=>(Orr.out p hp).base_le (by omega),Hok.out⟩,Lib.hid rfl,R,hg⟩
open Go.RowKit Go.Th
def ftk (bs:List UInt8):CR:=if (ftake 1129468977 bs).2≠0 then ⟨0,[],0,[],0,(ftake 1129468977 bs).2⟩ else ctake (ftake 1129468977 bs).1
def RetCf (t:CR) (w:World) (e:Ending) (w':World):Prop :=
  ∃ Ap np cp At nt ct ps,e=.returned (.tuple #[.agg #[.int .i64 t.v,.slice Ap np cp,.int .u32 t.d,.slice At nt ct],.int .i64 t.nodes,.int .i64 t.e])∧PRd w' w'.heap.size Ap np cp ps∧ps.map pkey=t.ks∧RdS iv w' w'.heap.size At nt ct t.tr∧Below w.heap.size w w'
theorem Rr.setNodes {w:World} {lo B g:Nat} {nodes N:Int} {r:Rs} (h:Rr w lo B g nodes r):Rr (w.setCell ⟨g,1,none⟩ (.int .i64 N)) lo B g N r∧w.grownBy (w.setCell ⟨g,1,none⟩ (.int .i64 N)) (some g)∧w.frozen? ⟨g,1,none⟩=false∧w.cell? ⟨g,1,none⟩=some (.int .i64 nodes):=by
  obtain ⟨⟨A,n,c,hbx,hr,hn,hlo⟩,hge⟩:=h
  have bS:=hbx.setCell 1 (.int .i64 N)
  exact ⟨⟨⟨A,n,c,bS.1,hr.grown bS.2 (fun k e=>by injection e with e;omega),hn,hlo⟩,hge⟩,bS.2,hbx.frozen 1,hbx.cell 1⟩
theorem Rr.setErr {w:World} {lo B g:Nat} {nodes E:Int} {r:Rs} (h:Rr w lo B g nodes r):Rr (w.setCell ⟨g,2,none⟩ (.int .i64 E)) lo B g nodes (r.1,E)∧w.grownBy (w.setCell ⟨g,2,none⟩ (.int .i64 E)) (some g):=by
  obtain ⟨⟨A,n,c,hbx,hr,hn,hlo⟩,hge⟩:=h
  have bS:=hbx.setCell 2 (.int .i64 E)
  exact ⟨⟨⟨A,n,c,bS.1,hr.grown bS.2 (fun k e=>by injection e with e;omega),hn,hlo⟩,hge⟩,bS.2⟩
theorem results_cell2 {P:Program} {fn:Func} {p u x:Tmp} {ty:TypeId} (h:fn.results = #[.cell p ty,.tmp u,.tmp x]) (tmps:Array Value) (w:World) (g:Nat) (t:TypeId) (cs:Array Value) (fr:Nat × Nat) (d:TypeDesc)
    (hp:tmps.getD p undef=.pointer (some ⟨g,0,none⟩)) (hg:w.heap[g]? = some (.cells cs t fr)) {U X:Value} (hu2:tmps.getD u undef=U) (hx2:tmps.getD x undef=X)
    (hu:P.underlying ty=some d) (hd:(match d with | .struct _ | .array _ _=>true | _=>false)=true) (hi:(P.info? ty).map (·.size)=some cs.size) :
    (results fn tmps).run P w=.ok (.tuple #[.agg cs,U,X]) w:=by
  have hp':tmps[p]?.getD undef=.pointer (some ⟨g,0,none⟩):=by simpa using hp
  have hu':tmps[u]?.getD undef=U:=by simpa using hu2
  have hx':tmps[x]?.getD undef=X:=by simpa using hx2
  simp [results,h,hp',hu',hx',asAddr,run_loadVar_row w g t ty cs fr d hg hu hd hi]
theorem retCf_err {er:Int} {w w':World} (hb:Below w.heap.size w w'):RetCf ⟨0,[],0,[],0,er⟩ w (.returned (.tuple #[.agg #[.int .i64 0,.slice none 0 0,.int .u32 0,.slice none 0 0],.int .i64 0,.int .i64 er])) w' :=
  ⟨none,0,0,none,0,0,[],rfl,⟨(OwM.nil_ _ _ _:OwM Pt.cs 3 w' w'.heap.size 102 none 0 0 []).rd,by simp,by simp⟩,rfl,RdS.nil _ _,hb⟩
theorem wqcv_box {ops:Array Oper} {rest:List Oper} {o:Oper} {a:Act} {C:World→Prop} {Q:Act→Prop} (hw:Region.wanted o (yielded ops a.tmps)=true) (x:Operand) (ho:o.op=.load 40 x) {g:Nat} {t:TypeId} {v:Int} {Ap:Option Addr} {np cp:Nat} {d:Int} {At:Option Addr} {nt ct:Nat} (hx:a.eval x=.pointer (some ⟨g,0,none⟩)) (hb:∀ w,C w→Box w g t (Cv v Ap np cp d At nt ct))
    (h:wpQuiet Tryz.prog ops C Q rest (a.put o.dst (.agg #[.int .i64 v,.slice Ap np cp,.int .u32 d,.slice At nt ct]))):wpQuiet Tryz.prog ops C Q (o :: rest) a:=by
  obtain ⟨fs,hu⟩:=st_cert.under
  refine wq_run hw (fun w hC=>?_) h
  simp only [execOp,ho,hx,Instr.loadAt,Instr.sureAddr,Sem.run_bind,Sem.run_pure,Result.andThen_ok,run_loadVar_row w g t 40 _ (0,0) _ (hb w hC).at_ hu rfl st_cert.size]
  rfl
theorem wqcv_cells {ops:Array Oper} {rest:List Oper} {o:Oper} {a:Act} {C:World→Prop} {Q:Act→Prop} (hw:Region.wanted o (yielded ops a.tmps)=true) (x:Operand) (ho:o.op=.load 40 x) {g:Nat} {v:Int} {Ap:Option Addr} {np cp:Nat} {d:Int} {At:Option Addr} {nt ct:Nat} (hx:a.eval x=.pointer (some ⟨g,0,none⟩)) (hb:∀ w,C w→∀ i u,[Value.int .i64 v,.slice Ap np cp,.int .u32 d,.slice At nt ct][i]? = some u→w.cell? ⟨g,0+i,none⟩=some u)
    (h:wpQuiet Tryz.prog ops C Q rest (a.put o.dst (.agg #[.int .i64 v,.slice Ap np cp,.int .u32 d,.slice At nt ct]))):wpQuiet Tryz.prog ops C Q (o :: rest) a :=
  wq_run hw (fun w hC=>by simp only [execOp,ho,hx,Instr.loadAt,Instr.sureAddr,Sem.run_bind,Sem.run_pure,Result.andThen_ok,run_loadVar_at st_cert (cs:=[Value.int .i64 v,.slice Ap np cp,.int .u32 d,.slice At nt ct]) rfl (hb w hC)]) h
def TkMid (t:CR) (w:World) (g N:Nat) (v:Int) (wx:World):Prop :=
  ∃ Ap np cp d At nt ct ps tr rr,Rr wx (w.heap.size+1) g g N rr∧Box wx w.heap.size 40 (Cv v Ap np cp d At nt ct)∧PO wx (g+1) Ap np cp ps∧OwS iv wx (g+1) 3 At nt ct tr∧Hid (cend v (ps.map pkey) d tr N rr=t)∧np≤1000000∧nt≤1000000∧(∀ x∈tr,0≤x∧x < 268435456)∧(∀ p∈ps,p.n≤256)∧Below w.heap.size w wx
set_option maxRecDepth 100000 in
set_option maxHeartbeats 4000000 in
theorem cftake_any (A:Option Addr) (n c:Nat) (w:World) (hn:n≤1000000) (bs:List UInt8) (hr:RdS bv w w.heap.size A n c bs) (t:CR) (ht:Hid (ftk bs=t)) :
    Calls Tryz.prog 12 #[.slice A n c] w (RetCf t w):=by
  obtain ⟨fr,hfr⟩:∃ fr,ftake 1129468977 bs=fr:=⟨_,rfl⟩
  have htk:=ht.out
  unfold ftk at htk
  rw [hfr] at htk
  have Hfr:=Lib.hid hfr
  clear hfr ht
  have k0:=below_alloc w (Nat.le_refl _) (.cells (Cv 0 none 0 0 0 none 0 0) 40)
  have b0:Box (w.alloc (.cells (Cv 0 none 0 0 0 none 0 0) 40)) w.heap.size 40 (Cv 0 none 0 0 0 none 0 0):=Box.new w _ _
  have hr0:=(hr.step k0).heap
  have Htk:=Lib.hid htk
  clear htk
  go_enter Tryz.func12,Tryz.ntmps12
  go_upto_region 2 with (go_at_call 40;refine (cfm_ftake_any 1129468977 (by omega) 1129468977 rfl A n c _ hn bs hr0).mono ?_;rintro e w1 ⟨A1,n1,c1,rfl,ow1,hb1⟩)
  have b1:=b0.step hb1
  have k1:=k0.trans (hb1.mono k0.size)
  have hs1:w.heap.size+1≤w1.heap.size:=b1.lt
  clear b0 k0 hr0
  rw [Hfr.out] at ow1 ⊢
  by_cases he:fr.2≠0
  · have htk:=Htk.out
    rw [if_pos he] at htk
    subst htk
    have hb:(fr.2 != 0)=true:=by simpa using he
    go_wp2_with ((with_reducible refine on_store_at (.tmp 2) ?_);refine wb_store (cs:=Cv 0 none 0 0 0 none 0 0) (cs':=Cv 0 none 0 0 0 none 0 0) rfl _ (.tmp 2) _ rfl st_cert rfl rfl b1 rfl rfl (by simp [Cv,Value.oneCell']) ?_;intro w4 bx4 hg4)
    refine bodyPost_ret (results_cell2 rfl _ w4 w.heap.size 40 _ (0,0) _ rfl bx4.at_ rfl rfl Tryz.underlying40 rfl st_cert.size) rfl ?_
    exact retCf_err (k1.trans (below_of_grown hg4 (fun j e=>by injection e with e;omega) k1.size))
  · have htk:=Htk.out
    rw [if_neg he] at htk
    have he0:fr.2=0:=by simpa using he
    have hb:(fr.2 != 0)=false:=by simp [he0]
    have Htk2:=Lib.hid htk
    clear htk Htk he
    have lo1:∀ k,rowOf A1=some k→w.heap.size+1≤k:=fun k hk=>by have:=ow1.ow.row_ge k hk;simpa using this
    have hn1:n1≤1000000:=by
      have h1:ftake 1129468977 bs=(fr.1,0):=by rw [Hfr.out,← he0]
      have h2:=congrArg List.length (fput_ftake h1)
      rw [fput_length] at h2
      have:=ow1.len
      have:=hr.len
      omega
    clear hr
    go_upto_region 5 with fail
    have R3:Rr (w1.alloc (.cells #[.slice A1 n1 c1,.int .i64 0,.int .i64 0] 93)) (w.heap.size+1) w1.heap.size w1.heap.size 0 (fr.1,0):=⟨⟨A1,n1,c1,Box.new _ _ _,ow1.rd.alloc _,hn1,lo1⟩,Nat.le_refl _⟩
    have k3:=k1.trans ((below_alloc w1 (Nat.le_refl _) (.cells #[.slice A1 n1 c1,.int .i64 0,.int .i64 0] 93)).mono k1.size)
    have b3:=b1.alloc (.cells #[.slice A1 n1 c1,.int .i64 0,.int .i64 0] 93)
    obtain ⟨w3,hw3⟩:∃ W,w1.alloc (.cells #[.slice A1 n1 c1,.int .i64 0,.int .i64 0] 93)=W:=⟨_,rfl⟩
    rw [hw3] at R3 k3 b3 ⊢
    clear hw3 ow1 b1 hb1
    obtain ⟨bi,hbi⟩:∃ bi,fr.1=bi:=⟨_,rfl⟩
    rw [hbi] at R3 Htk2
    clear hbi lo1 hn1
    have hgg:w.heap.size < w1.heap.size:=by omega
    have hunf:=Htk2.out
    unfold ctake at hunf
    obtain ⟨nv,hnv⟩:∃ nv,rnum 1 (bi,0)=nv:=⟨_,rfl⟩
    obtain ⟨ra,hra⟩:∃ ra,cact bi=ra:=⟨_,rfl⟩
    have hra2:=hra
    unfold cact at hra2
    rw [hnv] at hra2 hunf
    rw [hra] at hunf
    have hcn:=rdnum_any (w.heap.size+1) w1.heap.size w1.heap.size 0 (bi,0) 1 1 rfl (by omega) w3 R3
    rw [hnv] at hcn
    have Hcn:=Lib.hid hcn
    have Hra:=Lib.hid hra2
    have Hun:=Lib.hid hunf
    clear hcn hra hra2 hnv hunf R3 Htk2
    go_upto_region 6 with (go_at_call 43;refine (Hcn.out).mono ?_;rintro e w4 ⟨rfl,R4,g4⟩;have b4:=b3.grown g4 (fun e=>by injection e with e;omega);have y0:w4.cell? ⟨w.heap.size,0,none⟩=some (.int .i64 0):=b4.cell 0;have f0:=b4.frozen 0;have bS4:=b4.setCell 0 (.int .i64 nv.1))
    have k4:Below w.heap.size w w4:=(k3.trans (below_of_grown g4 (B:=w.heap.size) (fun j e=>by injection e with e;omega) k3.size))
    have R5:=R4.grown bS4.2 (fun j e=>.inr (by injection e with e;omega))
    have k5:=k4.trans (below_of_grown bS4.2 (B:=w.heap.size) (fun j e=>by injection e with e;omega) k4.size)
    have b5:Box (w4.setCell ⟨w.heap.size,0,none⟩ (.int .i64 nv.1)) w.heap.size 40 (Cv nv.1 none 0 0 0 none 0 0):=bS4.1
    obtain ⟨w5,hw5⟩:∃ W,w4.setCell ⟨w.heap.size,0,none⟩ (.int .i64 nv.1)=W:=⟨_,rfl⟩
    rw [hw5] at R5 k5 b5 ⊢
    clear hw5 bS4 f0 y0 k4 b4 R4 g4 Hcn b3 k3
    have c5:w5.cell? ⟨w.heap.size,0,none⟩=some (.int .i64 nv.1):=b5.cell 0
    have hv3:((nv.1 != 1)=false∧nv.1=1)∨((nv.1 != 1)=true∧(nv.1 != 2)=false∧nv.1=2)∨((nv.1 != 1)=true∧(nv.1 != 2)=true):=by
      by_cases h1:nv.1=1
      · exact .inl ⟨by simp [h1],h1⟩
      · by_cases h2:nv.1=2
        · exact .inr (.inl ⟨by simp [h2],by simp [h2],h2⟩)
        · exact .inr (.inr ⟨by simpa using h1,by simpa using h2⟩)
    have Hv3:=Lib.hid hv3
    clear hv3
    go_cut [31] (fun s31 wx=>wx=w5∧∃ bad:Bool,s31=.bool bad∧Hid (bad=true↔(nv.1≠1∧nv.1≠2)))
    case first =>
      rcases Hv3.out with ⟨v1,v2⟩ | ⟨v1,v2,v3⟩ | ⟨v1,v2⟩
      · have hx:=Lib.hid v2
        clear v2
        go_wp2
        go_meet
        case rel=>exact ⟨rfl,false,rfl,Lib.hid (by have:=hx.out;simp;omega)⟩
      · have hx:=Lib.hid v3
        clear v3
        go_wp2
        go_meet
        case rel=>exact ⟨rfl,false,rfl,Lib.hid (by have:=hx.out;simp;omega)⟩
      · have hx:Hid (nv.1≠1∧nv.1≠2):=Lib.hid ⟨by simpa using v1,by simpa using v2⟩
        go_wp2
        go_meet
        case rel=>exact ⟨rfl,true,rfl,Lib.hid (by simpa using hx.out)⟩
    case rest =>
      obtain ⟨rfl,bad,rfl,Hbad⟩:=hcut
      go_upto_if 31 with fail
      go_cut [31] (fun s31 wx=>Rr wx (w.heap.size+1) w1.heap.size w1.heap.size 0 ra∧Box wx w.heap.size 40 (Cv nv.1 none 0 0 0 none 0 0)∧Below w.heap.size w wx)
      case first =>
        cases bad with
        | true =>
          have hra3:=Hra.out
          rw [if_pos (Hbad.out.1 rfl)] at hra3
          have Hr3:=Lib.hid hra3
          clear hra3
          go_wp2_with (go_at_call 44;refine (rdfail_any _ _ _ _ _ 9 _ R5).mono ?_;rintro e w6 ⟨rfl,R6,g6⟩)
          go_meet
          case rel =>
            rw [Hr3.out] at R6
            exact ⟨R6,b5.grown g6 (fun e=>by injection e with e;omega),k5.trans (below_of_grown g6 (B:=w.heap.size) (fun j e=>by injection e with e;omega) k5.size)⟩
        | false =>
          have hra3:=Hra.out
          rw [if_neg (fun h=>by have:=Hbad.out.2 h;cases this)] at hra3
          have Hr3:=Lib.hid hra3
          clear hra3
          go_wp2
          go_meet
          case rel =>
            rw [Hr3.out] at R5
            exact ⟨R5,b5,k5⟩
      case rest =>
        obtain ⟨R6,b6,k6⟩:=hcut
        clear c5 b5 k5 R5 Hbad Hra
        have hcn:=rdcnt_any (w.heap.size+1) w1.heap.size w1.heap.size 0 ra 256 wc R6
        have hbd:=rcnt_bd 256 (by omega) ra
        obtain ⟨nd,hnd⟩:∃ nd,rcnt 256 ra=nd:=⟨_,rfl⟩
        have hun:=Hun.out
        rw [hnd] at hcn hbd hun
        obtain ⟨n2,r2⟩:=nd
        simp only at hbd hun hcn
        obtain ⟨N,rfl⟩:=Int.eq_ofNat_of_zero_le hbd.1
        have hN:N≤256:=by omega
        have Hcn:=Lib.hid hcn
        have Hun2:=Lib.hid hun
        clear hcn hun hnd Hun hbd
        go_upto_region 9 with (go_at_call 45;refine (Hcn.out).mono ?_;rintro e w7 ⟨rfl,R7,g7⟩;have b7:=b6.grown g7 (fun e=>by injection e with e;omega);obtain ⟨R8,g8,f8,d8⟩:=R7.setNodes (N:=(N:Int)))
        have b8:=b7.grown g8 (fun e=>by injection e with e;omega)
        have k8:=(k6.trans (below_of_grown g7 (B:=w.heap.size) (fun j e=>by injection e with e;omega) k6.size))
        have k8:=k8.trans (below_of_grown g8 (B:=w.heap.size) (fun j e=>by injection e with e;omega) k8.size)
        obtain ⟨w8,hw8⟩:∃ W,w7.setCell ⟨w1.heap.size,1,none⟩ (.int .i64 (N:Int))=W:=⟨_,rfl⟩
        rw [hw8] at R8 k8 b8 ⊢
        clear hw8 g8 f8 d8 R7 g7 Hcn b7 b6 k6 R6
        have c8:w8.cell? ⟨w.heap.size,0,none⟩=some (.int .i64 nv.1):=b8.cell 0
        have hv2:((nv.1 == 1)=true∧nv.1=1)∨((nv.1 == 1)=false∧nv.1≠1):=by
          by_cases h1:nv.1=1
          · exact .inl ⟨by simp [h1],h1⟩
          · exact .inr ⟨by simpa using h1,h1⟩
        have Hv2:=Lib.hid hv2
        clear hv2
        go_upto_if 41 with fail
        go_cut [41] (fun s41 wx=>TkMid t w w1.heap.size N nv.1 wx)
        case first =>
          rcases Hv2.out with ⟨v1,v2⟩ | ⟨v1,v2⟩
          · have h1:w8.cell? ⟨w.heap.size,1,none⟩=some (.slice none 0 0):=b8.cell 1
            have hun:=Hun2.out
            rw [if_pos v2] at hun
            unfold cfreeT at hun
            have hcn:=rdcnt_any (w.heap.size+1) w1.heap.size w1.heap.size N r2 8193 w8 R8
            have hbd:=rcnt_bd 8193 (by omega) r2
            obtain ⟨nd,hnd⟩:∃ nd,rcnt 8193 r2=nd:=⟨_,rfl⟩
            rw [hnd] at hun hcn hbd
            obtain ⟨n3,r3⟩:=nd
            simp only at hun hcn hbd
            obtain ⟨M,rfl⟩:=Int.eq_ofNat_of_zero_le hbd.1
            rw [Int.toNat_natCast] at hun
            have hM:M≤8193:=by omega
            have Hcn:=Lib.hid hcn
            have Hun3:=Lib.hid hun
            have Hv:=Lib.hid v2
            clear hcn hun hnd hbd v2
            go_wp2_with (first
              | (go_at_call 45;refine (Hcn.out).mono ?_;rintro e w9 ⟨rfl,R9,g9⟩)
              | (go_at_call 47;refine (rdparts_any (w.heap.size+1) w1.heap.size w1.heap.size N hN r3 M (by omega) _ R9).mono ?_;rintro e w10 ⟨Ap,np,cp,ps,rfl,po,Hks,R10,g10⟩;have b10:=(b8.grown g9 (fun e=>by injection e with e;omega)).grown g10 (fun e=>by injection e with e;omega);have y10:w10.cell? ⟨w.heap.size,1,none⟩=some (.slice none 0 0):=b10.cell 1;have f10:=b10.frozen 1;have bS:=b10.setCell 1 (.slice Ap np cp)))
            go_meet
            case rel =>
              have hs8:=k8.size
              have hs9:=g9.size
              have hs10:=g10.size
              have hl9:=R9.lt
              have k9:=k8.trans (below_of_grown g9 (B:=w.heap.size) (fun j e=>by injection e with e;omega) k8.size)
              have k10:=k9.trans (below_of_grown g10 (B:=w.heap.size) (fun j e=>by injection e with e;omega) k9.size)
              have k11:=k10.trans (below_of_grown bS.2 (B:=w.heap.size) (fun j e=>by injection e with e;omega) k10.size)
              have hlen:=po.row.len
              have hl2:=rlist_len (one:=rpart N) M [] r3
              have hk:=congrArg List.length Hks.out
              refine ⟨Ap,np,cp,0,none,0,0,ps,[],_,R10.grown bS.2 (fun j e=>.inr (by injection e with e;omega)),bS.1,(po.grown bS.2 (fun j e=>by injection e with e;omega)).base_le (by omega),OwS.nil_ _ _ _,by rw [Hks.out,Hv.out];exact Hun3,?_,by omega,by simp,?_,k11⟩
              · simp at hk hl2;omega
              · intro p hp
                have h2:=rlist_all (one:=rpart N) (P:=fun k:PK=>k.2.2.length≤256) (fun r=>by
                  have:=rlist_len (one:=rgrp) (N:Int).toNat [] (rnum 4 (rnum 4 r).2).2
                  simp at this
                  exact Nat.le_trans this hN) M [] r3 (by simp) (pkey p) (by rw [← Hks.out];exact List.mem_map.2 ⟨p,hp,rfl⟩)
                have h3:=(po.rk p hp).len
                have h4:p.rk.length≤256:=h2
                omega
          · have h2:w8.cell? ⟨w.heap.size,2,none⟩=some (.int .u32 0):=b8.cell 2
            have hun:=Hun2.out
            rw [if_neg v2] at hun
            unfold cloopT at hun
            have hcd:=rdnum_any (w.heap.size+1) w1.heap.size w1.heap.size N r2 4 4 rfl (by omega) w8 R8
            have hbd:=rnum_bd 4 r2
            obtain ⟨nd,hnd⟩:∃ nd,rnum 4 r2=nd:=⟨_,rfl⟩
            rw [hnd] at hun hcd hbd
            obtain ⟨dd,r3⟩:=nd
            simp only at hun hcd hbd
            have hdd:0≤dd∧dd≤4294967295:=⟨hbd.1,by have:=hbd.2;simp at this;omega⟩
            have hcn:=fun w9 h9=>rdcnt_any (w.heap.size+1) w1.heap.size w1.heap.size N r3 256 w9 h9
            have hbd2:=rcnt_bd 256 (by omega) r3
            obtain ⟨nd2,hnd2⟩:∃ nd,rcnt 256 r3=nd:=⟨_,rfl⟩
            rw [hnd2] at hun hcn hbd2
            obtain ⟨n4,r4⟩:=nd2
            simp only at hun hcn hbd2
            obtain ⟨M,rfl⟩:=Int.eq_ofNat_of_zero_le hbd2.1
            rw [Int.toNat_natCast] at hun
            have hM:M≤256:=by omega
            have Hcd:=Lib.hid hcd
            have Hcn:=Lib.hid hcn
            have Hun3:=Lib.hid hun
            clear hcn hun hnd hbd v2 hcd hnd2 hbd2
            go_wp2_with (first
              | (go_at_call 43;refine (Hcd.out).mono ?_;rintro e w9 ⟨rfl,R9,g9⟩;have b9:=b8.grown g9 (fun e=>by injection e with e;omega);have y9:w9.cell? ⟨w.heap.size,2,none⟩=some (.int .u32 0):=b9.cell 2;have f9:=b9.frozen 2;have bS9:=b9.setCell 2 (.int .u32 dd);have R9':=R9.grown bS9.2 (fun j e=>.inr (by injection e with e;omega)))
              | (go_at_call 45;refine (Hcn.out _ R9').mono ?_;rintro e w10 ⟨rfl,R10,g10⟩;have b10:=bS9.1.grown g10 (fun e=>by injection e with e;omega))
              | (go_at_call 49;refine (rdlist_any (w.heap.size+1) w1.heap.size w1.heap.size N r4 M (by omega) _ R10).mono ?_;rintro e w11 ⟨At,nt,ct,rfl,ot,R11,g11⟩;have b11:=b10.grown g11 (fun e=>by injection e with e;omega);have y11:w11.cell? ⟨w.heap.size,3,none⟩=some (.slice none 0 0):=b11.cell 3;have f11:=b11.frozen 3;have bS:=b11.setCell 3 (.slice At nt ct)))
            go_meet
            case rel =>
              have hl10:=R10.lt
              have k9:=k8.trans (below_of_grown g9 (B:=w.heap.size) (fun j e=>by injection e with e;omega) k8.size)
              have k9:=k9.trans (below_of_grown bS9.2 (B:=w.heap.size) (fun j e=>by injection e with e;omega) k9.size)
              have k10:=k9.trans (below_of_grown g10 (B:=w.heap.size) (fun j e=>by injection e with e;omega) k9.size)
              have k11:=k10.trans (below_of_grown g11 (B:=w.heap.size) (fun j e=>by injection e with e;omega) k10.size)
              have k12:=k11.trans (below_of_grown bS.2 (B:=w.heap.size) (fun j e=>by injection e with e;omega) k11.size)
              have hlen:=ot.len
              have hl2:=rlist_len (one:=rgrp) M [] r4
              refine ⟨none,0,0,dd,At,nt,ct,[],_,_,R11.grown bS.2 (fun j e=>.inr (by injection e with e;omega)),bS.1,PO.nil _ _,(ot.grown bS.2 (fun g' hA e=>by have:=ot.ow.row_ge g' (by rw [hA];rfl);injection e with e;omega)).base_le (by omega),Hun3,by omega,?_,rlist_all rgrp_bd M [] r4 (by simp),by simp,k12⟩
              simp at hl2
              omega
        case rest =>
          obtain ⟨Ap,np,cp,d,At,nt,ct,ps,tr,rr,R,bx,po,ot,Hend,hnp,hnt,htr,hsm,k⟩:=hcut
          clear c8 b8 k8 R8 Hun2 Hv2
          have z0:∃ Ar nr cr,wc.cell? ⟨w1.heap.size,0,none⟩=some (.slice Ar nr cr)∧nr=rr.1.length:=by
            obtain ⟨⟨Ar,nr,cr,bxr,hrr,hnr,hlr⟩,hge⟩:=R
            exact ⟨Ar,nr,cr,bxr.cell 0,hrr.len.symm⟩
          obtain ⟨Ar,nr,cr,z0,hnr⟩:=z0
          have hmr:(0 < nr∧rr.1≠[])∨(nr=0∧rr.1=[]):=by
            cases hrr:rr.1 with
            | nil=>exact .inr ⟨by rw [hnr,hrr];rfl,rfl⟩
            | cons a l=>exact .inl ⟨by rw [hnr,hrr];simp,by simp⟩
          have Hmr:=Lib.hid hmr
          clear hmr hnr
          go_upto_if 65 with fail
          go_cut [65] (fun s65 wx=>Rr wx (w.heap.size+1) w1.heap.size w1.heap.size N (rmore rr)∧Box wx w.heap.size 40 (Cv nv.1 Ap np cp d At nt ct)∧PO wx (w1.heap.size+1) Ap np cp ps∧OwS iv wx (w1.heap.size+1) 3 At nt ct tr∧Below w.heap.size w wx)
          case first =>
            rcases Hmr.out with ⟨m1,m2⟩ | ⟨rfl,m2⟩
            · have er:rmore rr=rfail 4 rr:=if_pos m2
              have Er:=Lib.hid er
              clear er m2
              go_wp2_with (go_at_call 44;refine (rdfail_any _ _ _ _ _ 4 _ R).mono ?_;rintro e w9 ⟨rfl,R9,g9⟩)
              go_meet
              case rel =>
                rw [Er.out]
                exact ⟨R9,bx.grown g9 (fun e=>by injection e with e;omega),po.grown g9 (fun j e=>by injection e with e;omega),ot.grown g9 (fun g' hA e=>by have:=ot.ow.row_ge g' (by rw [hA];rfl);injection e with e;omega),k.trans (below_of_grown g9 (B:=w.heap.size) (fun j e=>by injection e with e;omega) k.size)⟩
            · have er:rmore rr=rr:=if_neg (fun h=>h m2)
              have Er:=Lib.hid er
              clear er m2
              go_wp2
              go_meet
              case rel =>
                rw [Er.out]
                exact ⟨R,bx,po,ot,k⟩
          case rest =>
            clear z0 Hmr R bx po ot k
            obtain ⟨R,bx,po,ot,k⟩:=hcut
            obtain ⟨rm,hrm⟩:∃ rm,rmore rr=rm:=⟨_,rfl⟩
            obtain ⟨V,hV⟩:∃ V,cmay nv.1 ps d tr N=V:=⟨_,rfl⟩
            have hen:=Hend.out
            unfold cend at hen
            rw [hrm,cmayK_of,hV] at hen
            rw [hrm] at R
            obtain ⟨E,hE⟩:∃ E,(if rm.2=0 then V else rm.2)=E:=⟨_,rfl⟩
            rw [hE] at hen
            have HV:=Lib.hid hV
            have HE:=Lib.hid hE
            have Hen:=Lib.hid hen
            clear hV hE hen hrm Hend
            have z2:wc.cell? ⟨w1.heap.size,2,none⟩=some (.int .i64 rm.2):=by
              obtain ⟨⟨Ar,nr,cr,bxr,hrr,hnr,hlr⟩,hge⟩:=R
              exact bxr.cell 2
            have hmr:((rm.2 == 0)=true∧rm.2=0)∨((rm.2 == 0)=false∧rm.2≠0):=by
              by_cases h:rm.2=0
              · exact .inl ⟨by simp [h],h⟩
              · exact .inr ⟨by simpa using h,h⟩
            have Hmr:=Lib.hid hmr
            clear hmr
            go_upto_if 72 with fail
            go_cut [72] (fun s72 wx=>Rr wx (w.heap.size+1) w1.heap.size w1.heap.size N (rm.1,E)∧Box wx w.heap.size 40 (Cv nv.1 Ap np cp d At nt ct)∧PO wx (w1.heap.size+1) Ap np cp ps∧OwS iv wx (w1.heap.size+1) 3 At nt ct tr∧Below w.heap.size w wx)
            case first =>
              rcases Hmr.out with ⟨m1,m2⟩ | ⟨m1,m2⟩
              · have hE2:=HE.out
                rw [if_pos m2] at hE2
                subst hE2
                clear m2
                have gl:=R.lt
                have bl:=bx.lt
                have qb:∀ w',Th.Reach wc.heap.size wc.drew w'→Box w' w.heap.size 40 (Cv nv.1 Ap np cp d At nt ct):=fun w' h=>bx.drew.step h.below
                have R':Rr wc.drew (w.heap.size+1) w1.heap.size w1.heap.size N rm:=R.below (bdrew1 wc)
                have q1:∀ q:Step wc.heap.size wc.drew,q.w.cell? ⟨w1.heap.size,1,none⟩=some (.int .i64 N):=fun q=>by
                  obtain ⟨⟨Ar,nr,cr,bxr,hrr,hnr,hlr⟩,hge⟩:=R'
                  exact (bxr.step q.h).cell 1
                have po':=po.below (bdrew1 wc)
                have ot':=ot.below (bdrew1 wc)
                have hmay:=cmay_is nv.1 Ap np cp d At nt ct N wc.drew (by omega) (by omega) ps tr wc.drew.heap.size (Nat.le_refl _) po'.rd ot'.rd (fun x hx=>by have:=htr x hx;omega) (fun p hp=>by have:=hsm p hp;omega) _ HV.out
                have Hmay:=Lib.hid hmay
                clear hmay
                go_upto_region 18 with fail
                refine wp_region_treeL 9 (.float 0 3 (.one 3 (.float 4 2 (.one 6 (.one 7 (.float 8 1 (.one 9 .done))))))) (Th.Reach (wc.heap.size)) (Th.Reach.trans _) (Th.Reach.refl _) (by kernel_rfl) (by kernel_rfl) (by kernel_rfl) (fun KT hKT=>?_)
                repeat' first
                  | ((with_reducible refine wpTreeL_done ?_);refine hKT _ _ ?_;clear hKT KT)
                  | (with_reducible refine wpTreeL_two ?_ ?_)
                  | ((with_reducible refine wpTreeL_float (fun KF hKF=>?_));(simp only [List.drop,List.take]);(repeat (first | go_big_quiet_skip | ((with_reducible refine onq_load (.tmp 2) ?_);refine wqcv_box rfl (.tmp 2) rfl rfl qb ?_) | go_big_quiet_step (fail) | quiet_step (fail)));refine wpQuiet_nil ?_;refine hKF _ ?_;clear hKF KF)
                  | ((with_reducible refine wpTreeL_one (fun KO hKO=>?_));(simp only [List.drop,List.take]);(go_wp2_with (first | (go_at_call 50;refine (Hmay.out).mono ?_;rintro e w9 ⟨rfl,hb9⟩;have R9:=R'.below hb9;have y9:w9.cell? ⟨w1.heap.size,2,none⟩=some (.int .i64 rm.2):=(by obtain ⟨⟨Ar,nr,cr,bxr,hrr,hnr,hlr⟩,hge⟩:=R9;exact bxr.cell 2);have f9:w9.frozen? ⟨w1.heap.size,2,none⟩=false:=(by obtain ⟨⟨Ar,nr,cr,bxr,hrr,hnr,hlr⟩,hge⟩:=R9;exact bxr.frozen 2);have S9:=R9.setErr (E:=V))));(first | (with_reducible refine anch_last (hKO _ _ ?_)) | refine anch_endL (Th.Reach.of (by first | exact Below.refl _ _ | exact below_alloc _ (by first | omega | (simp;done) | (simp;omega)) _ | exact below_alloc2 _ (by first | omega | (simp;done) | (simp;omega)) _ _ | exact below_alloc2d _ (by simp) _ _ | exact bdrew _ _ | assumption | (exact Below.mono (by assumption) (by first | (simp;done) | (simp;omega) | omega | assumption)))) (hKO _ _ ?_));clear hKO KO)
                have bd:Below wc.heap.size wc w9:=(bdrew1 wc).trans hb9
                go_wp2
                go_meet
                case rel =>
                  have b9:=bx.step bd
                  exact ⟨S9.1,b9.grown S9.2 (fun e=>by injection e with e;omega),(po.below bd).grown S9.2 (fun j e=>by injection e with e;omega),(ot.below bd).grown S9.2 (fun g' hA e=>by have:=ot.ow.row_ge g' (by rw [hA];rfl);injection e with e;omega),(k.trans (bd.mono k.size)).trans (below_of_grown S9.2 (B:=w.heap.size) (fun j e=>by injection e with e;omega) (by have:=bd.size;have:=k.size;omega))⟩
              · have hE2:=HE.out
                rw [if_neg m2] at hE2
                subst hE2
                clear m2
                go_wp2
                go_meet
                case rel=>exact ⟨R,bx,po,ot,k⟩
            case rest =>
              clear z2 Hmr R bx po ot k
              obtain ⟨R,bx,po,ot,k⟩:=hcut
              have gl:=R.lt
              have bl:=bx.lt
              have z2:wc.cell? ⟨w1.heap.size,2,none⟩=some (.int .i64 E):=by
                obtain ⟨⟨Ar,nr,cr,bxr,hrr,hnr,hlr⟩,hge⟩:=R
                exact bxr.cell 2
              have z1:wc.cell? ⟨w1.heap.size,1,none⟩=some (.int .i64 N):=by
                obtain ⟨⟨Ar,nr,cr,bxr,hrr,hnr,hlr⟩,hge⟩:=R
                exact bxr.cell 1
              have hways:((E != 0)=true∧E≠0)∨((E != 0)=false∧E=0):=by
                by_cases h:E=0
                · exact .inr ⟨by simp [h],h⟩
                · exact .inl ⟨by simpa using h,h⟩
              clear HE
              rcases hways with ⟨m1,m2⟩ | ⟨m1,m2⟩
              · have hen:=Hen.out
                rw [if_pos m2] at hen
                subst hen
                clear Hen m2
                have q2:∀ q:KSStep (fun a=>a=⟨w1.heap.size,2,none⟩) wc.drew,q.w.cell? ⟨w1.heap.size,2,none⟩=some (.int .i64 E):=fun q=>(q.h _ rfl).trans z2
                go_upto_region 20 with fail
                refine wp_region_tree (.float 0 2 (.two 2 (.float 3 2 (.one 5 (.float 6 2 .done))) 5 (.float 6 1 (.one 2 (.float 3 2 (.float 7 1 .done)))))) (Th.KSReach (fun a=>a=⟨w1.heap.size,2,none⟩)) (Th.KSReach.trans _) (Th.KSReach.refl _) (by kernel_rfl) (by kernel_rfl) (fun KT hKT=>?_)
                repeat' first
                  | ((with_reducible refine wpTree_done ?_);refine hKT _ _ ?_;clear hKT KT)
                  | (with_reducible refine wpTree_two ?_ ?_)
                  | ((with_reducible refine wpTree_float (fun KF hKF=>?_));(simp only [List.drop,List.take]);(repeat (first | go_big_quiet_skip | go_big_quiet_step (fail) | quiet_step (fail)));refine wpQuiet_nil ?_;refine hKF _ ?_;clear hKF KF)
                  | ((with_reducible refine wpTree_one (fun KO hKO=>?_));(simp only [List.drop,List.take]);(go_wp2_with (first | ((with_reducible refine on_store_at (.tmp 2) ?_);refine wb_store (cs:=Cv nv.1 Ap np cp d At nt ct) (cs':=Cv 0 none 0 0 0 none 0 0) rfl _ (.tmp 2) _ rfl st_cert rfl rfl bx.drew rfl rfl (by simp [Cv,Value.oneCell']) ?_;intro w4 bx4 hg4;have kS:∀ a:Addr,a=⟨w1.heap.size,2,none⟩→w4.cell? a=wc.drew.cell? a:=(fun a ha=>by subst ha;exact World.cell?_of_block (hg4.block w1.heap.size gl (fun e=>by injection e with e;omega)));have q4:∀ q:KSStep (fun a=>a=⟨w1.heap.size,2,none⟩) w4,q.w.cell? ⟨w1.heap.size,2,none⟩=some (.int .i64 E):=(fun q=>((q.h _ rfl).trans (kS _ rfl)).trans z2))));(refine anch_end (Th.KSReach.of (by first | exact fun _ _=>rfl | assumption | (exact ks_alloc _ _ (by assumption)))) (hKO _ _ ?_));clear hKO KO)
                all_goals
                  go_wp2
                  refine bodyPost_ret (results_cell2 rfl _ w4 w.heap.size 40 _ (0,0) _ rfl bx4.at_ rfl rfl Tryz.underlying40 rfl st_cert.size) rfl ?_
                  exact retCf_err (k.trans (((bdrew1 wc).trans (below_of_grown hg4 (B:=w.heap.size) (fun j e=>by injection e with e;omega) k.size))))
              · have hen:=Hen.out
                rw [if_neg (fun h=>h m2)] at hen
                subst hen
                clear Hen m2
                have S2:∀ w',Th.KSReach (fun a=>a=⟨w1.heap.size,1,none⟩∨a.block=w.heap.size) wc.drew w'→∀ i u,[Value.int .i64 nv.1,.slice Ap np cp,.int .u32 d,.slice At nt ct][i]? = some u→w'.cell? ⟨w.heap.size,0+i,none⟩=some u:=by
                  rintro w' ⟨q,rfl⟩ i u hu
                  rw [q.h _ (.inr rfl),Nat.zero_add,bx.drew.cell i]
                  simpa [Cv] using hu
                have q1:∀ q:KSStep (fun a=>a=⟨w1.heap.size,1,none⟩∨a.block=w.heap.size) wc.drew,q.w.cell? ⟨w1.heap.size,1,none⟩=some (.int .i64 N):=fun q=>(q.h _ (.inl rfl)).trans z1
                go_upto_region 21 with fail
                refine wp_region_tree (.float 0 2 (.two 2 (.float 3 2 (.one 5 (.float 6 2 .done))) 5 (.one 2 (.float 3 2 (.float 6 2 .done))))) (Th.KSReach (fun a=>a=⟨w1.heap.size,1,none⟩∨a.block=w.heap.size)) (Th.KSReach.trans _) (Th.KSReach.refl _) (by kernel_rfl) (by kernel_rfl) (fun KT hKT=>?_)
                repeat' first
                  | ((with_reducible refine wpTree_done ?_);refine hKT _ _ ?_;clear hKT KT)
                  | (with_reducible refine wpTree_two ?_ ?_)
                  | ((with_reducible refine wpTree_float (fun KF hKF=>?_));(simp only [List.drop,List.take]);(repeat (first | go_big_quiet_skip | ((with_reducible refine onq_load (.tmp 2) ?_);refine wqcv_cells rfl (.tmp 2) rfl rfl S2 ?_) | go_big_quiet_step (fail) | quiet_step (fail)));refine wpQuiet_nil ?_;refine hKF _ ?_;clear hKF KF)
                  | ((with_reducible refine wpTree_one (fun KO hKO=>?_));(simp only [List.drop,List.take]);(go_wp2_with (first | ((with_reducible refine on_store_at (.tmp 2) ?_);refine wb_store (cs:=Cv nv.1 Ap np cp d At nt ct) (cs':=Cv nv.1 Ap np cp d At nt ct) rfl _ (.tmp 2) _ rfl st_cert rfl rfl bx.drew rfl rfl (by simp [Cv,Value.oneCell']) ?_;intro w4 bx4 hg4;have kS:∀ a:Addr,(a=⟨w1.heap.size,1,none⟩∨a.block=w.heap.size)→w4.cell? a=wc.drew.cell? a:=(fun a ha=>by rcases ha with rfl | ha;exact World.cell?_of_block (hg4.block w1.heap.size gl (fun e=>by injection e with e;omega));exact World.cell?_of_block (by rw [ha];exact bx4.at_.trans bx.drew.at_.symm));have q4:∀ q:KSStep (fun a=>a=⟨w1.heap.size,1,none⟩∨a.block=w.heap.size) w4,q.w.cell? ⟨w1.heap.size,1,none⟩=some (.int .i64 N):=(fun q=>((q.h _ (.inl rfl)).trans (kS _ (.inl rfl))).trans z1))));(refine anch_end (Th.KSReach.of (by first | exact fun _ _=>rfl | assumption | (exact ks_alloc _ _ (by assumption)))) (hKO _ _ ?_));clear hKO KO)
                all_goals
                  go_wp2
                  refine bodyPost_ret (results_cell2 rfl _ w4 w.heap.size 40 _ (0,0) _ rfl bx4.at_ rfl rfl Tryz.underlying40 rfl st_cert.size) rfl ?_
                  refine ⟨Ap,np,cp,At,nt,ct,ps,rfl,((po.below (bdrew1 wc)).grown hg4 (fun j e=>by injection e with e;omega)).rd,rfl,((ot.below (bdrew1 wc)).grown hg4 (fun g' hA e=>by have:=ot.ow.row_ge g' (by rw [hA];rfl);injection e with e;omega)).rd,?_⟩
                  exact k.trans (((bdrew1 wc).trans (below_of_grown hg4 (B:=w.heap.size) (fun j e=>by injection e with e;omega) k.size)))
end Go.Proofs.YtjandnidljbkoaaGreat
namespace Go.Th
open Go.RowKit
section
variable {w w':World} {B B' size n c base:Nat} {A:Option Addr} {xs:List Value} {e:TypeId}
end
section
variable {α:Type} {f:α→Value} {w w':World} {B B' n c base:Nat} {A:Option Addr} {xs:List α} {e:TypeId}
end
section
variable {P:Program} {ops:Array Oper} {rest:List Oper} {o:Oper} {a:Act} {Q:Exit→Act→World→Prop} {w:World}
section
variable (hw:Region.wanted o (yielded ops a.tmps)=true) (T:TypeId) (s:Operand) {E bytes:Nat} {z:Value} (el:El P T E z bytes)
    {α:Type} {f:α→Value} {A:Option Addr} {n c:Nat} (hs:a.eval s=.slice A n c) {B:Nat} {xs:List α} (hr:RdS f w B A n c xs)
include hw el hs hr
end
end
section
variable {P:Program} {ops:Array Oper} {Q:Exit→Act→World→Prop} {rest:List Oper} {a:Act} {w:World}
end
open Go.RowKit
section
variable {P:Program} {ops:Array Oper} {rest:List Oper} {o:Oper} {a:Act} {C:World→Prop} {Q:Act→Prop}
section
variable (hw:Region.wanted o (yielded ops a.tmps)=true) (T:TypeId) (s:Operand) {E bytes:Nat} {z:Value} (el:El P T E z bytes)
    {α:Type} {f:α→Value} {A:Option Addr} {n c:Nat} (hs:a.eval s=.slice A n c) {B:Nat} {xs:List α} (hr:RdC f C B A n c xs) {w0:World} (hC0:C w0)
include hw el hs hr hC0
end
end
open Go.RowKit
section
variable {α:Type} {f:α→List Value} {k:Nat} {w w':World} {B B' n c base:Nat} {A:Option Addr} {xs:List α} {e:TypeId}
end
section
variable {P:Program} {ops:Array Oper} {rest:List Oper} {o:Oper} {a:Act} {Q:Exit→Act→World→Prop} {w:World} {α:Type} {f:α→List Value} {k:Nat} (hf:∀ x,(f x).length=k)
section
variable (hf:∀ x,(f x).length=k) (hw:Region.wanted o (yielded ops a.tmps)=true) (T:TypeId) (s:Operand) {E bytes:Nat} {z:Value} (el:ElM P T E z bytes k)
    {A:Option Addr} {n c:Nat} (hs:a.eval s=.slice A n c) {B:Nat} {xs:List α} (hr:RdM f w B A n c xs)
include hf hw el hs hr
end
end
section
variable {w w':World} {g:Nat} {t:TypeId} {cs:Array Value}
end
section
variable {P:Program} {ops:Array Oper} {rest:List Oper} {o:Oper} {a:Act} {Q:Exit→Act→World→Prop} {w:World}
end
end Go.Th
namespace Go.Proofs.YtjandnidljbkoaaGreat
open Go.RowKit Go.Th
theorem holds_any (a n x:Int) (w:World) (ha:0≤a∧a≤4294967295) (h:-9223372036854775808≤n∧n≤9223372036854775807) (hx:0≤x∧x≤4294967295) :
    Calls Tryz.prog 19 #[.int .u32 a,.int .i64 n,.int .u32 x] w (RetV (.bool (holds a n x)) w):=by
  obtain ⟨a,rfl⟩:=Int.eq_ofNat_of_zero_le ha.1
  obtain ⟨x,rfl⟩:=Int.eq_ofNat_of_zero_le hx.1
  have h1:=xor_u32 a x (by omega) (by omega)
  have hz:a ^^^ x < 4294967296:=Nat.xor_lt_two_pow (n:=32) (by omega) (by omega)
  have h2:=and_u32 (a ^^^ x) (maskN n) hz (maskN_lt n)
  have h3:=xor_high a x n (by omega) (by omega)
  have hb:holds a n x=decide ((a ^^^ x) &&& maskN n=0):=by
    unfold holds head
    rw [Int.toNat_natCast,Int.toNat_natCast,decide_eq_decide,h3]
  clear h3 ha hx
  obtain ⟨b,hb'⟩:∃ b,holds a n x=b:=⟨_,rfl⟩
  rw [hb']
  rw [hb'] at hb
  generalize a ^^^ x=z at *
  have hm:=mask_any n w h
  generalize maskN n=m at *
  generalize z &&& m=y at *
  have hyb:(b=true∧((y:Int) == 0)=true)∨(b=false∧((y:Int) == 0)=false):=by
    by_cases hy:y=0
    · exact .inl ⟨by rw [hb];simpa using hy,by simpa using hy⟩
    · exact .inr ⟨by rw [hb];simpa using hy,by simpa using hy⟩
  have Hm:=Lib.hid hm
  clear hb hb' hm
  rcases hyb with ⟨rfl,hy⟩ | ⟨rfl,hy⟩
  all_goals go_enter Tryz.func19,Tryz.ntmps19
  all_goals go_wp2_with (go_at_call 29;refine (Hm.out).mono ?_;rintro e w' ⟨rfl,rfl⟩)
  all_goals go_ret
  all_goals exact ⟨rfl,rfl⟩
end Go.Proofs.YtjandnidljbkoaaGreat
namespace Go.Th
open Go.RowKit
section
variable {P:Program} {ops:Array Oper} {G:World→World→Prop} {md:Region.Mode}
end
instance (B:Nat) (w:World):Nonempty (Step B w):=⟨⟨w,Below.refl _ _⟩⟩
attribute [go_sem] Reach
section
variable {P:Program} {ops:Array Oper} {rest:List Oper} {o:Oper} {a:Act} {B':Nat} {w0:World} {Q:Act→Prop}
end
open Go.RowKit
section
variable {P:Program} {ops:Array Oper} {rest:List Oper} {o:Oper} {a:Act} {C:World→Prop} {Q:Act→Prop}
end
section
variable {P:Program} {ops:Array Oper} {C:World→Prop} {Q:Act→Prop} {rest:List Oper} {o:Oper} {a:Act}
end
section
variable {P:Program} {ops:Array Oper} {rest:List Oper} {o:Oper} {a:Act} {Q:Exit→Act→World→Prop} {w:World}
end
section
variable {P:Program} {ops:Array Oper} {rest:List Oper} {o:Oper} {a:Act} {Q:Exit→Act→World→Prop} {w:World}
end
open Go.RowKit
section
variable {P:Program} {ops:Array Oper} {rest:List Oper} {o:Oper} {a:Act} {Q:Exit→Act→World→Prop} {w:World}
end
section
variable {P:Program} {ops:Array Oper} {rest:List Oper} {o:Oper} {a:Act} {C:World→Prop} {Q:Act→Prop}
end
section
variable {P:Program} {ops:Array Oper} {rest:List Oper} {o:Oper} {a:Act} {C:World→Prop} {Q:Act→Prop} {α:Type} {f:α→List Value} {k:Nat}
section
variable (hf:∀ x,(f x).length=k) (hw:Region.wanted o (yielded ops a.tmps)=true) (T:TypeId) (s:Operand) {E bytes:Nat} {z:Value} (el:ElM P T E z bytes k)
    {A:Option Addr} {n c:Nat} (hs:a.eval s=.slice A n c) {B:Nat} {xs:List α} (hr:∀ w,C w→RdM f w B A n c xs) {w0:World} (hC0:C w0)
include hf hw el hs hr hC0
end
end
end Go.Th
namespace Go.Proofs.YtjandnidljbkoaaGreat
open Go.RowKit Go.Th
set_option maxHeartbeats 1000000 in
theorem find_any (A:Option Addr) (n c:Nat) (l:List Ru) (x:Int) (w:World) (hm:n≤9223372036854775807) (B:Nat) (hr:RdM Ru.cs w B A n c l) (hok:∀ r∈l,r.Ok) (hx:0≤x∧x≤4294967295) :
    Calls Tryz.prog 17 #[.slice A n c,.int .u32 x] w (RetRule (tfind l x) w):=by
  have Hok:=Lib.hid hok
  have Hx:=Lib.hid hx
  clear hok
  go_enter Tryz.func17,Tryz.ntmps17
  go_wp2
  go_step3
  go_wp2
  go_step3
  go_wp2
  go_loopw [7,12] (fun fd i wr=>FindRel x l n w fd i wr) (fun _ i _=>n - (intOf i).toNat)
  case atStart=>exact ⟨0,Ru.zero,false,by omega,rfl,rfl,rfl,(by have:=Box.new (w.alloc (.cells Ru.zero.cs.toArray 52)) Ru.zero.cs.toArray 52;simpa [Ru.cs,Ru.zero] using this),(by have:=(Box.new w Ru.zero.cs.toArray 52).alloc (.cells Ru.zero.cs.toArray 52);simpa [Ru.cs,Ru.zero] using this),(by repeat (first | exact Below.refl _ _ | refine Below.drew ?_ | refine Below.alloc ?_ (by first | (simp;done) | (simp;omega)) _ | refine Below.setCell ?_ (by first | (simp;done) | (simp;omega)) _ | assumption))⟩
  case round =>
    obtain ⟨k,best,b,hk,rfl,rfl,hf,hbest,hzero,hb⟩:=hrel
    have hrk:RdM Ru.cs wr B A n c l:=hr.step hb
    by_cases hlt:k < n
    · obtain ⟨r,hrk0⟩:∃ r,l[k]? = some r:=⟨l[k]'(by rw [hr.len];omega),List.getElem?_eq_getElem _⟩
      have hro:=Hok.out r (List.mem_of_getElem? hrk0)
      have hsn:=tfind_snoc x hrk0
      rw [hf.out] at hsn
      have Hsn:=Lib.hid hsn
      have Hrk:=Lib.hid hrk0
      have Hra:=Lib.hid hro.a
      have Hrn:=Lib.hid hro.n
      clear hsn hrk0 hro
      have hl1:=hbest.lt
      have c0:wr.cell? ⟨w.heap.size+1,1,none⟩=some (.int .i64 best.n):=hbest.cell 1
      have hways:(holds r.a r.n x=false∧fstep x (best,b) r=(best,b))∨(holds r.a r.n x=true∧b=true∧r.n≤best.n∧fstep x (best,b) r=(best,b))∨(holds r.a r.n x=true∧b=true∧¬ r.n≤best.n∧fstep x (best,b) r=(r,true))∨(holds r.a r.n x=true∧b=false∧fstep x (best,b) r=(r,true)):=by
        unfold fstep Ru.holds
        cases h1:holds r.a r.n x <;> cases b <;> simp
        by_cases h2:r.n≤best.n
        · left;simp [h2];intro h;omega
        · right;simp [h2];omega
      rcases hways with ⟨hh,h3⟩ | ⟨hh,rfl,h2,h3⟩ | ⟨hh,rfl,h2,h3⟩ | ⟨hh,rfl,h3⟩
      all_goals
        rw [h3] at Hsn
        have Hh:=Lib.hid hh
        clear hh h3
        go_wp2_with (first
          | ((with_reducible refine on_index (.tmp 10) ?_);refine wm_at Ru.cs_length rfl _ _ _ rfl el_rule rfl rfl (by omega) (by omega) hrk ?_;intro b1 j1 r1 hr1 hb1 hc1;have hxx:r=r1:=(by have e:=hr1.out;rw [Int.toNat_natCast,Hrk.out] at e;injection e);subst hxx)
          | ((with_reducible refine on_load (.tmp 14) ?_);refine wr_load rfl _ _ rfl st_rule rfl hc1 ?_)
          | (go_at_call 19;refine (holds_any _ _ _ _ Hra.out Hrn.out Hx.out).mono ?_;rintro e w2 ⟨rfl,rfl⟩;rw [Hh.out])
          | ((with_reducible refine on_store ?_);refine wr_store (r:=best) rfl _ _ _ rfl st_rule rfl rfl (hbest.alloc _) ?_;intro w3 hbest3 hg3))
      · go_roundw
        case rel=>exact ⟨k+1,best,b,by omega,by go_num,rfl,Hsn.out,hbest.alloc _,hzero.alloc _,hb.alloc hb.size _⟩
        case measure=>simp [intOf];omega
      · go_roundw
        case rel=>exact ⟨k+1,best,true,by omega,by go_num,rfl,Hsn.out,hbest.alloc _,hzero.alloc _,hb.alloc hb.size _⟩
        case measure=>simp [intOf];omega
      all_goals
        go_roundw
        case rel=>exact ⟨k+1,r,true,by omega,by go_num,rfl,Hsn.out,hbest3,(hzero.alloc _).grown hg3 (by intro e;injection e with e;omega),(hb.alloc hb.size _).trans (below_of_grown hg3 (by intro g e;injection e with e;omega) (by simp;have:=hb.size;omega))⟩
        case measure=>simp [intOf];omega
    · have hkn:k=n:=by omega
      have hfin:tfind l x=(best,b):=by rw [← hf.out,List.take_of_length_le (by rw [hr.len];omega)]
      have Hfin:=Lib.hid hfin
      clear hfin
      go_wp2_with (first
        | ((with_reducible refine on_load (.tmp 6) ?_);refine wr_box rfl _ _ rfl st_rule rfl hbest ?_)
        | ((with_reducible refine on_store ?_);refine wr_store (r:=Ru.zero) rfl _ _ _ rfl st_rule rfl rfl hzero ?_;intro w3 hz3 hg3))
      obtain ⟨e0,e1,e2,e3⟩:=hz3.rule
      refine bodyPost_ret (v:=.tuple #[.agg #[.int .u32 best.a,.int .i64 best.n,.int .i64 best.act,.int .i64 best.next],.bool b]) ?_ rfl ⟨(by rw [Hfin.out]),hb.trans (below_of_grown hg3 (by intro g e;injection e with e;omega) hb.size)⟩
      simp [results,Tryz.results17,go_sem,e0,e1,e2,e3]
theorem next_any (A:Option Addr) (n c:Nat) (l:List Ru) (x:Int) (w:World) (hm:n≤9223372036854775807) (B:Nat) (hr:RdM Ru.cs w B A n c l) (hok:∀ r∈l,r.Ok) (hx:0≤x∧x≤4294967295) :
    Calls Tryz.prog 66 #[.slice A n c,.int .u32 x] w (RetIB (tnext l x) w):=by
  have hc:=find_any A n c l x w hm B hr hok hx
  obtain ⟨best,b,hp⟩:∃ best b,tfind l x=(best,b):=⟨_,_,rfl⟩
  have hn:tnext l x=if b=true∧best.act=1 then (best.next,true) else (0,false):=by unfold tnext;rw [hp]
  have hways:(b=false∧tnext l x=(0,false))∨(b=true∧(best.act != 1)=true∧tnext l x=(0,false))∨(b=true∧(best.act != 1)=false∧tnext l x=(best.next,true)):=by
    rw [hn]
    cases b
    · simp
    · by_cases h:best.act=1 <;> simp [h]
  have Hc:=Lib.hid hc
  rw [hp] at Hc
  clear hc hn hp
  generalize tnext l x=v at *
  rcases hways with ⟨rfl,rfl⟩ | ⟨rfl,h,rfl⟩ | ⟨rfl,h,rfl⟩
  all_goals go_enter Tryz.func66,Tryz.ntmps66
  all_goals go_wp2_with (go_at_call 17;refine Hc.out.mono ?_;rintro e w1 ⟨rfl,hb1⟩)
  all_goals go_ret2
  all_goals exact ⟨rfl,hb1.alloc hb1.size _⟩
end Go.Proofs.YtjandnidljbkoaaGreat
namespace Go.Th
open Go.RowKit
section
variable {P:Program} {ops:Array Oper} {rest:List Oper} {o:Oper} {a:Act} {Q:Exit→Act→World→Prop} {w:World}
end
section
variable {P:Program} {ops:Array Oper} {C:World→Prop} {Q:Act→Prop} {rest:List Oper} {a:Act}
end
open Go.RowKit
section
variable {P:Program} {ops:Array Oper} {rest:List Oper} {o:Oper} {a:Act} {Q:Exit→Act→World→Prop} {w:World}
end
open Go.RowKit
section
variable {P:Program} {ops:Array Oper} {rest:List Oper} {o:Oper} {a:Act} {Q:Exit→Act→World→Prop} {w:World}
end
section
variable {P:Program} {ops:Array Oper} {rest:List Oper} {o:Oper} {a:Act} {C:World→Prop} {Q:Act→Prop}
end
instance (g:Nat) (w:World):Nonempty (KStep g w):=⟨⟨w,rfl⟩⟩
attribute [go_sem] KReach
open Go.RowKit
instance (S:Addr→Prop) (w:World):Nonempty (KSStep S w):=⟨⟨w,fun _ _=>rfl⟩⟩
attribute [go_sem] KSReach
open Go.RowKit
section
variable {P:Program} {ops:Array Oper} {rest:List Oper} {o:Oper} {a:Act} {Q:Exit→Act→World→Prop} {w:World}
end
open Go.RowKit
section
variable {P:Program} {ops:Array Oper} {G:World→World→Prop} {md:Region.Mode} {L:Nat}
end
open Go.RowKit
set_option linter.unusedSimpArgs false
section
variable {P:Program} {ops:Array Oper} {rest:List Oper} {o:Oper} {a:Act} {Q:Exit→Act→World→Prop} {w:World}
end
open Go.ChangeShapes Go.WideShapes Go.ChangeAt Go.RowKit
section
variable {H:Type} {enc:TypeId × Value→H} {P:Program} {w:World} {base:Nat} {spare:Nat→Bool} {held:Bool} {r:Go.Reach} {b0:Nat} {t e:TypeId} {v:Value} {d:DataW H} {p:List MemPlace}
end
open Go.ChangeShapes Go.WideShapes Go.ChangeAt Go.RowKit Go.Deep Go.Joins
section
variable {H:Type} {enc:TypeId × Value→H} {P:Program} {w:World} {base:Nat} {spare:Nat→Bool} {held:Bool} {r:Go.Reach} {b0:Nat} {t e:TypeId} {v:Value} {d:DataW H} {p:List MemPlace}
end
open Go.RowKit
section
variable {P:Program} {ops:Array Oper} {rest:List Oper} {o:Oper} {a:Act} {Q:Exit→Act→World→Prop} {w:World}
end
section
variable {P:Program} {ops:Array Oper} {rest:List Oper} {o:Oper} {a:Act} {C:World→Prop} {Q:Act→Prop} {α:Type} {f:α→List Value} {k:Nat}
end
open Go.RowKit Go.Maps
section
variable {P:Program} {ops:Array Oper} {rest:List Oper} {o:Oper} {a:Act} {Q:Exit→Act→World→Prop} {w:World}
end
end Go.Th
namespace Go.Proofs.YtjandnidljbkoaaGreat
open Go.RowKit Go.Th
section
variable {ops:Array Oper} {rest:List Oper} {o:Oper} {a:Act} {Q:Exit→Act→World→Prop} {w:World}
end
end Go.Proofs.YtjandnidljbkoaaGreat
namespace Go.Th
open Go.RowKit
section
variable {P:Program} {ops:Array Oper} {rest:List Oper} {o:Oper} {a:Act} {C:World→Prop} {Q:Act→Prop}
end
end Go.Th
