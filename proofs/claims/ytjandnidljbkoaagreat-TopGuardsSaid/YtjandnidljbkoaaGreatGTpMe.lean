/-
  Laid together by wip/tools/merge.py out of: NhStep, OpenNet. ! ### NhStep ! ### OpenNet
-/
import Derived.Deep.DeepCutAuto
import Derived.Deep.Slices
import Derived.Deep.Fields
import Derived.Lib.SmallJoins
import Derived.Test.YtjandnidljbkoaaGreatGTpMa
import Derived.Test.YtjandnidljbkoaaGreatGTpMb
import Derived.Test.YtjandnidljbkoaaGreatGTpMc
import Derived.Test.YtjandnidljbkoaaGreatGTpMd
set_option linter.unusedVariables false
namespace Go.Proofs.YtjandnidljbkoaaGreat
open Go.RowKit Go.Th
def nstep (ls:List (List Ru)) (a v:Int):Int × Bool:=if 0≤v∧v < (ls.length:Int) then tnext (ls.getD v.toNat []) a else (0,false)
theorem nstep_at {ns:List Nd} {x:Nd} {k:Nat} (a:Int) (h:ns[k]? = some x):nstep (Nd.ls ns) a (k:Int)=tnext x.l a:=by
  have hl:=(List.getElem?_eq_some_iff.1 h).1
  unfold nstep
  rw [if_pos (by rw [Nd.ls_len];omega),Int.toNat_natCast,List.getD_eq_getElem?_getD,Nd.ls_get h]
  rfl
theorem nstep_off {ls:List (List Ru)} {a v:Int} (h:¬ (0≤v∧v < (ls.length:Int))):nstep ls a v=(0,false):=if_neg h
theorem is_any (A:Option Addr) (n c:Nat) (v:Int) (w:World) (b:Bool) (hb:Hid (decide (0≤v∧v < (n:Int))=b)) :
    Calls Tryz.prog 65 #[.agg #[.slice A n c],.int .i64 v] w (RetB (.bool b) w):=by
  have k0:=below_alloc w (Nat.le_refl _) (.cells #[.slice A n c] 34)
  have b0:=Box.new w #[.slice A n c] 34
  have y0:(w.alloc (.cells #[.slice A n c] 34)).cell? ⟨w.heap.size,0,none⟩=some (.slice A n c):=b0.cell 0
  have hb2:=hb.out
  by_cases h0:0≤v
  · have hd:decide ((0:Int)≤v)=true:=decide_eq_true h0
    by_cases h1:v < (n:Int)
    · have hd1:decide (v < (n:Int))=true:=decide_eq_true h1
      obtain rfl:true=b:=by rw [← hb2];exact (decide_eq_true ⟨h0,h1⟩).symm
      clear hb hb2
      go_enter Tryz.func65,Tryz.ntmps65
      go_wp2
      go_ret
      exact ⟨rfl,k0⟩
    · have hd1:decide (v < (n:Int))=false:=decide_eq_false h1
      obtain rfl:false=b:=by rw [← hb2];exact (decide_eq_false (fun h=>h1 h.2)).symm
      clear hb hb2
      go_enter Tryz.func65,Tryz.ntmps65
      go_wp2
      go_ret
      exact ⟨rfl,k0⟩
  · have hd:decide ((0:Int)≤v)=false:=decide_eq_false h0
    obtain rfl:false=b:=by rw [← hb2];exact (decide_eq_false (fun h=>h0 h.1)).symm
    clear hb hb2
    go_enter Tryz.func65,Tryz.ntmps65
    go_wp2
    go_ret
    exact ⟨rfl,k0⟩
set_option maxRecDepth 100000 in
set_option maxHeartbeats 2000000 in
theorem step_any (A:Option Addr) (n c:Nat) (ns:List Nd) (a v:Int) (w:World) (hn:n≤9223372036854775807) (ha:0≤a∧a≤4294967295) (hx:∀ x∈ns,x.n≤9223372036854775807) (B:Nat) (hr:NRd w B A n c ns) (u:Int) (ok:Bool) (h:Hid (nstep (Nd.ls ns) a v=(u,ok))) :
    Calls Tryz.prog 26 #[.agg #[.slice A n c],.int .u32 a,.int .i64 v] w (RetIB (u,ok) w):=by
  have hlen:=hr.len
  have k0:=below_alloc w (Nat.le_refl _) (.cells #[.slice A n c] 34)
  have b0:=Box.new w #[.slice A n c] 34
  have hr0:=hr.step k0
  by_cases hv:0≤v∧v < (n:Int)
  · obtain ⟨k,rfl⟩:=Int.eq_ofNat_of_zero_le hv.1
    have hk:k < n:=by omega
    obtain ⟨x,hx1⟩:∃ x,ns[k]? = some x:=⟨ns[k]'(by omega),List.getElem?_eq_getElem _⟩
    have hxm:=List.mem_of_getElem? hx1
    have h2:=h.out
    rw [nstep_at a hx1] at h2
    have K1:=Lib.hid (is_any A n c (k:Int) (w.alloc (.cells #[.slice A n c] 34)) true (Lib.hid (decide_eq_true hv)))
    have hxr:=hr.rk x hxm
    have hxok:=hr.ok x hxm
    have hxn:=hx x hxm
    have Hx1:=Lib.hid hx1
    have K2:=Lib.hid (fun w1 (hb:Below w.heap.size w w1)=>next_any x.A x.n x.c x.l a w1 hxn B (hxr.step hb) hxok ha)
    rw [h2] at K2
    clear h h2 hx1 hxm hv hx hxn hxr hxok
    go_enter Tryz.func26,Tryz.ntmps26
    go_wp2_with (first
      | ((with_reducible refine on_load (.tmp 3) ?_);refine wb_load rfl _ (.tmp 3) rfl st_net rfl b0 rfl ?_)
      | (go_at_call 65;refine (K1.out).mono ?_;rintro e w1 ⟨rfl,hb1⟩;have b1:=b0.step hb1;have k1:=k0.trans (hb1.mono k0.size);have hr1:=hr.step k1;have y1:w1.cell? ⟨w.heap.size,0,none⟩=some (.slice A n c):=b1.cell 0)
      | ((with_reducible refine on_index (.tmp 13) ?_);refine wn_at rfl _ (.tmp 13) _ rfl el_row rfl rfl (by omega) (by omega) hr1.rd ?_;intro b j y hy hbB hc;have hxx:x=y:=(by have e:=hy.out;rw [Int.toNat_natCast,Hx1.out] at e;injection e);subst hxx)
      | (go_at_call 66;refine (K2.out w1 k1).mono ?_;rintro e w2 ⟨rfl,hb2⟩))
    go_ret2
    exact ⟨rfl,k1.trans (hb2.mono k1.size)⟩
  · have h2:=h.out
    rw [nstep_off (by rw [Nd.ls_len,hlen];exact hv)] at h2
    obtain ⟨rfl,rfl⟩:0=u∧false=ok:=by injection h2 with a b;exact ⟨a,b⟩
    have K1:=Lib.hid (is_any A n c v (w.alloc (.cells #[.slice A n c] 34)) false (Lib.hid (decide_eq_false hv)))
    clear h h2 hv hx hr0
    go_enter Tryz.func26,Tryz.ntmps26
    go_wp2_with (first
      | ((with_reducible refine on_load (.tmp 3) ?_);refine wb_load rfl _ (.tmp 3) rfl st_net rfl b0 rfl ?_)
      | (go_at_call 65;refine (K1.out).mono ?_;rintro e w1 ⟨rfl,hb1⟩))
    go_ret2
    exact ⟨rfl,k0.trans (hb1.mono k0.size)⟩
end Go.Proofs.YtjandnidljbkoaaGreat
namespace Go.Th
open Go.ChangeShapes Go.WideShapes Go.ChangeAt Go.RowKit Go.Deep Go.Joins
section
variable {H:Type} {enc:TypeId × Value→H} {P:Program} {w:World} {base:Nat} {spare:Nat→Bool} {held:Bool} {r:Go.Reach} {b0:Nat} {t e:TypeId} {v:Value} {d:DataW H} {p:List MemPlace}
structure NetT (P:Program) (t:TypeId):Prop where
  fields:∃ f0:Field,P.underlying t=some (.struct #[f0])∧oneCellFields P #[f0]=true∧∃ e1,P.underlying f0.type=some (.slice e1)∧P.cellsOf e1=1∧∃ e2,P.underlying e1=some (.slice e2)∧RuleT P e2
  cells:P.cellsOf t=1
structure NetIn (w:World) (A:Option Addr) (n c:Nat) (ns:List Nd):Prop where
  rd:NRd w w.heap.size A n c ns
  n:n≤9223372036854775807
  each:∀ x∈ns,x.n≤9223372036854775807
theorem trod_rules {e2:TypeId} (rt:RuleT P e2) (ht:P.underlying e=some (.slice e2)) {fuel:Nat} {cs:List Value} {x:DataW H × List MemPlace} (h:DataW.trod enc P w base spare held fuel e cs=some x) :
    ∃ nd:Nd,cs=one1 sv nd∧(RdM Ru.cs w w.heap.size nd.A nd.n nd.c nd.l∧nd.n≤9223372036854775807∧∀ r∈nd.l,r.Ok):=by
  obtain ⟨A,n,c,xs,hcs,hr,hn,hok⟩:=trod_slice_gen (f:=Ru.cs) (k:=4) (R:=Ru.Ok) Ru.cs_length (by omega) rt.cells (fun spare held fuel cs x h=>trod_rule rt h) ht h
  exact ⟨⟨A,n,c,xs⟩,hcs,hr,hn,hok⟩
theorem open_net (nt:NetT P t) (hv:Value.okWide P w r b0 t v) (h:DataW.Trod enc P w base spare held t v d p) :
    ∃ A n c ns,v=.agg #[.slice A n c]∧NetIn w A n c ns:=by
  obtain ⟨f0,hs,hone,e1,u1,c1,e2,u2,rt⟩:=nt.fields
  obtain ⟨cs,rfl,hsz⟩:=okWide_struct hs hv
  obtain ⟨fuel,hf⟩:=h
  obtain ⟨xs,n,_,_,hlen,hxl,hf⟩:=DataW.trod_struct hs hf
  rw [nt.cells] at hlen
  obtain ⟨l⟩:=cs
  simp only [Value.cells] at hlen hf
  have sub:∃ m y,DataW.trod enc P w base spare held m f0.type ((l.drop 0).take 1)=some y:=by
    obtain ⟨o,c⟩:=hone_of hone 0 f0 rfl
    have h1:=hf 0 f0 rfl
    rw [o,c] at h1
    have hil:0 < xs.length:=by rw [hxl];exact Nat.zero_lt_one
    rw [List.getElem?_eq_getElem hil] at h1
    exact ⟨_,_,h1⟩
  match l,hlen with
  | [c0],_ =>
    obtain ⟨m0,y0,h0⟩:=sub
    obtain ⟨A,n,c,ns,hcs,hr,hn,hall⟩:=trod_slice_gen (f:=one1 sv) (k:=1) (R:=fun nd:Nd=>RdM Ru.cs w w.heap.size nd.A nd.n nd.c nd.l∧nd.n≤9223372036854775807∧∀ r∈nd.l,r.Ok) (one1_len sv) (by omega) c1 (fun spare held fuel cs x h=>trod_rules rt u2 h) u1 h0
    simp at hcs
    subst hcs
    exact ⟨A,n,c,ns,rfl,⟨⟨⟨by rw [← flat_one1];exact hr.rd,hr.len,hr.cap⟩,fun x hx=>(hall x hx).1,fun x hx=>(hall x hx).2.2⟩,hn,fun x hx=>(hall x hx).2.1⟩⟩
end
end Go.Th
