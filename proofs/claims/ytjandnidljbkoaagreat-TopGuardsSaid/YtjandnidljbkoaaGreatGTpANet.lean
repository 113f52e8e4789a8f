/-
  analyze.Net.
-/
import Derived.Test.YtjandnidljbkoaaGreatGTpAtLaw
set_option linter.unusedVariables false
namespace Go.Proofs.YtjandnidljbkoaaGreat
open Go.RowKit Go.Th
theorem z_two:(Tryz.prog.info? 24).map (fun i=>(i.zero.map Value.cells,i.size))=some (some #[.int .u32 0,.int .u32 0],2):=by kernel_rfl
theorem wqb_load {P:Program} {ops:Array Oper} {rest:List Oper} {o:Oper} {a:Act} {C:World→Prop} {Q:Act→Prop} (hw:Region.wanted o (yielded ops a.tmps)=true) (T:TypeId) (x:Operand) (ho:o.op=.load T x) {k:Nat} (st:St P T k) {g:Nat} {t:TypeId} {cs:Array Value} (hx:a.eval x=.pointer (some ⟨g,0,none⟩)) (hb:∀ w,C w→Box w g t cs) (hk:cs.size=k)
    (h:wpQuiet P ops C Q rest (a.put o.dst (.agg cs))):wpQuiet P ops C Q (o :: rest) a:=by
  obtain ⟨fs,hu⟩:=st.under
  subst hk
  refine wq_run hw (fun w hC=>?_) h
  simp only [execOp,ho,hx,Instr.loadAt,Instr.sureAddr,Sem.run_bind,Sem.run_pure,Result.andThen_ok,run_loadVar_row w g t T cs (0,0) _ (hb w hC).at_ hu rfl st.size]
theorem ow_fresh {w:World} {base e k n c g:Nat} {A:Option Addr} {xs:List Value} (h:Ow w base e k A n c xs) (hg:w.heap.size≤g):rowOf A≠some g:=fun e=>by
  rcases h.form with ⟨rfl,_⟩ | ⟨g',rfl,_,hlt⟩
  · cases e
  · have:g' = g:=by simpa [rowOf] using e
    omega
theorem PO.more {w w8:World} {base n c:Nat} {A:Option Addr} {ps:List Pt} {p:Pt} {A':Option Addr} {c':Nat} (h:PO w base A n c ps) (hp:OwS iv w base 3 p.A p.n p.c p.rk) (hok:p.Ok) (hg:w.grownBy w8 (rowOf A)) (ho:OwM Pt.cs 3 w8 base 102 A' (n+1) c' (ps ++ [p])):PO w8 base A' (n+1) c' (ps ++ [p]):=by
  have key:∀ q:Pt,OwS iv w base 3 q.A q.n q.c q.rk→OwS iv w8 base 3 q.A q.n q.c q.rk:=fun q hq=>hq.grown hg (fun g hA=>hq.ow.apart h.row.ow (by decide) g hA)
  refine ⟨ho,fun q hq=>?_,fun q hq=>?_⟩
  · rcases List.mem_append.1 hq with hq | hq
    · exact key q (h.rk q hq)
    · rw [List.mem_singleton.1 hq];exact key p hp
  · rcases List.mem_append.1 hq with hq | hq
    · exact h.ok q hq
    · rw [List.mem_singleton.1 hq];exact hok
def CS3 (g1 g2 g3:Nat) (a:Addr):Prop:=a.block=g1∨a.block=g2∨a.block=g3
theorem cs3_grown {w w':World} {g1 g2 g3:Nat} {row:Option Nat} (hg:w.grownBy w' row) (hl:g1 < w.heap.size∧g2 < w.heap.size∧g3 < w.heap.size) (hr:row≠some g1∧row≠some g2∧row≠some g3):∀ a,CS3 g1 g2 g3 a→w'.cell? a=w.cell? a:=by
  intro a ha
  have hx:a.block < w.heap.size∧some a.block≠row:=by
    rcases ha with e | e | e
    · rw [e];exact ⟨hl.1,fun h=>hr.1 h.symm⟩
    · rw [e];exact ⟨hl.2.1,fun h=>hr.2.1 h.symm⟩
    · rw [e];exact ⟨hl.2.2,fun h=>hr.2.2 h.symm⟩
  have:=hg.block a.block hx.1 hx.2
  unfold World.cell?
  rw [this]
theorem cs3_below {w w':World} {g1 g2 g3:Nat} (hb:Below w.heap.size w w') (hl:g1 < w.heap.size∧g2 < w.heap.size∧g3 < w.heap.size):∀ a,CS3 g1 g2 g3 a→w'.cell? a=w.cell? a :=
  cs3_grown (row:=none) ⟨hb.os,hb.tape,hb.output,hb.size,fun k hk _=>hb.block k hk⟩ hl ⟨by simp,by simp,by simp⟩
theorem cs3_lt {w:World} {g1 g2 g3:Nat} (hl:g1 < w.heap.size∧g2 < w.heap.size∧g3 < w.heap.size):∀ a,CS3 g1 g2 g3 a→a.block < w.heap.size:=fun a ha=>by
  rcases ha with e | e | e <;> omega
def PSpec (ls:List (List Ru)) (ps:List Pt):Prop :=
  ∀ (i:Nat) (p:Pt),ps[i]? = some p→p.n=ls.length∧∃ x q a,(atomsOf ls).fr[i]? = some x∧(atomsOf ls).wh[i]? = some q∧(atomsOf ls).vs[q.toNat]? = some (vecOf ls a)∧p.fr=x∧p.to=endOf (atomsOf ls).fr i∧RankR ls a p.rk
def An2 (ls:List (List Ru)) (m g:Nat) (W:World) (i:Value) (wr:World):Prop :=
  ∃ (k cp:Nat) (Ap:Option Addr) (ps:List Pt),k≤m∧i=.int .i64 k∧Box wr g 40 (Cv 1 Ap k cp 0 none 0 0)∧PO wr (g+1) Ap k cp ps∧Hid (PSpec ls ps)∧Below g W wr∧g+1≤wr.heap.size
def ANetR (ls:List (List Ru)) (w:World) (e:Ending) (w':World):Prop :=
  ∃ (v:Int) (Ap:Option Addr) (np cp:Nat) (d:Int) (At:Option Addr) (nt ct:Nat) (ps:List Pt) (tr:List Int),e=.returned (.tuple #[.agg #[.int .i64 v,.slice Ap np cp,.int .u32 d,.slice At nt ct],.int .i64 0]) ∧
    PRd w' w'.heap.size Ap np cp ps∧RdS iv w' w'.heap.size At nt ct tr∧Below w.heap.size w w'∧(∀ p∈ps,p.n=ls.length)∧((v=1∧d=0∧tr=[]∧AFree ls (ps.map pkey))∨(v=2∧ps=[]∧ALoop ls d tr))
def An1 (ls:List (List Ru)) (m:Nat) (W:World) (i:Value) (wr:World):Prop :=
  ∃ k:Nat,k≤m∧i=.int .i64 k∧Hid (∀ j v,j < k→(atomsOf ls).vs[j]? = some v→∃ a',v=vecOf ls a'∧∀ u L,¬ Cyc (hof ls a') (gof ls a') u L)∧Below W.heap.size W wr
set_option maxRecDepth 100000 in
set_option maxHeartbeats 4000000 in
theorem anet_any (A:Option Addr) (n c:Nat) (ns:List Nd) (w:World) (B:Nat) (hr:NRd w B A n c ns) (he:nmay (Nd.ls ns)=0) (hl:(ckeys (Nd.ls ns)).length≤100000) :
    Calls Tryz.prog 31 #[.agg #[.slice A n c]] w (ANetR (Nd.ls ns) w):=by
  have hNet:=netok_of hr he
  have hlen:=hr.len
  have hln:(Nd.ls ns).length=n:=by rw [Nd.ls_len];exact hlen
  have k0:=below_alloc w (Nat.le_refl _) (.cells #[.slice A n c] 34)
  have b0:=(Box.new w #[.slice A n c] 34)
  obtain ⟨W0,hW0⟩:∃ W,w.alloc (.cells #[.slice A n c] 34)=W:=⟨_,rfl⟩
  rw [hW0] at k0 b0
  have k1:=below_alloc W0 k0.size (.cells (Cv 0 none 0 0 0 none 0 0) 40)
  have b2:=(Box.new W0 (Cv 0 none 0 0 0 none 0 0) 40)
  have b1:=b0.alloc (.cells (Cv 0 none 0 0 0 none 0 0) 40)
  obtain ⟨W1,hW1⟩:∃ W,W0.alloc (.cells (Cv 0 none 0 0 0 none 0 0) 40)=W:=⟨_,rfl⟩
  rw [hW1] at k1 b1 b2
  have kA:=k0.trans k1
  have hr1:=hr.heap.step kA
  obtain ⟨gr,hgr⟩:∃ g,W0.heap.size=g:=⟨_,rfl⟩
  rw [hgr] at b2
  have hgrw:w.heap.size≤gr:=by have:=k0.size;omega
  have K1:=Lib.hid (atoms_any A n c ns W1 _ hr1 he hl)
  have HNet:=Lib.hid hNet
  have Hln:=Lib.hid hln
  have hW1':W0.alloc (.cells #[.int .i64 0,.slice none 0 0,.int .u32 0,.slice none 0 0] 40)=W1:=hW1
  clear hl he hr hlen hln hNet k0 k1 b0 hW1 hr1
  go_enter Tryz.func31,Tryz.ntmps31
  go_upto_region 1 with fail
  have hz1:W1.heap.size=gr+1:=by rw [← hW1'];simp;omega
  clear hW0 hgr
  go_upto_region 4 with (first
    | ((with_reducible refine on_load (.tmp 1) ?_);refine wb_load rfl _ (.tmp 1) rfl st_net rfl b1 rfl ?_)
    | (go_at_call 20;refine (K1.out).mono ?_;rintro e w1 ⟨A1,c1,A2,c2,A3,c3,gs,n1,n3,rfl,hA,hb1⟩;have bx1:=Box.new w1 #[.slice none 0 0,.slice none 0 0,.slice none 0 0] 59)
    | ((with_reducible refine on_store_at (.tmp 4) ?_);refine wb_store (cs:=#[.slice none 0 0,.slice none 0 0,.slice none 0 0]) (cs':=#[.slice A1 n1 c1,.slice A2 n1 c2,.slice A3 n3 c3]) rfl _ (.tmp 4) _ rfl st_atoms rfl rfl bx1 rfl rfl (by simp [Value.oneCell']) ?_;intro W bx hg2))
  have hb1s:=hb1.size
  have kx:=below_alloc w1 (Nat.le_refl _) (.cells #[.slice none 0 0,.slice none 0 0,.slice none 0 0] 59)
  have kW1:Below w1.heap.size w1 W:=kx.trans (below_of_grown hg2 (fun j e=>by injection e with e;omega) (by simp))
  obtain ⟨gx,hgx⟩:∃ g,w1.heap.size=g:=⟨_,rfl⟩
  rw [hgx] at bx ⊢
  have hAW:=hA.below kW1
  have b2W:=(b2.step hb1).step kW1
  have kW:Below w.heap.size w W:=kA.trans ((hb1.trans (kW1.mono hb1s)).mono kA.size)
  have hgxW:=bx.lt
  have hgr2:gr < gx:=by omega
  have hWs:w1.heap.size≤W.heap.size:=kW1.size
  have hgxw:w.heap.size≤gx:=by omega
  clear bx1 hg2 kx kW1 hA hb1 b1 K1 hW1' b2 kA
  have y2:W.cell? ⟨gx,2,none⟩=some (.slice A3 n3 c3):=bx.cell 2
  have hn1:=hAW.oF.len
  have hn1b:n1≤8193:=by rw [← hn1];exact atoms_len HNet.out
  have hn3:=hAW.len
  have hAt:=atOk (vecOf (Nd.ls ns)) (cutsOf (Nd.ls ns))
  have hat:atGo (vecOf (Nd.ls ns)) (cutsOf (Nd.ls ns))=atomsOf (Nd.ls ns):=rfl
  rw [hat] at hAt
  have hn3b:n3≤8193:=by rw [← hn3];exact atoms_vs HNet.out
  have HAt:=Lib.hid hAt
  have Hn1:=Lib.hid hn1
  have Hn3:=Lib.hid hn3
  clear hAt hat hn1 hn3 hgx hz1
  go_wp2
  go_loopw [28] (fun i wr=>An1 (Nd.ls ns) n3 W i wr) (fun i _=>n3 - (intOf i).toNat)
  case atStart=>exact ⟨0,by omega,rfl,Lib.hid (fun j v hj=>absurd hj (by omega)),Below.refl _ _⟩
  case round =>
    obtain ⟨k,hk,rfl,hno,hb⟩:=hrel
    have hAr:=hAW.below hb
    have bxr:=bx.step hb
    have b2r:=b2W.step hb
    have kr:=kW.trans (hb.mono kW.size)
    have hbs:=hb.size
    by_cases hlt:k < n3
    · obtain ⟨v,hv⟩:∃ v,(atomsOf (Nd.ls ns)).vs[k]? = some v:=⟨(atomsOf (Nd.ls ns)).vs[k]'(by have:=Hn3.out;omega),List.getElem?_eq_getElem _⟩
      have hgl:=hAr.oV.len
      obtain ⟨gv,hgv⟩:∃ v,gs[k]? = some v:=⟨gs[k]'(by omega),List.getElem?_eq_getElem _⟩
      have hvr:=hAr.vec (gv,v) (List.mem_iff_getElem?.2 ⟨k,by rw [List.getElem?_zip_eq_some];exact ⟨hgv,hv⟩⟩)
      obtain ⟨a,_,rfl⟩:=atGo_vs' (List.mem_of_getElem? hv)
      have KL:=Lib.hid (gloop_any _ n n (Nd.ls ns) a wr HNet.out Hln.out hvr.rd)
      have Hv:=Lib.hid hv
      have Hgv:=Lib.hid hgv
      clear hv hgv hvr hgl
      go_upto_region 8 with (first
        | ((with_reducible refine on_index (.tmp 26) ?_);refine wm_at (one1_len (vrow n)) rfl _ (.tmp 26) _ rfl el_rowi.m rfl rfl (by omega) (by omega) hAr.oV.rd.m ?_;intro b j y hy hbB hc;have hxx:gv=y:=get_eq Hgv.out hy.out (by omega);subst hxx;have hc1:wr.cell? ⟨b,j,none⟩=some (.slice (some ⟨gv,0,none⟩) n n):=hc.out 0 _ rfl)
        | (go_at_call 28;refine (KL.out).mono ?_;rintro e w5 ⟨Al,nl,cl,l,rfl,ol,hb5,hways⟩))
      have hll:=ol.len
      rcases hways with ⟨rfl,hno2⟩ | ⟨best,M,hM,cM,hmin,rfl,hle⟩
      · have hl0:nl=0:=by simpa using hll.symm
        subst hl0
        have hno3:∀ j v,j < k+1→(atomsOf (Nd.ls ns)).vs[j]? = some v→∃ a',v=vecOf (Nd.ls ns) a'∧∀ u L,¬ Cyc (hof (Nd.ls ns) a') (gof (Nd.ls ns) a') u L:=fun j v hj hjv=>by
          by_cases e:j=k
          · subst e
            rw [Hv.out] at hjv
            injection hjv with hjv
            exact ⟨a,hjv.symm,hno2⟩
          · exact hno.out j v (by omega) hjv
        have Hno3:=Lib.hid hno3
        clear hno3 hno2 hll
        go_wp2
        go_roundw
        case rel=>exact ⟨k+1,by omega,by go_num,Hno3,hb.trans (hb5.mono hbs)⟩
        case measure=>simp [intOf];omega
      · have hMl:(sits (Nd.ls ns) a best M).length=M:=by simp [sits]
        rw [hMl] at hll
        subst hll
        have hM1:=cM.pos
        have hM2:M≤n:=by have:=Hln.out;omega
        obtain ⟨i,hi,hi1,hi2⟩:=first_at (HAt.out.all k (by have:=Hn3.out;omega))
        have hil:i < n1:=by have:=HAt.out.len;have:=Hn1.out;omega
        obtain ⟨x,hx⟩:∃ x,(atomsOf (Nd.ls ns)).fr[i]? = some x:=⟨(atomsOf (Nd.ls ns)).fr[i]'(by have:=Hn1.out;omega),List.getElem?_eq_getElem _⟩
        have hend:=atoms_end HNet.out (i:=i) (by have:=Hn1.out;omega)
        rw [Hn1.out] at hend
        obtain ⟨h,hh⟩:∃ h,endOf (atomsOf (Nd.ls ns)).fr i=h:=⟨_,rfl⟩
        rw [hh] at hend
        have hA5:=hAr.below hb5
        have bx5:=bxr.step hb5
        have b25:=b2r.step hb5
        have k5:=kr.trans (hb5.mono (Nat.le_trans kW.size hbs))
        have KI:=Lib.hid (fun w' (hw:Below w5.heap.size w5 w')=>sindex_any A2 n1 c2 _ (k:Int) w' (by omega) _ (hA5.oW.rd.below hw) i hil hi1 hi2)
        have KE:=Lib.hid (fun w' (hw:Below w5.heap.size w5 w')=>ends_any A1 n1 c1 A2 n1 c2 A3 n3 c3 _ w' (by omega) _ (hA5.oF.rd.below hw) i hil x h (Lib.hid hx) hend)
        have ALp:Hid (ALoop (Nd.ls ns) x (sits (Nd.ls ns) a best M)):=Lib.hid ⟨k,i,a,best,M,hno.out,Hv.out,hM,cM,hmin,hle,rfl,hi1,hi2,hx⟩
        have hxb:=(atoms_fr HNet.out).2 x (List.mem_of_getElem? hx)
        have y1:∀ q:Th.Step w5.heap.size w5.drew,q.w.cell? ⟨gx,1,none⟩=some (.slice A2 n1 c2):=fun q=>((bx5.drew.below q.h (by have:=bx5.lt;exact this)).cell 1)
        have hbx:∀ w',Th.Reach w5.heap.size w5.drew w'→Box w' gx 59 #[.slice A1 n1 c1,.slice A2 n1 c2,.slice A3 n3 c3]:=fun w' hw=>bx5.drew.below hw.below bx5.lt
        have gx5:=bx5.lt
        have gr5:=b25.lt
        have hds1:w5.heap.size≤w5.drew.heap.size:=Nat.le_refl _
        clear hno hmin hle cM hi1 hi2 hx hend hh KL hA5 hi
        go_upto_region 11 with fail
        refine wp_region_tree (.float 0 4 (.two 4 (.two 5 (.one 6 (.one 7 .done)) 6 (.one 5 (.one 7 .done))) 6 (.one 4 (.one 5 (.one 7 .done))))) (Th.Reach w5.heap.size) (Th.Reach.trans _) (Th.Reach.refl _) (by kernel_rfl) (by kernel_rfl) (fun KT hKT=>?_)
        repeat' first
          | ((with_reducible refine wpTree_done ?_);refine hKT _ _ ?_;clear hKT KT)
          | (with_reducible refine wpTree_two ?_ ?_)
          | ((with_reducible refine wpTree_float (fun KF hKF=>?_));(simp only [List.drop,List.take]);(repeat (first | go_big_quiet_skip | ((with_reducible refine onq_load (.tmp 4) ?_);refine wqb_load rfl _ (.tmp 4) rfl st_atoms rfl hbx rfl ?_) | go_big_quiet_step (fail) | quiet_step (fail)));refine wpQuiet_nil ?_;refine hKF _ ?_;clear hKF KF)
          | ((with_reducible refine wpTree_one (fun KO hKO=>?_));(simp only [List.drop,List.take]);(go_wp2_with (first | (go_at_call 79;refine (KI.out _ (by first | exact bdrew1 _ | assumption | exact (bdrew1 _).trans (by assumption))).mono ?_;rintro e w6 ⟨rfl,rfl⟩) | (go_at_call 78;refine (KE.out _ (by first | exact bdrew1 _ | assumption | exact (bdrew1 _).trans (by assumption))).mono ?_;rintro e w7 ⟨rfl,hb7⟩;have s7:=hb7.size;(try have b10:=b10.step hb7);have u7:Below w5.heap.size _ _:=hb7.mono (by omega)) | ((with_reducible refine on_alloc ?_);refine wl_newBox rfl _ rfl z_two ?_;intro g10 w8 hg10 hl10 b10 hb8;have s8:=hb8.size;have u8:Below w5.heap.size _ _:=hb8.mono (by omega)) | ((with_reducible refine on_store_at (.tmp 10) ?_);refine wa_store (cs:=#[.int .u32 0,.int .u32 0]) (cs':=#[.int .u32 x,.int .u32 h]) rfl _ (.tmp 10) _ rfl st_two rfl rfl b10 rfl rfl (by simp [Value.oneCell']) ?_;intro w9 b9 hg9;have u9:Below w5.heap.size _ _:=below_of_grown hg9 (fun j e=>by injection e with e;omega) (by omega);have K9:Below w5.heap.size w5 w9:=(by first | exact ((bdrew1 w5).trans u8).trans (u7.trans u9) | exact ((bdrew1 w5).trans u7).trans (u8.trans u9));have y9:w9.cell? ⟨g10,0,none⟩=some (.int .u32 x):=b9.cell 0;have b29:=b25.below K9 gr5) | ((with_reducible refine on_store_at (.tmp 2) ?_);refine wb_store (cs:=Cv 0 none 0 0 0 none 0 0) (cs':=Cv 2 none 0 0 x Al M cl) rfl _ (.tmp 2) _ rfl st_cert rfl rfl b29 rfl rfl (by simp [Cv,Value.oneCell']) ?_;intro wf bf hgf)));(refine anch_end (Th.Reach.of (by first | exact Below.refl _ _ | exact below_alloc _ (by first | omega | (simp;done) | (simp;omega)) _ | exact below_alloc2 _ (by first | omega | (simp;done) | (simp;omega)) _ _ | exact below_alloc2d _ (by simp) _ _ | exact bdrew _ _ | assumption | (exact Below.mono (by assumption) (by first | (simp;done) | (simp;omega) | omega | assumption)))) (hKO _ _ ?_));clear hKO KO)
        all_goals go_wp2_with ((with_reducible refine on_store_at (.tmp 2) ?_);refine wb_store (cs:=Cv 0 none 0 0 0 none 0 0) (cs':=Cv 2 none 0 0 x Al M cl) rfl _ (.tmp 2) _ rfl st_cert rfl rfl b29 rfl rfl (by simp [Cv,Value.oneCell']) ?_;intro wf bf hgf)
        all_goals refine bodyPost_ret (v:=.tuple #[.agg #[.int .i64 2,.slice none 0 0,.int .u32 x,.slice Al M cl],.int .i64 0]) ?_ rfl ⟨2,none,0,0,x,Al,M,cl,[],_,rfl,?_,?_,?_,by simp,.inr ⟨rfl,rfl,ALp.out⟩⟩
        all_goals first
          | exact results_cell1 rfl _ wf gr 40 _ (0,0) _ rfl bf.at_ rfl Tryz.underlying40 rfl st_cert.size
          | exact ⟨RdM.nil _ _,by simp,by simp⟩
          | exact ((ol.below K9).grown hgf (fun g hA e=>by have:=ol.ow.row_ge g (by rw [hA];rfl);injection e with e;omega)).rd
          | exact (k5.trans (K9.mono k5.size)).grown hgf (by have:=k5.size;have:=K9.size;omega) (fun j e=>by injection e with e;omega)
    · obtain rfl:k=n3:=by omega
      have hvs:∀ v∈(atomsOf (Nd.ls ns)).vs,∃ a,v=vecOf (Nd.ls ns) a∧∀ u L,¬ Cyc (hof (Nd.ls ns) a) (gof (Nd.ls ns) a) u L:=fun v hv=>by
        obtain ⟨j,hj⟩:=List.mem_iff_getElem?.1 hv
        exact hno.out j v (by have:=(List.getElem?_eq_some_iff.1 hj).1;have:=Hn3.out;omega) hj
      have KR:=Lib.hid (aranks_any _ n A1 n1 c1 A2 n1 c2 A3 k c3 _ _ _ gs (Nd.ls ns) wr hAr HNet.out Hln.out (by omega) hvs)
      clear hno hvs
      go_upto_region 17 with (first
        | ((with_reducible refine on_load (.tmp 4) ?_);refine wb_load rfl _ (.tmp 4) rfl st_atoms rfl bxr rfl ?_)
        | (go_at_call 80;refine (KR.out).mono ?_;rintro e w5 ⟨Ar,cr,rs,rfl,RR,hb5⟩))
      have hA5:=hAr.below hb5
      have bx5:=bxr.step hb5
      have b25:=b2r.step hb5
      have k5:=kr.trans (hb5.mono kr.size)
      have b12:=Box.new w5 (Cv 0 none 0 0 0 none 0 0) 40
      have hz12:(w5.alloc (.cells (Cv 0 none 0 0 0 none 0 0) 40)).heap.size=w5.heap.size+1:=heap_size_alloc _ _
      clear KR hA5
      go_upto_region 18 with ((with_reducible refine on_store_at (.tmp 12) ?_);refine wb_store (cs:=Cv 0 none 0 0 0 none 0 0) (cs':=Cv 1 none 0 0 0 none 0 0) rfl _ (.tmp 12) _ rfl st_cert rfl rfl b12 rfl rfl (by simp [Cv,Value.oneCell']) ?_;intro W2 bc hg12)
      have k12:Below w5.heap.size w5 W2:=(below_alloc w5 (Nat.le_refl _) (.cells (Cv 0 none 0 0 0 none 0 0) 40)).trans (below_of_grown hg12 (fun j e=>by injection e with e;omega) (by omega))
      obtain ⟨g,hg⟩:∃ g,w5.heap.size=g:=⟨_,rfl⟩
      rw [hg] at bc k12 ⊢
      have hW2:=bc.lt
      have hgb5:=hb5.size
      have hgxg:gx < g:=by have:=bx5.lt;omega
      have hgrg:gr < g:=by omega
      have hwg:w.heap.size≤g:=by have:=k5.size;omega
      have y1:W2.cell? ⟨gx,1,none⟩=some (.slice A2 n1 c2):=(bx5.below k12 hgxg).cell 1
      clear b12 hg12 hz12
      have HA:=Lib.hid (fun (w':World) (h:Below g W2 w')=>hAr.below (hb5.trans ((k12.trans h).mono (by omega))))
      have HRR:=Lib.hid (fun (w':World) (h:Below g W2 w')=>RR.below (w':=w') (by rw [hg];exact k12.trans h))
      have hAg:∀ gk,Ar=some ⟨gk,0,none⟩→gk < g:=fun gk e=>by
        obtain ⟨g',e',_,hlt⟩:=RR.row.ow.form.resolve_left (by rw [e];simp)
        rw [e] at e'
        injection e' with e'
        injection e' with e'
        omega
      have HAg:=Lib.hid hAg
      have k2:Below w.heap.size w W2:=k5.trans (k12.mono hwg)
      have b22:=b25.below k12 hgrg
      have bx2:=bx5.below k12 hgxg
      have po0:PO W2 (g+1) none 0 0 []:=PO.nil _ _
      clear bx5 b25 hAr bxr b2r kr RR hb5 k12 hAW b2W bx hb hg kW y2 k5 hgb5 hbs
      go_wp2
      go_loopw [69] (fun i wr=>An2 (Nd.ls ns) n1 g W2 i wr) (fun i _=>n1 - (intOf i).toNat)
      case atStart=>exact ⟨0,0,none,[],by omega,rfl,bc,po0,Lib.hid (fun i p h=>by simp at h),Below.refl _ _,by omega⟩
      case round =>
        clear bc po0
        obtain ⟨j,cp,Ap,ps,hj,rfl,bc,po,hsp,hb,hgs⟩:=hrel
        have hAr:=HA.out wr hb
        have hRr:=HRR.out wr hb
        have bxr:=bx2.below hb hgxg
        by_cases hlt:j < n1
        · obtain ⟨x,hx⟩:∃ x,(atomsOf (Nd.ls ns)).fr[j]? = some x:=⟨(atomsOf (Nd.ls ns)).fr[j]'(by have:=Hn1.out;omega),List.getElem?_eq_getElem _⟩
          obtain ⟨q,hq⟩:∃ q,(atomsOf (Nd.ls ns)).wh[j]? = some q:=⟨(atomsOf (Nd.ls ns)).wh[j]'(by have:=Hn1.out;have:=HAt.out.len;omega),List.getElem?_eq_getElem _⟩
          have hqr:=HAt.out.rng q (List.mem_of_getElem? hq)
          have hval:=HAt.out.val j x q hx hq
          obtain ⟨p,rfl⟩:∃ p:Nat,q=(p:Int):=⟨q.toNat,by omega⟩
          have hpk:p < k:=by have:=Hn3.out;omega
          rw [Int.toNat_natCast] at hval
          have hrl:=hRr.row.len
          obtain ⟨⟨Ak,ck⟩,hrs⟩:∃ y,rs[p]? = some y:=⟨rs[p]'(by omega),List.getElem?_eq_getElem _⟩
          obtain ⟨a0,R,hva,oR,rR⟩:=hRr.each p _ _ hrs hval
          obtain ⟨grk,hark,_⟩:=hRr.row.at0 (by omega:0 < k)
          subst hark
          have hgrk:=HAg.out grk rfl
          have hcr0:=hRr.row.cellAt hrs
          have hcr:wr.cell? ⟨grk,p,none⟩=some (.slice Ak n ck):=hcr0
          have hend:=atoms_end HNet.out (i:=j) (by have:=Hn1.out;omega)
          rw [Hn1.out] at hend
          obtain ⟨h,hh⟩:∃ h,endOf (atomsOf (Nd.ls ns)).fr j=h:=⟨_,rfl⟩
          rw [hh] at hend
          have hxb:=(atoms_fr HNet.out).2 x (List.mem_of_getElem? hx)
          have hhb:0≤h∧h≤4294967295:=by
            rcases hend with ⟨_,e⟩ | ⟨_,y,_,e1,e2,e3⟩ <;> omega
          have KE:=Lib.hid (ends_any A1 n1 c1 A2 n1 c2 A3 k c3 _ wr (by omega) _ hAr.oF.rd j hlt x h (Lib.hid hx) hend)
          have hps:∀ A9 c9,PSpec (Nd.ls ns) (ps ++ [(⟨x,h,A9,n,c9,R⟩:Pt)]):=fun A9 c9 i pt hpt=>by
            have hpl:=po.row.len
            by_cases hi:i < ps.length
            · rw [List.getElem?_append_left hi] at hpt
              exact hsp.out i pt hpt
            · rw [List.getElem?_append_right (by omega)] at hpt
              have hi2:=(List.getElem?_eq_some_iff.1 hpt).1
              simp at hi2
              obtain rfl:i=j:=by omega
              have e:=List.mem_singleton.1 (List.mem_of_getElem? hpt)
              subst e
              exact ⟨Hln.out.symm,x,(p:Int),a0,hx,hq,by rw [Int.toNat_natCast,← hva];exact hval,rfl,hh.symm,rR⟩
          have Hq:=Lib.hid hq
          clear hx hq hqr hval hrs hva hend hcr0 hh
          have hnd:=Hln.out
          go_upto_region 22 with (first
            | ((with_reducible refine on_index (.tmp 67) ?_);refine wl_at_i rfl _ (.tmp 67) _ rfl el_int rfl rfl (by omega) (by omega) hAr.oW.rd ?_;intro p1 y1' hy1 hc1;have hxx:(p:Int)=y1':=get_eq Hq.out hy1.out (by omega);subst hxx)
            | ((with_reducible refine on_load (.tmp 4) ?_);refine wb_load rfl _ (.tmp 4) rfl st_atoms rfl bxr rfl ?_)
            | (go_at_call 78;refine (KE.out).mono ?_;rintro e w6 ⟨rfl,hb6⟩)
            | ((with_reducible refine on_alloc ?_);refine wl_newBox rfl _ rfl z_two ?_;intro g15 w7 hg15 hl15 b15 hb7)
            | ((with_reducible refine on_store_at (.tmp 15) ?_);refine wa_store (cs:=#[.int .u32 0,.int .u32 0]) (cs':=#[.int .u32 x,.int .u32 h]) rfl _ (.tmp 15) _ rfl st_two rfl rfl b15 rfl rfl (by simp [Value.oneCell']) ?_;intro w8 b15' hg8))
          have s6:=hb6.size
          have s7:=hb7.size
          have s8:=hg8.size
          have K8:Below wr.heap.size wr w8:=hb6.trans ((hb7.mono s6).trans (below_of_grown hg8 (fun j e=>by injection e with e;omega) (by omega)))
          have bc8:=bc.step K8
          have po8:=po.below K8
          have oR8:=oR.below K8
          have hcr8:w8.cell? ⟨grk,p,none⟩=some (.slice Ak n ck):=(K8.cell (by show grk < wr.heap.size;omega)).trans hcr
          have hl8':g < w8.heap.size∧g15 < w8.heap.size∧grk < w8.heap.size:=by omega
          have hl8:g < w8.drew.heap.size∧g15 < w8.drew.heap.size∧grk < w8.drew.heap.size:=hl8'
          have y1':∀ q:KSStep (CS3 g g15 grk) w8.drew,q.w.cell? ⟨g,1,none⟩=some (.slice Ap j cp):=fun q=>(q.h _ (.inl rfl)).trans (bc8.cell 1)
          have y2':∀ q:KSStep (CS3 g g15 grk) w8.drew,q.w.cell? ⟨g15,0,none⟩=some (.int .u32 x):=fun q=>(q.h _ (.inr (.inl rfl))).trans (b15'.cell 0)
          have y3':∀ q:KSStep (CS3 g g15 grk) w8.drew,q.w.cell? ⟨g15,1,none⟩=some (.int .u32 h):=fun q=>(q.h _ (.inr (.inl rfl))).trans (b15'.cell 1)
          have y4':∀ q:KSStep (CS3 g g15 grk) w8.drew,q.w.cell? ⟨grk,p,none⟩=some (.slice Ak n ck):=fun q=>(q.h _ (.inr (.inr rfl))).trans hcr8
          have hn256:n≤256:=by rw [← Hln.out];exact HNet.out.len
          have KC:=Lib.hid (sclone_any Ak n ck R w8.drew (by omega) _ (oR8.rd.step (bdrew1 w8)))
          have hrow:rowOf Ap≠some g∧rowOf Ap≠some g15∧rowOf Ap≠some grk :=
            ⟨rowOf_ge po.row.ow (by omega),ow_fresh po.row.ow (by omega),rowOf_ge po.row.ow (by omega)⟩
          have Hrow:=Lib.hid hrow
          have hPt:Pt.Ok (⟨x,h,Ak,n,ck,R⟩:Pt):=⟨hxb,hhb⟩
          have Hps:=Lib.hid hps
          clear hps hrow bc po oR hcr hcr8 hg8 hb7 hb6 b15 KE HA HRR hRr hAr bxr hxb hhb rR
          refine wp_region_treeL 15 (.float 0 10 (.one 10 (.float 11 1 (.one 12 (.one 13 (.float 14 1 (.one 15 .done))))))) (Th.KSReach (CS3 g g15 grk)) (Th.KSReach.trans _) (Th.KSReach.refl _) (by kernel_rfl) (by kernel_rfl) (by kernel_rfl) (fun KT hKT=>?_)
          repeat' first
            | ((with_reducible refine wpTreeL_done ?_);refine hKT _ _ ?_;clear hKT KT)
            | (with_reducible refine wpTreeL_two ?_ ?_)
            | ((with_reducible refine wpTreeL_float (fun KF hKF=>?_));(simp only [List.drop,List.take]);(repeat (first | go_big_quiet_skip | ((with_reducible refine onq_index (.tmp 83) ?_);refine wq_placeS rfl _ (.tmp 83) _ rfl el_rowi rfl rfl p ⟨rfl,hpk⟩ ?_) | go_big_quiet_step (fail) | quiet_step (fail)));refine wpQuiet_nil ?_;refine hKF _ ?_;clear hKF KF)
            | ((with_reducible refine wpTreeL_one (fun KO hKO=>?_));(simp only [List.drop,List.take]);(go_wp2_with (first | (go_at_call 64;refine (KC.out).mono ?_;rintro e w9 ⟨A9,c9,rfl,o9,hb9⟩;have ks9:=cs3_below hb9 hl8;have s9:w8.heap.size≤w9.heap.size:=hb9.size;have hl9:g < w9.heap.size∧g15 < w9.heap.size∧grk < w9.heap.size:=(by omega);have hS9:=cs3_lt hl9;have bc9:=(bc8.drew).step hb9;have po9:=(po8.below (bdrew1 w8)).below hb9) | ((with_reducible refine on_append (.tmp 78) (.tmp 89) ?_);refine wm_append Pt.cs_length rfl (.tmp 78) (.tmp 89) _ rfl el_part Pt.one rfl (po9.row.alloc (.cells #[.int .u32 x,.int .u32 h,.slice A9 n c9] 102)) rfl (OwM.lit (base:=w9.heap.size) (e:=102) (xs:=[(⟨x,h,A9,n,c9,R⟩:Pt)]) Pt.cs_length w9 #[.int .u32 x,.int .u32 h,.slice A9 n c9] 1 (Nat.le_refl _) (by simp [maxLen]) rfl rfl).rd (by omega) (by omega) (by simp;omega) ?_;intro A10 c10 w10 ow10 hg10 hb10;have ks10:=cs3_grown hg10 (by simp;omega) Hrow.out;have bx10:=(bc9.alloc (.cells #[.int .u32 x,.int .u32 h,.slice A9 n c9] 102)).grown hg10 Hrow.out.1;have k1:w10.cell? ⟨g,1,none⟩=some (.slice Ap j cp):=bx10.cell 1;have fz1:=bx10.frozen 1;have po10:=(po9.below (below_alloc w9 (Nat.le_refl _) (.cells #[.int .u32 x,.int .u32 h,.slice A9 n c9] 102))).more (p:=⟨x,h,A9,n,c9,R⟩) ((o9.base_le (by omega)).alloc (.cells #[.int .u32 x,.int .u32 h,.slice A9 n c9] 102)) ⟨hPt.fr,hPt.to⟩ hg10 ow10;have bS:=bx10.setCell 1 (.slice A10 (j+1) c10))));(first | (with_reducible refine anch_last (hKO _ _ ?_)) | refine anch_endL (Th.KSReach.of (by first | exact fun _ _=>rfl | assumption | (exact ks_alloc _ _ (by assumption)))) (hKO _ _ ?_));clear hKO KO)
          have K10:Below g W2 (w10.setCell ⟨g,1,none⟩ (.slice A10 (j+1) c10)):=by
            have e1:Below g W2 w8:=hb.trans (K8.mono (by omega))
            have e2:Below g w8 w9:=(bdrew1 w8).trans (hb9.mono (by show g≤w8.heap.size;omega))
            have e3:=below_alloc w9 (B:=g) (by omega) (.cells #[.int .u32 x,.int .u32 h,.slice A9 n c9] 102)
            exact ((e1.trans e2).trans (e3.trans (hb10.mono (by omega)))).trans (below_of_grown bS.2 (fun j e=>by injection e with e;omega) (by have:=bx10.lt;omega))
          have hsz10:g+1≤(w10.setCell ⟨g,1,none⟩ (.slice A10 (j+1) c10)).heap.size:=bS.1.lt
          go_wp2
          go_roundw
          case rel=>exact ⟨j+1,c10,A10,_,by omega,by go_num,bS.1,po10.grown bS.2 (fun k e=>by injection e with e;omega),Lib.hid (Hps.out A9 c9),K10,hsz10⟩
          case measure=>simp [intOf];omega
        · obtain rfl:j=n1:=by omega
          have b2r:=b22.below hb hgrg
          have hspec:=hsp.out
          have hpl:=po.row.len
          have HF:Hid (AFree (Nd.ls ns) (ps.map pkey)∧∀ p∈ps,p.n=(Nd.ls ns).length):=Lib.hid ⟨⟨by rw [List.length_map,hpl];exact Hn1.out.symm,fun i kk hk=>by
            rw [List.getElem?_map] at hk
            obtain ⟨pt,hpt,rfl⟩:=Option.map_eq_some_iff.1 hk
            obtain ⟨_,x,q,a,e1,e2,e3,e4,e5,e6⟩:=hspec i pt hpt
            exact ⟨x,q,a,e1,e2,e3,e4,e5,e6⟩⟩,fun p hp=>by
            obtain ⟨i,hi⟩:=List.mem_iff_getElem?.1 hp
            exact (hspec i p hi).1⟩
          clear hspec hpl
          go_wp2_with (first
            | ((with_reducible refine on_load (.tmp 12) ?_);refine wb_load rfl _ (.tmp 12) rfl st_cert rfl bc rfl ?_)
            | ((with_reducible refine on_store_at (.tmp 2) ?_);refine wb_store (cs:=Cv 0 none 0 0 0 none 0 0) (cs':=Cv 1 Ap j cp 0 none 0 0) rfl _ (.tmp 2) _ rfl st_cert rfl rfl b2r rfl rfl (by simp [Cv,Value.oneCell']) ?_;intro wf bf hgf))
          refine bodyPost_ret (v:=.tuple #[.agg #[.int .i64 1,.slice Ap j cp,.int .u32 0,.slice none 0 0],.int .i64 0]) ?_ rfl ⟨1,Ap,j,cp,0,none,0,0,ps,[],rfl,?_,?_,?_,HF.out.2,.inl ⟨rfl,rfl,rfl,HF.out.1⟩⟩
          · exact results_cell1 rfl _ wf gr 40 _ (0,0) _ rfl bf.at_ rfl Tryz.underlying40 rfl st_cert.size
          · exact (po.grown hgf (fun k e=>by injection e with e;omega)).rd
          · exact RdS.nil _ _
          · exact (k2.trans (hb.mono hwg)).grown hgf (by omega) (fun k e=>by injection e with e;omega)
end Go.Proofs.YtjandnidljbkoaaGreat
