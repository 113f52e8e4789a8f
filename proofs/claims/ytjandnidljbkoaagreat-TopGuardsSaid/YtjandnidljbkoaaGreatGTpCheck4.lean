/-
  check.Net.
-/
import Derived.Test.YtjandnidljbkoaaGreatGTpCheck3
set_option linter.unusedVariables false
namespace Go.Proofs.YtjandnidljbkoaaGreat
open Go.RowKit Go.Th
theorem ranks_each {nodes:Int}:∀ {ps:List Pt},ranks nodes ps=0→∀ p∈ps,(p.rk.length:Int)=nodes∧p.rk.any (outs nodes)=false
  | [],_,p,hp=>by cases hp
  | q :: ps,h,p,hp=>by
    rw [ranks] at h
    split at h
    · cases h
    · rename_i h1
      split at h
      · cases h
      · rename_i h2
        rcases List.mem_cons.1 hp with rfl | hp
        · exact ⟨by omega,by simpa using h2⟩
        · exact ranks_each h p hp
theorem outs_any {nodes:Int} {l:List Int} (h:l.any (outs nodes)=false):∀ x∈l,0≤x∧x < nodes:=fun x hx=>by
  have:=List.any_eq_false.1 h x hx
  unfold outs at this
  simp at this
  omega
theorem cmay_free {ps:List Pt} {d nodes:Int} {tr:List Int} (h:cmay 1 ps d tr nodes=0):d=0∧tr=[]∧ps.length≤8193∧pmeet ps=0∧∀ p∈ps,(p.rk.length:Int)=nodes∧∀ x∈p.rk,0≤x∧x < nodes:=by
  unfold cmay at h
  rw [if_pos rfl] at h
  unfold cfree at h
  split at h
  · cases h
  · rename_i h1
    split at h
    · cases h
    · rename_i h2
      split at h
      · cases h
      · rename_i h3
        refine ⟨by omega,List.eq_nil_of_length_eq_zero (by omega),by omega,?_,fun p hp=>?_⟩
        · unfold pmeet
          simp at h3
          simp [h3]
        · have:=ranks_each h p hp
          exact ⟨this.1,outs_any this.2⟩
theorem cmay_loop {ps:List Pt} {d nodes:Int} {tr:List Int} (h:cmay 2 ps d tr nodes=0):ps=[]∧tr≠[]∧(tr.length:Int)≤nodes∧∀ x∈tr,0≤x∧x < nodes:=by
  unfold cmay at h
  rw [if_neg (by omega),if_pos rfl] at h
  unfold cloops at h
  split at h
  · cases h
  · rename_i h1
    split at h
    · cases h
    · rename_i h2
      split at h
      · cases h
      · rename_i h3
        exact ⟨List.eq_nil_of_length_eq_zero (by omega),fun e=>h2 (.inl (by rw [e];rfl)),by omega,outs_any (by simpa using h3)⟩
theorem cmay_kind {v d nodes:Int} {ps:List Pt} {tr:List Int} (h:cmay v ps d tr nodes=0):v=1∨v=2:=by
  unfold cmay at h
  split at h
  · rename_i h1;exact .inl h1
  · split at h
    · rename_i h2;exact .inr h2
    · cases h
def CheckP (ls:List (List Ru)) (v:Int) (ps:List Pt) (d:Int) (tr:List Int):Prop:=(v=1∧∀ p∈ps,FallP ls p.rk (ptsOf (cutsOf ls) p))∨(v=2∧TraceP ls d tr)
theorem st_answer:St Tryz.prog 30 2:=⟨⟨_,Tryz.underlying30⟩,by kernel_rfl⟩
def CkR (P:Prop) (v:Int) (w:World) (e:Ending) (w':World):Prop:=Below w.heap.size w w'∧((e=.returned (.agg #[.int .i64 v,.int .i64 0])∧P)∨(∃ c,e=.returned (.agg #[.int .i64 0,.int .i64 c])∧c≠0∧¬ P))
theorem parts_is (A:Option Addr) (n c:Nat) (ns:List Nd) (A1:Option Addr) (n1 c1:Nat) (ps:List Pt) (w:World) (hr:NRd w w.heap.size A n c ns) (he:nmay (Nd.ls ns)=0) (hl:(ckeys (Nd.ls ns)).length≤100000) (hp:PRd w w.heap.size A1 n1 c1 ps) (hn1:n1≤100000) (hm:pmeet ps=0) (hpn:∀ p∈ps,p.n=n) :
    Calls Tryz.prog 86 #[.agg #[.slice A n c],.slice A1 n1 c1] w (fun e w'=>Below w.heap.size w w'∧∃ b:Int,e=.returned (.int .i64 b)∧((b=0∧∀ p∈ps,FallP (Nd.ls ns) p.rk (ptsOf (cutsOf (Nd.ls ns)) p))∨(b=16∧¬ ∀ p∈ps,FallP (Nd.ls ns) p.rk (ptsOf (cutsOf (Nd.ls ns)) p)))):=by
  refine (parts_any A n c ns A1 n1 c1 ps w hr he hl hp hn1 hm hpn).mono ?_
  rintro e w' ⟨h1,⟨h,h'⟩ | ⟨h,h'⟩⟩
  · exact ⟨h1,0,h,.inl ⟨rfl,h'⟩⟩
  · exact ⟨h1,16,h,.inr ⟨rfl,h'⟩⟩
theorem trace_is (A:Option Addr) (n c:Nat) (ns:List Nd) (d:Int) (A1:Option Addr) (n1 c1:Nat) (tr:List Int) (w:World) (hr:NRd w w.heap.size A n c ns) (he:nmay (Nd.ls ns)=0) (hd:0≤d∧d≤4294967295) (hp:RdS iv w w.heap.size A1 n1 c1 tr) (hn1:n1≤100000) :
    Calls Tryz.prog 87 #[.agg #[.slice A n c],.int .u32 d,.slice A1 n1 c1] w (fun e w'=>Below w.heap.size w w'∧∃ b:Int,e=.returned (.int .i64 b)∧((b=0∧TraceP (Nd.ls ns) d tr)∨(b=17∧¬ TraceP (Nd.ls ns) d tr))):=by
  refine (trace_any A n c ns d A1 n1 c1 tr w hr he hd hp hn1).mono ?_
  rintro e w' ⟨h1,⟨h,h'⟩ | ⟨h,h'⟩⟩
  · exact ⟨h1,0,h,.inl ⟨rfl,h'⟩⟩
  · exact ⟨h1,17,h,.inr ⟨rfl,h'⟩⟩
set_option maxRecDepth 100000 in
set_option maxHeartbeats 4000000 in
theorem cknet_any (A:Option Addr) (n c:Nat) (ns:List Nd) (v:Int) (Ap:Option Addr) (np cp:Nat) (d:Int) (At:Option Addr) (nt ct:Nat) (ps:List Pt) (tr:List Int) (w:World) (hr:NRd w w.heap.size A n c ns) (he:nmay (Nd.ls ns)=0) (hl:(ckeys (Nd.ls ns)).length≤100000) (hp:PRd w w.heap.size Ap np cp ps) (ht:RdS iv w w.heap.size At nt ct tr) (hd:0≤d∧d≤4294967295) (hm:cmay v ps d tr n=0) :
    Calls Tryz.prog 34 #[.agg #[.slice A n c],.agg #[.int .i64 v,.slice Ap np cp,.int .u32 d,.slice At nt ct]] w (CkR (CheckP (Nd.ls ns) v ps d tr) v w):=by
  have hNet:=netok_of hr he
  have hlen:=hr.len
  have hn:n≤256:=by have:=hNet.len;rw [Nd.ls_len] at this;omega
  have k0:=below_alloc w (Nat.le_refl _) (.cells #[.slice A n c] 34)
  have b0:=(Box.new w #[.slice A n c] 34)
  obtain ⟨W0,hW0⟩:∃ W,w.alloc (.cells #[.slice A n c] 34)=W:=⟨_,rfl⟩
  rw [hW0] at k0 b0
  have k1:=below_alloc W0 k0.size (.cells (Cv v Ap np cp d At nt ct) 40)
  have b1:=(Box.new W0 (Cv v Ap np cp d At nt ct) 40)
  have b01:=b0.alloc (.cells (Cv v Ap np cp d At nt ct) 40)
  obtain ⟨W1,hW1⟩:∃ W,W0.alloc (.cells (Cv v Ap np cp d At nt ct) 40)=W:=⟨_,rfl⟩
  have hW1':W0.alloc (.cells #[.int .i64 v,.slice Ap np cp,.int .u32 d,.slice At nt ct] 40)=W1:=hW1
  rw [hW1] at k1 b1 b01
  have k2:=below_alloc W1 (k0.trans k1).size (.cells #[.int .i64 0,.int .i64 0] 30)
  have b2:=(Box.new W1 #[.int .i64 0,.int .i64 0] 30)
  have b02:=b01.alloc (.cells #[.int .i64 0,.int .i64 0] 30)
  have b12:=b1.alloc (.cells #[.int .i64 0,.int .i64 0] 30)
  obtain ⟨W2,hW2⟩:∃ W,W1.alloc (.cells #[.int .i64 0,.int .i64 0] 30)=W:=⟨_,rfl⟩
  rw [hW2] at k2 b2 b02 b12
  have kA:=(k0.trans k1).trans k2
  have kAs:=kA.size
  have hr2:=(hr.step kA).more kAs
  have hp2:=(hp.step kA).more kAs
  have ht2:=(ht.step kA).more kAs
  have hz0:W0.heap.size=w.heap.size+1:=by rw [← hW0];simp
  have hz1:W1.heap.size=w.heap.size+2:=by rw [← hW1];simp;omega
  obtain ⟨g0,hg0⟩:∃ g,w.heap.size=g:=⟨_,rfl⟩
  have hpl:=hp.rd.len
  have htl:=ht.len
  have K1:=Lib.hid (netmay_any A n c ns W2 (by omega) (by have:=hNet.size;omega) _ hr2 0 he)
  have HE:=Lib.hid he
  have hkind:=cmay_kind hm
  have htb:∀ x∈tr,-9223372036854775808≤x∧x≤9223372036854775807:=fun x hx=>by
    rcases hkind with rfl | rfl
    · rw [(cmay_free hm).2.1] at hx;cases hx
    · have:=(cmay_loop hm).2.2.2 x hx;omega
  have hpn:∀ p∈ps,p.n=n:=fun p hpm=>by
    rcases hkind with rfl | rfl
    · have h1:=((cmay_free hm).2.2.2.2 p hpm).1
      have h2:=(hp.rk p hpm).len
      omega
    · rw [(cmay_loop hm).1] at hpm;cases hpm
  have hnp:np≤8193:=by
    rcases hkind with rfl | rfl
    · have:=(cmay_free hm).2.2.1;omega
    · have:=(cmay_loop hm).1;rw [this] at hpl;simp at hpl;omega
  have hnt:nt≤256:=by
    rcases hkind with rfl | rfl
    · have:=(cmay_free hm).2.1;rw [this] at htl;simp at htl;omega
    · have:=(cmay_loop hm).2.2.1;omega
  have K2:=Lib.hid (fun w' (hw:Below W2.heap.size W2 w')=>cmay_is v Ap np cp d At nt ct (n:Int) w' (by omega) (by omega) ps tr w'.heap.size (Nat.le_refl _) ((hp2.step hw).more hw.size) ((ht2.step hw).more hw.size) htb (fun p hp=>by rw [hpn p hp];omega) 0 hm)
  obtain ⟨g1,hg1⟩:∃ g,W0.heap.size=g:=⟨_,rfl⟩
  obtain ⟨g2,hg2⟩:∃ g,W1.heap.size=g:=⟨_,rfl⟩
  rw [hg1] at b12
  rw [hg2] at b2
  have l0:=b02.lt
  have l1:=b12.lt
  have l2:=b2.lt
  have hgs:w.heap.size < g1∧g1 < g2:=by omega
  clear hr hp ht k0 k1 k2 b0 b01 b1 hz0 hz1 hW1 he hNet htb hlen hg0
  have HM:=Lib.hid hm
  have HL:=Lib.hid hl
  clear hl
  have Hpn:=Lib.hid hpn
  clear hpn
  rcases hkind with rfl | rfl
  · have hfree:=cmay_free hm
    have HMt:=Lib.hid hfree.2.2.2.1
    clear hm hfree
    go_enter Tryz.func34,Tryz.ntmps34
    go_upto_region 1 with fail
    clear hW0 hW1' hW2 hg1 hg2
    go_upto_region 3 with (first
      | ((with_reducible refine on_load (.tmp 2) ?_);refine wb_load rfl _ (.tmp 2) rfl st_net rfl b02 rfl ?_)
      | (go_at_call 32;refine (K1.out).mono ?_;rintro e w1 ⟨rfl,hb1⟩))
    have y0:w1.cell? ⟨w.heap.size,0,none⟩=some (.slice A n c):=(b02.step hb1).cell 0
    have b11:=b12.step hb1
    have s1:=hb1.size
    go_upto_region 4 with (first
      | ((with_reducible refine on_load (.tmp 3) ?_);refine wb_load rfl _ (.tmp 3) rfl st_cert rfl b11 rfl ?_)
      | (go_at_call 50;refine (K2.out _ hb1).mono ?_;rintro e w3 ⟨rfl,hb3⟩))
    have s3:=hb3.size
    have B3:Below W2.heap.size W2 w3:=hb1.trans (hb3.mono s1)
    have b03:=b02.step B3
    have b13:=b12.step B3
    have b23:=b2.step B3
    have y1:w3.cell? ⟨g1,0,none⟩=some (.int .i64 1):=b13.cell 0
    have y2:w3.cell? ⟨g1,1,none⟩=some (.slice Ap np cp):=b13.cell 1
    have K3:=Lib.hid (parts_is A n c ns Ap np cp ps w3 ((hr2.step B3).more (by omega)) HE.out HL.out ((hp2.step B3).more (by omega)) (by omega) HMt.out Hpn.out)
    clear y0 hb1 hb3 b11
    go_upto_region 6 with (first
      | ((with_reducible refine on_load (.tmp 2) ?_);refine wb_load rfl _ (.tmp 2) rfl st_net rfl b03 rfl ?_)
      | (go_at_call 86;refine (K3.out).mono ?_;rintro e w5 ⟨hb5,b5,rfl,hways⟩))
    have B5:Below W2.heap.size W2 w5:=B3.trans (hb5.mono (by omega))
    have s5:=hb5.size
    have b15:=b13.step hb5
    have b25:=b23.step hb5
    have y5:w5.cell? ⟨g1,0,none⟩=some (.int .i64 1):=b15.cell 0
    clear y1 y2
    rcases hways with ⟨rfl,hP⟩ | ⟨rfl,hP⟩
    · have HP:Hid (CheckP (Nd.ls ns) 1 ps d tr):=Lib.hid (.inl ⟨rfl,hP⟩)
      clear hP
      go_wp2_with ((with_reducible refine on_store_at (.tmp 4) ?_);refine wb_store (cs:=#[.int .i64 0,.int .i64 0]) (cs':=#[.int .i64 1,.int .i64 0]) rfl _ (.tmp 4) _ rfl st_answer rfl rfl b25 rfl rfl (by simp [Value.oneCell']) ?_;intro wf bf hgf)
      refine bodyPost_ret (v:=.agg #[.int .i64 1,.int .i64 0]) ?_ rfl ⟨(kA.trans (B5.mono kAs)).grown hgf (by omega) (fun j e=>by injection e with e;omega),.inl ⟨rfl,HP.out⟩⟩
      exact results_cell_row rfl _ wf g2 30 _ (0,0) _ rfl bf.at_ Tryz.underlying30 rfl st_answer.size
    · have HP:Hid (¬ CheckP (Nd.ls ns) 1 ps d tr):=Lib.hid (fun h=>by
        rcases h with h | h
        · exact hP h.2
        · exact absurd h.1 (by omega))
      clear hP
      go_wp2_with ((with_reducible refine on_store_at (.tmp 4) ?_);refine wb_store (cs:=#[.int .i64 0,.int .i64 0]) (cs':=#[.int .i64 0,.int .i64 16]) rfl _ (.tmp 4) _ rfl st_answer rfl rfl b25 rfl rfl (by simp [Value.oneCell']) ?_;intro wf bf hgf)
      refine bodyPost_ret (v:=.agg #[.int .i64 0,.int .i64 16]) ?_ rfl ⟨(kA.trans (B5.mono kAs)).grown hgf (by omega) (fun j e=>by injection e with e;omega),.inr ⟨16,rfl,by omega,HP.out⟩⟩
      exact results_cell_row rfl _ wf g2 30 _ (0,0) _ rfl bf.at_ Tryz.underlying30 rfl st_answer.size
  · clear hm
    go_enter Tryz.func34,Tryz.ntmps34
    go_upto_region 1 with fail
    clear hW0 hW1' hW2 hg1 hg2
    go_upto_region 3 with (first
      | ((with_reducible refine on_load (.tmp 2) ?_);refine wb_load rfl _ (.tmp 2) rfl st_net rfl b02 rfl ?_)
      | (go_at_call 32;refine (K1.out).mono ?_;rintro e w1 ⟨rfl,hb1⟩))
    have y0:w1.cell? ⟨w.heap.size,0,none⟩=some (.slice A n c):=(b02.step hb1).cell 0
    have b11:=b12.step hb1
    have s1:=hb1.size
    go_upto_region 4 with (first
      | ((with_reducible refine on_load (.tmp 3) ?_);refine wb_load rfl _ (.tmp 3) rfl st_cert rfl b11 rfl ?_)
      | (go_at_call 50;refine (K2.out _ hb1).mono ?_;rintro e w3 ⟨rfl,hb3⟩))
    have s3:=hb3.size
    have B3:Below W2.heap.size W2 w3:=hb1.trans (hb3.mono s1)
    have b03:=b02.step B3
    have b13:=b12.step B3
    have b23:=b2.step B3
    have y1:w3.cell? ⟨g1,0,none⟩=some (.int .i64 2):=b13.cell 0
    have y2:w3.cell? ⟨g1,2,none⟩=some (.int .u32 d):=b13.cell 2
    have y3:w3.cell? ⟨g1,3,none⟩=some (.slice At nt ct):=b13.cell 3
    have K3:=Lib.hid (trace_is A n c ns d At nt ct tr w3 ((hr2.step B3).more (by omega)) HE.out hd ((ht2.step B3).more (by omega)) (by omega))
    clear y0 hb1 hb3 b11
    go_upto_region 8 with (first
      | ((with_reducible refine on_load (.tmp 2) ?_);refine wb_load rfl _ (.tmp 2) rfl st_net rfl b03 rfl ?_)
      | (go_at_call 87;refine (K3.out).mono ?_;rintro e w5 ⟨hb5,b5,rfl,hways⟩))
    have B5:Below W2.heap.size W2 w5:=B3.trans (hb5.mono (by omega))
    have s5:=hb5.size
    have b15:=b13.step hb5
    have b25:=b23.step hb5
    have y5:w5.cell? ⟨g1,0,none⟩=some (.int .i64 2):=b15.cell 0
    clear y1 y2 y3
    rcases hways with ⟨rfl,hP⟩ | ⟨rfl,hP⟩
    · have HP:Hid (CheckP (Nd.ls ns) 2 ps d tr):=Lib.hid (.inr ⟨rfl,hP⟩)
      clear hP
      go_wp2_with ((with_reducible refine on_store_at (.tmp 4) ?_);refine wb_store (cs:=#[.int .i64 0,.int .i64 0]) (cs':=#[.int .i64 2,.int .i64 0]) rfl _ (.tmp 4) _ rfl st_answer rfl rfl b25 rfl rfl (by simp [Value.oneCell']) ?_;intro wf bf hgf)
      refine bodyPost_ret (v:=.agg #[.int .i64 2,.int .i64 0]) ?_ rfl ⟨(kA.trans (B5.mono kAs)).grown hgf (by omega) (fun j e=>by injection e with e;omega),.inl ⟨rfl,HP.out⟩⟩
      exact results_cell_row rfl _ wf g2 30 _ (0,0) _ rfl bf.at_ Tryz.underlying30 rfl st_answer.size
    · have HP:Hid (¬ CheckP (Nd.ls ns) 2 ps d tr):=Lib.hid (fun h=>by
        rcases h with h | h
        · exact absurd h.1 (by omega)
        · exact hP h.2)
      clear hP
      go_wp2_with ((with_reducible refine on_store_at (.tmp 4) ?_);refine wb_store (cs:=#[.int .i64 0,.int .i64 0]) (cs':=#[.int .i64 0,.int .i64 17]) rfl _ (.tmp 4) _ rfl st_answer rfl rfl b25 rfl rfl (by simp [Value.oneCell']) ?_;intro wf bf hgf)
      refine bodyPost_ret (v:=.agg #[.int .i64 0,.int .i64 17]) ?_ rfl ⟨(kA.trans (B5.mono kAs)).grown hgf (by omega) (fun j e=>by injection e with e;omega),.inr ⟨17,rfl,by omega,HP.out⟩⟩
      exact results_cell_row rfl _ wf g2 30 _ (0,0) _ rfl bf.at_ Tryz.underlying30 rfl st_answer.size
end Go.Proofs.YtjandnidljbkoaaGreat
