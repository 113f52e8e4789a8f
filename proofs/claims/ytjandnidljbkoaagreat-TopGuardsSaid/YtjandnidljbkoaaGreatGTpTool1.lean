/-
  tool.Check.
-/
import Derived.Test.YtjandnidljbkoaaGreatGTpCheck4
set_option linter.unusedVariables false
namespace Go.Proofs.YtjandnidljbkoaaGreat
open Go.RowKit Go.Th
def CheckK (ls:List (List Ru)) (t:CR):Prop:=(t.v=1∧∀ k∈t.ks,FallP ls k.2.2 (ptsOf (cutsOf ls) (ptOf k)))∨(t.v=2∧TraceP ls t.d t.tr)
theorem checkK_of {ls:List (List Ru)} {t:CR} {ps:List Pt} (h:ps.map pkey=t.ks):CheckP ls t.v ps t.d t.tr↔CheckK ls t:=by
  unfold CheckP CheckK
  rw [← h]
  simp only [List.mem_map,forall_exists_index,and_imp,forall_apply_eq_imp_iff₂]
  rfl
theorem ckeys_small {ls:List (List Ru)} (h:nmay ls=0):(ckeys ls).length≤100000:=by
  have h1:=ckeys_len ls
  have h2:=(nmay_zero.1 h).2.1
  omega
def GoodC (tn:List (List Ru) × Int) (tc:CR):Prop:=tn.2=0∧tc.e=0∧tc.nodes=tn.1.length∧CheckK tn.1 tc
def ChkR (tn:List (List Ru) × Int) (tc:CR) (w:World) (e:Ending) (w':World):Prop :=
  Below w.heap.size w w'∧((e=.returned (.agg #[.int .i64 tc.v,.int .i64 0])∧GoodC tn tc)∨(∃ c,e=.returned (.agg #[.int .i64 0,.int .i64 c])∧c≠0∧¬ GoodC tn tc))
theorem ntk_ok {bs:List UInt8} (h:(ntk bs).2=0):NOk (ntk bs).1:=by
  unfold ntk at h ⊢
  split at h
  · rename_i h1;exact absurd h h1
  · rename_i h1
    rw [if_neg h1]
    exact (inT_back h).1
theorem ftk_ok {bs:List UInt8} (h:(ftk bs).e=0):CIn (ftk bs).v (ftk bs).ks (ftk bs).d (ftk bs).tr (ftk bs).nodes∧cmayK (ftk bs).v (ftk bs).ks (ftk bs).d (ftk bs).tr (ftk bs).nodes=0:=by
  unfold ftk at h ⊢
  split at h
  · rename_i h1;exact absurd h h1
  · rename_i h1
    rw [if_neg h1]
    exact ⟨(ctake_back h).1,(ctake_back h).2.1⟩
theorem cin_d {v d nodes:Int} {ks:List PK} {tr:List Int} (h:CIn v ks d tr nodes):0≤d∧d≤4294967295:=by
  rcases h.kind with h | h
  · omega
  · exact h.2.2.1
theorem ckR_is {P:Prop} {v:Int} {w:World} {e:Ending} {w':World} (h:CkR P v w e w'):Below w.heap.size w w'∧∃ x c:Int,e=.returned (.agg #[.int .i64 x,.int .i64 c])∧((x=v∧c=0∧P)∨(x=0∧c≠0∧¬ P)):=by
  obtain ⟨h1,⟨h2,h3⟩ | ⟨c,h2,h3,h4⟩⟩:=h
  · exact ⟨h1,v,0,h2,.inl ⟨rfl,rfl,h3⟩⟩
  · exact ⟨h1,0,c,h2,.inr ⟨rfl,h3,h4⟩⟩
set_option maxRecDepth 100000 in
set_option maxHeartbeats 4000000 in
theorem tcheck_any (Af:Option Addr) (nf cf:Nat) (Ac:Option Addr) (nc cc:Nat) (w:World) (fb cb:List UInt8) (hf:RdS bv w w.heap.size Af nf cf fb) (hc:RdS bv w w.heap.size Ac nc cc cb) (hnf:nf≤1000000) (hnc:nc≤1000000) :
    Calls Tryz.prog 10 #[.slice Af nf cf,.slice Ac nc cc] w (ChkR (ntk fb) (ftk cb) w):=by
  have hn0:=@ntk_ok fb
  have hc0:=@ftk_ok cb
  obtain ⟨tn,htn⟩:∃ t,ntk fb=t:=⟨_,rfl⟩
  obtain ⟨tc,htc⟩:∃ t,ftk cb=t:=⟨_,rfl⟩
  rw [htn] at hn0 ⊢
  rw [htc] at hc0 ⊢
  have Hn0:=Lib.hid hn0
  have Hc0:=Lib.hid hc0
  have k0:=below_alloc w (Nat.le_refl _) (.cells #[.int .i64 0,.int .i64 0] 30)
  have b0:=(Box.new w #[.int .i64 0,.int .i64 0] 30)
  obtain ⟨W0,hW0⟩:∃ W,w.alloc (.cells #[.int .i64 0,.int .i64 0] 30)=W:=⟨_,rfl⟩
  rw [hW0] at k0 b0
  have s0:=k0.size
  have hf0:=(hf.step k0).more s0
  have hc1:=(hc.step k0).more s0
  have K1:=Lib.hid (nettake_any Af nf cf W0 hnf fb hf0 tn (Lib.hid htn))
  have K2:=Lib.hid (fun w' (hw:Below W0.heap.size W0 w')=>cftake_any Ac nc cc w' hnc cb ((hc1.step hw).more hw.size) tc (Lib.hid htc))
  have l0:=b0.lt
  clear hn0 hc0 hf hc hf0 hc1 htn htc
  obtain ⟨ls,e1⟩:=tn
  obtain ⟨v,ks,d,tr,nodes,e2⟩:=tc
  go_enter Tryz.func10,Tryz.ntmps10
  go_upto_region 1 with fail
  clear hW0
  go_upto_region 2 with (first
    | (go_at_call 11;refine (K1.out).mono ?_;rintro e w1 ⟨A1,n1,c1,ns,rfl,hr1,hls,hb1⟩)
    | ((with_reducible refine on_store_at (.tmp 5) ?_);refine wb_store (cs:=#[.slice none 0 0]) (cs':=#[.slice A1 n1 c1]) rfl _ (.tmp 5) _ rfl st_net rfl rfl (Box.new w1 _ _) rfl rfl (by simp [Value.oneCell']) ?_;intro w2 bx2 hg2))
  have K12:Below W0.heap.size W0 w2:=(hb1.trans (below_alloc w1 hb1.size _)).grown hg2 (hb1.trans (below_alloc w1 hb1.size _)).size (fun j e=>by injection e with e;have:=hb1.size;omega)
  have b02:=b0.step K12
  have s2:=K12.size
  have s1:=hb1.size
  by_cases he:e1≠0
  · have hb:(e1 != 0)=true:=by simpa using he
    go_wp2_with ((with_reducible refine on_store_at (.tmp 4) ?_);refine wb_store (cs:=#[.int .i64 0,.int .i64 0]) (cs':=#[.int .i64 0,.int .i64 e1]) rfl _ (.tmp 4) _ rfl st_answer rfl rfl b02 rfl rfl (by simp [Value.oneCell']) ?_;intro wf bf hgf)
    refine bodyPost_ret (v:=.agg #[.int .i64 0,.int .i64 e1]) ?_ rfl ⟨(k0.trans (K12.mono s0)).grown hgf (by omega) (fun j e=>by injection e with e;omega),.inr ⟨e1,rfl,he,fun h=>he h.1⟩⟩
    exact results_cell_row rfl _ wf w.heap.size 30 _ (0,0) _ rfl bf.at_ Tryz.underlying30 rfl st_answer.size
  · have he0:e1=0:=by simpa using he
    subst he0
    clear he
    have hN:=Hn0.out rfl
    have hB1:Below w1.heap.size w1 w2:=(below_alloc w1 (Nat.le_refl _) (.cells #[.slice none 0 0] 34)).grown hg2 (below_alloc w1 (Nat.le_refl _) _).size (fun j e=>by injection e with e;omega)
    have hr2:=(hr1.step hB1).more hB1.size
    have hgn:w.heap.size < w1.heap.size:=by omega
    obtain ⟨gn,hgn'⟩:∃ g,w1.heap.size=g:=⟨_,rfl⟩
    rw [hgn'] at bx2 hgn
    have hlen:=hr2.len
    have HN:=Lib.hid hN
    have Hls:=Lib.hid hls
    clear hr1 hg2 hb1 hN hls hB1
    go_upto_region 5 with (first
      | (go_at_call 12;refine (K2.out _ K12).mono ?_;rintro e w3 ⟨Ap,np,cp,At,nt,ct,ps,rfl,hp3,hks,ht3,hb3⟩)
      | ((with_reducible refine on_store_at (.tmp 7) ?_);refine wb_store (cs:=Cv 0 none 0 0 0 none 0 0) (cs':=Cv v Ap np cp d At nt ct) rfl _ (.tmp 7) _ rfl st_cert rfl rfl (Box.new w3 _ _) rfl rfl (by simp [Cv,Value.oneCell']) ?_;intro w4 bx4 hg4))
    have hB3:Below w3.heap.size w3 w4:=(below_alloc w3 (Nat.le_refl _) (.cells (Cv 0 none 0 0 0 none 0 0) 40)).grown hg4 (below_alloc w3 (Nat.le_refl _) _).size (fun j e=>by injection e with e;omega)
    have s3:=hb3.size
    have hB24:Below w2.heap.size w2 w4:=hb3.trans (hB3.mono s3)
    have K4:Below W0.heap.size W0 w4:=K12.trans (hB24.mono s2)
    have s4:=hB24.size
    have b04:=b02.step hB24
    have bn4:=bx2.step hB24
    have hp4:=(hp3.step hB3).more hB3.size
    have ht4:=(ht3.step hB3).more hB3.size
    have hr4:=(hr2.step hB24).more s4
    clear hg4 hB3 hp3 ht3 hb3 K2 K1
    by_cases he:e2≠0
    · have hb:(e2 != 0)=true:=by simpa using he
      go_wp2_with ((with_reducible refine on_store_at (.tmp 4) ?_);refine wb_store (cs:=#[.int .i64 0,.int .i64 0]) (cs':=#[.int .i64 0,.int .i64 e2]) rfl _ (.tmp 4) _ rfl st_answer rfl rfl b04 rfl rfl (by simp [Value.oneCell']) ?_;intro wf bf hgf)
      refine bodyPost_ret (v:=.agg #[.int .i64 0,.int .i64 e2]) ?_ rfl ⟨(k0.trans (K4.mono s0)).grown hgf (by omega) (fun j e=>by injection e with e;omega),.inr ⟨e2,rfl,he,fun h=>he h.2.1⟩⟩
      exact results_cell_row rfl _ wf w.heap.size 30 _ (0,0) _ rfl bf.at_ Tryz.underlying30 rfl st_answer.size
    · have he0:e2=0:=by simpa using he
      subst he0
      clear he
      have y4:w4.cell? ⟨gn,0,none⟩=some (.slice A1 n1 c1):=bn4.cell 0
      have hln:ls.length=n1:=by rw [← Hls.out,Nd.ls_len];exact hlen
      have HC:=Lib.hid (Hc0.out rfl)
      by_cases hnn:nodes≠(n1:Int)
      · have hb:(nodes != (n1:Int))=true:=by simpa using hnn
        go_wp2_with ((with_reducible refine on_store_at (.tmp 4) ?_);refine wb_store (cs:=#[.int .i64 0,.int .i64 0]) (cs':=#[.int .i64 0,.int .i64 1]) rfl _ (.tmp 4) _ rfl st_answer rfl rfl b04 rfl rfl (by simp [Value.oneCell']) ?_;intro wf bf hgf)
        refine bodyPost_ret (v:=.agg #[.int .i64 0,.int .i64 1]) ?_ rfl ⟨(k0.trans (K4.mono s0)).grown hgf (by omega) (fun j e=>by injection e with e;omega),.inr ⟨1,rfl,by omega,fun h=>hnn (by have:=h.2.2.1;simp only at this;omega)⟩⟩
        exact results_cell_row rfl _ wf w.heap.size 30 _ (0,0) _ rfl bf.at_ Tryz.underlying30 rfl st_answer.size
      · have hnn0:nodes=(n1:Int):=by simpa using hnn
        subst hnn0
        clear hnn
        have hcm:cmay v ps d tr n1=0:=by
          have h1:=HC.out.2
          rw [← hks,cmayK_of] at h1
          exact h1
        have K5:=Lib.hid ((cknet_any A1 n1 c1 ns v Ap np cp d At nt ct ps tr w4 hr4 (by rw [Hls.out];exact HN.out.may) (by rw [Hls.out];exact ckeys_small HN.out.may) hp4 ht4 (cin_d HC.out.1) hcm).mono fun e w' h=>ckR_is h)
        have hck:=Lib.hid (checkK_of (ls:=ls) (t:=⟨v,ks,d,tr,n1,0⟩) hks)
        clear hr4 hp4 ht4 hcm
        go_wp2_with (first
          | ((with_reducible refine on_load (.tmp 5) ?_);refine wb_load rfl _ (.tmp 5) rfl st_net rfl bn4 rfl ?_)
          | ((with_reducible refine on_load (.tmp 7) ?_);refine wb_load rfl _ (.tmp 7) rfl st_cert rfl bx4 rfl ?_)
          | (go_at_call 34;refine (K5.out).mono ?_;rintro e w5 ⟨hb5,x5,c5,rfl,h5⟩;have b05:=b04.step hb5;have s5:=hb5.size)
          | ((with_reducible refine on_store_at (.tmp 4) ?_);refine wb_store (cs:=#[.int .i64 0,.int .i64 0]) (cs':=#[.int .i64 x5,.int .i64 c5]) rfl _ (.tmp 4) _ rfl st_answer rfl rfl b05 rfl rfl (by simp [Value.oneCell']) ?_;intro wf bf hgf))
        refine bodyPost_ret (v:=.agg #[.int .i64 x5,.int .i64 c5]) ?_ rfl ⟨((k0.trans (K4.mono s0)).trans (hb5.mono (by omega))).grown hgf (by omega) (fun j e=>by injection e with e;omega),?_⟩
        · exact results_cell_row rfl _ wf w.heap.size 30 _ (0,0) _ rfl bf.at_ Tryz.underlying30 rfl st_answer.size
        · have hq:=hck.out
          rw [Hls.out] at h5
          rcases h5 with ⟨rfl,rfl,h6⟩ | ⟨rfl,h7,h6⟩
          · exact .inl ⟨rfl,rfl,rfl,by simp only;omega,hq.1 h6⟩
          · exact .inr ⟨c5,rfl,h7,fun h=>h6 (hq.2 h.2.2.2)⟩
end Go.Proofs.YtjandnidljbkoaaGreat
