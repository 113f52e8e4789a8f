/-
  tool.Analyze, walked.
-/
import Derived.Test.YtjandnidljbkoaaGreatGTpTool2
set_option linter.unusedVariables false
namespace Go.Proofs.YtjandnidljbkoaaGreat
open Go.RowKit Go.Th
def CertOf (ls:List (List Ru)) (t:CR):Prop:=t.e=0∧t.nodes=ls.length∧((t.v=1∧t.d=0∧t.tr=[]∧AFree ls t.ks)∨(t.v=2∧t.ks=[]∧ALoop ls t.d t.tr))
def AnzR (ls:List (List Ru)) (w:World) (e:Ending) (w':World):Prop :=
  ∃ A n c bs,e=.returned (.tuple #[.slice A n c,.int .i64 0])∧OwS bv w' w.heap.size 5 A n c bs∧Below w.heap.size w w'∧bs.length≤1000000∧CertOf ls (ftk bs)
theorem ftk_cput {v d nodes:Int} {ks:List PK} {tr:List Int} (h:CIn v ks d tr nodes) (hm:cmayK v ks d tr nodes=0):ftk (fput 1129468977 (cbody v ks d tr nodes))=⟨v,ks,d,tr,nodes,0⟩:=by
  unfold ftk
  rw [ftake_fput]
  simp [ctake_cbody h hm]
theorem anetR_is {ls:List (List Ru)} {w:World} {e:Ending} {w':World} (hN:NetOk ls) (hl:(ckeys ls).length≤12) (h:ANetR ls w e w'):∃ (v:Int) (Ap:Option Addr) (np cp:Nat) (d:Int) (At:Option Addr) (nt ct:Nat) (ps:List Pt) (tr:List Int),e=.returned (.tuple #[.agg #[.int .i64 v,.slice Ap np cp,.int .u32 d,.slice At nt ct],.int .i64 0])∧PRd w' w'.heap.size Ap np cp ps∧RdS iv w' w'.heap.size At nt ct tr∧Below w.heap.size w w'∧CIn v (ps.map pkey) d tr ls.length∧cmay v ps d tr ls.length=0∧(cbody v (ps.map pkey) d tr ls.length).length≤999000∧CertOf ls ⟨v,ps.map pkey,d,tr,ls.length,0⟩:=by
  obtain ⟨v,Ap,np,cp,d,At,nt,ct,ps,tr,he,h1,h2,h3,h4,h5⟩:=h
  have key:CIn v (ps.map pkey) d tr ls.length∧cmayK v (ps.map pkey) d tr ls.length=0∧(ps.map pkey).length≤12∧CertOf ls ⟨v,ps.map pkey,d,tr,ls.length,0⟩:=by
    rcases h5 with ⟨rfl,rfl,rfl,h5⟩ | ⟨rfl,rfl,h5⟩
    · have h6:=afree_ok hN h5
      refine ⟨h6.1,h6.2,?_,rfl,rfl,.inl ⟨rfl,rfl,rfl,h5⟩⟩
      have h7:=h5.1
      have h8:=(atOk (vecOf ls) (cutsOf ls)).sub.length_le
      have h9:(cutsOf ls).length=(ckeys ls).length:=by unfold cutsOf;rw [List.length_mergeSort]
      have h10:(atomsOf ls).fr.length≤(cutsOf ls).length:=h8
      omega
    · have h6:=aloop_ok hN h5
      exact ⟨h6.1,h6.2,by simp,rfl,rfl,.inr ⟨rfl,rfl,h5⟩⟩
  obtain ⟨k1,k2,k3,k4⟩:=key
  refine ⟨v,Ap,np,cp,d,At,nt,ct,ps,tr,he,h1,h2,h3,k1,by rw [← cmayK_of];exact k2,?_,k4⟩
  have hn:=hN.len
  obtain ⟨_,hk⟩:=k1
  unfold cbody
  have g1:=gsize_pos ((ls.length:Int)).toNat
  have g2:=gsize_pos (ps.map pkey).length
  have g3:=gsize_pos tr.length
  rw [List.length_append,List.length_append,be_length,gput_length]
  rcases hk with ⟨rfl,_,_,_,hp⟩ | ⟨rfl,_,_,ht,_⟩
  · rw [if_pos rfl,List.length_append,gput_length]
    have:=pbodies_short (by omega) hp
    omega
  · rw [if_neg (by omega),List.length_append,List.length_append,gput_length,be_length]
    have:=gN_len tr
    omega
set_option maxRecDepth 100000 in
set_option maxHeartbeats 4000000 in
theorem tanalyze_any (Af:Option Addr) (nf cf:Nat) (w:World) (fb:List UInt8) (hf:RdS bv w w.heap.size Af nf cf fb) (hnf:nf≤1000000) (ls:List (List Ru)) (hls:ntk fb=(ls,0)) (hl:(ckeys ls).length≤12) :
    Calls Tryz.prog 36 #[.slice Af nf cf] w (AnzR ls w):=by
  have hm:nmay ls=0:=by
    have:=@ntk_ok fb (by rw [hls])
    rw [hls] at this
    exact this.may
  have K1:=Lib.hid (nettake_any Af nf cf w hnf fb hf (ls,0) (Lib.hid hls))
  have HL:=Lib.hid hl
  have HM:=Lib.hid hm
  clear hl hm hls hf
  go_enter Tryz.func36,Tryz.ntmps36
  go_upto_region 2 with (first
    | (go_at_call 11;refine (K1.out).mono ?_;rintro e w1 ⟨A1,n1,c1,ns,rfl,hr1,hls,hb1⟩)
    | ((with_reducible refine on_store_at (.tmp 4) ?_);refine wb_store (cs:=#[.slice none 0 0]) (cs':=#[.slice A1 n1 c1]) rfl _ (.tmp 4) _ rfl st_net rfl rfl (Box.new w1 _ _) rfl rfl (by simp [Value.oneCell']) ?_;intro w2 bx2 hg2))
  have hB1:Below w1.heap.size w1 w2:=(below_alloc w1 (Nat.le_refl _) (.cells #[.slice none 0 0] 34)).grown hg2 (below_alloc w1 (Nat.le_refl _) _).size (fun j e=>by injection e with e;omega)
  have s1:=hb1.size
  have K12:Below w.heap.size w w2:=hb1.trans (hB1.mono s1)
  have s2:=K12.size
  have hr2:=(hr1.step hB1).more hB1.size
  have hlen:=hr2.len
  have Hls:=Lib.hid hls
  obtain ⟨gn,hgn'⟩:∃ g,w1.heap.size=g:=⟨_,rfl⟩
  rw [hgn'] at bx2 ⊢
  clear hgn'
  have hm2:nmay (Nd.ls ns)=0:=by rw [hls];exact HM.out
  have hN:=netok_of hr2 hm2
  have hl2:(ckeys (Nd.ls ns)).length≤12:=by rw [hls];exact HL.out
  have K3:=Lib.hid ((anet_any A1 n1 c1 ns w2 _ hr2 hm2 (by omega)).mono fun e w' h=>anetR_is hN hl2 h)
  clear hr1 hg2 hb1 hls hB1 K1 HL HM hm2 hN hl2
  go_upto_region 5 with (first
    | ((with_reducible refine on_load (.tmp 4) ?_);refine wb_load rfl _ (.tmp 4) rfl st_net rfl bx2 rfl ?_)
    | (go_at_call 31;refine (K3.out).mono ?_;rintro e w3 ⟨v,Ap,np,cp,d,At,nt,ct,ps,tr,rfl,hp3,ht3,hb3,hin,hcm,hlen3,hco⟩)
    | ((with_reducible refine on_store_at (.tmp 6) ?_);refine wb_store (cs:=Cv 0 none 0 0 0 none 0 0) (cs':=Cv v Ap np cp d At nt ct) rfl _ (.tmp 6) _ rfl st_cert rfl rfl (Box.new w3 _ _) rfl rfl (by simp [Cv,Value.oneCell']) ?_;intro w4 bx4 hg4))
  have hB3:Below w3.heap.size w3 w4:=(below_alloc w3 (Nat.le_refl _) (.cells (Cv 0 none 0 0 0 none 0 0) 40)).grown hg4 (below_alloc w3 (Nat.le_refl _) _).size (fun j e=>by injection e with e;omega)
  have s3:=hb3.size
  have hB24:Below w2.heap.size w2 w4:=hb3.trans (hB3.mono s3)
  have K4:Below w.heap.size w w4:=K12.trans (hB24.mono s2)
  have s4:=hB24.size
  have bn4:=bx2.step hB24
  have hp4:=(hp3.step hB3).more hB3.size
  have ht4:=(ht3.step hB3).more hB3.size
  have y4:w4.cell? ⟨gn,0,none⟩=some (.slice A1 n1 c1):=bn4.cell 0
  have hln:(Nd.ls ns).length=n1:=by rw [Nd.ls_len];exact hlen
  have hco2:=hco
  rw [Hls.out] at hco2
  have hin2:=hin
  have hcm2:=hcm
  rw [hln] at hin2 hcm2 hlen3
  have hcmK:cmayK v (ps.map pkey) d tr n1=0:=by rw [cmayK_of];exact hcm2
  have hfk:=ftk_cput hin2 hcmK
  have hfl:=fput_length 1129468977 (cbody v (ps.map pkey) d tr n1)
  obtain ⟨bs,hbs⟩:∃ b,fput 1129468977 (cbody v (ps.map pkey) d tr n1)=b:=⟨_,rfl⟩
  have K5:=Lib.hid (cfput_any v Ap np cp d At nt ct n1 w4 ps tr _ (Nat.le_refl _) hp4 ht4 hin2 hcm2 (by omega) bs hbs)
  have HF:Hid (CertOf ls (ftk bs)):=Lib.hid (by
    rw [← hbs,hfk]
    rw [← Hls.out,hln] at hco2
    rw [Hls.out] at hco2
    exact hco2)
  have hbl:bs.length≤1000000:=by rw [← hbs];omega
  clear hg4 hB3 hp3 ht3 hb3 K3 hin hcm hco hco2 hin2 hcm2 hcmK hfk hfl hbs hp4 ht4 hlen3
  go_wp2_with (first
    | ((with_reducible refine on_load (.tmp 6) ?_);refine wb_load rfl _ (.tmp 6) rfl st_cert rfl bx4 rfl ?_)
    | (go_at_call 90;refine (K5.out).mono ?_;rintro e w5 ⟨A5,n5,c5,rfl,ho5,hb5⟩))
  go_ret2
  exact ⟨A5,n5,c5,bs,rfl,ho5.base_le (by omega),K4.trans (hb5.mono (by omega)),hbl,HF.out⟩
end Go.Proofs.YtjandnidljbkoaaGreat
