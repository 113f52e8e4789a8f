/-
  The trie: put, Build.
-/
import Derived.Test.YtjandnidljbkoaaGreatGTpPut
set_option linter.unusedVariables false
namespace Go.Th
open Go.RowKit
theorem fill_bs (f:Fr) (t:Tr):(f.fill t).bs.Perm (f.b :: (f.o.bs ++ t.bs)):=by
  unfold Fr.fill
  split
  · exact List.Perm.refl _
  · exact List.Perm.cons _ List.perm_append_comm
theorem plug_bs:∀ (cx:List Fr) (t:Tr),(plug cx t).bs.Perm (fbs cx ++ t.bs)
  | [],t=>List.Perm.refl _
  | f :: cx,t=>by
    rw [plug,fbs]
    refine (plug_bs cx (f.fill t)).trans ?_
    refine ((fill_bs f t).append_left (fbs cx)).trans ?_
    refine List.perm_middle.trans ?_
    rw [List.cons_append]
    refine List.Perm.cons _ ?_
    rw [List.append_assoc,← List.append_assoc,← List.append_assoc]
    exact List.perm_append_comm.append_right t.bs
theorem hangT_bs (r:Ru) (b1 b2:Nat) (t:Tr):(hangT r b1 b2 t).bs.Perm (b1 :: t.bs)∨(hangT r b1 b2 t).bs.Perm (b1 :: b2 :: t.bs):=by
  cases t with
  | nil=>exact .inl (List.Perm.refl _)
  | node b a n rl is k0 k1 =>
    unfold hangT
    dsimp only
    split
    · split
      · exact .inl (List.Perm.refl _)
      · refine .inl (List.Perm.cons _ ?_)
        rw [Tr.bs,List.append_nil]
    · split
      · refine .inr ?_
        show List.Perm (b2 :: ([b1] ++ _)) _
        exact List.Perm.swap _ _ _
      · refine .inr ?_
        show List.Perm (b2 :: (_ ++ [b1])) _
        refine (List.Perm.cons _ List.perm_append_comm).trans ?_
        exact List.Perm.swap _ _ _
theorem plug_wf_hole:∀ (cx:List Fr) (t:Tr),(plug cx t).Wf→t.Wf
  | [],t,h=>h
  | f :: cx,t,h=>by
    have:=plug_wf_hole cx (f.fill t) h
    unfold Fr.fill at this
    split at this
    · exact this.2.2.2.2.2.2.2
    · exact this.2.2.2.2.2.2.1
theorem Box.setRule {w:World} {g:Nat} {t:TypeId} {a:Int} {n:Nat} {rl:Ru} {is:Bool} {v0 v1:Value} (h:Box w g t (forkC a n rl is v0 v1)) (r:Ru):Box (w.setCells g 2 r.cs) g t (forkC a n r is v0 v1)∧w.grownBy (w.setCells g 2 r.cs) (some g):=by
  have s1:=h.setCell 2 (.int .u32 r.a)
  have s2:=s1.1.setCell 3 (.int .i64 r.n)
  have s3:=s2.1.setCell 4 (.int .i64 r.act)
  have s4:=s3.1.setCell 5 (.int .i64 r.next)
  exact ⟨s4.1,s1.2.trans (s2.2.trans (s3.2.trans s4.2))⟩
theorem wf_store {P:Program} {ops:Array Oper} {rest:List Oper} {o:Oper} {A:Act} {Q:Exit→Act→World→Prop} {w:World} (hw:Region.wanted o (yielded ops A.tmps)=true) (T:TypeId) (x y:Operand) (ho:o.op=.store T x y) (hs:(P.info? T).map (·.size)=some 4) {g:Nat} {t:TypeId} {a:Int} {n:Nat} {rl:Ru} {is:Bool} {v0 v1:Value}
    (hx:A.eval x=.pointer (some ⟨g,2,none⟩)) (r:Ru) (hy:A.eval y=.agg #[.int .u32 r.a,.int .i64 r.n,.int .i64 r.act,.int .i64 r.next]) (hb:Box w g t (forkC a n rl is v0 v1))
    (h:∀ w',Box w' g t (forkC a n r is v0 v1)→w.grownBy w' (some g)→wpList P ops Q rest (A.put o.dst undef) w'):wpList P ops Q (o :: rest) A w:=by
  obtain ⟨h2,h3⟩:=hb.setRule r
  have ht:w.there g 2 (#[.int .u32 r.a,.int .i64 r.n,.int .i64 r.act,.int .i64 r.next]:Array Value).size:=fun j hj=>by
    refine ⟨?_,hb.frozen _⟩
    rw [hb.cell]
    have hj:j < 4:=hj
    have:j=0∨j=1∨j=2∨j=3:=by omega
    rcases this with rfl | rfl | rfl | rfl <;> rfl
  refine wl_run0 hw ?_ (h _ h2 h3)
  simp only [execOp,ho,hx,hy,Instr.storeAt,Instr.sureAddr,Sem.run_bind,Sem.run_pure,Result.andThen_ok,run_storeVar_mid w g 2 T #[.int .u32 r.a,.int .i64 r.n,.int .i64 r.act,.int .i64 r.next] ht (by rw [hs];rfl) (by simp [Value.oneCell'])]
  rfl
structure TrieAt (TT T:TypeId) (w:World) (base gt:Nat) (t:Tr) (size:Int):Prop where
  top:Box w gt TT #[t.ptr,.int .i64 size]
  at_:TAt T w t
  nd:t.bs.Nodup
  ne:gt ∉ t.bs
  ge:∀ b∈t.bs,base≤b
  gg:base≤gt
theorem TrieAt.step {TT T:TypeId} {w w':World} {base gt:Nat} {t:Tr} {size:Int} (h:TrieAt TT T w base gt t size) (hb:Below w.heap.size w w'):TrieAt TT T w' base gt t size:=⟨h.top.step hb,TAt.step hb h.at_,h.nd,h.ne,h.ge,h.gg⟩
theorem TrieAt.hole {TT T:TypeId} {w:World} {base gt:Nat} {cx:List Fr} {t:Tr} {size:Int} (h:TrieAt TT T w base gt (plug cx t) size):ZH TT T w gt cx t.ptr size∧TAt T w t∧(fbs cx ++ t.bs).Nodup∧gt ∉ t.bs∧base≤holeB gt cx:=by
  have hp:=plug_bs cx t
  have h2:=(plug_at cx t).1 h.at_
  have hn:=hp.nodup_iff.1 h.nd
  have hne:gt ∉ fbs cx ++ t.bs:=fun hm=>h.ne (hp.mem_iff.2 hm)
  simp only [List.mem_append,not_or] at hne
  refine ⟨⟨by rw [← rootv_plug];exact h.top,h2.1,hne.1,(List.nodup_append.1 hn).1⟩,h2.2,hn,hne.2,?_⟩
  cases cx with
  | nil=>exact h.gg
  | cons f cx=>exact h.ge _ (hp.mem_iff.2 (by simp [fbs,holeB]))
theorem TrieAt.fill {TT T:TypeId} {w:World} {base gt:Nat} {cx:List Fr} {t:Tr} {size:Int} (hz:ZH TT T w gt cx t.ptr size) (ht:TAt T w t) (hn:(fbs cx ++ t.bs).Nodup) (hne:gt ∉ t.bs) (hge:∀ b∈fbs cx ++ t.bs,base≤b) (hg:base≤gt):TrieAt TT T w base gt (plug cx t) size:=by
  have hp:=plug_bs cx t
  refine ⟨by rw [rootv_plug];exact hz.top,(plug_at cx t).2 ⟨hz.fr,ht⟩,hp.nodup_iff.2 hn,fun hm=>?_,fun b hb=>hge b (hp.mem_iff.1 hb),hg⟩
  have:=hp.mem_iff.1 hm
  simp only [List.mem_append] at this
  rcases this with h | h
  · exact hz.ne h
  · exact hne h
end Go.Th
namespace Go.Proofs.YtjandnidljbkoaaGreat
open Go.RowKit Go.Th
theorem meet_under {r:Ru} (hr:RuP r) {a:Int} {n:Nat} (ha:0≤a∧a≤4294967295) (hn:n≤32):meetN a n r.a r.n.toNat=n↔under r a n:=by
  have h1:=cmn_hd ha ⟨hr.a0,hr.a1⟩ hn
  unfold meetN under
  constructor
  · intro h
    exact ⟨by omega,(h1.1 (by omega)).symm⟩
  · rintro ⟨h2,h3⟩
    have:=h1.2 h3.symm
    omega
def PutR (base gt:Nat) (r:Ru) (sz:Int) (t:Tr) (w:World) (e:Ending) (w':World):Prop :=
  e=.returned (.tuple #[])∧∃ (b1 b2:Nat) (size:Int),TrieAt 115 123 w' base gt (putT r b1 b2 t) size∧0≤size∧size≤sz+2∧Below base w w'
def pdep (v:Value) (w:World):Nat:=match v with
  | .pointer (some a)=>match w.cell? a with
    | some u=>fdep u w
    | none=>0
  | _=>0
theorem pdep_at {w:World} {g j:Nat} {v:Value} (h:w.cell? ⟨g,j,none⟩=some v):pdep (.pointer (some ⟨g,j,none⟩)) w=fdep v w:=by
  unfold pdep
  simp only [h]
def PtRel (r:Ru) (gt:Nat) (T0:Tr) (w0:World) (s5:Value) (wr:World):Prop :=
  ∃ (cx:List Fr) (t:Tr),s5=.pointer (some ⟨holeB gt cx,holeJ cx,none⟩)∧Hid (T0=plug cx t)∧Hid (∀ b1 b2,putT r b1 b2 T0=plug cx (putT r b1 b2 t))∧Below w0.heap.size w0 wr
theorem put_hung {base gt:Nat} {cx:List Fr} {r:Ru} {sz:Int} {T0 t:Tr} {w w1 w2:World} {fb:Nat} {e:Ending} (h0:T0=plug cx t) (hp:∀ b1 b2,putT r b1 b2 T0=plug cx (putT r b1 b2 t)) (hpt:∀ b1 b2,putT r b1 b2 t=hangT r b1 b2 t) (hT:TrieAt 115 123 w base gt T0 sz)
    (hb:Below base w w1) (hbw:base≤w.heap.size) (hfb:w.heap.size≤fb) (hf1:fb < w1.heap.size) (hh:HangR base gt cx r fb sz t w1 e w2):PutR base gt r sz T0 w e w2:=by
  obtain ⟨he,b2,size,hb2,hz,hs0,hs1,hat,hbel⟩:=hh
  subst h0
  obtain ⟨_,_,hn,hne,_⟩:=hT.hole
  have hp0:=plug_bs cx t
  have hlt:∀ b∈fbs cx ++ t.bs,b < w.heap.size:=fun b hb=>TAt.lt hT.at_ b (hp0.mem_iff.2 hb)
  have hge:∀ b∈fbs cx ++ t.bs,base≤b:=fun b hb=>hT.ge b (hp0.mem_iff.2 hb)
  have hgl:=hT.top.lt
  have hw1:base≤w1.heap.size:=Nat.le_trans hbw hb.size
  refine ⟨he,fb,b2,size,?_,hs0,hs1,hb.trans hbel⟩
  rw [hp,hpt]
  have hlt2:fb < b2:=by omega
  have nfb:fb ∉ fbs cx ++ t.bs:=fun h=>by have:=hlt fb h;omega
  have nb2:b2 ∉ fbs cx ++ t.bs:=fun h=>by have:=hlt b2 h;omega
  have hw12:w.heap.size≤w1.heap.size:=by
    omega
  rcases hangT_bs r fb b2 t with hp2 | hp2
  · refine TrieAt.fill hz hat ((hp2.append_left (fbs cx)).trans List.perm_middle |>.nodup_iff.2 (List.nodup_cons.2 ⟨nfb,hn⟩)) (fun h=>?_) (fun b hb=>?_) hT.gg
    · rcases List.mem_cons.1 (hp2.mem_iff.1 h) with h | h
      · omega
      · exact hne h
    · rcases List.mem_append.1 hb with hb | hb
      · exact hge b (List.mem_append_left _ hb)
      · rcases List.mem_cons.1 (hp2.mem_iff.1 hb) with hb | hb
        · omega
        · exact hge b (List.mem_append_right _ hb)
  · refine TrieAt.fill hz hat ((hp2.append_left (fbs cx)).trans (List.perm_middle.trans (List.Perm.cons _ List.perm_middle)) |>.nodup_iff.2 (List.nodup_cons.2 ⟨fun h=>?_,List.nodup_cons.2 ⟨nb2,hn⟩⟩)) (fun h=>?_) (fun b hb=>?_) hT.gg
    · rcases List.mem_cons.1 h with h | h
      · omega
      · exact nfb h
    · rcases List.mem_cons.1 (hp2.mem_iff.1 h) with h | h
      · omega
      · rcases List.mem_cons.1 h with h | h
        · omega
        · exact hne h
    · rcases List.mem_append.1 hb with hb | hb
      · exact hge b (List.mem_append_left _ hb)
      · rcases List.mem_cons.1 (hp2.mem_iff.1 hb) with hb | hb
        · omega
        · rcases List.mem_cons.1 hb with hb | hb
          · omega
          · exact hge b (List.mem_append_right _ hb)
set_option maxRecDepth 100000 in
set_option maxHeartbeats 4000000 in
theorem tput_any (base gt:Nat) (r:Ru) (hr:RuP r) (T0:Tr) (size:Int) (w:World) (hT:TrieAt 115 123 w base gt T0 size) (hw:T0.Wf) (hs:0≤size∧size≤1000000) (hbw:base≤w.heap.size) :
    Calls Tryz.prog 55 #[.pointer (some ⟨gt,0,none⟩),.agg #[.int .u32 r.a,.int .i64 r.n,.int .i64 r.act,.int .i64 r.next]] w (PutR base gt r size T0 w):=by
  obtain ⟨rn,hrn⟩:∃ k,r.n.toNat=k:=⟨_,rfl⟩
  have hn0:=hr.n0
  have hn1:=hr.n1
  have hrn32:rn≤32:=by omega
  have hrni:r.n=(rn:Int):=by omega
  have hra:0≤r.a∧r.a≤4294967295:=⟨hr.a0,hr.a1⟩
  obtain ⟨rv,hrv⟩:∃ v:Int,r.n=v:=⟨_,rfl⟩
  have k3:=below_alloc w (Nat.le_refl _) (.cells #[.int .u32 r.a,.int .i64 (rn:Int),.int .i64 r.act,.int .i64 r.next] 52)
  have b3:=Box.new w #[.int .u32 r.a,.int .i64 (rn:Int),.int .i64 r.act,.int .i64 r.next] 52
  rw [hrni]
  have Hrn:=Lib.hid hrn
  have Hrni:=Lib.hid hrni
  clear hrv hrni hrn rv hn0 hn1
  go_enter Tryz.func55,Tryz.ntmps55
  go_upto_region 1 with fail
  obtain ⟨w1,hw1⟩:∃ W,w.alloc (.cells #[.int .u32 r.a,.int .i64 (rn:Int),.int .i64 r.act,.int .i64 r.next] 52)=W:=⟨_,rfl⟩
  rw [hw1] at k3 b3 ⊢
  clear hw1
  have y0:w1.cell? ⟨w.heap.size,0,none⟩=some (.int .u32 r.a):=b3.cell 0
  have y1:w1.cell? ⟨w.heap.size,1,none⟩=some (.int .i64 (rn:Int)):=b3.cell 1
  go_upto_region 3 with (first
    | ((with_reducible refine on_alloc ?_);refine wl_newBox rfl _ rfl z_span ?_;intro g4 w2 hg4 hl4 bg4 hb4)
    | ((with_reducible refine on_store_at (.tmp 4) ?_);refine wb_store (cs:=#[.int .u32 0,.int .i64 0]) (cs':=#[.int .u32 r.a,.int .i64 (rn:Int)]) rfl _ (.tmp 4) _ rfl st_span rfl rfl bg4 rfl rfl (by simp [Value.oneCell']) ?_;intro w3 b4 hg3))
  have k23:=hb4.trans (below_of_grown (B:=w1.heap.size) hg3 (fun j e=>by injection e with e;omega) hb4.size)
  have kW:=k3.trans (k23.mono k3.size)
  have b3W:=b3.step k23
  have hTW:=hT.step kW
  have HT:=Lib.hid hT
  have l3:=b3.lt
  clear k3 k23 hg3 hb4 bg4 y0 y1
  have hwb:Below base w w3:=kW.mono hbw
  go_wp2
  go_loopw [5] (fun s5 wr=>PtRel r gt T0 w3 s5 wr) (fun s5 wr=>pdep s5 wr)
  case atStart=>exact ⟨[],T0,rfl,Lib.hid rfl,Lib.hid (fun _ _=>rfl),Below.refl _ _⟩
  case round =>
    obtain ⟨cx,t,rfl,h0,hp,hb⟩:=hrel
    have hTr:=hTW.step hb
    have hTr2:=hTr
    rw [h0.out] at hTr2
    obtain ⟨hz,hat,hnd,hgt,hge⟩:=hTr2.hole
    have hwt:=plug_wf_hole cx t (by rw [← h0.out];exact hw)
    obtain ⟨cv,fzv⟩:=hz.cell
    have b3r:=b3W.step hb
    have b4r:=b4.step hb
    have kr:=kW.trans (hb.mono kW.size)
    have hpd:=pdep_at cv
    obtain ⟨pb,hpb⟩:∃ x,holeB gt cx=x:=⟨_,rfl⟩
    obtain ⟨pj,hpj⟩:∃ x,holeJ cx=x:=⟨_,rfl⟩
    have Hpb:=Lib.hid hpb
    have Hpj:=Lib.hid hpj
    rw [hpb,hpj] at cv hpd ⊢
    clear hTr2 fzv hpb hpj
    cases t with
    | nil =>
      have cv':wr.cell? ⟨pb,pj,none⟩=some (.pointer none):=cv
      clear cv hpd
      obtain ⟨W,hW⟩:∃ W,wr.alloc (.cells #[.int .u32 r.a,.int .i64 (rn:Int),.int .u32 r.a,.int .i64 (rn:Int),.int .i64 r.act,.int .i64 r.next,.bool true,.pointer none,.pointer none] 123)=W:=⟨_,rfl⟩
      have kWW:Below wr.heap.size wr W:=by rw [← hW];exact below_alloc wr (Nat.le_refl _) _
      have fW:Box W wr.heap.size 123 (forkC r.a r.n.toNat r true Tr.nil.ptr Tr.nil.ptr):=by
        rw [← hW]
        have:=Box.new wr #[.int .u32 r.a,.int .i64 (rn:Int),.int .u32 r.a,.int .i64 (rn:Int),.int .i64 r.act,.int .i64 r.next,.bool true,.pointer none,.pointer none] 123
        unfold forkC
        rw [Hrn.out,Hrni.out]
        exact this
      have zfb:wr.heap.size < W.heap.size:=fW.lt
      have hzr:w.heap.size≤wr.heap.size:=kr.size
      have B1:Below base w W:=(kr.mono hbw).trans (kWW.mono (Nat.le_trans hbw hzr))
      have lF:=FAt.lt hz.fr
      have lg:=hz.top.lt
      have hba:base≤gt∧base≤holeB gt cx∧base≤W.heap.size:=⟨hTr.gg,hge,by omega⟩
      have KH:=Lib.hid (hang_nil base gt cx r wr.heap.size size W (hz.step kWW) hs fW ⟨by omega,fun h=>by have:=lF _ h;omega⟩ hba)
      rw [Hpb.out,Hpj.out] at KH
      clear kWW fW hba hge lF lg hat hz hTr hTW hT
      go_wp2_with (first
        | ((with_reducible refine on_load (.tmp 4) ?_);refine wb_load rfl _ (.tmp 4) rfl st_span rfl b4r rfl ?_)
        | ((with_reducible refine on_load (.tmp 3) ?_);refine wb_load rfl _ (.tmp 3) rfl st_rule rfl b3r rfl ?_)
        | (go_at_call 108;refine (KH.out).mono ?_;rintro e w9 ⟨rfl,b2,sz2,hx1,hx2,hx3,hx4,hx5,hx6⟩))
      refine bodyPost_end (results_none rfl _ _ _) rfl ?_
      exact put_hung h0.out hp.out (fun _ _=>rfl) HT.out B1 hbw hzr zfb ⟨rfl,b2,sz2,hx1,hx2,hx3,hx4,hx5,hx6⟩
    | node b a n rl is k0 k1 =>
      have cv':wr.cell? ⟨pb,pj,none⟩=some (.pointer (some ⟨b,0,none⟩)):=cv
      obtain ⟨hbx,hTk0,hTk1⟩:=hat
      have hat:TAt 123 wr (.node b a n rl is k0 k1):=⟨hbx,hTk0,hTk1⟩
      have hwn:=hwt
      obtain ⟨hn32,ha,hal,hrl,hu0,hu1,hw0,hw1⟩:=hwt
      obtain ⟨m,hm⟩:∃ m,meetN a n r.a rn=m:=⟨_,rfl⟩
      have Hm:=Lib.hid hm
      have hmu:m=n↔under r a n:=by rw [← hm,← Hrn.out];exact meet_under hr ha hn32
      have hm32:m≤n:=by unfold meetN at hm;omega
      have KM:=Lib.hid (fun w'=>smeet_any a n r.a rn w' ha hn32 hra hrn32 m Hm)
      obtain ⟨la,hla⟩:∃ x,ld a m=x:=⟨_,rfl⟩
      rw [hla] at KM
      have Hla:=Lib.hid hla
      have Hal:=Lib.hid hal
      have Hmu:=Lib.hid hmu
      have Hcv:=Lib.hid cv
      have Hpd:=Lib.hid hpd
      clear hla hal hmu hm cv hpd hTk0 hTk1
      go_upto_region 5 with fail
      have QF:Hid (∀ w',Below wr.heap.size wr w'→w'.cell? ⟨b,0,none⟩=some (.int .u32 a)∧w'.cell? ⟨b,1,none⟩=some (.int .i64 (n:Int))):=Lib.hid (fun w' h=>⟨(hbx.step h).cell 0,(hbx.step h).cell 1⟩)
      have QO:Hid (∀ w',Below wr.heap.size wr w'→w'.cell? ⟨g4,0,none⟩=some (.int .u32 r.a)∧w'.cell? ⟨g4,1,none⟩=some (.int .i64 (rn:Int))):=Lib.hid (fun w' h=>⟨(b4r.step h).cell 0,(b4r.step h).cell 1⟩)
      go_cut [7] from 23 to 28 (fun s7 wx=>∃ g7:Nat,wr.heap.size≤g7∧s7=.pointer (some ⟨g7,0,none⟩)∧Box wx g7 120 #[.int .u32 la,.int .i64 (m:Int)]∧Below wr.heap.size wr wx)
      case first =>
        have D:Below wr.heap.size wr wr.drew:=bdrew1 wr
        refine wp_region_tree (.float 0 1 (.float 4 1 (.two 1 (.float 2 2 (.two 5 (.one 6 (.one 7 .done)) 6 (.one 5 (.one 7 .done)))) 6 (.one 1 (.float 2 2 (.one 5 (.one 7 .done))))))) (Th.Reach wr.heap.size) (Th.Reach.trans _) (Th.Reach.refl _) (by kernel_rfl) (by kernel_rfl) (fun KT hKT=>?_)
        repeat' first
          | ((with_reducible refine wpTree_done ?_);refine hKT _ _ ?_;clear hKT KT)
          | (with_reducible refine wpTree_two ?_ ?_)
          | ((with_reducible refine wpTree_float (fun KF hKF=>?_));(simp only [List.drop,List.take]);(repeat (first | go_big_quiet_skip | ((with_reducible refine onq_load (.tmp 25) ?_);refine wq_spload rfl (.tmp 25) rfl rfl (fun w' h=>QF.out w' (D.trans h.below)) ?_) | ((with_reducible refine onq_load (.tmp 4) ?_);refine wq_spload rfl (.tmp 4) rfl rfl (fun w' h=>QO.out w' (D.trans h.below)) ?_) | go_big_quiet_step (fail) | quiet_step (fail)));refine wpQuiet_nil ?_;refine hKF _ ?_;clear hKF KF)
          | ((with_reducible refine wpTree_one (fun KO hKO=>?_));(simp only [List.drop,List.take]);(go_wp2_with (first | (go_at_call 106;refine (KM.out _).mono ?_;rintro e w8 ⟨rfl,hb8⟩;have D:=D.trans (hb8.mono D.size);have zD:=D.size;(try have bg:=bg.step hb8)) | ((with_reducible refine on_alloc ?_);refine wl_newBox rfl _ rfl z_span ?_;intro g7 w9 hg9 hl9 bg hb9;have hg7:wr.heap.size≤g7:=Nat.le_trans D.size hg9;have D:=D.trans (hb9.mono D.size);have zD:=D.size) | ((with_reducible refine on_store_at (.tmp 7) ?_);refine wb_store (cs:=#[.int .u32 0,.int .i64 0]) (cs':=#[.int .u32 la,.int .i64 (m:Int)]) rfl _ (.tmp 7) _ rfl st_span rfl rfl bg rfl rfl (by simp [Value.oneCell']) ?_;intro w10 b10 hg10;have hs10:=below_of_grown (B:=wr.heap.size) hg10 (fun j e=>by injection e with e;omega) D.size;have D:=D.trans hs10)));(refine anch_end (Th.Reach.of (by first | exact Below.refl _ _ | exact below_alloc _ (by first | omega | (simp;done) | (simp;omega)) _ | exact below_alloc2 _ (by first | omega | (simp;done) | (simp;omega)) _ _ | exact below_alloc2d _ (by simp) _ _ | exact bdrew _ _ | assumption | (exact Below.mono (by assumption) (by first | (simp;done) | (simp;omega) | omega | assumption)))) (hKO _ _ ?_));clear hKO KO)
        all_goals first
          | (refine Met.intro ?_;go_step;exact ⟨_,_,_,_,_,_,_,⟨_,hg7,rfl,b10,D⟩,rfl⟩)
          | (go_wp2;refine Met.intro ?_;go_step;exact ⟨_,_,_,_,_,_,_,⟨_,hg7,rfl,b10,D⟩,rfl⟩)
      case rest =>
        obtain ⟨g7,hg7,rfl,b7,hb7⟩:=hcut
        have hT7:=hTr.step hb7
        have hz7:=hz.step hb7
        have hat7:=TAt.step hb7 hat
        have b47:=b4r.step hb7
        have b37:=b3r.step hb7
        have hbx7:=hbx.step hb7
        have k7:=kr.trans (hb7.mono kr.size)
        have cv7:=Hcv.out
        have cv7:wc.cell? ⟨pb,pj,none⟩=some (.pointer (some ⟨b,0,none⟩)):=(hb7.cell (World.block_lt_of_cell? wr ⟨pb,pj,none⟩ cv')).trans cv'
        have Hat:=Lib.hid hat
        clear QF QO KM hTr hz hat hbx b4r b3r kr cv' hTW hT b4 b3W
        go_upto_region 6 with fail
        refine wp_region_reach (by kernel_rfl) (by kernel_rfl) ?_
        repeat (first | go_big_quiet_skip | ((with_reducible refine onq_load (.tmp 7) ?_);refine wq_spload rfl (.tmp 7) rfl rfl (fun w' h=>⟨(b7.step h.below).cell 0,(b7.step h.below).cell 1⟩) ?_) | ((with_reducible refine onq_load (.tmp 32) ?_);refine wq_spload rfl (.tmp 32) rfl rfl (fun w' h=>⟨(hbx7.step h.below).cell 0,(hbx7.step h.below).cell 1⟩) ?_) | ((with_reducible refine onq_bin (.tmp 29) ?_);refine wq_neqS rfl (.tmp 29) (.tmp 33) rfl rfl rfl ?_) | go_big_quiet_step (fail) | quiet_step (fail))
        refine wpQuiet_nil ?_
        rintro _ ⟨q,rfl⟩
        have hqw8:=q.h
        obtain ⟨w8,hw8'⟩:∃ W,q.w=W:=⟨_,rfl⟩
        rw [hw8'] at hqw8 ⊢
        clear hw8' q
        have hT8:=hT7.step hqw8
        have hz8:=hz7.step hqw8
        have hat8:=TAt.step hqw8 hat7
        have b48:=b47.step hqw8
        have b38:=b37.step hqw8
        have hbx8:=hbx7.step hqw8
        have k8:=k7.trans (hqw8.mono k7.size)
        have B8:=Lib.hid (hb.trans ((hb7.mono hb.size).trans (hqw8.mono (Nat.le_trans hb.size hb7.size))))
        clear hT7 hz7 hat7 b47 b37 hbx7 k7 cv7 b7
        by_cases hu:under r a n
        rotate_left
        · have hmn:¬ m=n:=fun e=>hu (Hmu.out.1 e)
          have hdec:(!(decide (la=a∧m=n)))=true:=by simp [hmn]
          rw [hdec]
          have Hu:=Lib.hid hu
          clear hdec hmn hu
          obtain ⟨W,hW⟩:∃ W,w8.alloc (.cells #[.int .u32 r.a,.int .i64 (rn:Int),.int .u32 r.a,.int .i64 (rn:Int),.int .i64 r.act,.int .i64 r.next,.bool true,.pointer none,.pointer none] 123)=W:=⟨_,rfl⟩
          have kWW:Below w8.heap.size w8 W:=by rw [← hW];exact below_alloc w8 (Nat.le_refl _) _
          have fW:Box W w8.heap.size 123 (forkC r.a r.n.toNat r true Tr.nil.ptr Tr.nil.ptr):=by
            rw [← hW]
            have:=Box.new w8 #[.int .u32 r.a,.int .i64 (rn:Int),.int .u32 r.a,.int .i64 (rn:Int),.int .i64 r.act,.int .i64 r.next,.bool true,.pointer none,.pointer none] 123
            unfold forkC
            rw [Hrn.out,Hrni.out]
            exact this
          have zfb:w8.heap.size < W.heap.size:=fW.lt
          have hzr:w.heap.size≤w8.heap.size:=k8.size
          have B1:Below base w W:=(k8.mono hbw).trans (kWW.mono (Nat.le_trans hbw hzr))
          have lF:=FAt.lt hz8.fr
          have lT:=TAt.lt hat8
          have lg:=hz8.top.lt
          have hba:base≤gt∧base≤holeB gt cx∧base≤W.heap.size∧base≤w8.heap.size:=⟨hT8.gg,hge,by omega,by omega⟩
          have KH:=Lib.hid (hang_node base gt cx r hr w8.heap.size size W b a n rl is k0 k1 (hz8.step kWW) hs fW (TAt.step kWW hat8) hn32 ha Hu.out ⟨by omega,fun h=>by have:=lF _ h;omega,fun h=>by have:=lT _ h;omega⟩ (fun x hx=>⟨fun e=>hgt (e ▸ hx),fun h=>(List.nodup_append.1 hnd).2.2 x h x hx rfl⟩) hba)
          rw [Hpb.out,Hpj.out] at KH
          clear kWW fW hba hge lF lT lg hat8 hz8 hT8 hbx8
          go_wp2_with (first
            | ((with_reducible refine on_load (.tmp 4) ?_);refine wb_load rfl _ (.tmp 4) rfl st_span rfl b48 rfl ?_)
            | ((with_reducible refine on_load (.tmp 3) ?_);refine wb_load rfl _ (.tmp 3) rfl st_rule rfl b38 rfl ?_)
            | (go_at_call 108;refine (KH.out).mono ?_;rintro e w9 ⟨rfl,b2,sz2,hx1,hx2,hx3,hx4,hx5,hx6⟩))
          refine bodyPost_end (results_none rfl _ _ _) rfl ?_
          exact put_hung h0.out hp.out (fun b1 b2=>by rw [putT,if_neg Hu.out]) HT.out B1 hbw hzr zfb ⟨rfl,b2,sz2,hx1,hx2,hx3,hx4,hx5,hx6⟩
        · have hmn:m=n:=Hmu.out.2 hu
          have hla2:la=a:=by rw [← Hla.out,hmn];exact Hal.out.symm
          have hdec:(!(decide (la=a∧m=n)))=false:=by simp [hmn,hla2]
          rw [hdec]
          have Hu:=Lib.hid hu
          clear hdec hmn hla2 hu
          go_upto_region 7 with fail
          refine wp_region_reach (by kernel_rfl) (by kernel_rfl) ?_
          repeat (first | go_big_quiet_skip | ((with_reducible refine onq_load (.tmp 4) ?_);refine wq_spload rfl (.tmp 4) rfl rfl (fun w' h=>⟨(b48.step h.below).cell 0,(b48.step h.below).cell 1⟩) ?_) | ((with_reducible refine onq_load (.tmp 38) ?_);refine wq_spload rfl (.tmp 38) rfl rfl (fun w' h=>⟨(hbx8.step h.below).cell 0,(hbx8.step h.below).cell 1⟩) ?_) | ((with_reducible refine onq_bin (.tmp 35) ?_);refine wq_eqlS rfl (.tmp 35) (.tmp 39) rfl rfl rfl ?_) | go_big_quiet_step (fail) | quiet_step (fail))
          refine wpQuiet_nil ?_
          rintro _ ⟨q,rfl⟩
          have hqw9:=q.h
          obtain ⟨w9,hw9'⟩:∃ W,q.w=W:=⟨_,rfl⟩
          rw [hw9'] at hqw9 ⊢
          clear hw9' q
          have hT9:=hT8.step hqw9
          have hz9:=hz8.step hqw9
          have hat9:=TAt.step hqw9 hat8
          have b49:=b48.step hqw9
          have b39:=b38.step hqw9
          have hbx9:=hbx8.step hqw9
          have k9:=k8.trans (hqw9.mono k8.size)
          have B9:=Lib.hid (B8.out.trans (hqw9.mono B8.out.size))
          clear hT8 hz8 hat8 b48 b38 hbx8 k8 B8 hqw9
          by_cases hnr:n=rn
          · have hra2:r.a=a:=by rw [hr.z,Hrn.out,← hnr,Hal.out];exact ld_eq Hu.out.2
            have hdec:decide (r.a=a∧rn=n)=true:=by simp [hnr,hra2]
            rw [hdec]
            have Hnr:=Lib.hid hnr
            clear hdec hra2 hnr
            have c6:w9.cell? ⟨b,6,none⟩=some (.bool is):=hbx9.cell 6
            cases is with
            | true =>
              go_wp2
              refine bodyPost_ret (results_none rfl _ _ _) rfl ?_
              refine ⟨rfl,0,0,size,?_,hs.1,by omega,k9.mono hbw⟩
              rw [hp.out,putT,if_pos Hu.out,if_pos (by rw [Hrn.out];exact Hnr.out),if_pos rfl,← h0.out]
              exact hT9
            | false =>
              go_wp2_with (first
                | ((with_reducible refine on_load (.tmp 3) ?_);refine wb_load rfl _ (.tmp 3) rfl st_rule rfl b39 rfl ?_)
                | ((with_reducible refine on_store_at (.tmp 50) ?_);refine wf_store rfl _ (.tmp 50) _ rfl st_rule.size rfl ⟨r.a,rn,r.act,r.next⟩ rfl hbx9 ?_;intro wA bA hgA;have cA:wA.cell? ⟨b,6,none⟩=some (.bool false):=bA.cell 6;have fA:=bA.frozen 6))
              refine bodyPost_ret (results_none rfl _ _ _) rfl ?_
              have S6:=bA.setCell 6 (.bool true)
              have nbg:b≠gt:=fun e=>hgt (by simp [Tr.bs,e])
              have nbf:b ∉ fbs cx:=fun h=>(List.nodup_append.1 hnd).2.2 b h b (by simp [Tr.bs]) rfl
              have hnk:=(List.nodup_append.1 hnd).2.1
              have nk:b ∉ k0.bs ++ k1.bs:=(List.nodup_cons.1 hnk).1
              simp only [List.mem_append,not_or] at nk
              have hzA:=(hz9.grown hgA nbg nbf).grown S6.2 nbg nbf
              have t0:=TAt.grown S6.2 (TAt.grown hgA hat9.2.1 nk.1) nk.1
              have t1:=TAt.grown S6.2 (TAt.grown hgA hat9.2.2 nk.2) nk.2
              have hr2:(⟨r.a,(rn:Int),r.act,r.next⟩:Ru)=r:=by rw [← Hrni.out]
              have hgeb:∀ x∈fbs cx ++ (Tr.node b a n rl false k0 k1).bs,base≤x:=fun x hx=>by
                have h:=hT9.ge x
                rw [h0.out] at h
                exact h ((plug_bs cx (Tr.node b a n rl false k0 k1)).mem_iff.2 hx)
              have hbb:base≤b:=hgeb b (by simp [Tr.bs])
              have z9:base≤w9.heap.size:=Nat.le_trans hbw k9.size
              refine ⟨rfl,0,0,size,?_,hs.1,by omega,((k9.mono hbw).trans (below_of_grown hgA (fun j e=>by injection e with e;omega) z9)).trans (below_of_grown S6.2 (fun j e=>by injection e with e;omega) (Nat.le_trans z9 (below_of_grown (B:=base) hgA (fun j e=>by injection e with e;omega) z9).size))⟩
              rw [hp.out,putT,if_pos Hu.out,if_pos (by rw [Hrn.out];exact Hnr.out),if_neg (by simp)]
              rw [hr2] at S6
              exact TrieAt.fill hzA ⟨S6.1,t0,t1⟩ hnd hgt hgeb hT9.gg
          · have hdec:decide (r.a=a∧rn=n)=false:=by simp;intro _ h;exact hnr h.symm
            rw [hdec]
            have hnr2:¬ n=r.n.toNat:=by rw [Hrn.out];exact hnr
            have Hnr:=Lib.hid hnr2
            clear hdec hnr hnr2
            have KO:=Lib.hid (fun w'=>abit_any r.a n w' hra (by omega))
            have q0:∀ q:Step w9.heap.size w9,q.w.cell? ⟨b,1,none⟩=some (.int .i64 (n:Int)):=fun q=>(hbx9.step q.h).cell 1
            have q1:∀ q:Step w9.heap.size w9,q.w.cell? ⟨g4,0,none⟩=some (.int .u32 r.a):=fun q=>(b49.step q.h).cell 0
            cases hba:bt r.a n
            · rw [hba] at KO
              have KO2:Hid (∀ w,Calls Tryz.prog 107 #[.int .u32 r.a,.int .i64 (n:Int)] w (RetV (.int .i64 0) w)):=KO
              clear KO
              have Hba:=Lib.hid hba
              clear hba
              go_upto_region 10 with fail
              refine wp_region_reach (by kernel_rfl) (by kernel_rfl) ?_
              repeat (first | go_big_quiet_skip | go_big_quiet_step ((with_reducible exact Calls.reach_same (KO2.out _))) | quiet_step ((with_reducible exact Calls.reach_same (KO2.out _))))
              refine wpQuiet_nil ?_
              rintro _ ⟨q,rfl⟩
              have hqwA:=q.h
              obtain ⟨wA,hwA'⟩:∃ W,q.w=W:=⟨_,rfl⟩
              rw [hwA'] at hqwA ⊢
              clear hwA' q
              go_wp2
              go_roundw
              case rel=>exact ⟨⟨b,a,n,rl,is,false,k1⟩ :: cx,k0,rfl,Lib.hid h0.out,Lib.hid (fun b1 b2=>by rw [hp.out,putT,if_pos Hu.out,if_neg Hnr.out,if_neg (by rw [Hba.out];simp)];rfl),B9.out.trans (hqwA.mono B9.out.size)⟩
              case measure =>
                rw [Hpd.out,pdep_at ((hbx9.step hqwA).cell 7)]
                exact fdep_under Hat.out hn32 (TAt.step hqwA hat9.2.1) hu0
            · rw [hba] at KO
              have KO2:Hid (∀ w,Calls Tryz.prog 107 #[.int .u32 r.a,.int .i64 (n:Int)] w (RetV (.int .i64 1) w)):=KO
              clear KO
              have Hba:=Lib.hid hba
              clear hba
              go_upto_region 10 with fail
              refine wp_region_reach (by kernel_rfl) (by kernel_rfl) ?_
              repeat (first | go_big_quiet_skip | go_big_quiet_step ((with_reducible exact Calls.reach_same (KO2.out _))) | quiet_step ((with_reducible exact Calls.reach_same (KO2.out _))))
              refine wpQuiet_nil ?_
              rintro _ ⟨q,rfl⟩
              have hqwA:=q.h
              obtain ⟨wA,hwA'⟩:∃ W,q.w=W:=⟨_,rfl⟩
              rw [hwA'] at hqwA ⊢
              clear hwA' q
              go_wp2
              go_roundw
              case rel=>exact ⟨⟨b,a,n,rl,is,true,k0⟩ :: cx,k1,rfl,Lib.hid h0.out,Lib.hid (fun b1 b2=>by rw [hp.out,putT,if_pos Hu.out,if_neg Hnr.out,if_pos Hba.out];rfl),B9.out.trans (hqwA.mono B9.out.size)⟩
              case measure =>
                rw [Hpd.out,pdep_at ((hbx9.step hqwA).cell 8)]
                exact fdep_under Hat.out hn32 (TAt.step hqwA hat9.2.2) hu1
end Go.Proofs.YtjandnidljbkoaaGreat
