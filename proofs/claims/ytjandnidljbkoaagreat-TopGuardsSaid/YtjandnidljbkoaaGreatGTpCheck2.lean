/-
  check.parts, check.Trace.
-/
import Derived.Test.YtjandnidljbkoaaGreatGTpCover
set_option linter.unusedVariables false
namespace Go.Proofs.YtjandnidljbkoaaGreat
open Go.RowKit Go.Th
theorem z_stepper:(Tryz.prog.info? 198).map (fun i=>(i.zero.map Value.cells,i.size))=some (some #[.int .i64 0,.nilFunc],2):=by kernel_rfl
theorem wqg_at {P:Program} {ops:Array Oper} {rest:List Oper} {o:Oper} {a:Act} {C:World→Prop} {Q:Act→Prop} {α:Type} {f:α→Value} (hw:Region.wanted o (yielded ops a.tmps)=true) (T:TypeId) (s i:Operand) (ho:o.op=.indexAddr T s i) {E bytes:Nat} {z:Value} (el:El P T E z bytes)
    {A:Option Addr} {n c:Nat} {kk:IntKind} {I:Int} (hs:a.eval s=.slice A n c) (hi:a.eval i=.int kk I) (h0:0≤I) (h1:I < n) {w0:World} (hC0:C w0)
    {B:Nat} {xs:List α} (hr:∀ w,C w→RdS f w B A n c xs)
    (h:∀ (b j:Nat) (x:α),Hid (xs[I.toNat]? = some x)→Hid (∀ w,C w→w.cell? ⟨b,j,none⟩=some (f x))→wpQuiet P ops C Q rest (a.put o.dst (.pointer (some ⟨b,j,none⟩)))) :
    wpQuiet P ops C Q (o :: rest) a :=
  wqk_at (one1_len f) hw T s i ho el.m hs hi h0 h1 hC0 (fun w hC=>(hr w hC).m) fun b j x hx hc=>h b j x hx (Lib.hid fun w hC=>hc.out w hC 0 _ rfl)
theorem fall_is (g n:Nat) (ns:List Nd) (A1:Option Addr) (n1 c1:Nat) (pts:List Int) (A2:Option Addr) (n2 c2:Nat) (hn2:n2=n) (rk:List Int) (w:World) (h:NBox w g ns n) (hN:NetOk (Nd.ls ns)) (B1 B2:Nat) (h1:RdS uv w B1 A1 n1 c1 pts) (h2:RdS iv w B2 A2 n2 c2 rk) (hn1:n1≤100000) (hpt:∀ a∈pts,0≤a∧a≤4294967295) (b:Int) (hb:(FallP (Nd.ls ns) rk pts∧b=0)∨(¬ FallP (Nd.ls ns) rk pts∧b=16)) :
    Calls Tryz.prog 120 #[.agg #[.int .i64 n,stv g],.slice A1 n1 c1,.slice A2 n2 c2] w (fun e w'=>e=.returned (.int .i64 b)∧Below w.heap.size w w'):=by
  subst hn2
  refine (fall_any g n2 ns A1 n1 c1 pts A2 c2 rk w h hN B1 B2 h1 h2 hn1 hpt).mono fun e w' ⟨h3,h4⟩=>⟨?_,h3⟩
  rcases h4 with ⟨h5,h6⟩ | ⟨h5,h6⟩ <;> rcases hb with ⟨h7,h8⟩ | ⟨h7,h8⟩
  · rw [h8];exact h5
  · exact absurd h6 h7
  · exact absurd h7 h6
  · rw [h8];exact h5
theorem ptsOf_bound {ls:List (List Ru)} (hok:∀ l∈ls,∀ r∈l,r.Ok) {p:Pt} (hp:p.Ok):∀ a∈ptsOf (cutsOf ls) p,0≤a∧a≤4294967295:=fun a ha=>by
  unfold ptsOf insideF at ha
  rcases List.mem_cons.1 ha with rfl | ha
  · exact hp.fr
  · exact cuts_bound hok a (List.mem_filter.1 ha).1
def PaRel (ls:List (List Ru)) (ps:List Pt) (m:Nat) (W:World) (i:Value) (wr:World):Prop :=
  ∃ k:Nat,k≤m∧i=.int .i64 k∧Hid (∀ p∈ps.take k,FallP ls p.rk (ptsOf (cutsOf ls) p))∧Below W.heap.size W wr
set_option maxRecDepth 100000 in
set_option maxHeartbeats 4000000 in
theorem parts_any (A:Option Addr) (n c:Nat) (ns:List Nd) (A1:Option Addr) (n1 c1:Nat) (ps:List Pt) (w:World) (hr:NRd w w.heap.size A n c ns) (he:nmay (Nd.ls ns)=0) (hl:(ckeys (Nd.ls ns)).length≤100000) (hp:PRd w w.heap.size A1 n1 c1 ps) (hn1:n1≤100000) (hm:pmeet ps=0) (hpn:∀ p∈ps,p.n=n) :
    Calls Tryz.prog 86 #[.agg #[.slice A n c],.slice A1 n1 c1] w (fun e w'=>Below w.heap.size w w'∧((e=.returned (.int .i64 0)∧∀ p∈ps,FallP (Nd.ls ns) p.rk (ptsOf (cutsOf (Nd.ls ns)) p))∨(e=.returned (.int .i64 16)∧¬ ∀ p∈ps,FallP (Nd.ls ns) p.rk (ptsOf (cutsOf (Nd.ls ns)) p)))):=by
  have hNet:=netok_of hr he
  have hcl:(cutsOf (Nd.ls ns)).length≤8193:=by have:=cuts_len (Nd.ls ns);have:=hNet.size;omega
  have k0:=below_alloc w (Nat.le_refl _) (.cells #[.slice A n c] 34)
  have b0:=(Box.new w #[.slice A n c] 34)
  obtain ⟨W0,hW0⟩:∃ W,w.alloc (.cells #[.slice A n c] 34)=W:=⟨_,rfl⟩
  rw [hW0] at k0 b0
  have k0s:=k0.size
  have hr0:=hr.step k0
  have hp0:=hp.step k0
  have hpl:=hp.rd.len
  have K1:=Lib.hid (call_any A n c ns A1 n1 c1 ps W0 (hr0.more k0s) he hl (hp0.more k0s) hn1 hm)
  have HN:=Lib.hid hNet
  have Hpn:=Lib.hid hpn
  clear hl hm hNet he hpn hr hp
  go_enter Tryz.func86,Tryz.ntmps86
  go_upto_region 1 with fail
  clear hW0
  go_upto_region 4 with (first
    | ((with_reducible refine on_load (.tmp 2) ?_);refine wb_load rfl _ (.tmp 2) rfl st_net rfl b0 rfl ?_)
    | (go_at_call 118;refine (K1.out).mono ?_;rintro e w1 ⟨Aq,cq,qs,rfl,RR,hb1⟩))
  have b1:=b0.step hb1
  have s1:=hb1.size
  have k1:=k0.trans (hb1.mono k0s)
  have hr1:=hr0.step hb1
  have hp1:=hp0.step hb1
  have K2:=Lib.hid (csteps_any A n c ns w1 (hr1.more (by omega)))
  clear K1 b0 hr0 hp0
  go_upto_region 6 with (first
    | ((with_reducible refine on_load (.tmp 2) ?_);refine wb_load rfl _ (.tmp 2) rfl st_net rfl b1 rfl ?_)
    | (go_at_call 119;refine (K2.out).mono ?_;rintro e w2 ⟨gn,rfl,NB,hb2⟩)
    | ((with_reducible refine on_alloc ?_);refine wl_newBox rfl _ rfl z_stepper ?_;intro g7 w3 hg7 hl7 b7 hb3)
    | ((with_reducible refine on_store_at (.tmp 7) ?_);refine wb_store (cs:=#[.int .i64 0,.nilFunc]) (cs':=#[.int .i64 n,stv gn]) rfl _ (.tmp 7) _ rfl st_stepper rfl rfl b7 rfl rfl (by simp [Value.oneCell',stv]) ?_;intro W bs hgs))
  have s2:=hb2.size
  have s3:=hb3.size
  have s4:=hgs.size
  have K3:Below w2.heap.size w2 W:=hb3.trans (below_of_grown hgs (fun j e=>by injection e with e;omega) (by omega))
  have RRW:=(RR.below hb2).below K3
  have NBW:=NB.step K3
  have hpW:=(hp1.step hb2).step K3
  have kW:Below w.heap.size w W:=(k1.trans (hb2.mono (by omega))).trans (K3.mono (by omega))
  have kWs:=kW.size
  have hqlen:=RRW.row.len
  have g7W:=bs.lt
  clear RR NB hp1 K2 hb2 hb3 hgs b7 K3 k1 hb1 b1 hr1
  go_loopw [24] (fun i wr=>PaRel (Nd.ls ns) ps n1 W i wr) (fun i _=>n1 - (intOf i).toNat)
  case atStart=>exact ⟨0,by omega,rfl,Lib.hid (fun p h=>by simp at h),Below.refl _ _⟩
  case round =>
    obtain ⟨k,hk,rfl,hF,hb⟩:=hrel
    have hbs:=hb.size
    have RRr:=RRW.below hb
    have NBr:=NBW.step hb
    have hpr:=hpW.step hb
    have bsr:=bs.step hb
    have y0:wr.cell? ⟨g7,0,none⟩=some (.int .i64 n):=bsr.cell 0
    by_cases hlt:k < n1
    · obtain ⟨p,hpk⟩:∃ p,ps[k]? = some p:=⟨ps[k]'(by omega),List.getElem?_eq_getElem _⟩
      obtain ⟨q,hqk⟩:∃ q,qs[k]? = some q:=⟨qs[k]'(by omega),List.getElem?_eq_getElem _⟩
      have hpm:=List.mem_of_getElem? hpk
      have hpn:=Hpn.out p hpm
      have oq:=RRr.each k q p hqk hpk
      have hmo:=take_more hpk
      have d0:((p.n:Int) != (n:Int))=false:=by simp [hpn]
      obtain ⟨b,hways⟩:∃ b:Int,(FallP (Nd.ls ns) p.rk (ptsOf (cutsOf (Nd.ls ns)) p)∧b=0)∨(¬ FallP (Nd.ls ns) p.rk (ptsOf (cutsOf (Nd.ls ns)) p)∧b=16):=by
        by_cases h:FallP (Nd.ls ns) p.rk (ptsOf (cutsOf (Nd.ls ns)) p)
        · exact ⟨0,.inl ⟨h,rfl⟩⟩
        · exact ⟨16,.inr ⟨h,rfl⟩⟩
      have hq5:q.2.1≤100000:=by
        have h1:=oq.len
        have h2:=insideF_len p.fr p.to (cutsOf (Nd.ls ns))
        unfold ptsOf at h1
        rw [List.length_cons] at h1
        omega
      have hbd:=ptsOf_bound HN.out.ok (hpr.ok p hpm)
      have KF:=Lib.hid (fun w' (hw:Below wr.heap.size wr w')=>fall_is gn n ns q.1 q.2.1 q.2.2 _ p.A p.n p.c hpn p.rk w' (NBr.step hw) HN.out _ _ (oq.rd.step hw) ((hpr.rk p hpm).step hw) hq5 hbd b hways)
      have HFn:Hid (b=0→∀ x∈ps.take (k+1),FallP (Nd.ls ns) x.rk (ptsOf (cutsOf (Nd.ls ns)) x)):=Lib.hid fun hb0 x hx=>by
        rw [hmo] at hx
        rcases List.mem_append.1 hx with hx | hx
        · exact hF.out x hx
        · rw [List.mem_singleton.1 hx]
          rcases hways with h | h
          · exact h.1
          · omega
      have HFb:Hid (b=16→¬ ∀ x∈ps,FallP (Nd.ls ns) x.rk (ptsOf (cutsOf (Nd.ls ns)) x)):=Lib.hid fun hb0 h=>by
        rcases hways with h1 | h1
        · omega
        · exact h1.1 (h p hpm)
      have hb16:b=0∨b=16:=by rcases hways with h | h <;> simp [h.2]
      have Hpk:=Lib.hid hpk
      have Hqk:=Lib.hid hqk
      clear hways hpk hqk hmo hpm hpn oq hbd
      go_upto_region 10 with (first
        | ((with_reducible refine on_index (.tmp 22) ?_);refine wm_at Pt.cs_length rfl _ _ _ rfl el_part rfl rfl (by omega) (by omega) hpr.rd ?_;intro b1 j1 r1 hr1 hb1 hc1;have hxx:p=r1:=get_eq Hpk.out hr1.out (by omega);subst hxx)
        | ((with_reducible refine on_load (.tmp 27) ?_);refine wpt_load rfl _ _ rfl st_part rfl hc1 ?_)
        | ((with_reducible refine on_alloc ?_);refine wl_newBox rfl _ rfl z_part ?_;intro g9 w5 hg5 hl5 b5 hb5;have y05:w5.cell? ⟨g7,0,none⟩=some (.int .i64 n):=(bsr.step hb5).cell 0)
        | ((with_reducible refine on_store_at (.tmp 9) ?_);refine wb_store (cs:=#[.int .u32 0,.int .u32 0,.slice none 0 0]) (cs':=#[.int .u32 p.fr,.int .u32 p.to,.slice p.A p.n p.c]) rfl _ (.tmp 9) _ rfl st_part rfl rfl b5 rfl rfl (by simp [Value.oneCell']) ?_;intro w6 b6 hg6;have y26:w6.cell? ⟨g9,2,none⟩=some (.slice p.A p.n p.c):=b6.cell 2;have y06:w6.cell? ⟨g7,0,none⟩=some (.int .i64 n):=((bsr.step hb5).grown hg6 (fun e=>by injection e with e;have:=bsr.lt;omega)).cell 0))
      have s5:=hb5.size
      have s6:=hg6.size
      have K6:Below wr.heap.size wr w6:=hb5.trans (below_of_grown hg6 (fun j e=>by injection e with e;omega) (by omega))
      have RR6:=RRr.below K6
      have bs6:=bsr.step K6
      have x1:∀ w',Th.Reach w6.heap.size w6 w'→RdS rowv w' w6.heap.size Aq n1 cq qs:=fun w' hw=>RR6.row.rd.below hw.below
      have x2:∀ w',Th.Reach w6.heap.size w6 w'→Box w' g7 198 #[.int .i64 n,stv gn]:=fun w' hw=>bs6.below hw.below bs6.lt
      have y5:∀ q:Th.Step w6.heap.size w6,q.w.cell? ⟨g9,2,none⟩=some (.slice p.A p.n p.c):=fun q=>(b6.below q.h b6.lt).cell 2
      have belW:Below W.heap.size W w6:=hb.trans (K6.mono hbs)
      have belWs:=belW.size
      clear RRr NBr hpr bsr y0 y05 y06 y26 b5 hb5 hg6 hc1 hr1 RR6
      refine wp_region_reach (by kernel_rfl) (by kernel_rfl) ?_
      repeat (first | go_big_quiet_skip | ((with_reducible refine onq_load (.tmp 7) ?_);refine wqb_load rfl _ (.tmp 7) rfl st_stepper rfl x2 rfl ?_) | ((with_reducible refine onq_index (.tmp 36) ?_);refine wqg_at rfl _ (.tmp 36) _ rfl el_rowu rfl rfl (by omega) (by omega) (Th.Reach.refl _ _) x1 ?_;intro b4 j4 z4 hz4 hc4;have hxx:q=z4:=get_eq Hqk.out hz4.out (by omega);subst hxx;have f4:∀ u:Th.Step w6.heap.size w6,u.w.cell? ⟨b4,j4,none⟩=some (.slice q.1 q.2.1 q.2.2):=fun u=>hc4.out u.w ⟨u,rfl⟩) | go_big_quiet_step (exact Calls.reach (KF.out _ (K6.trans ((Th.Step.h _).mono (by omega))))) | quiet_step (exact Calls.reach (KF.out _ (K6.trans ((Th.Step.h _).mono (by omega))))))
      refine wpQuiet_nil ?_
      rintro _ ⟨q,rfl⟩
      have hqw7:=q.h
      obtain ⟨w7,hw7'⟩:∃ W,q.w=W:=⟨_,rfl⟩
      rw [hw7'] at hqw7 ⊢
      clear hw7' q
      rcases hb16 with rfl | rfl
      · have Hn:=Lib.hid (HFn.out rfl)
        clear HFn HFb
        go_wp2
        go_roundw
        case rel=>exact ⟨k+1,by omega,by go_num,Hn,belW.trans (hqw7.mono belWs)⟩
        case measure=>simp [intOf];omega
      · have Hn:=Lib.hid (HFb.out rfl)
        clear HFn HFb
        go_wp2
        go_ret
        exact ⟨kW.trans ((belW.trans (hqw7.mono belWs)).mono kWs),.inr ⟨rfl,Hn.out⟩⟩
    · obtain rfl:k=n1:=by omega
      have h5:ps.take k=ps:=List.take_of_length_le (by omega)
      rw [h5] at hF
      go_wp2
      go_ret
      exact ⟨kW.trans (hb.mono kWs),.inl ⟨rfl,hF.out⟩⟩
end Go.Proofs.YtjandnidljbkoaaGreat
