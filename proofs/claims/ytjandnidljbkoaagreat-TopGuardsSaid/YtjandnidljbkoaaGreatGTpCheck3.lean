/-
  check.Trace, check.Net.
-/
import Derived.Test.YtjandnidljbkoaaGreatGTpCheck2
set_option linter.unusedVariables false
namespace Go.Proofs.YtjandnidljbkoaaGreat
open Go.RowKit Go.Th
def nxt (tr:List Int) (i:Nat):Int:=if i+1 < tr.length then tr.getD (i+1) 0 else tr.getD 0 0
def TraceP (ls:List (List Ru)) (d:Int) (tr:List Int):Prop:=tr≠[]∧∀ (i:Nat) (x:Int),tr[i]? = some x→gof ls d x=true∧hof ls d x=nxt tr i
def TcRel (ls:List (List Ru)) (d:Int) (tr:List Int) (m:Nat) (W:World) (i:Value) (wr:World):Prop :=
  ∃ k:Nat,k≤m∧i=.int .i64 k∧Hid (∀ (i:Nat) (x:Int),i < k→tr[i]? = some x→gof ls d x=true∧hof ls d x=nxt tr i)∧Below W.heap.size W wr
set_option maxRecDepth 100000 in
set_option maxHeartbeats 4000000 in
theorem trace_any (A:Option Addr) (n c:Nat) (ns:List Nd) (d:Int) (A1:Option Addr) (n1 c1:Nat) (tr:List Int) (w:World) (hr:NRd w w.heap.size A n c ns) (he:nmay (Nd.ls ns)=0) (hd:0≤d∧d≤4294967295) (hp:RdS iv w w.heap.size A1 n1 c1 tr) (hn1:n1≤100000) :
    Calls Tryz.prog 87 #[.agg #[.slice A n c],.int .u32 d,.slice A1 n1 c1] w (fun e w'=>Below w.heap.size w w'∧((e=.returned (.int .i64 0)∧TraceP (Nd.ls ns) d tr)∨(e=.returned (.int .i64 17)∧¬ TraceP (Nd.ls ns) d tr))):=by
  have hNet:=netok_of hr he
  have k0:=below_alloc w (Nat.le_refl _) (.cells #[.slice A n c] 34)
  have b0:=(Box.new w #[.slice A n c] 34)
  obtain ⟨W0,hW0⟩:∃ W,w.alloc (.cells #[.slice A n c] 34)=W:=⟨_,rfl⟩
  rw [hW0] at k0 b0
  have k0s:=k0.size
  have hr0:=hr.step k0
  have hp0:=hp.step k0
  have hpl:=hp.len
  by_cases h0:n1=0
  · have ht0:¬ TraceP (Nd.ls ns) d tr:=fun h=>h.1 (List.eq_nil_of_length_eq_zero (by omega))
    subst h0
    clear hr hp
    go_enter Tryz.func87,Tryz.ntmps87
    go_wp2
    go_ret
    exact ⟨k0,.inr ⟨rfl,ht0⟩⟩
  have hd0:((n1:Int) == 0)=false:=by simpa using h0
  have K2:=Lib.hid (csteps_any A n c ns W0 (hr0.more k0s))
  have HN:=Lib.hid hNet
  obtain ⟨x0,hx0⟩:∃ x,tr[0]? = some x:=⟨tr[0]'(by omega),List.getElem?_eq_getElem _⟩
  have Hx0:=Lib.hid hx0
  have Hpl:=Lib.hid hpl
  clear he hNet hr hp hx0 hpl
  go_enter Tryz.func87,Tryz.ntmps87
  go_upto_region 1 with fail
  clear hW0
  go_upto_region 5 with (first
    | ((with_reducible refine on_load (.tmp 3) ?_);refine wb_load rfl _ (.tmp 3) rfl st_net rfl b0 rfl ?_)
    | (go_at_call 119;refine (K2.out).mono ?_;rintro e w2 ⟨gn,rfl,NB,hb2⟩)
    | ((with_reducible refine on_alloc ?_);refine wl_newBox rfl _ rfl z_stepper ?_;intro g7 w3 hg7 hl7 b7 hb3)
    | ((with_reducible refine on_store_at (.tmp 7) ?_);refine wb_store (cs:=#[.int .i64 0,.nilFunc]) (cs':=#[.int .i64 n,stv gn]) rfl _ (.tmp 7) _ rfl st_stepper rfl rfl b7 rfl rfl (by simp [Value.oneCell',stv]) ?_;intro W bs hgs))
  have s2:=hb2.size
  have s3:=hb3.size
  have s4:=hgs.size
  have K3:Below w2.heap.size w2 W:=hb3.trans (below_of_grown hgs (fun j e=>by injection e with e;omega) (by omega))
  have NBW:=NB.step K3
  have hpW:=(hp0.step hb2).step K3
  have kW:Below w.heap.size w W:=(k0.trans (hb2.mono (by omega))).trans (K3.mono (by omega))
  have kWs:=kW.size
  clear NB hp0 K2 hb2 hb3 hgs b7 K3 b0 hr0
  unfold stv at bs
  go_loopw [20] (fun i wr=>TcRel (Nd.ls ns) d tr n1 W i wr) (fun i _=>n1 - (intOf i).toNat)
  case atStart=>exact ⟨0,by omega,rfl,Lib.hid (fun i x h=>absurd h (by omega)),Below.refl _ _⟩
  case round =>
    obtain ⟨k,hk,rfl,hF,hb⟩:=hrel
    have hbs:=hb.size
    have NBr:=NBW.step hb
    have hpr:=hpW.step hb
    have bsr:=bs.step hb
    have y1:wr.cell? ⟨g7,1,none⟩=some (.func (.func 140) #[] #[.pointer (some ⟨gn,0,none⟩)]):=bsr.cell 1
    by_cases hlt:k < n1
    · obtain ⟨v,hv⟩:∃ v,tr[k]? = some v:=⟨tr[k]'(by have:=Hpl.out;omega),List.getElem?_eq_getElem _⟩
      obtain ⟨u,ok,hu⟩:∃ u ok,nstep (Nd.ls ns) d v=(u,ok):=⟨_,_,rfl⟩
      have K:=Lib.hid (cst1_any gn n ns d v wr NBr HN.out hd u ok (Lib.hid hu))
      have hgo:gof (Nd.ls ns) d v=ok:=by unfold gof;rw [hu]
      have hho:hof (Nd.ls ns) d v=u:=by unfold hof;rw [hu]
      obtain ⟨y,hy⟩:∃ y,nxt tr k=y:=⟨_,rfl⟩
      have HFn:Hid (ok=true→u=y→∀ (i:Nat) (x:Int),i < k+1→tr[i]? = some x→gof (Nd.ls ns) d x=true∧hof (Nd.ls ns) d x=nxt tr i):=Lib.hid fun h1 h2 i x hi hx=>by
        by_cases e:i=k
        · subst e
          rw [hv] at hx
          injection hx with hx
          subst hx
          exact ⟨by rw [hgo,h1],by rw [hho,hy,h2]⟩
        · exact hF.out i x (by omega) hx
      have HFb:Hid ((ok=false∨u≠y)→¬ TraceP (Nd.ls ns) d tr):=Lib.hid fun h1 h2=>by
        obtain ⟨h3,h4⟩:=h2.2 k v hv
        rw [hgo] at h3
        rw [hho,hy] at h4
        rcases h1 with h1 | h1
        · rw [h1] at h3;cases h3
        · exact h1 h4
      have Hv:=Lib.hid hv
      have hways:(k+1 < n1∧tr[k+1]? = some y)∨(k+1=n1∧x0=y):=by
        have hl:=Hpl.out
        unfold nxt at hy
        by_cases e:k+1 < n1
        · rw [if_pos (by omega)] at hy
          refine .inl ⟨e,?_⟩
          rw [← hy,List.getD_eq_getElem?_getD,List.getElem?_eq_getElem (by omega)]
          rfl
        · rw [if_neg (by omega),List.getD_eq_getElem?_getD,Hx0.out] at hy
          exact .inr ⟨by omega,hy⟩
      clear hu hgo hho hy hv
      have hokd:ok=false∨ok=true:=by cases ok <;> simp
      rcases hways with ⟨hlt2,hy2⟩ | ⟨heq,rfl⟩
      · have Hy2:=Lib.hid hy2
        have dl:decide ((k:Int) < (n1:Int) - 1)=true:=decide_eq_true (by omega)
        clear hy2
        go_upto_region 11 with (first
          | ((with_reducible refine on_index (.tmp 18) ?_);refine wl_at_i rfl _ (.tmp 18) _ rfl el_int rfl rfl (by omega) (by omega) hpr ?_;intro p1 z1 hz1 hc1;have hxx:v=z1:=get_eq Hv.out hz1.out (by omega);subst hxx)
          | ((with_reducible refine on_index (.tmp 25) ?_);refine wl_at_i rfl _ (.tmp 25) _ rfl el_int rfl rfl (by omega) (by omega) hpr ?_;intro p2 z2 hz2 hc2;have hxx:x0=z2:=get_eq Hx0.out hz2.out (by omega);subst hxx)
          | ((with_reducible refine on_index (.tmp 33) ?_);refine wl_at_i rfl _ (.tmp 33) _ rfl el_int rfl rfl (by omega) (by omega) hpr ?_;intro p3 z3 hz3 hc3;have hxx:y=z3:=get_eq Hy2.out hz3.out (by omega);subst hxx)
          | (go_at_call 140;refine (K.out).mono ?_;rintro e w5 ⟨rfl,hb5⟩))
        have bel5:=hb.trans (hb5.mono hbs)
        rcases hokd with rfl | rfl
        · have Hn:=Lib.hid (HFb.out (.inl rfl))
          clear HFb HFn
          go_wp2
          go_ret
          exact ⟨kW.trans (bel5.mono kWs),.inr ⟨rfl,Hn.out⟩⟩
        · by_cases huy:u=y
          · have Hn:=Lib.hid (HFn.out rfl huy)
            have du:(u != y)=false:=by simpa using huy
            clear HFb HFn huy
            go_wp2
            go_roundw
            case rel=>exact ⟨k+1,by omega,by go_num,Hn,bel5⟩
            case measure=>simp [intOf];omega
          · have Hn:=Lib.hid (HFb.out (.inr huy))
            have du:(u != y)=true:=by simpa using huy
            clear HFb HFn huy
            go_wp2
            go_ret
            exact ⟨kW.trans (bel5.mono kWs),.inr ⟨rfl,Hn.out⟩⟩
      · have dl:decide ((k:Int) < (n1:Int) - 1)=false:=decide_eq_false (by omega)
        go_upto_region 11 with (first
          | ((with_reducible refine on_index (.tmp 18) ?_);refine wl_at_i rfl _ (.tmp 18) _ rfl el_int rfl rfl (by omega) (by omega) hpr ?_;intro p1 z1 hz1 hc1;have hxx:v=z1:=get_eq Hv.out hz1.out (by omega);subst hxx)
          | ((with_reducible refine on_index (.tmp 25) ?_);refine wl_at_i rfl _ (.tmp 25) _ rfl el_int rfl rfl (by omega) (by omega) hpr ?_;intro p2 z2 hz2 hc2;have hxx:x0=z2:=get_eq Hx0.out hz2.out (by omega);subst hxx)
          | (go_at_call 140;refine (K.out).mono ?_;rintro e w5 ⟨rfl,hb5⟩))
        have bel5:=hb.trans (hb5.mono hbs)
        rcases hokd with rfl | rfl
        · have Hn:=Lib.hid (HFb.out (.inl rfl))
          clear HFb HFn
          go_wp2
          go_ret
          exact ⟨kW.trans (bel5.mono kWs),.inr ⟨rfl,Hn.out⟩⟩
        · by_cases huy:u=x0
          · have Hn:=Lib.hid (HFn.out rfl huy)
            have du:(u != x0)=false:=by simpa using huy
            clear HFb HFn huy
            go_wp2
            go_roundw
            case rel=>exact ⟨k+1,by omega,by go_num,Hn,bel5⟩
            case measure=>simp [intOf];omega
          · have Hn:=Lib.hid (HFb.out (.inr huy))
            have du:(u != x0)=true:=by simpa using huy
            clear HFb HFn huy
            go_wp2
            go_ret
            exact ⟨kW.trans (bel5.mono kWs),.inr ⟨rfl,Hn.out⟩⟩
    · obtain rfl:k=n1:=by omega
      have hT:TraceP (Nd.ls ns) d tr:=⟨fun e=>by have:=Hpl.out;rw [e] at this;exact h0 this.symm,fun i x hx=>hF.out i x (by have:=(List.getElem?_eq_some_iff.1 hx).1;have:=Hpl.out;omega) hx⟩
      have HT:=Lib.hid hT
      clear hT hF
      go_wp2
      go_ret
      exact ⟨kW.trans (hb.mono kWs),.inl ⟨rfl,HT.out⟩⟩
end Go.Proofs.YtjandnidljbkoaaGreat
