/-
  check.steps, its closure, fall.
-/
import Derived.Test.YtjandnidljbkoaaGreatGTpANet
set_option linter.unusedVariables false
namespace Go.Proofs.YtjandnidljbkoaaGreat
open Go.RowKit Go.Th
def stv (g:Nat):Value:=.func (.func 140) #[] #[.pointer (some ⟨g,0,none⟩)]
theorem st_stepper:St Tryz.prog 198 2:=⟨⟨_,Tryz.underlying198⟩,by kernel_rfl⟩
structure NBox (w:World) (g:Nat) (ns:List Nd) (n:Nat):Prop where
  mem:∃ (A:Option Addr) (c:Nat),Box w g 34 #[.slice A n c]∧NRd w w.heap.size A n c ns
theorem NBox.step {w w':World} {g n:Nat} {ns:List Nd} (h:NBox w g ns n) (hb:Below w.heap.size w w'):NBox w' g ns n:=by
  obtain ⟨A,c,h1,h2⟩:=h.mem
  exact ⟨A,c,h1.step hb,(h2.below hb).more hb.size⟩
theorem NBox.len {w:World} {g n:Nat} {ns:List Nd} (h:NBox w g ns n):ns.length=n:=by
  obtain ⟨A,c,h1,h2⟩:=h.mem
  exact h2.len
set_option maxRecDepth 100000 in
theorem cst1_any (g n:Nat) (ns:List Nd) (a v:Int) (w:World) (h:NBox w g ns n) (hN:NetOk (Nd.ls ns)) (ha:0≤a∧a≤4294967295) (u:Int) (ok:Bool) (hu:Hid (nstep (Nd.ls ns) a v=(u,ok))) :
    Calls Tryz.prog 140 #[.int .u32 a,.int .i64 v,.pointer (some ⟨g,0,none⟩)] w (RetIB (u,ok) w):=by
  obtain ⟨A,c,hb,hr⟩:=h.mem
  have hlen:=hr.len
  have hn:n≤256:=by have:=hN.len;rw [Nd.ls_len] at this;omega
  have hx:∀ x∈ns,x.n≤9223372036854775807:=fun x hx=>by
    have h1:=(hr.rk x hx).len
    have h2:x.l.length≤nsize (Nd.ls ns):=len_le_nsize (List.mem_map.2 ⟨x,hx,rfl⟩)
    have:=hN.size
    omega
  have K:=Lib.hid (step_any A n c ns a v w (by omega) ha hx _ hr u ok hu)
  clear hx hr hN hlen
  go_enter Tryz.func140,Tryz.ntmps140
  go_wp2_with (first
    | ((with_reducible refine on_load (.tmp 2) ?_);refine wb_load rfl _ (.tmp 2) rfl st_net rfl hb rfl ?_)
    | (go_at_call 26;refine (K.out).mono ?_;rintro e w1 ⟨rfl,hb1⟩))
  go_ret2
  exact ⟨rfl,hb1⟩
set_option maxRecDepth 100000 in
theorem csteps_any (A:Option Addr) (n c:Nat) (ns:List Nd) (w:World) (hr:NRd w w.heap.size A n c ns) :
    Calls Tryz.prog 119 #[.agg #[.slice A n c]] w (fun e w'=>∃ g,e=.returned (.agg #[.int .i64 n,stv g])∧NBox w' g ns n∧Below w.heap.size w w'):=by
  have hmf:∀ (fn:Fn) (first cap:Array Value) (w:World),(Instr.makeFunc fn first cap).run Tryz.prog w=.ok (.func fn first cap) w:=fun _ _ _ _=>rfl
  have k0:=below_alloc w (Nat.le_refl _) (.cells #[.slice A n c] 34)
  have b0:=(Box.new w #[.slice A n c] 34)
  obtain ⟨W0,hW0⟩:∃ W,w.alloc (.cells #[.slice A n c] 34)=W:=⟨_,rfl⟩
  rw [hW0] at k0 b0
  have k1:=below_alloc W0 k0.size (.cells #[.int .i64 0,.nilFunc] 198)
  have b2:=(Box.new W0 #[.int .i64 0,.nilFunc] 198)
  have b1:=b0.alloc (.cells #[.int .i64 0,.nilFunc] 198)
  obtain ⟨W1,hW1⟩:∃ W,W0.alloc (.cells #[.int .i64 0,.nilFunc] 198)=W:=⟨_,rfl⟩
  rw [hW1] at k1 b1 b2
  have kA:=k0.trans k1
  obtain ⟨gr,hgr⟩:∃ g,W0.heap.size=g:=⟨_,rfl⟩
  rw [hgr] at b2
  have hgrw:w.heap.size < gr:=by rw [← hgr,← hW0];simp
  have y1:W1.cell? ⟨w.heap.size,0,none⟩=some (.slice A n c):=b1.cell 0
  go_enter Tryz.func119,Tryz.ntmps119
  go_upto_region 1 with fail
  clear hW0 hW1 hgr
  go_wp2_with ((with_reducible refine on_store_at (.tmp 2) ?_);refine wb_store (cs:=#[.int .i64 0,.nilFunc]) (cs':=#[.int .i64 n,stv w.heap.size]) rfl _ (.tmp 2) _ rfl st_stepper rfl rfl b2 rfl rfl (by simp [Value.oneCell',stv]) ?_;intro wf bf hgf)
  have bel:Below w.heap.size w wf:=kA.grown hgf kA.size (fun j e=>by injection e with e;omega)
  refine bodyPost_ret (v:=.agg #[.int .i64 n,stv w.heap.size]) ?_ rfl ⟨_,rfl,⟨A,c,b1.grown hgf (fun e=>by injection e with e;omega),(hr.below bel).more bel.size⟩,bel⟩
  exact results_cell_row rfl _ wf gr 198 _ (0,0) _ rfl bf.at_ Tryz.underlying198 rfl st_stepper.size
def FallV (ls:List (List Ru)) (rk:List Int) (a u:Int):Prop:=gof ls a u=true→rk.getD (hof ls a u).toNat 0 < rk.getD u.toNat 0
def FallP (ls:List (List Ru)) (rk pts:List Int):Prop:=∀ a∈pts,∀ u,0≤u→u < (ls.length:Int)→FallV ls rk a u
def Fl1 (ls:List (List Ru)) (rk pts:List Int) (m:Nat) (w:World) (s7 i:Value) (wr:World):Prop :=
  ∃ k:Nat,k≤m∧i=.int .i64 k∧s7=.int .i64 0∧Hid (FallP ls rk (pts.take k))∧Below w.heap.size w wr
def Fl2 (ls:List (List Ru)) (rk:List Int) (a:Int) (n:Nat) (w:World) (s7 i:Value) (wr:World):Prop :=
  ∃ k:Nat,k≤n∧i=.int .i64 k∧s7=.int .i64 0∧Hid (∀ u,0≤u→u < (k:Int)→FallV ls rk a u)∧Below w.heap.size w wr
set_option maxRecDepth 100000 in
set_option maxHeartbeats 4000000 in
theorem fall_any (g n:Nat) (ns:List Nd) (A1:Option Addr) (n1 c1:Nat) (pts:List Int) (A2:Option Addr) (c2:Nat) (rk:List Int) (w:World) (h:NBox w g ns n) (hN:NetOk (Nd.ls ns)) (B1 B2:Nat) (h1:RdS uv w B1 A1 n1 c1 pts) (h2:RdS iv w B2 A2 n c2 rk) (hn1:n1≤100000) (hpt:∀ a∈pts,0≤a∧a≤4294967295) :
    Calls Tryz.prog 120 #[.agg #[.int .i64 n,stv g],.slice A1 n1 c1,.slice A2 n c2] w (fun e w'=>Below w.heap.size w w'∧((e=.returned (.int .i64 0)∧FallP (Nd.ls ns) rk pts)∨(e=.returned (.int .i64 16)∧¬ FallP (Nd.ls ns) rk pts))):=by
  unfold stv
  have k0:=below_alloc w (Nat.le_refl _) (.cells #[.int .i64 n,.func (.func 140) #[] #[.pointer (some ⟨g,0,none⟩)]] 198)
  have b0:=(Box.new w #[.int .i64 n,.func (.func 140) #[] #[.pointer (some ⟨g,0,none⟩)]] 198)
  have hNB:=h.step k0
  have h10:=h1.step k0
  have h20:=h2.step k0
  obtain ⟨W0,hW0⟩:∃ W,w.alloc (.cells #[.int .i64 n,.func (.func 140) #[] #[.pointer (some ⟨g,0,none⟩)]] 198)=W:=⟨_,rfl⟩
  rw [hW0] at k0 b0 hNB h10 h20
  have hl1:=h1.len
  have hl2:=h2.len
  have hns:=h.len
  have hn:n≤256:=by have:=hN.len;rw [Nd.ls_len] at this;omega
  have Hln:Hid ((Nd.ls ns).length=n):=Lib.hid (by rw [Nd.ls_len];exact hns)
  have HN:=Lib.hid hN
  have Hpt:=Lib.hid hpt
  clear h h1 h2 hN hpt hns
  have Hl1:=Lib.hid hl1
  have Hl2:=Lib.hid hl2
  clear hl1 hl2
  go_enter Tryz.func120,Tryz.ntmps120
  go_upto_region 1 with fail
  clear hW0
  go_step3
  go_wp2
  go_step3
  go_wp2
  go_loopw [7,15] (fun s7 i wr=>Fl1 (Nd.ls ns) rk pts n1 W0 s7 i wr) (fun _ i _=>n1 - (intOf i).toNat)
  case atStart=>exact ⟨0,by omega,rfl,rfl,Lib.hid (fun a h=>by simp at h),Below.refl _ _⟩
  case round =>
    obtain ⟨k,hk,rfl,rfl,hF,hb⟩:=hrel
    have hbs:=hb.size
    have b0r:=b0.step hb
    have y0:wr.cell? ⟨w.heap.size,0,none⟩=some (.int .i64 n):=b0r.cell 0
    have h1r:=h10.step hb
    by_cases hlt:k < n1
    · obtain ⟨a,ha⟩:∃ a,pts[k]? = some a:=⟨pts[k]'(by have:=Hl1.out;omega),List.getElem?_eq_getElem _⟩
      have hab:=Hpt.out a (List.mem_of_getElem? ha)
      have htk:=take_more ha
      have Ha:=Lib.hid ha
      have Htk:=Lib.hid htk
      have hFn:(∀ u,0≤u→u < (n:Int)→FallV (Nd.ls ns) rk a u)→FallP (Nd.ls ns) rk (pts.take (k+1)):=fun h b hbm=>by
        rw [htk] at hbm
        rcases List.mem_append.1 hbm with hbm | hbm
        · exact hF.out b hbm
        · rw [List.mem_singleton.1 hbm,Hln.out];exact h
      have HFn:=Lib.hid hFn
      have HFb:Hid (∀ u,0≤u→u < (n:Int)→¬ FallV (Nd.ls ns) rk a u→¬ FallP (Nd.ls ns) rk pts):=Lib.hid fun u h1 h2 h3 h4=>h3 (h4 a (List.mem_of_getElem? ha) u h1 (by rw [Hln.out];exact h2))
      clear ha htk hFn
      go_wp2_with ((with_reducible refine on_index (.tmp 13) ?_);refine wl_at_u rfl _ (.tmp 13) _ rfl el_u32 rfl rfl (by omega) (by omega) h1r ?_;intro p1 y1 hy1 hc1;have hxx:a=y1:=get_eq Ha.out hy1.out (by omega);subst hxx)
      go_loopw [7,21] (fun s7 i wq=>Fl2 (Nd.ls ns) rk a n W0 s7 i wq) (fun _ i _=>n - (intOf i).toNat)
      case atStart=>exact ⟨0,by omega,rfl,rfl,Lib.hid (fun u h1 h2=>absurd h2 (by omega)),hb⟩
      case round =>
        clear b0r y0 h1r hb hbs
        obtain ⟨v,hv,rfl,rfl,hG,hb⟩:=hrel
        have hbs:=hb.size
        have b0r:=b0.step hb
        have y0:wr.cell? ⟨w.heap.size,0,none⟩=some (.int .i64 n):=b0r.cell 0
        have y1:wr.cell? ⟨w.heap.size,1,none⟩=some (.func (.func 140) #[] #[.pointer (some ⟨g,0,none⟩)]):=b0r.cell 1
        by_cases hlv:v < n
        · obtain ⟨u,ok,hu⟩:∃ u ok,nstep (Nd.ls ns) a (v:Int)=(u,ok):=⟨_,_,rfl⟩
          have K:=Lib.hid (cst1_any g n ns a (v:Int) wr (hNB.step hb) HN.out hab u ok (Lib.hid hu))
          have hgo:gof (Nd.ls ns) a (v:Int)=ok:=by unfold gof;rw [hu]
          have hho:hof (Nd.ls ns) a (v:Int)=u:=by unfold hof;rw [hu]
          have hI:=inn_of_may (a:=a) HN.out.rule (v:Int)
          rw [hgo,hho,Hln.out] at hI
          have hnext:FallV (Nd.ls ns) rk a (v:Int)→∀ x,0≤x→x < ((v+1:Nat):Int)→FallV (Nd.ls ns) rk a x:=fun h x h1 h2=>by
            by_cases e:x=(v:Int)
            · rw [e];exact h
            · exact hG.out x h1 (by omega)
          clear hu
          cases ok with
          | false =>
            have Hn:=Lib.hid (hnext (fun h=>by rw [hgo] at h;cases h))
            clear hnext hI hgo hho
            go_wp2_with (go_at_call 140;refine (K.out).mono ?_;rintro e w5 ⟨rfl,hb5⟩)
            go_roundw
            case rel=>exact ⟨v+1,by omega,by go_num,rfl,Hn,hb.trans (hb5.mono hbs)⟩
            case measure=>simp [intOf];omega
          | true =>
            have hui:=hI rfl
            obtain ⟨m,rfl⟩:∃ m:Nat,u=(m:Int):=⟨u.toNat,by omega⟩
            have hmn:m < n:=by omega
            obtain ⟨s,hs⟩:∃ s,rk[m]? = some s:=⟨rk[m]'(by have:=Hl2.out;omega),List.getElem?_eq_getElem _⟩
            obtain ⟨r,hr⟩:∃ r,rk[v]? = some r:=⟨rk[v]'(by have:=Hl2.out;omega),List.getElem?_eq_getElem _⟩
            have hfv:FallV (Nd.ls ns) rk a (v:Int)↔s < r:=by
              unfold FallV
              rw [hgo,hho,Int.toNat_natCast,Int.toNat_natCast,List.getD_eq_getElem?_getD,List.getD_eq_getElem?_getD,hs,hr]
              simp
            have Hs:=Lib.hid hs
            have Hr:=Lib.hid hr
            have d1:decide ((m:Int) < 0)=false:=decide_eq_false (by omega)
            have d2:decide ((m:Int) ≥ n)=false:=decide_eq_false (by omega)
            have d2':decide ((n:Int)≤m)=false:=decide_eq_false (by omega)
            have d2n:decide (n≤m)=false:=decide_eq_false (by omega)
            by_cases hsr:s < r
            · have Hn:=Lib.hid (hnext (hfv.2 hsr))
              have d3:decide (s ≥ r)=false:=decide_eq_false (by omega)
              have d3':decide (r≤s)=false:=decide_eq_false (by omega)
              clear hnext hI hgo hho hs hr hfv hsr hui
              go_upto_region 10 with (go_at_call 140;refine (K.out).mono ?_;rintro e w5 ⟨rfl,hb5⟩)
              have bel5:=hb.trans (hb5.mono hbs)
              have h2r:=h20.step bel5
              have x2:=h2r.reach
              have b05:=b0r.step hb5
              have y5:∀ q:Th.Step w5.heap.size w5,q.w.cell? ⟨w.heap.size,0,none⟩=some (.int .i64 n):=fun q=>(b05.below q.h b05.lt).cell 0
              have bel5s:=bel5.size
              refine wp_region_reach (by kernel_rfl) (by kernel_rfl) ?_
              repeat (first | go_big_quiet_skip | ((with_reducible refine onq_index (.tmp 43) ?_);refine wq_at_i rfl _ (.tmp 43) _ rfl el_int rfl rfl (by omega) (by omega) (Th.Reach.refl _ _) x2 ?_;intro p4 z4 hz4 hc4;have hxx:s=z4:=get_eq Hs.out hz4.out (by omega);subst hxx;have f4:∀ q:Th.Step _ _,q.w.cell? p4=some (.int .i64 s):=fun q=>hc4 q.w ⟨q,rfl⟩) | ((with_reducible refine onq_index (.tmp 47) ?_);refine wq_at_i rfl _ (.tmp 47) _ rfl el_int rfl rfl (by omega) (by omega) (Th.Reach.refl _ _) x2 ?_;intro p5 z5 hz5 hc5;have hxx:r=z5:=get_eq Hr.out hz5.out (by omega);subst hxx;have f5:∀ q:Th.Step _ _,q.w.cell? p5=some (.int .i64 r):=fun q=>hc5 q.w ⟨q,rfl⟩) | go_big_quiet_step (fail) | quiet_step (fail))
              refine wpQuiet_nil ?_
              rintro _ ⟨q,rfl⟩
              have hqw6:=q.h
              obtain ⟨w6,hw6'⟩:∃ W,q.w=W:=⟨_,rfl⟩
              rw [hw6'] at hqw6 ⊢
              clear hw6' q
              go_wp2
              go_roundw
              case rel=>exact ⟨v+1,by omega,by go_num,rfl,Hn,bel5.trans (hqw6.mono bel5s)⟩
              case measure=>simp [intOf];omega
            · have Hno:Hid (¬ FallP (Nd.ls ns) rk pts):=Lib.hid (HFb.out (v:Int) (by omega) (by omega) (fun h=>hsr (hfv.1 h)))
              have d3:decide (s ≥ r)=true:=decide_eq_true (by omega)
              have d3':decide (r≤s)=true:=decide_eq_true (by omega)
              clear hnext hI hgo hho hs hr hfv hsr hui
              go_upto_region 10 with (go_at_call 140;refine (K.out).mono ?_;rintro e w5 ⟨rfl,hb5⟩)
              have bel5:=hb.trans (hb5.mono hbs)
              have h2r:=h20.step bel5
              have x2:=h2r.reach
              have b05:=b0r.step hb5
              have y5:∀ q:Th.Step w5.heap.size w5,q.w.cell? ⟨w.heap.size,0,none⟩=some (.int .i64 n):=fun q=>(b05.below q.h b05.lt).cell 0
              have bel5s:=bel5.size
              refine wp_region_reach (by kernel_rfl) (by kernel_rfl) ?_
              repeat (first | go_big_quiet_skip | ((with_reducible refine onq_index (.tmp 43) ?_);refine wq_at_i rfl _ (.tmp 43) _ rfl el_int rfl rfl (by omega) (by omega) (Th.Reach.refl _ _) x2 ?_;intro p4 z4 hz4 hc4;have hxx:s=z4:=get_eq Hs.out hz4.out (by omega);subst hxx;have f4:∀ q:Th.Step _ _,q.w.cell? p4=some (.int .i64 s):=fun q=>hc4 q.w ⟨q,rfl⟩) | ((with_reducible refine onq_index (.tmp 47) ?_);refine wq_at_i rfl _ (.tmp 47) _ rfl el_int rfl rfl (by omega) (by omega) (Th.Reach.refl _ _) x2 ?_;intro p5 z5 hz5 hc5;have hxx:r=z5:=get_eq Hr.out hz5.out (by omega);subst hxx;have f5:∀ q:Th.Step _ _,q.w.cell? p5=some (.int .i64 r):=fun q=>hc5 q.w ⟨q,rfl⟩) | go_big_quiet_step (fail) | quiet_step (fail))
              refine wpQuiet_nil ?_
              rintro _ ⟨q,rfl⟩
              have hqw6:=q.h
              obtain ⟨w6,hw6'⟩:∃ W,q.w=W:=⟨_,rfl⟩
              rw [hw6'] at hqw6 ⊢
              clear hw6' q
              go_wp2
              simp (config:={ zetaDelta:=true }) only [Exit.noGoto_ret]
              go_ret
              exact ⟨k0.trans ((bel5.trans (hqw6.mono bel5s)).mono k0.size),.inr ⟨rfl,Hno.out⟩⟩
        · obtain rfl:v=n:=by omega
          have Hn:=Lib.hid (HFn.out hG.out)
          clear HFn hG
          go_wp2
          go_roundw
          case rel=>exact ⟨k+1,by omega,by go_num,rfl,Hn,hb⟩
          case measure=>simp [intOf];omega
    · obtain rfl:k=n1:=by omega
      have h5:pts.take k=pts:=List.take_of_length_le (by have:=Hl1.out;omega)
      rw [h5] at hF
      go_wp2
      simp (config:={ zetaDelta:=true }) only [Exit.noGoto_ret]
      go_ret
      exact ⟨k0.trans (hb.mono k0.size),.inl ⟨rfl,hF.out⟩⟩
end Go.Proofs.YtjandnidljbkoaaGreat
