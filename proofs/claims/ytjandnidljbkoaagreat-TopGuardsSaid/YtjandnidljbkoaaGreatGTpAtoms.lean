/-
  atoms.Of.
-/
import Derived.Test.YtjandnidljbkoaaGreatGTpAtomsMem
import Derived.Test.YtjandnidljbkoaaGreatGTpNet
set_option linter.unusedVariables false
namespace Go.Th
open Go.RowKit Go.Maps
structure AtR (tU tI tV:TypeId) (w:World) (BL n:Nat) (A1:Option Addr) (n1 c1:Nat) (A2:Option Addr) (n2 c2:Nat) (A3:Option Addr) (n3 c3:Nat) (fr wh:List Int) (vs:List (List Int)) (gs:List Nat):Prop where
  oF:OwS uv w BL tU A1 n1 c1 fr
  oW:OwS iv w BL tI A2 n2 c2 wh
  oV:OwS (vrow n) w BL tV A3 n3 c3 gs
  len:vs.length=n3
  vec:∀ p∈gs.zip vs,OwS iv w BL tI (some ⟨p.1,0,none⟩) n n p.2
section
variable {tA tU tI tV:TypeId} {P:Program} {kt et:TypeId} {W:World} {BL gx b n:Nat} {w w' w8:World} {A1 A2 A3:Option Addr} {n1 c1 n2 c2 n3 c3:Nat} {fr wh:List Int} {vs:List (List Int)} {gs:List Nat} {nn:Nat} {ks:List (List UInt8)}
theorem AoS.out (h:AoS tA tU tI tV P kt et W BL gx b n w A1 n1 c1 A2 n2 c2 A3 n3 c3 fr wh vs gs nn ks):AtR tU tI tV w BL n A1 n1 c1 A2 n2 c2 A3 n3 c3 fr wh vs gs:=⟨h.oF,h.oW,h.oV,h.len,h.vec⟩
theorem AtR.below (h:AtR tU tI tV w BL n A1 n1 c1 A2 n2 c2 A3 n3 c3 fr wh vs gs) (hb:Below w.heap.size w w'):AtR tU tI tV w' BL n A1 n1 c1 A2 n2 c2 A3 n3 c3 fr wh vs gs :=
  ⟨h.oF.below hb,h.oW.below hb,h.oV.below hb,h.len,fun p hp=>(h.vec p hp).below hb⟩
theorem AtR.grown (h:AtR tU tI tV w BL n A1 n1 c1 A2 n2 c2 A3 n3 c3 fr wh vs gs) {row:Option Nat} (hg:w.grownBy w' row) (hr:∀ k,row=some k→k < BL):AtR tU tI tV w' BL n A1 n1 c1 A2 n2 c2 A3 n3 c3 fr wh vs gs:=by
  have key:∀ {α:Type} {f:α→Value} {e n c:Nat} {A:Option Addr} {xs:List α},OwS f w BL e A n c xs→OwS f w' BL e A n c xs:=fun q =>
    q.grown hg (fun g hA e=>by have:=q.ow.row_ge g (by rw [hA];rfl);have:=hr g e;omega)
  exact ⟨key h.oF,key h.oW,key h.oV,h.len,fun p hp=>key (h.vec p hp)⟩
theorem AtR.base_le {BL':Nat} (h:AtR tU tI tV w BL n A1 n1 c1 A2 n2 c2 A3 n3 c3 fr wh vs gs) (hb:BL'≤BL):AtR tU tI tV w BL' n A1 n1 c1 A2 n2 c2 A3 n3 c3 fr wh vs gs :=
  ⟨h.oF.base_le hb,h.oW.base_le hb,h.oV.base_le hb,h.len,fun p hp=>(h.vec p hp).base_le hb⟩
end
theorem OwS.fresh {α:Type} {f:α→Value} {w:World} {base e n c g:Nat} {A:Option Addr} {xs:List α} (h:OwS f w base e A n c xs) (hg:w.heap.size≤g):rowOf A≠some g:=fun e=>by
  rcases h.ow.form with ⟨rfl,_⟩ | ⟨g',rfl,_,hlt⟩
  · cases e
  · injection e with e
    have:g' = g:=e
    omega
theorem AtS.step_vs {s:AtS} {v:List Int} {a:Int}:∀ u∈(s.step v a).vs,u∈s.vs∨u=v:=by
  intro u hu
  unfold AtS.step at hu
  cases hp:plc s.vs v with
  | none =>
    rw [hp] at hu
    simp only [List.mem_append,List.mem_singleton] at hu
    exact hu
  | some p =>
    rw [hp] at hu
    dsimp only at hu
    split at hu <;> exact .inl hu
theorem atGo_vs {f:Int→List Int}:∀ (cs:List Int) (s:AtS),∀ u∈(cs.foldl (fun s a=>s.step (f a) a) s).vs,u∈s.vs∨∃ a∈cs,u=f a
  | [],s,u,hu=>.inl hu
  | a :: cs,s,u,hu=>by
    rcases atGo_vs cs _ u hu with h | ⟨b,hb,h⟩
    · rcases AtS.step_vs u h with h | h
      · exact .inl h
      · exact .inr ⟨a,by simp,h⟩
    · exact .inr ⟨b,by simp [hb],h⟩
theorem atGo_vs' {f:Int→List Int} {cs:List Int} {u:List Int} (hu:u∈(atGo f cs).vs):∃ a∈cs,u=f a:=by
  rcases atGo_vs cs AtS.nil u hu with h | h
  · cases h
  · exact h
section
variable {P:Program} {ops:Array Oper} {rest:List Oper} {o:Oper} {a:Act} {Q:Exit→Act→World→Prop} {w:World}
theorem wl_lookP_none (hg:o.guard=none) (m y:Operand) (t:TypeId) (hop:o.op=.lookup t m y true) {k e:TypeId} (hk:P.underlying k=some .string) (ht:P.underlying t=some (.map k e)) (he:P.underlying e=some (.int .i64)) (hz:(zeroValue e).run P w=.ok (.int .i64 0) w)
    {b n:Nat} {ks:List (List UInt8)} (hm:a.eval m=.map (some b)) (hs:MapP w P k e b n ks) {x:List UInt8} (hy:a.eval y=.string ⟨x.toArray⟩) (hx:x.length≤100000)
    (hq:Hid (plc ks x=none))
    (h:wpList P ops Q rest (a.put o.dst (.tuple #[.int .i64 0,.bool false])) w):wpList P ops Q (o :: rest) a w:=wl_lookP hg m y t hop hk ht he hz hm hs hy hx hq h
theorem wl_lookP_some (hg:o.guard=none) (m y:Operand) (t:TypeId) (hop:o.op=.lookup t m y true) {k e:TypeId} (hk:P.underlying k=some .string) (ht:P.underlying t=some (.map k e)) (he:P.underlying e=some (.int .i64)) (hz:(zeroValue e).run P w=.ok (.int .i64 0) w)
    {b n:Nat} {ks:List (List UInt8)} (hm:a.eval m=.map (some b)) (hs:MapP w P k e b n ks) {x:List UInt8} (hy:a.eval y=.string ⟨x.toArray⟩) (hx:x.length≤100000)
    {q:Nat} (hq:Hid (plc ks x=some q))
    (h:wpList P ops Q rest (a.put o.dst (.tuple #[.int .i64 (q:Int),.bool true])) w):wpList P ops Q (o :: rest) a w:=wl_lookP hg m y t hop hk ht he hz hm hs hy hx hq h
end
end Go.Th
namespace Go.Proofs.YtjandnidljbkoaaGreat
open Go.RowKit Go.Th Go.Maps
theorem info_rowi:(Tryz.prog.info? 38).map (fun i=>(i.zero,i.size,i.bytes))=some (some (.slice none 0 0),1,24):=by kernel_rfl
theorem size_rowi (w:World):(sizeOf 38).run Tryz.prog w=.ok 1 w:=by kernel_rfl
theorem el_rowi:El Tryz.prog 57 38 (.slice none 0 0) 24:=⟨Tryz.underlying57,info_parts info_rowi,rfl,size_rowi⟩
theorem st_atoms:St Tryz.prog 59 3:=⟨⟨_,Tryz.underlying59⟩,by kernel_rfl⟩
theorem zero_int (w:World):(zeroValue 3).run Tryz.prog w=.ok (.int .i64 0) w:=by kernel_rfl
theorem results_cell1 {P:Program} {fn:Func} {p u:Tmp} {ty:TypeId} (h:fn.results = #[.cell p ty,.tmp u]) (tmps:Array Value) (w:World) (g:Nat) (t:TypeId) (cs:Array Value) (fr:Nat × Nat) (d:TypeDesc)
    (hp:tmps.getD p undef=.pointer (some ⟨g,0,none⟩)) (hg:w.heap[g]? = some (.cells cs t fr)) {U:Value} (hu2:tmps.getD u undef=U)
    (hu:P.underlying ty=some d) (hd:(match d with | .struct _ | .array _ _=>true | _=>false)=true) (hi:(P.info? ty).map (·.size)=some cs.size) :
    (results fn tmps).run P w=.ok (.tuple #[.agg cs,U]) w:=by
  have hp':tmps[p]?.getD undef=.pointer (some ⟨g,0,none⟩):=by simpa using hp
  have hu':tmps[u]?.getD undef=U:=by simpa using hu2
  simp [results,h,hp',hu',asAddr,run_loadVar_row w g t ty cs fr d hg hu hd hi]
def atomsOf (ls:List (List Ru)):AtS:=atGo (vecOf ls) (cutsOf ls)
theorem ckeys_bound {ls:List (List Ru)} (hok:∀ l∈ls,∀ r∈l,r.Ok):∀ x∈ckeys ls,0≤x∧x≤4294967295:=by
  have key:∀ (l:List Ru) (ks:List Int),(∀ r∈l,r.Ok)→(∀ x∈ks,0≤x∧x≤4294967295)→∀ x∈lcuts ks l,0≤x∧x≤4294967295:=by
    intro l
    induction l with
    | nil=>exact fun ks _ h=>h
    | cons r l ih =>
      intro ks hl hk
      refine ih (rcuts ks r) (fun q hq=>hl q (by simp [hq])) (fun x hx=>?_)
      have ha:=(hl r (by simp)).a
      have h1:=lead_bounds r.a r.n ha
      have h2:=tail_bounds r.a r.n ha
      unfold rcuts at hx
      split at hx
      · rcases mem_addK.1 hx with hx | rfl
        · exact hk x hx
        · omega
      · rcases mem_addK.1 hx with hx | rfl
        · rcases mem_addK.1 hx with hx | rfl
          · exact hk x hx
          · omega
        · omega
  unfold ckeys
  suffices ∀ (ls:List (List Ru)) (ks:List Int),(∀ l∈ls,∀ r∈l,r.Ok)→(∀ x∈ks,0≤x∧x≤4294967295)→∀ x∈ls.foldl lcuts ks,0≤x∧x≤4294967295 from this ls [0] hok (by simp)
  intro ls
  induction ls with
  | nil=>exact fun ks _ h=>h
  | cons l ls ih=>exact fun ks hl hk=>ih _ (fun q hq=>hl q (by simp [hq])) (key l ks (hl l (by simp)) hk)
theorem mem_cutsOf {ls:List (List Ru)} {x:Int}:x∈cutsOf ls↔x∈ckeys ls:=List.mem_mergeSort
theorem cuts_bound {ls:List (List Ru)} (hok:∀ l∈ls,∀ r∈l,r.Ok):∀ x∈cutsOf ls,0≤x∧x≤4294967295:=fun x hx=>ckeys_bound hok x (mem_cutsOf.1 hx)
theorem ckeys_len (ls:List (List Ru)):(ckeys ls).length≤1+2 * nsize ls:=by
  have hk:∀ (ks:List Int) (x:Int),(addK ks x).length≤ks.length+1:=fun ks x=>by
    unfold addK
    split <;> simp
  have h1:∀ (l:List Ru) (ks:List Int),(lcuts ks l).length≤ks.length+2 * l.length:=by
    intro l
    induction l with
    | nil=>intro ks;exact Nat.le_refl _
    | cons r l ih =>
      intro ks
      have h2:=ih (rcuts ks r)
      have h3:(rcuts ks r).length≤ks.length+2:=by
        unfold rcuts
        split
        · have:=hk ks (lead r.a r.n);omega
        · have:=hk ks (lead r.a r.n);have:=hk (addK ks (lead r.a r.n)) (tailOf r.a r.n+1);omega
      show (lcuts (rcuts ks r) l).length≤_
      rw [List.length_cons]
      omega
  unfold ckeys
  suffices ∀ (ls:List (List Ru)) (ks:List Int),(ls.foldl lcuts ks).length≤ks.length+2 * nsize ls from this ls [0]
  intro ls
  induction ls with
  | nil=>intro ks;exact Nat.le_refl _
  | cons l ls ih =>
    intro ks
    have h2:=ih (lcuts ks l)
    have h3:=h1 l ks
    show (ls.foldl lcuts (lcuts ks l)).length≤_
    have:nsize (l :: ls)=l.length+nsize ls:=by simp [nsize]
    omega
theorem cuts_len (ls:List (List Ru)):(cutsOf ls).length≤1+2 * nsize ls:=by
  unfold cutsOf
  rw [List.length_mergeSort]
  exact ckeys_len ls
theorem atoms_each {ls:List (List Ru)} (h:NetOk ls) {cs:List Int}:∀ u∈(atGo (vecOf ls) cs).vs,u.length=ls.length∧∀ x∈u,-1≤x∧x≤65000:=by
  intro u hu
  obtain ⟨a,_,rfl⟩:=atGo_vs' hu
  exact ⟨vec_len ls a,h.vec' a⟩
theorem plc_key {ls:List (List Ru)} (h:NetOk ls) {cs:List Int} (a:Int):plc ((atGo (vecOf ls) cs).vs.map keyV) (keyV (vecOf ls a))=plc (atGo (vecOf ls) cs).vs (vecOf ls a) :=
  plc_map fun u hu he=>by
    have h1:=atoms_each h u hu
    exact keyV_inj h1.2 (h.vec' a) (by rw [h1.1,vec_len]) he
def AtomsR (ls:List (List Ru)) (n:Nat) (w:World) (e:Ending) (w':World):Prop :=
  ∃ (A1:Option Addr) (c1:Nat) (A2:Option Addr) (c2:Nat) (A3:Option Addr) (c3:Nat) (gs:List Nat) (n1 n3:Nat),
    e=.returned (.tuple #[.agg #[.slice A1 n1 c1,.slice A2 n1 c2,.slice A3 n3 c3],.int .i64 0]) ∧
    AtR 23 3 38 w' w.heap.size n A1 n1 c1 A2 n1 c2 A3 n3 c3 (atomsOf ls).fr (atomsOf ls).wh (atomsOf ls).vs gs∧Below w.heap.size w w'
def AoRel (ls:List (List Ru)) (cs:List Int) (n m:Nat) (W:World) (BL gx b:Nat) (last i:Value) (wr:World):Prop :=
  ∃ (k:Nat) (s:AtS) (A1:Option Addr) (c1:Nat) (A2:Option Addr) (c2:Nat) (A3:Option Addr) (c3:Nat) (gs:List Nat) (n1 n3 nn:Nat),k≤m∧i=.int .i64 k∧Hid (s=atGo (vecOf ls) (cs.take k))∧last=.int .i64 s.last ∧
    AoS 59 23 3 38 Tryz.prog 9 3 W BL gx b n wr A1 n1 c1 A2 n1 c2 A3 n3 c3 s.fr s.wh s.vs gs nn (s.vs.map keyV)∧n1≤k∧n3≤k∧nn≤k
set_option maxRecDepth 100000 in
set_option maxHeartbeats 4000000 in
theorem atoms_any (A:Option Addr) (n c:Nat) (ns:List Nd) (w:World) (B:Nat) (hr:NRd w B A n c ns) (he:nmay (Nd.ls ns)=0) (hl:(ckeys (Nd.ls ns)).length≤100000) :
    Calls Tryz.prog 20 #[.agg #[.slice A n c]] w (AtomsR (Nd.ls ns) n w):=by
  have hmm:=@run_makeMap Tryz.prog
  have hNet:=netok_of hr he
  have hlen:=hr.len
  have hn:n≤256:=by have:=hNet.len;rw [Nd.ls_len] at this;omega
  have hln:(Nd.ls ns).length=n:=by rw [Nd.ls_len];exact hlen
  have hsz:=hNet.size
  have hNd:=hNet.nd
  have HNet:=Lib.hid hNet
  have Hl:=Lib.hid hl
  have He:=Lib.hid he
  -- the argument's and the result's blocks
  have k0:=below_alloc w (Nat.le_refl _) (.cells #[.slice A n c] 34)
  have b0:=(Box.new w #[.slice A n c] 34)
  obtain ⟨W0,hW0⟩:∃ W,w.alloc (.cells #[.slice A n c] 34)=W:=⟨_,rfl⟩
  rw [hW0] at k0 b0
  have z0:W0.heap.size=w.heap.size+1:=by rw [← hW0];simp
  have k1:=below_alloc W0 k0.size (.cells #[.slice none 0 0,.slice none 0 0,.slice none 0 0] 59)
  have b2:=(Box.new W0 #[.slice none 0 0,.slice none 0 0,.slice none 0 0] 59)
  have b1:=b0.alloc (.cells #[.slice none 0 0,.slice none 0 0,.slice none 0 0] 59)
  obtain ⟨W1,hW1⟩:∃ W,W0.alloc (.cells #[.slice none 0 0,.slice none 0 0,.slice none 0 0] 59)=W:=⟨_,rfl⟩
  rw [hW1] at k1 b1 b2
  have kA:=k0.trans k1
  have hr1:=hr.heap.step kA
  obtain ⟨gr,hgr⟩:∃ g,W0.heap.size=g:=⟨_,rfl⟩
  rw [hgr] at b2
  have hgrw:w.heap.size≤gr:=by omega
  have K1:=Lib.hid (vnew_any A n c ns W1 hn hsz _ hr1 he hNd.1 hNd.2)
  have Hlen:=Lib.hid hlen
  have Hln:=Lib.hid hln
  clear hl he hr hlen hln hNet hNd hsz z0 k0 k1 b0
  go_enter Tryz.func20,Tryz.ntmps20
  go_upto_region 1 with fail
  clear hW0 hW1 hgr
  go_upto_region 4 with (first
    | ((with_reducible refine on_load (.tmp 1) ?_);refine wb_load rfl _ (.tmp 1) rfl st_net rfl b1 rfl ?_)
    | (go_at_call 21;refine (K1.out).mono ?_;rintro e w1 ⟨gm,Am,cm,gs0,rfl,hM,hb1⟩))
  rw [Hln.out] at hM
  have b1w:=b1.step hb1
  have b2w:=b2.step hb1
  have kB:=kA.trans (hb1.mono kA.size)
  have hrw:=hr1.step hb1
  have hMl:=hM.box.lt
  have hgm:=hM.row.ow
  have kx:=below_alloc w1 (Nat.le_refl _) (.cells #[.slice none 0 0,.slice none 0 0,.slice none 0 0] 59)
  have bx:=Box.new w1 #[.slice none 0 0,.slice none 0 0,.slice none 0 0] 59
  obtain ⟨W2,hW2⟩:∃ W,w1.alloc (.cells #[.slice none 0 0,.slice none 0 0,.slice none 0 0] 59)=W:=⟨_,rfl⟩
  rw [hW2] at kx bx
  have z2:W2.heap.size=w1.heap.size+1:=by rw [← hW2];simp
  have km:=below_alloc W2 (Nat.le_refl _) (.map #[] 0)
  have mp:MapP (W2.alloc (.map #[] 0)) Tryz.prog 9 3 W2.heap.size 0 []:=MapP.made _ _ _ _
  obtain ⟨W3,hW3⟩:∃ W,W2.alloc (.map #[] 0)=W:=⟨_,rfl⟩
  rw [hW3] at km mp
  have z3:W3.heap.size=W2.heap.size+1:=by rw [← hW3];simp
  have kx3:=kx.trans (km.mono (by omega))
  have kC:=kB.trans (kx3.mono kB.size)
  have hr3:=hrw.step kx3
  have b13:=b1w.step kx3
  have bx3:=bx.step km
  obtain ⟨gx,hgx⟩:∃ g,w1.heap.size=g:=⟨_,rfl⟩
  obtain ⟨b,hb⟩:∃ g,W2.heap.size=g:=⟨_,rfl⟩
  rw [hgx] at bx3
  rw [hb] at mp
  have K2:=Lib.hid (cuts_any A n c ns W3 hn (HNet.out.size) _ hr3 Hl.out)
  have hxb:b=gx+1:=by omega
  have z3':W3.heap.size=gx+2:=by omega
  have hgmx:gm < gx:=by omega
  have b23:=(b2.step hb1).step kx3
  have hgr:gr < gx:=by have:=(b2.step hb1).lt;omega
  have hwr:w.heap.size≤gx:=by have:=kB.size;omega
  subst hxb
  clear z2 z3 bx km K1 hrw hr1 b1w b2w b1 b2 kB hMl hgm kx
  go_upto_region 8 with (first
    | ((with_reducible refine on_load (.tmp 1) ?_);refine wb_load rfl _ (.tmp 1) rfl st_net rfl b13 rfl ?_)
    | (go_at_call 22;refine (K2.out).mono ?_;rintro e W ⟨gc,m,cc,rfl,oc,kW⟩))
  have hgx0:=hgx
  clear hW2 hW3 hgx hb K2 hr3 b13
  have b2W:=b23.step kW
  have hcW:W3.heap.size≤gc:=oc.ow.row_ge gc rfl
  have hgcW:gc < W.heap.size:=by
    obtain ⟨g',e,_,hlt⟩:=oc.ow.form.resolve_left (by simp)
    injection e with e
    injection e with e
    omega
  have hWx:gx+2≤W.heap.size:=by have:=kW.size;omega
  have hcg:gc≠gx∧gc≠gx+1:=by omega
  have kMx:Below gx w1 W:=(by rw [← hgx0];exact kx3.trans (kW.mono (by omega)))
  have HM:=Lib.hid (fun (w':World) (h:Below gx W w')=>hM.step (w':=w') (by rw [hgx0];exact kMx.trans h))
  have s0:AoS 59 23 3 38 Tryz.prog 9 3 W W.heap.size gx (gx+1) n W none 0 0 none 0 0 none 0 0 [] [] [] [] 0 [] :=
    ⟨bx3.step kW,OwS.nil_ _ _ _,OwS.nil_ _ _ _,OwS.nil_ _ _ _,rfl,by simp,by simp,mp.step kW,Kp.refl _ _ _ _,by omega,by omega,by omega,Nat.le_refl _⟩
  have kD:=kC.trans (kW.mono kC.size)
  obtain ⟨cs,hcs⟩:∃ cs,cutsOf (Nd.ls ns)=cs:=⟨_,rfl⟩
  rw [hcs] at oc
  have Hcb:=Lib.hid (hcs ▸ cuts_bound HNet.out.ok)
  have hcm:m≤maxLen:=by have:=oc.cap;have:=oc.capMax;omega
  have hm8:m≤8193:=by
    have h1:=oc.len
    have h2:=cuts_len (Nd.ls ns)
    have h3:=HNet.out.size
    rw [hcs,h1] at h2
    omega
  have Hgcx:=Lib.hid hcg
  clear hM bx3 mp kx3 b23 kC hb1 kA z3' kMx hgx0 hcg hgmx hcm hcW
  go_wp2
  go_loopw [8,28] (fun last i wr=>AoRel (Nd.ls ns) cs n m W W.heap.size gx (gx+1) last i wr) (fun _ i _=>m - (intOf i).toNat)
  case atStart=>exact ⟨0,AtS.nil,none,0,none,0,none,0,[],0,0,0,by omega,rfl,Lib.hid rfl,rfl,s0,by omega,by omega,by omega⟩
  case round =>
    obtain ⟨k,s,A1,c1,A2,c2,A3,c3,gs,n1,n3,nn,hk,rfl,Hs,rfl,hS,hn1,hn3,hnn⟩:=hrel
    have hcr:=(oc.kp hS.kp hgcW Hgcx.out.1 Hgcx.out.2).rd
    have hMr:=HM.out wr (hS.kp.out (by omega) (by omega) (by omega))
    have hlen:=hcr.len
    have hs3:=hS.len
    by_cases hlt:k < m
    · obtain ⟨a,ha⟩:∃ a,cs[k]? = some a:=⟨cs[k]'(by omega),List.getElem?_eq_getElem _⟩
      have hab:=Hcb.out a (List.mem_of_getElem? ha)
      have K1:=Lib.hid (vof_any W1.heap.size gm Am n cm gs0 (Nd.ls ns) a wr hn hMr hab)
      have Hvb:=Lib.hid (HNet.out.vec' a)
      have Hvl:Hid ((vecOf (Nd.ls ns) a).length=n):=Lib.hid (by rw [vec_len];exact Hln.out)
      have Hst:Hid (atGo (vecOf (Nd.ls ns)) (cs.take (k+1))=s.step (vecOf (Nd.ls ns) a) a):=Lib.hid (by rw [atGo_more ha,← Hs.out])
      have hpk:=plc_key HNet.out (cs:=cs.take k) a
      rw [← Hs.out] at hpk
      obtain ⟨v,hv⟩:∃ v,vecOf (Nd.ls ns) a=v:=⟨_,rfl⟩
      rw [hv] at K1 Hvb Hvl Hst hpk
      have Ha:=Lib.hid ha
      have Hlen:=Lib.hid hlen
      have Hs3:=Lib.hid hs3
      have hszr:=hS.sz
      clear ha hlen hs3 hv
      rcases hq:plc s.vs v with _ | p
      · rw [hq] at hpk
        have Hq:=Lib.hid hpk
        have Hst':Hid (atGo (vecOf (Nd.ls ns)) (cs.take (k+1))=⟨s.fr ++ [a],s.wh ++ [(n3:Int)],s.vs ++ [v],n3⟩):=Lib.hid (by rw [Hst.out,AtS.step_none hq,Hs3.out])
        clear hq hpk
        go_wp2_with (first
          | ((with_reducible refine on_index (.tmp 26) ?_);refine wl_at_u rfl _ (.tmp 26) _ rfl el_u32 rfl rfl (by omega) (by omega) hcr ?_;intro p1 a1 ha1 hc1;have hxx:a=a1:=get_eq Ha.out ha1.out (by omega);subst hxx)
          | (go_at_call 24;refine (K1.out).mono ?_;rintro e w2 ⟨g,rfl,ov,hb2⟩)
          | (go_at_call 58;refine (key_any _ n n v w2 (by omega) _ ov.rd Hvb.out).mono ?_;rintro e w3 ⟨rfl,hb3⟩;have S3:=(hS.below hb2).below hb3;have ov3:=(ov.below hb3).base_le hszr;have hgr:wr.heap.size≤g:=ov.ow.row_ge g rfl;have y2:w3.cell? ⟨gx,2,none⟩=some (.slice A3 n3 c3):=S3.box.cell 2)
          | ((with_reducible refine on_lookup (.tmp 38) _ ?_);refine wl_lookP_none rfl _ _ _ rfl Tryz.underlying9 Tryz.underlying125 Tryz.underlying3 (zero_int _) rfl S3.map rfl (by rw [keyV_len,Hvl.out];omega) Hq ?_)
          | (go_at_call 59;refine (kind_any _ _ _ _).mono ?_;rintro e w5 ⟨rfl,rfl⟩)
          | ((with_reducible refine on_mapUpdate (.tmp 54) _ _ ?_);refine wl_putP rfl _ _ _ _ rfl Tryz.underlying9 Tryz.underlying125 Tryz.underlying3 rfl S3.map (by simp [maxLen];omega) rfl (by rw [keyV_len,Hvl.out];omega) Hq (L:=n3) rfl (by rw [List.length_map];exact Hs3.out.symm) (by omega) ?_;intro w4 m4 hg4;have S4:=S3.put m4 hg4;have ov4:=ov3.grown hg4 (fun g' hA e=>by injection hA with hA;injection hA with hA;injection e with e;omega);have y4:w4.cell? ⟨gx,2,none⟩=some (.slice A3 n3 c3):=S4.box.cell 2;have hg34:=hg4.size)
          | ((with_reducible refine on_append (.tmp 58) (.tmp 60) ?_);refine wl_appendS rfl (.tmp 58) (.tmp 60) _ rfl el_rowi (f:=vrow n) (vrow_one n) rfl (S4.oV.alloc (.cells #[vrow n g] 38)) rfl (OwS.lit (base:=w4.heap.size) (e:=38) (xs:=[g]) w4 #[vrow n g] 1 (Nat.le_refl _) (by simp [maxLen]) rfl rfl).rd (by omega) (by omega) (by have:=S4.sz;simp;omega) ?_;intro A8 c8 w8 ow8 hg8 hb8;obtain ⟨S8,y8,f8⟩:=(S4.below (below_alloc w4 (Nat.le_refl _) (.cells #[vrow n g] 38))).addV (by decide) (by decide) (ov4.alloc (.cells #[vrow n g] 38)) (hS.oW.fresh hgr) hg8 ow8;obtain ⟨w9,hw9⟩:∃ W,w8.setCell ⟨gx,2,none⟩ (.slice A8 (n3+1) c8)=W:=⟨_,rfl⟩;rw [hw9] at S8;have y9:w9.cell? ⟨gx,0,none⟩=some (.slice A1 n1 c1):=S8.box.cell 0)
          | ((with_reducible refine on_append (.tmp 64) (.tmp 66) ?_);refine wl_appendS rfl (.tmp 64) (.tmp 66) _ rfl el_u32 (f:=uv) (fun _=>rfl) rfl (S8.oF.alloc (.cells #[.int .u32 a] 23)) rfl (OwS.lit (base:=w9.heap.size) (e:=23) (xs:=[a]) w9 #[.int .u32 a] 1 (Nat.le_refl _) (by simp [maxLen]) rfl rfl).rd (by omega) (by omega) (by have:=S8.sz;simp;omega) ?_;intro Af cf wf owf hgf hbf;obtain ⟨Sf,yf,ff⟩:=(S8.below (below_alloc w9 (Nat.le_refl _) (.cells #[.int .u32 a] 23))).addF (by decide) (by decide) hgf owf;obtain ⟨wg,hwg⟩:∃ W,wf.setCell ⟨gx,0,none⟩ (.slice Af (n1+1) cf)=W:=⟨_,rfl⟩;rw [hwg] at Sf;have yg:wg.cell? ⟨gx,1,none⟩=some (.slice A2 n1 c2):=Sf.box.cell 1)
          | ((with_reducible refine on_append (.tmp 70) (.tmp 72) ?_);refine wl_appendA rfl (.tmp 70) (.tmp 72) _ rfl el_int (f:=iv) (fun _=>rfl) rfl (Sf.oW.alloc (.cells #[.int .i64 n3] 3)) rfl (OwS.lit (base:=wg.heap.size) (e:=3) (xs:=[(n3:Int)]) wg #[.int .i64 n3] 1 (Nat.le_refl _) (by simp [maxLen]) rfl rfl).rd (by omega) (by omega) (by have:=Sf.sz;simp;omega) ?_;intro Ah ch wh owh hgh hbh hloc;obtain ⟨Sh,yh,fh⟩:=(Sf.below (below_alloc wg (Nat.le_refl _) (.cells #[.int .i64 n3] 3))).addW (by decide) (by decide) hgh owh hloc))
        go_roundw
        case rel=>exact ⟨k+1,⟨s.fr ++ [a],s.wh ++ [(n3:Int)],s.vs ++ [v],n3⟩,Af,cf,Ah,ch,A8,c8,gs ++ [g],n1+1,n3+1,nn+1,by omega,by go_num,Lib.hid Hst'.out.symm,rfl,by rw [List.map_append];exact Sh,by omega,by omega,by omega⟩
        case measure=>simp [intOf];omega
      · rw [hq] at hpk
        have Hq:=Lib.hid hpk
        by_cases hp:(p:Int)=s.last
        · have Hst':Hid (atGo (vecOf (Nd.ls ns)) (cs.take (k+1))=s):=Lib.hid (by rw [Hst.out,AtS.step_same hq hp])
          have KK:Hid (∀ w,Calls Tryz.prog 59 #[.int .i64 (p:Int),.bool true,.int .i64 s.last] w (RetV (.int .i64 2) w)):=Lib.hid (fun w=>by have:=kind_any (p:Int) s.last true w;rw [if_neg (by simp),if_pos hp] at this;exact this)
          clear hq hpk hp
          go_wp2_with (first
            | ((with_reducible refine on_index (.tmp 26) ?_);refine wl_at_u rfl _ (.tmp 26) _ rfl el_u32 rfl rfl (by omega) (by omega) hcr ?_;intro p1 a1 ha1 hc1;have hxx:a=a1:=get_eq Ha.out ha1.out (by omega);subst hxx)
            | (go_at_call 24;refine (K1.out).mono ?_;rintro e w2 ⟨g,rfl,ov,hb2⟩)
            | (go_at_call 58;refine (key_any _ n n v w2 (by omega) _ ov.rd Hvb.out).mono ?_;rintro e w3 ⟨rfl,hb3⟩;have S3:=(hS.below hb2).below hb3;have ov3:=(ov.below hb3).base_le hszr;have hgr:wr.heap.size≤g:=ov.ow.row_ge g rfl;have y2:w3.cell? ⟨gx,2,none⟩=some (.slice A3 n3 c3):=S3.box.cell 2)
            | ((with_reducible refine on_lookup (.tmp 38) _ ?_);refine wl_lookP_some rfl _ _ _ rfl Tryz.underlying9 Tryz.underlying125 Tryz.underlying3 (zero_int _) rfl S3.map rfl (by rw [keyV_len,Hvl.out];omega) Hq ?_)
            | (go_at_call 59;refine (KK.out _).mono ?_;rintro e w5 ⟨rfl,rfl⟩))
          go_roundw
          case rel=>exact ⟨k+1,s,A1,c1,A2,c2,A3,c3,gs,n1,n3,nn,by omega,by go_num,Lib.hid Hst'.out.symm,rfl,S3,by omega,by omega,by omega⟩
          case measure=>simp [intOf];omega
        · have Hst':Hid (atGo (vecOf (Nd.ls ns)) (cs.take (k+1))=⟨s.fr ++ [a],s.wh ++ [(p:Int)],s.vs,p⟩):=Lib.hid (by rw [Hst.out,AtS.step_some hq hp])
          have KK:Hid (∀ w,Calls Tryz.prog 59 #[.int .i64 (p:Int),.bool true,.int .i64 s.last] w (RetV (.int .i64 1) w)):=Lib.hid (fun w=>by have:=kind_any (p:Int) s.last true w;rw [if_neg (by simp),if_neg hp] at this;exact this)
          clear hq hpk hp
          go_wp2_with (first
            | ((with_reducible refine on_index (.tmp 26) ?_);refine wl_at_u rfl _ (.tmp 26) _ rfl el_u32 rfl rfl (by omega) (by omega) hcr ?_;intro p1 a1 ha1 hc1;have hxx:a=a1:=get_eq Ha.out ha1.out (by omega);subst hxx)
            | (go_at_call 24;refine (K1.out).mono ?_;rintro e w2 ⟨g,rfl,ov,hb2⟩)
            | (go_at_call 58;refine (key_any _ n n v w2 (by omega) _ ov.rd Hvb.out).mono ?_;rintro e w3 ⟨rfl,hb3⟩;have S3:=(hS.below hb2).below hb3;have ov3:=(ov.below hb3).base_le hszr;have hgr:wr.heap.size≤g:=ov.ow.row_ge g rfl;have y2:w3.cell? ⟨gx,0,none⟩=some (.slice A1 n1 c1):=S3.box.cell 0)
            | ((with_reducible refine on_lookup (.tmp 38) _ ?_);refine wl_lookP_some rfl _ _ _ rfl Tryz.underlying9 Tryz.underlying125 Tryz.underlying3 (zero_int _) rfl S3.map rfl (by rw [keyV_len,Hvl.out];omega) Hq ?_)
            | (go_at_call 59;refine (KK.out _).mono ?_;rintro e w5 ⟨rfl,rfl⟩)
            | ((with_reducible refine on_append (.tmp 64) (.tmp 66) ?_);refine wl_appendS rfl (.tmp 64) (.tmp 66) _ rfl el_u32 (f:=uv) (fun _=>rfl) rfl (S3.oF.alloc (.cells #[.int .u32 a] 23)) rfl (OwS.lit (base:=w3.heap.size) (e:=23) (xs:=[a]) w3 #[.int .u32 a] 1 (Nat.le_refl _) (by simp [maxLen]) rfl rfl).rd (by omega) (by omega) (by have:=S3.sz;simp;omega) ?_;intro Af cf wf owf hgf hbf;obtain ⟨Sf,yf,ff⟩:=(S3.below (below_alloc w3 (Nat.le_refl _) (.cells #[.int .u32 a] 23))).addF (by decide) (by decide) hgf owf;obtain ⟨wg,hwg⟩:∃ W,wf.setCell ⟨gx,0,none⟩ (.slice Af (n1+1) cf)=W:=⟨_,rfl⟩;rw [hwg] at Sf;have yg:wg.cell? ⟨gx,1,none⟩=some (.slice A2 n1 c2):=Sf.box.cell 1)
            | ((with_reducible refine on_append (.tmp 70) (.tmp 72) ?_);refine wl_appendA rfl (.tmp 70) (.tmp 72) _ rfl el_int (f:=iv) (fun _=>rfl) rfl (Sf.oW.alloc (.cells #[.int .i64 p] 3)) rfl (OwS.lit (base:=wg.heap.size) (e:=3) (xs:=[(p:Int)]) wg #[.int .i64 p] 1 (Nat.le_refl _) (by simp [maxLen]) rfl rfl).rd (by omega) (by omega) (by have:=Sf.sz;simp;omega) ?_;intro Ah ch wh owh hgh hbh hloc;obtain ⟨Sh,yh,fh⟩:=(Sf.below (below_alloc wg (Nat.le_refl _) (.cells #[.int .i64 p] 3))).addW (by decide) (by decide) hgh owh hloc))
          go_roundw
          case rel=>exact ⟨k+1,⟨s.fr ++ [a],s.wh ++ [(p:Int)],s.vs,p⟩,Af,cf,Ah,ch,A3,c3,gs,n1+1,n3,nn,by omega,by go_num,Lib.hid Hst'.out.symm,rfl,Sh,by omega,by omega,by omega⟩
          case measure=>simp [intOf];omega
    · obtain rfl:k=m:=by omega
      have h5:cs.take k=cs:=List.take_of_length_le (by omega)
      have hs5:s=atomsOf (Nd.ls ns):=by rw [Hs.out,h5,← hcs];rfl
      have b2r:=b2W.below (hS.kp.out (B:=gx) (by omega) (by omega) (by omega)) hgr
      have kE:Below w.heap.size W wr:=hS.kp.out (by omega) (by omega) (by omega)
      have bxr:=hS.box
      subst hs5
      clear hs3 hlen hcr
      go_wp2_with (first
        | ((with_reducible refine on_load (.tmp 6) ?_);refine wb_load rfl _ (.tmp 6) rfl st_atoms rfl bxr rfl ?_)
        | ((with_reducible refine on_store_at (.tmp 2) ?_);refine wb_store (cs:=#[.slice none 0 0,.slice none 0 0,.slice none 0 0]) (cs':=#[.slice A1 n1 c1,.slice A2 n1 c2,.slice A3 n3 c3]) rfl _ (.tmp 2) _ rfl st_atoms rfl rfl b2r rfl rfl (by simp [Value.oneCell']) ?_;intro w9 b9 hg9))
      refine bodyPost_ret (v:=.tuple #[.agg #[.slice A1 n1 c1,.slice A2 n1 c2,.slice A3 n3 c3],.int .i64 0]) ?_ rfl ⟨A1,c1,A2,c2,A3,c3,gs,n1,n3,rfl,?_,?_⟩
      · exact results_cell1 rfl _ w9 gr 59 _ (0,0) _ rfl b9.at_ rfl Tryz.underlying59 rfl st_atoms.size
      · exact (hS.out.grown hg9 (fun k e=>by injection e with e;omega)).base_le (by omega)
      · exact (kD.trans kE).grown hg9 (by have:=kD.size;have:=kE.size;omega) (fun k e=>by injection e with e;omega)
end Go.Proofs.YtjandnidljbkoaaGreat
