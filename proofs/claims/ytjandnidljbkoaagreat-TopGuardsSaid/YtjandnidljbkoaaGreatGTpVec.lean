/-
  vector.New, (*vector.Maker).Of.
-/
import Derived.Test.YtjandnidljbkoaaGreatGTpBuilt
import Derived.Deep.DeepCutAuto
set_option linter.unusedVariables false
namespace Go.Th
open Go.RowKit
theorem Ow.other {w:World} {base e size n c:Nat} {A:Option Addr} {xs:List Value} (h:Ow w base e size A n c xs) {g t:Nat} {cs:Array Value} (hb:Box w g t cs) (hne:t≠e):rowOf A≠some g:=by
  rcases h.own.2 with ⟨hv,_⟩ | ⟨g',cap,cur,hv,_,hg,_⟩
  · injection hv with hA;subst hA;exact fun e=>by cases e
  · injection hv with hA
    subst hA
    intro e
    injection e with e
    subst e
    have:=hg.symm.trans hb.at_
    injection this with this
    injection this with _ h2
    exact hne h2.symm
theorem Box.unlike {w:World} {g g' t t':Nat} {cs cs':Array Value} (h:Box w g t cs) (h':Box w g' t' cs') (hne:t≠t'):g≠g':=fun e=>by
  subst e
  have:=h.at_.symm.trans h'.at_
  injection this with this
  injection this with _ h2
  exact hne h2
theorem TAt.other {T:TypeId} {w w':World} {row:Option Nat} (hg:w.grownBy w' row) (hn:∀ g cs,Box w g T cs→row≠some g):∀ {t:Tr},TAt T w t→TAt T w' t
  | .nil,_=>trivial
  | .node b _ _ _ _ k0 k1,⟨h1,h2,h3⟩=>⟨h1.grown hg (hn _ _ h1),TAt.other hg hn h2,TAt.other hg hn h3⟩
theorem TrieAt.other {TT T:TypeId} {w w':World} {base gt:Nat} {t:Tr} {size:Int} (h:TrieAt TT T w base gt t size) {row:Option Nat} (hg:w.grownBy w' row) (hn:∀ g cs,Box w g T cs→row≠some g) (hn2:∀ g cs,Box w g TT cs→row≠some g):TrieAt TT T w' base gt t size :=
  ⟨h.top.grown hg (hn2 _ _ h.top),TAt.other hg hn h.at_,h.nd,h.ne,h.ge,h.gg⟩
theorem TrieAt.base_le {TT T:TypeId} {w:World} {base base' gt:Nat} {t:Tr} {size:Int} (h:TrieAt TT T w base gt t size) (hb:base'≤base):TrieAt TT T w base' gt t size :=
  ⟨h.top,h.at_,h.nd,h.ne,fun b hb'=>Nat.le_trans hb (h.ge b hb'),Nat.le_trans hb h.gg⟩
end Go.Th
namespace Go.Proofs.YtjandnidljbkoaaGreat
open Go.RowKit Go.Th
def fv (g:Nat):Value:=.func (.func 18) #[.pointer (some ⟨g,0,none⟩)] #[]
theorem info_fn:(Tryz.prog.info? 55).map (fun i=>(i.zero,i.size,i.bytes))=some (some .nilFunc,1,8):=by kernel_rfl
theorem size_fn (w:World):(sizeOf 55).run Tryz.prog w=.ok 1 w:=by kernel_rfl
theorem el_fn:El Tryz.prog 128 55 .nilFunc 8:=⟨Tryz.underlying128,info_parts info_fn,rfl,size_fn⟩
theorem fv_one (g:Nat):(fv g).oneCell' = true:=rfl
def TrOf (w:World) (base g:Nat) (l:List Ru):Prop:=∃ (t:Tr) (size:Int),TrieAt 115 123 w base g t size∧BuiltOf l t∧Diff l
theorem TrOf.step {w w':World} {base g:Nat} {l:List Ru} (h:TrOf w base g l) (hb:Below w.heap.size w w'):TrOf w' base g l:=by
  obtain ⟨t,size,h1,h2,h3⟩:=h
  exact ⟨t,size,h1.step hb,h2,h3⟩
theorem TrOf.other {w w':World} {base g:Nat} {l:List Ru} (h:TrOf w base g l) {row:Option Nat} (hg:w.grownBy w' row) (hn:∀ g cs,Box w g 123 cs→row≠some g) (hn2:∀ g cs,Box w g 115 cs→row≠some g):TrOf w' base g l:=by
  obtain ⟨t,size,h1,h2,h3⟩:=h
  exact ⟨t,size,h1.other hg hn hn2,h2,h3⟩
theorem TrOf.base_le {w:World} {base base' g:Nat} {l:List Ru} (h:TrOf w base g l) (hb:base'≤base):TrOf w base' g l:=by
  obtain ⟨t,size,h1,h2,h3⟩:=h
  exact ⟨t,size,h1.base_le hb,h2,h3⟩
theorem find_of (g base:Nat) (l:List Ru) (x:Int) (w:World) (h:TrOf w base g l) (hx:0≤x∧x≤4294967295) (r:Ru) (ok:Bool) (hr:tfind l x=(r,ok)) :
    Calls Tryz.prog 18 #[.pointer (some ⟨g,0,none⟩),.int .u32 x] w (RetB (.tuple #[.agg #[.int .u32 r.a,.int .i64 r.n,.int .i64 r.act,.int .i64 r.next],.bool ok]) w):=by
  obtain ⟨t,size,h1,h2,h3⟩:=h
  exact tfind_any g t size x w h1.top h1.at_ h2.wf hx r ok (Lib.hid (by rw [h2.find h3.apart x];exact hr))
structure Mk (w:World) (base gm:Nat) (A:Option Addr) (n c:Nat) (gs:List Nat) (ls:List (List Ru)):Prop where
  box:Box w gm 130 #[.slice A n c]
  row:OwS fv w base 55 A n c gs
  len:gs.length=ls.length
  tr:∀ (i g:Nat) (l:List Ru),gs[i]? = some g→ls[i]? = some l→TrOf w base g l
section
variable {w w':World} {base gm n c:Nat} {A:Option Addr} {gs:List Nat} {ls:List (List Ru)}
theorem Mk.step (h:Mk w base gm A n c gs ls) (hb:Below w.heap.size w w'):Mk w' base gm A n c gs ls:=⟨h.box.step hb,h.row.below hb,h.len,fun i g l h1 h2=>(h.tr i g l h1 h2).step hb⟩
theorem Mk.base_le {base':Nat} (h:Mk w base gm A n c gs ls) (hb:base'≤base):Mk w base' gm A n c gs ls:=⟨h.box,h.row.base_le hb,h.len,fun i g l h1 h2=>(h.tr i g l h1 h2).base_le hb⟩
theorem Mk.more {A':Option Addr} {c' g:Nat} {l:List Ru} (h:Mk w base gm A n c gs ls) (ht:TrOf w base g l) (hg:w.grownBy w' (rowOf A)) (ho:OwS fv w' base 55 A' (n+1) c' (gs ++ [g])) (hm:gm < base):Mk (w'.setCell ⟨gm,0,none⟩ (.slice A' (n+1) c')) base gm A' (n+1) c' (gs ++ [g]) (ls ++ [l])∧w'.grownBy (w'.setCell ⟨gm,0,none⟩ (.slice A' (n+1) c')) (some gm):=by
  have hb1:=h.box.grown hg (h.row.ow.other h.box (by decide))
  have S:=hb1.setCell 0 (.slice A' (n+1) c')
  have key:∀ (g:Nat) (l:List Ru),TrOf w base g l→TrOf (w'.setCell ⟨gm,0,none⟩ (.slice A' (n+1) c')) base g l:=fun g l ht =>
    (ht.other hg (fun g cs hb=>h.row.ow.other hb (by decide)) (fun g cs hb=>h.row.ow.other hb (by decide))).other S.2 (fun g cs hb e=>hb1.unlike hb (by decide) (Option.some.inj e)) (fun g cs hb e=>hb1.unlike hb (by decide) (Option.some.inj e))
  refine ⟨⟨S.1,ho.grown S.2 (fun g' hA e=>by have:=ho.ow.row_ge g' (by rw [hA];rfl);injection e with e;omega),by simp [h.len],fun i g1 l1 h1 h2=>?_⟩,S.2⟩
  refine key g1 l1 ?_
  rw [List.getElem?_append] at h1 h2
  by_cases hi:i < gs.length
  · rw [if_pos hi] at h1
    rw [if_pos (by rw [← h.len];exact hi)] at h2
    exact h.tr i g1 l1 h1 h2
  · rw [if_neg hi] at h1
    rw [if_neg (by rw [← h.len];exact hi)] at h2
    have h3:=List.mem_of_getElem? h1
    have h4:=List.mem_of_getElem? h2
    rw [List.mem_singleton.1 h3,List.mem_singleton.1 h4]
    exact ht
end
def VnRel (ns:List Nd) (n gm:Nat) (w:World) (i:Value) (wr:World):Prop :=
  ∃ (k:Nat) (A:Option Addr) (c:Nat) (gs:List Nat),k≤n∧i=.int .i64 k∧Mk wr (gm+1) gm A k c gs ((Nd.ls ns).take k)∧Below gm w wr
def NewR (ls:List (List Ru)) (w:World) (e:Ending) (w':World):Prop :=
  ∃ (gm:Nat) (A:Option Addr) (c:Nat) (gs:List Nat),e=.returned (.tuple #[.pointer (some ⟨gm,0,none⟩),.int .i64 0])∧Mk w' w.heap.size gm A ls.length c gs ls∧Below w.heap.size w w'
set_option maxRecDepth 100000 in
set_option maxHeartbeats 2000000 in
theorem vnew_any (A:Option Addr) (n c:Nat) (ns:List Nd) (w:World) (hn:n≤256) (hs:nsize (Nd.ls ns)≤4096) (B:Nat) (hr:NRd w B A n c ns) (he:nmay (Nd.ls ns)=0) (hok:∀ x∈ns,∀ r∈x.l,r.Ok∧pmay r.a r.n=0) (hd:∀ x∈ns,Diff x.l) :
    Calls Tryz.prog 21 #[.agg #[.slice A n c]] w (NewR (Nd.ls ns) w):=by
  have hmf:∀ (fn:Fn) (first cap:Array Value) (w:World),(Instr.makeFunc fn first cap).run Tryz.prog w=.ok (.func fn first cap) w:=fun _ _ _ _=>rfl
  have Hok:=Lib.hid hok
  have Hd:=Lib.hid hd
  have k0:=below_alloc w (Nat.le_refl _) (.cells #[.slice A n c] 34)
  have b0:=Box.new w #[.slice A n c] 34
  have hr0:=hr.step k0
  obtain ⟨W0,hW0⟩:∃ W,w.alloc (.cells #[.slice A n c] 34)=W:=⟨_,rfl⟩
  rw [hW0] at k0 b0 hr0
  have K1:=Lib.hid (netmay_any A n c ns W0 (by omega) (by omega) B hr0 0 he)
  clear hok hd he
  go_enter Tryz.func21,Tryz.ntmps21
  go_upto_region 1 with fail
  clear hW0
  go_upto_region 5 with (first
    | ((with_reducible refine on_load (.tmp 1) ?_);refine wb_load rfl _ (.tmp 1) rfl st_net rfl b0 rfl ?_)
    | (go_at_call 32;refine (K1.out).mono ?_;rintro e w1 ⟨rfl,hb1⟩))
  have bm:=Box.new w1 #[.slice none 0 0] 130
  have km:=below_alloc w1 (Nat.le_refl _) (.cells #[.slice none 0 0] 130)
  obtain ⟨W,hW⟩:∃ W,w1.alloc (.cells #[.slice none 0 0] 130)=W:=⟨_,rfl⟩
  rw [hW] at bm km ⊢
  clear hW
  have gl:=bm.lt
  obtain ⟨gm,hgm⟩:∃ g,w1.heap.size=g:=⟨_,rfl⟩
  have z1:w.heap.size≤gm:=by have:=k0.size;have:=hb1.size;omega
  rw [hgm] at bm gl ⊢
  have kW:=k0.trans ((hb1.mono k0.size).trans (km.mono (by omega)))
  have b0W:=(b0.step hb1).step km
  have yW:W.cell? ⟨w.heap.size,0,none⟩=some (.slice A n c):=b0W.cell 0
  have hrW:=hr.heap.step kW
  have z0:=b0.lt
  clear b0 b0W hr0 km hb1 k0 hgm
  go_wp2
  go_loopw [19] (fun i wr=>VnRel ns n gm W i wr) (fun i _=>n - (intOf i).toNat)
  case atStart=>exact ⟨0,none,0,[],by omega,rfl,⟨bm,OwS.nil_ _ _ _,by simp,by simp⟩,Below.refl _ _⟩
  case round =>
    obtain ⟨k,Am,cm,gs,hk,rfl,hM,hb⟩:=hrel
    have hrk:=hrW.below (hb.mono z1)
    have hlen:=hrk.len
    have hlm:=hM.box.lt
    by_cases hlt:k < n
    · obtain ⟨x,hx⟩:∃ x,ns[k]? = some x:=⟨ns[k]'(by omega),List.getElem?_eq_getElem _⟩
      have hxm:=List.mem_of_getElem? hx
      have hxr:=hrk.rk x hxm
      have hxl:=hxr.len
      have hle:x.l.length≤nsize (Nd.ls ns):=len_le_nsize (List.mem_map.2 ⟨x,hxm,rfl⟩)
      have K:=Lib.hid (tbuild_any x.A x.n x.c x.l wr (by omega) _ hxr (Hok.out x hxm) (Hd.out x hxm))
      have Hdx:=Lib.hid (Hd.out x hxm)
      have Hx:=Lib.hid hx
      clear hx hxm hxr hxl hle
      go_wp2_with (first
        | ((with_reducible refine on_index (.tmp 17) ?_);refine wn_at rfl _ (.tmp 17) _ rfl el_row rfl rfl (by omega) (by omega) hrk.rd ?_;intro b j y hy hbB hc;have hxx:x=y:=get_eq Hx.out hy.out (by omega);subst hxx)
        | (go_at_call 16;refine (K.out).mono ?_;rintro e w2 ⟨gt,t,size,rfl,hT2,hB2,hb2⟩;have y2:w2.cell? ⟨gm,0,none⟩=some (.slice Am k cm):=(hM.box.step hb2).cell 0)
        | ((with_reducible refine on_append (.tmp 29) (.tmp 32) ?_);refine wl_appendS rfl (.tmp 29) (.tmp 32) _ rfl el_fn (f:=fv) fv_one rfl ((hM.row.below hb2).alloc (.cells #[fv gt] 55)) rfl (OwS.lit (base:=w2.heap.size) (e:=55) (xs:=[gt]) w2 #[fv gt] 1 (Nat.le_refl _) (by simp [maxLen]) rfl rfl).rd (by omega) (by omega) (by simp;have:=hb2.size;omega) ?_;intro A8 c8 w8 ow8 hg8 hb8;have M8:=((hM.step hb2).step (below_alloc w2 (Nat.le_refl _) (.cells #[fv gt] 55))).more (l:=x.l) ⟨t,size,(hT2.step (below_alloc w2 (Nat.le_refl _) (.cells #[fv gt] 55))).base_le (by omega),hB2,Hdx.out⟩ hg8 ow8 (by omega);have bx8:=((hM.box.step hb2).alloc (.cells #[fv gt] 55)).grown hg8 (((hM.row.below hb2).alloc (.cells #[fv gt] 55)).ow.other ((hM.box.step hb2).alloc _) (by decide));have k8:w8.cell? ⟨gm,0,none⟩=some (.slice Am k cm):=bx8.cell 0;have fz8:=bx8.frozen 0;have B8:=((hb2.mono (by omega)).trans (below_alloc w2 (by have:=hb2.size;omega) (.cells #[fv gt] 55))).trans ((hb8.mono (by omega:gm≤gm+1)).trans (below_of_grown (B:=gm) M8.2 (fun j e=>by injection e with e;omega) (by have:=bx8.lt;omega)))))
      go_roundw
      case rel=>exact ⟨k+1,A8,c8,gs ++ [gt],by omega,by go_num,by rw [take_more (Nd.ls_get Hx.out)];exact M8.1,hb.trans B8⟩
      case measure=>simp [intOf];omega
    · obtain rfl:k=n:=by omega
      have h5:(Nd.ls ns).take k=Nd.ls ns:=List.take_of_length_le (by rw [Nd.ls_len];omega)
      have hl5:(Nd.ls ns).length=k:=by rw [Nd.ls_len];exact hlen
      rw [h5] at hM
      go_wp2
      go_ret2
      exact ⟨gm,Am,cm,gs,rfl,by rw [hl5];exact hM.base_le (by omega),kW.trans (hb.mono z1)⟩
def vent (p:Ru × Bool):Int:=if p.2=true∧p.1.act=1 then p.1.next else -1
def vecOf (ls:List (List Ru)) (x:Int):List Int:=ls.map fun l=>vent (tfind l x)
theorem vec_set {l:List Int} {n k:Nat} {v:Int} (hl:l.length=n) (hk:k < n) (hv:l[k]? = some v):(l.take k ++ List.replicate (n - k) 0).set k v=l.take (k+1) ++ List.replicate (n - (k+1)) 0:=by
  rw [take_more hv,List.set_append_right _ _ (by rw [List.length_take];omega),List.length_take,show k - min k l.length=0 by omega,show n - k=(n - (k+1))+1 by omega,List.replicate_succ]
  simp
def VoRel (ls:List (List Ru)) (x:Int) (n:Nat) (w:World) (g:Nat) (i:Value) (wr:World):Prop :=
  ∃ (k:Nat),k≤n∧i=.int .i64 k∧OwS iv wr w.heap.size 3 (some ⟨g,0,none⟩) n n (((vecOf ls x).take k) ++ List.replicate (n - k) 0)∧Below w.heap.size w wr
set_option maxRecDepth 100000 in
set_option maxHeartbeats 2000000 in
theorem vof_any (base gm:Nat) (A:Option Addr) (n c:Nat) (gs:List Nat) (ls:List (List Ru)) (x:Int) (w:World) (hn:n≤256) (hM:Mk w base gm A n c gs ls) (hx:0≤x∧x≤4294967295) :
    Calls Tryz.prog 24 #[.pointer (some ⟨gm,0,none⟩),.int .u32 x] w (fun e w'=>∃ g,e=.returned (.slice (some ⟨g,0,none⟩) n n)∧OwS iv w' w.heap.size 3 (some ⟨g,0,none⟩) n n (vecOf ls x)∧Below w.heap.size w w'):=by
  have y0:w.cell? ⟨gm,0,none⟩=some (.slice A n c):=hM.box.cell 0
  have hgl:=hM.row.len
  have hll:=hM.len
  have hvl:(vecOf ls x).length=n:=by unfold vecOf;rw [List.length_map];omega
  go_enter Tryz.func24,Tryz.ntmps24
  go_upto_region 2 with (first
    | ((with_reducible refine on_make ?_);refine wl_makeS (base:=w.heap.size) rfl (.tmp 14) (.tmp 14) _ rfl el_int (f:=iv) 0 rfl n rfl rfl rfl rfl (by omega) (by omega) (Nat.le_refl _) ?_;intro g W hg ow hW))
  have yW:W.cell? ⟨gm,0,none⟩=some (.slice A n c):=(hM.step hW).box.cell 0
  clear y0
  go_wp2
  go_loopw [21] (fun i wr=>VoRel ls x n w g i wr) (fun i _=>n - (intOf i).toNat)
  case atStart=>exact ⟨0,by omega,rfl,by simpa using ow,hW⟩
  case round =>
    obtain ⟨k,hk,rfl,ow,hb⟩:=hrel
    have hMr:=hM.step hb
    by_cases hlt:k < n
    · obtain ⟨gt,hgt⟩:∃ y,gs[k]? = some y:=⟨gs[k]'(by omega),List.getElem?_eq_getElem _⟩
      obtain ⟨l,hl⟩:∃ y,ls[k]? = some y:=⟨ls[k]'(by omega),List.getElem?_eq_getElem _⟩
      have hT:=hM.tr k gt l hgt hl
      obtain ⟨r,ok,hr⟩:∃ r ok,tfind l x=(r,ok):=⟨_,_,rfl⟩
      have hve:(vecOf ls x)[k]? = some (vent (r,ok)):=by unfold vecOf;rw [List.getElem?_map,hl,← hr];rfl
      have KF:=Lib.hid (fun w' (hb:Below w.heap.size w w')=>find_of gt base l x w' (hT.step hb) hx r ok hr)
      have Hgt:=Lib.hid hgt
      have hset:=vec_set hvl hlt hve
      have hways:(ok=false∧vent (r,ok) = -1)∨(ok=true∧(r.act == 1)=false∧vent (r,ok) = -1)∨(ok=true∧(r.act == 1)=true∧vent (r,ok)=r.next):=by
        unfold vent
        cases ok
        · simp
        · by_cases h:r.act=1 <;> simp [h]
      clear hT hgt hl hr hve
      rcases hways with ⟨rfl,hv⟩ | ⟨rfl,ha,hv⟩ | ⟨rfl,ha,hv⟩
      all_goals
        rw [hv] at hset
        have Hset:=Lib.hid hset
        clear hset hv
        go_wp2_with (first
          | ((with_reducible refine on_index (.tmp 19) ?_);refine wm_at (one1_len fv) rfl _ (.tmp 19) _ rfl el_fn.m rfl rfl (by omega) (by omega) hMr.row.rd.m ?_;intro b j y hy hbB hc;have hxx:gt=y:=get_eq Hgt.out hy.out (by omega);subst hxx;have hc1:wr.cell? ⟨b,j,none⟩=some (.func (.func 18) #[.pointer (some ⟨gt,0,none⟩)] #[]):=hc.out 0 _ rfl)
          | ((with_reducible refine on_index (.tmp 26) ?_);refine wl_placeS rfl _ (.tmp 26) _ rfl el_int rfl rfl k (by omega) ?_)
          | ((with_reducible refine on_store_at (.tmp 28) ?_);refine wl_setS rfl _ (.tmp 28) _ rfl size_int (f:=iv) rfl rfl (-1) rfl ow (by omega) ?_;intro w5 ow5 hg5 hb5)
          | (go_at_call 18;refine (KF.out _ (hb.trans hb5)).mono ?_;rintro e w6 ⟨rfl,hb6⟩)
          | ((with_reducible refine on_index (.tmp 41) ?_);refine wl_placeS rfl _ (.tmp 41) _ rfl el_int rfl rfl k (by omega) ?_)
          | ((with_reducible refine on_store_at (.tmp 45) ?_);refine wl_setS rfl _ (.tmp 45) _ rfl size_int (f:=iv) rfl rfl r.next rfl ((ow5.below hb6).alloc _) (by omega) ?_;intro w7 ow7 hg7 hb7))
      · go_roundw
        case rel=>exact ⟨k+1,by omega,by go_num,by rw [← Hset.out];exact (ow5.below hb6).alloc _,((hb.trans hb5).trans (hb6.mono (hb.trans hb5).size)).alloc ((hb.trans hb5).trans (hb6.mono (hb.trans hb5).size)).size _⟩
        case measure=>simp [intOf];omega
      · go_roundw
        case rel=>exact ⟨k+1,by omega,by go_num,by rw [← Hset.out];exact (ow5.below hb6).alloc _,((hb.trans hb5).trans (hb6.mono (hb.trans hb5).size)).alloc ((hb.trans hb5).trans (hb6.mono (hb.trans hb5).size)).size _⟩
        case measure=>simp [intOf];omega
      · go_roundw
        case rel=>exact ⟨k+1,by omega,by go_num,by rw [← Hset.out];rw [List.set_set] at ow7;exact ow7,(((hb.trans hb5).trans (hb6.mono (hb.trans hb5).size)).alloc ((hb.trans hb5).trans (hb6.mono (hb.trans hb5).size)).size _).trans hb7⟩
        case measure=>simp [intOf];omega
    · obtain rfl:k=n:=by omega
      have h5:(vecOf ls x).take k=vecOf ls x:=List.take_of_length_le (by omega)
      rw [h5,Nat.sub_self,List.replicate_zero,List.append_nil] at ow
      go_wp2
      go_ret
      exact ⟨g,rfl,ow,hb⟩
end Go.Proofs.YtjandnidljbkoaaGreat
