/-
  cuts.Of, where there are few cuts.
-/
import Derived.Test.YtjandnidljbkoaaGreatGTpSorted
set_option linter.unusedVariables false
namespace Go.Th
open Go.RowKit
def rcuts (ks:List Int) (r:Ru):List Int:=if tailOf r.a r.n=4294967295 then addK ks (lead r.a r.n) else addK (addK ks (lead r.a r.n)) (tailOf r.a r.n+1)
def lcuts (ks:List Int) (l:List Ru):List Int:=l.foldl rcuts ks
def ckeys (ls:List (List Ru)):List Int:=ls.foldl lcuts [0]
def cutsOf (ls:List (List Ru)):List Int:=(ckeys ls).mergeSort (fun x y=>decide (x≤y))
theorem rcuts_nodup {ks:List Int} (h:ks.Nodup) (r:Ru):(rcuts ks r).Nodup:=by
  unfold rcuts
  split
  · exact nodup_addK h
  · exact nodup_addK (nodup_addK h)
theorem lcuts_nodup:∀ (l:List Ru) {ks:List Int},ks.Nodup→(lcuts ks l).Nodup
  | [],ks,h=>h
  | r :: l,ks,h=>lcuts_nodup l (rcuts_nodup h r)
theorem ckeys_nodup (ls:List (List Ru)):(ckeys ls).Nodup:=by
  unfold ckeys
  suffices ∀ (ls:List (List Ru)) (ks:List Int),ks.Nodup→(ls.foldl lcuts ks).Nodup from this ls [0] (by simp)
  intro ls
  induction ls with
  | nil=>exact fun ks h=>h
  | cons l ls ih=>exact fun ks h=>ih _ (lcuts_nodup l h)
theorem rcuts_sub {ks:List Int} (r:Ru) {x:Int} (h:x∈ks):x∈rcuts ks r:=by
  unfold rcuts
  split <;> simp [mem_addK,h]
theorem lcuts_sub:∀ (l:List Ru) {ks:List Int} {x:Int},x∈ks→x∈lcuts ks l
  | [],ks,x,h=>h
  | r :: l,ks,x,h=>lcuts_sub l (rcuts_sub r h)
theorem ckeys_zero (ls:List (List Ru)):(0:Int)∈ckeys ls:=by
  unfold ckeys
  suffices ∀ (ls:List (List Ru)) (ks:List Int),(0:Int)∈ks→(0:Int)∈ls.foldl lcuts ks from this ls [0] (by simp)
  intro ls
  induction ls with
  | nil=>exact fun ks h=>h
  | cons l ls ih=>exact fun ks h=>ih _ (lcuts_sub l h)
theorem lead_bounds (a n:Int) (h:0≤a∧a≤4294967295):0≤lead a n∧lead a n≤a:=by
  unfold lead
  have:=Nat.div_mul_le_self a.toNat (2 ^ sh n)
  omega
theorem tail_bounds (a n:Int) (h:0≤a∧a≤4294967295):0≤tailOf a n∧tailOf a n≤4294967295:=by
  rw [← tail_or a n h]
  obtain ⟨a,rfl⟩:=Int.eq_ofNat_of_zero_le h.1
  have hp:=pow_sh n
  rw [or_u32 _ _ (by omega) (by omega)]
  have hx:a ||| (2 ^ sh n - 1) < 2 ^ 32:=Nat.or_lt_two_pow (by omega) (by omega)
  omega
end Go.Th
namespace Go.Proofs.YtjandnidljbkoaaGreat
open Go.RowKit Go.Th
def COutRel (ns:List Nd) (n b:Nat) (w:World) (i:Value) (wr:World):Prop :=
  ∃ (k m:Nat),k≤n∧i=.int .i64 k∧SetAt wr b m (((Nd.ls ns).take k).foldl lcuts [0])∧m≤1+2 * nsize ((Nd.ls ns).take k)∧Below w.heap.size w wr
def CInRel (ks:List Int) (l:List Ru) (n b N:Nat) (w:World) (i:Value) (wr:World):Prop :=
  ∃ (j m:Nat),j≤n∧i=.int .i64 j∧SetAt wr b m (lcuts ks (l.take j))∧m≤N+2 * j∧Below w.heap.size w wr
set_option maxRecDepth 100000 in
set_option maxHeartbeats 2000000 in
theorem cuts_any (A:Option Addr) (n c:Nat) (ns:List Nd) (w:World) (hn:n≤256) (hs:nsize (Nd.ls ns)≤4096) (B:Nat) (hr:NRd w B A n c ns) (hl:(ckeys (Nd.ls ns)).length≤100000) :
    Calls Tryz.prog 22 #[.agg #[.slice A n c]] w (fun e w'=>∃ (g m c:Nat),e=.returned (.slice (some ⟨g,0,none⟩) m c)∧OwS uv w' w.heap.size 23 (some ⟨g,0,none⟩) m c (cutsOf (Nd.ls ns))∧Below w.heap.size w w'):=by
  have hmm:=@run_makeMap Tryz.prog
  have Hl:=Lib.hid hl
  clear hl
  have k0:=below_alloc w (Nat.le_refl _) (.cells #[.slice A n c] 34)
  have b0:=Box.new w #[.slice A n c] 34
  obtain ⟨W0,hW0⟩:∃ W,w.alloc (.cells #[.slice A n c] 34)=W:=⟨_,rfl⟩
  rw [hW0] at k0 b0
  have hs0:SetAt (W0.alloc (.map #[] 0)) W0.heap.size 0 []:=SetU.made W0 Tryz.prog 23 4
  have km:=below_alloc W0 k0.size (.map #[] 0)
  go_enter Tryz.func22,Tryz.ntmps22
  go_upto_region 1 with fail
  clear hW0
  go_upto_region 2 with ((with_reducible refine on_insert _ _ _ ?_);refine wl_putU rfl _ _ _ _ (.inr rfl) Tryz.underlying23 Tryz.underlying131 Tryz.underlying4 rfl hs0 (by simp [maxLen]) rfl (by omega) rfl ?_;intro W hs1 hg1)
  have kW:Below w.heap.size w W:=(k0.trans km).trans (below_of_grown hg1 (fun j e=>by injection e with e;have:=k0.size;omega) (by have:=k0.size;simp;omega))
  have b0W:Box W w.heap.size 34 #[.slice A n c]:=(b0.alloc (.map #[] 0)).grown hg1 (fun e=>by injection e with e;have:=b0.lt;omega)
  obtain ⟨b,hb⟩:∃ x,W0.heap.size=x:=⟨_,rfl⟩
  have hbw:w.heap.size≤b:=by have:=k0.size;omega
  rw [hb] at hs1 ⊢
  have y0:W.cell? ⟨w.heap.size,0,none⟩=some (.slice A n c):=b0W.cell 0
  have hrW:=hr.heap.step kW
  clear hs0 km hg1 b0 k0 hb b0W
  go_wp2
  go_loopw [15] (fun i wr=>COutRel ns n b w i wr) (fun i _=>n - (intOf i).toNat)
  case atStart=>exact ⟨0,1,by omega,rfl,hs1,by omega,kW⟩
  case round =>
    obtain ⟨k,m,hk,rfl,hsk,hmk,hb⟩:=hrel
    have hrk:=hr.heap.step hb
    have hlen:=hrk.len
    by_cases hlt:k < n
    · obtain ⟨x,hx⟩:∃ x,ns[k]? = some x:=⟨ns[k]'(by omega),List.getElem?_eq_getElem _⟩
      have hxm:=List.mem_of_getElem? hx
      have hxr:=hrk.rk x hxm
      have hxl:=hxr.len
      have hxok:=Lib.hid (hrk.ok x hxm)
      have hsum:=nsize_take (Nd.ls_get hx)
      have hle:=nsize_take_le (Nd.ls ns) (k+1)
      have htk:=take_more (Nd.ls_get hx)
      have Hx:=Lib.hid hx
      have hxs:k < n:=hlt
      clear hx hxm
      go_wp2_with ((with_reducible refine on_index (.tmp 13) ?_);refine wn_at rfl _ (.tmp 13) _ rfl el_row rfl rfl (by omega) (by omega) hrk.rd ?_;intro b5 j5 y hy hbB hc;have hxx:x=y:=get_eq Hx.out hy.out (by omega);subst hxx)
      go_loopw [21] (fun i wq=>CInRel (((Nd.ls ns).take k).foldl lcuts [0]) x.l x.n b m w i wq) (fun i _=>x.n - (intOf i).toNat)
      case atStart=>exact ⟨0,m,by omega,rfl,hsk,by omega,hb⟩
      case round =>
        obtain ⟨j,mj,hj,rfl,hsj,hmj,hbj⟩:=hrel
        have hxj:=(hr.heap.rk x (List.mem_of_getElem? Hx.out)).step hbj
        by_cases hjl:j < x.n
        · obtain ⟨r,hr0⟩:∃ r,x.l[j]? = some r:=⟨x.l[j]'(by omega),List.getElem?_eq_getElem _⟩
          have hro:=hxok.out r (List.mem_of_getElem? hr0)
          have Hr:=Lib.hid hr0
          have hra:=hro.a
          have K:=Lib.hid (fun w=>pends_any r.a r.n w hra hro.n)
          have hlb:=lead_bounds r.a r.n hra
          have htb:=tail_bounds r.a r.n hra
          have hst:lcuts (((Nd.ls ns).take k).foldl lcuts [0]) (x.l.take (j+1))=rcuts (lcuts (((Nd.ls ns).take k).foldl lcuts [0]) (x.l.take j)) r:=by
            rw [take_more hr0];unfold lcuts;rw [List.foldl_append];rfl
          obtain ⟨ks,hks⟩:∃ y,lcuts (((Nd.ls ns).take k).foldl lcuts [0]) (x.l.take j)=y:=⟨_,rfl⟩
          rw [hks] at hsj hst
          unfold rcuts at hst
          obtain ⟨lo,hlo⟩:∃ y,lead r.a r.n=y:=⟨_,rfl⟩
          obtain ⟨hi,hhi⟩:∃ y,tailOf r.a r.n=y:=⟨_,rfl⟩
          rw [hlo] at K hlb hst
          rw [hhi] at K htb hst
          have hbjs:=hbj.size
          have kA:=hbj.alloc hbjs (.cells r.cs.toArray 52)
          have sA:=hsj.step (below_alloc wr (Nat.le_refl _) (.cells r.cs.toArray 52))
          have hlob:0≤lo∧lo≤4294967295:=⟨hlb.1,by omega⟩
          clear hr0 hlo hhi hks hlb hro
          by_cases htop:hi=4294967295
          · rw [if_pos htop] at hst
            have Hst:=Lib.hid hst
            have hd:(hi != 4294967295)=false:=by simp [htop]
            subst htop
            clear hst
            go_wp2_with (first
              | ((with_reducible refine on_index (.tmp 19) ?_);refine wm_at Ru.cs_length rfl _ _ _ rfl el_rule rfl rfl (by omega) (by omega) hxj ?_;intro b1 j1 r1 hr1 hb1 hc1;have hxx:r=r1:=get_eq Hr.out hr1.out (by omega);subst hxx)
              | ((with_reducible refine on_load (.tmp 23) ?_);refine wr_load rfl _ _ rfl st_rule rfl hc1 ?_)
              | (go_at_call 60;refine (K.out _).mono ?_;rintro e w2 ⟨rfl,rfl⟩)
              | ((with_reducible refine on_mapUpdate (.tmp 33) _ _ ?_);refine wl_putU rfl _ _ _ _ (.inl rfl) Tryz.underlying23 Tryz.underlying131 Tryz.underlying4 rfl sA (by simp [maxLen];omega) rfl hlob rfl ?_;intro w5 s5 hg5))
            go_roundw
            case rel=>exact ⟨j+1,mj+1,by omega,by go_num,by rw [Hst.out];exact s5,by omega,kA.trans (below_of_grown hg5 (fun j e=>by injection e with e;omega) (by have:=kA.size;exact this))⟩
            case measure=>simp [intOf];omega
          · rw [if_neg htop] at hst
            have Hst:=Lib.hid hst
            have hd:(hi != 4294967295)=true:=by simp [htop]
            clear hst
            go_wp2_with (first
              | ((with_reducible refine on_index (.tmp 19) ?_);refine wm_at Ru.cs_length rfl _ _ _ rfl el_rule rfl rfl (by omega) (by omega) hxj ?_;intro b1 j1 r1 hr1 hb1 hc1;have hxx:r=r1:=get_eq Hr.out hr1.out (by omega);subst hxx)
              | ((with_reducible refine on_load (.tmp 23) ?_);refine wr_load rfl _ _ rfl st_rule rfl hc1 ?_)
              | (go_at_call 60;refine (K.out _).mono ?_;rintro e w2 ⟨rfl,rfl⟩)
              | ((with_reducible refine on_mapUpdate (.tmp 33) _ _ ?_);refine wl_putU rfl _ _ _ _ (.inl rfl) Tryz.underlying23 Tryz.underlying131 Tryz.underlying4 rfl sA (by simp [maxLen];omega) rfl hlob rfl ?_;intro w5 s5 hg5)
              | ((with_reducible refine on_mapUpdate (.tmp 37) _ _ ?_);refine wl_putU (x:=hi+1) rfl _ _ _ _ (.inl rfl) Tryz.underlying23 Tryz.underlying131 Tryz.underlying4 rfl s5 (by simp [maxLen];omega) rfl (by omega) rfl ?_;intro w6 s6 hg6))
            have z5:=kA.trans (below_of_grown hg5 (fun j e=>by injection e with e;omega) (by have:=kA.size;exact this))
            go_roundw
            case rel=>exact ⟨j+1,mj+2,by omega,by go_num,by rw [Hst.out];exact s6,by omega,z5.trans (below_of_grown hg6 (fun j e=>by injection e with e;omega) z5.size)⟩
            case measure=>simp [intOf];omega
        · obtain rfl:j=x.n:=by omega
          have h5:x.l.take x.n=x.l:=List.take_of_length_le (by omega)
          rw [h5] at hsj
          have h6:((Nd.ls ns).take (k+1)).foldl lcuts [0]=lcuts (((Nd.ls ns).take k).foldl lcuts [0]) x.l:=by rw [htk,List.foldl_append];rfl
          go_wp2
          go_roundw
          case rel=>exact ⟨k+1,mj,by omega,by go_num,by rw [h6];exact hsj,by omega,hbj⟩
          case measure=>simp [intOf];omega
    · obtain rfl:k=n:=by omega
      have h5:(Nd.ls ns).take k=Nd.ls ns:=List.take_of_length_le (by rw [Nd.ls_len];omega)
      rw [h5] at hsk hmk
      have hsk:SetAt wr b m (ckeys (Nd.ls ns)):=hsk
      have K1:=Lib.hid (callsIn_wide.1 (ku_keys_in Fence.wide 5 trivial rfl (some b) wr))
      have kk:=below_alloc wr (Nat.le_refl _) (.cells #[.map (some b)] 131)
      have K2:=Lib.hid (ssorted_any wr.heap.size b m (ckeys (Nd.ls ns)) (wr.alloc (.cells #[.map (some b)] 131)) (by simp) (hsk.step kk) (ckeys_nodup _) (fun e=>by have:=ckeys_zero (Nd.ls ns);rw [e] at this;cases this) Hl.out (by omega))
      go_wp2_with (first
        | (go_at_call 62;refine (K1.out).mono ?_;rintro e w2 ⟨rfl,rfl⟩)
        | (go_at_call 61;refine (K2.out).mono ?_;rintro e w3 ⟨g,c3,rfl,ow3,hb3⟩))
      go_ret
      refine ⟨g,_,c3,rfl,ow3.base_le (by simp;have:=hb.size;omega),(hb.trans (kk.mono hb.size)).trans (hb3.mono (by simp;have:=hb.size;omega))⟩
end Go.Proofs.YtjandnidljbkoaaGreat
