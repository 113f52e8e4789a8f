/-
  vector.May, graph.may, graph.round: of a vector of a network that may be.
-/
import Derived.Test.YtjandnidljbkoaaGreatGTpCyc
set_option linter.unusedVariables false
namespace Go.Proofs.YtjandnidljbkoaaGreat
open Go.RowKit Go.Th
theorem vec_at {ls:List (List Ru)} (a:Int) {u:Int} (h:0≤u∧u < (ls.length:Int)):(vecOf ls a)[u.toNat]? = some (if gof ls a u=true then hof ls a u else -1):=by
  have:=vec_step ls a u.toNat (by omega)
  rw [Int.toNat_of_nonneg h.1] at this
  exact this
theorem vec_go {ls:List (List Ru)} {a u:Int} (h:gof ls a u=true):(vecOf ls a)[u.toNat]? = some (hof ls a u):=by
  rw [vec_at a (gof_in h),if_pos h]
def VmRel (n:Nat) (w:World) (i:Value) (wr:World):Prop:=∃ k:Nat,k≤n∧i=.int .i64 k∧wr=w
set_option maxRecDepth 100000 in
theorem vmay_any (A:Option Addr) (n c:Nat) (v:List Int) (w:World) (hn:n≤100000) (B:Nat) (hr:RdS iv w B A n c v) (hv:∀ x∈v,-1≤x∧x < (n:Int)) :
    Calls Tryz.prog 112 #[.slice A n c] w (RetV (.int .i64 0) w):=by
  have hlen:=hr.len
  have Hv:=Lib.hid hv
  clear hv
  go_enter Tryz.func112,Tryz.ntmps112
  go_upto_region 2 with fail
  go_loopw [7] (fun i wr=>VmRel n w i wr) (fun i _=>n - (intOf i).toNat)
  case atStart=>exact ⟨0,by omega,rfl,rfl⟩
  case round =>
    obtain ⟨k,hk,rfl,rfl⟩:=hrel
    by_cases hlt:k < n
    · obtain ⟨x,hx⟩:∃ x,v[k]? = some x:=⟨v[k]'(by omega),List.getElem?_eq_getElem _⟩
      have hxb:=Hv.out x (List.mem_of_getElem? hx)
      have h1:decide (x < -1)=false:=decide_eq_false (by omega)
      have h2:decide (x ≥ (n:Int))=false:=decide_eq_false (by omega)
      have h3:decide ((n:Int)≤x)=false:=decide_eq_false (by omega)
      have Hx:=Lib.hid hx
      clear hx hxb
      go_wp2_with ((with_reducible refine on_index (.tmp 5) ?_);refine wl_at_i rfl _ (.tmp 5) _ rfl el_int rfl rfl (by omega) (by omega) hr ?_;intro p1 y1 hy1 hc1;have hxx:x=y1:=get_eq Hx.out hy1.out (by omega);subst hxx)
      go_roundw
      case rel=>exact ⟨k+1,by omega,by go_num,rfl⟩
      case measure=>simp [intOf];omega
    · obtain rfl:k=n:=by omega
      go_wp2
      go_ret
      exact ⟨rfl,rfl⟩
set_option maxRecDepth 100000 in
theorem gmay_any (A:Option Addr) (n c:Nat) (v:List Int) (w:World) (hn:n≤256) (B:Nat) (hr:RdS iv w B A n c v) (hv:∀ x∈v,-1≤x∧x < (n:Int)) :
    Calls Tryz.prog 73 #[.slice A n c] w (RetV (.int .i64 0) w):=by
  have K:=Lib.hid (vmay_any A n c v w (by omega) B hr hv)
  have h1:decide ((n:Int) > 256)=false:=decide_eq_false (by omega)
  have h2:decide ((256:Int) < n)=false:=decide_eq_false (by omega)
  clear hr hv hn
  go_enter Tryz.func73,Tryz.ntmps73
  go_wp2_with (go_at_call 112;refine (K.out).mono ?_;rintro e w2 ⟨rfl,rfl⟩)
  go_ret
  exact ⟨rfl,rfl⟩
def RoRel (ls:List (List Ru)) (a u:Int) (M:Nat) (w:World) (s y:Value) (wr:World):Prop :=
  ∃ (j c:Nat) (A:Option Addr),1≤j∧j≤M∧y=.int .i64 (itr (hof ls a) j u)∧s=.slice A j c∧OwS iv wr w.heap.size 3 A j c (sits ls a u j)∧Below w.heap.size w wr
set_option maxRecDepth 100000 in
set_option maxHeartbeats 2000000 in
theorem ground_any (A:Option Addr) (n c:Nat) (ls:List (List Ru)) (a u:Int) (w:World) (hn:n≤100000) (hl:ls.length=n) (hr:RdS iv w w.heap.size A n c (vecOf ls a)) (M:Nat) (hM:M≤100000) (cM:Cyc (hof ls a) (gof ls a) u M) (hmin:∀ j,0 < j→j < M→itr (hof ls a) j u≠u) :
    Calls Tryz.prog 75 #[.slice A n c,.int .i64 u] w (fun e w'=>∃ A' c',e=.returned (.slice A' M c')∧OwS iv w' w.heap.size 3 A' M c' (sits ls a u M)∧Below w.heap.size w w'):=by
  have hpos:=cM.pos
  have hg0:=cM.goes 0 hpos
  have hu:=gof_in hg0
  rw [hl] at hu
  have h0:=vec_go hg0
  have e0:itr (hof ls a) 0 u=u:=rfl
  rw [e0] at hg0 h0 hu
  have CM:=Lib.hid cM
  have Hmin:=Lib.hid hmin
  have H0:=Lib.hid h0
  have Hl:=Lib.hid hl
  obtain ⟨y0,hy0⟩:∃ y,hof ls a u=y:=⟨_,rfl⟩
  have hit1:itr (hof ls a) 1 u=y0:=hy0
  rw [hy0] at H0
  have Hit1:=Lib.hid hit1
  clear cM hmin h0 e0 hg0 hy0 hit1 hl
  have k1:=below_alloc w (Nat.le_refl _) (.cells #[.int .i64 u] 3)
  have lit:=OwS.lit (f:=iv) (base:=w.heap.size) (e:=3) (xs:=[u]) w #[.int .i64 u] 1 (Nat.le_refl _) (by simp [maxLen]) rfl rfl
  have hr1:=hr.step k1
  go_enter Tryz.func75,Tryz.ntmps75
  go_upto_region 3 with ((with_reducible refine on_index (.tmp 9) ?_);refine wl_at_i rfl _ (.tmp 9) _ rfl el_int rfl rfl (by omega) (by omega) hr1 ?_;intro p1 y1 hy1 hc1;have hxx:y0=y1:=get_eq H0.out hy1.out (by omega);subst hxx)
  go_loopw [5,6] (fun s y wr=>RoRel ls a u M w s y wr) (fun s _ _=>M - (match s with | .slice _ n _=>n | _=>0))
  case atStart=>exact ⟨1,1,some ⟨w.heap.size,0,none⟩,Nat.le_refl _,hpos,by rw [Hit1.out],rfl,lit,k1⟩
  case round =>
    obtain ⟨j,cj,Aj,hj1,hjM,rfl,rfl,ow,hb⟩:=hrel
    have hrj:=hr.step hb
    have hbs:=hb.size
    obtain ⟨y,hy⟩:∃ y,itr (hof ls a) j u=y:=⟨_,rfl⟩
    by_cases hlt:j < M
    · have hne:=Hmin.out j (by omega) hlt
      have hgj:=CM.out.all j
      have hyv:=vec_go hgj
      have hyb:=gof_in hgj
      rw [hy] at hne hgj hyv hyb
      have hd:(y != u)=true:=by simpa using hne
      obtain ⟨z,hz⟩:∃ z,hof ls a y=z:=⟨_,rfl⟩
      rw [hz] at hyv
      have hit:itr (hof ls a) (j+1) u=z:=by rw [itr,hy,hz]
      have hsn:=sits_snoc ls a u j
      rw [sit_itr,hy] at hsn
      have Hyv:=Lib.hid hyv
      have Hit:=Lib.hid hit
      have Hsn:=Lib.hid hsn
      have hyb2:0≤y∧y < (n:Int):=by rw [← Hl.out];exact hyb
      rw [hy]
      clear hyv hit hsn hne hgj hyb hz hy
      have kl:=below_alloc wr (Nat.le_refl _) (.cells #[.int .i64 y] 3)
      go_wp2_with (first
        | ((with_reducible refine on_index (.tmp 16) ?_);refine wl_at_i rfl _ (.tmp 16) _ rfl el_int rfl rfl (by omega) (by omega) (hr.step hb8') ?_;intro p1 y1 hy1 hc1;have hxx:z=y1:=get_eq Hyv.out hy1.out (by omega);subst hxx)
        | ((with_reducible refine on_append (.tmp 20) (.tmp 22) ?_);refine wl_appendS rfl (.tmp 20) (.tmp 22) _ rfl el_int (f:=iv) (fun _=>rfl) rfl (ow.alloc (.cells #[.int .i64 y] 3)) rfl (OwS.lit (base:=wr.heap.size) (e:=3) (xs:=[y]) wr #[.int .i64 y] 1 (Nat.le_refl _) (by simp [maxLen]) rfl rfl).rd (by omega) (by omega) (by simp;omega) ?_;intro A8 c8 w8 ow8 hg8 hb8;have hb8':=(hb.trans (kl.mono hbs)).trans hb8))
      rw [← Hsn.out] at ow8
      go_roundw
      case rel=>exact ⟨j+1,c8,A8,by omega,hlt,by rw [Hit.out],rfl,ow8,hb8'⟩
      case measure=>simp only;omega
    · obtain rfl:j=M:=by omega
      have hback:=CM.out.back
      rw [hy] at hback
      subst hback
      rw [hy]
      go_wp2
      go_ret
      exact ⟨Aj,cj,rfl,ow,hb⟩
end Go.Proofs.YtjandnidljbkoaaGreat
