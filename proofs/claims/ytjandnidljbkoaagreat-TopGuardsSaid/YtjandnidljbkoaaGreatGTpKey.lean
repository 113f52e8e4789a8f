/-
  atoms.key, atoms.kind.
-/
import Derived.Test.YtjandnidljbkoaaGreatGTpCuts
set_option linter.unusedVariables false
namespace Go.Th
open Go.RowKit
def by2 (x:Int):List UInt8:=[UInt8.ofNat ((x+1).toNat / 256),UInt8.ofNat ((x+1).toNat)]
def keyV (v:List Int):List UInt8:=v.flatMap by2
theorem keyV_len (v:List Int):(keyV v).length=2 * v.length:=by
  unfold keyV
  induction v with
  | nil=>rfl
  | cons x v ih=>rw [List.flatMap_cons,List.length_append,ih,List.length_cons];simp [by2];omega
theorem by2_bv {x:Int} (hx:-1≤x∧x≤65000):[Value.int .u8 ((x+1) / 256),Value.int .u8 ((x+1) % 256)]=(by2 x).map bv:=by
  simp only [by2,bv,List.map_cons,List.map_nil]
  congr 2
  · simp
    omega
  · congr 1
    simp
    omega
theorem two_inj {x y:Int} (hx:-1≤x∧x≤65000) (hy:-1≤y∧y≤65000) (h:by2 x=by2 y):x=y:=by
  unfold by2 at h
  injection h with h1 h2
  injection h2 with h2 _
  have e1:=congrArg UInt8.toNat h1
  have e2:=congrArg UInt8.toNat h2
  simp at e1 e2
  omega
theorem keyV_inj:∀ {v u:List Int},(∀ x∈v,-1≤x∧x≤65000)→(∀ x∈u,-1≤x∧x≤65000)→v.length=u.length→keyV v=keyV u→v=u
  | [],[],_,_,_,_=>rfl
  | [],y :: u,_,_,h,_=>by cases h
  | x :: v,[],_,_,h,_=>by cases h
  | x :: v,y :: u,hv,hu,h,he=>by
    unfold keyV at he
    rw [List.flatMap_cons,List.flatMap_cons] at he
    obtain ⟨h1,h2⟩:=List.append_inj he (by simp [by2])
    rw [two_inj (hv x (by simp)) (hu y (by simp)) h1,keyV_inj (fun z hz=>hv z (by simp [hz])) (fun z hz=>hu z (by simp [hz])) (by simpa using h) h2]
end Go.Th
namespace Go.Proofs.YtjandnidljbkoaaGreat
open Go.RowKit Go.Th
def KeyRel (v:List Int) (n:Nat) (w:World) (s i:Value) (wr:World):Prop :=
  ∃ (k c:Nat) (A:Option Addr),k≤n∧i=.int .i64 k∧s=.slice A (2 * k) c∧OwS bv wr w.heap.size 5 A (2 * k) c (keyV (v.take k))∧Below w.heap.size w wr
set_option maxRecDepth 100000 in
set_option maxHeartbeats 2000000 in
theorem key_any (A:Option Addr) (n c:Nat) (v:List Int) (w:World) (hn:n≤1000) (B:Nat) (hr:RdS iv w B A n c v) (hv:∀ x∈v,-1≤x∧x≤65000) :
    Calls Tryz.prog 58 #[.slice A n c] w (RetB (.string ⟨(keyV v).toArray⟩) w):=by
  have Hv:=Lib.hid hv
  clear hv
  go_enter Tryz.func58,Tryz.ntmps58
  go_upto_region 2 with ((with_reducible refine on_make ?_);refine wl_make0S (base:=w.heap.size) rfl _ _ _ rfl el_u8 (f:=bv) (2 * n) rfl rfl (by go_num) (by omega) (by omega) (Nat.le_refl _) ?_;intro g W hg ow0 hW)
  go_wp2
  go_loopw [3,12] (fun s i wr=>KeyRel v n w s i wr) (fun _ i _=>n - (intOf i).toNat)
  case atStart=>exact ⟨0,2 * n,some ⟨g,0,none⟩,by omega,rfl,rfl,by simpa [keyV] using ow0,hW⟩
  case round =>
    clear ow0
    obtain ⟨k,cr,Ar,hk,rfl,rfl,ow,hb⟩:=hrel
    have hrk:=hr.step hb
    have hlen:=hrk.len
    have hbs:=hb.size
    by_cases hlt:k < n
    · obtain ⟨x,hx⟩:∃ x,v[k]? = some x:=⟨v[k]'(by omega),List.getElem?_eq_getElem _⟩
      have hxb:=Hv.out x (List.mem_of_getElem? hx)
      have htk:keyV (v.take (k+1))=keyV (v.take k) ++ by2 x:=by rw [take_more hx];unfold keyV;simp
      have Hx:=Lib.hid hx
      have Htk:=Lib.hid htk
      clear hx htk
      have lits:=OwS.lit (base:=wr.heap.size) (e:=5) (xs:=by2 x) wr #[.int .u8 ((x+1) / 256),.int .u8 ((x+1) % 256)] 2 (Nat.le_refl _) (by simp [maxLen]) rfl (by2_bv hxb)
      go_wp2_with (first
        | ((with_reducible refine on_index (.tmp 10) ?_);refine wl_at_i rfl _ (.tmp 10) _ rfl el_int rfl rfl (by omega) (by omega) hrk ?_;intro p1 y1 hy1 hc1;have hxx:x=y1:=get_eq Hx.out hy1.out (by omega);subst hxx)
        | ((with_reducible refine on_append (.tmp 16) (.tmp 24) ?_);refine wl_appendS rfl (.tmp 16) (.tmp 24) _ rfl el_u8 (f:=bv) (fun _=>rfl) rfl (ow.alloc _) rfl lits.rd (by omega) (by omega) (by simp;omega) ?_;intro A8 c8 w8 ow8 hg8 hb8))
      rw [← Htk.out] at ow8
      go_roundw
      case rel=>exact ⟨k+1,c8,A8,by omega,by go_num,by rw [show 2 * (k+1)=2 * k+2 by omega],by rw [show 2 * (k+1)=2 * k+2 by omega];exact ow8,(hb.alloc hbs _).trans hb8⟩
      case measure=>simp [intOf];omega
    · obtain rfl:k=n:=by omega
      have h5:v.take k=v:=List.take_of_length_le (by omega)
      rw [h5] at ow
      go_wp2_with ((with_reducible refine on_convert (.tmp 27) ?_);refine wl_strS rfl _ _ (.tmp 27) rfl el_u8 Tryz.underlying5 Tryz.underlying9 rfl ow.rd ?_)
      go_ret
      exact ⟨rfl,hb⟩
theorem kind_any (p l:Int) (met:Bool) (w:World):Calls Tryz.prog 59 #[.int .i64 p,.bool met,.int .i64 l] w (RetV (.int .i64 (if met=false then 0 else if p=l then 2 else 1)) w):=by
  cases met
  · go_enter Tryz.func59,Tryz.ntmps59
    go_wp2
    go_ret
    exact ⟨rfl,rfl⟩
  · by_cases h:p=l
    · have hd:(p != l)=false:=by simp [h]
      go_enter Tryz.func59,Tryz.ntmps59
      go_wp2
      go_ret
      exact ⟨by simp,rfl⟩
    · have hd:(p != l)=true:=by simp [h]
      go_enter Tryz.func59,Tryz.ntmps59
      go_wp2
      go_ret
      exact ⟨by simp,rfl⟩
end Go.Proofs.YtjandnidljbkoaaGreat
