/-
  graph.Sinks; append within a cut of a row of the call's own that has room.
-/
import Derived.Test.YtjandnidljbkoaaGreatGTpGraph
set_option linter.unusedVariables false
namespace Go.Th
open Go.RowKit
def idxs (v:List Int) (x:Int):List Int:=(v.zipIdx.filter fun p=>p.1 == x).map fun p=>(p.2:Int)
theorem idxs_more {v:List Int} {k:Nat} {y:Int} (h:v[k]? = some y) (x:Int):idxs (v.take (k+1)) x=idxs (v.take k) x ++ if y=x then [(k:Int)] else []:=by
  have hk:k < v.length:=(List.getElem?_eq_some_iff.1 h).1
  unfold idxs
  rw [take_more h,List.zipIdx_append,List.filter_append,List.map_append,List.length_take,Nat.zero_add,Nat.min_eq_left (by omega)]
  congr 1
  by_cases e:y=x
  · simp [e]
  · simp [e]
theorem idxs_len (v:List Int) (x:Int):(idxs v x).length=v.count x:=by
  unfold idxs
  rw [List.length_map]
  have:∀ (v:List Int) (k:Nat),((v.zipIdx k).filter fun p=>p.1 == x).length=v.count x:=by
    intro v
    induction v with
    | nil=>intro k;rfl
    | cons y v ih =>
      intro k
      rw [List.zipIdx_cons,List.filter_cons,List.count_cons]
      by_cases e:y=x
      · simp [e,ih]
      · simp [e,ih]
  exact this v 0
theorem idxs_mem {v:List Int} {x u:Int}:u∈idxs v x↔∃ k:Nat,u=(k:Int)∧v[k]? = some x:=by
  unfold idxs
  simp only [List.mem_map,List.mem_filter,beq_iff_eq,Prod.exists]
  constructor
  · rintro ⟨y,k,⟨h1,rfl⟩,rfl⟩
    exact ⟨k,rfl,by simpa using List.mem_zipIdx_iff_getElem?.1 h1⟩
  · rintro ⟨k,rfl,h⟩
    exact ⟨x,k,⟨List.mem_zipIdx_iff_getElem?.2 (by simpa using h),rfl⟩,rfl⟩
theorem idxs_nodup (v:List Int) (x:Int):(idxs v x).Nodup:=by
  unfold idxs
  rw [List.nodup_iff_pairwise_ne,List.pairwise_map]
  have:∀ (v:List Int) (k:Nat),(v.zipIdx k).Pairwise (fun p q=>p.2 < q.2):=by
    intro v
    induction v with
    | nil=>intro k;exact List.Pairwise.nil
    | cons y v ih =>
      intro k
      rw [List.zipIdx_cons]
      refine List.Pairwise.cons (fun p hp=>?_) (ih _)
      have:=List.le_snd_of_mem_zipIdx hp
      simp at this ⊢
      omega
  exact ((this v 0).filter _).imp (fun h e=>by omega)
section
variable {P:Program} {ops:Array Oper} {rest:List Oper} {o:Oper} {a:Act} {Q:Exit→Act→World→Prop} {w:World}
theorem run_append_room_at (t ty e:TypeId) (i:TypeInfo) (ht:P.underlying t=some (.slice e)) (hi:P.info? e=some i) (h1s:i.size=1)
    (g off l c:Nat) (cur:Array Value) (hg:w.heap[g]? = some (.cells cur e (0,0)))
    (ad:Addr) (c':Nat) (u:Value) (hnew:w.cell? ad=some u) (h1:u.oneCell' = true) (hroom:l+1≤c) (hfit:off+l+1≤cur.size) :
    (Builtin.append_ #[t,t] ty #[.slice (some ⟨g,off,none⟩) l c,.slice (some ad) 1 c']).run P w =
      .ok (.slice (some ⟨g,off,none⟩) (l+1) c) (w.setRow g (cur.toList.set (off+l) u).toArray):=by
  have hf:=run_firstCells_some (P:=P) w i.size 1 ad 1 c' [u] (by simp [h1s]) (fun j v hv=>by
    rcases j with _ | j
    · simp at hv;subst hv;rw [Addr.add_zero'];exact hnew
    · simp at hv)
  have hst:=run_storeCells_at P g (off+l) e [u] 0 cur w hg (by simpa using hfit) (by simpa using h1)
  have hx:cur.toList.take (off+l) ++ [u] ++ cur.toList.drop (off+l+1)=cur.toList.set (off+l) u:=by
    rw [List.set_eq_take_append_cons_drop,if_pos (by rw [Array.length_toList];omega),List.append_assoc]
    rfl
  simp only [Nat.add_zero,List.length_singleton] at hst
  rw [hx] at hst
  rw [h1s] at hf
  simp [Builtin.append_,run_underlying ht,sizeOf,typeInfo,hi,Builtin.lenOf,hroom,hf,Addr.add_lit,hst,h1s]
theorem wl_append_at (hw:Region.wanted o (yielded ops a.tmps)=true) (s x:Operand) (t:TypeId)
    (ho:o.op=.call { callee:=.builtin .append,args:=#[s,x],argTypes:=#[t,t] })
    {base E:Nat} {z:Value} {bytes:Nat} (el:El P t E z bytes) {α:Type} {f:α→Value} (hf:∀ x,(f x).oneCell' = true)
    {g off l c n cap:Nat} (hs:a.eval s=.slice (some ⟨g,off,none⟩) l c) {xs:List α} (hown:OwS f w base E (some ⟨g,0,none⟩) n cap xs)
    {B:Nat} {A':Option Addr} {c':Nat} (hx:a.eval x=.slice A' 1 c') {y:α} (hr:RdS f w B A' 1 c' [y]) (hroom:l+1≤c) (hfit:off+l+1≤n)
    (h:∀ w',OwS f w' base E (some ⟨g,0,none⟩) n cap (xs.set (off+l) y)→w.grownBy w' (some g)→wpList P ops Q rest (a.put o.dst (.slice (some ⟨g,off,none⟩) (l+1) c)) w'):wpList P ops Q (o :: rest) a w:=by
  obtain ⟨i,hi,hz,hsize,hby⟩:=el.info
  obtain ⟨b,o',e,_,hc⟩:=hr.rd.at_ 0 (f y) rfl
  subst e
  rcases hown.ow.own.2 with ⟨hv,_⟩ | ⟨g',cap',cur,hv,hbg,hg,hnc,hcm,hcs,htake⟩
  · cases hv
  · injection hv with hv1 _ hv3
    injection hv1 with hv1
    injection hv1 with hv1
    subst hv1 hv3
    rw [Nat.mul_one] at hcs htake
    have hrun:=run_append_room_at (P:=P) (w:=w) t o.type E i el.ht hi hsize g off l c cur hg ⟨b,o',none⟩ c' (f y) (by simpa using hc) (hf y) hroom (by omega)
    refine wl_run hw ?_ (h (w.setRow g (cur.toList.set (off+l) (f y)).toArray) ⟨⟨by rw [List.length_map,List.length_set];simpa using hown.len,.inr ⟨g,cap,_,rfl,hbg,setRow_heap w g cur _ E (0,0) hg,hnc,hcm,by simp [hcs],?_⟩⟩⟩ ⟨rfl,rfl,rfl,by simp,fun k _ hk=>setRow_other w g k _ (fun e=>hk (by rw [e]))⟩)
    · simp only [execOp,ho,resolve,invoke,builtin,Sem.run_bind,Sem.run_pure,Result.andThen,List.map_toArray,List.map_cons,List.map_nil,hs,hx,hrun]
    · rw [Nat.mul_one,List.map_set,← htake]
      simp [List.take_set]
end
end Go.Th
namespace Go.Proofs.YtjandnidljbkoaaGreat
open Go.RowKit Go.Th
def SkRel (v:List Int) (n:Nat) (w:World) (s i:Value) (wr:World):Prop :=
  ∃ (k m c:Nat) (A:Option Addr),k≤n∧m≤k∧i=.int .i64 k∧s=.slice A m c∧OwS iv wr w.heap.size 3 A m c (idxs (v.take k) (-1))∧Below w.heap.size w wr
set_option maxRecDepth 100000 in
set_option maxHeartbeats 2000000 in
theorem sinks_any (A:Option Addr) (n c:Nat) (v:List Int) (w:World) (hn:n≤256) (B:Nat) (hr:RdS iv w B A n c v) (hv:∀ x∈v,-1≤x∧x < (n:Int)) :
    Calls Tryz.prog 67 #[.slice A n c] w (fun e w'=>∃ A' m c',e=.returned (.tuple #[.slice A' m c',.int .i64 0])∧OwS iv w' w.heap.size 3 A' m c' (idxs v (-1))∧Below w.heap.size w w'):=by
  have hlen:=hr.len
  have K0:=Lib.hid (gmay_any A n c v w hn B hr hv)
  clear hv
  go_enter Tryz.func67,Tryz.ntmps67
  go_upto_region 6 with (go_at_call 73;refine (K0.out).mono ?_;rintro e w2 ⟨rfl,rfl⟩)
  go_loopw [5,15] (fun s i wr=>SkRel v n w s i wr) (fun _ i _=>n - (intOf i).toNat)
  case atStart=>exact ⟨0,0,0,none,by omega,by omega,rfl,rfl,OwS.nil_ _ _ _,Below.refl _ _⟩
  case round =>
    obtain ⟨k,m,cr,Ar,hk,hm,rfl,rfl,ow,hb⟩:=hrel
    have hrk:=hr.step hb
    have hbs:=hb.size
    by_cases hlt:k < n
    · obtain ⟨x,hx⟩:∃ x,v[k]? = some x:=⟨v[k]'(by omega),List.getElem?_eq_getElem _⟩
      have hmo:=idxs_more hx (-1)
      have Hx:=Lib.hid hx
      clear hx
      by_cases e:x = -1
      · subst e
        rw [if_pos rfl] at hmo
        have Hmo:=Lib.hid hmo
        clear hmo
        go_wp2_with (first
          | ((with_reducible refine on_index (.tmp 13) ?_);refine wl_at_i rfl _ (.tmp 13) _ rfl el_int rfl rfl (by omega) (by omega) hrk ?_;intro p1 y1 hy1 hc1;have hxx:(-1:Int)=y1:=get_eq Hx.out hy1.out (by omega);subst hxx)
          | ((with_reducible refine on_append (.tmp 22) (.tmp 24) ?_);refine wl_appendS rfl (.tmp 22) (.tmp 24) _ rfl el_int (f:=iv) (fun _=>rfl) rfl (ow.alloc (.cells #[.int .i64 k] 3)) rfl (OwS.lit (base:=wr.heap.size) (e:=3) (xs:=[(k:Int)]) wr #[.int .i64 k] 1 (Nat.le_refl _) (by simp [maxLen]) rfl rfl).rd (by omega) (by omega) (by simp;omega) ?_;intro A8 c8 w8 ow8 hg8 hb8))
        rw [← Hmo.out] at ow8
        go_roundw
        case rel=>exact ⟨k+1,m+1,c8,A8,by omega,by omega,by go_num,rfl,ow8,(hb.alloc hbs _).trans hb8⟩
        case measure=>simp [intOf];omega
      · have hd:(x == -1)=false:=by simpa using e
        rw [if_neg e,List.append_nil] at hmo
        have Hmo:=Lib.hid hmo
        clear hmo e
        go_wp2_with ((with_reducible refine on_index (.tmp 13) ?_);refine wl_at_i rfl _ (.tmp 13) _ rfl el_int rfl rfl (by omega) (by omega) hrk ?_;intro p1 y1 hy1 hc1;have hxx:x=y1:=get_eq Hx.out hy1.out (by omega);subst hxx)
        go_roundw
        case rel=>exact ⟨k+1,m,cr,Ar,by omega,by omega,by go_num,rfl,by rw [Hmo.out];exact ow,hb⟩
        case measure=>simp [intOf];omega
    · obtain rfl:k=n:=by omega
      have h5:v.take k=v:=List.take_of_length_le (by omega)
      rw [h5] at ow
      go_wp2
      go_ret2
      exact ⟨Ar,m,cr,rfl,ow,hb⟩
end Go.Proofs.YtjandnidljbkoaaGreat
