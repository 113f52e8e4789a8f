/-
  graph.back: of each node those that step to it.
-/
import Derived.Test.YtjandnidljbkoaaGreatGTpSinks
set_option linter.unusedVariables false
namespace Go.Th
open Go.RowKit
def offS (v:List Int):Nat→Nat
  | 0=>0
  | x+1=>offS v x+v.count (x:Int)
theorem offS_mono (v:List Int) {x:Nat}:∀ {y:Nat},x < y→offS v x+v.count (x:Int)≤offS v y
  | 0,h=>absurd h (by omega)
  | y+1,h=>by
    by_cases e:x=y
    · subst e;exact Nat.le_refl _
    · have:=offS_mono v (x:=x) (y:=y) (by omega)
      rw [offS]
      omega
theorem offS_filter (v:List Int):∀ m:Nat,offS v m=(v.filter fun y=>decide (0≤y∧y < (m:Int))).length
  | 0=>by
    symm
    rw [offS,List.length_eq_zero_iff,List.filter_eq_nil_iff]
    intro y _
    simp
  | m+1=>by
    rw [offS,offS_filter v m]
    induction v with
    | nil=>rfl
    | cons y v ih =>
      rw [List.filter_cons,List.filter_cons,List.count_cons]
      by_cases h1:0≤y∧y < (m:Int)
      · have h2:0≤y∧y < ((m+1:Nat):Int):=by omega
        have h3:¬ y=(m:Int):=by omega
        simp only [decide_eq_true h1,decide_eq_true h2,if_true,List.length_cons,beq_iff_eq,if_neg h3]
        omega
      · by_cases h3:y=(m:Int)
        · have h2:0≤y∧y < ((m+1:Nat):Int):=by omega
          simp only [decide_eq_false h1,decide_eq_true h2,if_true,List.length_cons,beq_iff_eq,if_pos h3,Bool.false_eq_true,if_false]
          omega
        · have h2:¬ (0≤y∧y < ((m+1:Nat):Int)):=by omega
          simp only [decide_eq_false h1,decide_eq_false h2,beq_iff_eq,if_neg h3,Bool.false_eq_true,if_false]
          omega
theorem offS_le (v:List Int) (m:Nat):offS v m≤v.length:=by
  rw [offS_filter]
  exact List.length_filter_le _ _
def cntR (v:List Int) (n:Nat):List Int:=(List.range n).map fun x:Nat=>((v.count (x:Int):Nat):Int)
theorem cntR_len (v:List Int) (n:Nat):(cntR v n).length=n:=by simp [cntR]
theorem cntR_get (v:List Int) {n x:Nat} (h:x < n):(cntR v n)[x]? = some ((v.count (x:Int):Nat):Int):=by
  unfold cntR
  rw [List.getElem?_map,List.getElem?_range h]
  rfl
theorem count_more {v:List Int} {k:Nat} {y:Int} (h:v[k]? = some y) (x:Int):(v.take (k+1)).count x=(v.take k).count x+if y=x then 1 else 0:=by
  rw [take_more h,List.count_append,List.count_cons,List.count_nil]
  by_cases e:y=x <;> simp [e]
theorem cntR_more {v:List Int} {k n m:Nat} (h:v[k]? = some (m:Int)) (hm:m < n):(cntR (v.take k) n).set m (((v.take k).count (m:Int):Nat)+1:Int)=cntR (v.take (k+1)) n:=by
  apply List.ext_getElem?
  intro i
  rw [List.getElem?_set]
  by_cases e:m=i
  · subst e
    rw [if_pos rfl,if_pos (by rw [cntR_len];exact hm),cntR_get _ hm,count_more h,if_pos rfl]
    simp
  · rw [if_neg e]
    by_cases hi:i < n
    · rw [cntR_get _ hi,cntR_get _ hi,count_more h,if_neg (by omega)]
      simp
    · rw [List.getElem?_eq_none (by rw [cntR_len];omega),List.getElem?_eq_none (by rw [cntR_len];omega)]
theorem cntR_same {v:List Int} {k n:Nat} {y:Int} (h:v[k]? = some y) (hy:y < 0):cntR (v.take (k+1)) n=cntR (v.take k) n:=by
  unfold cntR
  refine List.map_congr_left fun x hx=>?_
  rw [count_more h,if_neg (by omega)]
  simp
theorem count_take_le (v:List Int) (k:Nat) (x:Int):(v.take k).count x≤v.count x:=(List.take_sublist k v).count_le x
def fsl (ga:Nat):Option Nat × Nat × Nat→Value
  | (none,l,c)=>.slice none l c
  | (some o,l,c)=>.slice (some ⟨ga,o,none⟩) l c
theorem fsl_one (ga:Nat) (p:Option Nat × Nat × Nat):(fsl ga p).oneCell' = true:=by
  obtain ⟨_ | o,l,c⟩:=p <;> rfl
theorem fsl_cells (ga:Nat) (p:Option Nat × Nat × Nat):(fsl ga p).cells = #[fsl ga p]:=by
  obtain ⟨_ | o,l,c⟩:=p <;> rfl
def dsc (v:List Int) (x l:Nat):Option Nat × Nat × Nat:=(some (if v.count (x:Int)=0 then 0 else offS v x),l,v.count (x:Int))
def laid (v:List Int) (n k:Nat):List (Option Nat × Nat × Nat):=(List.range n).map fun x=>if x < k then dsc v x 0 else (none,0,0)
theorem laid_more (v:List Int) {n k:Nat} (hk:k < n):(laid v n k).set k (dsc v k 0)=laid v n (k+1):=by
  apply List.ext_getElem?
  intro i
  rw [List.getElem?_set]
  unfold laid
  by_cases e:k=i
  · subst e
    rw [if_pos rfl,if_pos (by simpa using hk),List.getElem?_map,List.getElem?_range hk,Option.map_some,if_pos (by omega)]
  · rw [if_neg e,List.getElem?_map,List.getElem?_map]
    by_cases hi:i < n
    · rw [List.getElem?_range hi,Option.map_some,Option.map_some]
      by_cases h:i < k
      · rw [if_pos h,if_pos (by omega)]
      · rw [if_neg h,if_neg (by omega)]
    · rw [List.getElem?_eq_none (by simp;omega)]
      rfl
def filP (v vk:List Int) (n:Nat):List (Option Nat × Nat × Nat):=(List.range n).map fun x:Nat=>dsc v x (vk.count (x:Int))
theorem filP_len (v vk:List Int) (n:Nat):(filP v vk n).length=n:=by simp [filP]
theorem filP_get (v vk:List Int) {n x:Nat} (h:x < n):(filP v vk n)[x]? = some (dsc v x (vk.count (x:Int))):=by
  unfold filP
  rw [List.getElem?_map,List.getElem?_range h]
  rfl
theorem laid_all (v:List Int) (n:Nat):laid v n n=filP v [] n:=by
  unfold laid filP
  refine List.map_congr_left fun x hx=>?_
  rw [if_pos (List.mem_range.1 hx)]
  rfl
theorem filP_more {v:List Int} {k n m:Nat} (h:v[k]? = some (m:Int)) (hm:m < n):(filP v (v.take k) n).set m (dsc v m ((v.take k).count (m:Int)+1))=filP v (v.take (k+1)) n:=by
  apply List.ext_getElem?
  intro i
  rw [List.getElem?_set]
  by_cases e:m=i
  · subst e
    rw [if_pos rfl,if_pos (by rw [filP_len];exact hm),filP_get _ _ hm,count_more h,if_pos rfl]
  · rw [if_neg e]
    by_cases hi:i < n
    · rw [filP_get _ _ hi,filP_get _ _ hi,count_more h,if_neg (by omega)]
      rfl
    · rw [List.getElem?_eq_none (by rw [filP_len];omega),List.getElem?_eq_none (by rw [filP_len];omega)]
theorem filP_same {v:List Int} {k n:Nat} {y:Int} (h:v[k]? = some y) (hy:y < 0):filP v (v.take (k+1)) n=filP v (v.take k) n:=by
  unfold filP
  refine List.map_congr_left fun x hx=>?_
  rw [count_more h,if_neg (by omega)]
  rfl
def Fil (v vk:List Int) (n:Nat) (L:List Int):Prop:=L.length=n∧∀ x,x < n→(L.drop (offS v x)).take (vk.count (x:Int))=idxs vk (x:Int)
theorem Fil.nil (v:List Int) (n:Nat) (L:List Int) (h:L.length=n):Fil v [] n L:=⟨h,fun x _=>by simp [idxs]⟩
theorem Fil.same {v:List Int} {k n:Nat} {y:Int} {L:List Int} (h:Fil v (v.take k) n L) (hk:v[k]? = some y) (hy:y < 0):Fil v (v.take (k+1)) n L :=
  ⟨h.1,fun x hx=>by rw [count_more hk,if_neg (by omega),Nat.add_zero,h.2 x hx,idxs_more hk,if_neg (by omega),List.append_nil]⟩
theorem count_lt {v:List Int} {k:Nat} {y:Int} (h:v[k]? = some y):(v.take k).count y+1≤v.count y:=by
  have h1:=count_more h y
  have h2:=count_take_le v (k+1) y
  rw [if_pos rfl] at h1
  omega
theorem Fil.more {v:List Int} {k n m:Nat} {L:List Int} (h:Fil v (v.take k) n L) (hv:v.length=n) (hk:v[k]? = some (m:Int)) (hm:m < n):Fil v (v.take (k+1)) n (L.set (offS v m+(v.take k).count (m:Int)) (k:Int)):=by
  have hc:=count_lt hk
  have ho:=offS_le v (m+1)
  rw [offS] at ho
  refine ⟨by rw [List.length_set];exact h.1,fun x hx=>?_⟩
  have hl:=h.1
  by_cases e:m=x
  · subst e
    rw [count_more hk,if_pos rfl,idxs_more hk,if_pos rfl,← h.2 m hx]
    apply List.ext_getElem?
    intro i
    rw [List.getElem?_take,List.getElem?_drop,List.getElem?_set]
    by_cases hi:i < (v.take k).count (m:Int)
    · rw [if_pos (by omega),if_neg (by omega),List.getElem?_append_left (by rw [List.length_take,List.length_drop];omega),List.getElem?_take,if_pos hi,List.getElem?_drop]
    · rw [List.getElem?_append_right (by rw [List.length_take,List.length_drop];omega),List.length_take,List.length_drop,Nat.min_eq_left (by omega)]
      by_cases e2:i=(v.take k).count (m:Int)
      · rw [if_pos (by omega),if_pos (by omega),if_pos (by omega),show i - (v.take k).count (m:Int)=0 by omega]
        rfl
      · rw [if_neg (by omega),List.getElem?_eq_none (by simp;omega)]
  · rw [count_more hk,if_neg (by omega),Nat.add_zero,idxs_more hk,if_neg (by omega),List.append_nil,← h.2 x hx]
    apply List.ext_getElem?
    intro i
    rw [List.getElem?_take,List.getElem?_take,List.getElem?_drop,List.getElem?_drop]
    by_cases hi:i < (v.take k).count (x:Int)
    · rw [if_pos hi,if_pos hi,List.getElem?_set_ne]
      have hcx:=count_take_le v k (x:Int)
      rcases Nat.lt_or_ge m x with h1 | h1
      · have:=offS_mono v h1
        omega
      · have:=offS_mono v (x:=x) (y:=m) (by omega)
        omega
    · rw [if_neg hi,if_neg hi]
theorem OwS.cellAt {α:Type} {f:α→Value} {w:World} {base e n c g:Nat} {xs:List α} (h:OwS f w base e (some ⟨g,0,none⟩) n c xs) {i:Nat} {y:α} (hi:xs[i]? = some y):w.cell? ⟨g,i,none⟩=some (f y):=by
  have:=h.ow.own.cells (g:=g) rfl i (f y) (by rw [List.getElem?_map,hi];rfl)
  rw [Addr.add_lit,Nat.zero_add] at this
  exact this
section
variable {P:Program} {ops:Array Oper} {rest:List Oper} {o:Oper} {a:Act} {Q:Exit→Act→World→Prop} {w:World}
theorem wl_setG (hw:Region.wanted o (yielded ops a.tmps)=true) (T:TypeId) (x y:Operand) (ho:o.op=.store T x y) (hsz:∀ w,(sizeOf T).run P w=.ok 1 w) {α:Type} {f:α→Value} (h1:∀ x,(f x).oneCell' = true) (h2:∀ x,(f x).cells = #[f x])
    {g j n c base e:Nat} {xs:List α} (hx:a.eval x=.pointer (some ⟨g,j,none⟩)) (v:α) (hy:a.eval y=f v)
    (hown:OwS f w base e (some ⟨g,0,none⟩) n c xs) (hj:j < n)
    (h:∀ w',OwS f w' base e (some ⟨g,0,none⟩) n c (xs.set j v)→w.grownBy w' (some g)→Below base w w'→wpList P ops Q rest (a.put o.dst undef) w'):wpList P ops Q (o :: rest) a w :=
  wl_store1 hw T x y ho hsz hx (v:=f v) hy (h1 v) (h2 v) hown.ow hj fun w' h1 h2 h3=>h w' ⟨by rw [List.map_set];exact h1⟩ h2 h3
theorem wl_cut_own (hw:Region.wanted o (yielded ops a.tmps)=true) (T:TypeId) (s lo hi mx:Operand) {E bytes:Nat} {z:Value} (el:El P T E z bytes) {g n c:Nat} (hs:a.eval s=.slice (some ⟨g,0,none⟩) n c)
    (ho:o.op=.slice T s (some lo) (some hi) (some mx)) {k k' k'':IntKind} {I J K:Int} (hlo:a.eval lo=.int k I) (hhi:a.eval hi=.int k' J) (hmx:a.eval mx=.int k'' K) (L H M:Nat) (hH:I=(L:Int)∧J=(H:Int)∧K=(M:Int)∧L≤H∧H≤M∧M≤c)
    (h:wpList P ops Q rest (a.put o.dst (.slice (some ⟨g,if M=L then 0 else L,none⟩) (H - L) (M - L))) w):wpList P ops Q (o :: rest) a w:=by
  obtain ⟨rfl,rfl,rfl,hLH,hHM,hM⟩:=hH
  refine wl_run hw (v:=.slice (if M=L then some ⟨g,0,none⟩ else (some (⟨g,0,none⟩:Addr)).map (·.add (L * 1))) (H - L) (M - L)) (w':=w) ?_ ?_
  · simp only [execOp,ho,hs,Sem.run_bind,Instr.sliceAt,run_underlying el.ht,Instr.slice,Option.map_some,hlo,hhi,hmx,bounds_lhm k k' k'' hLH hHM hM,el.size,Result.andThen,Sem.run_pure]
  · by_cases e:M=L
    · rw [if_pos e] at h ⊢;exact h
    · rw [if_neg e] at h ⊢
      rw [Option.map_some,Addr.add_lit,Nat.mul_one,Nat.zero_add]
      exact h
theorem wl_cut_dsc (hw:Region.wanted o (yielded ops a.tmps)=true) (T:TypeId) (s lo hi mx:Operand) {E bytes:Nat} {z:Value} (el:El P T E z bytes) {g n c:Nat} (hs:a.eval s=.slice (some ⟨g,0,none⟩) n c)
    (ho:o.op=.slice T s (some lo) (some hi) (some mx)) {k k' k'':IntKind} {I J K:Int} (hlo:a.eval lo=.int k I) (hhi:a.eval hi=.int k' J) (hmx:a.eval mx=.int k'' K) (L q off:Nat) (hH:I=(L:Int)∧J=(L:Int)∧K=((L+q:Nat):Int)∧L+q≤c) (hoff:Hid (off=if q=0 then 0 else L))
    (h:wpList P ops Q rest (a.put o.dst (.slice (some ⟨g,off,none⟩) 0 q)) w):wpList P ops Q (o :: rest) a w:=by
  refine wl_cut_own hw T s lo hi mx el hs ho hlo hhi hmx L L (L+q) ⟨hH.1,hH.2.1,hH.2.2.1,Nat.le_refl _,by omega,hH.2.2.2⟩ ?_
  have e:(if L+q=L then 0 else L)=off:=by rw [hoff.out];by_cases h:q=0 <;> simp [h]
  rw [e,Nat.sub_self,show L+q - L=q by omega]
  exact h
end
end Go.Th
namespace Go.Proofs.YtjandnidljbkoaaGreat
open Go.RowKit Go.Th
theorem info_rowj:(Tryz.prog.info? 38).map (fun i=>(i.zero,i.size,i.bytes))=some (some (.slice none 0 0),1,24):=by kernel_rfl
theorem size_rowj (w:World):(sizeOf 38).run Tryz.prog w=.ok 1 w:=by kernel_rfl
theorem el_rowj:El Tryz.prog 57 38 (.slice none 0 0) 24:=⟨Tryz.underlying57,info_parts info_rowj,rfl,size_rowj⟩
structure FromR (w:World) (base n ga gf:Nat) (v:List Int) (L:List Int):Prop where
  all:OwS iv w base 3 (some ⟨ga,0,none⟩) n n L
  fro:OwS (fsl ga) w base 38 (some ⟨gf,0,none⟩) n n (filP v v n)
  fil:Fil v v n L
def Cb1 (v:List Int) (n:Nat) (w:World) (gc:Nat) (i:Value) (wr:World):Prop :=
  ∃ k:Nat,k≤n∧i=.int .i64 k∧OwS iv wr w.heap.size 3 (some ⟨gc,0,none⟩) n n (cntR (v.take k) n)∧Below w.heap.size w wr
def Cb2 (v:List Int) (n B:Nat) (W:World) (ga gf:Nat) (at_ i:Value) (wr:World):Prop :=
  ∃ k:Nat,k≤n∧i=.int .i64 k∧at_=.int .i64 (offS v k)∧OwS (fsl ga) wr B 38 (some ⟨gf,0,none⟩) n n (laid v n k)∧Below B W wr
def Cb3 (v:List Int) (n:Nat) (W:World) (base ga gf:Nat) (i:Value) (wr:World):Prop :=
  ∃ (k:Nat) (L:List Int),k≤n∧i=.int .i64 k∧OwS iv wr base 3 (some ⟨ga,0,none⟩) n n L∧OwS (fsl ga) wr base 38 (some ⟨gf,0,none⟩) n n (filP v (v.take k) n)∧Hid (Fil v (v.take k) n L)∧Below base W wr
set_option maxRecDepth 100000 in
set_option maxHeartbeats 4000000 in
theorem back_any (A:Option Addr) (n c:Nat) (v:List Int) (w:World) (hn:n≤256) (hr:RdS iv w w.heap.size A n c v) (hv:∀ x∈v,-1≤x∧x < (n:Int)) :
    Calls Tryz.prog 70 #[.slice A n c] w (fun e w'=>∃ ga gf L,e=.returned (.slice (some ⟨gf,0,none⟩) n n)∧FromR w' w.heap.size n ga gf v L∧Below w.heap.size w w'):=by
  have hlen:=hr.len
  have Hv:=Lib.hid hv
  have Hlen:=Lib.hid hlen
  clear hv
  go_enter Tryz.func70,Tryz.ntmps70
  go_upto_region 3 with ((with_reducible refine on_makeL _ ?_);refine wl_makeS (base:=w.heap.size) rfl _ _ _ rfl el_int (f:=iv) 0 rfl n rfl rfl rfl rfl (by omega) (by omega) (Nat.le_refl _) ?_;intro gc W hgc ow0 hW)
  have h00:List.replicate n (0:Int)=cntR (v.take 0) n:=by
    unfold cntR
    apply List.ext_getElem?
    intro i
    rw [List.getElem?_replicate,List.getElem?_map]
    by_cases hi:i < n
    · rw [if_pos hi,List.getElem?_range hi];simp
    · rw [if_neg hi,List.getElem?_eq_none (by simp;omega)];rfl
  rw [h00] at ow0
  clear h00
  go_loopw [18] (fun i wr=>Cb1 v n w gc i wr) (fun i _=>n - (intOf i).toNat)
  case atStart=>exact ⟨0,by omega,rfl,ow0,hW⟩
  case round =>
    clear ow0 hW
    obtain ⟨k,hk,rfl,ow,hb⟩:=hrel
    have hrk:=hr.step hb
    by_cases hlt:k < n
    · obtain ⟨x,hx⟩:∃ x,v[k]? = some x:=⟨v[k]'(by omega),List.getElem?_eq_getElem _⟩
      have hxb:=Hv.out x (List.mem_of_getElem? hx)
      have Hx:=Lib.hid hx
      by_cases hs:x = -1
      · subst hs
        have hsm:=cntR_same (n:=n) hx (by omega)
        have Hsm:=Lib.hid hsm
        clear hx hsm hxb
        go_wp2_with ((with_reducible refine on_index (.tmp 16) ?_);refine wl_at_i rfl _ (.tmp 16) _ rfl el_int rfl rfl (by omega) (by omega) hrk ?_;intro p1 y1 hy1 hc1;have hxx:(-1:Int)=y1:=get_eq Hx.out hy1.out (by omega);subst hxx)
        go_roundw
        case rel=>exact ⟨k+1,by omega,by go_num,by rw [Hsm.out];exact ow,hb⟩
        case measure=>simp [intOf];omega
      · obtain ⟨m,rfl⟩:∃ m:Nat,x=(m:Int):=⟨x.toNat,by omega⟩
        have hm:m < n:=by omega
        have hd:((m:Int) != -1)=true:=by simp
        have hmo:=cntR_more hx hm
        have hcx:=cntR_get (v.take k) hm
        have hcell0:=ow.cellAt hcx
        have hcb:(v.take k).count (m:Int)≤n:=by have:=count_take_le v k (m:Int);have:v.count (m:Int)≤v.length:=List.count_le_length;omega
        obtain ⟨q,hq⟩:∃ q,(v.take k).count (m:Int)=q:=⟨_,rfl⟩
        rw [hq] at hmo hcell0 hcb
        have hcell:wr.cell? ⟨gc,m,none⟩=some (.int .i64 (q:Int)):=hcell0
        clear hcell0
        have Hmo:=Lib.hid hmo
        clear hx hmo hxb hcx hq hs
        go_wp2_with (first
          | ((with_reducible refine on_index (.tmp 16) ?_);refine wl_at_i rfl _ (.tmp 16) _ rfl el_int rfl rfl (by omega) (by omega) hrk ?_;intro p1 y1 hy1 hc1;have hxx:(m:Int)=y1:=get_eq Hx.out hy1.out (by omega);subst hxx)
          | ((with_reducible refine on_index (.tmp 24) ?_);refine wl_placeS rfl _ (.tmp 24) _ rfl el_int rfl rfl m (by omega) ?_)
          | ((with_reducible refine on_store_at (.tmp 29) ?_);refine wl_setS rfl _ (.tmp 29) _ rfl size_int (f:=iv) rfl rfl ((q:Int)+1) (by go_num) ow (by omega) ?_;intro w5 ow5 hg5 hb5))
        rw [Hmo.out] at ow5
        go_roundw
        case rel=>exact ⟨k+1,by omega,by go_num,ow5,hb.trans hb5⟩
        case measure=>simp [intOf];omega
    · obtain rfl:k=n:=by omega
      have h5:v.take k=v:=List.take_of_length_le (by omega)
      rw [h5] at ow
      have hbs:=hb.size
      have Hcnt:=Lib.hid ow
      obtain ⟨B0,hB0⟩:∃ x,w.heap.size=x:=⟨_,rfl⟩
      clear ow hrk
      go_upto_region 12 with (first
        | ((with_reducible refine on_makeL (.tmp 32) ?_);refine wl_makeS (base:=B0) rfl _ _ _ rfl el_int (f:=iv) 0 rfl k rfl rfl rfl rfl (by omega) (by omega) (by omega) ?_;intro ga Wa hga owa hWa)
        | ((with_reducible refine on_makeL (.tmp 35) ?_);refine wl_makeS (base:=Wa.heap.size) rfl _ _ _ rfl el_rowj (f:=fsl ga) (none,0,0) rfl k rfl rfl rfl rfl (by omega) (by omega) (Nat.le_refl _) ?_;intro gf W2 hgf owf hWf))
      have h00:List.replicate k ((none,0,0):Option Nat × Nat × Nat)=laid v k 0:=by
        unfold laid
        apply List.ext_getElem?
        intro i
        rw [List.getElem?_replicate,List.getElem?_map]
        by_cases hi:i < k
        · rw [if_pos hi,List.getElem?_range hi];simp
        · rw [if_neg hi,List.getElem?_eq_none (by simp;omega)];rfl
      rw [h00] at owf
      have owcA:=Hcnt.out.below hWa
      have hga2:ga < Wa.heap.size:=by
        obtain ⟨g',e,_,hlt⟩:=owa.ow.form.resolve_left (by simp)
        injection e with e
        injection e with e
        omega
      have hbA:=hb.trans (hWa.mono hbs)
      have hbA2:=hWa.size
      clear h00 Hcnt hlt
      go_loopw [8,39] (fun at_ i w3=>Cb2 v k Wa.heap.size Wa ga gf at_ i w3) (fun _ i _=>k - (intOf i).toNat)
      case atStart=>exact ⟨0,by omega,rfl,rfl,owf,hWf⟩
      case round =>
        clear owf
        obtain ⟨j,hj,rfl,rfl,ow,hb3⟩:=hrel
        have owcr:=(owcA.below hb3).rd
        by_cases hlt:j < k
        · have hcj:=cntR_get v hlt
          have hmo:=laid_more v hlt
          have hos:offS v (j+1)=offS v j+v.count (j:Int):=rfl
          have hol:=offS_le v (j+1)
          obtain ⟨q,hq⟩:∃ q,v.count (j:Int)=q:=⟨_,rfl⟩
          unfold dsc at hmo
          rw [hq] at hcj hmo hos
          rw [hos,hlen] at hol
          obtain ⟨off,hoff⟩:∃ off,(if q=0 then 0 else offS v j)=off:=⟨_,rfl⟩
          rw [hoff] at hmo
          have Hoff:Hid (off=if q=0 then 0 else offS v j):=Lib.hid hoff.symm
          have Hcj:=Lib.hid hcj
          have Hmo:=Lib.hid hmo
          have Hos:=Lib.hid hos
          obtain ⟨s,hs⟩:∃ s,offS v j=s:=⟨_,rfl⟩
          rw [hs] at Hoff Hos hol ⊢
          clear hcj hmo hos hq hoff hs
          go_wp2_with (first
            | ((with_reducible refine on_index (.tmp 37) ?_);refine wl_at_i rfl _ (.tmp 37) _ rfl el_int rfl rfl (by omega) (by omega) owcr ?_;intro p1 y1 hy1 hc1;have hxx:(q:Int)=y1:=get_eq Hcj.out hy1.out (by omega);subst hxx)
            | ((with_reducible refine on_slice (.tmp 46) ?_);refine wl_cut_dsc rfl _ (.tmp 46) _ _ _ el_int rfl rfl rfl rfl rfl s q off ⟨rfl,rfl,by go_num,by omega⟩ Hoff ?_)
            | ((with_reducible refine on_index (.tmp 44) ?_);refine wl_placeS rfl _ (.tmp 44) _ rfl el_rowj rfl rfl j (by omega) ?_)
            | ((with_reducible refine on_store_at (.tmp 53) ?_);refine wl_setG rfl _ (.tmp 53) _ rfl size_rowj (fsl_one ga) (fsl_cells ga) rfl (some off,0,q) rfl ow (by omega) ?_;intro w5 ow5 hg5 hb5))
          rw [Hmo.out] at ow5
          go_roundw
          case rel=>exact ⟨j+1,by omega,by go_num,by rw [Hos.out];go_num,ow5,hb3.trans hb5⟩
          case measure=>simp [intOf];omega
        · obtain rfl:j=k:=by omega
          rw [laid_all] at ow
          have hbs3:=hb3.size
          have hB0A:B0≤Wa.heap.size:=by omega
          have owa3:=(owa.below hb3).base_le (show B0≤_ by omega)
          have owf3:=ow.base_le hB0A
          have hbw3:Below B0 w wr:=(hbA.trans (hb3.mono (by omega))).mono (by omega)
          have hne:ga≠gf:=by have:=ow.ow.row_ge gf rfl;omega
          have hr3:RdS iv wr w.heap.size A j c v:=hr.below (by rw [hB0];exact hbw3)
          have hf0:Fil v (v.take 0) j (List.replicate j 0):=Fil.nil v j _ (by simp)
          have hp0:filP v [] j=filP v (v.take 0) j:=by rw [List.take_zero]
          rw [hp0] at owf3
          clear ow owcr hbs hbA hbA2 hb hb3 hk h5
          go_wp2
          go_loopw [60] (fun i w4=>Cb3 v j w B0 ga gf i w4) (fun i _=>j - (intOf i).toNat)
          case atStart=>exact ⟨0,_,by omega,rfl,owa3,owf3,Lib.hid hf0,hbw3⟩
          case round =>
            clear owa3 owf3 hf0 hp0
            obtain ⟨k,L,hk,rfl,oa,of,fil,hb4⟩:=hrel
            have hrk:RdS iv wr w.heap.size A j c v:=hr.below (by rw [hB0];exact hb4)
            by_cases hlt:k < j
            · obtain ⟨x,hx⟩:∃ x,v[k]? = some x:=⟨v[k]'(by omega),List.getElem?_eq_getElem _⟩
              have hxb:=Hv.out x (List.mem_of_getElem? hx)
              have Hx:=Lib.hid hx
              by_cases hs:x = -1
              · subst hs
                have Hsm:=Lib.hid (filP_same (n:=j) hx (by omega))
                have Fsm:=Lib.hid (fil.out.same hx (by omega))
                clear hx hxb
                go_wp2_with ((with_reducible refine on_index (.tmp 58) ?_);refine wl_at_i rfl _ (.tmp 58) _ rfl el_int rfl rfl (by omega) (by omega) hrk ?_;intro p1 y1 hy1 hc1;have hxx:(-1:Int)=y1:=get_eq Hx.out hy1.out (by omega);subst hxx)
                go_roundw
                case rel=>exact ⟨k+1,L,by omega,by go_num,oa,by rw [Hsm.out];exact of,Fsm,hb4⟩
                case measure=>simp [intOf];omega
              · obtain ⟨m,rfl⟩:∃ m:Nat,x=(m:Int):=⟨x.toNat,by omega⟩
                have hm:m < j:=by omega
                have hct:=count_lt hx
                have hmo:=filP_more hx hm
                have hfi:=fil.out.more hlen hx hm
                have hgt:=filP_get v (v.take k) hm
                have hol:=offS_le v (m+1)
                rw [offS,hlen] at hol
                have hcell0:=of.cellAt hgt
                unfold dsc at hcell0 hmo
                obtain ⟨l,hl⟩:∃ l,(v.take k).count (m:Int)=l:=⟨_,rfl⟩
                obtain ⟨q,hq⟩:∃ q,v.count (m:Int)=q:=⟨_,rfl⟩
                rw [hl] at hct hmo hfi hcell0
                rw [hq] at hct hmo hcell0 hol
                rw [if_neg (by omega)] at hcell0 hmo
                obtain ⟨s,hs2⟩:∃ s,offS v m=s:=⟨_,rfl⟩
                rw [hs2] at hmo hfi hcell0 hol
                have hcell:wr.cell? ⟨gf,m,none⟩=some (.slice (some ⟨ga,s,none⟩) l q):=hcell0
                have Hmo:=Lib.hid hmo
                have Hfi:=Lib.hid hfi
                clear hcell0 hmo hfi hgt hl hq hs2 hs hx hxb
                have oal:=oa.alloc (.cells #[.int .i64 k] 3)
                have lit:=OwS.lit (f:=iv) (base:=wr.heap.size) (e:=3) (xs:=[(k:Int)]) wr #[.int .i64 k] 1 (Nat.le_refl _) (by simp [maxLen]) rfl rfl
                go_wp2_with (first
                  | ((with_reducible refine on_index (.tmp 58) ?_);refine wl_at_i rfl _ (.tmp 58) _ rfl el_int rfl rfl (by omega) (by omega) hrk ?_;intro p1 y1 hy1 hc1;have hxx:(m:Int)=y1:=get_eq Hx.out hy1.out (by omega);subst hxx)
                  | ((with_reducible refine on_index (.tmp 69) ?_);refine wl_placeS rfl _ (.tmp 69) _ rfl el_rowj rfl rfl m (by omega) ?_)
                  | ((with_reducible refine on_append (.tmp 72) (.tmp 74) ?_);refine wl_append_at rfl (.tmp 72) (.tmp 74) _ rfl el_int (f:=iv) (fun _=>rfl) rfl oal rfl lit.rd (by omega) (by omega) ?_;intro w5 oa5 hg5)
                  | ((with_reducible refine on_index (.tmp 67) ?_);refine wl_placeS rfl _ (.tmp 67) _ rfl el_rowj rfl rfl m (by omega) ?_)
                  | ((with_reducible refine on_store_at (.tmp 76) ?_);refine wl_setG rfl _ (.tmp 76) _ rfl size_rowj (fsl_one ga) (fsl_cells ga) rfl (some s,l+1,q) rfl ((of.alloc (.cells #[.int .i64 k] 3)).grown hg5 (fun g hA e=>by injection hA with hA;injection hA with hA;injection e with e;omega)) (by omega) ?_;intro w6 of6 hg6 hb6))
                rw [Hmo.out] at of6
                have hB4:=hb4.size
                have hga:=oa.ow.row_ge ga rfl
                go_roundw
                case rel=>exact ⟨k+1,_,by omega,by go_num,oa5.grown hg6 (fun g hA e=>by injection hA with hA;injection hA with hA;injection e with e;omega),of6,Hfi,((hb4.alloc (by omega) _).grown hg5 (by simp;omega) (fun g e=>by injection e with e;omega)).trans hb6⟩
                case measure=>simp [intOf];omega
            · obtain rfl:k=j:=by omega
              have h5:v.take k=v:=List.take_of_length_le (by omega)
              rw [h5] at of fil
              go_wp2
              go_ret
              exact ⟨ga,gf,L,rfl,⟨oa.base_le (by omega),of.base_le (by omega),fil.out⟩,by rw [hB0];exact hb4⟩
end Go.Proofs.YtjandnidljbkoaaGreat
