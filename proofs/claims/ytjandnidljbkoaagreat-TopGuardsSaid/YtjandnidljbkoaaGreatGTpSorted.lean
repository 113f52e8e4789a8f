/-
  A set of uint32s as a map; slices.Sorted(maps.Keys(..)).
-/
import Derived.Test.YtjandnidljbkoaaGreatGTpEnds
import Derived.Test.YtjandnidljbkoaaGreatGTpKeys
import Derived.Test.YtjandnidljbkoaaGreatGTpSo
import Derived.Maps.OwnSet
set_option linter.unusedVariables false
namespace Go.Th
open Go.RowKit Go.Maps Go.Sort
def addK (ks:List Int) (x:Int):List Int:=if x∈ks then ks else ks ++ [x]
theorem mem_addK {ks:List Int} {x y:Int}:y∈addK ks x↔y∈ks∨y=x:=by
  unfold addK
  split
  · rename_i h
    constructor
    · exact .inl
    · rintro (h2 | rfl)
      · exact h2
      · exact h
  · simp
theorem nodup_addK {ks:List Int} {x:Int} (h:ks.Nodup):(addK ks x).Nodup:=by
  unfold addK
  split
  · exact h
  · rename_i hx
    exact List.nodup_append.2 ⟨h,by simp,fun a ha b hb=>by simp at hb;subst hb;exact fun e=>hx (e ▸ ha)⟩
def SetU (w:World) (P:Program) (k e:TypeId) (b n:Nat) (seen:List Int):Prop :=
  ∃ D:DataW Unit,w.ownsMap P k (plainElem P e) b n D∧∀ x:Int,has D (.int .u32 x)=decide (x∈seen)
theorem SetU.made (w:World) (P:Program) (k e:TypeId):SetU (w.alloc (.map #[] 0)) P k e w.heap.size 0 [] :=
  ⟨.map [],World.ownsMap_made _ _ _ _,fun x=>by simp [has]⟩
theorem SetU.below {w w':World} {P:Program} {k e:TypeId} {b n B:Nat} {seen:List Int} (h:SetU w P k e b n seen) (hb:Below B w w') (hB:b < B):SetU w' P k e b n seen:=by
  obtain ⟨D,⟨es,clock,hh,r⟩,h2⟩:=h
  exact ⟨D,⟨es,clock,(hb.block b hB).trans hh,r⟩,h2⟩
theorem SetU.lt {w:World} {P:Program} {k e:TypeId} {b n:Nat} {seen:List Int} (h:SetU w P k e b n seen):b < w.heap.size:=by
  obtain ⟨D,h1,h2⟩:=h
  exact h1.lt
theorem SetU.step {w w':World} {P:Program} {k e:TypeId} {b n:Nat} {seen:List Int} (h:SetU w P k e b n seen) (hb:Below w.heap.size w w'):SetU w' P k e b n seen:=h.below hb h.lt
theorem wf_u32 {x:Int} (hx:0≤x∧x≤4294967295):(Lit.int .u32 x).wf=true:=by
  simp [Lit.wf,IntKind.min,IntKind.max,IntKind.signed,IntKind.bits]
  omega
section
variable {P:Program} {ops:Array Oper} {rest:List Oper} {o:Oper} {a:Act} {Q:Exit→Act→World→Prop} {w:World}
theorem wl_putU (hg:o.guard=none) (m y v:Operand) (t:TypeId) (hop:o.op=.mapUpdate t m y v∨o.op=.insert t m y v) {k e:TypeId} (hk:P.underlying k=some (.int .u32)) (ht:P.underlying t=some (.map k e)) (he:P.underlying e=some .bool)
    {b n:Nat} {seen:List Int} (hm:a.eval m=.map (some b)) (hs:SetU w P k e b n seen) (hn:n < maxLen) {x:Int} (hy:a.eval y=.int .u32 x) (hx:0≤x∧x≤4294967295) (hv:a.eval v=.bool true)
    (h:∀ w',SetU w' P k e b (n+1) (addK seen x)→w.grownBy w' (some b)→wpList P ops Q rest (a.put o.dst undef) w'):wpList P ops Q (o :: rest) a w:=by
  obtain ⟨D,h1,h2⟩:=hs
  have hwf:=wf_u32 hx
  refine wpList_plain hg fun K' hK'=>?_
  obtain ⟨w',hrun,r1,r2⟩:=h1.update (int_keyed hk) ht hn (keyOf_int_mk hk hwf) (plainElem_bool he true)
  have key:=h w' ⟨_,r1,fun z=>?_⟩ r2
  · unfold Oper.wp
    rcases hop with hop | hop <;> (simp [execOp,hop,hm,hy,hv,hrun,Result.andThen];exact hK' _ _ key)
  · by_cases hzx:z=x
    · subst hzx
      rw [has_put_same h1.isMap (show WideAt.IsKeyLit (.int .u32 z) from trivial)]
      simp [mem_addK]
    · rw [has_put_other (fun e=>hzx (by injection e)),h2 z]
      simp [mem_addK,hzx]
theorem on_insert (m y v:Operand) {d t ty pos af g} (h:wpList P ops Q (⟨d,.insert t m y v,ty,pos,af,g⟩ :: rest) a w):wpList P ops Q (⟨d,.insert t m y v,ty,pos,af,g⟩ :: rest) a w:=h
end
theorem heap_rowg {α:Type} [Inhabited α] (enc:α→Value) {w:World} {g n:Nat} {cur:Array Value} {e:TypeId} {fr:Nat × Nat} (d:Array α) (os:Array Obj) (hb:w.heap[g]? = some (.cells cur e fr)) :
    (grow (putRow enc (Sort.ahead w n) g 0 d) os).heap[g]? = some (.cells (putCells enc 0 d cur) e fr):=by
  have hg:g < w.heap.size:=(Array.getElem?_eq_some_iff.1 hb).1
  rw [heap_grow_old _ _ (by simpa using hg)]
  simp [putRow,mapBlock,Sort.ahead,Array.getElem?_modify,hb,onCells]
theorem grown_rowg {α:Type} [Inhabited α] (enc:α→Value) {w:World} {g n:Nat} (d:Array α) (os:Array Obj):w.grownBy (grow (putRow enc (Sort.ahead w n) g 0 d) os) (some g):=by
  refine ⟨rfl,rfl,rfl,by simp,fun k hk hne=>?_⟩
  have:g≠k:=fun e=>hne (by rw [e])
  rw [heap_grow_old _ _ (by simpa using hk)]
  simp [putRow,mapBlock,Sort.ahead,Array.getElem?_modify,this]
theorem take_rowp {α:Type} [Inhabited α] (enc:α→Value) (cur:Array Value) (ts:List α) (h:ts.length≤cur.size):(putCells enc 0 ts.toArray cur).toList.take ts.length=ts.map enc:=by
  apply List.ext_getElem?
  intro j
  by_cases hj:j < ts.length
  · rw [List.getElem?_take_of_lt hj,Array.getElem?_toList]
    simp [putCells,hj,show j < cur.size by omega]
  · rw [List.getElem?_take_eq_none (by omega),List.getElem?_eq_none (by simp;omega)]
theorem sort_perm {l l':List Int} (h:l.Perm l'):l.mergeSort (fun x y=>decide (x≤y))=l'.mergeSort (fun x y=>decide (x≤y)):=by
  have tr:∀ a b c:Int,decide (a≤b)=true→decide (b≤c)=true→decide (a≤c)=true:=fun a b c h1 h2=>by simp only [decide_eq_true_eq] at *;omega
  have tt:∀ a b:Int,(decide (a≤b) || decide (b≤a))=true:=fun a b=>by simp only [Bool.or_eq_true,decide_eq_true_eq];omega
  refine List.Perm.eq_of_pairwise (le:=fun a b=>decide (a≤b)=true) (fun a b _ _ h1 h2=>?_) (List.pairwise_mergeSort tr tt l) (List.pairwise_mergeSort tr tt l') (((List.mergeSort_perm l _).trans h).trans (List.mergeSort_perm l' _).symm)
  simp only [decide_eq_true_eq] at h1 h2
  omega
end Go.Th
namespace Go.Proofs.YtjandnidljbkoaaGreat
open Go.RowKit Go.Th Go.Maps Go.Sort Go.Shelf Go.Proofs
abbrev SetAt (w:World) (b n:Nat) (seen:List Int):Prop:=SetU w Tryz.prog 23 4 b n seen
set_option maxRecDepth 100000 in
set_option maxHeartbeats 400000 in
theorem ssorted_any (Bm b nn:Nat) (seen:List Int) (w:World) (hm:w.cell? ⟨Bm,0,none⟩=some (.map (some b))) (hS:SetAt w b nn seen) (hnd:seen.Nodup) (hne:seen≠[]) (hl:seen.length≤100000) (hnn:nn≤100000) :
    Calls Tryz.prog 61 #[.func (.func 111) #[] #[.pointer (some ⟨Bm,0,none⟩)]] w (fun e w'=>∃ (g c:Nat),e=.returned (.slice (some ⟨g,0,none⟩) seen.length c)∧OwS uv w' w.heap.size 23 (some ⟨g,0,none⟩) seen.length c (seen.mergeSort (fun x y=>decide (x≤y)))∧Below w.heap.size w w'):=by
  obtain ⟨D,hown,hhas⟩:=hS
  have hBm:Bm < w.heap.size:=World.block_lt_of_cell? w ⟨Bm,0,none⟩ hm
  have hsz:=hown.size_le
  have hseq:SeqGives Fence.wide 8 Tryz.prog 111 #[.pointer (some ⟨Bm,0,none⟩)] encU (fun ss=>EveryU D ss) (Maps.size D) w:=ku_keys_gives Fence.wide 8 trivial rfl (by omega) Bm b nn D w hBm hm hown
  have K:=Lib.hid (callsIn_wide.1 (ku_collect_in Fence.wide 10 trivial trivial rfl (by omega) 111 _ trivial (enters_of Tryz.func111 (by kernel_rfl) rfl) _ _ (by simp [maxLen];omega) (by omega) w hseq))
  go_enter Tryz.func61,Tryz.ntmps61
  go_upto_region 2 with (go_at_call 109;refine (K.out).mono ?_;rintro e w1 ⟨v,ss,rfl,hS,hrow,hnil,hb⟩)
  have hperm:ss.Perm seen:=(List.perm_ext_iff_of_nodup hS.1 hnd).2 (fun x=>by rw [hS.2 x,hhas x];simp)
  have hlen:=hperm.length_eq
  rcases hrow.2 with ⟨rfl,hz⟩ | ⟨gb,cap,cur,rfl,hbase,hgb,r1,r2,r3,r4⟩
  · exact absurd (List.eq_nil_of_length_eq_zero (by omega)) hne
  · have hH:Holds (Value.int .u32) w1 gb 0 ss.toArray:=by
      intro j hj
      have hj':j < ss.length:=by simpa using hj
      have h1:(cur.toList.take (ss.length * 1))[j]? = (ss.map encU)[j]?:=by rw [r4]
      rw [Nat.mul_one,List.getElem?_take_of_lt hj',Array.getElem?_toList] at h1
      have h2:=cell_of_row w1 gb (0+j) cur 23 (0,0) hgb
      refine ⟨?_,frozen_of_row w1 gb (0+j) cur 23 hgb⟩
      rw [h2,Nat.zero_add,h1]
      simp [hj']
    have hgbl:gb < w1.heap.size:=(Array.getElem?_eq_some_iff.1 hgb).1
    have cS:=Lib.hid (sortU_any gb 0 cap ss w1 hH hgbl (by omega))
    have hsort:=sort_perm hperm
    obtain ⟨ts,hts⟩:∃ ts,ss.mergeSort (fun x y=>decide (x≤y))=ts:=⟨_,rfl⟩
    rw [hts] at hsort cS
    clear hts
    have htl:ts.length=seen.length:=by rw [hsort];exact List.length_mergeSort _
    have Hlen:=Lib.hid hlen
    have Htl:=Lib.hid htl
    clear hlen htl
    go_wp2_with (go_at_call 110;refine (cS.out).mono ?_;rintro e w2 ⟨rfl,k,os,rfl⟩)
    go_ret
    have hlen:=Hlen.out
    have htl:=Htl.out
    refine ⟨gb,cap,by rw [← hlen];rfl,?_,hb.grown (grown_rowg _ _ _) hb.size (fun j e=>by injection e with e;omega)⟩
    rw [← hsort,← htl]
    refine ⟨⟨by simp,.inr ⟨gb,cap,_,rfl,hbase,heap_rowg _ _ _ hgb,by omega,r2,by simp [putCells,r3],?_⟩⟩⟩
    rw [Nat.mul_one]
    exact take_rowp _ cur ts (by omega)
end Go.Proofs.YtjandnidljbkoaaGreat
