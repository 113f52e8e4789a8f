/-
  Laid together by wip/tools/merge.py out of: NetPlain, NfMc, NfMd, NfPlain, NfMe. ! ### NetPlain ! ### NfMc ! ### NfMd ! ### NfPlain ! ### NfMe
-/
import Derived.Laws.ResultCell
import Derived.Deep.DeepCutAuto
import Derived.Lib.SlBytesConst
import Derived.Laws.BitsAllLaws
import Derived.StillTailTactics
import Derived.Great.BuildSlice
import Derived.Great.FillDense
import Derived.ProofKit
import Derived.OpenShut
import Derived.ShutString
import Derived.ChangeOld
import Derived.Test.YtjandnidljbkoaaGreatGTpMa
set_option linter.unusedVariables false
namespace Go.Th
def nsize (ns:List (List Ru)):Nat:=(ns.map List.length).sum
def nmayGo (nodes:Int):List (List Ru)→Int
  | []=>0
  | l :: ls=>if tmay l nodes≠0 then tmay l nodes else nmayGo nodes ls
def nmay (ns:List (List Ru)):Int:=if 256 < ns.length∨4096 < nsize ns then 12 else nmayGo ns.length ns
def nmany (ns:List (List Ru)):Nat:=max 1 (min ns.length 8)
def nfitTo (ns:List (List Ru)) (k:Nat):List (List Ru):=(List.range k).map fun i=>fitT (ns.getD i []) (nmany ns)
def nfit (ns:List (List Ru)):List (List Ru):=nfitTo ns (nmany ns)
theorem nsize_take {ns:List (List Ru)} {k:Nat} {l:List Ru} (h:ns[k]? = some l):nsize (ns.take (k+1))=nsize (ns.take k)+l.length:=by
  unfold nsize
  rw [List.take_add_one,h]
  simp
theorem nsize_take_le (ns:List (List Ru)) (k:Nat):nsize (ns.take k)≤nsize ns:=by
  have h:nsize ns=nsize (ns.take k)+nsize (ns.drop k):=by
    unfold nsize
    conv=>lhs;rw [← List.take_append_drop k ns]
    rw [List.map_append,List.sum_append]
  omega
theorem nmayGo_bad {nodes:Int} {ns:List (List Ru)} {k:Nat} {l:List Ru} (h:ns[k]? = some l) (he:tmay l nodes≠0):nmayGo nodes (ns.drop k)=tmay l nodes:=by
  obtain ⟨hl,rfl⟩:=List.getElem?_eq_some_iff.1 h
  rw [List.drop_eq_getElem_cons hl,nmayGo,if_pos he]
theorem nmayGo_ok {nodes:Int} {ns:List (List Ru)} {k:Nat} {l:List Ru} (h:ns[k]? = some l) (he:tmay l nodes=0):nmayGo nodes (ns.drop k)=nmayGo nodes (ns.drop (k+1)):=by
  obtain ⟨hl,rfl⟩:=List.getElem?_eq_some_iff.1 h
  rw [List.drop_eq_getElem_cons hl,nmayGo,if_neg (by simp [he])]
theorem nmayGo_zero {nodes:Int}:∀ {ns:List (List Ru)},nmayGo nodes ns=0↔∀ l∈ns,tmay l nodes=0
  | []=>by simp [nmayGo]
  | l :: ls=>by
    rw [nmayGo]
    by_cases h:tmay l nodes≠0
    · rw [if_pos h]
      constructor
      · intro h2;exact absurd h2 h
      · intro h2;exact absurd (h2 l (by simp)) h
    · rw [if_neg h,nmayGo_zero]
      simp at h
      simp [h]
theorem nmay_zero {ns:List (List Ru)}:nmay ns=0↔ns.length≤256∧nsize ns≤4096∧∀ l∈ns,tmay l ns.length=0:=by
  unfold nmay
  by_cases h:256 < ns.length∨4096 < nsize ns
  · rw [if_pos h]
    constructor
    · intro h2;cases h2
    · intro h2;omega
  · rw [if_neg h,nmayGo_zero]
    constructor
    · intro h2;exact ⟨by omega,by omega,h2⟩
    · intro h2;exact h2.2.2
theorem nfitTo_snoc (ns:List (List Ru)) (k:Nat):nfitTo ns (k+1)=nfitTo ns k ++ [fitT (ns.getD k []) (nmany ns)]:=by
  unfold nfitTo
  rw [List.range_succ,List.map_append]
  rfl
theorem nmany_bd (ns:List (List Ru)):1≤nmany ns∧nmany ns≤8:=by unfold nmany;omega
theorem nfit_length (ns:List (List Ru)):(nfit ns).length=nmany ns:=by simp [nfit,nfitTo]
theorem nfit_each {ns:List (List Ru)} {l:List Ru} (h:l∈nfit ns):∃ t,(t∈ns∨t=[])∧l=fitT t (nmany ns):=by
  obtain ⟨i,hi,rfl⟩:=List.mem_map.1 h
  refine ⟨_,?_,rfl⟩
  rw [List.getD_eq_getElem?_getD]
  cases hx:ns[i]? with
  | none=>exact .inr rfl
  | some t=>exact .inl (List.mem_of_getElem? hx)
theorem nsize_le {ns:List (List Ru)} {b:Nat} (h:∀ l∈ns,l.length≤b):nsize ns≤ns.length * b:=by
  induction ns with
  | nil=>simp [nsize]
  | cons l ls ih =>
    have h1:=ih (fun x hx=>h x (by simp [hx]))
    have h2:=h l (by simp)
    unfold nsize at *
    simp only [List.map_cons,List.sum_cons,List.length_cons,Nat.succ_mul]
    omega
theorem len_le_nsize {ns:List (List Ru)} {l:List Ru} (h:l∈ns):l.length≤nsize ns:=by
  induction ns with
  | nil=>cases h
  | cons x ls ih =>
    unfold nsize at *
    simp only [List.map_cons,List.sum_cons]
    rcases List.mem_cons.1 h with rfl | h
    · omega
    · have:=ih h;omega
end Go.Th
namespace Go.Proofs.YtjandnidljbkoaaGreat
open Go.RowKit Go.Th
def Fits (s:Nat) (n:Int):Prop:=0≤n∧n.toNat < 256 ^ s
theorem put_fit (n:Int) (s:Nat) (w:World) (h1:1≤s) (h2:s≤4) (h:Fits s n):Calls Tryz.prog 91 #[.int .i64 n,.int .i64 s] w (RetRow w s (be n.toNat s) 0) :=
  put_yes n s w h1 h2 h.1 h.2
theorem put_misfit (n:Int) (s:Nat) (w:World) (h1:1≤s) (h2:s≤4) (h:¬ Fits s n):Calls Tryz.prog 91 #[.int .i64 n,.int .i64 s] w (RetNil 1 w):=by
  refine put_out n s w h1 h2 ?_
  by_cases h0:n < 0
  · exact .inl h0
  · right
    have h3:256 ^ s≤n.toNat:=by
      rcases Nat.lt_or_ge n.toNat (256 ^ s) with h4 | h4
      · exact absurd ⟨by omega,h4⟩ h
      · exact h4
    obtain ⟨m,rfl⟩:=Int.eq_ofNat_of_zero_le (by omega:0≤n)
    rw [Int.toNat_natCast] at h3
    have h5:((256 ^ s:Nat):Int)≤(m:Int):=by omega
    rwa [Int.natCast_pow] at h5
def RetNone (er:Int) (w:World) (e:Ending) (w':World):Prop:=e=.returned (.tuple #[.slice none 0 0,.int .i64 er])∧Below w.heap.size w w'
end Go.Proofs.YtjandnidljbkoaaGreat
namespace Go.Th
open Go.RowKit
section
variable {P:Program} {ops:Array Oper} {rest:List Oper} {o:Oper} {a:Act} {Q:Exit→Act→World→Prop} {w:World}
theorem wl_appendA (hw:Region.wanted o (yielded ops a.tmps)=true) (s x:Operand) (t:TypeId)
    (ho:o.op=.call { callee:=.builtin .append,args:=#[s,x],argTypes:=#[t,t] })
    {base E:Nat} {z:Value} {bytes:Nat} (el:El P t E z bytes) {α:Type} {f:α→Value} (hf:∀ x,(f x).oneCell' = true)
    {A:Option Addr} {n c:Nat} (hs:a.eval s=.slice A n c) {xs:List α} (hown:OwS f w base E A n c xs)
    {B:Nat} {A':Option Addr} {m c':Nat} (hx:a.eval x=.slice A' m c') {ys:List α} (hr:RdS f w B A' m c' ys)
    (hbytes:(n+m) * bytes≤140737488355328) (hpos:0 < bytes) (hbase:base≤w.heap.size)
    (h:∀ A'' c'' w',OwS f w' base E A'' (n+m) c'' (xs ++ ys)→w.grownBy w' (rowOf A)→Below base w w'→(A'' = A∨A'' = some ⟨w.heap.size,0,Option.none⟩)→wpList P ops Q rest (a.put o.dst (.slice A'' (n+m) c'')) w'):wpList P ops Q (o :: rest) a w:=by
  obtain ⟨i,hi,hz,hsize,hby⟩:=el.info
  have h63:n+m≤maxLen:=by
    have:=Nat.le_mul_of_pos_right (n+m) hpos
    simp only [maxLen];omega
  obtain ⟨A'',c'',w',hrun,h2,h3,h4⟩:=run_append (P:=P) (ty:=o.type) (c':=c') el.ht hi hz hsize hby (by rw [el.cells];rfl) (by omega) hown.ow (news:=ys.map f) (by rw [List.length_map,hr.len];omega) hr.rd (by
    intro u hu
    obtain ⟨y,_,rfl⟩:=List.mem_map.1 hu
    exact hf y) h63 hbytes hbase
  refine wl_run hw ?_ (h A'' c'' w' ⟨by rw [← List.map_append] at h2;exact h2⟩ h3 ((Below.refl _ _).grown h3 hbase hown.ow.row_ge) h4)
  simp only [execOp,ho,resolve,invoke,builtin,Sem.run_bind,Sem.run_pure,Result.andThen,List.map_toArray,List.map_cons,List.map_nil,hs,hx,hrun]
end
end Go.Th
namespace Go.Proofs.YtjandnidljbkoaaGreat
open Go.RowKit Go.Th
def fcs:Nat→List Value
  | 0=>[.int .i64 4,.func (.func 159) #[] #[],.func (.func 160) #[] #[]]
  | 1=>[.int .i64 1,.func (.func 161) #[] #[],.func (.func 162) #[] #[]]
  | 2=>[.int .i64 1,.func (.func 163) #[] #[],.func (.func 164) #[] #[]]
  | _=>[.int .i64 2,.func (.func 165) #[] #[],.func (.func 166) #[] #[]]
theorem fcs_length:∀ i,(fcs i).length=3
  | 0 | 1 | 2 | _+3=>rfl
theorem fcs_one:∀ i,∀ u∈fcs i,u.oneCell' = true
  | 0 | 1 | 2 | _+3=>by
    intro u hu
    simp only [fcs,List.mem_cons,List.not_mem_nil,or_false] at hu
    rcases hu with rfl | rfl | rfl <;> rfl
theorem info_field:(Tryz.prog.info? 228).map (fun i=>(i.zero,i.size,i.bytes))=some (some (.agg #[.int .i64 0,.nilFunc,.nilFunc]),3,24):=by kernel_rfl
theorem size_field (w:World):(sizeOf 228).run Tryz.prog w=.ok 3 w:=by kernel_rfl
theorem el_field:ElM Tryz.prog 223 228 (.agg #[.int .i64 0,.nilFunc,.nilFunc]) 24 3:=⟨Tryz.underlying223,info_parts info_field,rfl,size_field,by omega⟩
theorem st_field:St Tryz.prog 228 3:=⟨⟨_,Tryz.underlying228⟩,by kernel_rfl⟩
theorem fields_any (w:World):Calls Tryz.prog 142 #[] w fun e w'=>∃ A,e=.returned (.slice A 4 4)∧OwM fcs 3 w' w.heap.size 228 A 4 4 [0,1,2,3]∧Below w.heap.size w w':=by
  go_enter Tryz.func142,Tryz.ntmps142
  go_wp2
  go_ret
  exact ⟨_,rfl,OwM.lit fcs_length w _ 4 (Nat.le_refl _) (by simp [maxLen]) rfl rfl,below_alloc w (Nat.le_refl _) _⟩
theorem get0 (r:Ru) (h:0≤r.a∧r.a≤4294967295) (w:World):Calls Tryz.prog 159 #[.agg #[.int .u32 r.a,.int .i64 r.n,.int .i64 r.act,.int .i64 r.next]] w fun e w'=>e=.returned (.int .i64 r.a)∧Below w.heap.size w w':=by
  obtain ⟨h0,h1⟩:=h
  go_enter Tryz.func159,Tryz.ntmps159
  go_wp2
  go_ret
  exact ⟨rfl,below_alloc w (Nat.le_refl _) _⟩
theorem get1 (r:Ru) (w:World):Calls Tryz.prog 161 #[.agg #[.int .u32 r.a,.int .i64 r.n,.int .i64 r.act,.int .i64 r.next]] w fun e w'=>e=.returned (.int .i64 r.n)∧Below w.heap.size w w':=by
  go_enter Tryz.func161,Tryz.ntmps161
  go_wp2
  go_ret
  exact ⟨rfl,below_alloc w (Nat.le_refl _) _⟩
theorem get2 (r:Ru) (w:World):Calls Tryz.prog 163 #[.agg #[.int .u32 r.a,.int .i64 r.n,.int .i64 r.act,.int .i64 r.next]] w fun e w'=>e=.returned (.int .i64 r.act)∧Below w.heap.size w w':=by
  go_enter Tryz.func163,Tryz.ntmps163
  go_wp2
  go_ret
  exact ⟨rfl,below_alloc w (Nat.le_refl _) _⟩
theorem get3 (r:Ru) (w:World):Calls Tryz.prog 165 #[.agg #[.int .u32 r.a,.int .i64 r.n,.int .i64 r.act,.int .i64 r.next]] w fun e w'=>e=.returned (.int .i64 r.next)∧Below w.heap.size w w':=by
  go_enter Tryz.func165,Tryz.ntmps165
  go_wp2
  go_ret
  exact ⟨rfl,below_alloc w (Nat.le_refl _) _⟩
def gv (r:Ru):Nat→Int
  | 0=>r.a
  | 1=>r.n
  | 2=>r.act
  | _=>r.next
def gs:Nat→Nat
  | 0=>4
  | 1=>1
  | 2=>1
  | _=>2
def Fit1 (r:Ru) (i:Nat):Prop:=0≤gv r i∧gv r i < 256 ^ gs i
def pre (r:Ru):Nat→List UInt8
  | 0=>[]
  | k+1=>pre r k ++ be (gv r k).toNat (gs k)
theorem pre_length (r:Ru):(pre r 4).length=8:=by simp [pre,be_length,gs]
theorem pre_le (r:Ru):∀ k,k≤4→(pre r k).length≤8
  | 0,_=>by simp [pre]
  | 1,_=>by simp [pre,be_length,gs]
  | 2,_=>by simp [pre,be_length,gs]
  | 3,_=>by simp [pre,be_length,gs]
  | 4,_=>by simp [pre,be_length,gs]
  | k+5,h=>by omega
def RetBytes (bs:List UInt8) (er:Int) (w:World) (e:Ending) (w':World):Prop :=
  ∃ A n c,e=.returned (.tuple #[.slice A n c,.int .i64 er])∧OwS bv w' w.heap.size 5 A n c bs∧Below w.heap.size w w'
def PutRel (r:Ru) (base b0 g gt:Nat) (w:World) (all i:Value) (wr:World):Prop :=
  ∃ (k ga n c:Nat),k≤4∧all=.slice (some ⟨ga,0,none⟩) n c∧i=.int .i64 k∧OwS bv wr base 5 (some ⟨ga,0,none⟩) n c (pre r k)∧Hid (ga≠gt)∧n≤8∧Hid (∀ j,j < k→Fit1 r j)∧OwM fcs 3 wr base 228 (some ⟨gt,0,none⟩) 4 4 [0,1,2,3]∧Box wr g 52 r.cs.toArray∧Below b0 w wr
set_option maxHeartbeats 4000000 in
theorem rulePut (r:Ru) (h:0≤r.a∧r.a≤4294967295) (w:World):Calls Tryz.prog 123 #[.agg #[.int .u32 r.a,.int .i64 r.n,.int .i64 r.act,.int .i64 r.next]] w fun e w' =>
    ((∀ j,j < 4→Fit1 r j)→RetBytes (pre r 4) 0 w e w')∧((∃ j,j < 4∧¬ Fit1 r j)→RetBytes [] 1 w e w'):=by
  go_enter Tryz.func123,Tryz.ntmps123
  go_wp2_with ((with_reducible refine on_make ?_);refine wl_make0S rfl _ _ _ rfl el_u8 (f:=bv) (base:=w.heap.size+1) 8 rfl rfl (by omega) (by omega) (by omega) (by simp) ?_;intro g1 w1 hg1 how1 hb1)
  have hg1lt:g1 < w1.heap.size:=by
    rcases how1.ow.form with ⟨e,_⟩ | ⟨g',e,_,hl⟩
    · cases e
    · injection e with e;injection e with e;subst e;exact hl
  have bx:=(Box.new w r.cs.toArray 52).step hb1
  have B1:Below w.heap.size w w1:=(below_alloc w (Nat.le_refl _) _).trans (hb1.mono (by simp))
  have z1:=B1.size
  refine (fields_any w1).mono ?_
  rintro e w2 ⟨At,rfl,how2,hb2⟩
  have bx2:=bx.step hb2
  have how1:=how1.below hb2
  have B2:=B1.trans (hb2.mono z1)
  have hg1':w.heap.size+1≤w1.heap.size:=by have:=hb1.size;simpa using this
  obtain ⟨gt,rfl,hgt1,hgt2⟩:=how2.at0 (by omega)
  have hgt:g1≠gt:=by omega
  have Hgt:=Lib.hid hgt
  have how2:=how2.base_le hg1'
  clear hb1 hb2 bx hgt B1
  go_wp2_with fail
  go_loopw [4,6,7,8,12] (fun all _ _ _ i wr=>PutRel r (w.heap.size+1) w.heap.size w.heap.size gt w all i wr) (fun _ _ _ _ i _=>4 - (intOf i).toNat)
  case atStart=>exact ⟨0,g1,0,8,by omega,rfl,rfl,how1,Hgt,by omega,(fun j hj=>by omega),how2,bx2,B2⟩
  case round =>
    obtain ⟨k,ga,n,c,hk,rfl,rfl,how,hga,hn8,hfit,howt,hbx,hbr⟩:=hrel
    clear how1 how2 bx2 B2
    have zr:=hbr.size
    have hbase:=how.ow.form
    have hzb:w.heap.size+1≤wr.heap.size:=by
      have:=hbx.lt;omega
    by_cases hlt:k < 4
    · go_wp2_with (first
        | ((with_reducible refine on_index (.tmp 10) ?_);refine wm_at fcs_length rfl _ _ _ rfl el_field rfl rfl (by omega) (by omega) howt.rd ?_;intro b1 j1 x1 hx1 hbb1 hc1;have hxk:x1=k:=(by have e:=hx1.out;rw [Int.toNat_natCast] at e;have:k=0∨k=1∨k=2∨k=3:=(by omega);rcases this with h | h | h | h <;> (rw [h] at e;injection e with e;rw [h];exact e.symm));subst hxk)
        | ((with_reducible refine on_load (.tmp 14) ?_);refine wm_load rfl _ (.tmp 14) rfl st_field rfl (fcs_length _) hc1.out ?_)
        | ((with_reducible refine on_store_at (.tmp 6) ?_);refine wb_store rfl _ (.tmp 6) _ rfl st_field rfl rfl (Box.new _ _ _) rfl (by simp [fcs_length]) (by rw [Array.all_eq_true_iff_forall_mem];intro u hu;exact fcs_one _ u (by simpa using hu)) ?_;intro w5 hbx5 hg5))
      have hb5:Below w.heap.size w w5:=(hbr.alloc zr _).trans (below_of_grown hg5 (fun j e=>by injection e with e;omega) (by have:=zr;simp;omega))
      have z5:=hb5.size
      have how:=(how.alloc (.cells #[.int .i64 0,.nilFunc,.nilFunc] 228)).grown hg5 (by
        intro g hg
        rcases how.ow.form with ⟨e,_⟩ | ⟨g',e,_,hl⟩
        · cases e
        · injection e with e;injection e with e;injection hg with hg;injection hg with hg;subst e;subst hg
          intro e2;injection e2 with e2;omega)
      have howt:=(howt.alloc (.cells #[.int .i64 0,.nilFunc,.nilFunc] 228)).grown hg5 (by
        intro g hg
        rcases howt.ow.form with ⟨e,_⟩ | ⟨g',e,_,hl⟩
        · cases e
        · injection e with e;injection e with e;injection hg with hg;injection hg with hg;subst e;subst hg
          intro e2;injection e2 with e2;omega)
      have hbx:=(hbx.alloc (.cells #[.int .i64 0,.nilFunc,.nilFunc] 228)).grown hg5 (fun e=>by injection e with e;have:=hbx.lt;omega)
      have y1:∀ w',Th.Reach w5.heap.size w5.drew w'→Box w' w.heap.size 52 r.cs.toArray:=fun _ hw=>hbx.drew.step hw.below
      have e0:∀ q:Step w5.heap.size w5.drew,q.w.cell? ⟨wr.heap.size,0,none⟩=(fcs x1)[0]?:=fun q=>by simpa using (hbx5.drew.step q.h).cell 0
      have e1:∀ q:Step w5.heap.size w5.drew,q.w.cell? ⟨wr.heap.size,1,none⟩=(fcs x1)[1]?:=fun q=>by simpa using (hbx5.drew.step q.h).cell 1
      clear hbr zr hg5 hbx5 hc1 hx1 hbase hzb
      have hzb5:w.heap.size+1≤w5.heap.size:=by have:=hbx.lt;omega
      have hk4:x1=0∨x1=1∨x1=2∨x1=3:=by omega
      rcases hk4 with rfl | rfl | rfl | rfl
      · have f0:∀ q:Step w5.heap.size w5.drew,q.w.cell? ⟨wr.heap.size,0,none⟩=some (.int .i64 4):=e0
        have f1:∀ q:Step w5.heap.size w5.drew,q.w.cell? ⟨wr.heap.size,1,none⟩=some (.func (.func 159) #[] #[]):=e1
        clear e0 e1
        by_cases hf:0≤r.a∧r.a < 256 ^ 4
        · have Hf:=Lib.hid hf
          clear hf
          refine wp_region_tree (.float 0 3 (.float 4 2 (.one 3 (.one 6 (.float 7 5 .done))))) (Th.Reach w5.heap.size) (Th.Reach.trans _) (Th.Reach.refl _) (by kernel_rfl) (by kernel_rfl) (fun KT hKT=>?_)
          repeat' first
            | ((with_reducible refine wpTree_done ?_);refine hKT _ _ ?_;clear hKT KT)
            | ((with_reducible refine wpTree_float (fun KF hKF=>?_));(simp only [List.drop,List.take]);(repeat (first | go_big_quiet_skip | ((with_reducible refine onq_load (.tmp 1) ?_);refine wqr_box rfl _ (.tmp 1) rfl st_rule rfl y1 ?_) | go_big_quiet_step (fail) | quiet_step (fail)));refine wpQuiet_nil ?_;refine hKF _ ?_;clear hKF KF)
            | ((with_reducible refine wpTree_one (fun KO hKO=>?_));(simp only [List.drop,List.take]);(go_wp2_with (first | (go_at_call 159;refine (get0 r h w5.drew).mono ?_;rintro e w6 ⟨rfl,hb6⟩;have hb6:Below w5.heap.size w5.drew w6:=hb6;have z6:w5.heap.size≤w6.heap.size:=hb6.size) | (go_at_call 91;refine (put_yes r.a 4 w6 (by omega) (by omega) Hf.out.1 (by have:=Hf.out;omega)).mono ?_;rintro e w7 ⟨A7,c7,rfl,how7,hb7⟩;have z7:=hb7.size)));(refine anch_end (Th.Reach.of (by first | exact Below.refl _ _ | exact below_alloc _ (by first | omega | (simp;done) | (simp;omega)) _ | exact below_alloc2 _ (by first | omega | (simp;done) | (simp;omega)) _ _ | exact below_alloc2d _ (by simp) _ _ | exact bdrew _ _ | assumption | (exact Below.mono (by assumption) (by first | (simp;done) | (simp;omega) | omega | assumption)))) (hKO _ _ ?_));clear hKO KO)
          have b57:Below w5.heap.size w5 w7:=(bdrew1 w5).trans (hb6.trans (hb7.mono z6))
          have howg:=how.below b57
          have howtg:=howt.below b57
          have hbxg:=hbx.step b57
          have B7:=hb5.trans (b57.mono z5)
          clear how howt hbx y1 f0 f1
          go_wp2_with ((with_reducible refine on_append (.tmp 29) (.tmp 30) ?_);refine wl_appendA rfl (.tmp 29) (.tmp 30) _ rfl el_u8 (f:=bv) (fun _=>rfl) rfl howg rfl how7.rd (by omega) (by omega) (by omega) ?_;intro A8 c8 w8 how8 hg8 hb8 hA8)
          have hgt7:gt < w7.heap.size:=by
            rcases howtg.ow.form with ⟨e,_⟩ | ⟨g',e,_,hl⟩
            · cases e
            · injection e with e;injection e with e;omega
          have hgab:w.heap.size+1≤ga:=by
            rcases howg.ow.form with ⟨e,_⟩ | ⟨g',e,hb,_⟩
            · cases e
            · injection e with e;injection e with e;omega
          have hne1:∀ g,(some (⟨gt,0,none⟩:Addr))=some ⟨g,0,none⟩→rowOf (some ⟨ga,0,none⟩)≠some g:=fun g hg e=>by
            simp only [rowOf,Option.some.injEq,Addr.mk.injEq,and_true] at hg e
            exact hga.out (by omega)
          have hne2:rowOf (some ⟨ga,0,none⟩)≠some w.heap.size:=fun e=>by
            simp only [rowOf,Option.some.injEq] at e
            omega
          have hga8:∃ ga',A8=some ⟨ga',0,none⟩∧ga'≠gt:=by
            rcases hA8 with e | e
            · exact ⟨_,e,hga.out⟩
            · exact ⟨_,e,by omega⟩
          obtain ⟨ga',rfl,hga'⟩:=hga8
          have Hga':=Lib.hid hga'
          clear hga' hA8
          have hl8:=pre_le r 1 (by omega)
          have e8:pre r 0 ++ be r.a.toNat 4=pre r 1:=rfl
          rw [e8] at how8
          have ln8:=how8.len
          go_roundw
          case rel=>exact ⟨1,ga',_,c8,by omega,rfl,by first | rfl | go_num,how8,Hga',by omega,(fun j hj=>by
            rcases Nat.lt_or_ge j 0 with h | h
            · exact hfit.out j h
            · have:j=0:=by omega
              subst this
              exact Hf.out),howtg.grown hg8 hne1,hbxg.grown hg8 hne2,B7.trans (hb8.mono (by omega))⟩
          case measure=>simp [intOf]
        · have hnf:r.a < 0∨256 ^ 4≤r.a:=by omega
          have Hf:=Lib.hid hf
          have Hnf:=Lib.hid hnf
          clear hf hnf
          refine wp_region_tree (.float 0 3 (.float 4 2 (.one 3 (.one 6 (.float 7 5 .done))))) (Th.Reach w5.heap.size) (Th.Reach.trans _) (Th.Reach.refl _) (by kernel_rfl) (by kernel_rfl) (fun KT hKT=>?_)
          repeat' first
            | ((with_reducible refine wpTree_done ?_);refine hKT _ _ ?_;clear hKT KT)
            | ((with_reducible refine wpTree_float (fun KF hKF=>?_));(simp only [List.drop,List.take]);(repeat (first | go_big_quiet_skip | ((with_reducible refine onq_load (.tmp 1) ?_);refine wqr_box rfl _ (.tmp 1) rfl st_rule rfl y1 ?_) | go_big_quiet_step (fail) | quiet_step (fail)));refine wpQuiet_nil ?_;refine hKF _ ?_;clear hKF KF)
            | ((with_reducible refine wpTree_one (fun KO hKO=>?_));(simp only [List.drop,List.take]);(go_wp2_with (first | (go_at_call 159;refine (get0 r h w5.drew).mono ?_;rintro e w6 ⟨rfl,hb6⟩;have hb6:Below w5.heap.size w5.drew w6:=hb6;have z6:w5.heap.size≤w6.heap.size:=hb6.size) | (go_at_call 91;refine (put_out r.a 4 w6 (by omega) (by omega) Hnf.out).mono ?_;rintro e w7 ⟨rfl,rfl⟩)));(refine anch_end (Th.Reach.of (by first | exact Below.refl _ _ | exact below_alloc _ (by first | omega | (simp;done) | (simp;omega)) _ | exact below_alloc2 _ (by first | omega | (simp;done) | (simp;omega)) _ _ | exact below_alloc2d _ (by simp) _ _ | exact bdrew _ _ | assumption | (exact Below.mono (by assumption) (by first | (simp;done) | (simp;omega) | omega | assumption)))) (hKO _ _ ?_));clear hKO KO)
          have b57:Below w5.heap.size w5 w6:=(bdrew1 w5).trans hb6
          have B7:=hb5.trans (b57.mono z5)
          go_wp2
          go_ret2
          exact ⟨fun hall=>absurd (hall 0 (by omega)) Hf.out,fun _=>⟨none,0,0,rfl,OwS.nil_ _ _ _,B7⟩⟩
      · have f0:∀ q:Step w5.heap.size w5.drew,q.w.cell? ⟨wr.heap.size,0,none⟩=some (.int .i64 1):=e0
        have f1:∀ q:Step w5.heap.size w5.drew,q.w.cell? ⟨wr.heap.size,1,none⟩=some (.func (.func 161) #[] #[]):=e1
        clear e0 e1
        by_cases hf:0≤r.n∧r.n < 256 ^ 1
        · have Hf:=Lib.hid hf
          clear hf
          refine wp_region_tree (.float 0 3 (.float 4 2 (.one 3 (.one 6 (.float 7 5 .done))))) (Th.Reach w5.heap.size) (Th.Reach.trans _) (Th.Reach.refl _) (by kernel_rfl) (by kernel_rfl) (fun KT hKT=>?_)
          repeat' first
            | ((with_reducible refine wpTree_done ?_);refine hKT _ _ ?_;clear hKT KT)
            | ((with_reducible refine wpTree_float (fun KF hKF=>?_));(simp only [List.drop,List.take]);(repeat (first | go_big_quiet_skip | ((with_reducible refine onq_load (.tmp 1) ?_);refine wqr_box rfl _ (.tmp 1) rfl st_rule rfl y1 ?_) | go_big_quiet_step (fail) | quiet_step (fail)));refine wpQuiet_nil ?_;refine hKF _ ?_;clear hKF KF)
            | ((with_reducible refine wpTree_one (fun KO hKO=>?_));(simp only [List.drop,List.take]);(go_wp2_with (first | (go_at_call 161;refine (get1 r w5.drew).mono ?_;rintro e w6 ⟨rfl,hb6⟩;have hb6:Below w5.heap.size w5.drew w6:=hb6;have z6:w5.heap.size≤w6.heap.size:=hb6.size) | (go_at_call 91;refine (put_yes r.n 1 w6 (by omega) (by omega) Hf.out.1 (by have:=Hf.out;omega)).mono ?_;rintro e w7 ⟨A7,c7,rfl,how7,hb7⟩;have z7:=hb7.size)));(refine anch_end (Th.Reach.of (by first | exact Below.refl _ _ | exact below_alloc _ (by first | omega | (simp;done) | (simp;omega)) _ | exact below_alloc2 _ (by first | omega | (simp;done) | (simp;omega)) _ _ | exact below_alloc2d _ (by simp) _ _ | exact bdrew _ _ | assumption | (exact Below.mono (by assumption) (by first | (simp;done) | (simp;omega) | omega | assumption)))) (hKO _ _ ?_));clear hKO KO)
          have b57:Below w5.heap.size w5 w7:=(bdrew1 w5).trans (hb6.trans (hb7.mono z6))
          have howg:=how.below b57
          have howtg:=howt.below b57
          have hbxg:=hbx.step b57
          have B7:=hb5.trans (b57.mono z5)
          clear how howt hbx y1 f0 f1
          go_wp2_with ((with_reducible refine on_append (.tmp 29) (.tmp 30) ?_);refine wl_appendA rfl (.tmp 29) (.tmp 30) _ rfl el_u8 (f:=bv) (fun _=>rfl) rfl howg rfl how7.rd (by omega) (by omega) (by omega) ?_;intro A8 c8 w8 how8 hg8 hb8 hA8)
          have hgt7:gt < w7.heap.size:=by
            rcases howtg.ow.form with ⟨e,_⟩ | ⟨g',e,_,hl⟩
            · cases e
            · injection e with e;injection e with e;omega
          have hgab:w.heap.size+1≤ga:=by
            rcases howg.ow.form with ⟨e,_⟩ | ⟨g',e,hb,_⟩
            · cases e
            · injection e with e;injection e with e;omega
          have hne1:∀ g,(some (⟨gt,0,none⟩:Addr))=some ⟨g,0,none⟩→rowOf (some ⟨ga,0,none⟩)≠some g:=fun g hg e=>by
            simp only [rowOf,Option.some.injEq,Addr.mk.injEq,and_true] at hg e
            exact hga.out (by omega)
          have hne2:rowOf (some ⟨ga,0,none⟩)≠some w.heap.size:=fun e=>by
            simp only [rowOf,Option.some.injEq] at e
            omega
          have hga8:∃ ga',A8=some ⟨ga',0,none⟩∧ga'≠gt:=by
            rcases hA8 with e | e
            · exact ⟨_,e,hga.out⟩
            · exact ⟨_,e,by omega⟩
          obtain ⟨ga',rfl,hga'⟩:=hga8
          have Hga':=Lib.hid hga'
          clear hga' hA8
          have hl8:=pre_le r 2 (by omega)
          have e8:pre r 1 ++ be r.n.toNat 1=pre r 2:=rfl
          rw [e8] at how8
          have ln8:=how8.len
          go_roundw
          case rel=>exact ⟨2,ga',_,c8,by omega,rfl,by first | rfl | go_num,how8,Hga',by omega,(fun j hj=>by
            rcases Nat.lt_or_ge j 1 with h | h
            · exact hfit.out j h
            · have:j=1:=by omega
              subst this
              exact Hf.out),howtg.grown hg8 hne1,hbxg.grown hg8 hne2,B7.trans (hb8.mono (by omega))⟩
          case measure=>simp [intOf]
        · have hnf:r.n < 0∨256 ^ 1≤r.n:=by omega
          have Hf:=Lib.hid hf
          have Hnf:=Lib.hid hnf
          clear hf hnf
          refine wp_region_tree (.float 0 3 (.float 4 2 (.one 3 (.one 6 (.float 7 5 .done))))) (Th.Reach w5.heap.size) (Th.Reach.trans _) (Th.Reach.refl _) (by kernel_rfl) (by kernel_rfl) (fun KT hKT=>?_)
          repeat' first
            | ((with_reducible refine wpTree_done ?_);refine hKT _ _ ?_;clear hKT KT)
            | ((with_reducible refine wpTree_float (fun KF hKF=>?_));(simp only [List.drop,List.take]);(repeat (first | go_big_quiet_skip | ((with_reducible refine onq_load (.tmp 1) ?_);refine wqr_box rfl _ (.tmp 1) rfl st_rule rfl y1 ?_) | go_big_quiet_step (fail) | quiet_step (fail)));refine wpQuiet_nil ?_;refine hKF _ ?_;clear hKF KF)
            | ((with_reducible refine wpTree_one (fun KO hKO=>?_));(simp only [List.drop,List.take]);(go_wp2_with (first | (go_at_call 161;refine (get1 r w5.drew).mono ?_;rintro e w6 ⟨rfl,hb6⟩;have hb6:Below w5.heap.size w5.drew w6:=hb6;have z6:w5.heap.size≤w6.heap.size:=hb6.size) | (go_at_call 91;refine (put_out r.n 1 w6 (by omega) (by omega) Hnf.out).mono ?_;rintro e w7 ⟨rfl,rfl⟩)));(refine anch_end (Th.Reach.of (by first | exact Below.refl _ _ | exact below_alloc _ (by first | omega | (simp;done) | (simp;omega)) _ | exact below_alloc2 _ (by first | omega | (simp;done) | (simp;omega)) _ _ | exact below_alloc2d _ (by simp) _ _ | exact bdrew _ _ | assumption | (exact Below.mono (by assumption) (by first | (simp;done) | (simp;omega) | omega | assumption)))) (hKO _ _ ?_));clear hKO KO)
          have b57:Below w5.heap.size w5 w6:=(bdrew1 w5).trans hb6
          have B7:=hb5.trans (b57.mono z5)
          go_wp2
          go_ret2
          exact ⟨fun hall=>absurd (hall 1 (by omega)) Hf.out,fun _=>⟨none,0,0,rfl,OwS.nil_ _ _ _,B7⟩⟩
      · have f0:∀ q:Step w5.heap.size w5.drew,q.w.cell? ⟨wr.heap.size,0,none⟩=some (.int .i64 1):=e0
        have f1:∀ q:Step w5.heap.size w5.drew,q.w.cell? ⟨wr.heap.size,1,none⟩=some (.func (.func 163) #[] #[]):=e1
        clear e0 e1
        by_cases hf:0≤r.act∧r.act < 256 ^ 1
        · have Hf:=Lib.hid hf
          clear hf
          refine wp_region_tree (.float 0 3 (.float 4 2 (.one 3 (.one 6 (.float 7 5 .done))))) (Th.Reach w5.heap.size) (Th.Reach.trans _) (Th.Reach.refl _) (by kernel_rfl) (by kernel_rfl) (fun KT hKT=>?_)
          repeat' first
            | ((with_reducible refine wpTree_done ?_);refine hKT _ _ ?_;clear hKT KT)
            | ((with_reducible refine wpTree_float (fun KF hKF=>?_));(simp only [List.drop,List.take]);(repeat (first | go_big_quiet_skip | ((with_reducible refine onq_load (.tmp 1) ?_);refine wqr_box rfl _ (.tmp 1) rfl st_rule rfl y1 ?_) | go_big_quiet_step (fail) | quiet_step (fail)));refine wpQuiet_nil ?_;refine hKF _ ?_;clear hKF KF)
            | ((with_reducible refine wpTree_one (fun KO hKO=>?_));(simp only [List.drop,List.take]);(go_wp2_with (first | (go_at_call 163;refine (get2 r w5.drew).mono ?_;rintro e w6 ⟨rfl,hb6⟩;have hb6:Below w5.heap.size w5.drew w6:=hb6;have z6:w5.heap.size≤w6.heap.size:=hb6.size) | (go_at_call 91;refine (put_yes r.act 1 w6 (by omega) (by omega) Hf.out.1 (by have:=Hf.out;omega)).mono ?_;rintro e w7 ⟨A7,c7,rfl,how7,hb7⟩;have z7:=hb7.size)));(refine anch_end (Th.Reach.of (by first | exact Below.refl _ _ | exact below_alloc _ (by first | omega | (simp;done) | (simp;omega)) _ | exact below_alloc2 _ (by first | omega | (simp;done) | (simp;omega)) _ _ | exact below_alloc2d _ (by simp) _ _ | exact bdrew _ _ | assumption | (exact Below.mono (by assumption) (by first | (simp;done) | (simp;omega) | omega | assumption)))) (hKO _ _ ?_));clear hKO KO)
          have b57:Below w5.heap.size w5 w7:=(bdrew1 w5).trans (hb6.trans (hb7.mono z6))
          have howg:=how.below b57
          have howtg:=howt.below b57
          have hbxg:=hbx.step b57
          have B7:=hb5.trans (b57.mono z5)
          clear how howt hbx y1 f0 f1
          go_wp2_with ((with_reducible refine on_append (.tmp 29) (.tmp 30) ?_);refine wl_appendA rfl (.tmp 29) (.tmp 30) _ rfl el_u8 (f:=bv) (fun _=>rfl) rfl howg rfl how7.rd (by omega) (by omega) (by omega) ?_;intro A8 c8 w8 how8 hg8 hb8 hA8)
          have hgt7:gt < w7.heap.size:=by
            rcases howtg.ow.form with ⟨e,_⟩ | ⟨g',e,_,hl⟩
            · cases e
            · injection e with e;injection e with e;omega
          have hgab:w.heap.size+1≤ga:=by
            rcases howg.ow.form with ⟨e,_⟩ | ⟨g',e,hb,_⟩
            · cases e
            · injection e with e;injection e with e;omega
          have hne1:∀ g,(some (⟨gt,0,none⟩:Addr))=some ⟨g,0,none⟩→rowOf (some ⟨ga,0,none⟩)≠some g:=fun g hg e=>by
            simp only [rowOf,Option.some.injEq,Addr.mk.injEq,and_true] at hg e
            exact hga.out (by omega)
          have hne2:rowOf (some ⟨ga,0,none⟩)≠some w.heap.size:=fun e=>by
            simp only [rowOf,Option.some.injEq] at e
            omega
          have hga8:∃ ga',A8=some ⟨ga',0,none⟩∧ga'≠gt:=by
            rcases hA8 with e | e
            · exact ⟨_,e,hga.out⟩
            · exact ⟨_,e,by omega⟩
          obtain ⟨ga',rfl,hga'⟩:=hga8
          have Hga':=Lib.hid hga'
          clear hga' hA8
          have hl8:=pre_le r 3 (by omega)
          have e8:pre r 2 ++ be r.act.toNat 1=pre r 3:=rfl
          rw [e8] at how8
          have ln8:=how8.len
          go_roundw
          case rel=>exact ⟨3,ga',_,c8,by omega,rfl,by first | rfl | go_num,how8,Hga',by omega,(fun j hj=>by
            rcases Nat.lt_or_ge j 2 with h | h
            · exact hfit.out j h
            · have:j=2:=by omega
              subst this
              exact Hf.out),howtg.grown hg8 hne1,hbxg.grown hg8 hne2,B7.trans (hb8.mono (by omega))⟩
          case measure=>simp [intOf]
        · have hnf:r.act < 0∨256 ^ 1≤r.act:=by omega
          have Hf:=Lib.hid hf
          have Hnf:=Lib.hid hnf
          clear hf hnf
          refine wp_region_tree (.float 0 3 (.float 4 2 (.one 3 (.one 6 (.float 7 5 .done))))) (Th.Reach w5.heap.size) (Th.Reach.trans _) (Th.Reach.refl _) (by kernel_rfl) (by kernel_rfl) (fun KT hKT=>?_)
          repeat' first
            | ((with_reducible refine wpTree_done ?_);refine hKT _ _ ?_;clear hKT KT)
            | ((with_reducible refine wpTree_float (fun KF hKF=>?_));(simp only [List.drop,List.take]);(repeat (first | go_big_quiet_skip | ((with_reducible refine onq_load (.tmp 1) ?_);refine wqr_box rfl _ (.tmp 1) rfl st_rule rfl y1 ?_) | go_big_quiet_step (fail) | quiet_step (fail)));refine wpQuiet_nil ?_;refine hKF _ ?_;clear hKF KF)
            | ((with_reducible refine wpTree_one (fun KO hKO=>?_));(simp only [List.drop,List.take]);(go_wp2_with (first | (go_at_call 163;refine (get2 r w5.drew).mono ?_;rintro e w6 ⟨rfl,hb6⟩;have hb6:Below w5.heap.size w5.drew w6:=hb6;have z6:w5.heap.size≤w6.heap.size:=hb6.size) | (go_at_call 91;refine (put_out r.act 1 w6 (by omega) (by omega) Hnf.out).mono ?_;rintro e w7 ⟨rfl,rfl⟩)));(refine anch_end (Th.Reach.of (by first | exact Below.refl _ _ | exact below_alloc _ (by first | omega | (simp;done) | (simp;omega)) _ | exact below_alloc2 _ (by first | omega | (simp;done) | (simp;omega)) _ _ | exact below_alloc2d _ (by simp) _ _ | exact bdrew _ _ | assumption | (exact Below.mono (by assumption) (by first | (simp;done) | (simp;omega) | omega | assumption)))) (hKO _ _ ?_));clear hKO KO)
          have b57:Below w5.heap.size w5 w6:=(bdrew1 w5).trans hb6
          have B7:=hb5.trans (b57.mono z5)
          go_wp2
          go_ret2
          exact ⟨fun hall=>absurd (hall 2 (by omega)) Hf.out,fun _=>⟨none,0,0,rfl,OwS.nil_ _ _ _,B7⟩⟩
      · have f0:∀ q:Step w5.heap.size w5.drew,q.w.cell? ⟨wr.heap.size,0,none⟩=some (.int .i64 2):=e0
        have f1:∀ q:Step w5.heap.size w5.drew,q.w.cell? ⟨wr.heap.size,1,none⟩=some (.func (.func 165) #[] #[]):=e1
        clear e0 e1
        by_cases hf:0≤r.next∧r.next < 256 ^ 2
        · have Hf:=Lib.hid hf
          clear hf
          refine wp_region_tree (.float 0 3 (.float 4 2 (.one 3 (.one 6 (.float 7 5 .done))))) (Th.Reach w5.heap.size) (Th.Reach.trans _) (Th.Reach.refl _) (by kernel_rfl) (by kernel_rfl) (fun KT hKT=>?_)
          repeat' first
            | ((with_reducible refine wpTree_done ?_);refine hKT _ _ ?_;clear hKT KT)
            | ((with_reducible refine wpTree_float (fun KF hKF=>?_));(simp only [List.drop,List.take]);(repeat (first | go_big_quiet_skip | ((with_reducible refine onq_load (.tmp 1) ?_);refine wqr_box rfl _ (.tmp 1) rfl st_rule rfl y1 ?_) | go_big_quiet_step (fail) | quiet_step (fail)));refine wpQuiet_nil ?_;refine hKF _ ?_;clear hKF KF)
            | ((with_reducible refine wpTree_one (fun KO hKO=>?_));(simp only [List.drop,List.take]);(go_wp2_with (first | (go_at_call 165;refine (get3 r w5.drew).mono ?_;rintro e w6 ⟨rfl,hb6⟩;have hb6:Below w5.heap.size w5.drew w6:=hb6;have z6:w5.heap.size≤w6.heap.size:=hb6.size) | (go_at_call 91;refine (put_yes r.next 2 w6 (by omega) (by omega) Hf.out.1 (by have:=Hf.out;omega)).mono ?_;rintro e w7 ⟨A7,c7,rfl,how7,hb7⟩;have z7:=hb7.size)));(refine anch_end (Th.Reach.of (by first | exact Below.refl _ _ | exact below_alloc _ (by first | omega | (simp;done) | (simp;omega)) _ | exact below_alloc2 _ (by first | omega | (simp;done) | (simp;omega)) _ _ | exact below_alloc2d _ (by simp) _ _ | exact bdrew _ _ | assumption | (exact Below.mono (by assumption) (by first | (simp;done) | (simp;omega) | omega | assumption)))) (hKO _ _ ?_));clear hKO KO)
          have b57:Below w5.heap.size w5 w7:=(bdrew1 w5).trans (hb6.trans (hb7.mono z6))
          have howg:=how.below b57
          have howtg:=howt.below b57
          have hbxg:=hbx.step b57
          have B7:=hb5.trans (b57.mono z5)
          clear how howt hbx y1 f0 f1
          go_wp2_with ((with_reducible refine on_append (.tmp 29) (.tmp 30) ?_);refine wl_appendA rfl (.tmp 29) (.tmp 30) _ rfl el_u8 (f:=bv) (fun _=>rfl) rfl howg rfl how7.rd (by omega) (by omega) (by omega) ?_;intro A8 c8 w8 how8 hg8 hb8 hA8)
          have hgt7:gt < w7.heap.size:=by
            rcases howtg.ow.form with ⟨e,_⟩ | ⟨g',e,_,hl⟩
            · cases e
            · injection e with e;injection e with e;omega
          have hgab:w.heap.size+1≤ga:=by
            rcases howg.ow.form with ⟨e,_⟩ | ⟨g',e,hb,_⟩
            · cases e
            · injection e with e;injection e with e;omega
          have hne1:∀ g,(some (⟨gt,0,none⟩:Addr))=some ⟨g,0,none⟩→rowOf (some ⟨ga,0,none⟩)≠some g:=fun g hg e=>by
            simp only [rowOf,Option.some.injEq,Addr.mk.injEq,and_true] at hg e
            exact hga.out (by omega)
          have hne2:rowOf (some ⟨ga,0,none⟩)≠some w.heap.size:=fun e=>by
            simp only [rowOf,Option.some.injEq] at e
            omega
          have hga8:∃ ga',A8=some ⟨ga',0,none⟩∧ga'≠gt:=by
            rcases hA8 with e | e
            · exact ⟨_,e,hga.out⟩
            · exact ⟨_,e,by omega⟩
          obtain ⟨ga',rfl,hga'⟩:=hga8
          have Hga':=Lib.hid hga'
          clear hga' hA8
          have hl8:=pre_le r 4 (by omega)
          have e8:pre r 3 ++ be r.next.toNat 2=pre r 4:=rfl
          rw [e8] at how8
          have ln8:=how8.len
          go_roundw
          case rel=>exact ⟨4,ga',_,c8,by omega,rfl,by first | rfl | go_num,how8,Hga',by omega,(fun j hj=>by
            rcases Nat.lt_or_ge j 3 with h | h
            · exact hfit.out j h
            · have:j=3:=by omega
              subst this
              exact Hf.out),howtg.grown hg8 hne1,hbxg.grown hg8 hne2,B7.trans (hb8.mono (by omega))⟩
          case measure=>simp [intOf]
        · have hnf:r.next < 0∨256 ^ 2≤r.next:=by omega
          have Hf:=Lib.hid hf
          have Hnf:=Lib.hid hnf
          clear hf hnf
          refine wp_region_tree (.float 0 3 (.float 4 2 (.one 3 (.one 6 (.float 7 5 .done))))) (Th.Reach w5.heap.size) (Th.Reach.trans _) (Th.Reach.refl _) (by kernel_rfl) (by kernel_rfl) (fun KT hKT=>?_)
          repeat' first
            | ((with_reducible refine wpTree_done ?_);refine hKT _ _ ?_;clear hKT KT)
            | ((with_reducible refine wpTree_float (fun KF hKF=>?_));(simp only [List.drop,List.take]);(repeat (first | go_big_quiet_skip | ((with_reducible refine onq_load (.tmp 1) ?_);refine wqr_box rfl _ (.tmp 1) rfl st_rule rfl y1 ?_) | go_big_quiet_step (fail) | quiet_step (fail)));refine wpQuiet_nil ?_;refine hKF _ ?_;clear hKF KF)
            | ((with_reducible refine wpTree_one (fun KO hKO=>?_));(simp only [List.drop,List.take]);(go_wp2_with (first | (go_at_call 165;refine (get3 r w5.drew).mono ?_;rintro e w6 ⟨rfl,hb6⟩;have hb6:Below w5.heap.size w5.drew w6:=hb6;have z6:w5.heap.size≤w6.heap.size:=hb6.size) | (go_at_call 91;refine (put_out r.next 2 w6 (by omega) (by omega) Hnf.out).mono ?_;rintro e w7 ⟨rfl,rfl⟩)));(refine anch_end (Th.Reach.of (by first | exact Below.refl _ _ | exact below_alloc _ (by first | omega | (simp;done) | (simp;omega)) _ | exact below_alloc2 _ (by first | omega | (simp;done) | (simp;omega)) _ _ | exact below_alloc2d _ (by simp) _ _ | exact bdrew _ _ | assumption | (exact Below.mono (by assumption) (by first | (simp;done) | (simp;omega) | omega | assumption)))) (hKO _ _ ?_));clear hKO KO)
          have b57:Below w5.heap.size w5 w6:=(bdrew1 w5).trans hb6
          have B7:=hb5.trans (b57.mono z5)
          go_wp2
          go_ret2
          exact ⟨fun hall=>absurd (hall 3 (by omega)) Hf.out,fun _=>⟨none,0,0,rfl,OwS.nil_ _ _ _,B7⟩⟩
    · have e4:k=4:=by omega
      subst e4
      go_wp2
      go_ret2
      exact ⟨fun _=>⟨_,n,c,rfl,how.base_le (by omega),hbr⟩,fun ⟨j,hj,hn⟩=>absurd (hfit.out j hj) hn⟩
open Go.RowKit Go.Th
theorem set0 (g:Nat) (r:Ru) (z:Int) (hz:0≤z∧z≤4294967295) (w:World) (hb:Box w g 52 r.cs.toArray) :
    Calls Tryz.prog 160 #[.pointer (some ⟨g,0,none⟩),.int .i64 z] w fun e w'=>e=.returned (.tuple #[])∧Box w' g 52 (Ru.cs { r with a:=z }).toArray∧w.grownBy w' (some g):=by
  obtain ⟨hz0,hz1⟩:=hz
  obtain ⟨c0,c1,c2,c3⟩:=hb.rule
  have f0:=hb.frozen 0
  have hs:=hb.setCell 0 (.int .u32 z)
  go_enter Tryz.func160,Tryz.ntmps160
  go_wp2
  go_end0
  exact ⟨rfl,hs.1,hs.2⟩
theorem set1 (g:Nat) (r:Ru) (z:Int) (w:World) (hb:Box w g 52 r.cs.toArray) :
    Calls Tryz.prog 162 #[.pointer (some ⟨g,0,none⟩),.int .i64 z] w fun e w'=>e=.returned (.tuple #[])∧Box w' g 52 (Ru.cs { r with n:=z }).toArray∧w.grownBy w' (some g):=by
  obtain ⟨c0,c1,c2,c3⟩:=hb.rule
  have f0:=hb.frozen 1
  have hs:=hb.setCell 1 (.int .i64 z)
  go_enter Tryz.func162,Tryz.ntmps162
  go_wp2
  go_end0
  exact ⟨rfl,hs.1,hs.2⟩
theorem set2 (g:Nat) (r:Ru) (z:Int) (w:World) (hb:Box w g 52 r.cs.toArray) :
    Calls Tryz.prog 164 #[.pointer (some ⟨g,0,none⟩),.int .i64 z] w fun e w'=>e=.returned (.tuple #[])∧Box w' g 52 (Ru.cs { r with act:=z }).toArray∧w.grownBy w' (some g):=by
  obtain ⟨c0,c1,c2,c3⟩:=hb.rule
  have f0:=hb.frozen 2
  have hs:=hb.setCell 2 (.int .i64 z)
  go_enter Tryz.func164,Tryz.ntmps164
  go_wp2
  go_end0
  exact ⟨rfl,hs.1,hs.2⟩
theorem set3 (g:Nat) (r:Ru) (z:Int) (w:World) (hb:Box w g 52 r.cs.toArray) :
    Calls Tryz.prog 166 #[.pointer (some ⟨g,0,none⟩),.int .i64 z] w fun e w'=>e=.returned (.tuple #[])∧Box w' g 52 (Ru.cs { r with next:=z }).toArray∧w.grownBy w' (some g):=by
  obtain ⟨c0,c1,c2,c3⟩:=hb.rule
  have f0:=hb.frozen 3
  have hs:=hb.setCell 3 (.int .i64 z)
  go_enter Tryz.func166,Tryz.ntmps166
  go_wp2
  go_end0
  exact ⟨rfl,hs.1,hs.2⟩
def rtk (bs:List UInt8):Ru:=⟨val (bs.take 4),val ((bs.drop 4).take 1),val ((bs.drop 5).take 1),val ((bs.drop 6).take 2)⟩
def off:Nat→Nat
  | 0=>0
  | 1=>4
  | 2=>5
  | 3=>6
  | _=>8
def stage (bs:List UInt8):Nat→Ru
  | 0=>⟨0,0,0,0⟩
  | 1=>⟨val (bs.take 4),0,0,0⟩
  | 2=>⟨val (bs.take 4),val ((bs.drop 4).take 1),0,0⟩
  | 3=>⟨val (bs.take 4),val ((bs.drop 4).take 1),val ((bs.drop 5).take 1),0⟩
  | _=>rtk bs
def TakRel (bs:List UInt8) (N B b0 g gt:Nat) (w:World) (b i:Value) (wr:World):Prop :=
  ∃ (k:Nat) (A:Option Addr) (n c:Nat),k≤4∧n+off k=N∧b=.slice A n c∧i=.int .i64 k∧RdS bv wr B A n c (bs.drop (off k))∧OwM fcs 3 wr (w.heap.size+1) 228 (some ⟨gt,0,none⟩) 4 4 [0,1,2,3]∧Box wr g 52 (stage bs k).cs.toArray∧Below b0 w wr
def RetRu (r:Ru) (er:Int) (w:World) (e:Ending) (w':World):Prop :=
  e=.returned (.tuple #[.agg #[.int .u32 r.a,.int .i64 r.n,.int .i64 r.act,.int .i64 r.next],.int .i64 er])∧Below w.heap.size w w'
set_option maxHeartbeats 4000000 in
theorem ruleTake_short (A:Option Addr) (n c:Nat) (w:World) (h:n < 8):Calls Tryz.prog 129 #[.slice A n c] w (RetRu ⟨0,0,0,0⟩ 2 w):=by
  have hi:decide ((n:Int) < 8)=true:=decide_eq_true (by omega)
  go_enter Tryz.func129,Tryz.ntmps129
  go_wp2_with ((with_reducible refine on_store_at (.tmp 2) ?_);refine wb_store rfl _ (.tmp 2) _ rfl st_rule rfl rfl (Box.new w _ _) rfl rfl (by simp [Value.oneCell']) ?_;intro w1 hbx1 hg1)
  have B1:Below w.heap.size w w1:=(below_alloc w (Nat.le_refl _) _).trans (below_of_grown hg1 (fun j e=>by injection e with e;omega) (by simp))
  have hld:=run_loadVar_row (P:=Tryz.prog) w1 w.heap.size 52 52 _ (0,0) _ hbx1.at_ Tryz.underlying52 rfl st_rule.size
  refine bodyPost_ret (v:=.tuple #[.agg #[.int .u32 0,.int .i64 0,.int .i64 0,.int .i64 0],.int .i64 2]) ?_ rfl ⟨rfl,B1⟩
  rw [results_cell_tmp rfl]
  simp [asAddr,hld]
set_option maxHeartbeats 4000000 in
theorem ruleTake (A:Option Addr) (N c:Nat) (w:World) (bs:List UInt8) (hr:RdS bv w w.heap.size A N c bs) (h8:8≤N) (hm:N≤1000000):Calls Tryz.prog 129 #[.slice A N c] w (RetRu (rtk bs) 0 w):=by
  have hi:decide ((N:Int) < 8)=false:=decide_eq_false (by omega)
  have hlen:=hr.len
  go_enter Tryz.func129,Tryz.ntmps129
  go_wp2_with fail
  have bx:=Box.new w (Ru.cs ⟨0,0,0,0⟩).toArray 52
  refine (fields_any _).mono ?_
  rintro e w2 ⟨At,rfl,how2,hb2⟩
  have hk1:=heap_size_alloc w (.cells (Ru.cs ⟨0,0,0,0⟩).toArray 52)
  have hb2:Below (w.alloc (.cells (Ru.cs ⟨0,0,0,0⟩).toArray 52)).heap.size (w.alloc (.cells (Ru.cs ⟨0,0,0,0⟩).toArray 52)) w2:=hb2
  have bx2:=bx.step hb2
  have hr2:=(hr.step (below_alloc w (Nat.le_refl _) (.cells (Ru.cs ⟨0,0,0,0⟩).toArray 52))).step hb2
  have B2:Below w.heap.size w w2:=(below_alloc w (Nat.le_refl _) _).trans (hb2.mono (by omega))
  obtain ⟨gt,rfl,hgt1,hgt2⟩:=how2.at0 (by omega)
  have how2:=how2.base_le (base':=w.heap.size+1) (by have:(w.alloc (.cells (Ru.cs ⟨0,0,0,0⟩).toArray 52)).heap.size=w.heap.size+1:=hk1;exact Nat.le_of_eq this.symm)
  clear hb2 bx hk1 hr
  go_wp2_with fail
  go_loopw [0,5,6,7,14] (fun b _ _ _ i wr=>TakRel bs N w.heap.size w.heap.size w.heap.size gt w b i wr) (fun _ _ _ _ i _=>4 - (intOf i).toNat)
  case atStart=>exact ⟨0,A,N,c,by omega,rfl,rfl,rfl,hr2,how2,bx2,B2⟩
  case round =>
    obtain ⟨k,A,n,c,hk,hno,rfl,rfl,hrd,howt,hbx,hbr⟩:=hrel
    clear how2 bx2 B2 hr2
    have zr:=hbr.size
    by_cases hlt:k < 4
    · go_upto_region 6 with (first
        | ((with_reducible refine on_index (.tmp 12) ?_);refine wm_at fcs_length rfl _ _ _ rfl el_field rfl rfl (by omega) (by omega) howt.rd ?_;intro b1 j1 x1 hx1 hbb1 hc1;have hxk:x1=k:=(by have e:=hx1.out;rw [Int.toNat_natCast] at e;have:k=0∨k=1∨k=2∨k=3:=(by omega);rcases this with h | h | h | h <;> (rw [h] at e;injection e with e;rw [h];exact e.symm));subst hxk)
        | ((with_reducible refine on_load (.tmp 16) ?_);refine wm_load rfl _ (.tmp 16) rfl st_field rfl (fcs_length _) hc1.out ?_)
        | ((with_reducible refine on_store_at (.tmp 5) ?_);refine wb_store rfl _ (.tmp 5) _ rfl st_field rfl rfl (Box.new _ _ _) rfl (by simp [fcs_length]) (by rw [Array.all_eq_true_iff_forall_mem];intro u hu;exact fcs_one _ u (by simpa using hu)) ?_;intro w5 hbx5 hg5))
      have hb5:Below w.heap.size w w5:=(hbr.alloc zr _).trans (below_of_grown hg5 (fun j e=>by injection e with e;omega) (by have:=zr;simp;omega))
      have z5:=hb5.size
      have howt:=(howt.alloc (.cells #[.int .i64 0,.nilFunc,.nilFunc] 228)).grown hg5 (by
        intro g hg
        rcases howt.ow.form with ⟨e,_⟩ | ⟨g',e,_,hl⟩
        · cases e
        · injection e with e;injection e with e;injection hg with hg;injection hg with hg;subst e;subst hg
          intro e2;injection e2 with e2;omega)
      have hgl:=hbx.lt
      have hbx:=(hbx.alloc (.cells #[.int .i64 0,.nilFunc,.nilFunc] 228)).grown hg5 (fun e=>by injection e with e;omega)
      have hrd:=(hrd.alloc (.cells #[.int .i64 0,.nilFunc,.nilFunc] 228)).grown hg5 (fun g e=>by injection e with e;omega)
      have e0:w5.cell? ⟨wr.heap.size,0,none⟩=(fcs x1)[0]?:=by simpa using hbx5.cell 0
      have e2:w5.cell? ⟨wr.heap.size,2,none⟩=(fcs x1)[2]?:=by simpa using hbx5.cell 2
      have hgt5:gt≠w.heap.size:=by
        rcases howt.ow.form with ⟨e,_⟩ | ⟨g',e,hb,hl⟩
        · cases e
        · injection e with e;injection e with e;omega
      have Hgt:=Lib.hid hgt5
      have hne0:w.heap.size≠wr.heap.size:=by omega
      have Hne0:=Lib.hid hne0
      clear hbr hg5 hc1 hx1 hgt5 hne0
      have hk4:x1=0∨x1=1∨x1=2∨x1=3:=by omega
      rcases hk4 with rfl | rfl | rfl | rfl
      · have f0:w5.cell? ⟨wr.heap.size,0,none⟩=some (.int .i64 4):=e0
        have f2:w5.cell? ⟨wr.heap.size,2,none⟩=some (.func (.func 160) #[] #[]):=e2
        clear e0 e2
        have hn0:n+0=N:=hno
        have hrd:RdS bv w5 w.heap.size A n c (bs.drop 0):=hrd
        go_wp2_with fail
        refine (take_yes A n c 4 w5 (by omega) (by omega) (by omega) (by omega) _ _ hrd).mono ?_
        rintro e w6 ⟨rfl,rfl⟩
        obtain ⟨vz,hvz⟩:∃ z,val ((bs.drop 0).take 4)=z:=⟨_,rfl⟩
        have hlt4:vz < 4294967296:=by
          have:=val_lt ((bs.drop 0).take 4)
          rw [hvz] at this
          have hl:((bs.drop 0).take 4).length=4:=by rw [List.length_take,List.length_drop];omega
          rw [hl] at this
          omega
        rw [hvz]
        go_wp2_with fail
        refine (set0 w.heap.size _ (vz:Int) ⟨by omega,by omega⟩ w5 hbx).mono ?_
        rintro e w8 ⟨rfl,hbx8,hg8⟩
        have f08:w8.cell? ⟨wr.heap.size,0,none⟩=some (.int .i64 4):=((hbx5.grown hg8 (fun e=>by injection e with e;exact Hne0.out e)).cell 0).trans (by simp [fcs])
        have hrd8:=hrd.grown hg8 (fun g e=>by injection e with e;omega)
        have howt8:=howt.grown hg8 (fun g hg e=>by
          simp only [Option.some.injEq,Addr.mk.injEq,and_true] at hg e
          exact Hgt.out (by omega))
        have hb8:=hb5.trans (below_of_grown hg8 (fun j e=>by injection e with e;omega) z5)
        have hst:({ stage bs 0 with a:=(vz:Int) }:Ru)=stage bs 1:=by
          rw [← hvz];rfl
        rw [hst] at hbx8
        have hdd:(bs.drop 0).drop 4=bs.drop 4:=by rw [List.drop_drop]
        clear howt hbx f0 f2
        go_wp2_with ((with_reducible refine on_slice (.tmp 33) ?_);refine wl_cut_l rfl _ (.tmp 33) el_u8 rfl hrd8 _ rfl rfl 4 (by omega) ?_;intro A9 r9;rw [hdd] at r9)
        go_roundw
        case rel=>exact ⟨1,A9,_,_,by omega,by show _+4=N;omega,rfl,by first | rfl | go_num,r9,howt8,hbx8,hb8⟩
        case measure=>simp [intOf]
      · have f0:w5.cell? ⟨wr.heap.size,0,none⟩=some (.int .i64 1):=e0
        have f2:w5.cell? ⟨wr.heap.size,2,none⟩=some (.func (.func 162) #[] #[]):=e2
        clear e0 e2
        have hn1:n+4=N:=hno
        have hrd:RdS bv w5 w.heap.size A n c (bs.drop 4):=hrd
        go_wp2_with fail
        refine (take_yes A n c 1 w5 (by omega) (by omega) (by omega) (by omega) _ _ hrd).mono ?_
        rintro e w6 ⟨rfl,rfl⟩
        obtain ⟨vz,hvz⟩:∃ z,val ((bs.drop 4).take 1)=z:=⟨_,rfl⟩
        have hlt4:vz < 4294967296:=by
          have:=val_lt ((bs.drop 4).take 1)
          rw [hvz] at this
          have hl:((bs.drop 4).take 1).length=1:=by rw [List.length_take,List.length_drop];omega
          rw [hl] at this
          omega
        rw [hvz]
        go_wp2_with fail
        refine (set1 w.heap.size _ (vz:Int) w5 hbx).mono ?_
        rintro e w8 ⟨rfl,hbx8,hg8⟩
        have f08:w8.cell? ⟨wr.heap.size,0,none⟩=some (.int .i64 1):=((hbx5.grown hg8 (fun e=>by injection e with e;exact Hne0.out e)).cell 0).trans (by simp [fcs])
        have hrd8:=hrd.grown hg8 (fun g e=>by injection e with e;omega)
        have howt8:=howt.grown hg8 (fun g hg e=>by
          simp only [Option.some.injEq,Addr.mk.injEq,and_true] at hg e
          exact Hgt.out (by omega))
        have hb8:=hb5.trans (below_of_grown hg8 (fun j e=>by injection e with e;omega) z5)
        have hst:({ stage bs 1 with n:=(vz:Int) }:Ru)=stage bs 2:=by
          rw [← hvz];rfl
        rw [hst] at hbx8
        have hdd:(bs.drop 4).drop 1=bs.drop 5:=by rw [List.drop_drop]
        clear howt hbx f0 f2
        go_wp2_with ((with_reducible refine on_slice (.tmp 33) ?_);refine wl_cut_l rfl _ (.tmp 33) el_u8 rfl hrd8 _ rfl rfl 1 (by omega) ?_;intro A9 r9;rw [hdd] at r9)
        go_roundw
        case rel=>exact ⟨2,A9,_,_,by omega,by show _+5=N;omega,rfl,by first | rfl | go_num,r9,howt8,hbx8,hb8⟩
        case measure=>simp [intOf]
      · have f0:w5.cell? ⟨wr.heap.size,0,none⟩=some (.int .i64 1):=e0
        have f2:w5.cell? ⟨wr.heap.size,2,none⟩=some (.func (.func 164) #[] #[]):=e2
        clear e0 e2
        have hn2:n+5=N:=hno
        have hrd:RdS bv w5 w.heap.size A n c (bs.drop 5):=hrd
        go_wp2_with fail
        refine (take_yes A n c 1 w5 (by omega) (by omega) (by omega) (by omega) _ _ hrd).mono ?_
        rintro e w6 ⟨rfl,rfl⟩
        obtain ⟨vz,hvz⟩:∃ z,val ((bs.drop 5).take 1)=z:=⟨_,rfl⟩
        have hlt4:vz < 4294967296:=by
          have:=val_lt ((bs.drop 5).take 1)
          rw [hvz] at this
          have hl:((bs.drop 5).take 1).length=1:=by rw [List.length_take,List.length_drop];omega
          rw [hl] at this
          omega
        rw [hvz]
        go_wp2_with fail
        refine (set2 w.heap.size _ (vz:Int) w5 hbx).mono ?_
        rintro e w8 ⟨rfl,hbx8,hg8⟩
        have f08:w8.cell? ⟨wr.heap.size,0,none⟩=some (.int .i64 1):=((hbx5.grown hg8 (fun e=>by injection e with e;exact Hne0.out e)).cell 0).trans (by simp [fcs])
        have hrd8:=hrd.grown hg8 (fun g e=>by injection e with e;omega)
        have howt8:=howt.grown hg8 (fun g hg e=>by
          simp only [Option.some.injEq,Addr.mk.injEq,and_true] at hg e
          exact Hgt.out (by omega))
        have hb8:=hb5.trans (below_of_grown hg8 (fun j e=>by injection e with e;omega) z5)
        have hst:({ stage bs 2 with act:=(vz:Int) }:Ru)=stage bs 3:=by
          rw [← hvz];rfl
        rw [hst] at hbx8
        have hdd:(bs.drop 5).drop 1=bs.drop 6:=by rw [List.drop_drop]
        clear howt hbx f0 f2
        go_wp2_with ((with_reducible refine on_slice (.tmp 33) ?_);refine wl_cut_l rfl _ (.tmp 33) el_u8 rfl hrd8 _ rfl rfl 1 (by omega) ?_;intro A9 r9;rw [hdd] at r9)
        go_roundw
        case rel=>exact ⟨3,A9,_,_,by omega,by show _+6=N;omega,rfl,by first | rfl | go_num,r9,howt8,hbx8,hb8⟩
        case measure=>simp [intOf]
      · have f0:w5.cell? ⟨wr.heap.size,0,none⟩=some (.int .i64 2):=e0
        have f2:w5.cell? ⟨wr.heap.size,2,none⟩=some (.func (.func 166) #[] #[]):=e2
        clear e0 e2
        have hn3:n+6=N:=hno
        have hrd:RdS bv w5 w.heap.size A n c (bs.drop 6):=hrd
        go_wp2_with fail
        refine (take_yes A n c 2 w5 (by omega) (by omega) (by omega) (by omega) _ _ hrd).mono ?_
        rintro e w6 ⟨rfl,rfl⟩
        obtain ⟨vz,hvz⟩:∃ z,val ((bs.drop 6).take 2)=z:=⟨_,rfl⟩
        have hlt4:vz < 4294967296:=by
          have:=val_lt ((bs.drop 6).take 2)
          rw [hvz] at this
          have hl:((bs.drop 6).take 2).length=2:=by rw [List.length_take,List.length_drop];omega
          rw [hl] at this
          omega
        rw [hvz]
        go_wp2_with fail
        refine (set3 w.heap.size _ (vz:Int) w5 hbx).mono ?_
        rintro e w8 ⟨rfl,hbx8,hg8⟩
        have f08:w8.cell? ⟨wr.heap.size,0,none⟩=some (.int .i64 2):=((hbx5.grown hg8 (fun e=>by injection e with e;exact Hne0.out e)).cell 0).trans (by simp [fcs])
        have hrd8:=hrd.grown hg8 (fun g e=>by injection e with e;omega)
        have howt8:=howt.grown hg8 (fun g hg e=>by
          simp only [Option.some.injEq,Addr.mk.injEq,and_true] at hg e
          exact Hgt.out (by omega))
        have hb8:=hb5.trans (below_of_grown hg8 (fun j e=>by injection e with e;omega) z5)
        have hst:({ stage bs 3 with next:=(vz:Int) }:Ru)=stage bs 4:=by
          rw [← hvz];rfl
        rw [hst] at hbx8
        have hdd:(bs.drop 6).drop 2=bs.drop 8:=by rw [List.drop_drop]
        clear howt hbx f0 f2
        go_wp2_with ((with_reducible refine on_slice (.tmp 33) ?_);refine wl_cut_l rfl _ (.tmp 33) el_u8 rfl hrd8 _ rfl rfl 2 (by omega) ?_;intro A9 r9;rw [hdd] at r9)
        go_roundw
        case rel=>exact ⟨4,A9,_,_,by omega,by show _+8=N;omega,rfl,by first | rfl | go_num,r9,howt8,hbx8,hb8⟩
        case measure=>simp [intOf]
    · have e4:k=4:=by omega
      subst e4
      have hbx:Box wr w.heap.size 52 (rtk bs).cs.toArray:=hbx
      go_wp2_with (first
        | ((with_reducible refine on_load (.tmp 2) ?_);refine wr_box rfl _ (.tmp 2) rfl st_rule rfl hbx ?_)
        | ((with_reducible refine on_store_at (.tmp 2) ?_);refine wr_store (s:=rtk bs) rfl _ (.tmp 2) _ rfl st_rule rfl rfl hbx ?_;intro w9 hbx9 hg9))
      have hb9:=hbr.trans (below_of_grown hg9 (fun j e=>by injection e with e;omega) zr)
      have hld:=run_loadVar_row (P:=Tryz.prog) w9 w.heap.size 52 52 _ (0,0) _ hbx9.at_ Tryz.underlying52 rfl st_rule.size
      refine bodyPost_ret (v:=.tuple #[.agg (rtk bs).cs.toArray,.int .i64 0]) ?_ rfl ⟨rfl,hb9⟩
      rw [results_cell_tmp rfl]
      simp [asAddr,hld]
end Go.Proofs.YtjandnidljbkoaaGreat
namespace Go.Th
theorem Ru.fit_may (r:Ru) (nodes:Int) (hn:1≤nodes) (_h:r.Ok):(r.fit nodes).may nodes=0:=by
  have hp:pmay (r.fit nodes).a (r.fit nodes).n=0:=by
    unfold pmay
    rw [if_neg (by show ¬ (r.n % 33 < 0∨32 < r.n % 33);omega)]
    exact if_pos (lead_mod r.a (r.n % 33))
  have h3:=Int.emod_nonneg r.next (b:=nodes) (by omega)
  have h4:=Int.emod_lt_of_pos r.next (b:=nodes) (by omega)
  unfold Ru.may
  rw [if_neg (by simp [hp])]
  show (if (if r.act % 3=0 then 3 else r.act % 3)=1 then (if (if r.act % 3=1 then r.next % nodes else 0) < 0∨nodes≤(if r.act % 3=1 then r.next % nodes else 0) then (10:Int) else 0) else if (if r.act % 3=0 then 3 else r.act % 3)=2∨(if r.act % 3=0 then 3 else r.act % 3)=3 then (if (if r.act % 3=1 then r.next % nodes else 0)≠0 then 10 else 0) else 9)=0
  have hc:r.act % 3=0∨r.act % 3=1∨r.act % 3=2:=by omega
  rcases hc with h0 | h0 | h0 <;> simp [h0] <;> omega
theorem fitted_may {nodes:Int} (hn:1≤nodes) {l:List Ru} (hf:Fitted nodes l) (ho:∀ r∈l,r.Ok):∀ r∈l,r.may nodes=0:=fun r hr=>by
  have:=Ru.fit_may r nodes hn (ho r hr)
  rwa [hf r hr] at this
theorem cmp_one {r s:Ru} (h:r.cmp s < 0):s.cmp r=1:=by
  have h1:=Ru.cmp_neg r s
  have h2:=Ru.cmp_vals r s
  omega
theorem tmayGo_ok {nodes:Int}:∀ (l:List Ru) (p:Option Ru),(∀ q,p=some q→∀ r∈l,q.cmp r < 0)→Sorted l→(∀ r∈l,r.may nodes=0)→tmayGo nodes p l=0
  | [],_,_,_,_=>rfl
  | r :: l,p,hp,hs,hm=>by
    obtain ⟨h1,h2⟩:=List.pairwise_cons.1 hs
    rw [tmayGo,if_neg (by simp [hm r (by simp)])]
    have ho:outOf p r=false:=by
      cases p with
      | none=>rfl
      | some q=>show decide (r.cmp q≠1)=false;have:=cmp_one (hp q rfl r (by simp));simp [this]
    rw [if_neg (by simp [ho])]
    exact tmayGo_ok l (some r) (fun q hq=>by injection hq with hq;subst hq;exact h1) h2 (fun s hs=>hm s (by simp [hs]))
theorem tmay_ok {l:List Ru} {nodes:Int} (hs:Sorted l) (hm:∀ r∈l,r.may nodes=0):tmay l nodes=0:=tmayGo_ok l none (fun q h=>by cases h) hs hm
end Go.Th
namespace Go.Proofs.YtjandnidljbkoaaGreat
open Go.RowKit Go.Th
theorem fit1_all {r:Ru} (ha:0≤r.a∧r.a < 4294967296) (hn:0≤r.n∧r.n < 256) (hc:0≤r.act∧r.act < 256) (hx:0≤r.next∧r.next < 65536):∀ j,j < 4→Fit1 r j:=by
  intro j hj
  have:j=0∨j=1∨j=2∨j=3:=by omega
  rcases this with rfl | rfl | rfl | rfl
  · exact ha
  · exact hn
  · exact hc
  · exact hx
theorem fit1_rtk (bs:List UInt8):∀ j,j < 4→Fit1 (rtk bs) j:=by
  have v4:=val_lt (bs.take 4)
  have v1:=val_lt ((bs.drop 4).take 1)
  have v2:=val_lt ((bs.drop 5).take 1)
  have v3:=val_lt ((bs.drop 6).take 2)
  have p:∀ (l:List UInt8) (k:Nat),(256:Nat) ^ (l.take k).length≤256 ^ k:=fun l k=>Nat.pow_le_pow_right (by decide) (by rw [List.length_take];omega)
  have p4:=p bs 4
  have p1:=p (bs.drop 4) 1
  have p2:=p (bs.drop 5) 1
  have p3:=p (bs.drop 6) 2
  refine fit1_all ⟨?_,?_⟩ ⟨?_,?_⟩ ⟨?_,?_⟩ ⟨?_,?_⟩ <;> (unfold rtk;simp only;omega)
theorem pre_four (r:Ru):pre r 4=be r.a.toNat 4 ++ be r.n.toNat 1 ++ be r.act.toNat 1 ++ be r.next.toNat 2:=rfl
theorem rtk_pre (r:Ru) (h:∀ j,j < 4→Fit1 r j) (rest:List UInt8):rtk (pre r 4 ++ rest)=r:=by
  have h0:0≤r.a∧r.a < 4294967296:=h 0 (by omega)
  have h1:0≤r.n∧r.n < 256:=h 1 (by omega)
  have h2:0≤r.act∧r.act < 256:=h 2 (by omega)
  have h3:0≤r.next∧r.next < 65536:=h 3 (by omega)
  have e:pre r 4 ++ rest=be r.a.toNat 4 ++ (be r.n.toNat 1 ++ (be r.act.toNat 1 ++ (be r.next.toNat 2 ++ rest))):=by
    rw [pre_four];simp only [List.append_assoc]
  have d4:(pre r 4 ++ rest).drop 4=be r.n.toNat 1 ++ (be r.act.toNat 1 ++ (be r.next.toNat 2 ++ rest)):=by
    rw [e];exact List.drop_left' (be_length _ _)
  have d5:(pre r 4 ++ rest).drop 5=be r.act.toNat 1 ++ (be r.next.toNat 2 ++ rest):=by
    rw [show (5:Nat)=4+1 from rfl,← List.drop_drop,d4];exact List.drop_left' (be_length _ _)
  have d6:(pre r 4 ++ rest).drop 6=be r.next.toNat 2 ++ rest:=by
    rw [show (6:Nat)=5+1 from rfl,← List.drop_drop,d5];exact List.drop_left' (be_length _ _)
  have t0:(pre r 4 ++ rest).take 4=be r.a.toNat 4:=by rw [e];exact List.take_left' (be_length _ _)
  have t1:((pre r 4 ++ rest).drop 4).take 1=be r.n.toNat 1:=by rw [d4];exact List.take_left' (be_length _ _)
  have t2:((pre r 4 ++ rest).drop 5).take 1=be r.act.toNat 1:=by rw [d5];exact List.take_left' (be_length _ _)
  have t3:((pre r 4 ++ rest).drop 6).take 2=be r.next.toNat 2:=by rw [d6];exact List.take_left' (be_length _ _)
  unfold rtk
  rw [t0,t1,t2,t3,val_be 4 _ (by omega),val_be 1 _ (by omega),val_be 1 _ (by omega),val_be 2 _ (by omega)]
  obtain ⟨a,n,act,next⟩:=r
  simp only at h0 h1 h2 h3
  simp only [Ru.mk.injEq]
  omega
theorem pre_rtk {bs:List UInt8} (h:8≤bs.length):pre (rtk bs) 4=bs.take 8:=by
  have e:∀ (l:List UInt8) (k:Nat),k≤l.length→be (val (l.take k)) k=l.take k:=fun l k hk=>by
    have:=be_val (l.take k)
    rwa [List.length_take,Nat.min_eq_left hk] at this
  rw [pre_four]
  show be (val (bs.take 4):Int).toNat 4 ++ be (val ((bs.drop 4).take 1):Int).toNat 1 ++ be (val ((bs.drop 5).take 1):Int).toNat 1 ++ be (val ((bs.drop 6).take 2):Int).toNat 2=_
  rw [Int.toNat_natCast,Int.toNat_natCast,Int.toNat_natCast,Int.toNat_natCast,e bs 4 (by omega),e (bs.drop 4) 1 (by rw [List.length_drop];omega),e (bs.drop 5) 1 (by rw [List.length_drop];omega),e (bs.drop 6) 2 (by rw [List.length_drop];omega)]
  rw [show (8:Nat)=4+(1+(1+2)) from rfl,List.take_add,List.take_add,List.drop_drop,List.take_add,List.drop_drop]
  simp only [List.append_assoc]
theorem put_fits (r:Ru) (h:0≤r.a∧r.a≤4294967295) (hf:∀ j,j < 4→Fit1 r j) (p:List UInt8) (hp:pre r 4=p) (w:World):Calls Tryz.prog 123 #[.agg #[.int .u32 r.a,.int .i64 r.n,.int .i64 r.act,.int .i64 r.next]] w fun e w'=>∃ A c,e=.returned (.tuple #[.slice A 8 c,.int .i64 0])∧OwS bv w' w.heap.size 5 A 8 c p∧Below w.heap.size w w':=by
  refine (rulePut r h w).mono fun e w' hh=>?_
  obtain ⟨A,n,c,rfl,how,hb⟩:=hh.1 hf
  have hn:n=8:=by rw [← how.len,pre_length]
  subst hn
  rw [hp] at how
  exact ⟨A,c,rfl,how,hb⟩
end Go.Proofs.YtjandnidljbkoaaGreat
namespace Go.Th
def gsize (n:Nat):Nat:=if n < 128 then 1 else if n < 16384 then 2 else if n < 2097152 then 3 else 4
def gd:Nat→Nat→List UInt8
  | _,0=>[]
  | n,s+1=>gd (n / 128) s ++ [UInt8.ofNat (n % 128+128)]
def gput (n:Nat):List UInt8:=gd (n / 128) (gsize n - 1) ++ [UInt8.ofNat (n % 128)]
def gt:Nat→Nat→Nat→List UInt8→Nat × Nat × Int
  | 0,_,_,_=>(0,0,3)
  | _+1,_,_,[]=>(0,0,2)
  | f+1,v,c,b :: bs=>if b.toNat < 128 then (v * 128+b.toNat,c+1,0) else gt f (v * 128+(b.toNat - 128)) (c+1) bs
def gtake (bs:List UInt8):Nat × Nat × Int:=if bs[0]? = some 128 then (0,0,3) else gt 4 0 0 bs
theorem gsize_pos (n:Nat):1≤gsize n∧gsize n≤4:=by unfold gsize;split <;> (try split) <;> (try split) <;> omega
theorem gsize_small {n:Nat} (h:n < 128):gsize n=1:=by unfold gsize;rw [if_pos h]
theorem gsize_step {n:Nat} (h:128≤n) (h2:n < 268435456):gsize (n / 128)+1=gsize n:=by
  unfold gsize
  repeat' split
  all_goals omega
theorem gd_length:∀ (s n:Nat),(gd n s).length=s
  | 0,_=>rfl
  | s+1,n=>by rw [gd,List.length_append,gd_length s];rfl
theorem gput_length (n:Nat):(gput n).length=gsize n:=by
  rw [gput,List.length_append,gd_length]
  have:=(gsize_pos n).1
  show _+1=_
  omega
theorem fill_set (m:Nat) (z v:UInt8) (l:List UInt8):(List.replicate (m+1) z ++ l).set m v=List.replicate m z ++ v :: l:=by
  rw [List.replicate_succ',List.append_assoc,List.set_append_right _ _ (by simp)]
  simp
theorem last_set (l:List UInt8) (z v:UInt8) (r:Nat) (h:l.length=r):(l ++ [z]).set r v=l ++ [v]:=by
  subst h
  rw [List.set_append_right _ _ (by simp)]
  simp
theorem gt_nil (f v c:Nat) (h:1≤f):gt f v c []=(0,0,2):=by
  obtain ⟨k,rfl⟩:∃ k,f=k+1:=⟨f - 1,by omega⟩
  rfl
theorem gt_low {f v c:Nat} {bs:List UInt8} {k:Nat} {x:UInt8} (hf:1≤f) (h:bs[k]? = some x) (hx:x.toNat < 128):gt f v c (bs.drop k)=(v * 128+x.toNat,c+1,0):=by
  obtain ⟨j,rfl⟩:∃ j,f=j+1:=⟨f - 1,by omega⟩
  obtain ⟨hl,rfl⟩:=List.getElem?_eq_some_iff.1 h
  rw [List.drop_eq_getElem_cons hl,gt,if_pos hx]
theorem gt_high {f v c:Nat} {bs:List UInt8} {k:Nat} {x:UInt8} (h:bs[k]? = some x) (hx:128≤x.toNat):gt (f+1) v c (bs.drop k)=gt f (v * 128+(x.toNat - 128)) (c+1) (bs.drop (k+1)):=by
  obtain ⟨hl,rfl⟩:=List.getElem?_eq_some_iff.1 h
  rw [List.drop_eq_getElem_cons hl,gt,if_neg (by omega)]
end Go.Th
namespace Go.Proofs.YtjandnidljbkoaaGreat
open Go.RowKit Go.Th
def RetInt (v:Int) (w:World) (e:Ending) (w':World):Prop:=e=.returned (.int .i64 v)∧w=w'
def RetT3 (t:Nat × Nat × Int) (w:World) (e:Ending) (w':World):Prop:=e=.returned (.tuple #[.int .i64 t.1,.int .i64 t.2.1,.int .i64 t.2.2])∧w=w'
def RetG (bs:List UInt8) (er:Int) (w:World) (e:Ending) (w':World):Prop :=
  ∃ A n c,e=.returned (.tuple #[.slice A n c,.int .i64 er])∧OwS bv w' w.heap.size 5 A n c bs∧Below w.heap.size w w'
theorem gsize_out (n:Int) (w:World) (h:n < 0∨268435455 < n):Calls Tryz.prog 141 #[.int .i64 n] w (RetInt 0 w):=by
  by_cases h1:n < 0
  · go_enter Tryz.func141,Tryz.ntmps141
    go_wp2
    go_ret
    exact ⟨rfl,rfl⟩
  · have h2:268435455 < n:=by omega
    go_enter Tryz.func141,Tryz.ntmps141
    go_wp2
    go_ret
    exact ⟨rfl,rfl⟩
set_option maxRecDepth 100000 in
theorem gsize_in (n:Nat) (w:World) (h:n < 268435456):Calls Tryz.prog 141 #[.int .i64 n] w (RetInt (gsize n) w):=by
  go_enter Tryz.func141,Tryz.ntmps141
  go_wp2
  go_loop [0,3] (fun x s=>∃ X k:Nat,X < 268435456∧k≤4∧x=.int .i64 X∧s=.int .i64 k∧Hid (gsize X+k=gsize n+1)) (fun x _=>(intOf x).toNat)
  case atStart=>exact ⟨n,1,h,by omega,rfl,rfl,rfl⟩
  case round =>
    obtain ⟨X,k,hX,hk,rfl,rfl,hs⟩:=hrel
    by_cases hlt:128≤X
    · have h5:gsize (X / 128)+(k+1)=gsize n+1:=by have:=gsize_step hlt hX;have:=hs.out;omega
      have h6:k+1≤4:=by have:=gsize_pos (X / 128);have:=gsize_pos n;omega
      have H5:=Lib.hid h5
      clear h5
      go_wp2
      go_round
      case rel=>exact ⟨X / 128,k+1,by omega,h6,by go_num,by go_num,H5.out⟩
      case measure=>simp [intOf];omega
    · have h5:k=gsize n:=by have:=hs.out;rw [gsize_small (by omega)] at this;omega
      have H5:=Lib.hid h5
      clear h5
      go_wp2
      go_ret
      exact ⟨congrArg (fun z:Nat=>Ending.returned (.int .i64 (z:Int))) H5.out,rfl⟩
theorem gput_out (n:Int) (w:World) (h:n < 0∨268435455 < n):Calls Tryz.prog 121 #[.int .i64 n] w (RetG [] 1 w):=by
  go_enter Tryz.func121,Tryz.ntmps121
  go_wp2_with (first
    | (go_at_call 141;refine (gsize_out _ _ h).mono ?_;rintro e w' ⟨rfl,rfl⟩))
  go_ret2
  exact ⟨none,0,0,rfl,OwS.nil_ _ _ _,Below.refl _ _⟩
def GPutRel (base g n r:Nat) (w:World) (x i:Value) (wr:World):Prop :=
  ∃ (X m:Nat) (l:List UInt8),X < 268435456∧m≤r+1∧x=.int .i64 X∧i=.int .i64 ((m:Int) - 1)∧Hid (gd X m ++ l=gd n (r+1))∧OwS bv wr base 5 (some ⟨g,0,none⟩) (r+1) (r+1) (List.replicate m 0 ++ l)∧Below base w wr
theorem OwS_cell {α:Type} {f:α→Value} {w:World} {base e g n c:Nat} {xs:List α} (h:OwS f w base e (some ⟨g,0,none⟩) n c xs) {j:Nat} {x:α} (hx:xs[j]? = some x):w.cell? ⟨g,j,none⟩=some (f x):=by
  obtain ⟨b,o,e,_,hc⟩:=h.rd.rd.at_ j (f x) (by rw [List.getElem?_map,hx];rfl)
  injection e with e
  injection e with e1 e2
  subst e1 e2
  rwa [Nat.zero_add] at hc
set_option maxRecDepth 100000 in
theorem gput_in (n:Nat) (w:World) (h:n < 268435456):Calls Tryz.prog 121 #[.int .i64 n] w (RetG (gput n) 0 w):=by
  obtain ⟨r,hr⟩:∃ r,gsize n=r+1:=⟨gsize n - 1,by have:=(gsize_pos n).1;omega⟩
  have hr3:r≤3:=by have:=(gsize_pos n).2;omega
  have Hr:=Lib.hid hr
  have hgs:((gsize n:Nat):Int)=(r:Int)+1:=by omega
  have Hgs:=Lib.hid hgs
  clear hr hgs
  go_enter Tryz.func121,Tryz.ntmps121
  go_wp2_with (first
    | (go_at_call 141;refine (gsize_in _ _ h).mono ?_;rintro e w' ⟨rfl,rfl⟩;rw [Hgs.out])
    | (refine wl_makeS (base:=w.heap.size) rfl _ _ _ rfl el_u8 (f:=bv) 0 rfl (r+1) rfl rfl (by omega) (by omega) (by omega) (by omega) (Nat.le_refl _) ?_;intro g w1 hg how hb))
  go_loopw [0,6] (fun x i wr=>GPutRel w.heap.size g n r w x i wr) (fun _ i _=>(intOf i+1).toNat)
  case atStart=>exact ⟨n,r+1,[],h,by omega,rfl,by go_num,by show _=_;rw [List.append_nil],by rw [List.append_nil];exact how,hb⟩
  case round =>
    obtain ⟨X,m,l,hX,hm,rfl,rfl,hl,how,hb⟩:=hrel
    by_cases hlt:1≤m
    · obtain ⟨m,rfl⟩:∃ k,m=k+1:=⟨m - 1,by omega⟩
      have h5:gd (X / 128) m ++ (UInt8.ofNat (X % 128+128) :: l)=gd n (r+1):=by rw [← hl.out,gd,List.append_assoc];rfl
      have H5:=Lib.hid h5
      clear h5
      go_wp2_with (first
        | (refine wl_index_own rfl _ _ _ rfl Tryz.underlying22 size_u8 rfl rfl (by omega) (by omega) ?_)
        | (refine wl_setS rfl _ _ _ rfl size_u8 rfl rfl (UInt8.ofNat (X % 128+128)) (by simp only [bv,UInt8.toNat_ofNat',Value.int.injEq,true_and];omega) how (by omega) ?_;intro w2 how2 hg2 hb2))
      go_roundw
      case rel =>
        refine ⟨X / 128,m,_,by omega,by omega,by go_num,by go_num,H5.out,?_,hb.trans hb2⟩
        rw [← fill_set m 0]
        rw [show (((m+1:Nat):Int) - 1).toNat * 1=m by omega] at how2
        exact how2
      case measure=>simp [intOf]
    · have e:m=0:=by omega
      subst e
      rw [List.replicate_zero,List.nil_append] at how
      have hl':l=gd (n / 128) r ++ [UInt8.ofNat (n % 128+128)]:=hl.out
      rw [hl'] at how
      obtain ⟨d,hd,hd2⟩:∃ d,n % 128=d∧d < 128:=⟨_,rfl,by omega⟩
      have hc0:wr.cell? ⟨g,r,none⟩=some (.int .u8 ((d:Int)+128)):=by
        have:=OwS_cell how (j:=r) (x:=UInt8.ofNat (n % 128+128)) (by rw [List.getElem?_append_right (by rw [gd_length];omega),gd_length,Nat.sub_self];rfl)
        rw [this,hd]
        simp only [bv,UInt8.toNat_ofNat',Option.some.injEq,Value.int.injEq,true_and]
        omega
      rw [hd] at how
      have Hd:=Lib.hid hd
      clear hd hl' hl
      go_wp2_with (first
        | (refine wl_index_own rfl _ _ _ rfl Tryz.underlying22 size_u8 rfl rfl (by omega) (by omega) ?_)
        | (refine wl_setS rfl _ _ _ rfl size_u8 rfl rfl (UInt8.ofNat d) (by simp only [bv,UInt8.toNat_ofNat',Value.int.injEq,true_and];omega) how (by omega) ?_;intro w2 how2 hg2 hb2))
      go_ret2
      refine ⟨_,_,_,rfl,?_,hb.trans hb2⟩
      have e2:gput n=gd (n / 128) r ++ [UInt8.ofNat d]:=by rw [gput,Hr.out,Hd.out];rfl
      rw [e2,← last_set _ (UInt8.ofNat (d+128)) _ r (gd_length _ _)]
      rw [show (r:Int).toNat * 1=r by omega] at how2
      exact how2
def GTakeRel (bs:List UInt8) (n:Nat) (v c l i:Value):Prop :=
  ∃ V k:Nat,k≤n∧k≤4∧v=.int .i64 V∧c=.int .i64 k∧l=.bool false∧i=.int .i64 k∧V < 128 ^ k∧Hid (gt 4 0 0 bs=gt (4 - k) V k (bs.drop k))∧Hid (1≤k→gtake bs=gt 4 0 0 bs)
theorem pow128 {k:Nat} (h:k < 4):128 ^ k≤2097152∧128 ^ (k+1)=128 ^ k * 128:=by
  have:k=0∨k=1∨k=2∨k=3:=by omega
  rcases this with rfl | rfl | rfl | rfl <;> simp
theorem u8_is {x:UInt8} {k:Nat} (hk:k < 256):x=UInt8.ofNat k↔x.toNat=k:=by
  constructor
  · rintro rfl;simp;omega
  · intro h;rw [← h];simp
theorem u8_at {bs:List UInt8} {k:Nat} {x y:UInt8} (h:bs[((k:Nat):Int).toNat]? = some x) (h2:bs[k]? = some y):x=y:=by
  rw [Int.toNat_natCast,h2] at h
  injection h with h
  exact h.symm
set_option maxRecDepth 100000 in
theorem gtake_any (A:Option Addr) (n c:Nat) (w:World) (hm:n≤9223372036854775807) (B:Nat) (bs:List UInt8) (hr:RdS bv w B A n c bs) :
    Calls Tryz.prog 95 #[.slice A n c] w (RetT3 (gtake bs) w):=by
  go_enter Tryz.func95,Tryz.ntmps95
  go_wp2
  go_step3
  go_wp2
  go_step3
  go_wp2
  go_loop [5,6,7,12] (fun v c l i=>GTakeRel bs n v c l i) (fun _ _ _ i=>n - (intOf i).toNat)
  case atStart=>exact ⟨0,0,by omega,by omega,rfl,rfl,rfl,rfl,by omega,rfl,fun h=>absurd h (by omega)⟩
  case round =>
    obtain ⟨V,k,hkn,hk4,rfl,rfl,rfl,rfl,hV,hg,h1⟩:=hrel
    have hlen:=hr.len
    by_cases hlt:k < n
    · obtain ⟨x0,hx0⟩:∃ x0,bs[k]? = some x0:=⟨bs[k]'(by omega),List.getElem?_eq_getElem _⟩
      have Hx0:=Lib.hid hx0
      clear hx0
      by_cases hk0:k=0∧x0.toNat=128
      · obtain ⟨rfl,hx128⟩:=hk0
        have hb:gtake bs=(0,0,3):=by
          unfold gtake
          rw [if_pos]
          rw [Hx0.out,(u8_is (by omega)).2 hx128];rfl
        have Hb:=Lib.hid hb
        have hx128':(x0.toNat:Int)=128:=by omega
        clear hb
        go_wp2_with (first | (refine wl_at_b rfl _ _ _ rfl el_u8 rfl rfl (by omega) (by omega) hr ?_;intro p x hx hxl hc;have hxx:x0=x:=(u8_at hx.out Hx0.out).symm;subst hxx))
        go_ret3
        rw [Hb.out]
        exact ⟨rfl,rfl⟩
      · have hgt:gtake bs=gt (4 - k) V k (bs.drop k):=by
          rw [← hg.out]
          unfold gtake
          by_cases hk:k=0
          · subst hk
            rw [if_neg]
            intro e
            rw [Hx0.out] at e
            injection e with e
            exact hk0 ⟨rfl,(u8_is (by omega)).1 e⟩
          · have:=h1.out (by omega)
            unfold gtake at this
            exact this
        have Hgt:=Lib.hid hgt
        clear hgt
        have hx255:x0.toNat < 256:=x0.toNat_lt
        by_cases hk44:k=4
        · subst hk44
          have hb:gtake bs=(0,0,3):=Hgt.out
          have Hb:=Lib.hid hb
          clear hb
          go_wp2_with (first | (refine wl_at_b rfl _ _ _ rfl el_u8 rfl rfl (by omega) (by omega) hr ?_;intro p x hx hxl hc;have hxx:x0=x:=(u8_at hx.out Hx0.out).symm;subst hxx))
          go_ret3
          rw [Hb.out]
          exact ⟨rfl,rfl⟩
        · have hp:=pow128 (show k < 4 by omega)
          obtain ⟨hp1,hp2⟩:=hp
          have hV2:V < 2097152:=by omega
          by_cases hx:x0.toNat < 128
          · have hb:gtake bs=(V * 128+x0.toNat,k+1,0):=by rw [Hgt.out];exact gt_low (by omega) Hx0.out hx
            have Hb:=Lib.hid hb
            have hxm:(x0.toNat:Int) % 128=x0.toNat:=by omega
            have hx128':¬ (x0.toNat:Int)=128:=by omega
            clear hb hV hp1 hp2
            rcases Nat.eq_zero_or_pos k with h0 | h0
            · subst h0
              go_wp2_with (first | (refine wl_at_b rfl _ _ _ rfl el_u8 rfl rfl (by omega) (by omega) hr ?_;intro p x hx hxl hc;have hxx:x0=x:=(u8_at hx.out Hx0.out).symm;subst hxx))
              go_ret3
              rw [Hb.out]
              exact ⟨rfl,rfl⟩
            · have h0':¬ (k:Int)=0:=by omega
              go_wp2_with (first | (refine wl_at_b rfl _ _ _ rfl el_u8 rfl rfl (by omega) (by omega) hr ?_;intro p x hx hxl hc;have hxx:x0=x:=(u8_at hx.out Hx0.out).symm;subst hxx))
              go_ret3
              rw [Hb.out]
              exact ⟨rfl,rfl⟩
          · obtain ⟨y,hy⟩:∃ y,x0.toNat - 128=y:=⟨_,rfl⟩
            have hym:(x0.toNat:Int) % 128=y:=by omega
            have hb:gt 4 0 0 bs=gt (4 - (k+1)) (V * 128+y) (k+1) (bs.drop (k+1)):=by
              rw [hg.out,show 4 - k=(4 - (k+1))+1 by omega,gt_high Hx0.out (by omega),hy]
            have Hb:=Lib.hid hb
            have hV3:V * 128+y < 128 ^ (k+1):=by rw [hp2];omega
            have Hgt4:=Lib.hid (Hgt.out.trans hg.out.symm)
            have HV3:=Lib.hid hV3
            clear hb hV hp1 hp2 hV3 hy
            rcases Nat.eq_zero_or_pos k with h0 | h0
            · subst h0
              have hx128':¬ (x0.toNat:Int)=128:=by omega
              go_wp2_with (first | (refine wl_at_b rfl _ _ _ rfl el_u8 rfl rfl (by omega) (by omega) hr ?_;intro p x hx hxl hc;have hxx:x0=x:=(u8_at hx.out Hx0.out).symm;subst hxx))
              go_round
              case rel=>exact ⟨V * 128+y,0+1,by omega,by omega,by go_num,by go_num,rfl,by go_num,HV3.out,Hb.out,fun _=>Hgt4.out⟩
              case measure=>simp [intOf];omega
            · have h0':¬ (k:Int)=0:=by omega
              go_wp2_with (first | (refine wl_at_b rfl _ _ _ rfl el_u8 rfl rfl (by omega) (by omega) hr ?_;intro p x hx hxl hc;have hxx:x0=x:=(u8_at hx.out Hx0.out).symm;subst hxx))
              go_round
              case rel=>exact ⟨V * 128+y,k+1,by omega,by omega,by go_num,by go_num,rfl,by go_num,HV3.out,Hb.out,fun _=>Hgt4.out⟩
              case measure=>simp [intOf];omega
    · have e:k=n:=by omega
      subst e
      have hgt:gtake bs=gt (4 - k) V k []:=by
        have hd:bs.drop k=[]:=List.drop_eq_nil_of_le (by omega)
        rw [← hd,← hg.out]
        unfold gtake
        by_cases hk:k=0
        · rw [if_neg]
          rw [List.getElem?_eq_none (by omega)]
          simp
        · have:=h1.out (by omega)
          unfold gtake at this
          exact this
      by_cases hk44:k=4
      · subst hk44
        have hb:gtake bs=(0,0,3):=hgt
        have Hb:=Lib.hid hb
        clear hb hgt
        go_wp2
        go_ret3
        rw [Hb.out]
        exact ⟨rfl,rfl⟩
      · have hb:gtake bs=(0,0,2):=by rw [hgt];exact gt_nil _ _ _ (by omega)
        have Hb:=Lib.hid hb
        clear hb hgt
        go_wp2
        go_ret3
        rw [Hb.out]
        exact ⟨rfl,rfl⟩
open Go.RowKit Go.Th
def GP (n:Int):List UInt8 × Int:=if 0≤n∧n≤268435455 then (gput n.toNat,0) else ([],1)
def GS (n:Int):Nat:=if 0≤n∧n≤268435455 then gsize n.toNat else 0
theorem GP_length (n:Int):(GP n).1.length=GS n:=by unfold GP GS;split <;> simp [gput_length]
theorem GP_in (n:Nat) (h:n < 268435456):GP n=(gput n,0):=by unfold GP;rw [if_pos (by omega)];simp
theorem GS_in (n:Nat) (h:n < 268435456):GS n=gsize n:=by unfold GS;rw [if_pos (by omega)];simp
theorem GP_out (n:Int) (h:n < 0∨268435455 < n):GP n=([],1):=by unfold GP;rw [if_neg (by omega)]
def RetP (n:Int) (w:World) (e:Ending) (w':World):Prop :=
  ∃ A c,e=.returned (.tuple #[.slice A (GS n) c,.int .i64 (GP n).2])∧OwS bv w' w.heap.size 5 A (GS n) c (GP n).1∧Below w.heap.size w w'
theorem RetP.of_g {n:Int} {w:World} {e:Ending} {w':World} (h:RetG (GP n).1 (GP n).2 w e w'):RetP n w e w':=by
  obtain ⟨A,m,c,rfl,how,hb⟩:=h
  have:m=GS n:=by rw [← how.len,GP_length]
  subst this
  exact ⟨A,c,rfl,how,hb⟩
theorem gput_any (n:Int) (w:World):Calls Tryz.prog 121 #[.int .i64 n] w (RetP n w):=by
  by_cases h:0≤n∧n≤268435455
  · obtain ⟨k,rfl⟩:=Int.eq_ofNat_of_zero_le h.1
    refine (gput_in k w (by omega)).mono fun _ _ hh=>.of_g ?_
    rw [GP_in k (by omega)]
    exact hh
  · refine (gput_out n w (by omega)).mono fun _ _ hh=>.of_g ?_
    rw [GP_out n (by omega)]
    exact hh
end Go.Proofs.YtjandnidljbkoaaGreat
namespace Go.Th
def poly:Nat:=2197175160
def ct (s:Nat):Nat:=if s % 2=1 then s / 2 ^^^ poly else s / 2
def ctn:Nat→Nat→Nat
  | 0,s=>s
  | k+1,s=>ctn k (ct s)
def cstep (s:Nat) (c:UInt8):Nat:=ctn 8 (s ^^^ c.toNat)
def cfrom (s:Nat) (bs:List UInt8):Nat:=bs.foldl cstep s
def csum (bs:List UInt8):Nat:=cfrom 4294967295 bs ^^^ 4294967295
theorem ctn_succ':∀ (k s:Nat),ctn (k+1) s=ct (ctn k s)
  | 0,_=>rfl
  | k+1,s=>ctn_succ' k (ct s)
theorem xor_lt32 {a b:Nat} (ha:a < 4294967296) (hb:b < 4294967296):a ^^^ b < 4294967296:=Nat.xor_lt_two_pow (n:=32) ha hb
theorem ct_lt {s:Nat} (h:s < 4294967296):ct s < 4294967296:=by
  unfold ct
  split
  · exact xor_lt32 (by omega) (by decide)
  · omega
theorem ctn_lt:∀ (k:Nat) {s:Nat},s < 4294967296→ctn k s < 4294967296
  | 0,_,h=>h
  | k+1,_,h=>ctn_lt k (ct_lt h)
theorem cstep_lt {s:Nat} (h:s < 4294967296) (c:UInt8):cstep s c < 4294967296:=ctn_lt 8 (xor_lt32 h (by have:=c.toNat_lt;omega))
theorem cfrom_lt:∀ (bs:List UInt8) {s:Nat},s < 4294967296→cfrom s bs < 4294967296
  | [],_,h=>h
  | c :: bs,_,h=>cfrom_lt bs (cstep_lt h c)
theorem csum_lt (bs:List UInt8):csum bs < 4294967296:=xor_lt32 (cfrom_lt bs (by omega)) (by omega)
theorem cfrom_snoc (s:Nat) (bs:List UInt8) (c:UInt8):cfrom s (bs ++ [c])=cstep (cfrom s bs) c:=by simp [cfrom]
theorem xor_mod2 (u x:Nat):(u ^^^ 2 * x) % 2=u % 2:=by
  have:=Nat.xor_mod_two_pow (a:=u) (b:=2 * x) (n:=1)
  rw [show (2:Nat) ^ 1=2 from rfl] at this
  rw [this,Nat.mul_mod_right,Nat.xor_zero]
theorem xor_div2 (u x:Nat):(u ^^^ 2 * x) / 2=u / 2 ^^^ x:=by
  have:=Nat.xor_div_two_pow (a:=u) (b:=2 * x) (n:=1)
  rw [show (2:Nat) ^ 1=2 from rfl] at this
  rw [this,Nat.mul_div_cancel_left _ (by decide)]
theorem ct_xor (u x:Nat):ct (u ^^^ 2 * x)=ct u ^^^ x:=by
  unfold ct
  rw [xor_mod2,xor_div2]
  split
  · rw [Nat.xor_assoc,Nat.xor_assoc,Nat.xor_comm x]
  · rfl
theorem ctn_xor:∀ (k u x:Nat),ctn k (u ^^^ 2 ^ k * x)=ctn k u ^^^ x
  | 0,u,x=>by simp [ctn]
  | k+1,u,x=>by
    have:=ctn_xor k (ct u) x
    rw [ctn,show 2 ^ (k+1) * x=2 * (2 ^ k * x) by rw [Nat.pow_succ];rw [Nat.mul_comm (2 ^ k) 2,Nat.mul_assoc],ct_xor,this]
    rfl
theorem low_high (u:Nat):u=u % 256 ^^^ 256 * (u / 256):=by
  apply Nat.eq_of_testBit_eq
  intro i
  rw [Nat.testBit_xor,show (256:Nat)=2 ^ 8 from rfl,Nat.testBit_mod_two_pow,Nat.testBit_two_pow_mul]
  by_cases h:i < 8
  · simp [h,show ¬ 8≤i by omega]
  · have h8:8≤i:=by omega
    simp only [h,decide_false,Bool.false_and,h8,decide_true,Bool.true_and,Bool.false_xor]
    rw [Nat.testBit_div_two_pow,Nat.sub_add_cancel h8]
theorem cstep_table (s:Nat) (c:UInt8):cstep s c=s / 256 ^^^ ctn 8 (s % 256 ^^^ c.toNat):=by
  unfold cstep
  have h:s ^^^ c.toNat=(s % 256 ^^^ c.toNat) ^^^ 2 ^ 8 * (s / 256):=by
    conv=>lhs;rw [low_high s]
    rw [Nat.xor_assoc,Nat.xor_assoc,Nat.xor_comm c.toNat]
  rw [h,ctn_xor,Nat.xor_comm]
def le:List UInt8→Nat
  | []=>0
  | c :: bs=>c.toNat ^^^ 256 * le bs
def hi7 (a:Nat):UInt8:=UInt8.ofNat (a % 128+128)
def lo7 (a:Nat):UInt8:=UInt8.ofNat (a % 128)
theorem hi7_toNat (a:Nat):(hi7 a).toNat=a % 128+128:=by unfold hi7;simp;omega
theorem lo7_toNat (a:Nat):(lo7 a).toNat=a % 128:=by unfold lo7;simp;omega
theorem u8_ext {x y:UInt8} (h:x.toNat=y.toNat):x=y:=UInt8.toNat_inj.1 h
theorem hi7_ne {a:Nat} (h:a % 128≠0):hi7 a≠128:=fun e=>by
  have:=congrArg UInt8.toNat e
  rw [hi7_toNat] at this
  simp at this
  omega
theorem lo7_ne (a:Nat):lo7 a≠128:=fun e=>by
  have:=congrArg UInt8.toNat e
  rw [lo7_toNat] at this
  simp at this
  omega
theorem gput1 {x:Nat} (h:x < 128):gput x=[lo7 x]:=by rw [gput,gsize_small h];rfl
theorem gput2 {x:Nat} (h:128≤x) (h2:x < 16384):gput x=[hi7 (x / 128),lo7 x]:=by
  have e:gsize x=2:=by unfold gsize;rw [if_neg (by omega),if_pos (by omega)]
  rw [gput,e];rfl
theorem gput3 {x:Nat} (h:16384≤x) (h2:x < 2097152):gput x=[hi7 (x / 128 / 128),hi7 (x / 128),lo7 x]:=by
  have e:gsize x=3:=by unfold gsize;rw [if_neg (by omega),if_neg (by omega),if_pos (by omega)]
  rw [gput,e];rfl
theorem gput4 {x:Nat} (h:2097152≤x):gput x=[hi7 (x / 128 / 128 / 128),hi7 (x / 128 / 128),hi7 (x / 128),lo7 x]:=by
  have e:gsize x=4:=by unfold gsize;rw [if_neg (by omega),if_neg (by omega),if_neg (by omega)]
  rw [gput,e];rfl
theorem gt_hi7 (f v c a:Nat) (bs:List UInt8):gt (f+1) v c (hi7 a :: bs)=gt f (v * 128+a % 128) (c+1) bs:=by
  rw [gt,if_neg (by rw [hi7_toNat];omega),hi7_toNat,Nat.add_sub_cancel]
theorem gt_lo7 (f v c a:Nat) (bs:List UInt8):gt (f+1) v c (lo7 a :: bs)=(v * 128+a % 128,c+1,0):=by
  rw [gt,if_pos (by rw [lo7_toNat];omega),lo7_toNat]
theorem gtake_cons {b:UInt8} {bs:List UInt8} (h:b≠128):gtake (b :: bs)=gt 4 0 0 (b :: bs):=by
  unfold gtake
  rw [if_neg]
  intro e
  rw [List.getElem?_cons_zero] at e
  injection e with e
  exact h e
theorem sizes (x:Nat):x < 128∨(128≤x∧x < 16384)∨(16384≤x∧x < 2097152)∨2097152≤x:=by omega
theorem gtake_gput (x:Nat) (h:x < 268435456) (bs:List UInt8):gtake (gput x ++ bs)=(x,gsize x,0):=by
  rw [← gput_length]
  rcases sizes x with h1 | ⟨h1,h2⟩ | ⟨h1,h2⟩ | h1
  · rw [gput1 h1,List.cons_append,gtake_cons (lo7_ne _),gt_lo7]
    simp;omega
  · rw [gput2 h1 h2,List.cons_append,gtake_cons (hi7_ne (by omega)),gt_hi7,List.cons_append,gt_lo7]
    simp;omega
  · rw [gput3 h1 h2,List.cons_append,gtake_cons (hi7_ne (by omega)),gt_hi7,List.cons_append,gt_hi7,List.cons_append,gt_lo7]
    simp;omega
  · rw [gput4 h1,List.cons_append,gtake_cons (hi7_ne (by omega)),gt_hi7,List.cons_append,gt_hi7,List.cons_append,gt_hi7,List.cons_append,gt_lo7]
    simp;omega
theorem hi7_of {b:UInt8} {a:Nat} (h:b.toNat=a % 128+128):hi7 a=b:=u8_ext (by rw [hi7_toNat,h])
theorem lo7_of {b:UInt8} {a:Nat} (h:b.toNat=a % 128):lo7 a=b:=u8_ext (by rw [lo7_toNat,h])
theorem gtake_what (bs:List UInt8):(gtake bs=(0,0,2)∧bs.length < 4)∨gtake bs=(0,0,3) ∨
    ∃ n k,gtake bs=(n,k,0)∧n < 268435456∧1≤k∧k≤bs.length∧k≤4∧gput n=bs.take k:=by
  rcases bs with _ | ⟨b0,bs⟩
  · exact .inl ⟨rfl,by simp⟩
  by_cases h128:b0=128
  · subst h128;exact .inr (.inl rfl)
  have n128:b0.toNat≠128:=fun e=>h128 (u8_ext (by rw [e];rfl))
  rw [gtake_cons h128]
  have l0:=b0.toNat_lt
  by_cases c0:b0.toNat < 128
  · right;right
    refine ⟨b0.toNat,1,by rw [gt,if_pos c0];simp,by omega,by omega,by simp,by omega,?_⟩
    rw [gput1 c0,List.take_succ_cons,List.take_zero,lo7_of (b:=b0) (by omega)]
  rw [gt,if_neg c0]
  rcases bs with _ | ⟨b1,bs⟩
  · exact .inl ⟨rfl,by simp⟩
  have l1:=b1.toNat_lt
  by_cases c1:b1.toNat < 128
  · right;right
    obtain ⟨x,hx⟩:∃ x,(0 * 128+(b0.toNat - 128)) * 128+b1.toNat=x:=⟨_,rfl⟩
    refine ⟨x,2,by rw [gt,if_pos c1,hx],by omega,by omega,by simp,by omega,?_⟩
    rw [gput2 (by omega) (by omega),List.take_succ_cons,List.take_succ_cons,List.take_zero,hi7_of (b:=b0) (by omega),lo7_of (b:=b1) (by omega)]
  rw [gt,if_neg c1]
  rcases bs with _ | ⟨b2,bs⟩
  · exact .inl ⟨rfl,by simp⟩
  have l2:=b2.toNat_lt
  by_cases c2:b2.toNat < 128
  · right;right
    obtain ⟨x,hx⟩:∃ x,((0 * 128+(b0.toNat - 128)) * 128+(b1.toNat - 128)) * 128+b2.toNat=x:=⟨_,rfl⟩
    refine ⟨x,3,by rw [gt,if_pos c2,hx],by omega,by omega,by simp,by omega,?_⟩
    rw [gput3 (by omega) (by omega),List.take_succ_cons,List.take_succ_cons,List.take_succ_cons,List.take_zero,hi7_of (b:=b0) (by omega),hi7_of (b:=b1) (by omega),lo7_of (b:=b2) (by omega)]
  rw [gt,if_neg c2]
  rcases bs with _ | ⟨b3,bs⟩
  · exact .inl ⟨rfl,by simp⟩
  have l3:=b3.toNat_lt
  by_cases c3:b3.toNat < 128
  · right;right
    obtain ⟨x,hx⟩:∃ x,(((0 * 128+(b0.toNat - 128)) * 128+(b1.toNat - 128)) * 128+(b2.toNat - 128)) * 128+b3.toNat=x:=⟨_,rfl⟩
    refine ⟨x,4,by rw [gt,if_pos c3,hx],by omega,by omega,by simp,by omega,?_⟩
    rw [gput4 (by omega),List.take_succ_cons,List.take_succ_cons,List.take_succ_cons,List.take_succ_cons,List.take_zero,hi7_of (b:=b0) (by omega),hi7_of (b:=b1) (by omega),hi7_of (b:=b2) (by omega),lo7_of (b:=b3) (by omega)]
  rw [gt,if_neg c3]
  exact .inr (.inl rfl)
def fhead (m:Nat) (bs:List UInt8):List UInt8:=be m 4 ++ bs
def fput (m:Nat) (bs:List UInt8):List UInt8:=fhead m bs ++ be (csum (fhead m bs)) 4
def ftake (m:Nat) (bs:List UInt8):List UInt8 × Int :=
  if bs.length < 8 then ([],2)
  else if bs.take 4=be m 4 then
    (if bs.drop (bs.length - 4)=be (csum (bs.take (bs.length - 4))) 4 then ((bs.take (bs.length - 4)).drop 4,0) else ([],6))
  else ([],5)
def fsec (tag:UInt8) (bs:List UInt8):List UInt8:=tag :: (gput bs.length ++ bs)
def fopen (tag:UInt8) (bs:List UInt8):List UInt8 × List UInt8 × Int :=
  match bs with
  | []=>([],[],2)
  | b :: r =>
    if b=tag then
      (if (gtake r).2.2=0 then
        (if (r.drop (gtake r).2.1).length < (gtake r).1 then ([],[],2)
         else ((r.drop (gtake r).2.1).take (gtake r).1,(r.drop (gtake r).2.1).drop (gtake r).1,0))
       else ([],[],(gtake r).2.2))
    else ([],[],3)
theorem fopen_cons (tag b:UInt8) (r:List UInt8):fopen tag (b :: r)=if b=tag then
      (if (gtake r).2.2=0 then
        (if (r.drop (gtake r).2.1).length < (gtake r).1 then ([],[],2)
         else ((r.drop (gtake r).2.1).take (gtake r).1,(r.drop (gtake r).2.1).drop (gtake r).1,0))
       else ([],[],(gtake r).2.2))
    else ([],[],3):=rfl
theorem fhead_length (m:Nat) (bs:List UInt8):(fhead m bs).length=bs.length+4:=by simp [fhead,be_length];omega
theorem fput_length (m:Nat) (bs:List UInt8):(fput m bs).length=bs.length+8:=by simp [fput,fhead_length,be_length]
theorem ftake_parts {m:Nat} {bs h s:List UInt8} (hh:4≤h.length) (hs:s.length=4) (hb:bs=h ++ s) :
    ftake m bs=if h.take 4=be m 4 then (if s=be (csum h) 4 then (h.drop 4,0) else ([],6)) else ([],5):=by
  subst hb
  have hl:(h ++ s).length=h.length+4:=by simp [hs]
  unfold ftake
  rw [hl,if_neg (by omega),Nat.add_sub_cancel,List.take_append_of_le_length hh,List.drop_left,List.take_left]
theorem ftake_fput (m:Nat) (bs:List UInt8):ftake m (fput m bs)=(bs,0):=by
  rw [ftake_parts (bs:=fput m bs) (h:=fhead m bs) (s:=be (csum (fhead m bs)) 4) (by rw [fhead_length];omega) (be_length _ _) rfl]
  have e1:(fhead m bs).take 4=be m 4:=by
    have:=List.take_left (l₁:=be m 4) (l₂:=bs)
    rwa [be_length] at this
  have e2:(fhead m bs).drop 4=bs:=by
    have:=List.drop_left (l₁:=be m 4) (l₂:=bs)
    rwa [be_length] at this
  rw [if_pos e1,if_pos rfl,e2]
theorem ftake_short {m:Nat} {bs:List UInt8} (h:bs.length < 8):ftake m bs=([],2):=by unfold ftake;rw [if_pos h]
theorem fput_ftake {m:Nat} {bs x:List UInt8} (h:ftake m bs=(x,0)):fput m x=bs:=by
  unfold ftake at h
  split at h
  · injection h with _ h;cases h
  · rename_i h8
    split at h
    · rename_i h4
      split at h
      · rename_i hs
        injection h with hx _
        have e1:fhead m x=bs.take (bs.length - 4):=by
          have:=List.take_append_drop 4 (bs.take (bs.length - 4))
          rw [List.take_take,Nat.min_eq_left (by omega),h4,hx] at this
          exact this
        have e2:fput m x=bs.take (bs.length - 4) ++ bs.drop (bs.length - 4):=by
          rw [fput,e1,← hs]
        rw [e2,List.take_append_drop]
      · injection h with _ h;cases h
    · injection h with _ h;cases h
theorem fsec_length (tag:UInt8) (bs:List UInt8):(fsec tag bs).length=1+gsize bs.length+bs.length:=by
  simp [fsec,gput_length];omega
theorem fopen_fsec (tag:UInt8) (bs cs:List UInt8) (h:bs.length < 268435456):fopen tag (fsec tag bs ++ cs)=(bs,cs,0):=by
  have e:fsec tag bs ++ cs=tag :: (gput bs.length ++ (bs ++ cs)):=by simp [fsec,List.append_assoc]
  rw [e,fopen_cons,gtake_gput bs.length h]
  have hd:(gput bs.length ++ (bs ++ cs)).drop (gsize bs.length)=bs ++ cs:=by
    have:=List.drop_left (l₁:=gput bs.length) (l₂:=bs ++ cs)
    rwa [gput_length] at this
  rw [if_pos rfl,if_pos rfl]
  show (if (List.drop (gsize bs.length) _).length < bs.length then _ else _)=_
  rw [hd,if_neg (by simp),List.take_left,List.drop_left]
end Go.Th
namespace Go.Proofs.YtjandnidljbkoaaGreat
open Go.RowKit Go.Th
def RetOwn (bs:List UInt8) (w:World) (e:Ending) (w':World):Prop :=
  ∃ A n c,e=.returned (.slice A n c)∧OwS bv w' w.heap.size 5 A n c bs∧Below w.heap.size w w'
theorem own_any (A:Option Addr) (n c:Nat) (w:World) (hm:n≤1000000) (B:Nat) (bs:List UInt8) (hr:RdS bv w B A n c bs) :
    Calls Tryz.prog 94 #[.slice A n c] w (RetOwn bs w):=by
  go_enter Tryz.func94,Tryz.ntmps94
  go_wp2_with (refine wl_appendS rfl (.const (.slice none 0 0)) (.tmp 3) _ rfl el_u8 (f:=bv) (fun _=>rfl) rfl (OwS.nil_ w w.heap.size 5) rfl hr (by omega) (by omega) (Nat.le_refl _) ?_;intro A4 c4 w4 how4 _ hb4;rw [Nat.zero_add,List.nil_append] at how4)
  go_ret
  exact ⟨A4,_,c4,rfl,how4,hb4⟩
theorem gput_natF (x:Nat) (h:x < 268435456) (w:World):Calls Tryz.prog 121 #[.int .i64 x] w fun e w'=>∃ A c,e=.returned (.tuple #[.slice A (gsize x) c,.int .i64 0])∧OwS bv w' w.heap.size 5 A (gsize x) c (gput x)∧Below w.heap.size w w':=by
  refine (gput_in x w h).mono ?_
  rintro e w' ⟨A,n,c,rfl,how,hb⟩
  have:n=gsize x:=by rw [← how.len,gput_length]
  subst this
  exact ⟨A,c,rfl,how,hb⟩
def RetSec (bs:List UInt8) (w:World) (e:Ending) (w':World):Prop :=
  ∃ A n c,e=.returned (.tuple #[.slice A n c,.int .i64 0])∧OwS bv w' w.heap.size 5 A n c bs∧Below w.heap.size w w'
set_option maxHeartbeats 2000000 in
theorem sec_any (t:UInt8) (T:Int) (hT:(t.toNat:Int)=T) (A:Option Addr) (n c:Nat) (w:World) (hm:n≤1000000) (B:Nat) (bs:List UInt8) (hr:RdS bv w B A n c bs) (hB:B≤w.heap.size) :
    Calls Tryz.prog 124 #[.int .u8 T,.slice A n c] w (RetSec (fsec t bs) w):=by
  have hs:=gsize_pos n
  obtain ⟨s,hs0⟩:∃ s,gsize n=s:=⟨_,rfl⟩
  rw [hs0] at hs
  obtain ⟨hs1,hs2⟩:=hs
  have Hs:=Lib.hid hs0
  have HT:=Lib.hid hT
  have hT2:T < 256∧0≤T:=by have:=t.toNat_lt;omega
  obtain ⟨hT2,hT3⟩:=hT2
  clear hs0 hT
  go_enter Tryz.func124,Tryz.ntmps124
  go_wp2_with (first
    | (go_at_call 121;refine (gput_natF n (by omega) _).mono ?_;rintro e w1 ⟨A1,c1,rfl,how1,hb1⟩;rw [Hs.out] at how1 ⊢;have r1:=hr.heap.step hb1)
    | ((with_reducible refine on_make ?_);refine wl_make0S rfl _ _ _ rfl el_u8 (f:=bv) (base:=w1.heap.size) (1+s+n) rfl rfl (by omega) (by omega) (by omega) (Nat.le_refl _) ?_;intro g2 w2 hg2 how2 hb2)
    | ((with_reducible refine on_append (.tmp 28) (.tmp 30) ?_);refine wl_appendS rfl (.tmp 28) (.tmp 30) _ rfl el_u8 (f:=bv) (fun _=>rfl) rfl (how2.alloc _) rfl (OwS.rd (OwS.lit (base:=w2.heap.size) (e:=5) (xs:=[t]) w2 #[.int .u8 T] 1 (Nat.le_refl _) (by simp [maxLen]) rfl (by simp [bv,HT.out]))) (by omega) (by omega) (by have:=hb2.size;simp;omega) ?_;intro A3 c3 w3 how3 _ hb3;have H3:Below w1.heap.size w1 w3:=(hb2.alloc hb2.size _).trans hb3)
    | ((with_reducible refine on_append (.tmp 32) (.tmp 33) ?_);refine wl_appendS rfl (.tmp 32) (.tmp 33) _ rfl el_u8 (f:=bv) (fun _=>rfl) rfl how3 rfl (how1.below H3).rd (by omega) (by omega) H3.size ?_;intro A4 c4 w4 how4 _ hb4;have H4:=H3.trans hb4)
    | ((with_reducible refine on_append (.tmp 35) (.tmp 36) ?_);refine wl_appendS rfl (.tmp 35) (.tmp 36) _ rfl el_u8 (f:=bv) (fun _=>rfl) rfl how4 rfl (r1.step H4) (by omega) (by omega) H4.size ?_;intro A5 c5 w5 how5 _ hb5;have H5:=H4.trans hb5))
  go_ret2
  refine ⟨A5,0+1+s+n,c5,rfl,?_,next hb1 H5⟩
  · have e:fsec t bs=[] ++ [t] ++ gput n ++ bs:=by simp [fsec,hr.len]
    rw [e]
    exact how5.base_le hb1.size
def RetOpen (r:List UInt8 × List UInt8 × Int) (w:World) (e:Ending) (w':World):Prop :=
  ∃ A n c A' n' c',e=.returned (.tuple #[.slice A n c,.slice A' n' c',.int .i64 r.2.2])∧OwS bv w' w.heap.size 5 A n c r.1∧OwS bv w' w.heap.size 5 A' n' c' r.2.1∧Below w.heap.size w w'
theorem RetOpen.nil (er:Int) (w:World):RetOpen ([],[],er) w (.returned (.tuple #[.slice none 0 0,.slice none 0 0,.int .i64 er])) w :=
  ⟨none,0,0,none,0,0,rfl,OwS.nil_ _ _ _,OwS.nil_ _ _ _,Below.refl _ _⟩
theorem byte_beq (t u:UInt8) (b:Bool) (h:(t == u)=b):((t.toNat:Int) == (u.toNat:Int))=b:=by
  subst h
  rw [Bool.eq_iff_iff]
  simp only [beq_iff_eq]
  constructor
  · intro h
    exact UInt8.toNat_inj.1 (by omega)
  · rintro rfl;rfl
set_option maxRecDepth 100000 in
set_option maxHeartbeats 2000000 in
theorem open_any (t:UInt8) (T:Int) (hT:(t.toNat:Int)=T) (A:Option Addr) (n c:Nat) (w:World) (hm:n≤1000000) (bs:List UInt8) (hr:RdS bv w w.heap.size A n c bs) :
    Calls Tryz.prog 96 #[.int .u8 T,.slice A n c] w (RetOpen (fopen t bs) w):=by
  subst hT
  have hl:=hr.len
  cases bs with
  | nil =>
    subst hl
    go_enter Tryz.func96,Tryz.ntmps96
    go_wp2
    go_ret3
    exact RetOpen.nil 2 w
  | cons b r =>
    simp only [List.length_cons] at hl
    subst hl
    rw [fopen_cons]
    by_cases hb:b=t
    · subst hb
      rw [if_pos rfl]
      have e0:((b.toNat:Int) == (b.toNat:Int))=true:=by simp
      have hd1:(b :: r).drop 1=r:=rfl
      rcases gtake_what r with ⟨hg,_⟩ | hg | ⟨m,k,hg,hm1,hk1,hk2,hk4,_⟩
      · rw [hg]
        have Hg:=Lib.hid hg
        clear hg
        go_enter Tryz.func96,Tryz.ntmps96
        go_wp2_with (first
          | ((with_reducible refine on_index (.tmp 12) ?_);refine wl_at_b rfl _ _ _ rfl el_u8 rfl rfl (by omega) (by omega) hr ?_;intro p x hx hx5 hc;have hxb:x=b:=(Option.some.inj hx.out).symm;subst hxb)
          | ((with_reducible refine on_slice (.tmp 18) ?_);refine wl_cut_l rfl _ _ el_u8 rfl hr _ rfl rfl 1 (by omega) ?_;intro A1 r1;rw [hd1] at r1)
          | (go_at_call 95;refine (gtake_any _ _ _ _ (by omega) _ _ r1).mono ?_;rintro e w1 ⟨rfl,rfl⟩;rw [Hg.out]))
        go_ret3
        exact RetOpen.nil 2 w
      · rw [hg]
        have Hg:=Lib.hid hg
        clear hg
        go_enter Tryz.func96,Tryz.ntmps96
        go_wp2_with (first
          | ((with_reducible refine on_index (.tmp 12) ?_);refine wl_at_b rfl _ _ _ rfl el_u8 rfl rfl (by omega) (by omega) hr ?_;intro p x hx hx5 hc;have hxb:x=b:=(Option.some.inj hx.out).symm;subst hxb)
          | ((with_reducible refine on_slice (.tmp 18) ?_);refine wl_cut_l rfl _ _ el_u8 rfl hr _ rfl rfl 1 (by omega) ?_;intro A1 r1;rw [hd1] at r1)
          | (go_at_call 95;refine (gtake_any _ _ _ _ (by omega) _ _ r1).mono ?_;rintro e w1 ⟨rfl,rfl⟩;rw [Hg.out]))
        go_ret3
        exact RetOpen.nil 3 w
      · have hd2:(b :: r).drop (1+k)=r.drop k:=by rw [Nat.add_comm];rfl
        have hdl:(r.drop k).length=r.length - k:=List.length_drop ..
        rw [hg,if_pos rfl]
        show Calls _ _ _ _ (RetOpen (if (r.drop k).length < m then _ else ((r.drop k).take m,(r.drop k).drop m,0)) w)
        rw [hdl]
        have Hg:=Lib.hid hg
        clear hg
        by_cases hms:r.length - k < m
        · rw [if_pos hms]
          go_enter Tryz.func96,Tryz.ntmps96
          go_wp2_with (first
            | ((with_reducible refine on_index (.tmp 12) ?_);refine wl_at_b rfl _ _ _ rfl el_u8 rfl rfl (by omega) (by omega) hr ?_;intro p x hx hx5 hc;have hxb:x=b:=(Option.some.inj hx.out).symm;subst hxb)
            | ((with_reducible refine on_slice (.tmp 18) ?_);refine wl_cut_l rfl _ _ el_u8 rfl hr _ rfl rfl 1 (by omega) ?_;intro A1 r1;rw [hd1] at r1)
            | (go_at_call 95;refine (gtake_any _ _ _ _ (by omega) _ _ r1).mono ?_;rintro e w1 ⟨rfl,rfl⟩;rw [Hg.out])
            | ((with_reducible refine on_slice (.tmp 27) ?_);refine wl_cut_l rfl _ _ el_u8 rfl hr _ rfl rfl (1+k) (by omega) ?_;intro A2 r2;rw [hd2] at r2))
          go_ret3
          exact RetOpen.nil 2 w
        · rw [if_neg hms]
          go_enter Tryz.func96,Tryz.ntmps96
          go_wp2_with (first
            | ((with_reducible refine on_index (.tmp 12) ?_);refine wl_at_b rfl _ _ _ rfl el_u8 rfl rfl (by omega) (by omega) hr ?_;intro p x hx hx5 hc;have hxb:x=b:=(Option.some.inj hx.out).symm;subst hxb)
            | ((with_reducible refine on_slice (.tmp 18) ?_);refine wl_cut_l rfl _ _ el_u8 rfl hr _ rfl rfl 1 (by omega) ?_;intro A1 r1;rw [hd1] at r1)
            | (go_at_call 95;refine (gtake_any _ _ _ _ (by omega) _ _ r1).mono ?_;rintro e w1 ⟨rfl,rfl⟩;rw [Hg.out])
            | ((with_reducible refine on_slice (.tmp 27) ?_);refine wl_cut_l rfl _ _ el_u8 rfl hr _ rfl rfl (1+k) (by omega) ?_;intro A2 r2;rw [hd2] at r2))
          have q2:=RdC.of_reach (B':=w.heap.size) (r2.step (bdrew1 w)) (Nat.le_refl _)
          refine wp_region_tree (.float 0 4 (.float 5 3 (.one 4 (.one 8 (.float 9 3 .done))))) (Th.Reach w.heap.size) (Th.Reach.trans _) (Th.Reach.refl _) (by kernel_rfl) (by kernel_rfl) (fun KT hKT=>?_)
          repeat' first
            | ((with_reducible refine wpTree_done ?_);refine hKT _ _ ?_;clear hKT KT)
            | ((with_reducible refine wpTree_float (fun KF hKF=>?_));(simp only [List.drop,List.take]);(repeat (first | go_big_quiet_skip | ((with_reducible refine onq_sl (.tmp 35) ?_);refine wq_cut_hm rfl _ (.tmp 35) el_u8 rfl q2 (Th.Reach.refl _ _) _ _ rfl rfl rfl m (by omega) ?_;intro A38 r38) | ((with_reducible refine onq_sl (.tmp 40) ?_);refine wq_cut_l rfl _ (.tmp 40) el_u8 rfl q2 (Th.Reach.refl _ _) _ rfl rfl m (by omega) ?_;intro A42 r42) | go_big_quiet_step (fail) | quiet_step (fail)));refine wpQuiet_nil ?_;refine hKF _ ?_;clear hKF KF)
            | ((with_reducible refine wpTree_one (fun KO hKO=>?_));(simp only [List.drop,List.take]);(go_wp2_with (first | (go_at_call 94;first | (refine (own_any _ _ _ _ (by omega) _ _ (r38.rd w.drew (Th.Reach.refl _ _))).mono ?_;rintro e w39 ⟨A39,n39,c39,rfl,how39,hb39⟩;have hb39:Below w.heap.size w.drew w39:=hb39;have hz39:w.heap.size≤w39.heap.size:=hb39.size) | (refine (own_any _ _ _ w39 (by omega) _ _ (r42.rd w39 (Th.Reach.of hb39))).mono ?_;rintro e w43 ⟨A43,n43,c43,rfl,how43,hb43⟩;have hk43:=hb43;have hb43:Below w.heap.size w39 w43:=hb43.mono hz39))));(refine anch_end (Th.Reach.of (by first | exact Below.refl _ _ | exact below_alloc _ (by first | omega | (simp;done) | (simp;omega)) _ | exact below_alloc2 _ (by first | omega | (simp;done) | (simp;omega)) _ _ | exact below_alloc2d _ (by simp) _ _ | exact bdrew _ _ | assumption | (exact Below.mono (by assumption) (by first | (simp;done) | (simp;omega) | omega | assumption)))) (hKO _ _ ?_));clear hKO KO)
          go_wp2
          go_ret3
          exact ⟨A39,n39,c39,A43,n43,c43,rfl,how39.below hk43,how43.base_le hz39,(bdrew1 w).trans (hb39.trans hb43)⟩
    · rw [if_neg hb]
      have h1:((b.toNat:Int) == (t.toNat:Int))=false:=byte_beq b t false (by simpa using hb)
      have h2:(b.toNat == t.toNat)=false:=by simpa using fun e=>hb (UInt8.toNat_inj.1 e)
      go_enter Tryz.func96,Tryz.ntmps96
      go_wp2_with ((with_reducible refine on_index (.tmp 12) ?_);refine wl_at_b rfl _ _ _ rfl el_u8 rfl rfl (by omega) (by omega) hr ?_;intro p x hx hx5 hc;have hxb:x=b:=(Option.some.inj hx.out).symm;subst hxb)
      go_ret3
      exact RetOpen.nil 3 w
theorem open_is (t:UInt8) (T:Int) (hT:(t.toNat:Int)=T) (A:Option Addr) (n c:Nat) (w:World) (hm:n≤1000000) (bs:List UInt8) (hr:RdS bv w w.heap.size A n c bs) (x y:List UInt8) (er:Int) (h:fopen t bs=(x,y,er)) :
    Calls Tryz.prog 96 #[.int .u8 T,.slice A n c] w fun e w'=>∃ A1 n1 c1 A2 n2 c2,e=.returned (.tuple #[.slice A1 n1 c1,.slice A2 n2 c2,.int .i64 er])∧OwS bv w' w.heap.size 5 A1 n1 c1 x∧OwS bv w' w.heap.size 5 A2 n2 c2 y∧Below w.heap.size w w':=by
  have:=open_any t T hT A n c w hm bs hr
  rw [h] at this
  exact this
open Go.RowKit Go.Th
theorem ctn_more (k s:Nat):ctn (k+1) s=ct (ctn k s):=ctn_succ' k s
theorem cstep_any (s:Nat) (c:UInt8) (w:World) (hs:s < 4294967296) (S:Int) (hS:(s:Int)=S) (C:Int) (hC:(c.toNat:Int)=C) :
    Calls Tryz.prog 144 #[.int .u32 S,.int .u8 C] w fun e w'=>e=.returned (.int .u32 (cstep s c))∧w=w':=by
  subst hS
  subst hC
  have hc:=c.toNat_lt
  have hx0:=u32_xor_nat s c.toNat hs (by omega)
  obtain ⟨y,hy⟩:∃ y,s ^^^ c.toNat=y:=⟨_,rfl⟩
  have hy2:y < 4294967296:=by rw [← hy];exact xor_lt32 hs (by omega)
  rw [hy] at hx0
  have hst:cstep s c=ctn 8 y:=by rw [← hy];rfl
  rw [hst]
  clear hst hy
  go_enter Tryz.func144,Tryz.ntmps144
  go_wp2
  go_loop [0,9] (fun v i=>∃ k x:Nat,k≤8∧x < 4294967296∧v=.int .u32 x∧i=.int .i64 k∧Hid (ctn k y=x)) (fun _ i=>8 - (intOf i).toNat)
  case atStart=>exact ⟨0,y,by omega,hy2,rfl,rfl,rfl⟩
  case round =>
    obtain ⟨k,x,hk,hx,rfl,rfl,hX⟩:=hrel
    by_cases hlt:k < 8
    · have ha:=u32_and_nat x 1 hx (by omega)
      rw [Nat.and_one_is_mod] at ha
      have hn:=ctn_more k y
      rw [hX.out] at hn
      unfold ct at hn
      rcases Nat.mod_two_eq_zero_or_one x with h | h
      · rw [if_neg (by omega)] at hn
        rw [h] at ha
        have ha:bits .and .u32 (x:Int) 1=0:=ha
        go_wp2
        go_round
        case rel=>exact ⟨k+1,x / 2,by omega,by omega,by go_num,by go_num,hn⟩
        case measure=>simp [intOf];omega
      · rw [if_pos h] at hn
        rw [h] at ha
        have ha:bits .and .u32 (x:Int) 1=1:=ha
        have hp:bits .xor .u32 ((x:Int) / 2) 2197175160=((x / 2 ^^^ poly:Nat):Int):=u32_xor_nat (x / 2) poly (by omega) (by decide)
        have hl:x / 2 ^^^ poly < 4294967296:=xor_lt32 (by omega) (by decide)
        go_wp2
        go_round
        case rel=>exact ⟨k+1,x / 2 ^^^ poly,by omega,hl,by first | rfl | rw [hp],by go_num,hn⟩
        case measure=>simp [intOf];omega
    · have e8:k=8:=by omega
      subst e8
      go_wp2
      go_ret
      rw [hX.out]
      exact ⟨rfl,rfl⟩
end Go.Proofs.YtjandnidljbkoaaGreat
namespace Go.Th
section
variable {P:Program} {ops:Array Oper} {rest:List Oper} {o:Oper} {a:Act} {Q:Exit→Act→World→Prop} {w:World}
theorem wl_new (hw:Region.wanted o (yielded ops a.tmps)=true) (T:TypeId) (ho:o.op=.alloc T) {cs:Array Value} {k:Nat} (hz:(P.info? T).map (fun i=>(i.zero.map Value.cells,i.size))=some (some cs,k))
    (h:wpList P ops Q rest (a.put o.dst (.pointer (some ⟨w.heap.size,0,none⟩))) (w.alloc (.cells cs T))):wpList P ops Q (o :: rest) a w:=by
  cases hi:P.info? T with
  | none=>rw [hi] at hz;simp at hz
  | some i =>
    rw [hi] at hz
    simp only [Option.map_some,Option.some.injEq,Prod.mk.injEq,Option.map_eq_some_iff] at hz
    obtain ⟨⟨z,hz1,hz2⟩,_⟩:=hz
    refine wl_run hw (v:=.pointer (some ⟨w.heap.size,0,none⟩)) ?_ h
    simp [execOp,ho,Instr.alloc,zeroValue,typeInfo,hi,hz1,newVar,newRow,hz2]
structure ArT (P:Program) (T:TypeId) (k:Nat):Prop where
  under:∃ n e,P.underlying T=some (.array n e)
  size:(P.info? T).map (·.size)=some k
theorem wa_load (hw:Region.wanted o (yielded ops a.tmps)=true) (T:TypeId) (x:Operand) (ho:o.op=.load T x) {k:Nat} (st:ArT P T k) {g:Nat} {t:TypeId} {cs:Array Value} (hx:a.eval x=.pointer (some ⟨g,0,none⟩)) (hb:Box w g t cs) (hk:cs.size=k)
    (h:wpList P ops Q rest (a.put o.dst (.agg cs)) w):wpList P ops Q (o :: rest) a w:=by
  obtain ⟨n,e,hu⟩:=st.under
  subst hk
  refine wl_run hw ?_ h
  simp only [execOp,ho,hx,Instr.loadAt,Instr.sureAddr,Sem.run_bind,Sem.run_pure,Result.andThen_ok,run_loadVar_row w g t T cs (0,0) _ hb.at_ hu rfl st.size]
theorem wa_store (hw:Region.wanted o (yielded ops a.tmps)=true) (T:TypeId) (x y:Operand) (ho:o.op=.store T x y) {k:Nat} (st:ArT P T k) {g:Nat} {t:TypeId} {cs cs':Array Value} (hx:a.eval x=.pointer (some ⟨g,0,none⟩)) (hy:a.eval y=.agg cs')
    (hb:Box w g t cs) (hk:cs.size=k) (hk':cs'.size=k) (h1:cs'.all (·.oneCell')=true)
    (h:∀ w',Box w' g t cs'→w.grownBy w' (some g)→wpList P ops Q rest (a.put o.dst undef) w'):wpList P ops Q (o :: rest) a w:=by
  subst hk'
  obtain ⟨h2,h3⟩:=hb.setRow cs'
  refine wl_run0 hw ?_ (h _ h2 h3)
  simp only [execOp,ho,hx,hy,Instr.storeAt,Instr.sureAddr,Sem.run_bind,Sem.run_pure,Result.andThen_ok,run_storeVar_row w g t T cs cs' hb.at_ st.size hk h1]
theorem on_new {T:TypeId} {d ty pos af g} (h:wpList P ops Q (⟨d,.alloc T,ty,pos,af,g⟩ :: rest) a w):wpList P ops Q (⟨d,.alloc T,ty,pos,af,g⟩ :: rest) a w:=h
theorem on_stx (x:Operand) {d T y ty pos af g} (h:wpList P ops Q (⟨d,.store T x y,ty,pos,af,g⟩ :: rest) a w):wpList P ops Q (⟨d,.store T x y,ty,pos,af,g⟩ :: rest) a w:=h
end
def tabL (k:Nat):List Value:=(List.range 256).map fun i=>.int .u32 ((if i < k then ctn 8 i else 0:Nat):Int)
def tab (k:Nat):Array Value:=(tabL k).toArray
theorem tab_size (k:Nat):(tab k).size=256:=by simp [tab,tabL]
theorem tab_one (k:Nat):(tab k).all (·.oneCell')=true:=by
  rw [Array.all_eq_true_iff_forall_mem]
  intro x hx
  simp only [tab,tabL,List.mem_toArray,List.mem_map] at hx
  obtain ⟨i,_,rfl⟩:=hx
  rfl
theorem tab_get (k i:Nat) (h:i < 256):(tab k)[i]? = some (.int .u32 ((if i < k then ctn 8 i else 0:Nat):Int)):=by
  simp [tab,tabL,h]
theorem tab_zero:tab 0=Array.replicate 256 (.int .u32 0):=by
  apply Array.ext_getElem?
  intro i
  by_cases h:i < 256
  · rw [tab_get 0 i h];simp [h]
  · rw [Array.getElem?_eq_none (by rw [tab_size];omega),Array.getElem?_eq_none (by simp;omega)]
theorem tab_set (k:Nat) (h:k < 256):(tab k).setIfInBounds k (.int .u32 (ctn 8 k:Nat))=tab (k+1):=by
  apply Array.ext_getElem?
  intro i
  by_cases hi:i < 256
  · rw [Array.getElem?_setIfInBounds,tab_get (k+1) i hi]
    by_cases e:k=i
    · subst e;simp [tab_size,h]
    · rw [if_neg e,tab_get k i hi]
      have:(i < k)↔(i < k+1):=by omega
      simp only [this]
  · rw [Array.getElem?_eq_none (by simp [tab_size];omega),Array.getElem?_eq_none (by rw [tab_size];omega)]
end Go.Th
namespace Go.Proofs.YtjandnidljbkoaaGreat
open Go.RowKit Go.Th
theorem z_tab:(Tryz.prog.info? 210).map (fun i=>(i.zero.map Value.cells,i.size))=some (some (Array.replicate 256 (.int .u32 0)),256):=by kernel_rfl
theorem ar_tab:ArT Tryz.prog 210 256:=⟨⟨_,_,Tryz.underlying210⟩,by kernel_rfl⟩
set_option maxRecDepth 100000 in
theorem table_any (w:World):Calls Tryz.prog 128 #[] w fun e w'=>e=.returned (.agg (tab 256))∧Below w.heap.size w w':=by
  go_enter Tryz.func128,Tryz.ntmps128
  go_wp2_with ((with_reducible refine on_new ?_);refine wl_new rfl _ rfl z_tab ?_;rw [← tab_zero])
  go_loopw [1,2] (fun _ i wr=>∃ k:Nat,k≤256∧i=.int .i64 k∧Box wr w.heap.size 210 (tab k)∧Below w.heap.size w wr) (fun _ i _=>256 - (intOf i).toNat)
  case atStart=>exact ⟨0,by omega,rfl,Box.new w _ _,below_alloc _ (Nat.le_refl _) _⟩
  case round =>
    obtain ⟨k,hk,rfl,hbx,hb⟩:=hrel
    by_cases hlt:k < 256
    · have hkb:(k:Int) < 256:=by omega
      have hce:wr.cell? ⟨w.heap.size,k,none⟩=some (.int .u32 ((if k < k then ctn 8 k else 0:Nat):Int)):=(hbx.cell k).trans (tab_get k k hlt)
      have hfz:=hbx.frozen k
      have hcs:cstep 0 (UInt8.ofNat k)=ctn 8 k:=by
        unfold cstep
        rw [Nat.zero_xor,UInt8.toNat_ofNat',Nat.mod_eq_of_lt hlt]
      have hbx2:=(hbx.setCell k (.int .u32 (ctn 8 k:Nat))).1
      rw [tab_set k hlt] at hbx2
      have hg2:=(hbx.setCell k (.int .u32 (ctn 8 k:Nat))).2
      have hb2:=hb.trans (below_of_grown hg2 (fun j e=>by injection e with e;omega) hb.size)
      go_wp2_with (go_at_call 144;refine (cstep_any 0 (UInt8.ofNat k) _ (by omega) _ rfl _ (by rw [UInt8.toNat_ofNat'];omega)).mono ?_;rintro e w1 ⟨rfl,rfl⟩;rw [hcs])
      go_roundw
      case rel=>exact ⟨k+1,by omega,by go_num,hbx2,hb2⟩
      case measure=>simp [intOf];omega
    · have e8:k=256:=by omega
      subst e8
      have ht1:=tab_size 256
      go_wp2_with (first
        | ((with_reducible refine on_load (.tmp 0) ?_);refine wa_load rfl _ (.tmp 0) rfl ar_tab rfl hbx ht1 ?_)
        | ((with_reducible refine on_stx (.tmp 0) ?_);refine wa_store rfl _ (.tmp 0) _ rfl ar_tab rfl rfl hbx ht1 ht1 (tab_one 256) ?_;intro w2 hb2 hg2))
      have hld:=run_loadVar_row (P:=Tryz.prog) w2 w.heap.size 210 210 (tab 256) (0,0) _ hb2.at_ Tryz.underlying210 rfl (by rw [ht1];exact ar_tab.size)
      refine bodyPost_ret (v:=.agg (tab 256)) ?_ rfl ⟨rfl,hb.trans (below_of_grown hg2 (fun j e=>by injection e with e;omega) hb.size)⟩
      have hres:Tryz.f128.results = #[.cell 0 210]:=rfl
      simp only [Act.put,results,hres]
      simp [asAddr,hld]
set_option maxRecDepth 100000 in
theorem more_any (A:Option Addr) (n c:Nat) (w:World) (hm:n≤9223372036854775807) (bs:List UInt8) (hr:RdS bv w w.heap.size A n c bs) :
    Calls Tryz.prog 92 #[.int .u32 0,.slice A n c] w fun e w'=>e=.returned (.int .u32 (csum bs))∧Below w.heap.size w w':=by
  have ht0:=tab_size 0
  have ht1:=tab_size 256
  have hx0:bits .xor .u32 4294967295 0=4294967295:=by decide
  go_enter Tryz.func92,Tryz.ntmps92
  go_wp2_with (first
    | (go_at_call 128;refine (table_any _).mono ?_;rintro e w1 ⟨rfl,hb1⟩)
    | ((with_reducible refine on_new ?_);refine wl_new rfl _ rfl z_tab ?_;rw [← tab_zero])
    | ((with_reducible refine on_stx (.tmp 5) ?_);refine wa_store rfl _ (.tmp 5) _ rfl ar_tab rfl rfl (Box.new w1 (tab 0) 210) ht0 ht1 (tab_one 256) ?_;intro w2 hbx2 hg2))
  have hb2:Below w.heap.size w w2:=(hb1.alloc hb1.size _).trans (below_of_grown hg2 (fun j e=>by injection e with e;have:=hb1.size;omega) (by have:=hb1.size;simp;omega))
  have hr2:=hr.step hb2
  clear hb1 hg2 hr
  go_loop [0,7,13] (fun v _ i=>∃ k s:Nat,k≤n∧s < 4294967296∧v=.int .u32 s∧i=.int .i64 k∧Hid (cfrom 4294967295 (bs.take k)=s)) (fun _ _ i=>n - (intOf i).toNat)
  case atStart=>exact ⟨0,4294967295,by omega,by omega,by first | rfl | (rw [hx0];rfl),rfl,rfl⟩
  case round =>
    obtain ⟨k,s,hk,hs,rfl,rfl,hS⟩:=hrel
    by_cases hlt:k < n
    · obtain ⟨x,hx⟩:∃ x,bs[k]? = some x:=⟨bs[k]'(by rw [hr2.len];exact hlt),List.getElem?_eq_getElem _⟩
      have hx8:=x.toNat_lt
      obtain ⟨j,hj⟩:∃ j,s % 256 ^^^ x.toNat=j:=⟨_,rfl⟩
      have hj8:bits .xor .u8 ((s:Int) % 256) (x.toNat:Int)=(j:Int):=by rw [← hj];exact u8_xor_nat (s % 256) x.toNat (by omega) (by omega)
      have hj2:j < 256:=by rw [← hj];exact Nat.xor_lt_two_pow (n:=8) (by omega) (by omega)
      have hcell:w2.cell? ⟨w1.heap.size,j,none⟩=some (.int .u32 (ctn 8 j:Nat)):=by
        have:=(hbx2.cell j).trans (tab_get 256 j hj2)
        rwa [if_pos hj2] at this
      have hl:ctn 8 j < 4294967296:=ctn_lt 8 (by omega)
      have hx32:bits .xor .u32 ((s:Int) / 256) ((ctn 8 j:Nat):Int)=((s / 256 ^^^ ctn 8 j:Nat):Int):=u32_xor_nat (s / 256) (ctn 8 j) (by omega) hl
      have hl2:s / 256 ^^^ ctn 8 j < 4294967296:=xor_lt32 (by omega) hl
      have hnext:cfrom 4294967295 (bs.take (k+1))=s / 256 ^^^ ctn 8 j:=by
        rw [List.take_add_one,hx]
        show cfrom _ (_ ++ [x])=_
        rw [cfrom_snoc,hS.out,cstep_table,hj]
      have Hx:=Lib.hid hx
      have Hj:=Lib.hid hj
      have Hn:=Lib.hid hnext
      have hj2i:(j:Int) < 256:=by omega
      clear hx hj hnext
      go_wp2_with ((with_reducible refine on_index (.tmp 11) ?_);refine wl_at_b rfl _ _ _ rfl el_u8 rfl rfl (by omega) (by omega) hr2 ?_;intro p x' hx' hx5 hc;have hxx:x' = x:=(Option.some.inj ((show bs[k]? = some x' from hx'.out).symm.trans Hx.out));subst hxx)
      go_round
      case rel=>exact ⟨k+1,s / 256 ^^^ ctn 8 j,by omega,hl2,rfl,by go_num,Hn.out⟩
      case measure=>simp [intOf];omega
    · have hkn:k=n:=by omega
      have hS2:=hS.out
      rw [List.take_of_length_le (by rw [hr2.len];omega)] at hS2
      have hx9:bits .xor .u32 4294967295 (s:Int)=((4294967295 ^^^ s:Nat):Int):=u32_xor_nat 4294967295 s (by omega) hs
      have hcs:csum bs=4294967295 ^^^ s:=by unfold csum;rw [hS2,Nat.xor_comm]
      have Hcs:=Lib.hid hcs
      clear hkn hcs hS2
      go_wp2
      go_ret
      rw [Hcs.out]
      first
        | exact ⟨rfl,hb2⟩
        | exact ⟨congrArg (fun z=>Ending.returned (Value.int .u32 z)) hx9,hb2⟩
theorem sum_any (A:Option Addr) (n c:Nat) (w:World) (hm:n≤9223372036854775807) (bs:List UInt8) (hr:RdS bv w w.heap.size A n c bs) :
    Calls Tryz.prog 38 #[.slice A n c] w fun e w'=>e=.returned (.int .u32 (csum bs))∧Below w.heap.size w w':=by
  go_enter Tryz.func38,Tryz.ntmps38
  go_wp2_with (go_at_call 92;refine (more_any _ _ _ _ hm _ hr).mono ?_;rintro e w1 ⟨rfl,hb1⟩)
  go_ret
  exact ⟨rfl,hb1⟩
open Go.RowKit Go.Th
def rowB (s:Nat) (zs:List Int):List UInt8:=zs.flatMap fun z=>be z.toNat s
theorem rowB_length (s:Nat) (zs:List Int):(rowB s zs).length=zs.length * s:=by
  induction zs with
  | nil=>simp [rowB]
  | cons z zs ih =>
    have:rowB s (z :: zs)=be z.toNat s ++ rowB s zs:=rfl
    rw [this,List.length_append,be_length,ih,List.length_cons,Nat.add_mul,Nat.one_mul,Nat.add_comm]
theorem rowB_take (s:Nat) (zs:List Int) (k:Nat) (x:Int) (h:zs[k]? = some x):rowB s (zs.take (k+1))=rowB s (zs.take k) ++ be x.toNat s:=by
  rw [List.take_add_one,h]
  simp [rowB]
def RetRows (s:Nat) (zs:List Int) (w:World) (e:Ending) (w':World):Prop :=
  ((∀ z∈zs,Fits s z)→RetRow w (zs.length * s) (rowB s zs) 0 e w')∧((¬ ∀ z∈zs,Fits s z)→RetNone 1 w e w')
theorem fits_take (s:Nat) (zs:List Int) (k:Nat) (x:Int) (h:zs[k]? = some x) (hall:∀ z∈zs.take k,Fits s z) (hf:Fits s x):∀ z∈zs.take (k+1),Fits s z:=by
  intro z hz
  rw [List.take_add_one,h] at hz
  simp at hz
  rcases hz with hz | rfl
  · exact hall z hz
  · exact hf
open Go.RowKit Go.Th
theorem four_any (m:Nat) (hm:m < 4294967296) (M:Int) (hM:(m:Int)=M) (w:World):Calls Tryz.prog 37 #[.int .u32 M] w fun e w'=>∃ A c,e=.returned (.slice A 4 c)∧OwS bv w' w.heap.size 5 A 4 c (be m 4)∧Below w.heap.size w w':=by
  subst hM
  go_enter Tryz.func37,Tryz.ntmps37
  go_wp2_with (go_at_call 91;refine (put_nat m 4 _ (by omega) (by omega) (by omega)).mono ?_;rintro e w1 ⟨A,c,rfl,how,hb⟩)
  go_ret
  exact ⟨A,c,rfl,how,hb⟩
set_option maxHeartbeats 1000000 in
theorem fput_any (m:Nat) (hm:m < 4294967296) (M:Int) (hM:(m:Int)=M) (A:Option Addr) (n c:Nat) (w:World) (hn:n≤1000000) (bs:List UInt8) (hr:RdS bv w w.heap.size A n c bs) :
    Calls Tryz.prog 8 #[.int .u32 M,.slice A n c] w (RetOwn (fput m bs) w):=by
  subst hM
  have hcs:=csum_lt (fhead m bs)
  go_enter Tryz.func8,Tryz.ntmps8
  go_wp2_with (first
    | ((with_reducible refine on_make ?_);refine wl_make0S rfl _ _ _ rfl el_u8 (f:=bv) (base:=w.heap.size) (n+8) rfl rfl (by omega) (by omega) (by omega) (Nat.le_refl _) ?_;intro g1 w1 hg1 how1 hb1)
    | (go_at_call 37;refine (four_any m hm _ rfl w1).mono ?_;rintro e w2 ⟨A2,c2,rfl,how2,hb2⟩;have how1:=how1.below hb2;have K2:=hb1.trans (hb2.mono hb1.size))
    | ((with_reducible refine on_append (.tmp 10) (.tmp 12) ?_);refine wl_appendS rfl (.tmp 10) (.tmp 12) _ rfl el_u8 (f:=bv) (fun _=>rfl) rfl how1 rfl how2.rd (by omega) (by omega) K2.size ?_;intro A3 c3 w3 how3 _ hb3;have K3:=K2.trans hb3)
    | ((with_reducible refine on_append (.tmp 14) (.tmp 15) ?_);refine wl_appendS rfl (.tmp 14) (.tmp 15) _ rfl el_u8 (f:=bv) (fun _=>rfl) rfl how3 rfl (hr.step K3) (by omega) (by omega) K3.size ?_;intro A4 c4 w4 how4 _ hb4;have K4:=K3.trans hb4))
  refine (sum_any A4 _ c4 w4 (by omega) _ how4.rd).mono ?_
  rintro e w5 ⟨rfl,hb5⟩
  have how5:=how4.below hb5
  have K5:=K4.trans (hb5.mono K4.size)
  have e5:[] ++ be m 4 ++ bs=fhead m bs:=rfl
  rw [e5] at how5
  go_wp2_with fail
  refine (four_any (csum (fhead m bs)) hcs _ rfl w5).mono ?_
  rintro e w6 ⟨A6,c6,rfl,how6,hb6⟩
  have how7:=how5.below hb6
  have K6:=K5.trans (hb6.mono K5.size)
  go_wp2_with ((with_reducible refine on_append (.tmp 17) (.tmp 20) ?_);refine wl_appendS rfl (.tmp 17) (.tmp 20) _ rfl el_u8 (f:=bv) (fun _=>rfl) rfl how7 rfl how6.rd (by omega) (by omega) K6.size ?_;intro A8 c8 w8 how8 _ hb8)
  go_ret
  exact ⟨A8,_,c8,rfl,how8,K6.trans hb8⟩
theorem equal_any (A:Option Addr) (n c:Nat) (A':Option Addr) (n' c':Nat) (w:World) (B B':Nat) (bs cs:List UInt8) (hr:RdS bv w B A n c bs) (hr':RdS bv w B' A' n' c' cs) (b:Bool) (hb:(bs == cs)=b) :
    Calls Tryz.prog 93 #[.slice A n c,.slice A' n' c'] w fun e w'=>e=.returned (.bool b)∧w=w':=by
  go_enter Tryz.func93,Tryz.ntmps93
  go_wp2_with (first
    | ((with_reducible refine on_convert (.tmp 5) ?_);refine wl_strS rfl _ _ (.tmp 5) rfl el_u8 Tryz.underlying5 Tryz.underlying9 rfl hr ?_)
    | ((with_reducible refine on_convert (.tmp 7) ?_);refine wl_strS rfl _ _ (.tmp 7) rfl el_u8 Tryz.underlying5 Tryz.underlying9 rfl hr' ?_))
  go_ret
  exact ⟨rfl,rfl⟩
def RetTak (r:List UInt8 × Int) (w:World) (e:Ending) (w':World):Prop :=
  ∃ A n c,e=.returned (.tuple #[.slice A n c,.int .i64 r.2])∧OwS bv w' w.heap.size 5 A n c r.1∧Below w.heap.size w w'
set_option maxHeartbeats 2000000 in
theorem ftake_any (m:Nat) (hm:m < 4294967296) (M:Int) (hM:(m:Int)=M) (A:Option Addr) (n c:Nat) (w:World) (hn:n≤1000000) (bs:List UInt8) (hr:RdS bv w w.heap.size A n c bs) :
    Calls Tryz.prog 40 #[.int .u32 M,.slice A n c] w (RetTak (ftake m bs) w):=by
  subst hM
  have hl:=hr.len
  by_cases h8:n < 8
  · rw [ftake_short (by omega)]
    go_enter Tryz.func40,Tryz.ntmps40
    go_wp2
    go_ret2
    exact ⟨none,0,0,rfl,OwS.nil_ _ _ _,Below.refl _ _⟩
  · obtain ⟨xh,hh⟩:∃ xh,bs.take (n - 4)=xh:=⟨_,rfl⟩
    obtain ⟨xs,hs⟩:∃ xs,bs.drop (n - 4)=xs:=⟨_,rfl⟩
    have lh:xh.length=n - 4:=by rw [← hh,List.length_take];omega
    have ls:xs.length=4:=by rw [← hs,List.length_drop];omega
    have hcs:=csum_lt xh
    rw [ftake_parts (h:=xh) (s:=xs) (by omega) ls (by rw [← hh,← hs,List.take_append_drop])]
    obtain ⟨b1,hb1⟩:∃ b,(xh.take 4 == be m 4)=b:=⟨_,rfl⟩
    obtain ⟨b2,hb2⟩:∃ b,(xs == be (csum xh) 4)=b:=⟨_,rfl⟩
    have hgoal:(if xh.take 4=be m 4 then (if xs=be (csum xh) 4 then (xh.drop 4,(0:Int)) else ([],6)) else ([],5))=if b1=true then (if b2=true then (xh.drop 4,0) else ([],6)) else ([],5):=by
      rw [← hb1,← hb2]
      simp only [beq_iff_eq]
    rw [hgoal]
    obtain ⟨r,hr0⟩:∃ r,(if b1=true then (if b2=true then (xh.drop 4,(0:Int)) else ([],6)) else ([],5))=r:=⟨_,rfl⟩
    rw [hr0]
    have HR:=Lib.hid hr0
    have H1:=Lib.hid hb1
    have H2:=Lib.hid hb2
    have Hh:=Lib.hid hh
    have Hs:=Lib.hid hs
    have Lh:=Lib.hid lh
    obtain ⟨n4,hn4⟩:∃ k,n=k+4:=⟨n - 4,by omega⟩
    subst hn4
    rw [Nat.add_sub_cancel] at *
    have h8i:decide ((n4:Int)+4 < 8)=false:=decide_eq_false (by omega)
    have h8n:decide (n4+4 < 8)=false:=decide_eq_false (by omega)
    clear hgoal hr0 hb1 hb2 hh hs lh ls
    go_enter Tryz.func40,Tryz.ntmps40
    go_wp2
    have q1:=RdC.of_reach (B':=w.heap.size) (hr.step (bdrew1 w)) (Nat.le_refl _)
    refine wp_region_tree (.float 0 9 .done) (Th.Reach w.heap.size) (Th.Reach.trans _) (Th.Reach.refl _) (by kernel_rfl) (by kernel_rfl) (fun KT hKT=>?_)
    repeat' first
      | ((with_reducible refine wpTree_done ?_);refine hKT _ _ ?_;clear hKT KT)
      | ((with_reducible refine wpTree_float (fun KF hKF=>?_));(simp only [List.drop,List.take]);(repeat (first | go_big_quiet_skip | ((with_reducible refine onq_sl (.tmp 15) ?_);refine wq_cut_hm rfl _ (.tmp 15) el_u8 rfl q1 (Th.Reach.refl _ _) _ _ rfl rfl rfl n4 (by omega) ?_;intro A18 r18) | ((with_reducible refine onq_sl (.tmp 19) ?_);refine wq_cut_l rfl _ (.tmp 19) el_u8 rfl q1 (Th.Reach.refl _ _) _ rfl rfl n4 (by omega) ?_;intro A21 r21) | go_big_quiet_step (fail) | quiet_step (fail)));refine wpQuiet_nil ?_;refine hKF _ ?_;clear hKF KF)
    have ra:=r18.rd w.drew (Th.Reach.refl _ _)
    have rs:=r21.rd w.drew (Th.Reach.refl _ _)
    rw [Hh.out] at ra
    rw [Hs.out,show n4+4 - n4=4 by omega] at rs
    have B1:Below w.heap.size w w.drew:=bdrew1 w
    clear q1 r18 r21 hr
    generalize w.drew=w1 at B1 ra rs ⊢
    have z1:=B1.size
    go_wp2
    have q2:=RdC.of_reach (B':=w1.heap.size) (ra.step (bdrew1 w1)) z1
    refine wp_region_tree (.float 0 3 (.one 3 (.one 4 (.float 5 1 .done)))) (Th.Reach w1.heap.size) (Th.Reach.trans _) (Th.Reach.refl _) (by kernel_rfl) (by kernel_rfl) (fun KT hKT=>?_)
    repeat' first
      | ((with_reducible refine wpTree_done ?_);refine hKT _ _ ?_;clear hKT KT)
      | ((with_reducible refine wpTree_float (fun KF hKF=>?_));(simp only [List.drop,List.take]);(repeat (first | go_big_quiet_skip | ((with_reducible refine onq_sl (.tmp 22) ?_);refine wq_cut_hm rfl _ (.tmp 22) el_u8 rfl q2 (Th.Reach.refl _ _) _ _ rfl rfl rfl 4 (by omega) ?_;intro A23 r23) | go_big_quiet_step (fail) | quiet_step (fail)));refine wpQuiet_nil ?_;refine hKF _ ?_;clear hKF KF)
      | ((with_reducible refine wpTree_one (fun KO hKO=>?_));(simp only [List.drop,List.take]);(go_wp2_with (first | (go_at_call 37;refine (four_any m hm _ rfl w1.drew).mono ?_;rintro e w3 ⟨A3,c3,rfl,how3,hb3⟩;have hb3:Below w1.heap.size w1.drew w3:=hb3) | (go_at_call 93;refine (equal_any _ _ _ _ _ _ w3 _ _ _ _ (r23.rd w3 (Th.Reach.of hb3)) how3.rd b1 H1.out).mono ?_;rintro e w4 ⟨rfl,rfl⟩)));(refine anch_end (Th.Reach.of (by first | exact Below.refl _ _ | exact below_alloc _ (by first | omega | (simp;done) | (simp;omega)) _ | exact below_alloc2 _ (by first | omega | (simp;done) | (simp;omega)) _ _ | exact below_alloc2d _ (by simp) _ _ | exact bdrew _ _ | assumption | (exact Below.mono (by assumption) (by first | (simp;done) | (simp;omega) | omega | assumption)))) (hKO _ _ ?_));clear hKO KO)
    have B3:=B1.trans (((bdrew1 w1).trans hb3).mono z1)
    have z3:=B3.size
    have ra:=ra.step ((bdrew1 w1).trans hb3)
    have rs:=rs.step ((bdrew1 w1).trans hb3)
    clear q2 r23 how3 hb3 B1
    cases b1 with
    | false =>
      go_wp2
      go_ret2
      rw [← HR.out]
      exact ⟨none,0,0,rfl,OwS.nil_ _ _ _,B3⟩
    | true =>
      go_wp2_with fail
      refine (sum_any A18 _ _ w3 (by omega) _ (ra.more z3)).mono ?_
      rintro e w5 ⟨rfl,hb5⟩
      have ra:=ra.step hb5
      have rs:=rs.step hb5
      have B5:=B3.trans (hb5.mono z3)
      have z5:=B5.size
      go_wp2_with fail
      refine (four_any (csum xh) hcs _ rfl w5).mono ?_
      rintro e w6 ⟨A6,c6,rfl,how6,hb6⟩
      have ra:=ra.step hb6
      have rs:=rs.step hb6
      have B6:=B5.trans (hb6.mono z5)
      have z6:=B6.size
      go_wp2_with fail
      refine (equal_any _ _ _ _ _ _ w6 _ _ _ _ rs how6.rd b2 H2.out).mono ?_
      rintro e w7 ⟨rfl,rfl⟩
      cases b2 with
      | false =>
        go_wp2
        go_ret2
        rw [← HR.out]
        exact ⟨none,0,0,rfl,OwS.nil_ _ _ _,B6⟩
      | true =>
        have ht:xh.take n4=xh:=List.take_of_length_le (by rw [Lh.out];exact Nat.le_refl _)
        go_wp2_with ((with_reducible refine on_slice (.tmp 34) ?_);refine wl_cut_lhm rfl _ (.tmp 34) el_u8 rfl ra _ _ _ rfl rfl rfl rfl 4 n4 n4 (by omega) ?_;intro A9 r9;rw [ht] at r9)
        go_wp2_with fail
        refine (own_any _ _ _ w6 (by omega) _ _ r9).mono ?_
        rintro e w8 ⟨A8,n8,c8,rfl,how8,hb8⟩
        go_wp2
        go_ret2
        rw [← HR.out]
        exact ⟨A8,n8,c8,rfl,how8.base_le z6,B6.trans (hb8.mono z6)⟩
open Go.Th
def lrows (l:List Ru):List UInt8:=l.flatMap fun r=>pre r 4
def lbody (l:List Ru):List UInt8:=gput l.length ++ lrows l
def nrows (ns:List (List Ru)):List UInt8:=ns.flatMap fun l=>fsec 84 (lbody l)
def nbody (ns:List (List Ru)):List UInt8:=gput ns.length ++ nrows ns
theorem lrows_length (l:List Ru):(lrows l).length=8 * l.length:=by
  induction l with
  | nil=>rfl
  | cons r l ih =>
    have e:lrows (r :: l)=pre r 4 ++ lrows l:=by simp [lrows]
    rw [e,List.length_append,pre_length,ih,List.length_cons]
    omega
theorem lrows_take {l:List Ru} {k:Nat} {r:Ru} (h:l[k]? = some r):lrows (l.take (k+1))=lrows (l.take k) ++ pre r 4:=by
  unfold lrows
  rw [List.take_add_one,h]
  simp
theorem nrows_take {ns:List (List Ru)} {k:Nat} {l:List Ru} (h:ns[k]? = some l):nrows (ns.take (k+1))=nrows (ns.take k) ++ fsec 84 (lbody l):=by
  unfold nrows
  rw [List.take_add_one,h]
  simp
theorem lbody_length (l:List Ru):(lbody l).length=gsize l.length+8 * l.length:=by simp [lbody,lrows_length,gput_length]
theorem nrows_le (ns:List (List Ru)) (h:∀ l∈ns,l.length < 268435456):(nrows ns).length≤9 * ns.length+8 * nsize ns:=by
  induction ns with
  | nil=>simp [nrows,nsize]
  | cons l ls ih =>
    have e:nrows (l :: ls)=fsec 84 (lbody l) ++ nrows ls:=by simp [nrows]
    have h1:=ih (fun x hx=>h x (by simp [hx]))
    have h2:=gsize_pos l.length
    have h3:=gsize_pos (lbody l).length
    rw [e,List.length_append,fsec_length,List.length_cons]
    have h4:=lbody_length l
    unfold nsize at h1 ⊢
    simp only [List.map_cons,List.sum_cons]
    omega
end Go.Proofs.YtjandnidljbkoaaGreat
namespace Go.Th
section
variable {P:Program} {ops:Array Oper} {rest:List Oper} {o:Oper} {a:Act} {Q:Act→Prop} {w:World}
end
end Go.Th
namespace Go.Proofs.YtjandnidljbkoaaGreat
open Go.RowKit Go.Th
theorem ftake_isP (m:Nat) (hm:m < 4294967296) (M:Int) (hM:(m:Int)=M) (A:Option Addr) (n c:Nat) (w:World) (hn:n≤1000000) (bs:List UInt8) (hr:RdS bv w w.heap.size A n c bs) (x:List UInt8) (er:Int) (h:ftake m bs=(x,er)) :
    Calls Tryz.prog 40 #[.int .u32 M,.slice A n c] w fun e w'=>∃ A' n' c',e=.returned (.tuple #[.slice A' n' c',.int .i64 er])∧OwS bv w' w.heap.size 5 A' n' c' x∧Below w.heap.size w w':=by
  have:=ftake_any m hm M hM A n c w hn bs hr
  rw [h] at this
  exact this
end Go.Proofs.YtjandnidljbkoaaGreat
namespace Go.Th
open Go.RowKit
section
variable {P:Program} {ops:Array Oper} {rest:List Oper} {o:Oper} {a:Act} {Q:Exit→Act→World→Prop} {w:World}
theorem wl_newBox (hw:Region.wanted o (yielded ops a.tmps)=true) (T:TypeId) (ho:o.op=.alloc T) {cs:Array Value} {k:Nat} (hz:(P.info? T).map (fun i=>(i.zero.map Value.cells,i.size))=some (some cs,k))
    (h:∀ g w',w.heap.size≤g→g < w'.heap.size→Box w' g T cs→Below w.heap.size w w'→wpList P ops Q rest (a.put o.dst (.pointer (some ⟨g,0,none⟩))) w'):wpList P ops Q (o :: rest) a w:=by
  cases hi:P.info? T with
  | none=>rw [hi] at hz;simp at hz
  | some i =>
    rw [hi] at hz
    simp only [Option.map_some,Option.some.injEq,Prod.mk.injEq,Option.map_eq_some_iff] at hz
    obtain ⟨⟨z,hz1,hz2⟩,_⟩:=hz
    refine wl_run hw (v:=.pointer (some ⟨w.heap.size,0,none⟩)) ?_ (h _ (w.alloc (.cells cs T)) (Nat.le_refl _) (by simp) (Box.new w cs T) (below_alloc w (Nat.le_refl _) _))
    simp [execOp,ho,Instr.alloc,zeroValue,typeInfo,hi,hz1,newVar,newRow,hz2]
theorem on_makeL (l:Operand) {d t c ty pos af g} (h:wpList P ops Q (⟨d,.makeSlice t l c,ty,pos,af,g⟩ :: rest) a w):wpList P ops Q (⟨d,.makeSlice t l c,ty,pos,af,g⟩ :: rest) a w:=h
theorem on_alloc {T:TypeId} {d ty pos af g} (h:wpList P ops Q (⟨d,.alloc T,ty,pos,af,g⟩ :: rest) a w):wpList P ops Q (⟨d,.alloc T,ty,pos,af,g⟩ :: rest) a w:=h
theorem OwS.lt {α:Type} {f:α→Value} {base e n c g:Nat} {w:World} {xs:List α} (h:OwS f w base e (some ⟨g,0,none⟩) n c xs):base≤g∧g < w.heap.size:=by
  rcases h.ow.form with ⟨e,_⟩ | ⟨g',e,hb,hl⟩
  · cases e
  · injection e with e;injection e with e;subst e;exact ⟨hb,hl⟩
end
section
variable {P:Program} {ops:Array Oper} {rest:List Oper} {o:Oper} {a:Act} {C:World→Prop} {Q:Act→Prop}
end
structure KStep (g:Nat) (w0:World) where
  w:World
  h:w.heap[g]? = w0.heap[g]?
instance (g:Nat) (w:World):Nonempty (KStep g w):=⟨⟨w,rfl⟩⟩
def KReach (g:Nat) (w w':World):Prop:=∃ p:KStep g w,w' = p.w
theorem KReach.of {g:Nat} {w w':World} (h:w'.heap[g]? = w.heap[g]?):KReach g w w':=⟨⟨w',h⟩,rfl⟩
theorem KReach.refl (g:Nat) (w:World):KReach g w w:=.of rfl
theorem KReach.trans (g:Nat) (x y z:World) (h1:KReach g x y) (h2:KReach g y z):KReach g x z:=by
  obtain ⟨p,rfl⟩:=h1
  obtain ⟨q,rfl⟩:=h2
  exact .of (q.h.trans p.h)
attribute [go_sem] KReach
theorem keep_alloc {g:Nat} (w:World) (o:Obj) (h:g < w.heap.size):(w.alloc o).heap[g]? = w.heap[g]?:=(below_alloc w (Nat.le_refl _) o).block g h
theorem keep_grown {g:Nat} {w w':World} {row:Option Nat} (h:w.grownBy w' row) (hl:g < w.heap.size) (hne:row≠some g):w'.heap[g]? = w.heap[g]?:=h.block g hl (fun e=>hne e.symm)
theorem Box.keep {w:World} {g:Nat} {t:TypeId} {cs:Array Value} (h:Box w g t cs) (q:KStep g w):Box q.w g t cs:=⟨q.h.trans h.at_⟩
open Go.RowKit
structure KSStep (S:Addr→Prop) (w0:World) where
  w:World
  h:∀ a,S a→w.cell? a=w0.cell? a
instance (S:Addr→Prop) (w:World):Nonempty (KSStep S w):=⟨⟨w,fun _ _=>rfl⟩⟩
def KSReach (S:Addr→Prop) (w w':World):Prop:=∃ p:KSStep S w,w' = p.w
theorem KSReach.of {S:Addr→Prop} {w w':World} (h:∀ a,S a→w'.cell? a=w.cell? a):KSReach S w w':=⟨⟨w',h⟩,rfl⟩
theorem KSReach.refl (S:Addr→Prop) (w:World):KSReach S w w:=.of fun _ _=>rfl
theorem KSReach.trans (S:Addr→Prop) (x y z:World) (h1:KSReach S x y) (h2:KSReach S y z):KSReach S x z:=by
  obtain ⟨p,rfl⟩:=h1
  obtain ⟨q,rfl⟩:=h2
  exact .of fun a ha=>(q.h a ha).trans (p.h a ha)
attribute [go_sem] KSReach
theorem ks_alloc {S:Addr→Prop} (w:World) (o:Obj) (h:∀ a,S a→a.block < w.heap.size):∀ a,S a→(w.alloc o).cell? a=w.cell? a:=fun a ha=>World.cell?_alloc_lt w o a (h a ha)
open Go.RowKit
section
variable {P:Program} {ops:Array Oper} {rest:List Oper} {o:Oper} {a:Act} {Q:Exit→Act→World→Prop} {w:World}
end
open Go.RowKit
section
variable {P:Program} {ops:Array Oper} {G:World→World→Prop} {md:Region.Mode} {L:Nat}
def Gof (L:Nat) (G:World→World→Prop) (i:Nat):World→World→Prop:=fun w w'=>i=L∨G w w'
def anyL (P:Program) (md:Region.Mode) (ops:Array Oper) (L:Nat) (G:World→World→Prop) (Q:Act→World→Prop):Nat→Array Bool→Act→World→Prop
  | 0,listed,a,w=>Region.ready md ops listed=[]∧Q a w
  | fuel+1,listed,a,w =>
    (Region.ready md ops listed=[]→Q a w) ∧
    ∀ i∈Region.ready md ops listed,opG P ops (Gof L G i) i (anyL P md ops L G Q fuel (listed.setIfInBounds i true)) a w
theorem wpAny_of_anyL {Q:Act→World→Prop} {Q':Exit→Act→World→Prop} (hQ:∀ a w,Q a w→Q' .normal a w):∀ (fuel:Nat) (listed:Array Bool) (a:Act) (w:World),anyL P md ops L G Q fuel listed a w→wpAny P md ops Q' fuel listed a w
  | 0,_,_,_,h=>⟨h.1,hQ _ _ h.2⟩
  | fuel+1,listed,a,w,h=>by
    refine ⟨fun h0=>hQ _ _ (h.1 h0),fun i hi=>?_⟩
    have h1:=h.2 i hi
    unfold opG at h1
    unfold wpOp
    split
    · rename_i ho
      simp only [ho] at h1
      exact wpAny_of_anyL hQ fuel _ _ _ h1
    · rename_i o ho
      simp only [ho] at h1
      split
      · rename_i hw
        simp only [hw,if_true] at h1
        exact .inl (wp_weak (fun a' w' hh=>wpAny_of_anyL hQ fuel _ _ _ hh.2) h1)
      · rename_i hw
        simp only [hw] at h1
        exact wpAny_of_anyL hQ fuel _ _ _ h1
theorem yields_opGof {i:Nat} {o:Oper} {v:Value} {a:Act} {w:World} (hr:∀ x,G x x) (hi:ops[i]? = some o) (hy:YieldsG P ops G o v a w) {K:Act→World→Prop} (h:K (a.put o.dst v) w):opG P ops (Gof L G i) i K a w:=by
  have:=hy.opG hr hi h
  unfold Go.Th.opG at *
  simp only [hi] at *
  split
  · rename_i hw
    simp only [hw,if_true] at this
    exact wp_weak (fun a' w' q=>⟨.inr q.1,q.2⟩) this
  · rename_i hw
    simp only [hw] at this
    exact this
def hangs (md:Region.Mode) (ops:Array Oper):Nat→Nat→Nat→Bool
  | 0,_,_=>false
  | n+1,j,i=>match ops[j]? with
    | none=>false
    | some o=>o.after.any fun e=>Region.binds md e && (e.on == i || hangs md ops n e.on i)
def lastB (md:Region.Mode) (ops:Array Oper) (L:Nat):Bool:=(List.range ops.size).all fun i=>i == L || hangs md ops 4 L i
def ClosedL (md:Region.Mode) (ops:Array Oper) (listed:Array Bool):Prop:=∀ k o,ops[k]? = some o→listed.getD k true=true→∀ e∈o.after,Region.binds md e=true→listed.getD e.on true=true
theorem hangs_listed {listed:Array Bool} (hc:ClosedL md ops listed) {i:Nat}:∀ (n j:Nat) (oj:Oper),ops[j]? = some oj→(∀ e∈oj.after,Region.binds md e=true→listed.getD e.on true=true)→hangs md ops n j i=true→listed.getD i true=true
  | 0,_,_,_,_,h=>by cases h
  | n+1,j,oj,hj,hl,h=>by
    unfold hangs at h
    rw [hj] at h
    simp only [Array.any_eq_true',Bool.and_eq_true,Bool.or_eq_true,beq_iff_eq] at h
    obtain ⟨e,he,hb,h2⟩:=h
    have h3:=hl e he hb
    rcases h2 with h2 | h2
    · rw [← h2];exact h3
    · cases ho:ops[e.on]? with
      | none=>cases n <;> simp [hangs,ho] at h2
      | some o=>exact hangs_listed hc n e.on o ho (hc _ _ ho h3) h2
theorem lastB_spec (h:lastB md ops L=true) {listed:Array Bool} (hc:ClosedL md ops listed) {i j:Nat} {oi oj:Oper} (hi:ops[i]? = some oi) (hj:ops[j]? = some oj) (hji:j≠i) (hun:listed.getD i true=false) (hall:∀ e∈oj.after,Region.binds md e=true→listed.getD e.on true=true):j≠L:=by
  intro e
  subst e
  unfold lastB at h
  simp only [List.all_eq_true,List.mem_range,Bool.or_eq_true,beq_iff_eq] at h
  rcases h i (Array.getElem?_eq_some_iff.1 hi).1 with h | h
  · exact hji h.symm
  · have:=hangs_listed hc 4 j oj hj hall h
    rw [hun] at this
    cases this
theorem getD_up {listed:Array Bool} {k:Nat} (h:listed.getD k false=true):listed.getD k true=true:=by
  unfold Array.getD at *
  split
  · rename_i hk;simpa [hk] using h
  · rfl
theorem ClosedL.set {listed:Array Bool} (hc:ClosedL md ops listed) {j:Nat} (hj:j∈Region.ready md ops listed):ClosedL md ops (listed.setIfInBounds j true):=by
  obtain ⟨hjun,oj,hoj,hall⟩:=mem_ready.1 hj
  have up:∀ k,listed.getD k true=true→(listed.setIfInBounds j true).getD k true=true:=by
    intro k hk
    by_cases e:j=k
    · subst e
      simp [Array.getD]
    · rw [getD_set_ne true e];exact hk
  intro k o hk hl e he hb
  by_cases ek:j=k
  · subst ek
    rw [hoj] at hk
    injection hk with hk
    subst hk
    exact up _ (getD_up (hall e he hb))
  · rw [getD_set_ne true ek] at hl
    exact up _ (hc k o hk hl e he hb)
theorem ClosedL.start:ClosedL md ops (Array.replicate ops.size false):=by
  intro k o hk hl
  have:=(Array.getElem?_eq_some_iff.1 hk).1
  simp [Array.getD,this] at hl
theorem anyL_first {Q:Act→World→Prop} {i:Nat} {oi:Oper} {v:Value} (hG:∀ x y z,G x y→G y z→G x z) (hr0:∀ x,G x x) (hLB:lastB md ops L=true) (hi:ops[i]? = some oi) (hsel:∀ (j:Nat) (o:Oper) cs b,ops[j]? = some o→o.op≠.select cs b) :
    ∀ (fuel:Nat) (listed:Array Bool) (a:Act) (w:World),ClosedL md ops listed →
      (∀ j oj,ops[j]? = some oj→j≠i→listed.getD j true=false→(∀ e∈oj.after,Region.binds md e=true→e.on≠i)→oi.apart ops oj=true) →
      i∈Region.ready md ops listed→YieldsG P ops G oi v a w →
      anyL P md ops L G Q fuel (listed.setIfInBounds i true) (a.put oi.dst v) w→anyL P md ops L G Q (fuel+1) listed a w:=by
  intro fuel
  induction fuel with
  | zero =>
    intro listed a w hcl _ hr hy H
    refine ⟨fun h=>(by rw [h] at hr;cases hr),fun j hj=>?_⟩
    by_cases hji:j=i
    · subst hji;exact yields_opGof hr0 hi hy H
    · have:=ready_mono hj hji
      rw [H.1] at this
      cases this
  | succ fuel ih =>
    intro listed a w hcl hfree hr hy H
    refine ⟨fun h=>(by rw [h] at hr;cases hr),fun j hj=>?_⟩
    by_cases hji:j=i
    · subst hji;exact yields_opGof hr0 hi hy H
    · have h1:=H.2 j (ready_mono hj hji)
      obtain ⟨hjun,oj,hoj,hall⟩:=mem_ready.1 hj
      have hnot:∀ e∈oj.after,Region.binds md e=true→e.on≠i:=fun e he hb heq=>by
        have h1:=hall e he hb
        have h0:=(mem_ready.1 hr).1
        rw [heq] at h1
        rcases Nat.lt_or_ge i listed.size with h' | h'
        · simp [h'] at h0 h1;rw [h0] at h1;cases h1
        · simp [Array.getElem?_eq_none h'] at h1
      have hjL:j≠L:=lastB_spec hLB hcl hi hoj hji (mem_ready.1 hr).1 (fun e he hb=>getD_up (hall e he hb))
      have eG:Gof L G j=G:=by funext x y;simp [Gof,hjL]
      rw [eG] at h1 ⊢
      have h2:=opG_put hG hoj (hfree j oj hoj hji hjun hnot) (fun cs b=>hsel i oi cs b hi) (fun cs b=>hsel j oj cs b hoj) hy h1
      have hfree':∀ k ok,ops[k]? = some ok→k≠i→(listed.setIfInBounds j true).getD k true=false →
          (∀ e∈ok.after,Region.binds md e=true→e.on≠i)→oi.apart ops ok=true:=fun k ok hk hki hun hno=>by
        refine hfree k ok hk hki ?_ hno
        by_cases hjk:j=k
        · subst hjk;exact hjun
        · rw [getD_set_ne true hjk] at hun;exact hun
      refine opG_mono (fun a' w' _ h3=>ih (listed.setIfInBounds j true) a' w' (hcl.set hj) hfree' (ready_mono hr (Ne.symm hji)) h3.1 ?_) h2
      rw [Array.setIfInBounds_comm _ _ hji]
      exact h3.2
def wpTreeL (P:Program) (ops:Array Oper) (L:Nat) (G:World→World→Prop) (Q:Act→World→Prop) (l:List Oper):Tree→Act→World→Prop
  | .done,a,w=>Q a w
  | .float s n t,a,w=>wpQuiet P ops (G w) (fun a'=>wpTreeL P ops L G Q l t a' w) ((l.drop s).take n) a
  | .one i t,a,w=>wpList P ops (Anch (Gof L G i) w (wpTreeL P ops L G Q l t)) ((l.drop i).take 1) a w
  | .two i t j u,a,w=>wpList P ops (Anch (Gof L G i) w (wpTreeL P ops L G Q l t)) ((l.drop i).take 1) a w∧wpList P ops (Anch (Gof L G j) w (wpTreeL P ops L G Q l u)) ((l.drop j).take 1) a w
  | .three i t j u k v,a,w=>wpList P ops (Anch (Gof L G i) w (wpTreeL P ops L G Q l t)) ((l.drop i).take 1) a w∧wpList P ops (Anch (Gof L G j) w (wpTreeL P ops L G Q l u)) ((l.drop j).take 1) a w∧wpList P ops (Anch (Gof L G k) w (wpTreeL P ops L G Q l v)) ((l.drop k).take 1) a w
theorem anyL_floats {Q:Act→World→Prop} (hG:∀ x y z,G x y→G y z→G x z) (hr0:∀ x,G x x) (hLB:lastB .any ops L=true) (hs:Region.noSelect ops=true) (l:List Oper) (hl:l.toArray=ops) (K:Act→World→Prop) (fuel:Nat) (w:World) :
    ∀ (n s:Nat) (listed:Array Bool) (a:Act),ClosedL .any ops listed→floatsB ops n s listed=true→(∀ a',K a' w→ClosedL .any ops (listAll n s listed)→anyL P .any ops L G Q fuel (listAll n s listed) a' w) →
      wpQuiet P ops (G w) (fun a'=>K a' w) ((l.drop s).take n) a→anyL P .any ops L G Q (n+fuel) listed a w:=by
  intro n
  induction n with
  | zero=>intro s listed a hcl _ hK h;rw [Nat.zero_add];rw [List.take_zero] at h;exact hK a h hcl
  | succ n ih =>
    intro s listed a hcl hB hK h
    simp only [floatsB,Bool.and_eq_true] at hB
    obtain ⟨⟨⟨hr,hf⟩,hc⟩,hB'⟩:=hB
    unfold calmAt at hc
    cases ho:ops[s]? with
    | none=>rw [ho] at hc;simp at hc
    | some o =>
      rw [ho] at hc
      have hlt:s < l.length:=by
        have:=(Array.getElem?_eq_some_iff.1 ho).1
        rw [← hl] at this;simpa using this
      have hlo:l[s]=o:=by
        have h1:=(Array.getElem?_eq_some_iff.1 ho).2
        subst hl
        simpa using h1
      rw [List.drop_eq_getElem_cons hlt,List.take_succ_cons,hlo] at h
      have hst:qOp P ops (G w) s (wpQuiet P ops (G w) (fun a'=>K a' w) ((l.drop (s+1)).take n)) a:=by unfold qOp;simp only [ho];exact h
      obtain ⟨v,hy,hK1⟩:=yieldsIn_of_qOp ho hst
      rw [show n+1+fuel=(n+fuel)+1 by omega]
      exact anyL_first hG hr0 hLB ho (Region.noSelect_spec hs) (n+fuel) listed a w hcl (Region.free_spec ho hf) (by simpa using hr) (yieldsG_of_in hc hy)
        (ih (s+1) _ _ (hcl.set (by simpa using hr)) hB' hK hK1)
theorem anyL_tree {Q:Act→World→Prop} (hG:∀ x y z,G x y→G y z→G x z) (hr0:∀ x,G x x) (hLB:lastB .any ops L=true) (hs:Region.noSelect ops=true) (l:List Oper) (hl:l.toArray=ops) :
    ∀ (t:Tree) (listed:Array Bool) (a:Act) (w:World),ClosedL .any ops listed→t.okB ops listed=true→wpTreeL P ops L G Q l t a w→anyL P .any ops L G Q t.len listed a w
  | .done,listed,a,w,hcl,hB,h=>⟨by simpa [Tree.okB] using hB,h⟩
  | .float s n t,listed,a,w,hcl,hB,h=>by
    simp only [Tree.okB,Bool.and_eq_true] at hB
    exact anyL_floats hG hr0 hLB hs l hl (wpTreeL P ops L G Q l t) t.len w n s listed a hcl hB.1 (fun a' h' hc'=>anyL_tree hG hr0 hLB hs l hl t _ a' w hc' hB.2 h') h
  | .one i t,listed,a,w,hcl,hB,h=>by
    simp only [Tree.okB,Bool.and_eq_true,decide_eq_true_eq] at hB
    refine ⟨fun h0=>absurd (hB.1 ▸ h0) (by simp),fun k hk=>?_⟩
    have hk':=hk
    rw [hB.1] at hk'
    have hk':=List.mem_singleton.1 hk'
    subst hk'
    exact opG_anch l hl hk (fun a w h=>anyL_tree hG hr0 hLB hs l hl t _ a w (hcl.set hk) hB.2 h) h
  | .two i t j u,listed,a,w,hcl,hB,h=>by
    simp only [Tree.okB,Bool.and_eq_true,decide_eq_true_eq,beq_iff_eq] at hB
    obtain ⟨⟨⟨h1,h2⟩,h3⟩,h4⟩:=hB
    refine ⟨fun h0=>absurd (h1 ▸ h0) (by simp),fun k hk=>?_⟩
    have hk':=hk
    rw [h1] at hk'
    simp at hk'
    rcases hk' with hk' | hk'
    · subst hk'
      exact opG_anch l hl hk (fun a w h=>anyL_tree hG hr0 hLB hs l hl t _ a w (hcl.set hk) h3 h) h.1
    · subst hk'
      exact opG_anch l hl hk (fun a w h=>by have:=anyL_tree hG hr0 hLB hs l hl u _ a w (hcl.set hk) h4 h;rw [← h2] at this;exact this) h.2
  | .three i t j u m v,listed,a,w,hcl,hB,h=>by
    simp only [Tree.okB,Bool.and_eq_true,decide_eq_true_eq,beq_iff_eq] at hB
    obtain ⟨⟨⟨⟨⟨h1,h2⟩,h2'⟩,h3⟩,h4⟩,h5⟩:=hB
    refine ⟨fun h0=>absurd (h1 ▸ h0) (by simp),fun k hk=>?_⟩
    have hk':=hk
    rw [h1] at hk'
    simp at hk'
    rcases hk' with hk' | hk' | hk'
    · subst hk'
      exact opG_anch l hl hk (fun a w h=>anyL_tree hG hr0 hLB hs l hl t _ a w (hcl.set hk) h3 h) h.1
    · subst hk'
      exact opG_anch l hl hk (fun a w h=>by have:=anyL_tree hG hr0 hLB hs l hl u _ a w (hcl.set hk) h4 h;rw [← h2] at this;exact this) h.2.1
    · subst hk'
      exact opG_anch l hl hk (fun a w h=>by have:=anyL_tree hG hr0 hLB hs l hl v _ a w (hcl.set hk) h5 h;rw [← h2'] at this;exact this) h.2.2
theorem wp_region_treeL (L:Nat) (t:Tree) (G:World→World→Prop) (hG:∀ x y z,G x y→G y z→G x z) (hr0:∀ x,G x x) {id:Nat} {Q:Exit→Act→World→Prop} {a:Act} {w:World} {l:List Oper} (hm:P.follows .mixedOrders=true) (hLB:lastB .any l.toArray L=true) (hB:treeB l.toArray t=true)
    (h:∀ K:Act→World→Prop,(∀ a w',Q .normal a w'→K a w')→wpTreeL P l.toArray L G K l t a w.drew):(Code.region id l.toArray true).wp P Q a w:=by
  simp only [treeB,Bool.and_eq_true,beq_iff_eq] at hB
  obtain ⟨⟨h1,h2⟩,h3⟩:=hB
  refine wp_region_any hm (wpAny_of_anyL (Q:=Q .normal) (G:=G) (L:=L) (fun _ _ h=>h) _ _ _ _ ?_)
  have:=anyL_tree hG hr0 hLB h1 l rfl t _ a _ ClosedL.start h3 (h _ (fun _ _ h=>h))
  rw [h2] at this
  exact this
theorem wpTreeL_done {Q:Act→World→Prop} {l:List Oper} {a:Act} {w:World} (h:Q a w):wpTreeL P ops L G Q l .done a w:=h
theorem wpTreeL_float {Q:Act→World→Prop} {l:List Oper} {a:Act} {w:World} {s n:Nat} {t:Tree}
    (h:∀ K:Act→Prop,(∀ a',wpTreeL P ops L G Q l t a' w→K a')→wpQuiet P ops (G w) K ((l.drop s).take n) a):wpTreeL P ops L G Q l (.float s n t) a w:=h _ (fun _ h=>h)
theorem wpTreeL_one {Q:Act→World→Prop} {l:List Oper} {a:Act} {w:World} {i:Nat} {t:Tree}
    (h:∀ K:Act→World→Prop,(∀ a' w',wpTreeL P ops L G Q l t a' w'→K a' w')→wpList P ops (Anch (Gof L G i) w K) ((l.drop i).take 1) a w):wpTreeL P ops L G Q l (.one i t) a w:=h _ (fun _ _ h=>h)
theorem wpTreeL_two {Q:Act→World→Prop} {l:List Oper} {a:Act} {w:World} {i j:Nat} {t u:Tree}
    (h1:wpTreeL P ops L G Q l (.one i t) a w) (h2:wpTreeL P ops L G Q l (.one j u) a w):wpTreeL P ops L G Q l (.two i t j u) a w:=⟨h1,h2⟩
end
theorem anch_last {L:Nat} {G:World→World→Prop} {w w':World} {K:Act→World→Prop} {a:Act} (h:K a w'):Anch (Gof L G L) w K .normal a w':=⟨rfl,.inl rfl,h⟩
theorem anch_endL {L i:Nat} {G:World→World→Prop} {w w':World} {K:Act→World→Prop} {a:Act} (hG:G w w') (h:K a w'):Anch (Gof L G i) w K .normal a w':=⟨rfl,.inr hG,h⟩
open Go.RowKit
set_option linter.unusedSimpArgs false
section
variable {P:Program} {ops:Array Oper} {rest:List Oper} {o:Oper} {a:Act} {Q:Exit→Act→World→Prop} {w:World}
end
open Go.ChangeShapes Go.WideShapes Go.ChangeAt Go.RowKit
section
variable {H:Type} {enc:TypeId × Value→H} {P:Program} {w:World} {base:Nat} {spare:Nat→Bool} {held:Bool} {r:Go.Reach} {b0:Nat} {t e:TypeId} {v:Value} {d:DataW H} {p:List MemPlace}
theorem open_array_ints {k:IntKind} {n:Nat} (ht:P.underlying t=some (.array n e)) (he:P.underlying e=some (.int k)) (hc:P.cellsOf e=1) (hct:P.cellsOf t=n) (hv:Value.okWide P w r b0 t v) (h:DataW.Trod enc P w base spare held t v d p) :
    ∃ zs:List Int,v=.agg (zs.map (Value.int k)).toArray∧zs.length=n∧∀ z∈zs,(Lit.int k z).wf=true:=by
  simp only [Value.okWide,ht] at hv
  obtain ⟨cs,rfl,h1,_⟩:=hv
  obtain ⟨fuel,hf⟩:=h
  obtain ⟨xs,m,_,_,hlen,hxl,hg⟩:=DataW.trod_array ht hf
  obtain ⟨l⟩:=cs
  simp only [Value.cells] at hlen hg
  have hcells:∀ i,i < n→∃ z,(l.drop i).take 1=[.int k z]∧(Lit.int k z).wf=true:=by
    intro i hi
    have:=hg i hi
    rw [hc,Nat.mul_one] at this
    have hx:∃ y,xs[i]? = some y:=⟨xs[i]'(by omega),List.getElem?_eq_getElem (by omega)⟩
    obtain ⟨y,hy⟩:=hx
    rw [hy] at this
    obtain ⟨z,hz,_,hw⟩:=DataW.trod_int he this
    exact ⟨z,hz,hw⟩
  have key:∀ (l:List Value) (n:Nat),(∀ i,i < n→∃ z,(l.drop i).take 1=[.int k z]∧(Lit.int k z).wf=true)→l.length=n→∃ zs:List Int,l=zs.map (Value.int k)∧zs.length=n∧∀ z∈zs,(Lit.int k z).wf=true:=by
    intro l
    induction l with
    | nil=>intro n _ hn;exact ⟨[],rfl,by simpa using hn,by simp⟩
    | cons u l ih =>
      intro n hn hl
      rcases n with _ | n
      · simp at hl
      obtain ⟨z,hz,hw⟩:=hn 0 (by omega)
      simp at hz
      obtain ⟨zs,h1,h2,h3⟩:=ih n (fun i hi=>by simpa using hn (i+1) (by omega)) (by simpa using hl)
      exact ⟨z :: zs,by simp [hz,h1],by simp [h2],by simpa using ⟨hw,h3⟩⟩
  obtain ⟨zs,h1,h2,h3⟩:=key l n hcells (by simpa [hct] using hlen)
  exact ⟨zs,by rw [h1],h2,h3⟩
end
end Go.Th
