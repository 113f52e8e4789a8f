/-
  graph.Loop: of a vector of a network that may be.
-/
import Derived.Test.YtjandnidljbkoaaGreatGTpGraph
set_option linter.unusedVariables false
namespace Go.Th
open Go.RowKit
def isz:Option Value→Bool
  | some (.int .i64 x)=>x == 0
  | _=>false
def zeros (w:World) (g n:Nat):Nat:=((List.range n).filter fun i=>isz (w.cell? ⟨g,i,none⟩)).length
theorem zeros_row {w:World} {base e n c g:Nat} {zs:List Int} (h:OwS iv w base e (some ⟨g,0,none⟩) n c zs):zeros w g n=zs.count 0:=by
  have hl:=h.len
  have key:∀ i,i < n→isz (w.cell? ⟨g,i,none⟩)=(zs.getD i 1 == 0):=fun i hi=>by
    have hz:zs[i]? = some (zs[i]'(by omega)):=List.getElem?_eq_getElem _
    obtain ⟨b,o,e,_,hc⟩:=h.rd.rd.at_ i (iv (zs[i]'(by omega))) (by rw [List.getElem?_map,hz];rfl)
    injection e with e
    injection e with e1 e2
    subst e1 e2
    rw [Nat.zero_add] at hc
    rw [hc,List.getD_eq_getElem?_getD,hz]
    rfl
  unfold zeros
  rw [List.filter_congr (fun i hi=>key i (List.mem_range.1 hi))]
  subst hl
  clear key h
  induction zs with
  | nil=>rfl
  | cons z zs ih =>
    rw [List.length_cons,List.range_succ_eq_map,List.filter_cons,List.filter_map,List.count_cons,← ih]
    have e:((fun i=>(z :: zs).getD i 1 == 0) ∘ Nat.succ)=fun i=>zs.getD i 1 == 0:=by
      funext i
      simp
    rw [e]
    simp only [List.getD_cons_zero]
    by_cases hz:z=0
    · simp [hz]
    · simp [hz]
end Go.Th
namespace Go.Proofs.YtjandnidljbkoaaGreat
open Go.RowKit Go.Th
def wmk (ls:List (List Ru)) (a:Int) (v:Nat) (zs:List Int):Nat→List Int
  | 0=>zs
  | t+1=>marks ls a v zs t
theorem wmk_len (ls:List (List Ru)) (a:Int) (v:Nat) (zs:List Int) (t:Nat):(wmk ls a v zs t).length=zs.length:=by
  cases t with
  | zero=>rfl
  | succ t=>exact marks_len ls a v zs t
theorem wmk_set (ls:List (List Ru)) (a:Int) (v:Nat) (zs:List Int) (t:Nat):(wmk ls a v zs t).set (sit ls a v t).1.toNat ((v:Int)+1)=wmk ls a v zs (t+1):=by
  cases t with
  | zero=>rfl
  | succ t=>rfl
structure Way (ls:List (List Ru)) (a:Int) (n v:Nat) (zs:List Int) (t:Nat):Prop where
  goes:∀ j,j≤t→(sit ls a v j).2=true
  inn:∀ j,j≤t→0≤(sit ls a v j).1∧(sit ls a v j).1 < n
  fresh:∀ j,j < t→(wmk ls a v zs j)[(sit ls a v j).1.toNat]? = some 0
theorem Way.init {ls:List (List Ru)} {a:Int} {n v:Nat} {zs:List Int} (h:v < n):Way ls a n v zs 0 :=
  ⟨fun j hj=>by
    obtain rfl:j=0:=by omega
    rfl,fun j hj=>by
    obtain rfl:j=0:=by omega
    exact ⟨by show (0:Int)≤(v:Int);omega,by show (v:Int) < n;omega⟩,fun j hj=>absurd hj (by omega)⟩
theorem Way.next {ls:List (List Ru)} {a:Int} {n v t m:Nat} {zs:List Int} {y:Int} (W:Way ls a n v zs t) (hg:gof ls a (m:Int)=true) (hm:(sit ls a v t).1=(m:Int)) (hs:sit ls a v (t+1)=(y,true)) (hy:0≤y∧y < (n:Int)) (hz:(wmk ls a v zs t)[m]? = some 0):Way ls a n v zs (t+1):=by
  refine ⟨fun j hj=>?_,fun j hj=>?_,fun j hj=>?_⟩
  · by_cases e:j=t+1
    · rw [e,hs]
    · exact W.goes j (by omega)
  · by_cases e:j=t+1
    · rw [e,hs];exact hy
    · exact W.inn j (by omega)
  · by_cases e:j=t
    · rw [e,hm,Int.toNat_natCast];exact hz
    · exact W.fresh j (by omega)
theorem Way.cnt {ls:List (List Ru)} {a:Int} {n v:Nat} {zs:List Int} (hl:zs.length=n):∀ {t:Nat},Way ls a n v zs t→(wmk ls a v zs t).count 0+t≤n
  | 0,W=>by
    have:zs.count 0≤zs.length:=List.count_le_length
    show zs.count 0+0≤n
    omega
  | t+1,W=>by
    have ih:=Way.cnt hl (t:=t) ⟨fun j hj=>W.goes j (by omega),fun j hj=>W.inn j (by omega),fun j hj=>W.fresh j (by omega)⟩
    have:=count_set_zero _ _ ((v:Int)+1) (W.fresh t (by omega)) (by omega)
    rw [wmk_set] at this
    omega
theorem Way.back {ls:List (List Ru)} {a:Int} {n v t:Nat} {zs:List Int} {u:Int} {ok:Bool} (hl:zs.length=n) (W:Way ls a n v zs t) (h0:(wmk ls a v zs t)[(sit ls a v t).1.toNat]? = some 0)
    (fin:(ok=false∧((sit ls a v (t+1)).2=false∨¬ (0≤(sit ls a v (t+1)).1∧(sit ls a v (t+1)).1 < n))) ∨
    ((sit ls a v (t+1)).2=true∧(0≤(sit ls a v (t+1)).1∧(sit ls a v (t+1)).1 < n)∧u=(sit ls a v (t+1)).1∧∃ z,(wmk ls a v zs (t+1))[(sit ls a v (t+1)).1.toNat]? = some z∧z≠0∧ok=(z == (v:Int)+1))) :
    BackR ls a n v zs (wmk ls a v zs (t+1)) u ok t:=by
  refine ⟨?_,W.goes,W.inn,fun j hj=>?_,rfl,fin⟩
  rotate_left
  · by_cases e:j+1 < t
    · exact W.fresh (j+1) e
    · obtain rfl:j+1=t:=by omega
      exact h0
  have h1:=W.cnt hl
  have h2:=count_set_zero _ _ ((v:Int)+1) h0 (by omega)
  rw [wmk_set] at h2
  omega
def GlRel (ls:List (List Ru)) (a:Int) (n:Nat) (w:World) (gs:Nat) (s5 i:Value) (wr:World):Prop :=
  ∃ (v:Nat) (zs:List Int) (found:Bool) (best b5:Int),v≤n∧i=.int .i64 v∧s5=.int .i64 b5∧Hid (b5=if found=true then best else -1)∧OwS iv wr w.heap.size 3 (some ⟨gs,0,none⟩) n n zs∧Hid (LInv ls a n zs found best v)∧Below w.heap.size w wr
def GwRel (ls:List (List Ru)) (a:Int) (n v:Nat) (zs:List Int) (w:World) (gs:Nat) (x:Value) (wr:World):Prop :=
  ∃ t:Nat,x=.int .i64 (sit ls a v t).1∧Hid (Way ls a n v zs t)∧OwS iv wr w.heap.size 3 (some ⟨gs,0,none⟩) n n (wmk ls a v zs t)∧Below w.heap.size w wr
def GLoopR (ls:List (List Ru)) (a:Int) (w:World) (e:Ending) (w':World):Prop :=
  ∃ Al nl cl l,e=.returned (.tuple #[.slice Al nl cl,.int .i64 0])∧OwS iv w' w.heap.size 3 Al nl cl l∧Below w.heap.size w w' ∧
    ((l=[]∧∀ u L,¬ Cyc (hof ls a) (gof ls a) u L) ∨
     (∃ best M,M≤ls.length∧Cyc (hof ls a) (gof ls a) best M∧(∀ j,0 < j→j < M→itr (hof ls a) j best≠best)∧l=sits ls a best M∧∀ u L,Cyc (hof ls a) (gof ls a) u L→best≤u))
set_option maxRecDepth 100000 in
set_option maxHeartbeats 4000000 in
theorem gloop_any (A:Option Addr) (n c:Nat) (ls:List (List Ru)) (a:Int) (w:World) (hN:NetOk ls) (hl:ls.length=n) (hr:RdS iv w w.heap.size A n c (vecOf ls a)) :
    Calls Tryz.prog 28 #[.slice A n c] w (GLoopR ls a w):=by
  have hn:n≤256:=by rw [← hl];exact hN.len
  have hnn:=hN.vec a
  rw [hl] at hnn
  have hI:=inn_of_may (a:=a) hN.rule
  have K0:=Lib.hid (gmay_any A n c _ w hn _ hr hnn)
  have HI:=Lib.hid hI
  have Hl:=Lib.hid hl
  clear hnn hI hN hl
  go_enter Tryz.func28,Tryz.ntmps28
  go_upto_region 1 with fail
  go_step3
  go_upto_region 7 with (first
    | (go_at_call 73;refine (K0.out).mono ?_;rintro e w2 ⟨rfl,rfl⟩)
    | ((with_reducible refine on_makeL _ ?_);refine wl_makeS (base:=w.heap.size) rfl _ _ _ rfl el_int (f:=iv) 0 rfl n rfl rfl rfl rfl (by omega) (by omega) (Nat.le_refl _) ?_;intro gs W hgs ow0 hW))
  go_step3
  go_wp2
  go_loopw [5,20] (fun s5 i wr=>GlRel ls a n w gs s5 i wr) (fun _ i _=>n - (intOf i).toNat)
  case atStart=>exact ⟨0,_,false,0,-1,by omega,rfl,rfl,Lib.hid (by simp),ow0,Lib.hid (LInv.init _ _ _ _),hW⟩
  case round =>
    clear ow0 hW
    obtain ⟨v,zs,found,best,b5,hv,rfl,rfl,Hb5,ow,inv,hb⟩:=hrel
    have hrr:=hr.step hb
    have hbs:=hb.size
    by_cases hlt:v < n
    · have hzl:=ow.len
      have Hzl:=Lib.hid hzl
      go_wp2
      go_loopw [8] (fun x wq=>GwRel ls a n v zs w gs x wq) (fun _ wq=>zeros wq gs n)
      case atStart=>exact ⟨0,rfl,Lib.hid (Way.init hlt),ow,hb⟩
      case round =>
        obtain ⟨t,rfl,Wt,owt,hbt⟩:=hrel
        have hx:=Wt.out.inn t (Nat.le_refl _)
        have hrt:=hr.step hbt
        have hmlen:(wmk ls a v zs t).length=n:=by rw [wmk_len];exact hzl
        obtain ⟨z,hz⟩:∃ z,(wmk ls a v zs t)[(sit ls a v t).1.toNat]? = some z:=⟨_,List.getElem?_eq_getElem (by omega)⟩
        have hva:=vec_at (ls:=ls) a (u:=(sit ls a v t).1) (by rw [Hl.out];exact hx)
        have hs2:sit ls a v (t+1)=(hof ls a (sit ls a v t).1,gof ls a (sit ls a v t).1):=rfl
        have hzeros:=zeros_row owt
        have hbts:=hbt.size
        have hmk:=wmk_set ls a v zs t
        have HII:=HI.out (sit ls a v t).1
        rw [Hl.out] at HII
        obtain ⟨m,hm⟩:∃ m:Nat,(sit ls a v t).1=(m:Int):=⟨(sit ls a v t).1.toNat,by omega⟩
        rw [hm] at hx hz hva hs2 hmk HII
        rw [Int.toNat_natCast] at hz hva hmk
        have Hm:=Lib.hid hm
        have Hz:=Lib.hid hz
        have Hmk:=Lib.hid hmk
        rw [hm]
        have hm2:m < n:=by omega
        have hbel:∀ w',Below w.heap.size wr w'→Below w.heap.size w w':=fun w' h=>hbt.trans h
        have Hmlen:=Lib.hid hmlen
        clear hmk hmlen hx hbel
        by_cases hz0:z=0
        · subst hz0
          by_cases hg:gof ls a (m:Int)=true
          · have hy:=HII hg
            rw [if_pos hg] at hva
            rw [hg] at hs2
            obtain ⟨y,hyy⟩:∃ y,hof ls a (m:Int)=y:=⟨_,rfl⟩
            rw [hyy] at hva hs2 hy
            have hd:(y == -1)=false:=by simp;omega
            have Wn:Hid (Way ls a n v zs (t+1)):=Lib.hid (Wt.out.next hg hm hs2 hy hz)
            have Hva:=Lib.hid hva
            have Hs2:=Lib.hid hs2
            have Hy:=Lib.hid hy
            have hcnt:=count_set_zero _ _ ((v:Int)+1) hz (by omega)
            have Hcnt:=Lib.hid hcnt
            have Hzeros:=Lib.hid hzeros
            clear hva hs2 hy hcnt hzeros hz hm HII hg hyy
            go_wp2_with (first
              | ((with_reducible refine on_index (.tmp 24) ?_);refine wl_at_i rfl _ (.tmp 24) _ rfl el_int rfl rfl (by omega) (by omega) owt.rd ?_;intro p1 z1 hz1 hc1;have hxx:(0:Int)=z1:=get_eq Hz.out hz1.out (by omega);subst hxx)
              | ((with_reducible refine on_index (.tmp 29) ?_);refine wl_placeS rfl _ (.tmp 29) _ rfl el_int rfl rfl m (by omega) ?_)
              | ((with_reducible refine on_store_at (.tmp 33) ?_);refine wl_setS rfl _ (.tmp 33) _ rfl size_int (f:=iv) rfl rfl ((v:Int)+1) (by go_num) owt (by omega) ?_;intro w5 ow5 hg5 hb5)
              | ((with_reducible refine on_index (.tmp 34) ?_);refine wl_at_i rfl _ (.tmp 34) _ rfl el_int rfl rfl (by omega) (by omega) (hr.step (hbt.trans hb5)) ?_;intro p2 y2 hy2 hc2;have hxx:y=y2:=get_eq Hva.out hy2.out (by omega);subst hxx))
            have hz5:=zeros_row ow5
            have hlt5:zeros w5 gs n < zeros wr gs n:=by have:=Hcnt.out;have:=Hzeros.out;omega
            rw [Hmk.out] at ow5
            go_roundw
            case rel=>exact ⟨t+1,by rw [Hs2.out],Wn,ow5,hbt.trans hb5⟩
            case measure=>exact hlt5
          · rw [if_neg hg] at hva
            have hgf:gof ls a (m:Int)=false:=by simpa using hg
            rw [hgf] at hs2
            have R:BackR ls a n v zs (wmk ls a v zs (t+1)) 0 false t:=Wt.out.back Hzl.out (by rw [hm,Int.toNat_natCast];exact hz) (.inl ⟨rfl,.inl (by rw [hs2])⟩)
            have I2:=Lib.hid (inv.out.away Hl.out hlt R)
            have Hva:=Lib.hid hva
            clear hva hs2 hzeros hz hm HII hg hgf R
            go_wp2_with (first
              | ((with_reducible refine on_index (.tmp 24) ?_);refine wl_at_i rfl _ (.tmp 24) _ rfl el_int rfl rfl (by omega) (by omega) owt.rd ?_;intro p1 z1 hz1 hc1;have hxx:(0:Int)=z1:=get_eq Hz.out hz1.out (by omega);subst hxx)
              | ((with_reducible refine on_index (.tmp 29) ?_);refine wl_placeS rfl _ (.tmp 29) _ rfl el_int rfl rfl m (by omega) ?_)
              | ((with_reducible refine on_store_at (.tmp 33) ?_);refine wl_setS rfl _ (.tmp 33) _ rfl size_int (f:=iv) rfl rfl ((v:Int)+1) (by go_num) owt (by omega) ?_;intro w5 ow5 hg5 hb5)
              | ((with_reducible refine on_index (.tmp 34) ?_);refine wl_at_i rfl _ (.tmp 34) _ rfl el_int rfl rfl (by omega) (by omega) (hr.step (hbt.trans hb5)) ?_;intro p2 y2 hy2 hc2;have hxx:(-1:Int)=y2:=get_eq Hva.out hy2.out (by omega);subst hxx))
            rw [Hmk.out] at ow5
            go_roundw
            case rel=>exact ⟨v+1,_,found,best,b5,by omega,by go_num,rfl,Hb5,ow5,I2,hbt.trans hb5⟩
            case measure=>simp [intOf];omega
        · have hd:(z == 0)=false:=by simpa using hz0
          rcases t with _ | s
          · have hzb:=inv.out.bnd m z hz
            have hm0:(v:Int)=(m:Int):=hm
            have hvm:v=m:=by omega
            have hd2:(z != (v:Int)+1)=true:=by simp;omega
            have I2:=Lib.hid (inv.out.skip (z:=z) (by rw [hvm];exact hz) hz0)
            clear hva hs2 hzeros hz hm HII hz0 hzb hm0 hvm
            go_wp2_with (first
              | ((with_reducible refine on_index (.tmp 24) ?_);refine wl_at_i rfl _ (.tmp 24) _ rfl el_int rfl rfl (by omega) (by omega) owt.rd ?_;intro p1 z1 hz1 hc1;have hxx:z=z1:=get_eq Hz.out hz1.out (by omega);subst hxx)
              | ((with_reducible refine on_index (.tmp 40) ?_);refine wl_at_i rfl _ (.tmp 40) _ rfl el_int rfl rfl (by omega) (by omega) owt.rd ?_;intro p3 z3 hz3 hc3;have hxx:z=z3:=get_eq Hz.out hz3.out (by omega);subst hxx))
            go_roundw
            case rel=>exact ⟨v+1,zs,found,best,b5,by omega,by go_num,rfl,Hb5,owt,I2,hbt⟩
            case measure=>simp [intOf];omega
          · have W0:Way ls a n v zs s:=⟨fun j hj=>Wt.out.goes j (by omega),fun j hj=>Wt.out.inn j (by omega),fun j hj=>Wt.out.fresh j (by omega)⟩
            have R:BackR ls a n v zs (wmk ls a v zs (s+1)) (m:Int) (z == (v:Int)+1) s:=W0.back Hzl.out (Wt.out.fresh s (by omega)) (.inr ⟨Wt.out.goes _ (Nat.le_refl _),Wt.out.inn _ (Nat.le_refl _),hm.symm,z,by rw [hm,Int.toNat_natCast];exact hz,hz0,rfl⟩)
            by_cases hzv:z=(v:Int)+1
            · have hd2:(z != (v:Int)+1)=false:=by simp [hzv]
              rw [show (z == (v:Int)+1)=true by simp [hzv]] at R
              obtain ⟨L0,hL0,c0,_⟩:=inv.out.loop hlt R
              obtain ⟨M,cM,hML,hmin⟩:=c0.least
              have hMn:M≤n:=by omega
              have K2:=Lib.hid (ground_any A n c ls a (m:Int) wr (by omega) Hl.out hrt.heap M (by omega) cM hmin)
              have K3:=Lib.hid (fun A' c' w' (o:RdS iv w' w'.heap.size A' M c' (sits ls a (m:Int) M))=>min_any A' M c' _ w' (by omega) _ o (m:Int) (sits_zero cM.pos))
              obtain ⟨lst,hlst⟩:∃ x,leastOf ls a (m:Int) M=x:=⟨_,rfl⟩
              have elst:minOf (m:Int) ((sits ls a (m:Int) M).drop 1)=lst:=hlst
              rw [elst] at K3
              have I2:=Lib.hid (fun b hb=>inv.out.turn hlt R cM hMn b hb)
              rw [hlst] at I2
              have HI5:=Hb5.out
              have hbest:found=true→0≤best:=fun e=>by
                obtain ⟨⟨L,_,c⟩,_⟩:=inv.out.hso e
                exact (gof_in (c.goes 0 c.pos)).1
              clear hva hs2 hzeros hz hm HII hz0 R W0 cM hmin c0 hzv elst hlst
              cases found with
              | false =>
                have I3:=Lib.hid (I2.out lst (by simp))
                rw [if_neg (by simp)] at HI5
                subst HI5
                clear I2 hbest
                go_wp2_with (first
                  | ((with_reducible refine on_index (.tmp 24) ?_);refine wl_at_i rfl _ (.tmp 24) _ rfl el_int rfl rfl (by omega) (by omega) owt.rd ?_;intro p1 z1 hz1 hc1;have hxx:z=z1:=get_eq Hz.out hz1.out (by omega);subst hxx)
                  | ((with_reducible refine on_index (.tmp 40) ?_);refine wl_at_i rfl _ (.tmp 40) _ rfl el_int rfl rfl (by omega) (by omega) owt.rd ?_;intro p3 z3 hz3 hc3;have hxx:z=z3:=get_eq Hz.out hz3.out (by omega);subst hxx)
                  | (go_at_call 75;refine (K2.out).mono ?_;rintro e w6 ⟨A6,c6,rfl,o6,hb6⟩)
                  | (go_at_call 74;refine (K3.out A6 c6 w6 o6.rd).mono ?_;rintro e w7 ⟨rfl,hb7⟩))
                have o7:=(owt.below hb6).below hb7
                have bel7:=(hbt.trans (hb6.mono hbts)).trans (hb7.mono (Nat.le_trans hbts hb6.size))
                go_roundw
                case rel=>exact ⟨v+1,_,true,lst,lst,by omega,by go_num,rfl,Lib.hid (by simp),o7,I3,bel7⟩
                case measure=>simp [intOf];omega
              | true =>
                have hb0:=hbest rfl
                rw [if_pos rfl] at HI5
                subst HI5
                have hd5:(b5 == -1)=false:=by simp;omega
                by_cases hlb:lst < b5
                · have I3:=Lib.hid (I2.out lst (by simp [hlb]))
                  have hd6:decide (lst < b5)=true:=decide_eq_true hlb
                  clear I2 hbest hlb hb0
                  go_wp2_with (first
                    | ((with_reducible refine on_index (.tmp 24) ?_);refine wl_at_i rfl _ (.tmp 24) _ rfl el_int rfl rfl (by omega) (by omega) owt.rd ?_;intro p1 z1 hz1 hc1;have hxx:z=z1:=get_eq Hz.out hz1.out (by omega);subst hxx)
                    | ((with_reducible refine on_index (.tmp 40) ?_);refine wl_at_i rfl _ (.tmp 40) _ rfl el_int rfl rfl (by omega) (by omega) owt.rd ?_;intro p3 z3 hz3 hc3;have hxx:z=z3:=get_eq Hz.out hz3.out (by omega);subst hxx)
                    | (go_at_call 75;refine (K2.out).mono ?_;rintro e w6 ⟨A6,c6,rfl,o6,hb6⟩)
                    | (go_at_call 74;refine (K3.out A6 c6 w6 o6.rd).mono ?_;rintro e w7 ⟨rfl,hb7⟩))
                  have o7:=(owt.below hb6).below hb7
                  have bel7:=(hbt.trans (hb6.mono hbts)).trans (hb7.mono (Nat.le_trans hbts hb6.size))
                  go_roundw
                  case rel=>exact ⟨v+1,_,true,lst,lst,by omega,by go_num,rfl,Lib.hid (by simp),o7,I3,bel7⟩
                  case measure=>simp [intOf];omega
                · have I3:=Lib.hid (I2.out b5 (by simp [hlb]))
                  have hd6:decide (lst < b5)=false:=decide_eq_false hlb
                  clear I2 hbest hlb hb0
                  go_wp2_with (first
                    | ((with_reducible refine on_index (.tmp 24) ?_);refine wl_at_i rfl _ (.tmp 24) _ rfl el_int rfl rfl (by omega) (by omega) owt.rd ?_;intro p1 z1 hz1 hc1;have hxx:z=z1:=get_eq Hz.out hz1.out (by omega);subst hxx)
                    | ((with_reducible refine on_index (.tmp 40) ?_);refine wl_at_i rfl _ (.tmp 40) _ rfl el_int rfl rfl (by omega) (by omega) owt.rd ?_;intro p3 z3 hz3 hc3;have hxx:z=z3:=get_eq Hz.out hz3.out (by omega);subst hxx)
                    | (go_at_call 75;refine (K2.out).mono ?_;rintro e w6 ⟨A6,c6,rfl,o6,hb6⟩)
                    | (go_at_call 74;refine (K3.out A6 c6 w6 o6.rd).mono ?_;rintro e w7 ⟨rfl,hb7⟩))
                  have o7:=(owt.below hb6).below hb7
                  have bel7:=(hbt.trans (hb6.mono hbts)).trans (hb7.mono (Nat.le_trans hbts hb6.size))
                  go_roundw
                  case rel=>exact ⟨v+1,_,true,b5,b5,by omega,by go_num,rfl,Lib.hid (by simp),o7,I3,bel7⟩
                  case measure=>simp [intOf];omega
            · have hd2:(z != (v:Int)+1)=true:=by simpa using hzv
              rw [show (z == (v:Int)+1)=false by simpa using hzv] at R
              have I2:=Lib.hid (inv.out.away Hl.out hlt R)
              clear hva hs2 hzeros hz hm HII hz0 R W0 hzv
              go_wp2_with (first
                | ((with_reducible refine on_index (.tmp 24) ?_);refine wl_at_i rfl _ (.tmp 24) _ rfl el_int rfl rfl (by omega) (by omega) owt.rd ?_;intro p1 z1 hz1 hc1;have hxx:z=z1:=get_eq Hz.out hz1.out (by omega);subst hxx)
                | ((with_reducible refine on_index (.tmp 40) ?_);refine wl_at_i rfl _ (.tmp 40) _ rfl el_int rfl rfl (by omega) (by omega) owt.rd ?_;intro p3 z3 hz3 hc3;have hxx:z=z3:=get_eq Hz.out hz3.out (by omega);subst hxx))
              go_roundw
              case rel=>exact ⟨v+1,_,found,best,b5,by omega,by go_num,rfl,Hb5,owt,I2,hbt⟩
              case measure=>simp [intOf];omega
    · obtain rfl:v=n:=by omega
      have I:=inv.out
      have HI5:=Hb5.out
      clear inv Hb5
      cases found with
      | false =>
        rw [if_neg (by simp)] at HI5
        subst HI5
        have Hno:=Lib.hid (fun u L (c:Cyc (hof ls a) (gof ls a) u L)=>I.hno rfl u L (I.all (by have:=gof_in (c.goes 0 c.pos);rw [Hl.out] at this;exact this)) c)
        clear I
        go_wp2
        go_ret2
        exact ⟨none,0,0,[],rfl,OwS.nil_ _ _ _,hb,.inl ⟨rfl,Hno.out⟩⟩
      | true =>
        rw [if_pos rfl] at HI5
        subst HI5
        obtain ⟨⟨L0,hL0,c0⟩,hle⟩:=I.hso rfl
        obtain ⟨M,cM,hML,hmin⟩:=c0.least
        have hbi:=gof_in (cM.goes 0 cM.pos)
        have hd5:(b5 == -1)=false:=by simp;have:=hbi.1;have e0:itr (hof ls a) 0 b5=b5:=rfl;rw [e0] at this;omega
        have K2:=Lib.hid (ground_any A v c ls a b5 wr (by omega) Hl.out hrr.heap M (by omega) cM hmin)
        have Fin:=Lib.hid (⟨(by have:=Hl.out;omega:M≤ls.length),cM,hmin,fun u L c=>hle u L (I.all (by have:=gof_in (c.goes 0 c.pos);rw [Hl.out] at this;exact this)) c⟩:M≤ls.length∧Cyc (hof ls a) (gof ls a) b5 M∧(∀ j,0 < j→j < M→itr (hof ls a) j b5≠b5)∧∀ u L,Cyc (hof ls a) (gof ls a) u L→b5≤u)
        clear I hle hmin cM c0 hbi
        go_wp2_with (go_at_call 75;refine (K2.out).mono ?_;rintro e w6 ⟨A6,c6,rfl,o6,hb6⟩)
        go_ret2
        obtain ⟨f3,f4,f5,f6⟩:=Fin.out
        exact ⟨A6,M,c6,_,rfl,o6.base_le hbs,hb.trans (hb6.mono hbs),.inr ⟨b5,M,f3,f4,f5,rfl,f6⟩⟩
end Go.Proofs.YtjandnidljbkoaaGreat
