/-
  graph.Ranks: of a vector of a network that may be.
-/
import Derived.Test.YtjandnidljbkoaaGreatGTpRanksLaw
import Derived.Test.YtjandnidljbkoaaGreatGTpQueue
import Derived.Test.YtjandnidljbkoaaGreatGTpAtomsMem
set_option linter.unusedVariables false
namespace Go.Th
open Go.RowKit
theorem OwS.part {α:Type} {f:α→Value} {w:World} {base e n c g:Nat} {xs:List α} (h:OwS f w base e (some ⟨g,0,none⟩) n c xs) (o l:Nat) {ys:List α} (hy:(xs.drop o).take l=ys) (hl:ys.length=l):RdS f w w.heap.size (some ⟨g,o,none⟩) l l ys:=by
  subst hy
  refine ⟨⟨fun j u hu=>?_⟩,hl,Nat.le_refl _⟩
  have hg:g < w.heap.size:=by
    obtain ⟨g',e,_,hlt⟩:=h.ow.form.resolve_left (by simp)
    injection e with e
    injection e with e
    omega
  refine ⟨g,o,rfl,hg,?_⟩
  rw [List.getElem?_map] at hu
  obtain ⟨x,hx,rfl⟩:=Option.map_eq_some_iff.1 hu
  rw [List.getElem?_take] at hx
  split at hx
  · rw [List.getElem?_drop] at hx
    have:=h.ow.own.cells (g:=g) rfl (o+j) (f x) (by rw [List.getElem?_map,hx];rfl)
    rw [Addr.add_lit,Nat.zero_add] at this
    exact this
  · cases hx
end Go.Th
namespace Go.Proofs.YtjandnidljbkoaaGreat
open Go.RowKit Go.Th
def Rk1 (xs:List Int) (m n:Nat) (W:World) (B gq gc:Nat) (i:Value) (wr:World):Prop :=
  ∃ k:Nat,k≤m∧i=.int .i64 k∧QAt wr 189 gq gc n (xs.take k)∧Below B W wr
def RanksR (ls:List (List Ru)) (a:Int) (n:Nat) (w:World) (e:Ending) (w':World):Prop :=
  Below w.heap.size w w'∧((∃ A c R,e=.returned (.tuple #[.slice A n c,.int .i64 0])∧OwS iv w' w.heap.size 3 A n c R∧RankR ls a R)∨(e=.returned (.tuple #[.slice none 0 0,.int .i64 17])∧∃ u L,Cyc (hof ls a) (gof ls a) u L))
def Rk2 (ls:List (List Ru)) (a:Int) (n:Nat) (W:World) (BL base gr gq gc:Nat) (s11:Value) (wr:World):Prop :=
  ∃ (d:Nat) (S R:List Int),s11=.int .i64 d∧QAt wr 189 gq gc n (S.drop d)∧OwS iv wr base 3 (some ⟨gr,0,none⟩) n n R∧Kp BL gr gc W wr∧Hid (BfsI ls a S d d R)∧d≤S.length
def Rk3 (ls:List (List Ru)) (a:Int) (n:Nat) (W:World) (BL base gr gq gc d:Nat) (S0:List Int) (x:Int) (us:List Int) (i:Value) (wr:World):Prop :=
  ∃ (t:Nat) (R:List Int) (s:Int),t≤us.length∧i=.int .i64 t∧QAt wr 189 gq gc n ((S0 ++ us.take t).drop (d+1))∧OwS iv wr base 3 (some ⟨gr,0,none⟩) n n R∧Kp BL gr gc W wr∧Hid (BfsI ls a (S0 ++ us.take t) d (d+1) R)
set_option maxRecDepth 100000 in
set_option maxHeartbeats 4000000 in
theorem granks_any (A:Option Addr) (n c:Nat) (ls:List (List Ru)) (a:Int) (w:World) (hN:NetOk ls) (hl:ls.length=n) (hr:RdS iv w w.heap.size A n c (vecOf ls a)) :
    Calls Tryz.prog 27 #[.slice A n c] w (RanksR ls a n w):=by
  have hn:n≤256:=by rw [← hl];exact hN.len
  have hnn:=hN.vec a
  rw [hl] at hnn
  have HN:=Lib.hid hN
  have Hl:=Lib.hid hl
  have Hnn:=Lib.hid hnn
  have K0:=Lib.hid (sinks_any A n c _ w hn _ hr hnn)
  clear hnn hN hl
  by_cases h0:n=0
  · subst h0
    go_enter Tryz.func27,Tryz.ntmps27
    go_wp2_with (first
      | (go_at_call 67;refine (K0.out).mono ?_;rintro e w2 ⟨A2,m2,c2,rfl,os,hb2⟩)
      | ((with_reducible refine on_makeL (.tmp 25) ?_);refine wl_makeS (base:=w.heap.size) rfl _ _ _ rfl el_int (f:=iv) 0 rfl 0 rfl rfl rfl rfl (by omega) (by omega) hb2.size ?_;intro gs W hgs ow0 hW))
    go_ret2
    refine ⟨hb2.trans (hW.mono hb2.size),.inl ⟨_,_,[],rfl,by simpa using ow0,⟨by rw [Hl.out];rfl,fun u h1 h2=>by rw [Hl.out] at h2;omega⟩⟩⟩
  have hd0:((n:Int) == 0)=false:=by simpa using h0
  have K1:=Lib.hid (fun w=>qnew_any n w (by omega) (by omega))
  go_enter Tryz.func27,Tryz.ntmps27
  go_upto_region 7 with (first
    | (go_at_call 67;refine (K0.out).mono ?_;rintro e w2 ⟨A2,m2,c2,rfl,os,hb2⟩)
    | ((with_reducible refine on_makeL (.tmp 25) ?_);refine wl_makeS (base:=w.heap.size) rfl _ _ _ rfl el_int (f:=iv) 0 rfl n rfl rfl rfl rfl (by omega) (by omega) hb2.size ?_;intro gr W hgr or0 hW))
  have os1:=os.below hW
  have hs0:=os.len
  have hs1:=hb2.size
  have hgrl:gr < W.heap.size:=by
    obtain ⟨g',e,_,hlt⟩:=or0.ow.form.resolve_left (by simp)
    injection e with e
    injection e with e
    omega
  have bW:=hb2.trans (hW.mono hs1)
  clear os
  go_upto_region 11 with (go_at_call 68;refine (K1.out _).mono ?_;rintro e w3 ⟨gq,gc,rfl,q0,hgc,hgq,hb3⟩)
  have or3:=or0.below hb3
  have os3:=os1.below hb3
  obtain ⟨BW,hBW⟩:∃ B,W.heap.size=B:=⟨_,rfl⟩
  rw [hBW] at hb3 hgc hgq hgrl
  have osr:=(os1.rd).more (Nat.le_refl _)
  rw [hBW] at osr
  have bgq:=q0.box.lt
  have hm2:m2≤n:=by
    rw [idxs_len] at hs0
    have:(vecOf ls a).count (-1)≤(vecOf ls a).length:=List.count_le_length
    rw [vec_len,Hl.out] at this
    omega
  have hB3:=hb3.size
  rw [hBW] at hB3
  obtain ⟨xs,hxs⟩:∃ xs,idxs (vecOf ls a) (-1)=xs:=⟨_,rfl⟩
  rw [hxs] at osr hs0 os1 os3
  have or0':=or0
  go_loopw [42] (fun i wr=>Rk1 xs m2 n W BW gq gc i wr) (fun i _=>m2 - (intOf i).toNat)
  case atStart=>exact ⟨0,by omega,rfl,by rw [List.take_zero];exact q0,hb3⟩
  case round =>
    clear q0 or3 os3 hb3 os1
    obtain ⟨k,hk,rfl,hq,hb⟩:=hrel
    have osk:=osr.below hb
    by_cases hlt:k < m2
    · obtain ⟨x,hx⟩:∃ x,xs[k]? = some x:=⟨xs[k]'(by omega),List.getElem?_eq_getElem _⟩
      have hmo:=take_more hx
      have Hx:=Lib.hid hx
      have KP:=Lib.hid (qput_any gq gc n (xs.take k) x wr hq (by rw [List.length_take];omega))
      rw [← hmo] at KP
      clear hx hmo
      go_wp2_with (first
        | ((with_reducible refine on_index (.tmp 40) ?_);refine wl_at_i rfl _ (.tmp 40) _ rfl el_int rfl rfl (by omega) (by omega) osk ?_;intro p1 y1 hy1 hc1;have hxx:x=y1:=get_eq Hx.out hy1.out (by omega);subst hxx)
        | (go_at_call 69;refine (KP.out).mono ?_;rintro e w5 ⟨rfl,hq5,hg5⟩))
      have hbs:=hb.size
      go_roundw
      case rel=>exact ⟨k+1,by omega,by go_num,hq5,hb.grown hg5 (by omega) (fun g e=>by injection e with e;omega)⟩
      case measure=>simp [intOf];omega
    · obtain rfl:k=m2:=by omega
      have h5:xs.take k=xs:=List.take_of_length_le (by omega)
      rw [h5] at hq
      have hbs:=hb.size
      have bwr:Below w.heap.size w wr:=bW.trans (hb.mono (by rw [← hBW];exact bW.size))
      have hrr:=hr.step bwr
      have or4:OwS iv wr w.heap.size 3 (some ⟨gr,0,none⟩) n n (List.replicate n 0):=or0'.below (by rw [hBW];exact hb)
      have K3:=Lib.hid (back_any A n c _ wr hn hrr.heap Hnn.out)
      clear h5 hb or0' or0 osk osr hlt hrr
      go_upto_region 17 with (go_at_call 70;refine (K3.out).mono ?_;rintro e w4 ⟨ga,gf,L,rfl,FR,hb4⟩)
      have hq4:=hq.step hb4
      have or5:=or4.below hb4
      have hgc4:=hq.lt
      have hgq4:=hq.box.lt
      have hqne:=hq.ne
      have hga:=FR.all.ow.row_ge ga rfl
      have hgf:=FR.fro.ow.row_ge gf rfl
      have hgaL:ga < w4.heap.size:=by
        obtain ⟨g',e,_,hlt⟩:=FR.all.ow.form.resolve_left (by simp)
        injection e with e
        injection e with e
        omega
      have hgfL:gf < w4.heap.size:=by
        obtain ⟨g',e,_,hlt⟩:=FR.fro.ow.form.resolve_left (by simp)
        injection e with e
        injection e with e
        omega
      have hgrw:w.heap.size≤gr:=by omega
      have hgcw:w.heap.size≤gc:=by omega
      have hgrl4:gr < w4.heap.size:=by have:=hb4.size;omega
      have bw4:Below w.heap.size w w4:=bwr.trans (hb4.mono bwr.size)
      have hr4:=hr.below bw4
      have hb0:BfsI ls a xs 0 0 (List.replicate n 0):=by rw [← hxs,← Hl.out];exact BfsI.start HN.out
      have Hvl:Hid ((vecOf ls a).length=n):=Lib.hid (by rw [vec_len];exact Hl.out)
      have hne4:ga≠gr∧ga≠gc∧gf≠gr∧gf≠gc∧gr≠gc∧gr≠gq:=by omega
      have HFR:=Lib.hid FR
      clear hq or4 hb4 FR hr bwr K0 K1 K3 hgr hs1 hb2 hW bW hgq hgc hB3 bgq hbs hgrl
      go_wp2
      go_loopw [11] (fun s wr=>Rk2 ls a n w4 w4.heap.size w.heap.size gr gq gc s wr) (fun s _=>n - (intOf s).toNat)
      case atStart=>exact ⟨0,xs,_,rfl,hq4,or5,Kp.refl _ _ _ _,Lib.hid hb0,by omega⟩
      case round =>
        clear hq4 or5 hb0
        obtain ⟨d,S,R,rfl,hq,orr,kp,bi,hdS⟩:=hrel
        have hSn:=bi.out.le
        rw [Hl.out] at hSn
        have KL:=Lib.hid (qlen_any gq gc n (S.drop d) wr hq)
        by_cases hlt:d < S.length
        · obtain ⟨x,hx⟩:∃ x,S[d]? = some x:=⟨S[d],List.getElem?_eq_getElem hlt⟩
          have hdr:S.drop d=x :: S.drop (d+1):=by
            rw [List.drop_eq_getElem_cons hlt]
            congr 1
            rw [List.getElem?_eq_getElem hlt] at hx
            injection hx
          have hxr:=bi.out.rng x (List.mem_of_getElem? hx)
          rw [Hl.out] at hxr
          have KT:=Lib.hid (qtake_any gq gc n (S.drop (d+1)) x wr (by rw [← hdr];exact hq))
          have hq0:(S.drop d).length=S.length - d:=List.length_drop
          rw [hq0] at KL
          obtain ⟨q,hqq⟩:∃ q,S.length - d=q:=⟨_,rfl⟩
          rw [hqq] at KL
          have hq1:0 < q:=by omega
          obtain ⟨m,rfl⟩:∃ m:Nat,x=(m:Int):=⟨x.toNat,by omega⟩
          have hm:m < n:=by omega
          have hfg:=filP_get (vecOf ls a) (vecOf ls a) hm
          have hfi:=HFR.out.fil.2 m hm
          have hil:=idxs_len (vecOf ls a) (m:Int)
          unfold dsc at hfg
          obtain ⟨l,hl⟩:∃ l,(vecOf ls a).count (m:Int)=l:=⟨_,rfl⟩
          rw [hl] at hfg hfi hil
          obtain ⟨off,hoff⟩:∃ off,(if l=0 then 0 else offS (vecOf ls a) m)=off:=⟨_,rfl⟩
          rw [hoff] at hfg
          obtain ⟨us,hus⟩:∃ us,idxs (vecOf ls a) (m:Int)=us:=⟨_,rfl⟩
          rw [hus] at hfi hil
          have humem:∀ u,u∈us↔gof ls a u=true∧hof ls a u=(m:Int):=fun u=>by
            rw [← hus,idxs_mem]
            constructor
            · rintro ⟨k,rfl,h⟩;exact (vec_pos (by omega)).1 h
            · rintro ⟨h1,h2⟩
              have hu:=gof_in h1
              exact ⟨u.toNat,by omega,(vec_pos (by omega)).2 (by rw [Int.toNat_of_nonneg hu.1];exact ⟨h1,h2⟩)⟩
          have hund:us.Nodup:=by rw [← hus];exact idxs_nodup _ _
          have hread:∀ wq,Kp w4.heap.size gr gc w4 wq→RdS iv wq wq.heap.size (some ⟨ga,off,none⟩) l l us:=fun wq k=>by
            have oa:=HFR.out.all.kp k hgaL hne4.1 hne4.2.1
            by_cases e:l=0
            · subst e
              have:us=[]:=List.eq_nil_of_length_eq_zero hil
              subst this
              exact ⟨Rd.nil _ _ _,rfl,Nat.le_refl _⟩
            · rw [if_neg e] at hoff
              rw [← hoff]
              exact oa.part _ _ hfi hil
          have hcellf:∀ wq,Kp w4.heap.size gr gc w4 wq→wq.cell? ⟨gf,m,none⟩=some (.slice (some ⟨ga,off,none⟩) l l):=fun wq k=>(HFR.out.fro.kp k hgfL hne4.2.2.1 hne4.2.2.2.1).cellAt hfg
          have Hund:=Lib.hid hund
          have Humem:=Lib.hid humem
          have Hread:=Lib.hid hread
          have Hcellf:=Lib.hid hcellf
          have Hx:=Lib.hid hx
          have hl256:l≤n:=by
            rw [← hl,← Hvl.out];exact List.count_le_length
          clear hfg hfi hus hund humem hread hcellf hoff hq0 hqq hl hxr hdr
          go_wp2_with (first
            | (go_at_call 71;refine (KL.out).mono ?_;rintro e w5 ⟨rfl,rfl⟩)
            | (go_at_call 72;refine (KT.out).mono ?_;rintro e w6 ⟨rfl,hq6,hg6⟩;have hw4s:=kp.size;have kp6:=kp.grown hg6 hw4s (fun g e=>.inr (.inl (by injection e with e;exact e.symm)));have hcf6:w6.cell? ⟨gf,m,none⟩=some (.slice (some ⟨ga,off,none⟩) l l):=Hcellf.out w6 kp6)
            | ((with_reducible refine on_index (.tmp 62) ?_);refine wl_placeS rfl _ (.tmp 62) _ rfl el_rowj rfl rfl m (by omega) ?_))
          have or6:=orr.grown hg6 (fun g hA e=>by injection hA with hA;injection hA with hA;injection e with e;omega)
          go_loopw [67] (fun i wq=>Rk3 ls a n w4 w4.heap.size w.heap.size gr gq gc d S (m:Int) us i wq) (fun i _=>l - (intOf i).toNat)
          case atStart=>exact ⟨0,R,0,by omega,rfl,by rw [List.take_zero,List.append_nil];exact hq6,or6,kp6,by rw [List.take_zero,List.append_nil];exact Lib.hid (bi.out.wider (by omega))⟩
          case round =>
            clear hq6 or6 kp6 hcf6 hg6 kp orr
            obtain ⟨t,R1,_,ht,rfl,hqt,ort,kpt,bit⟩:=hrel
            have hrt:=Hread.out _ kpt
            have hS1:(S ++ us.take t)[d]? = some (m:Int):=by rw [List.getElem?_append_left hlt];exact Hx.out
            by_cases hlt2:t < l
            · obtain ⟨u,hu⟩:∃ u,us[t]? = some u:=⟨us[t]'(by omega),List.getElem?_eq_getElem _⟩
              obtain ⟨hug,huh⟩:=(Humem.out u).1 (List.mem_of_getElem? hu)
              have hui:=gof_in hug
              rw [Hl.out] at hui
              have hunew:u ∉ S ++ us.take t:=by
                rw [List.mem_append,not_or]
                refine ⟨bi.out.new Hx.out hug huh,fun hm2=>?_⟩
                obtain ⟨i,hi⟩:=List.mem_iff_getElem?.1 hm2
                have hi1:=(List.getElem?_eq_some_iff.1 hi).1
                rw [List.length_take] at hi1
                rw [List.getElem?_take,if_pos (by omega)] at hi
                have:=(List.getElem?_inj (by omega) Hund.out).1 (hi.trans hu.symm)
                omega
              obtain ⟨s,hs,hs0,hs1,_⟩:=bit.out.par d _ hS1
              have bin:=Lib.hid (bit.out.step hS1 hug huh hs hunew)
              have hmo:=take_more hu
              obtain ⟨mu,rfl⟩:∃ mu:Nat,u=(mu:Int):=⟨u.toNat,by omega⟩
              rw [Int.toNat_natCast] at hs bin
              rw [List.append_assoc,← hmo] at bin
              have hcr0:=ort.cellAt hs
              have hcr:wr.cell? ⟨gr,m,none⟩=some (.int .i64 s):=hcr0
              have hle:=bin.out.le
              rw [Hl.out] at hle
              have hmo2:(S ++ us.take t).drop (d+1) ++ [(mu:Int)]=(S ++ us.take (t+1)).drop (d+1):=by
                rw [hmo,← List.append_assoc,List.drop_append_of_le_length (l₂:=[(mu:Int)]) (by rw [List.length_append];omega)]
              have hql:((S ++ us.take t).drop (d+1)).length < n:=by
                rw [List.length_drop]
                have:(S ++ us.take (t+1)).length=(S ++ us.take t).length+1:=by rw [hmo,← List.append_assoc,List.length_append];rfl
                omega
              have Hu:=Lib.hid hu
              have hsd:s≤300:=by omega
              have hmun:mu < n:=by omega
              clear hcr0 hu hug huh hunew hs hs1 hmo hui hle
              go_wp2_with (first
                | ((with_reducible refine on_index (.tmp 65) ?_);refine wl_at_i rfl _ (.tmp 65) _ rfl el_int rfl rfl (by omega) (by omega) hrt ?_;intro p1 y1 hy1 hc1;have hxx:(mu:Int)=y1:=get_eq Hu.out hy1.out (by omega);subst hxx)
                | ((with_reducible refine on_index (.tmp 73) ?_);refine wl_placeS rfl _ (.tmp 73) _ rfl el_int rfl rfl m (by omega) ?_)
                | ((with_reducible refine on_index (.tmp 71) ?_);refine wl_placeS rfl _ (.tmp 71) _ rfl el_int rfl rfl mu (by omega) ?_)
                | ((with_reducible refine on_store_at (.tmp 78) ?_);refine wl_setS rfl _ (.tmp 78) _ rfl size_int (f:=iv) rfl rfl (s+1) (by go_num) ort (by omega) ?_;intro w7 or7 hg7 hb7;have hq7:=hqt.grown hg7 (fun e=>by injection e with e;omega) (fun e=>by injection e with e;omega))
                | (go_at_call 69;refine (qput_any gq gc n _ (mu:Int) w7 hq7 hql).mono ?_;rintro e w8 ⟨rfl,hq8,hg8⟩))
              have hws:=kpt.size
              have kp8:=(kpt.grown hg7 hws (fun g e=>.inl (by injection e with e;exact e.symm))).grown hg8 (Nat.le_trans hws hg7.size) (fun g e=>.inr (.inl (by injection e with e;exact e.symm)))
              rw [hmo2] at hq8
              go_roundw
              case rel=>exact ⟨t+1,_,s,by omega,by go_num,hq8,or7.grown hg8 (fun g hA e=>by injection hA with hA;injection hA with hA;injection e with e;omega),kp8,bin⟩
              case measure=>simp [intOf];omega
            · obtain rfl:t=l:=by omega
              have h5:us.take t=us:=List.take_of_length_le (by omega)
              rw [h5] at hqt bit hS1
              have bi2:=Lib.hid (bit.out.close hS1 (fun u h1 h2=>List.mem_append_right _ ((Humem.out u).2 ⟨h1,h2⟩)))
              clear hrt hS1 h5
              go_wp2
              go_roundw
              case rel=>exact ⟨d+1,S ++ us,R1,by go_num,hqt,ort,kpt,bi2,by rw [List.length_append];omega⟩
              case measure=>simp [intOf];omega
        · obtain rfl:d=S.length:=by omega
          rw [List.drop_length] at KL
          have KL2:Hid (Calls Tryz.prog 71 #[.pointer (some ⟨gq,0,none⟩)] wr (RetV (.int .i64 0) wr)):=KL
          have bE:Below w.heap.size w wr:=bw4.trans (kp.out (by have:=bw4.size;omega) hgrw hgcw)
          clear KL hq hlt kp
          by_cases hfin:S.length < n
          · have hcyc:=Lib.hid (bi.out.round HN.out (by rw [Hl.out];exact hfin))
            have hdf:decide ((S.length:Int) < n)=true:=decide_eq_true (by omega)
            obtain ⟨q,hqq⟩:∃ q,S.length=q:=⟨_,rfl⟩
            rw [hqq] at hfin hdf ⊢
            go_wp2_with (go_at_call 71;refine (KL2.out).mono ?_;rintro e w5 ⟨rfl,rfl⟩)
            go_ret2
            exact ⟨bE,.inr ⟨rfl,hcyc.out⟩⟩
          · have hrk:=Lib.hid (bi.out.ranks (by rw [Hl.out];omega))
            obtain ⟨q,hqq⟩:∃ q,S.length=q:=⟨_,rfl⟩
            rw [hqq] at hfin ⊢
            have hdf:decide ((q:Int) < n)=false:=decide_eq_false (by omega)
            go_wp2_with (go_at_call 71;refine (KL2.out).mono ?_;rintro e w5 ⟨rfl,rfl⟩)
            go_ret2
            exact ⟨bE,.inl ⟨_,_,R,rfl,orr,hrk.out⟩⟩
end Go.Proofs.YtjandnidljbkoaaGreat
