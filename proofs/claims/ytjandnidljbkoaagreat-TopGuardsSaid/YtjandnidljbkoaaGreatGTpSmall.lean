/-
  cuts.Ends, At, Inside; slices.Index, Clone; atoms.Atoms.Ends; analyze.ends.
-/
import Derived.Test.YtjandnidljbkoaaGreatGTpAtoms
import Derived.Test.YtjandnidljbkoaaGreatGTpShelf
set_option linter.unusedVariables false
namespace Go.Th
open Go.RowKit
def insideF (lo hi:Int) (l:List Int):List Int:=l.filter fun a=>decide (lo < a∧a≤hi)
theorem insideF_more {l:List Int} {k:Nat} {a:Int} (h:l[k]? = some a) (lo hi:Int):insideF lo hi (l.take (k+1))=insideF lo hi (l.take k) ++ if lo < a∧a≤hi then [a] else []:=by
  unfold insideF
  rw [take_more h,List.filter_append]
  congr 1
  by_cases e:lo < a∧a≤hi
  · simp [e]
  · rw [if_neg e,List.filter_cons,decide_eq_false e];rfl
theorem insideF_len (lo hi:Int) (l:List Int):(insideF lo hi l).length≤l.length:=List.length_filter_le _ _
end Go.Th
namespace Go.Proofs.YtjandnidljbkoaaGreat
open Go.RowKit Go.Th
set_option maxRecDepth 100000 in
theorem cends_any (A:Option Addr) (n c:Nat) (l:List Int) (w:World) (hm:n≤9223372036854775807) (B:Nat) (hr:RdS uv w B A n c l) (i:Nat) (hi:i < n) (x h:Int) (hx:Hid (l[i]? = some x)) (hh:EndOf l n i h) :
    Calls Tryz.prog 138 #[.slice A n c,.int .i64 i] w (RetB (.tuple #[.int .u32 x,.int .u32 h,.bool true]) w):=by
  rcases hh with ⟨h1,rfl⟩ | ⟨h1,y,h2,h3,h4,rfl⟩
  · go_enter Tryz.func138,Tryz.ntmps138
    go_wp2_with ((with_reducible refine on_index (.tmp 26) ?_);refine wl_at_u rfl _ (.tmp 26) _ rfl el_u32 rfl rfl (by omega) (by omega) hr ?_;intro p x' hx' hc1;have hxx:=get_eq hx.out hx'.out (by omega);subst hxx)
    (try simp only [Exit.inBlock,Exit.then])
    refine bodyPost_ret (v:=.tuple #[.int .u32 x,.int .u32 (4294967295),.bool true]) (by simp [results,Tryz.results138,go_sem]) rfl ⟨rfl,Below.refl _ _⟩
  · have Hy:=Lib.hid h2
    clear h2
    go_enter Tryz.func138,Tryz.ntmps138
    go_wp2_with (first
      | ((with_reducible refine on_index (.tmp 26) ?_);refine wl_at_u rfl _ (.tmp 26) _ rfl el_u32 rfl rfl (by omega) (by omega) hr ?_;intro p x' hx' hc1;have hxx:=get_eq hx.out hx'.out (by omega);subst hxx)
      | ((with_reducible refine on_index (.tmp 20) ?_);refine wl_at_u rfl _ (.tmp 20) _ rfl el_u32 rfl rfl (by omega) (by omega) hr ?_;intro p2 y' hy' hc2;have hyy:=get_eq Hy.out hy'.out (by omega);subst hyy))
    (try simp only [Exit.inBlock,Exit.then])
    refine bodyPost_ret (v:=.tuple #[.int .u32 x,.int .u32 (y - 1),.bool true]) (by simp [results,Tryz.results138,go_sem]) rfl ⟨rfl,Below.refl _ _⟩
set_option maxRecDepth 100000 in
theorem aends_any (A1:Option Addr) (n1 c1:Nat) (A2:Option Addr) (n2 c2:Nat) (A3:Option Addr) (n3 c3:Nat) (l:List Int) (w:World) (hm:n1≤9223372036854775807) (B:Nat) (hr:RdS uv w B A1 n1 c1 l) (i:Nat) (hi:i < n1) (x h:Int) (hx:Hid (l[i]? = some x)) (hh:EndOf l n1 i h) :
    Calls Tryz.prog 115 #[.agg #[.slice A1 n1 c1,.slice A2 n2 c2,.slice A3 n3 c3],.int .i64 i] w (RetB (.tuple #[.int .u32 x,.int .u32 h,.bool true]) w):=by
  have k0:=below_alloc w (Nat.le_refl _) (.cells #[.slice A1 n1 c1,.slice A2 n2 c2,.slice A3 n3 c3] 59)
  have b0:=Box.new w #[.slice A1 n1 c1,.slice A2 n2 c2,.slice A3 n3 c3] 59
  obtain ⟨W0,hW0⟩:∃ W,w.alloc (.cells #[.slice A1 n1 c1,.slice A2 n2 c2,.slice A3 n3 c3] 59)=W:=⟨_,rfl⟩
  rw [hW0] at k0 b0
  have y0:W0.cell? ⟨w.heap.size,0,none⟩=some (.slice A1 n1 c1):=b0.cell 0
  have K:=Lib.hid (cends_any A1 n1 c1 l W0 hm B (hr.step k0) i hi x h hx hh)
  clear hr hi hh hx hm
  go_enter Tryz.func115,Tryz.ntmps115
  go_wp2_with (go_at_call 138;refine (K.out).mono ?_;rintro e w1 ⟨rfl,hb1⟩)
  (try simp only [Exit.inBlock,Exit.then])
  refine bodyPost_ret (v:=.tuple #[.int .u32 x,.int .u32 h,.bool true]) (by simp [results,Tryz.results115,go_sem]) rfl ⟨rfl,k0.trans (hb1.mono k0.size)⟩
theorem st_two:ArT Tryz.prog 24 2:=⟨⟨_,_,Tryz.underlying24⟩,by kernel_rfl⟩
set_option maxRecDepth 100000 in
theorem ends_any (A1:Option Addr) (n1 c1:Nat) (A2:Option Addr) (n2 c2:Nat) (A3:Option Addr) (n3 c3:Nat) (l:List Int) (w:World) (hm:n1≤9223372036854775807) (B:Nat) (hr:RdS uv w B A1 n1 c1 l) (i:Nat) (hi:i < n1) (x h:Int) (hx:Hid (l[i]? = some x)) (hh:EndOf l n1 i h) :
    Calls Tryz.prog 78 #[.agg #[.slice A1 n1 c1,.slice A2 n2 c2,.slice A3 n3 c3],.int .i64 i] w (RetB (.agg #[.int .u32 x,.int .u32 h]) w):=by
  have k0:=below_alloc w (Nat.le_refl _) (.cells #[.slice A1 n1 c1,.slice A2 n2 c2,.slice A3 n3 c3] 59)
  have b0:=Box.new w #[.slice A1 n1 c1,.slice A2 n2 c2,.slice A3 n3 c3] 59
  obtain ⟨W0,hW0⟩:∃ W,w.alloc (.cells #[.slice A1 n1 c1,.slice A2 n2 c2,.slice A3 n3 c3] 59)=W:=⟨_,rfl⟩
  rw [hW0] at k0 b0
  have k1:=below_alloc W0 k0.size (.cells #[.int .u32 0,.int .u32 0] 24)
  have b1:=Box.new W0 #[.int .u32 0,.int .u32 0] 24
  have b0':=b0.alloc (.cells #[.int .u32 0,.int .u32 0] 24)
  obtain ⟨W1,hW1⟩:∃ W,W0.alloc (.cells #[.int .u32 0,.int .u32 0] 24)=W:=⟨_,rfl⟩
  rw [hW1] at k1 b1 b0'
  have kk:=k0.trans k1
  obtain ⟨g,hg⟩:∃ g,W0.heap.size=g:=⟨_,rfl⟩
  have hgw:w.heap.size≤g:=by have:=k0.size;omega
  rw [hg] at b1
  have K:=Lib.hid (aends_any A1 n1 c1 A2 n2 c2 A3 n3 c3 l W1 hm B (hr.step kk) i hi x h hx hh)
  clear hr hi hh hx hm k0 k1 b0
  go_enter Tryz.func78,Tryz.ntmps78
  go_upto_region 1 with fail
  clear hW0 hW1 hg
  go_wp2_with (first
    | ((with_reducible refine on_load (.tmp 2) ?_);refine wb_load rfl _ (.tmp 2) rfl st_atoms rfl b0' rfl ?_)
    | (go_at_call 115;refine (K.out).mono ?_;rintro e w1 ⟨rfl,hb1⟩;have b9:=b1.step hb1)
    | ((with_reducible refine on_store_at (.tmp 4) ?_);refine wa_store (cs:=#[.int .u32 0,.int .u32 0]) (cs':=#[.int .u32 x,.int .u32 h]) rfl _ (.tmp 4) _ rfl st_two rfl rfl b9 rfl rfl (by simp [Value.oneCell']) ?_;intro w9 b10 hg9))
  refine bodyPost_ret (v:=.agg #[.int .u32 x,.int .u32 h]) ?_ rfl ⟨rfl,?_⟩
  · exact results_cell_row rfl _ w9 g 24 _ (0,0) _ rfl b10.at_ Tryz.underlying24 rfl st_two.size
  · exact (kk.trans (hb1.mono kk.size)).grown hg9 (Nat.le_trans kk.size hb1.size) (fun k e=>by injection e with e;omega)
def InRel (l:List Int) (lo hi:Int) (n:Nat) (w:World) (s i:Value) (wr:World):Prop :=
  ∃ (k m c:Nat) (A:Option Addr),k≤n∧m≤k+1∧i=.int .i64 k∧s=.slice A m c∧OwS uv wr w.heap.size 23 A m c (lo :: insideF lo hi (l.take k))∧Below w.heap.size w wr
set_option maxRecDepth 100000 in
set_option maxHeartbeats 2000000 in
theorem cin_any (A:Option Addr) (n c:Nat) (l:List Int) (lo hi:Int) (w:World) (hn:n≤100000) (B:Nat) (hr:RdS uv w B A n c l) :
    Calls Tryz.prog 158 #[.slice A n c,.int .u32 lo,.int .u32 hi] w (fun e w'=>∃ A' m c',e=.returned (.slice A' m c')∧OwS uv w' w.heap.size 23 A' m c' (lo :: insideF lo hi l)∧Below w.heap.size w w'):=by
  have hlen:=hr.len
  have k1:=below_alloc w (Nat.le_refl _) (.cells #[.int .u32 lo] 23)
  have lit:=OwS.lit (f:=uv) (base:=w.heap.size) (e:=23) (xs:=[lo]) w #[.int .u32 lo] 1 (Nat.le_refl _) (by simp [maxLen]) rfl rfl
  go_enter Tryz.func158,Tryz.ntmps158
  go_upto_region 3 with fail
  go_loopw [7,14] (fun s i wr=>InRel l lo hi n w s i wr) (fun _ i _=>n - (intOf i).toNat)
  case atStart=>exact ⟨0,1,1,some ⟨w.heap.size,0,none⟩,by omega,by omega,rfl,rfl,lit,k1⟩
  case round =>
    clear lit k1
    obtain ⟨k,m,cr,Ar,hk,hm,rfl,rfl,ow,hb⟩:=hrel
    have hrk:=hr.step hb
    have hbs:=hb.size
    by_cases hlt:k < n
    · obtain ⟨x,hx⟩:∃ x,l[k]? = some x:=⟨l[k]'(by omega),List.getElem?_eq_getElem _⟩
      have hmo:=insideF_more hx lo hi
      have Hx:=Lib.hid hx
      clear hx
      by_cases h1:lo < x
      · have hd1:decide (lo < x)=true:=decide_eq_true h1
        have hd1':decide (x > lo)=true:=decide_eq_true h1
        by_cases h2:x≤hi
        · have hd2:decide (x≤hi)=true:=decide_eq_true h2
          rw [if_pos ⟨h1,h2⟩] at hmo
          have Hmo:=Lib.hid hmo
          clear hmo h1 h2
          go_wp2_with (first
            | ((with_reducible refine on_index (.tmp 12) ?_);refine wl_at_u rfl _ (.tmp 12) _ rfl el_u32 rfl rfl (by omega) (by omega) hrk ?_;intro p1 y1 hy1 hc1;have hxx:x=y1:=get_eq Hx.out hy1.out (by omega);subst hxx)
            | ((with_reducible refine on_append (.tmp 26) (.tmp 28) ?_);refine wl_appendS rfl (.tmp 26) (.tmp 28) _ rfl el_u32 (f:=uv) (fun _=>rfl) rfl (ow.alloc (.cells #[.int .u32 x] 23)) rfl (OwS.lit (base:=wr.heap.size) (e:=23) (xs:=[x]) wr #[.int .u32 x] 1 (Nat.le_refl _) (by simp [maxLen]) rfl rfl).rd (by omega) (by omega) (by simp;omega) ?_;intro A8 c8 w8 ow8 hg8 hb8))
          rw [List.cons_append,← Hmo.out] at ow8
          go_roundw
          case rel=>exact ⟨k+1,m+1,c8,A8,by omega,by omega,by go_num,rfl,ow8,(hb.alloc hbs _).trans hb8⟩
          case measure=>simp [intOf];omega
        · have hd2:decide (x≤hi)=false:=decide_eq_false h2
          rw [if_neg (fun e=>h2 e.2),List.append_nil] at hmo
          have Hmo:=Lib.hid hmo
          clear hmo h1 h2
          go_wp2_with ((with_reducible refine on_index (.tmp 12) ?_);refine wl_at_u rfl _ (.tmp 12) _ rfl el_u32 rfl rfl (by omega) (by omega) hrk ?_;intro p1 y1 hy1 hc1;have hxx:x=y1:=get_eq Hx.out hy1.out (by omega);subst hxx)
          go_roundw
          case rel=>exact ⟨k+1,m,cr,Ar,by omega,by omega,by go_num,rfl,by rw [Hmo.out];exact ow,hb⟩
          case measure=>simp [intOf];omega
      · have hd1:decide (lo < x)=false:=decide_eq_false h1
        have hd1':decide (x > lo)=false:=decide_eq_false h1
        rw [if_neg (fun e=>h1 e.1),List.append_nil] at hmo
        have Hmo:=Lib.hid hmo
        clear hmo h1
        go_wp2_with ((with_reducible refine on_index (.tmp 12) ?_);refine wl_at_u rfl _ (.tmp 12) _ rfl el_u32 rfl rfl (by omega) (by omega) hrk ?_;intro p1 y1 hy1 hc1;have hxx:x=y1:=get_eq Hx.out hy1.out (by omega);subst hxx)
        go_roundw
        case rel=>exact ⟨k+1,m,cr,Ar,by omega,by omega,by go_num,rfl,by rw [Hmo.out];exact ow,hb⟩
        case measure=>simp [intOf];omega
    · obtain rfl:k=n:=by omega
      have h5:l.take k=l:=List.take_of_length_le (by omega)
      rw [h5] at ow
      go_wp2
      go_ret
      exact ⟨Ar,m,cr,rfl,ow,hb⟩
def IxRel (p:Nat) (w:World) (i:Value) (wr:World):Prop:=∃ k:Nat,k≤p∧i=.int .i64 k∧wr=w
set_option maxRecDepth 100000 in
theorem sindex_any (A:Option Addr) (n c:Nat) (l:List Int) (x:Int) (w:World) (hn:n≤100000) (B:Nat) (hr:RdS iv w B A n c l) (p:Nat) (hp:p < n) (h1:l[p]? = some x) (h2:∀ j,j < p→l[j]?≠some x) :
    Calls Tryz.prog 79 #[.slice A n c,.int .i64 x] w (RetV (.int .i64 p) w):=by
  have hlen:=hr.len
  have H1:=Lib.hid h1
  have H2:=Lib.hid h2
  clear h1 h2
  go_enter Tryz.func79,Tryz.ntmps79
  go_upto_region 2 with fail
  go_loopw [8] (fun i wr=>IxRel p w i wr) (fun i _=>n - (intOf i).toNat)
  case atStart=>exact ⟨0,by omega,rfl,rfl⟩
  case round =>
    obtain ⟨k,hk,rfl,rfl⟩:=hrel
    obtain ⟨y,hy⟩:∃ y,l[k]? = some y:=⟨l[k]'(by omega),List.getElem?_eq_getElem _⟩
    have Hy:=Lib.hid hy
    by_cases hlt:k < p
    · have hne:x≠y:=fun e=>H2.out k hlt (by rw [hy,e])
      have hd:(x == y)=false:=by simpa using hne
      clear hy hne
      go_wp2_with ((with_reducible refine on_index (.tmp 12) ?_);refine wl_at_i rfl _ (.tmp 12) _ rfl el_int rfl rfl (by omega) (by omega) hr ?_;intro p1 y1 hy1 hc1;have hxx:y=y1:=get_eq Hy.out hy1.out (by omega);subst hxx)
      go_roundw
      case rel=>exact ⟨k+1,by omega,by go_num,rfl⟩
      case measure=>simp [intOf];omega
    · obtain rfl:k=p:=by omega
      have hxy:x=y:=by rw [H1.out] at hy;injection hy
      have hd:(x == y)=true:=by simpa using hxy
      clear hy hxy
      go_wp2_with ((with_reducible refine on_index (.tmp 12) ?_);refine wl_at_i rfl _ (.tmp 12) _ rfl el_int rfl rfl (by omega) (by omega) hr ?_;intro p1 y1 hy1 hc1;have hxx:y=y1:=get_eq Hy.out hy1.out (by omega);subst hxx)
      go_ret
      exact ⟨rfl,rfl⟩
theorem ow_of_value {w:World} {base e n:Nat} {v':Value} {l:List Int} (h:w.ownsRow base e 1 v' n (l.map iv)):∃ A c,v' = .slice A n c∧OwS iv w base e A n c l:=by
  rcases h.2 with ⟨rfl,h0⟩ | ⟨g,cap,cur,rfl,_⟩
  · exact ⟨none,0,by rw [h0],⟨⟨by rw [h0] at h ⊢;exact h⟩⟩⟩
  · exact ⟨_,cap,rfl,⟨⟨h⟩⟩⟩
theorem sclone_any (A:Option Addr) (n c:Nat) (l:List Int) (w:World) (hn:n≤100000) (B:Nat) (hr:RdS iv w B A n c l) :
    Calls Tryz.prog 64 #[.slice A n c] w (fun e w'=>∃ A' c',e=.returned (.slice A' n c')∧OwS iv w' w.heap.size 3 A' n c' l∧Below w.heap.size w w'):=by
  have hlen:=hr.len
  by_cases h0:n=0
  · subst h0
    have:l=[]:=List.eq_nil_of_length_eq_zero hlen
    subst this
    cases A with
    | none=>exact (Tryz.slices_Clone_int_nil 0 c w).mono fun e w' ⟨h1,h2⟩=>⟨none,0,h1,by rw [h2];exact OwS.nil_ _ _ _,by rw [h2];exact Below.refl _ _⟩
    | some ad =>
      refine (Tryz.slices_Clone_int_zero ad c w).mono ?_
      rintro e w' ⟨v',h1,h2,_,h3⟩
      obtain ⟨A',c',rfl,ow⟩:=ow_of_value (l:=[]) h2
      exact ⟨A',c',h1,ow,h3⟩
  · obtain ⟨b,o,rfl,_,_⟩:=hr.rd.at_ 0 (iv (l[0]'(by omega))) (by rw [List.getElem?_map,List.getElem?_eq_getElem (by omega)];rfl)
    refine (Tryz.slices_Clone_int b o n c l w (by omega) (by omega) (fun j hj=>?_)).mono fun e w' ⟨v',h1,h2,_,h3⟩=>?_
    · obtain ⟨b',o',e,_,hc⟩:=hr.rd.at_ j (iv l[j]) (by rw [List.getElem?_map,List.getElem?_eq_getElem hj];rfl)
      injection e with e
      injection e with e1 e2
      subst e1 e2
      rw [hc,List.getD_eq_getElem?_getD,List.getElem?_eq_getElem hj]
      rfl
    · rw [List.take_of_length_le (by omega)] at h2
      obtain ⟨A',c',rfl,ow⟩:=ow_of_value h2
      exact ⟨A',c',h1,ow,h3⟩
end Go.Proofs.YtjandnidljbkoaaGreat
