/-
  The trie: addr.Bit, addr.Common, spans, forks in memory, Find. ! ### Forks in memory
-/
import Derived.Test.YtjandnidljbkoaaGreatGTpTriePlain
import Derived.Test.YtjandnidljbkoaaGreatGTpShelf
import Derived.Test.YtjandnidljbkoaaGreatGTpMd
set_option linter.unusedVariables false
namespace Go.Proofs.YtjandnidljbkoaaGreat
open Go.RowKit Go.Th
theorem bt_bitN {a i:Nat} (hi:i < 32):((if bt (a:Int) i then 1 else 0:Nat):Int)=(bitN a i:Nat):=by
  have h:=bitN_lt a i
  unfold bt
  have e:(decide (i < 32∧(a:Int).toNat / 2 ^ (31 - i) % 2=1))=decide (bitN a i=1):=by
    rw [Int.toNat_natCast]
    unfold bitN
    simp [hi]
  rw [e]
  by_cases h1:bitN a i=1
  · simp [h1]
  · have:bitN a i=0:=by omega
    simp [this]
theorem abit_any (a:Int) (i:Nat) (w:World) (ha:0≤a∧a≤4294967295) (hi:i≤32) :
    Calls Tryz.prog 107 #[.int .u32 a,.int .i64 (i:Nat)] w (RetV (.int .i64 (if bt a i then 1 else 0:Nat)) w):=by
  obtain ⟨a,rfl⟩:=Int.eq_ofNat_of_zero_le ha.1
  by_cases h32:i < 32
  · rw [bt_bitN h32]
    have h0:=bitN_lt a i
    have h1:=and_one (a / 2 ^ (31 - i)) (Nat.lt_of_le_of_lt (Nat.div_le_self _ _) (by omega))
    have he:(a:Int) / 2 ^ (31 - i)=((a / 2 ^ (31 - i):Nat):Int):=by
      rw [Int.natCast_ediv,Int.natCast_pow];rfl
    obtain ⟨b,hb⟩:∃ b,bitN a i=b:=⟨_,rfl⟩
    have h2:bits .and .u32 ((a:Int) / 2 ^ (31 - i)) 1=(b:Int):=by rw [he,h1,← hb];rfl
    rw [hb] at h0 ⊢
    have H2:=Lib.hid h2
    have d1:decide ((i:Int) < 0)=false:=decide_eq_false (by omega)
    have d2:decide ((31:Int) < (i:Int))=false:=decide_eq_false (by omega)
    have d3:decide (31 < i)=false:=decide_eq_false (by omega)
    clear hb h1 he h2
    go_enter Tryz.func107,Tryz.ntmps107
    go_wp2
    go_ret
    refine ⟨?_,rfl⟩
    rw [H2.out,show wrap64 (b:Int)=b from by unfold wrap64;omega]
    rfl
  · obtain rfl:i=32:=by omega
    have:bt (a:Int) 32=false:=by unfold bt;simp
    rw [this]
    go_enter Tryz.func107,Tryz.ntmps107
    go_wp2
    go_ret
    exact ⟨rfl,rfl⟩
theorem bitLenAux_le:∀ (f x k:Nat),x < 2 ^ f→(Lib.bitLenAux f x≤k↔x < 2 ^ k)
  | 0,x,k,h=>by
    have:x=0:=by simpa using h
    subst this
    simp [Lib.bitLenAux,Nat.two_pow_pos]
  | f+1,x,k,h=>by
    rw [Lib.bitLenAux]
    by_cases e:x=0
    · subst e;simp [Nat.two_pow_pos]
    · rw [if_neg e]
      have h2:x / 2 < 2 ^ f:=by rw [Nat.pow_succ] at h;omega
      cases k with
      | zero=>simp;omega
      | succ k =>
        have ih:=bitLenAux_le f (x / 2) k h2
        rw [Nat.pow_succ]
        omega
theorem blen_bitLen {x:Nat} (h:x < 4294967296):Lib.bitLen x=blen x:=by
  have h1:=bitLenAux_le 64 x (blen x) (by omega)
  have h2:=bitLenAux_le 64 x (Lib.bitLen x) (by omega)
  have h3:=blen_le (x:=x) (k:=blen x)
  have h4:=blen_le (x:=x) (k:=Lib.bitLen x)
  unfold Lib.bitLen at *
  have:=h1.2 (h3.1 (Nat.le_refl _))
  have:=h4.2 (h2.1 (Nat.le_refl _))
  omega
theorem cmn_any (a b:Int) (w:World) (ha:0≤a∧a≤4294967295) (hb:0≤b∧b≤4294967295) :
    Calls Tryz.prog 134 #[.int .u32 a,.int .u32 b] w (RetV (.int .i64 (cmn a b:Nat)) w):=by
  obtain ⟨a,rfl⟩:=Int.eq_ofNat_of_zero_le ha.1
  obtain ⟨b,rfl⟩:=Int.eq_ofNat_of_zero_le hb.1
  have h1:=xor_u32 a b (by omega) (by omega)
  have hz:a ^^^ b < 4294967296:=Nat.xor_lt_two_pow (n:=32) (by omega) (by omega)
  have hc:cmn (a:Int) (b:Int)=32 - blen (a ^^^ b):=by unfold cmn;rw [Int.toNat_natCast,Int.toNat_natCast]
  rw [hc]
  have hl:blen (a ^^^ b)≤32:=blen_le.2 hz
  obtain ⟨x,hx⟩:∃ x,a ^^^ b=x:=⟨_,rfl⟩
  rw [hx] at h1 hz hl ⊢
  have K:=Lib.hid (fun w=>Tryz.bits_LeadingZeros32 (x:Int) w (by omega) (by omega))
  rw [Int.toNat_natCast,blen_bitLen hz] at K
  obtain ⟨y,hy⟩:∃ y,blen x=y:=⟨_,rfl⟩
  rw [hy] at K hl ⊢
  clear hx hc hy
  go_enter Tryz.func134,Tryz.ntmps134
  go_wp2_with (go_at_call 146;refine (K.out _).mono ?_;rintro e w1 ⟨rfl,rfl⟩)
  go_ret
  refine ⟨?_,rfl⟩
  rw [show ((32 - y:Nat):Int)=32 - (y:Int) by omega]
  rfl
theorem st_span:St Tryz.prog 120 2:=⟨⟨_,Tryz.underlying120⟩,by kernel_rfl⟩
theorem sholds_any (a:Int) (n:Nat) (x:Int) (w:World) (ha:0≤a∧a≤4294967295) (hn:n≤32) (hx:0≤x∧x≤4294967295) (b:Bool) (hb:decide (hd a n=hd x n)=b) :
    Calls Tryz.prog 56 #[.agg #[.int .u32 a,.int .i64 (n:Int)],.int .u32 x] w (RetB (.bool b) w):=by
  have k0:=below_alloc w (Nat.le_refl _) (.cells #[.int .u32 a,.int .i64 (n:Int)] 120)
  have b0:=Box.new w #[.int .u32 a,.int .i64 (n:Int)] 120
  have y0:(w.alloc (.cells #[.int .u32 a,.int .i64 (n:Int)] 120)).cell? ⟨w.heap.size,0,none⟩=some (.int .u32 a):=b0.cell 0
  have y1:(w.alloc (.cells #[.int .u32 a,.int .i64 (n:Int)] 120)).cell? ⟨w.heap.size,1,none⟩=some (.int .i64 (n:Int)):=b0.cell 1
  have K:=Lib.hid (fun w=>holds_any a (n:Int) x w ha (by omega) hx)
  have hh:Th.holds a (n:Int) x=b:=by rw [← hb];unfold Th.holds;rw [head_hd _ hn,head_hd _ hn]
  rw [hh] at K
  clear hb hh
  go_enter Tryz.func56,Tryz.ntmps56
  go_wp2_with (go_at_call 19;refine (K.out _).mono ?_;rintro e w1 ⟨rfl,rfl⟩)
  go_ret
  exact ⟨rfl,k0⟩
theorem mask_ld {a:Int} {n:Nat} (ha:0≤a∧a≤4294967295) (hn:n≤32):bits .and .u32 a (maskN (n:Int):Nat)=ld a n:=by
  rw [lead_and a n ha,ld_lead a hn]
set_option maxHeartbeats 1000000 in
theorem smeet_any (a:Int) (n:Nat) (b:Int) (m:Nat) (w:World) (ha:0≤a∧a≤4294967295) (hn:n≤32) (hb:0≤b∧b≤4294967295) (hm:m≤32) (k:Nat) (hk:Hid (meetN a n b m=k)) :
    Calls Tryz.prog 106 #[.agg #[.int .u32 a,.int .i64 (n:Int)],.agg #[.int .u32 b,.int .i64 (m:Int)]] w (RetB (.agg #[.int .u32 (ld a k),.int .i64 (k:Int)]) w):=by
  have hk1:=hk.out
  have hc:=cmn_le a b
  obtain ⟨c,hcc⟩:∃ c,cmn a b=c:=⟨_,rfl⟩
  have hk32:k≤32:=by unfold meetN at hk1;omega
  have K1:=Lib.hid (fun w=>cmn_any a b w ha hb)
  rw [hcc] at K1
  have K2:=Lib.hid (fun w=>mask_any (k:Int) w (by omega))
  have hl:=mask_ld ha hk32
  obtain ⟨mk,hmk⟩:∃ x:Nat,maskN (k:Int)=x:=⟨_,rfl⟩
  rw [hmk] at K2 hl
  obtain ⟨la,hla⟩:∃ x,ld a k=x:=⟨_,rfl⟩
  rw [hla] at hl ⊢
  have Hl:=Lib.hid hl
  have hmin:(if (c:Int) < (if m < n then (m:Int) else (n:Int)) then (c:Int) else (if m < n then (m:Int) else (n:Int)))=(k:Int):=by
    unfold meetN at hk1
    rw [hcc] at hk1
    by_cases h1:m < n
    · simp only [h1,if_true]
      by_cases h2:(c:Int) < (m:Int)
      · rw [if_pos h2];omega
      · rw [if_neg h2];omega
    · simp only [h1,if_false]
      by_cases h2:(c:Int) < (n:Int)
      · rw [if_pos h2];omega
      · rw [if_neg h2];omega
  have Hmin:=Lib.hid hmin
  clear hmin hk1 hcc
  go_enter Tryz.func106,Tryz.ntmps106
  go_upto_region 1 with fail
  obtain ⟨W,hW⟩:∃ W,(((w.alloc (.cells #[.int .u32 a,.int .i64 (n:Int)] 120)).alloc (.cells #[.int .u32 b,.int .i64 (m:Int)] 120)).alloc (.cells #[.int .u32 0,.int .i64 0] 120))=W:=⟨_,rfl⟩
  have kW:Below w.heap.size w W:=by rw [← hW];exact ((below_alloc w (Nat.le_refl _) _).alloc (by simp) _).alloc (by simp;omega) _
  have b0:Box W w.heap.size 120 #[.int .u32 a,.int .i64 (n:Int)]:=by rw [← hW];exact ((Box.new w _ _).alloc _).alloc _
  have b1:Box W (w.heap.size+1) 120 #[.int .u32 b,.int .i64 (m:Int)]:=by rw [← hW];simpa using (Box.new (w.alloc (.cells #[.int .u32 a,.int .i64 (n:Int)] 120)) #[.int .u32 b,.int .i64 (m:Int)] 120).alloc (.cells #[.int .u32 0,.int .i64 0] 120)
  have b2:Box W (w.heap.size+1+1) 120 #[.int .u32 0,.int .i64 0]:=by rw [← hW];simpa using Box.new ((w.alloc (.cells #[.int .u32 a,.int .i64 (n:Int)] 120)).alloc (.cells #[.int .u32 b,.int .i64 (m:Int)] 120)) #[.int .u32 0,.int .i64 0] 120
  rw [hW]
  clear hW
  have q0:∀ q:Step W.heap.size W,q.w.cell? ⟨w.heap.size,0,none⟩=some (.int .u32 a):=fun q=>(b0.step q.h).cell 0
  have q1:∀ q:Step W.heap.size W,q.w.cell? ⟨w.heap.size,1,none⟩=some (.int .i64 (n:Int)):=fun q=>(b0.step q.h).cell 1
  have q2:∀ q:Step W.heap.size W,q.w.cell? ⟨w.heap.size+1,0,none⟩=some (.int .u32 b):=fun q=>(b1.step q.h).cell 0
  have q3:∀ q:Step W.heap.size W,q.w.cell? ⟨w.heap.size+1,1,none⟩=some (.int .i64 (m:Int)):=fun q=>(b1.step q.h).cell 1
  refine wp_region_reach (by kernel_rfl) (by kernel_rfl) ?_
  repeat (first | go_big_quiet_skip | go_big_quiet_step ((with_reducible exact Calls.reach_same (K1.out _))) | quiet_step ((with_reducible exact Calls.reach_same (K1.out _))))
  refine wpQuiet_nil ?_
  rintro _ ⟨q,rfl⟩
  have hqw5:=q.h
  obtain ⟨w5,hw5'⟩:∃ W,q.w=W:=⟨_,rfl⟩
  rw [hw5'] at hqw5 ⊢
  clear hw5' q
  rw [Hmin.out]
  have b0:=b0.step hqw5
  go_upto_region 2 with fail
  have b2:=b2.step hqw5
  have kW:=kW.trans (hqw5.mono kW.size)
  have f0:∀ q:KSStep (fun a:Addr=>a.block=w.heap.size) w5.drew,q.w.cell? ⟨w.heap.size,0,none⟩=some (.int .u32 a):=fun q=>(q.h ⟨w.heap.size,0,none⟩ rfl).trans (b0.cell 0)
  have hl:=Hl.out
  have y0:w5.drew.cell? ⟨w.heap.size+1+1,0,none⟩=some (.int .u32 0):=b2.cell 0
  have y1:w5.drew.cell? ⟨w.heap.size+1+1,1,none⟩=some (.int .i64 0):=b2.cell 1
  refine wp_region_treeL 7 (.float 0 3 (.float 5 1 (.one 3 (.float 4 1 (.float 6 1 (.one 7 .done)))))) (Th.KSReach (fun a:Addr=>a.block=w.heap.size)) (Th.KSReach.trans _) (Th.KSReach.refl _) (by kernel_rfl) (by kernel_rfl) (by kernel_rfl) (fun KT hKT=>?_)
  repeat' first
    | ((with_reducible refine wpTreeL_done ?_);refine hKT _ _ ?_;clear hKT KT)
    | (with_reducible refine wpTreeL_two ?_ ?_)
    | ((with_reducible refine wpTreeL_float (fun KF hKF=>?_));(simp only [List.drop,List.take]);(repeat (first | go_big_quiet_skip | go_big_quiet_step (fail) | quiet_step (fail)));refine wpQuiet_nil ?_;refine hKF _ ?_;clear hKF KF)
    | ((with_reducible refine wpTreeL_one (fun KO hKO=>?_));(simp only [List.drop,List.take]);(go_wp2_with (first | (go_at_call 29;refine (K2.out _).mono ?_;rintro e w6 ⟨rfl,rfl⟩) | ((with_reducible refine on_store_at (.tmp 4) ?_);refine wb_store (cs:=#[.int .u32 0,.int .i64 0]) (cs':=#[.int .u32 la,.int .i64 (k:Int)]) rfl _ (.tmp 4) _ rfl st_span rfl rfl b2.drew rfl rfl (by simp [Value.oneCell']) ?_;intro w7 b7 hg7)));(first | (with_reducible refine anch_last (hKO _ _ ?_)) | refine anch_endL (Th.KSReach.of (by first | exact fun _ _=>rfl | assumption | (exact ks_alloc _ _ (by assumption)))) (hKO _ _ ?_));clear hKO KO)
  go_wp2
  have B7:=(kW.trans (bdrew1 w5)).trans (below_of_grown (B:=w.heap.size) hg7 (fun j e=>by injection e with e;omega) (by have:=kW.size;exact this))
  refine bodyPost_ret (v:=.agg #[.int .u32 la,.int .i64 (k:Int)]) ?_ rfl ⟨rfl,B7⟩
  exact results_cell_row rfl _ w7 _ 120 _ (0,0) _ rfl b7.at_ Tryz.underlying120 rfl st_span.size
end Go.Proofs.YtjandnidljbkoaaGreat
namespace Go.Th
open Go.RowKit
def Tr.ptr:Tr→Value
  | .nil=>.pointer none
  | .node b ..=>.pointer (some ⟨b,0,none⟩)
def forkC (a:Int) (n:Nat) (rl:Ru) (is:Bool) (v0 v1:Value):Array Value:=#[.int .u32 a,.int .i64 (n:Int),.int .u32 rl.a,.int .i64 rl.n,.int .i64 rl.act,.int .i64 rl.next,.bool is,v0,v1]
def TAt (T:TypeId) (w:World):Tr→Prop
  | .nil=>True
  | .node b a n rl is k0 k1=>Box w b T (forkC a n rl is k0.ptr k1.ptr)∧TAt T w k0∧TAt T w k1
def Tr.bs:Tr→List Nat
  | .nil=>[]
  | .node b _ _ _ _ k0 k1=>b :: (k0.bs ++ k1.bs)
theorem TAt.step {T:TypeId} {w w':World} (hb:Below w.heap.size w w'):∀ {t:Tr},TAt T w t→TAt T w' t
  | .nil,_=>trivial
  | .node ..,⟨h1,h2,h3⟩=>⟨h1.step hb,TAt.step hb h2,TAt.step hb h3⟩
theorem TAt.grown {T:TypeId} {w w':World} {g:Nat} (hg:w.grownBy w' (some g)):∀ {t:Tr},TAt T w t→g ∉ t.bs→TAt T w' t
  | .nil,_,_=>trivial
  | .node b _ _ _ _ k0 k1,⟨h1,h2,h3⟩,hl=>by
    simp only [Tr.bs,List.mem_cons,List.mem_append,not_or] at hl
    exact ⟨h1.grown hg (fun e=>by injection e with e;exact hl.1 e),TAt.grown hg h2 hl.2.1,TAt.grown hg h3 hl.2.2⟩
theorem TAt.lt {T:TypeId} {w:World}:∀ {t:Tr},TAt T w t→∀ b∈t.bs,b < w.heap.size
  | .nil,_,b,hb=>by cases hb
  | .node b' _ _ _ _ k0 k1,⟨h1,h2,h3⟩,b,hb=>by
    simp only [Tr.bs,List.mem_cons,List.mem_append] at hb
    rcases hb with rfl | hb | hb
    · exact h1.lt
    · exact TAt.lt h2 b hb
    · exact TAt.lt h3 b hb
end Go.Th
namespace Go.Proofs.YtjandnidljbkoaaGreat
open Go.RowKit Go.Th
theorem below_any (b:Nat) (a:Int) (n:Nat) (rl:Ru) (is:Bool) (k0 k1:Tr) (x:Int) (w:World) (hb:Box w b 123 (forkC a n rl is k0.ptr k1.ptr)) (hn:n≤32) (hx:0≤x∧x≤4294967295) :
    Calls Tryz.prog 57 #[.pointer (some ⟨b,0,none⟩),.int .u32 x] w (RetB (if bt x n then k1.ptr else k0.ptr) w):=by
  have q1:∀ q:Step w.heap.size w,q.w.cell? ⟨b,1,none⟩=some (.int .i64 (n:Int)):=fun q=>(hb.step q.h).cell 1
  have q7:∀ q:Step w.heap.size w,q.w.cell? ⟨b,7,none⟩=some k0.ptr:=fun q=>(hb.step q.h).cell 7
  have q8:∀ q:Step w.heap.size w,q.w.cell? ⟨b,8,none⟩=some k1.ptr:=fun q=>(hb.step q.h).cell 8
  have K:=Lib.hid (fun w=>abit_any x n w hx hn)
  cases hbt:bt x n
  · rw [hbt] at K
    have K2:Hid (∀ w,Calls Tryz.prog 107 #[.int .u32 x,.int .i64 (n:Int)] w (RetV (.int .i64 0) w)):=K
    show Calls Tryz.prog 57 #[.pointer (some ⟨b,0,none⟩),.int .u32 x] w (RetB k0.ptr w)
    clear hbt K
    go_enter Tryz.func57,Tryz.ntmps57
    go_upto_region 1 with fail
    refine wp_region_reach (by kernel_rfl) (by kernel_rfl) ?_
    repeat (first | go_big_quiet_skip | go_big_quiet_step ((with_reducible exact Calls.reach_same (K2.out _))) | quiet_step ((with_reducible exact Calls.reach_same (K2.out _))))
    refine wpQuiet_nil ?_
    rintro _ ⟨q,rfl⟩
    have hqw5:=q.h
    obtain ⟨w5,hw5'⟩:∃ W,q.w=W:=⟨_,rfl⟩
    rw [hw5'] at hqw5 ⊢
    clear hw5' q
    go_wp2
    go_ret
    exact ⟨rfl,hqw5⟩
  · rw [hbt] at K
    have K2:Hid (∀ w,Calls Tryz.prog 107 #[.int .u32 x,.int .i64 (n:Int)] w (RetV (.int .i64 1) w)):=K
    show Calls Tryz.prog 57 #[.pointer (some ⟨b,0,none⟩),.int .u32 x] w (RetB k1.ptr w)
    clear hbt K
    go_enter Tryz.func57,Tryz.ntmps57
    go_upto_region 1 with fail
    refine wp_region_reach (by kernel_rfl) (by kernel_rfl) ?_
    repeat (first | go_big_quiet_skip | go_big_quiet_step ((with_reducible exact Calls.reach_same (K2.out _))) | quiet_step ((with_reducible exact Calls.reach_same (K2.out _))))
    refine wpQuiet_nil ?_
    rintro _ ⟨q,rfl⟩
    have hqw5:=q.h
    obtain ⟨w5,hw5'⟩:∃ W,q.w=W:=⟨_,rfl⟩
    rw [hw5'] at hqw5 ⊢
    clear hw5' q
    go_wp2
    go_ret
    exact ⟨rfl,hqw5⟩
def fdep (v:Value) (w:World):Nat:=match v with
  | .pointer (some a)=>match w.cell? ⟨a.block,1,none⟩ with
    | some (.int _ n)=>34 - n.toNat
    | _=>0
  | _=>0
theorem fdep_node {T:TypeId} {w:World} {b:Nat} {a:Int} {n:Nat} {rl:Ru} {is:Bool} {k0 k1:Tr} (h:TAt T w (.node b a n rl is k0 k1)):fdep (.pointer (some ⟨b,0,none⟩)) w=34 - n:=by
  have:w.cell? ⟨b,1,none⟩=some (.int .i64 (n:Int)):=h.1.cell 1
  unfold fdep
  simp only [this]
  omega
theorem fdep_under {T:TypeId} {w w':World} {b:Nat} {a:Int} {n:Nat} {rl:Ru} {is:Bool} {k0 k1 k:Tr} {s:Bool} (h:TAt T w (.node b a n rl is k0 k1)) (hn:n≤32) (hk:TAt T w' k) (hu:Tr.Under a n s k):fdep k.ptr w' < fdep (.pointer (some ⟨b,0,none⟩)) w:=by
  rw [fdep_node h]
  cases k with
  | nil=>show (0:Nat) < _;omega
  | node b' a' n' rl' is' q0 q1 =>
    show fdep (.pointer (some ⟨b',0,none⟩)) w' < _
    rw [fdep_node hk]
    have:=hu.1
    omega
def FdRel (T:TypeId) (x:Int) (res:Ru × Bool) (g4 g6:Nat) (TR:TypeId) (w0:World) (s7 s8:Value) (wr:World):Prop :=
  ∃ (t:Tr) (st:Ru × Bool),s8=t.ptr∧s7=.bool st.2∧Box wr g6 TR st.1.cs.toArray∧Box wr g4 TR #[.int .u32 0,.int .i64 0,.int .i64 0,.int .i64 0]∧TAt T wr t∧t.Wf∧(∀ b∈t.bs,b < g4)∧Hid (findT x t st=res)∧Below g4 w0 wr
set_option maxRecDepth 100000 in
set_option maxHeartbeats 1000000 in
theorem tfind_any (gt:Nat) (t:Tr) (size:Int) (x:Int) (w:World) (ht:Box w gt 115 #[t.ptr,.int .i64 size]) (hT:TAt 123 w t) (hw:t.Wf) (hx:0≤x∧x≤4294967295) (r:Ru) (ok:Bool) (hr:Hid (findT x t (Ru.zero,false)=(r,ok))) :
    Calls Tryz.prog 18 #[.pointer (some ⟨gt,0,none⟩),.int .u32 x] w (RetB (.tuple #[.agg #[.int .u32 r.a,.int .i64 r.n,.int .i64 r.act,.int .i64 r.next],.bool ok]) w):=by
  go_enter Tryz.func18,Tryz.ntmps18
  go_upto_region 3 with fail
  obtain ⟨W,hW⟩:∃ W,(w.alloc (.cells #[.int .u32 0,.int .i64 0,.int .i64 0,.int .i64 0] 52)).alloc (.cells #[.int .u32 0,.int .i64 0,.int .i64 0,.int .i64 0] 52)=W:=⟨_,rfl⟩
  have kW:Below w.heap.size w W:=by rw [← hW];exact (below_alloc w (Nat.le_refl _) _).alloc (by simp) _
  have b4:Box W w.heap.size 52 #[.int .u32 0,.int .i64 0,.int .i64 0,.int .i64 0]:=by rw [← hW];exact (Box.new w _ _).alloc _
  have b6:Box W (w.heap.size+1) 52 #[.int .u32 0,.int .i64 0,.int .i64 0,.int .i64 0]:=by rw [← hW];simpa using Box.new (w.alloc (.cells #[.int .u32 0,.int .i64 0,.int .i64 0,.int .i64 0] 52)) #[.int .u32 0,.int .i64 0,.int .i64 0,.int .i64 0] 52
  rw [hW]
  clear hW
  have tW:=TAt.step kW hT
  have gW:=ht.step kW
  have hlt:=TAt.lt hT
  have y0:W.cell? ⟨gt,0,none⟩=some t.ptr:=gW.cell 0
  obtain ⟨vt,hvt⟩:∃ v,t.ptr=v:=⟨_,rfl⟩
  rw [hvt] at y0
  have Hvt:=Lib.hid hvt
  clear hvt
  go_upto_region 4 with fail
  clear y0
  go_wp2
  go_loopw [7,8] (fun s7 s8 wr=>FdRel 123 x (r,ok) w.heap.size (w.heap.size+1) 52 W s7 s8 wr) (fun _ s8 wr=>fdep s8 wr)
  case atStart=>exact ⟨t,(Ru.zero,false),Hvt.out.symm,rfl,b6,b4,tW,hw,hlt,hr,Below.refl _ _⟩
  case round =>
    obtain ⟨t,st,rfl,rfl,b6,b4,hT,hw,hlt,hf,hb⟩:=hrel
    cases t with
    | nil =>
      obtain rfl:st=(r,ok):=hf.out
      show Code.wp _ _ _ _ _
      simp only [Tr.ptr]
      clear hf hw hT hlt
      go_wp2_with (first
        | ((with_reducible refine on_load (.tmp 6) ?_);refine wr_box rfl _ (.tmp 6) rfl st_rule rfl b6 ?_)
        | ((with_reducible refine on_store_at (.tmp 4) ?_);refine wr_store (r:=⟨0,0,0,0⟩) rfl _ (.tmp 4) _ rfl st_rule rfl rfl b4 ?_;intro w5 b5 hg5))
      obtain ⟨e0,e1,e2,e3⟩:=b5.rule
      refine bodyPost_ret (v:=.tuple #[.agg #[.int .u32 r.a,.int .i64 r.n,.int .i64 r.act,.int .i64 r.next],.bool ok]) ?_ rfl ⟨rfl,(kW.trans hb).trans (below_of_grown hg5 (by intro g e;injection e with e;omega) (kW.trans hb).size)⟩
      simp [results,Tryz.results18,go_sem,e0,e1,e2,e3]
    | node b a n rl is k0 k1 =>
      have hT0:=hT
      have hw0:=hw
      obtain ⟨hbx,hT0k,hT1k⟩:=hT
      obtain ⟨h1,h2,h3,h4,h5,h6,h7,h8⟩:=hw
      simp only [Tr.ptr]
      have hsp:Hid (∀ i v,([.int .u32 a,.int .i64 (n:Int)]:List Value)[i]? = some v→wr.cell? ⟨b,0+i,none⟩=some v):=Lib.hid (fun i v hv=>by
        match i,hv with
        | 0,hv=>injection hv with hv;subst hv;exact hbx.cell 0
        | 1,hv=>injection hv with hv;subst hv;exact hbx.cell 1)
      obtain ⟨hh,hhh⟩:∃ b,decide (hd a n=hd x n)=b:=⟨_,rfl⟩
      have KH:=Lib.hid (sholds_any a n x wr h2 h1 hx hh hhh)
      cases hh with
      | false =>
        have hne:=of_decide_eq_false hhh
        have hf2:=hf.out
        rw [findT,if_neg hne] at hf2
        obtain rfl:st=(r,ok):=hf2
        clear hf hne hhh h3 h4 h5 h6 h7 h8 hw0 hT0 hT0k hT1k hlt
        go_wp2_with (first
        | ((with_reducible refine on_load (.tmp 18) ?_);refine wm_load rfl _ (.tmp 18) rfl st_span (cs:=[.int .u32 a,.int .i64 (n:Int)]) rfl rfl (fun i v hv=>hsp.out i v hv) ?_)
        | (go_at_call 56;refine (KH.out).mono ?_;rintro e w3 ⟨rfl,hb3⟩;have b6:=b6.step hb3;have b4:=b4.step hb3)
        | ((with_reducible refine on_load (.tmp 6) ?_);refine wr_box rfl _ (.tmp 6) rfl st_rule rfl b6 ?_)
        | ((with_reducible refine on_store_at (.tmp 4) ?_);refine wr_store (r:=⟨0,0,0,0⟩) rfl _ (.tmp 4) _ rfl st_rule rfl rfl b4 ?_;intro w5 b5 hg5))
        obtain ⟨e0,e1,e2,e3⟩:=b5.rule
        have B3:=(kW.trans hb).trans (hb3.mono (kW.trans hb).size)
        refine bodyPost_ret (v:=.tuple #[.agg #[.int .u32 r.a,.int .i64 r.n,.int .i64 r.act,.int .i64 r.next],.bool ok]) ?_ rfl ⟨rfl,B3.trans (below_of_grown hg5 (by intro g e;injection e with e;omega) B3.size)⟩
        simp [results,Tryz.results18,go_sem,e0,e1,e2,e3]
      | true =>
        have heq:=of_decide_eq_true hhh
        have hf2:=hf.out
        rw [findT,if_pos heq] at hf2
        have Hf2:=Lib.hid hf2
        clear hf hf2 hhh heq h3
        have hr2:Hid (∀ i v,rl.cs[i]? = some v→wr.cell? ⟨b,2+i,none⟩=some v):=Lib.hid (fun i v hv=>by
          match i,hv with
          | 0,hv=>injection hv with hv;subst hv;exact hbx.cell 2
          | 1,hv=>injection hv with hv;subst hv;exact hbx.cell 3
          | 2,hv=>injection hv with hv;subst hv;exact hbx.cell 4
          | 3,hv=>injection hv with hv;subst hv;exact hbx.cell 5)
        have c6:wr.cell? ⟨b,6,none⟩=some (.bool is):=hbx.cell 6
        have hlb:=hlt b (by simp [Tr.bs])
        have hpick:∃ (kk:Tr) (s:Bool),(if bt x n then k1.ptr else k0.ptr)=kk.ptr∧TAt 123 wr kk∧kk.Wf∧Tr.Under a n s kk∧(∀ b∈kk.bs,b < w.heap.size)∧findT x kk (if is then (rl,true) else st)=(r,ok):=by
          cases hbt:bt x n with
          | true=>exact ⟨k1,true,rfl,hT1k,h8,h6,fun y hy=>hlt y (by simp [Tr.bs,hy]),by have:=Hf2.out;rw [if_pos hbt] at this;exact this⟩
          | false=>exact ⟨k0,false,rfl,hT0k,h7,h5,fun y hy=>hlt y (by simp [Tr.bs,hy]),by have:=Hf2.out;rw [if_neg (by rw [hbt];simp)] at this;exact this⟩
        obtain ⟨kk,sd,hkp,hTk,hwk,huk,hbk,hfk⟩:=hpick
        obtain ⟨kv,hkv⟩:∃ v,kk.ptr=v:=⟨_,rfl⟩
        have KB:Hid (∀ w',Box w' b 123 (forkC a n rl is k0.ptr k1.ptr)→Calls Tryz.prog 57 #[.pointer (some ⟨b,0,none⟩),.int .u32 x] w' (RetB kv w')):=Lib.hid (fun w' h=>by rw [← hkv,← hkp];exact below_any b a n rl is k0 k1 x w' h h1 hx)
        have Hkv:=Lib.hid hkv
        have Hfk:=Lib.hid hfk
        have HT0:=Lib.hid hT0
        clear hkp hkv hfk hT0 hT0k hT1k h4 h5 h6 h7 h8 hw0 Hf2 hlt
        cases is
        all_goals
          go_wp2_with (first
            | ((with_reducible refine on_load (.tmp 18) ?_);refine wm_load rfl _ (.tmp 18) rfl st_span (cs:=[.int .u32 a,.int .i64 (n:Int)]) rfl rfl (fun i v hv=>hsp.out i v hv) ?_)
            | (go_at_call 56;refine (KH.out).mono ?_;rintro e w3 ⟨rfl,hb3⟩;have b6:=b6.step hb3;have b4:=b4.step hb3;have hbx:=hbx.step hb3;have hTk:=TAt.step hb3 hTk;(first | (have c6:w3.cell? ⟨b,6,none⟩=some (.bool true):=hbx.cell 6) | (have c6:w3.cell? ⟨b,6,none⟩=some (.bool false):=hbx.cell 6));have hr2:Hid (∀ i v,rl.cs[i]? = some v→w3.cell? ⟨b,2+i,none⟩=some v):=Lib.hid (fun i v hv=>(hb3.cell (World.block_lt_of_cell? wr ⟨b,2+i,none⟩ (hr2.out i v hv))).trans (hr2.out i v hv));have B3:=hb.trans (hb3.mono (Nat.le_trans kW.size hb.size)))
            | ((with_reducible refine on_load (.tmp 32) ?_);refine wr_load rfl _ (.tmp 32) rfl st_rule rfl hr2 ?_)
            | ((with_reducible refine on_store_at (.tmp 6) ?_);refine wr_store rfl _ (.tmp 6) _ rfl st_rule rfl rfl b6 ?_;intro w5 b6 hg5;have b4:=b4.grown hg5 (fun e=>by injection e with e;omega);have hbx:=hbx.grown hg5 (fun e=>by injection e with e;omega);have hTk:=TAt.grown hg5 hTk (fun h=>by have:=hbk _ h;omega);have B3:=B3.trans (below_of_grown hg5 (fun j e=>by injection e with e;omega) (Nat.le_trans kW.size B3.size)))
            | (go_at_call 57;refine (KB.out _ hbx).mono ?_;rintro e w8 ⟨rfl,hb8⟩))
          have B8:=B3.trans (hb8.mono (Nat.le_trans kW.size B3.size))
          have b6:=b6.step hb8
          have b4:=b4.step hb8
          have hTk:=TAt.step hb8 hTk
          go_roundw
          case rel=>exact ⟨kk,_,Hkv.out.symm,rfl,b6,b4,hTk,hwk,hbk,Hfk,B8⟩
          case measure=>rw [← Hkv.out];exact fdep_under HT0.out h1 hTk huk
end Go.Proofs.YtjandnidljbkoaaGreat
