/-
  theseustop.shown.
-/
import Derived.Test.YtjandnidljbkoaaGreatGTpEx
set_option linter.unusedVariables false
namespace Go.Proofs.YtjandnidljbkoaaGreat
open Go.RowKit Go.Th
theorem wq_placeS {P:Program} {ops:Array Oper} {rest:List Oper} {o:Oper} {a:Act} {C:World→Prop} {Q:Act→Prop} (hw:Region.wanted o (yielded ops a.tmps)=true) (T:TypeId) (s i:Operand) (ho:o.op=.indexAddr T s i) {E bytes:Nat} {z:Value} (el:El P T E z bytes)
    {g n c:Nat} {kk:IntKind} {I:Int} (hs:a.eval s=.slice (some ⟨g,0,none⟩) n c) (hi:a.eval i=.int kk I) (j:Nat) (hj:I=(j:Int)∧j < n)
    (h:wpQuiet P ops C Q rest (a.put o.dst (.pointer (some ⟨g,j,none⟩)))):wpQuiet P ops C Q (o :: rest) a:=by
  obtain ⟨rfl,hj⟩:=hj
  refine wq_run hw (v:=.pointer (some ⟨g,j,none⟩)) (fun w hC=>?_) h
  have:=run_indexAt (P:=P) (w:=w) T el.ht (el.size w) ⟨g,0,none⟩ n c kk (j:Int) (by omega) (by omega)
  rw [Addr.add_lit,Nat.zero_add,Int.toNat_natCast,Nat.mul_one] at this
  simp only [execOp,ho,hs,hi,Sem.run_bind,this,Result.andThen,Sem.run_pure]
theorem wq_firstM {P:Program} {ops:Array Oper} {rest:List Oper} {o:Oper} {a:Act} {C:World→Prop} {Q:Act→Prop} (hw:Region.wanted o (yielded ops a.tmps)=true) (T:TypeId) (s hi:Operand) (ho:o.op=.slice T s Option.none (some hi) Option.none) {E bytes k:Nat} {z:Value} (el:ElM P T E z bytes k)
    {g n c:Nat} (hs:a.eval s=.slice (some ⟨g,0,none⟩) n c) {kk:IntKind} {I:Int} (hhi:a.eval hi=.int kk I) (H:Nat) (hH:I=(H:Int)∧H≤c∧0 < c)
    (h:wpQuiet P ops C Q rest (a.put o.dst (.slice (some ⟨g,0,none⟩) H c))):wpQuiet P ops C Q (o :: rest) a:=by
  obtain ⟨rfl,hH,hc⟩:=hH
  refine wq_run hw (v:=.slice (if c=0 then some ⟨g,0,none⟩ else (some (⟨g,0,none⟩:Addr)).map (·.add (0 * k))) (H - 0) (c - 0)) (fun w hC=>?_) ?_
  · simp only [execOp,ho,hs,hhi,Option.map_some,Option.map_none,Sem.run_bind,Instr.sliceAt,run_underlying el.ht,Instr.slice,bounds_h kk hH,el.size,Result.andThen,Sem.run_pure]
  · rw [if_neg (by omega)]
    simp only [Option.map_some,Nat.zero_mul,Addr.add_lit,Nat.sub_zero]
    exact h
theorem cert_net {ns:List Nd} {P:List (List Ru)} (h:Nd.ls ns=P) (hP:NOk P):∀ x∈ns,∀ r∈x.l,RFit r:=fun x hx r hr=>nmay_rfit hP.may hP.ok x.l (by rw [← h];exact List.mem_map.2 ⟨x,hx,rfl⟩) r hr
theorem ntk_put {P:List (List Ru)} (hP:NOk P):ntk (fput 1179206193 (nbody P))=(P,0):=by rw [ntk_fput,inT_put hP]
theorem fb_short {P:List (List Ru)} {bs:List UInt8} (h:fput 1179206193 (nbody P)=bs) (hl:(nbody P).length≤1000):bs.length≤1000000:=by rw [← h,fput_length];omega
theorem eq_answer (a c b d:Int) (w:World):(Op.equalIn 10000 30 (.agg #[.int .i64 a,.int .i64 c]) (.agg #[.int .i64 b,.int .i64 d])).run Tryz.prog w=.ok (decide (a=b∧c=d)) w:=by
  have hS:Tryz.prog.underlying 30=some (.struct (Tryz.prog.fieldsOf 30)):=by kernel_rfl
  have hp:Tryz.prog.stoodInHeld 30=false:=by kernel_rfl
  rw [show (10000:Nat)=9999+1 from rfl,run_equalIn_agg w 9999 30 _ _ hS hp]
  simp only [Program.fieldsOf,Tryz.underlying30]
  go_simp
  by_cases h1:a=b <;> by_cases h2:c=d <;> simp [h1,h2] <;> omega
theorem guard_answer:Tryz.prog.eqGuardType Tryz.prog.depth 30=false:=by kernel_rfl
theorem wl_eqA {ops:Array Oper} {rest:List Oper} {o:Oper} {a:Act} {Q:Exit→Act→World→Prop} {w:World} (hw:Region.wanted o (yielded ops a.tmps)=true) (x y:Operand) {T2:TypeId} (ho:o.op=.binOp .eql 30 x y T2) {p c q d:Int} (hx:a.eval x=.agg #[.int .i64 p,.int .i64 c]) (hy:a.eval y=.agg #[.int .i64 q,.int .i64 d])
    (b:Bool) (hb:decide (p=q∧c=d)=b) (h:wpList Tryz.prog ops Q rest (a.put o.dst (.bool b)) w):wpList Tryz.prog ops Q (o :: rest) a w:=by
  subst hb
  refine wl_run hw (v:=.bool (decide (p=q∧c=d))) (w':=w) ?_ h
  have e:=eq_answer p c q d w
  simp only [execOp,ho,hx,hy]
  simp [run_eqGuard_agg w .eql 30 x y _ _ guard_answer,run_eql_struct,e]
theorem wl_eqU {ops:Array Oper} {rest:List Oper} {o:Oper} {a:Act} {Q:Exit→Act→World→Prop} {w:World} (hw:Region.wanted o (yielded ops a.tmps)=true) (x y:Operand) {T2:TypeId} (ho:o.op=.binOp .eql 23 x y T2) {p:Int} (hx:a.eval x=.int .u32 p) (hy:a.eval y=.int .u32 p)
    (h:wpList Tryz.prog ops Q rest (a.put o.dst (.bool true)) w):wpList Tryz.prog ops Q (o :: rest) a w:=by
  refine wl_run hw (v:=.bool true) (w':=w) ?_ h
  simp only [execOp,ho,hx,hy]
  go_simp
theorem wl_fieldA {ops:Array Oper} {rest:List Oper} {o:Oper} {a:Act} {Q:Exit→Act→World→Prop} {w:World} (hw:Region.wanted o (yielded ops a.tmps)=true) (x:Operand) (ho:o.op=.field 30 x 0) {p c:Int} (hx:a.eval x=.agg #[.int .i64 p,.int .i64 c])
    (h:wpList Tryz.prog ops Q rest (a.put o.dst (.int .i64 p)) w):wpList Tryz.prog ops Q (o :: rest) a w:=by
  refine wl_run hw (v:=.int .i64 p) (w':=w) ?_ h
  simp only [execOp,ho,hx]
  simp [Instr.field,run_underlying Tryz.underlying30,asAgg,part,typeInfo,sizeOf]
theorem on_field (x:Operand) {P:Program} {ops:Array Oper} {Q:Exit→Act→World→Prop} {rest:List Oper} {a:Act} {w:World} {d t i ty pos af g} (h:wpList P ops Q (⟨d,.field t x i,ty,pos,af,g⟩ :: rest) a w):wpList P ops Q (⟨d,.field t x i,ty,pos,af,g⟩ :: rest) a w:=h
theorem on_eq (x:Operand) {P:Program} {ops:Array Oper} {Q:Exit→Act→World→Prop} {rest:List Oper} {a:Act} {w:World} {d op T y T2 ty pos af g} (h:wpList P ops Q (⟨d,.binOp op T x y T2,ty,pos,af,g⟩ :: rest) a w):wpList P ops Q (⟨d,.binOp op T x y T2,ty,pos,af,g⟩ :: rest) a w:=h
theorem tcheck_yes {tn:List (List Ru) × Int} {tc:CR} {w:World} {e:Ending} {w':World} (hg:GoodC tn tc) (h:ChkR tn tc w e w'):e=.returned (.agg #[.int .i64 tc.v,.int .i64 0])∧Below w.heap.size w w':=by
  obtain ⟨h1,h2 | ⟨c,_,_,h2⟩⟩:=h
  · exact ⟨h2.1,h1⟩
  · exact absurd hg h2
theorem tcheck_no {tn:List (List Ru) × Int} {tc:CR} {w:World} {e:Ending} {w':World} (hg:¬ GoodC tn tc) (h:ChkR tn tc w e w'):∃ c,e=.returned (.agg #[.int .i64 0,.int .i64 c])∧Below w.heap.size w w':=by
  obtain ⟨h1,h2 | ⟨c,h2,_,_⟩⟩:=h
  · exact absurd h2.2 hg
  · exact ⟨c,h2,h1⟩
theorem shown_cert {t:CR} {w:World} {e:Ending} {w':World} (hg:GoodC (exF,0) t∧t.v=2∧t.d=2147483648∧t.tr.length=3) (h:RetCf t w e w'):∃ (Ap:Option Addr) (np cp:Nat) (At:Option Addr) (ct:Nat) (N:Int),e=.returned (.tuple #[.agg #[.int .i64 2,.slice Ap np cp,.int .u32 2147483648,.slice At 3 ct],.int .i64 N,.int .i64 0])∧Below w.heap.size w w':=by
  obtain ⟨Ap,np,cp,At,nt,ct,ps,he,_,_,ht,hb⟩:=h
  obtain ⟨⟨_,h0,_⟩,h1,h2,h3⟩:=hg
  have hl:=ht.len
  rw [h3] at hl
  subst hl
  rw [h1,h2,h0] at he
  exact ⟨Ap,np,cp,At,ct,_,he,hb⟩
theorem exF_body:(nbody exF).length≤1000:=by decide +kernel
theorem exP_body:(nbody exP).length≤1000:=by decide +kernel
theorem ex_nrd {W:World} {b0 b1 b2 b3 g0 g1 g2 g3 E:Nat} {ns:List Nd} (o1:OwM Ru.cs 4 W b0 52 (some ⟨g0,0,none⟩) 1 1 [⟨0,0,1,1⟩]) (o2:OwM Ru.cs 4 W b1 52 (some ⟨g1,0,none⟩) 1 1 [⟨0,0,1,2⟩]) (o3:OwM Ru.cs 4 W b2 52 (some ⟨g2,0,none⟩) 2 2 [⟨0,0,2,0⟩,⟨2147483648,1,1,0⟩]) (o4:OwS sv W b3 E (some ⟨g3,0,none⟩) 3 3 ns)
    (hns:ns=[⟨some ⟨g0,0,none⟩,1,1,[⟨0,0,1,1⟩]⟩,⟨some ⟨g1,0,none⟩,1,1,[⟨0,0,1,2⟩]⟩,⟨some ⟨g2,0,none⟩,2,2,[⟨0,0,2,0⟩,⟨2147483648,1,1,0⟩]⟩]):NRd W W.heap.size (some ⟨g3,0,none⟩) 3 3 ns:=by
  subst hns
  refine ⟨o4.rd,fun x hx=>?_,fun x hx r hr=>?_⟩
  · simp only [List.mem_cons,List.not_mem_nil,or_false] at hx
    rcases hx with rfl | rfl | rfl
    · exact o1.rd
    · exact o2.rd
    · exact o3.rd
  · exact exF_ok.ok x.l (by
      simp only [List.mem_cons,List.not_mem_nil,or_false] at hx
      rcases hx with rfl | rfl | rfl <;> simp [exF]) r hr
theorem ex_nrd2 {W:World} {b0 b1 b2 b3 g0 g1 g2 g3 E:Nat} {ns:List Nd} (o1:OwM Ru.cs 4 W b0 52 (some ⟨g0,0,none⟩) 1 1 [⟨0,0,1,1⟩]) (o2:OwM Ru.cs 4 W b1 52 (some ⟨g1,0,none⟩) 1 1 [⟨0,0,1,2⟩]) (o3:OwM Ru.cs 4 W b2 52 (some ⟨g2,0,none⟩) 2 2 [⟨0,0,2,0⟩,⟨2147483648,1,1,0⟩]) (o4:OwS sv W b3 E (some ⟨g3,0,none⟩) 3 3 ns)
    (hns:ns=[⟨some ⟨g0,0,none⟩,1,1,[⟨0,0,1,1⟩]⟩,⟨some ⟨g1,0,none⟩,1,1,[⟨0,0,1,2⟩]⟩,⟨some ⟨g2,0,none⟩,1,2,[⟨0,0,2,0⟩]⟩]):NRd W W.heap.size (some ⟨g3,0,none⟩) 3 3 ns:=by
  subst hns
  refine ⟨o4.rd,fun x hx=>?_,fun x hx r hr=>?_⟩
  · simp only [List.mem_cons,List.not_mem_nil,or_false] at hx
    rcases hx with rfl | rfl | rfl
    · exact o1.rd
    · exact o2.rd
    · exact o3.rd.cut Ru.cs_length 0 1 2 (by omega) (by omega) (by omega) (by omega)
  · exact exP_ok.ok x.l (by
      simp only [List.mem_cons,List.not_mem_nil,or_false] at hx
      rcases hx with rfl | rfl | rfl <;> simp [exP]) r hr
set_option maxRecDepth 100000 in
set_option maxHeartbeats 4000000 in
theorem shown_any (w:World):Calls Tryz.prog 7 #[] w fun e w'=>e=.returned (.bool true)∧Below w.heap.size w w':=by
  obtain ⟨w1,hw1⟩:∃ W,w.alloc (.cells #[.int .u32 0,.int .i64 0,.int .i64 1,.int .i64 1] 52)=W:=⟨_,rfl⟩
  obtain ⟨w2,hw2⟩:∃ W,w1.alloc (.cells #[.int .u32 0,.int .i64 0,.int .i64 1,.int .i64 2] 52)=W:=⟨_,rfl⟩
  obtain ⟨w3,hw3⟩:∃ W,w2.alloc (.cells #[.int .u32 0,.int .i64 0,.int .i64 2,.int .i64 0,.int .u32 2147483648,.int .i64 1,.int .i64 1,.int .i64 0] 52)=W:=⟨_,rfl⟩
  have k1:Below w.heap.size w w1:=by rw [← hw1];exact below_alloc w (Nat.le_refl _) _
  have k2:Below w1.heap.size w1 w2:=by rw [← hw2];exact below_alloc w1 (Nat.le_refl _) _
  have k3:Below w2.heap.size w2 w3:=by rw [← hw3];exact below_alloc w2 (Nat.le_refl _) _
  have o1:OwM Ru.cs 4 w1 w.heap.size 52 (some ⟨w.heap.size,0,none⟩) 1 1 [⟨0,0,1,1⟩]:=by rw [← hw1];exact OwM.lit Ru.cs_length w #[.int .u32 0,.int .i64 0,.int .i64 1,.int .i64 1] 1 (Nat.le_refl _) (by simp [maxLen]) rfl rfl
  have o2:OwM Ru.cs 4 w2 w1.heap.size 52 (some ⟨w1.heap.size,0,none⟩) 1 1 [⟨0,0,1,2⟩]:=by rw [← hw2];exact OwM.lit Ru.cs_length w1 #[.int .u32 0,.int .i64 0,.int .i64 1,.int .i64 2] 1 (Nat.le_refl _) (by simp [maxLen]) rfl rfl
  have o3:OwM Ru.cs 4 w3 w2.heap.size 52 (some ⟨w2.heap.size,0,none⟩) 2 2 [⟨0,0,2,0⟩,⟨2147483648,1,1,0⟩]:=by rw [← hw3];exact OwM.lit Ru.cs_length w2 #[.int .u32 0,.int .i64 0,.int .i64 2,.int .i64 0,.int .u32 2147483648,.int .i64 1,.int .i64 1,.int .i64 0] 2 (Nat.le_refl _) (by simp [maxLen]) rfl rfl
  obtain ⟨ns,hns⟩:∃ ns:List Nd,ns=[⟨some ⟨w.heap.size,0,none⟩,1,1,[⟨0,0,1,1⟩]⟩,⟨some ⟨w1.heap.size,0,none⟩,1,1,[⟨0,0,1,2⟩]⟩,⟨some ⟨w2.heap.size,0,none⟩,2,2,[⟨0,0,2,0⟩,⟨2147483648,1,1,0⟩]⟩]:=⟨_,rfl⟩
  obtain ⟨w4,hw4⟩:∃ W,w3.alloc (.cells #[.slice (some ⟨w.heap.size,0,none⟩) 1 1,.slice (some ⟨w1.heap.size,0,none⟩) 1 1,.slice (some ⟨w2.heap.size,0,none⟩) 2 2] 50)=W:=⟨_,rfl⟩
  have k4:Below w3.heap.size w3 w4:=by rw [← hw4];exact below_alloc w3 (Nat.le_refl _) _
  have o4:OwS sv w4 w3.heap.size 50 (some ⟨w3.heap.size,0,none⟩) 3 3 ns:=by rw [← hw4,hns];exact OwS.lit w3 #[.slice (some ⟨w.heap.size,0,none⟩) 1 1,.slice (some ⟨w1.heap.size,0,none⟩) 1 1,.slice (some ⟨w2.heap.size,0,none⟩) 2 2] 3 (Nat.le_refl _) (by simp [maxLen]) rfl rfl
  have s1:=k1.size
  have s2:=k2.size
  have s3:=k3.size
  have s4:=k4.size
  have hz1:w1.heap.size=w.heap.size+1:=by rw [← hw1];simp
  have hz2:w2.heap.size=w1.heap.size+1:=by rw [← hw2];simp
  have hz3:w3.heap.size=w2.heap.size+1:=by rw [← hw3];simp
  have hz4:w4.heap.size=w3.heap.size+1:=by rw [← hw4];simp
  have K4:Below w.heap.size w w4:=((k1.trans (k2.mono s1)).trans (k3.mono (by omega))).trans (k4.mono (by omega))
  have o14:=((o1.below k2).below k3).below k4
  have o24:=(o2.below k3).below k4
  have o34:=o3.below k4
  have o4':=o4
  have hord:w.heap.size < w1.heap.size∧w1.heap.size < w2.heap.size∧w2.heap.size < w3.heap.size∧w3.heap.size < w4.heap.size:=by omega
  clear o1 o2 o3 o4 k1 k2 k3 k4 hz1 hz2 hz3 hz4 s1 s2 s3 s4
  go_enter Tryz.func7,Tryz.ntmps7
  go_upto_region 2 with ((with_reducible refine on_store_at (.tmp 1) ?_);refine wb_store (cs:=#[.slice none 0 0]) (cs':=#[.slice (some ⟨w3.heap.size,0,none⟩) 3 3]) rfl _ (.tmp 1) _ rfl st_net rfl rfl (Box.new w4 _ _) rfl rfl (by simp [Value.oneCell']) ?_;intro w6 b6 hg6)
  have h46:Below w4.heap.size w4 w6:=(below_alloc w4 (Nat.le_refl _) (.cells #[.slice none 0 0] 34)).grown hg6 (below_alloc w4 (Nat.le_refl _) _).size (fun j e=>by injection e with e;omega)
  have k6:Below w.heap.size w w6:=K4.trans (h46.mono K4.size)
  have o1:=o14.below h46
  have o2:=o24.below h46
  have o3:=o34.below h46
  have o4:=o4'.below h46
  have s6:=k6.size
  obtain ⟨gb,hgb⟩:∃ g,w4.heap.size=g:=⟨_,rfl⟩
  obtain ⟨g3,hg3⟩:∃ g,w3.heap.size=g:=⟨_,rfl⟩
  obtain ⟨g2,hg2⟩:∃ g,w2.heap.size=g:=⟨_,rfl⟩
  obtain ⟨g1,hg1⟩:∃ g,w1.heap.size=g:=⟨_,rfl⟩
  rw [hg3] at o4 hord b6
  rw [hgb,hg3,hg2,hg1]
  rw [hg2] at o3 hns hord
  rw [hg1] at o2 hns hord
  rw [hgb] at hord b6
  clear hgb hg3 hg2 hg1
  clear hg6 K4 h46 o14 o24 o34 o4' hw1 hw2 hw3 hw4
  obtain ⟨fF,hfF⟩:∃ b,fput 1179206193 (nbody exF)=b:=⟨_,rfl⟩
  obtain ⟨fP,hfP⟩:∃ b,fput 1179206193 (nbody exP)=b:=⟨_,rfl⟩
  have htF:ntk fF=(exF,0):=by rw [← hfF];exact ntk_put exF_ok
  have htP:ntk fP=(exP,0):=by rw [← hfP];exact ntk_put exP_ok
  have hlF:=fb_short hfF exF_body
  have hlP:=fb_short hfP exP_body
  have hls:Nd.ls ns=exF:=by rw [hns];rfl
  have K1:=Lib.hid (netput_any (some ⟨g3,0,none⟩) 3 3 ns w6 _ (ex_nrd o1 o2 o3 o4 hns) (by rw [hls];exact exF_may) (cert_net hls exF_ok) fF (by rw [hls];exact hfF))
  clear hls
  have HtF:=Lib.hid htF
  have HtP:=Lib.hid htP
  have HfP:=Lib.hid hfP
  have HlF:=Lib.hid hlF
  have HlP:=Lib.hid hlP
  have Hns:=Lib.hid hns
  clear htF htP hfF hfP hlF hlP hns
  go_upto_region 3 with (first
    | ((with_reducible refine on_load (.tmp 1) ?_);refine wb_load rfl _ (.tmp 1) rfl st_net rfl b6 rfl ?_)
    | (go_at_call 35;refine (K1.out).mono ?_;rintro e w7 ⟨A7,n7,c7,rfl,of7,hb7⟩))
  have hn7:=of7.len
  have K2:=Lib.hid (tanalyze_any A7 n7 c7 w7 fF of7.rd (by have:=HlF.out;omega) exF HtF.out (by rw [exF_keys];simp))
  go_upto_region 4 with (go_at_call 36;refine (K2.out).mono ?_;rintro e w8 ⟨A8,n8,c8,cF,rfl,oc8,hb8,hlc,hcF⟩)
  have hn8:=oc8.len
  have K3:=Lib.hid ((cftake_any A8 n8 c8 w8 (by omega) cF oc8.rd _ (Lib.hid rfl)).mono fun e w' h=>shown_cert (certF_is hcF) h)
  have HgF:=Lib.hid (certF_is hcF)
  clear K1 K2 hcF
  go_upto_region 5 with (first
    | (go_at_call 12;refine (K3.out).mono ?_;rintro e w9 ⟨Ap,np,cp,At,ct,N,rfl,hb9⟩)
    | ((with_reducible refine on_store_at (.tmp 6) ?_);refine wb_store (cs:=Cv 0 none 0 0 0 none 0 0) (cs':=Cv 2 Ap np cp 2147483648 At 3 ct) rfl _ (.tmp 6) _ rfl st_cert rfl rfl (Box.new w9 _ _) rfl rfl (by simp [Cv,Value.oneCell']) ?_;intro w10 b10 hg10))
  have h910:Below w9.heap.size w9 w10:=(below_alloc w9 (Nat.le_refl _) (.cells (Cv 0 none 0 0 0 none 0 0) 40)).grown hg10 (below_alloc w9 (Nat.le_refl _) _).size (fun j e=>by injection e with e;omega)
  have s7:=hb7.size
  have s8:=hb8.size
  have s9:=hb9.size
  have s10:=h910.size
  have h8:Below w8.heap.size w8 w10:=hb9.trans (h910.mono s9)
  have h7:Below w7.heap.size w7 w10:=hb8.trans (h8.mono s8)
  have h6:Below w6.heap.size w6 w10:=hb7.trans (h7.mono s7)
  have of10:=of7.below h7
  have oc10:=oc8.below h8
  have o1:=o1.below h6
  have o2:=o2.below h6
  have o3:=o3.below h6
  have o4:=o4.below h6
  have b610:=b6.step h6
  have k10:Below w.heap.size w w10:=k6.trans (h6.mono s6)
  have lb6:=b6.lt
  have hgc:gb < w9.heap.size:=by omega
  obtain ⟨gc,hgc'⟩:∃ g,w9.heap.size=g:=⟨_,rfl⟩
  rw [hgc'] at b10 hgc ⊢
  have lc:=b10.lt
  clear hg10 h910 hb7 hb8 hb9 h6 h7 h8 b6 k6 of7 oc8 K3 hgc'
  have c3:w10.cell? ⟨g3,2,none⟩=some (.slice (some ⟨g2,0,none⟩) 2 2):=o4.cellAt (i:=2) (y:=⟨some ⟨g2,0,none⟩,2,2,[⟨0,0,2,0⟩,⟨2147483648,1,1,0⟩]⟩) (by rw [Hns.out];rfl)
  have l3:g3 < w10.heap.size:=by have:=b610.lt;omega
  have q3:∀ q:Step w10.heap.size w10.drew,q.w.cell? ⟨gb,0,none⟩=some (.slice (some ⟨g3,0,none⟩) 3 3):=fun q=>(b610.drew.step q.h).cell 0
  have q1:∀ q:Step w10.heap.size w10.drew,q.w.cell? ⟨g3,2,none⟩=some (.slice (some ⟨g2,0,none⟩) 2 2):=fun q=>(q.h.cell (p:=⟨g3,2,none⟩) l3).trans c3
  refine wp_region_treeL 8 (.float 0 8 (.one 8 .done)) (Th.Reach (w10.heap.size)) (Th.Reach.trans _) (Th.Reach.refl _) (by kernel_rfl) (by kernel_rfl) (by kernel_rfl) (fun KT hKT=>?_)
  repeat' first
    | ((with_reducible refine wpTreeL_done ?_);refine hKT _ _ ?_;clear hKT KT)
    | (with_reducible refine wpTreeL_two ?_ ?_)
    | ((with_reducible refine wpTreeL_float (fun KF hKF=>?_));(simp only [List.drop,List.take]);(repeat (first | go_big_quiet_skip | ((with_reducible refine onq_index (.tmp 41) ?_);refine wq_placeS rfl _ (.tmp 41) _ rfl el_row rfl rfl 2 (by omega) ?_) | ((with_reducible refine onq_slice (.tmp 43) ?_);refine wq_firstM rfl _ (.tmp 43) _ rfl el_rule rfl rfl 1 (by omega) ?_) | ((with_reducible refine onq_index (.tmp 39) ?_);refine wq_placeS rfl _ (.tmp 39) _ rfl el_row rfl rfl 2 (by omega) ?_) | go_big_quiet_step (fail) | quiet_step (fail)));refine wpQuiet_nil ?_;refine hKF _ ?_;clear hKF KF)
    | ((with_reducible refine wpTreeL_one (fun KO hKO=>?_));(simp only [List.drop,List.take]);(go_wp2_with (first | ((with_reducible refine on_store_at (.tmp 45) ?_);refine wl_setG rfl _ (.tmp 45) _ rfl size_row (f:=sv) sv_one (fun _=>rfl) rfl (⟨some ⟨g2,0,none⟩,1,2,[⟨0,0,2,0⟩]⟩:Nd) rfl (o4.below (bdrew1 w10)) (by omega) ?_;intro w12 o412 hg12 hb12)));(first | (with_reducible refine anch_last (hKO _ _ ?_)) | refine anch_endL (Th.Reach.of (by first | exact Below.refl _ _ | exact below_alloc _ (by first | omega | (simp;done) | (simp;omega)) _ | exact below_alloc2 _ (by first | omega | (simp;done) | (simp;omega)) _ _ | exact below_alloc2d _ (by simp) _ _ | exact bdrew _ _ | assumption | (exact Below.mono (by assumption) (by first | (simp;done) | (simp;omega) | omega | assumption)))) (hKO _ _ ?_));clear hKO KO)
  have ho4b:=o4.lt
  have hk12:Below w.heap.size w10 w12:=(bdrew1 w10).trans (below_of_grown (B:=w.heap.size) hg12 (fun j e=>by injection e with e;omega) (by have:=k10.size;exact this))
  have k12:=k10.trans hk12
  have of12:=(of10.below (bdrew1 w10)).grown hg12 (fun g hA e=>by injection e with e;have:=of10.ow.row_ge g (by rw [hA];rfl);omega)
  have oc12:=(oc10.below (bdrew1 w10)).grown hg12 (fun g hA e=>by injection e with e;have:=oc10.ow.row_ge g (by rw [hA];rfl);omega)
  have o1:=(o1.below (bdrew1 w10)).grown hg12 (fun g hA e=>by injection hA with hA;injection hA with hA;injection e with e;omega)
  have o2:=(o2.below (bdrew1 w10)).grown hg12 (fun g hA e=>by injection hA with hA;injection hA with hA;injection e with e;omega)
  have o3:=(o3.below (bdrew1 w10)).grown hg12 (fun g hA e=>by injection hA with hA;injection hA with hA;injection e with e;omega)
  have b12:=b610.drew.grown hg12 (fun e=>by injection e with e;omega)
  have bc12:=b10.drew.grown hg12 (fun e=>by injection e with e;omega)
  have s12:=hg12.size
  have hns2:ns.set 2 (⟨some ⟨g2,0,none⟩,1,2,[⟨0,0,2,0⟩]⟩:Nd)=[⟨some ⟨w.heap.size,0,none⟩,1,1,[⟨0,0,1,1⟩]⟩,⟨some ⟨g1,0,none⟩,1,1,[⟨0,0,1,2⟩]⟩,⟨some ⟨g2,0,none⟩,1,2,[⟨0,0,2,0⟩]⟩]:=by rw [Hns.out];rfl
  have hls2:Nd.ls (ns.set 2 (⟨some ⟨g2,0,none⟩,1,2,[⟨0,0,2,0⟩]⟩:Nd))=exP:=by rw [hns2];rfl
  have K4:=Lib.hid (netput_any (some ⟨g3,0,none⟩) 3 3 _ w12 _ (ex_nrd2 o1 o2 o3 o412 hns2) (by rw [hls2];exact exP_may) (cert_net hls2 exP_ok) fP (by rw [hls2];exact HfP.out))
  clear o1 o2 o3 o4 o412 hns2 hls2 Hns HfP hb12 hg12 b10 b610 of10 oc10 k10 q1 q3 c3 hk12
  go_upto_region 7 with (first
    | ((with_reducible refine on_load (.tmp 1) ?_);refine wb_load rfl _ (.tmp 1) rfl st_net rfl b12 rfl ?_)
    | (go_at_call 35;refine (K4.out).mono ?_;rintro e w13 ⟨A13,n13,c13,rfl,op13,hb13⟩))
  have hn13:=op13.len
  have K5:=Lib.hid (tanalyze_any A13 n13 c13 w13 fP op13.rd (by have:=HlP.out;omega) exP HtP.out (by rw [exP_keys];simp))
  go_upto_region 8 with (go_at_call 36;refine (K5.out).mono ?_;rintro e w14 ⟨A14,n14,c14,cP,rfl,oq14,hb14,hlq,hcP⟩)
  have hn14:=oq14.len
  have s13:=hb13.size
  have s14:=hb14.size
  have h1214:Below w12.heap.size w12 w14:=hb13.trans (hb14.mono s13)
  have of14:=of12.below h1214
  have oc14:=oc12.below h1214
  have op14:=op13.below hb14
  have bc14:=bc12.step h1214
  have k14:Below w.heap.size w w14:=k12.trans (h1214.mono k12.size)
  have hF:=HgF.out
  have hP:=certP_is hcP
  have HF1:=HtF.out
  have HP1:=HtP.out
  have K6:=Lib.hid ((tcheck_any A7 n7 c7 A8 n8 c8 w14 fF cF (of14.rd.more (by omega)) (oc14.rd.more (by omega)) (by have:=HlF.out;omega) (by omega)).mono fun e w' h=>by
    rw [HF1] at h
    have h2:=tcheck_yes hF.1 h
    rw [hF.2.1] at h2
    exact h2)
  have K7:=Lib.hid (fun W (hW:Below w14.heap.size w14 W)=>(tcheck_any A13 n13 c13 A14 n14 c14 W fP cP ((op14.rd.step hW).more (by have:=hW.size;omega)) ((oq14.rd.step hW).more (by have:=hW.size;omega)) (by have:=HlP.out;omega) (by omega)).mono fun e w' h=>by
    rw [HP1] at h
    have h2:=tcheck_yes hP.1 h
    rw [hP.2.1] at h2
    exact h2)
  have K8:=Lib.hid (fun W (hW:Below w14.heap.size w14 W)=>(tcheck_any A7 n7 c7 A14 n14 c14 W fF cP ((of14.rd.step hW).more (by have:=hW.size;omega)) ((oq14.rd.step hW).more (by have:=hW.size;omega)) (by have:=HlF.out;omega) (by omega)).mono fun e w' h=>by
    rw [HF1] at h
    exact tcheck_no hP.2.2 h)
  clear hF hP HF1 HP1 HtF HtP HgF hcP K4 K5 of12 oc12 bc12 op13 hb13 hb14 h1214 k12 b12 HlF HlP
  go_wp2_with (first
    | (go_at_call 10;refine (K6.out).mono ?_;clear K6;rintro e w15 ⟨rfl,hb15⟩;have y15:=bc14.step hb15;have z2:w15.cell? ⟨gc,2,none⟩=some (.int .u32 2147483648):=y15.cell 2;have z3:w15.cell? ⟨gc,3,none⟩=some (.slice At 3 ct):=y15.cell 3)
    | (go_at_call 10;refine (K7.out _ hb15).mono ?_;clear K7;rintro e w16 ⟨rfl,hb16⟩;have h16:=hb15.trans (hb16.mono hb15.size))
    | (go_at_call 10;refine (K8.out _ h16).mono ?_;clear K8;rintro e w17 ⟨c17,rfl,hb17⟩)
    | ((with_reducible refine on_eq (.tmp 77) ?_);refine wl_eqA rfl (.tmp 77) _ rfl rfl rfl true rfl ?_)
    | ((with_reducible refine on_eq (.tmp 83) ?_);refine wl_eqU rfl (.tmp 83) _ rfl rfl rfl ?_)
    | ((with_reducible refine on_field (.tmp 102) ?_);refine wl_fieldA rfl (.tmp 102) rfl rfl ?_)
    | ((with_reducible refine on_eq (.tmp 95) ?_);refine wl_eqA rfl (.tmp 95) _ rfl rfl rfl true rfl ?_))
  go_ret
  exact ⟨rfl,k14.trans ((h16.trans (hb17.mono h16.size)).mono k14.size)⟩
end Go.Proofs.YtjandnidljbkoaaGreat
