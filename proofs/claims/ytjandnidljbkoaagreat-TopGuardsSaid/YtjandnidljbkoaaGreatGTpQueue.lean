/-
  queue.New, Put, Take, Len: a row of what waits.
-/
import Derived.Test.YtjandnidljbkoaaGreatGTpVec
import Derived.Conc.LoneSelect
import Derived.Conc.LoneSelectN
set_option linter.unusedVariables false
namespace Go.Th
open Go.RowKit Go.Conc
structure QAt (w:World) (tq:TypeId) (gq gc n:Nat) (l:List Int):Prop where
  box:Box w gq tq #[.chan (some gc)]
  chan:∃ s r:Nat,w.heap[gc]? = some (.chan n (l.map iv).toArray false s r false)
section
variable {w w':World} {tq:TypeId} {gq gc n:Nat} {l:List Int}
theorem QAt.lt (h:QAt w tq gq gc n l):gc < w.heap.size:=by
  obtain ⟨s,r,h⟩:=h.chan
  exact (Array.getElem?_eq_some_iff.1 h).1
theorem QAt.step (h:QAt w tq gq gc n l) (hb:Below w.heap.size w w'):QAt w' tq gq gc n l:=by
  have hl:=h.lt
  obtain ⟨s,r,h2⟩:=h.chan
  exact ⟨h.box.step hb,s,r,(hb.block gc hl).trans h2⟩
theorem QAt.grown {row:Option Nat} (h:QAt w tq gq gc n l) (hg:w.grownBy w' row) (h1:row≠some gq) (h2:row≠some gc):QAt w' tq gq gc n l:=by
  have hl:=h.lt
  obtain ⟨s,r,h3⟩:=h.chan
  exact ⟨h.box.grown hg h1,s,r,(hg.block gc hl (fun e=>h2 e.symm)).trans h3⟩
theorem QAt.ne (h:QAt w tq gq gc n l):gq≠gc:=fun e=>by
  obtain ⟨s,r,h2⟩:=h.chan
  subst e
  have:=h.box.at_.symm.trans h2
  cases this
theorem chan_grown (w:World) (c cap:Nat) (buf:Array Value) (cl:Bool) (s r:Nat) (tm:Bool):w.grownBy (w.setChan c cap buf cl s r tm) (some c) :=
  ⟨rfl,rfl,rfl,by simp [World.setChan],fun k _ hk=>by simp only [World.setChan];rw [Array.getElem?_setIfInBounds_ne (fun e=>hk (by rw [e]))]⟩
end
end Go.Th
namespace Go.Proofs.YtjandnidljbkoaaGreat
open Go.RowKit Go.Th Go.Conc
set_option maxRecDepth 100000 in
theorem qput_any (gq gc n:Nat) (l:List Int) (x:Int) (w:World) (hq:QAt w 189 gq gc n l) (hn:l.length < n) :
    Calls Tryz.prog 69 #[.pointer (some ⟨gq,0,none⟩),.int .i64 x] w (fun e w'=>e=.returned (.int .i64 0)∧QAt w' 189 gq gc n (l ++ [x])∧w.grownBy w' (some gc)):=by
  have hqne:=hq.ne
  have hql:=hq.lt
  obtain ⟨hb,s,r,hc⟩:=hq
  have hcell:w.cell? ⟨gq,0,none⟩=some (.chan (some gc)):=hb.cell 0
  refine calls_of_loneTo fun cs=>?_
  have e:Frame.enter Tryz.prog 69 #[.pointer (some ⟨gq,0,none⟩),.int .i64 x] .normal=(base 69).at ⟨#[.pointer (some ⟨gq,0,none⟩),.int .i64 x,undef,undef,undef,undef,undef,undef,undef,undef,undef,undef,undef],[]⟩ [.code (Tryz.f69.body.getD .skip)]:=by
    simp [Frame.enter,Frame.at,Tryz.func69,base,Tryz.f69]
  rw [e]
  refine LoneTo.goes (n:=60) ?_
  simp only [Tryz.f69,Option.getD_some]
  repeat s_c stepG_seq
  s_reg
  s_op
  s_c stepG_region_end
  repeat s_c stepG_seq
  s_reg
  s_op
  s_op
  s_op
  s_op
  s_c stepG_region_end
  repeat s_c stepG_seq
  s_reg
  s_op
  s_c stepG_region_end
  repeat s_c stepG_seq
  s_reg
  s_stop
  refine LoneTo.step (step_lone_select_send_room (c:=gc) (v:=.int .i64 x) (z':=.int .i64 0) (stepG_comm (cases:=#[scase gc (.int .i64 x) (.int .i64 0)]) (blocking:=false) (shape:=.select) (w':=w) rfl rfl (by decide) (by simp [go_sem,execOp,scase,Act.eval])) hc (by simpa using hn)) ?_
  rw [Frame.finish_at]
  walk_nrm
  refine LoneTo.goes (n:=60) ?_
  s_op
  s_op
  s_c stepG_region_end
  s_c stepG_block
  s_cond true
  s_c stepG_seq
  s_reg
  s_op
  s_c stepG_region_end
  s_c stepG_ret'
  s_stop
  refine LoneTo.done ⟨.returned (.int .i64 0),_,rfl,⟨rfl,⟨hb.grown (chan_grown _ _ _ _ _ _ _ _) (fun e=>hqne (by injection e with e;exact e.symm)),s+1,r,?_⟩,chan_grown _ _ _ _ _ _ _ _⟩,rfl,rfl,rfl,rfl,_,Tryz.func69,by simp [results,Tryz.f69,Frame.at]⟩
  rw [heap_setChan _ _ _ _ _ _ _ _ hql]
  simp [iv]
set_option maxRecDepth 100000 in
theorem qtake_any (gq gc n:Nat) (l:List Int) (x:Int) (w:World) (hq:QAt w 189 gq gc n (x :: l)) :
    Calls Tryz.prog 72 #[.pointer (some ⟨gq,0,none⟩)] w (fun e w'=>e=.returned (.tuple #[.int .i64 x,.int .i64 0])∧QAt w' 189 gq gc n l∧w.grownBy w' (some gc)):=by
  have hqne:=hq.ne
  have hql:=hq.lt
  obtain ⟨hb,s,r,hc⟩:=hq
  have hcell:w.cell? ⟨gq,0,none⟩=some (.chan (some gc)):=hb.cell 0
  refine calls_of_loneTo fun cs=>?_
  have e:Frame.enter Tryz.prog 72 #[.pointer (some ⟨gq,0,none⟩)] .normal=(base 72).at ⟨#[.pointer (some ⟨gq,0,none⟩),undef,undef,undef,undef,undef,undef,undef,undef,undef,undef,undef,undef,undef],[]⟩ [.code (Tryz.f72.body.getD .skip)]:=by
    simp [Frame.enter,Frame.at,Tryz.func72,base,Tryz.f72]
  rw [e]
  refine LoneTo.goes (n:=60) ?_
  simp only [Tryz.f72,Option.getD_some]
  repeat s_c stepG_seq
  s_reg
  s_op
  s_op
  s_c stepG_region_end
  repeat s_c stepG_seq
  s_reg
  s_op
  s_op
  s_op
  s_op
  s_c stepG_region_end
  repeat s_c stepG_seq
  s_reg
  s_stop
  refine LoneTo.step (step_lone_select_recv_buf (c:=gc) (z:=.int .i64 0) (stepG_comm (cases:=#[rcase gc (.int .i64 0)]) (blocking:=false) (shape:=.select) (w':=w) rfl rfl (by decide) (by simp [go_sem,execOp,rcase,Act.eval])) hc (by simp)) ?_
  rw [Frame.finish_at,show ((x :: l).map iv).toArray.getD 0 undef=.int .i64 x from rfl]
  walk_nrm
  refine LoneTo.goes (n:=60) ?_
  s_op
  s_op
  s_c stepG_region_end
  s_c stepG_block
  s_cond true
  repeat s_c stepG_seq
  s_reg
  s_op
  s_op
  s_c stepG_region_end
  repeat s_c stepG_seq
  s_reg
  s_op
  s_op
  s_op
  s_c stepG_region_end
  s_c stepG_ret'
  s_stop
  refine LoneTo.done ⟨.returned (.tuple #[.int .i64 x,.int .i64 0]),_,rfl,⟨rfl,⟨hb.grown (chan_grown _ _ _ _ _ _ _ _) (fun e=>hqne (by injection e with e;exact e.symm)),s,r+1,?_⟩,chan_grown _ _ _ _ _ _ _ _⟩,rfl,rfl,rfl,rfl,_,Tryz.func72,by simp [results,Tryz.f72,Frame.at]⟩
  rw [heap_setChan _ _ _ _ _ _ _ _ hql]
  simp
  exact List.take_of_length_le (by simp)
set_option maxRecDepth 100000 in
theorem qlen_any (gq gc n:Nat) (l:List Int) (w:World) (hq:QAt w 189 gq gc n l) :
    Calls Tryz.prog 71 #[.pointer (some ⟨gq,0,none⟩)] w (RetV (.int .i64 l.length) w):=by
  obtain ⟨hb,s,r,hc⟩:=hq
  have hcell:w.cell? ⟨gq,0,none⟩=some (.chan (some gc)):=hb.cell 0
  have hlen:∀ ty,(Builtin.len_ #[187] ty #[.chan (some gc)]).run Tryz.prog w=.ok (.int .i64 l.length) w:=fun ty=>by
    have:=run_len_chan (P:=Tryz.prog) 187 ty Tryz.underlying187 hc
    simpa [goInt] using this
  go_enter Tryz.func71,Tryz.ntmps71
  go_wp2
  go_ret
  exact ⟨rfl,rfl⟩
theorem info_int2:(Tryz.prog.info? 3).map (·.bytes)=some 8:=by kernel_rfl
set_option maxRecDepth 100000 in
theorem qnew_any (n:Nat) (w:World) (h1:1≤n) (h2:n≤4096) :
    Calls Tryz.prog 68 #[.int .i64 n] w (fun e w'=>∃ gq gc,e=.returned (.tuple #[.pointer (some ⟨gq,0,none⟩),.int .i64 0])∧QAt w' 189 gq gc n []∧w.heap.size≤gc∧w.heap.size≤gq∧Below w.heap.size w w'):=by
  obtain ⟨i,hi,hb⟩:=Option.map_eq_some_iff.1 info_int2
  have hmc:∀ w,(Instr.makeChan 187 (.int .i64 n)).run Tryz.prog w=.ok (.chan (some w.heap.size)) (w.alloc (.chan n #[] false 0 0 false)):=fun w=>by
    exact run_makeChan (P:=Tryz.prog) (w:=w) Tryz.underlying187 hi .i64 n (by omega) (by rw [hb];omega)
  go_enter Tryz.func68,Tryz.ntmps68
  go_wp2
  go_ret2
  have hbn:=Box.new (w.alloc (.chan n #[] false 0 0 false)) #[.chan (some w.heap.size)] 189
  rw [heap_size_alloc] at hbn
  refine ⟨_,_,rfl,⟨hbn,0,0,?_⟩,Nat.le_refl _,by simp,?_⟩
  · exact ((below_alloc (w.alloc (.chan n #[] false 0 0 false)) (Nat.le_refl _) _).block _ (by simp)).trans (heap_alloc_new _ _)
  · exact ((Below.refl _ _).alloc (Nat.le_refl _) _).alloc (by simp) _
end Go.Proofs.YtjandnidljbkoaaGreat
