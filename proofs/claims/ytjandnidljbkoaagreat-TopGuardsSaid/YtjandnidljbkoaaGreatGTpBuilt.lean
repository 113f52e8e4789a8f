/-
  The trie: Build.
-/
import Derived.Test.YtjandnidljbkoaaGreatGTpBuild
set_option linter.unusedVariables false
namespace Go.Th
open Go.RowKit
def Diff (l:List Ru):Prop:=l.Pairwise (fun q r=>¬ (q.a=r.a∧q.n=r.n))
theorem Diff.apart {l:List Ru} (h:Diff l):Apart l:=by
  intro r hr s hs h1 h2
  obtain ⟨i,hi⟩:=List.getElem?_of_mem hr
  obtain ⟨j,hj⟩:=List.getElem?_of_mem hs
  have hi2:=(List.getElem?_eq_some_iff.1 hi)
  have hj2:=(List.getElem?_eq_some_iff.1 hj)
  obtain ⟨hi1,hi2⟩:=hi2
  obtain ⟨hj1,hj2⟩:=hj2
  have hp:=List.pairwise_iff_getElem.1 h
  rcases Nat.lt_trichotomy i j with h3 | h3 | h3
  · exact absurd ⟨by rw [hi2,hj2];exact h1,by rw [hi2,hj2];exact h2⟩ (hp i j hi1 hj1 h3)
  · subst h3;exact hi2.symm.trans hj2
  · exact absurd ⟨by rw [hi2,hj2];exact h1.symm,by rw [hi2,hj2];exact h2.symm⟩ (hp j i hj1 hi1 h3)
theorem Diff.ahead {l:List Ru} (h:Diff l) {k:Nat} {r:Ru} (hr:l[k]? = some r):∀ q∈l.take k,¬ (q.a=r.a∧q.n=r.n):=by
  intro q hq
  obtain ⟨i,hi⟩:=List.getElem?_of_mem hq
  obtain ⟨hi1,hi2⟩:=List.getElem?_eq_some_iff.1 hi
  obtain ⟨hk1,hk2⟩:=List.getElem?_eq_some_iff.1 hr
  have hp:=List.pairwise_iff_getElem.1 h
  rw [List.getElem_take] at hi2
  have hi3:i < k:=by rw [List.length_take] at hi1;omega
  rw [← hi2,← hk2]
  exact hp i k (by omega) hk1 hi3
theorem take_more {α:Type} {l:List α} {k:Nat} {r:α} (h:l[k]? = some r):l.take (k+1)=l.take k ++ [r]:=by
  rw [List.take_add_one,h];rfl
end Go.Th
namespace Go.Proofs.YtjandnidljbkoaaGreat
open Go.RowKit Go.Th
def TBRel (l:List Ru) (n:Nat) (w:World) (i:Value) (wr:World):Prop :=
  ∃ (k:Nat) (t:Tr) (size:Int),k≤n∧i=.int .i64 k∧TrieAt 115 123 wr w.heap.size w.heap.size t size∧Hid (BuiltOf (l.take k) t)∧0≤size∧size≤2 * k∧Below w.heap.size w wr
def BuildR (l:List Ru) (w:World) (e:Ending) (w':World):Prop :=
  ∃ (gt:Nat) (t:Tr) (size:Int),e=.returned (.pointer (some ⟨gt,0,none⟩))∧TrieAt 115 123 w' w.heap.size gt t size∧BuiltOf l t∧Below w.heap.size w w'
set_option maxHeartbeats 2000000 in
theorem tbuild_any (A:Option Addr) (n c:Nat) (l:List Ru) (w:World) (hm:n≤100000) (B:Nat) (hr:RdM Ru.cs w B A n c l) (hok:∀ r∈l,r.Ok∧pmay r.a r.n=0) (hd:Diff l) :
    Calls Tryz.prog 16 #[.slice A n c] w (BuildR l w):=by
  have Hok:=Lib.hid hok
  have Hd:=Lib.hid hd
  have b0:=Box.new w #[.pointer none,.int .i64 0] 115
  have k0:=below_alloc w (Nat.le_refl _) (.cells #[.pointer none,.int .i64 0] 115)
  obtain ⟨W,hW⟩:∃ W,w.alloc (.cells #[.pointer none,.int .i64 0] 115)=W:=⟨_,rfl⟩
  rw [hW] at b0 k0
  clear hok hd
  go_enter Tryz.func16,Tryz.ntmps16
  go_upto_region 2 with fail
  clear hW
  go_wp2
  go_loopw [10] (fun i wr=>TBRel l n w i wr) (fun i _=>n - (intOf i).toNat)
  case atStart=>exact ⟨0,.nil,0,by omega,rfl,⟨b0,trivial,List.nodup_nil,by simp [Tr.bs],by simp [Tr.bs],Nat.le_refl _⟩,BuiltOf.nil,by omega,by omega,k0⟩
  case round =>
    obtain ⟨k,t,size,hk,rfl,ht,hbt,hs0,hs1,hb⟩:=hrel
    have hrk:=hr.step hb
    have hlen:=hrk.len
    have hbs:=hb.size
    by_cases hlt:k < n
    · obtain ⟨r,hr0⟩:∃ r,l[k]? = some r:=⟨l[k]'(by omega),List.getElem?_eq_getElem _⟩
      have hro:=Hok.out r (List.mem_of_getElem? hr0)
      have ha:=hro.1.a
      have hn:=hro.1.n
      have hrp:=RuP.of ha hro.2
      have Hr:=Lib.hid hr0
      have KM:=Lib.hid (fun w=>pmay_any r.a r.n w ha hn)
      rw [hro.2] at KM
      have kW:=below_alloc wr (Nat.le_refl _) (.cells r.cs.toArray 52)
      have b5:=Box.new wr r.cs.toArray 52
      have KP:=Lib.hid (tput_any w.heap.size w.heap.size r hrp t size (wr.alloc (.cells r.cs.toArray 52)) (ht.step kW) hbt.out.wf ⟨hs0,by omega⟩ (by simp;omega))
      clear hr0 hro ha hn ht
      go_wp2_with (first
        | ((with_reducible refine on_index (.tmp 8) ?_);refine wm_at Ru.cs_length rfl _ _ _ rfl el_rule rfl rfl (by omega) (by omega) hrk ?_;intro b1 j1 r1 hr1 hb1 hc1;have hxx:r=r1:=get_eq Hr.out hr1.out (by omega);subst hxx)
        | ((with_reducible refine on_load (.tmp 12) ?_);refine wr_load rfl _ _ rfl st_rule rfl hc1 ?_)
        | (go_at_call 54;refine (KM.out _).mono ?_;rintro e w2 ⟨rfl,rfl⟩)
        | ((with_reducible refine on_load (.tmp 5) ?_);refine wr_box rfl _ _ rfl st_rule rfl b5 ?_)
        | (go_at_call 55;refine (KP.out).mono ?_;rintro e w3 ⟨rfl,b1,b2,size2,hT2,hs20,hs21,hb2⟩))
      go_roundw
      case rel=>exact ⟨k+1,putT r b1 b2 t,size2,by omega,by go_num,hT2,by rw [take_more Hr.out];exact hbt.out.put hrp (Hd.out.ahead Hr.out) b1 b2,hs20,by omega,(hb.trans (kW.mono hbs)).trans hb2⟩
      case measure=>simp [intOf];omega
    · have h5:l.take k=l:=List.take_of_length_le (by omega)
      rw [h5] at hbt
      go_wp2
      go_ret
      exact ⟨_,t,size,rfl,ht,hbt.out,hb⟩
end Go.Proofs.YtjandnidljbkoaaGreat
