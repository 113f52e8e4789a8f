/-
  cmp.Less, slices.insertionSort of uint32s.
-/
import Derived.Test.YtjandnidljbkoaaGreatGTpShelf
import Derived.Test.YtjandnidljbkoaaGreatGTpMa
import Derived.Sort.Row
import Derived.Sort.LotA
import Derived.BigGuard
import Derived.BigCall
import Derived.CellFam
import Derived.Deep.Draws
import Derived.Deep.QuietTactic
import Derived.BigQuiet
set_option linter.unusedVariables false
namespace Go.Proofs.YtjandnidljbkoaaGreat
open Go.RowKit Go.Th Go.Sort
theorem nanU_any (x:Int) (w:World):Calls Tryz.prog 113 #[.int .u32 x] w (fun e w'=>e=.returned (.bool false)∧w' = w):=by
  go_enter Tryz.func113,Tryz.ntmps113
  go_wp2
  go_ret
  exact ⟨rfl,rfl⟩
theorem lessU_any (x y:Int) (w:World):Calls Tryz.prog 153 #[.int .u32 x,.int .u32 y] w (fun e w'=>e=.returned (.bool (Sort.ltInt x y))∧w' = w):=by
  go_enter Tryz.func153,Tryz.ntmps153
  go_wp2_with (go_at_call 113;refine (nanU_any _ _).mono ?_;rintro e w1 ⟨rfl,rfl⟩)
  go_ret
  exact ⟨rfl,rfl⟩
section
variable {α:Type} [Inhabited α] (lt:α→α→Bool)
theorem inner_on (a j:Nat) (d:Array α) (hj:a < j) (hl:lt d[j]! d[j - 1]! = true):insInner lt a j d=insInner lt a (j - 1) (swp d j (j - 1)):=by
  cases j with
  | zero=>omega
  | succ k =>
    simp only [Nat.add_sub_cancel] at hl ⊢
    rw [insInner]
    simp [hj,hl]
theorem inner_end (a j:Nat) (d:Array α) (h:j≤a∨lt d[j]! d[j - 1]! = false):insInner lt a j d=d:=by
  cases j with
  | zero=>rw [insInner]
  | succ k =>
    simp only [Nat.add_sub_cancel] at h
    rw [insInner]
    rcases h with h | h
    · simp [show ¬ a < k+1 by omega]
    · simp [h]
end
set_option maxRecDepth 100000 in
set_option maxHeartbeats 2000000 in
theorem sins_any (blk off cap a b:Nat) (d:Array Int) (w:World) (hH:Holds (Value.int .u32) w blk off d) (hab:a≤b) (hb:b≤d.size) (hsz:d.size < 4611686018427387904) :
    Calls Tryz.prog 147 #[.slice (some ⟨blk,off,none⟩) d.size cap,.int .i64 a,.int .i64 b] w fun e w'=>e=.returned (.tuple #[])∧∃ n,w' = putRow (Value.int .u32) (Sort.ahead w n) blk off (insertionSort ltInt d a b):=by
  go_enter Tryz.func147,Tryz.ntmps147
  go_wp2
  go_loopw [6] (fun s6 wr=>∃ (i n:Nat) (di:Array Int),s6=.int .i64 i∧a < i∧i≤b+1∧di.size=d.size∧wr=putRow (Value.int .u32) (Sort.ahead w n) blk off di∧Hid (insOuter ltInt a b i di=insOuter ltInt a b (a+1) d)) (fun s6 _=>b+1 - (intOf s6).toNat)
  case atStart=>exact ⟨a+1,0,d,by go_num,by omega,by omega,rfl,(putRow_self _ _ _ _ _ hH).symm,Lib.hid rfl⟩
  case round =>
    obtain ⟨i,n,di,rfl,hai,hib,hsi,hwr,HO⟩:=hrel
    go_wp2
    · have hlt:i < b:=by assumption
      go_loopw [7] (fun s7 wq=>∃ (j m:Nat) (dj:Array Int),s7=.int .i64 j∧a≤j∧j≤i∧dj.size=d.size∧wq=putRow (Value.int .u32) (Sort.ahead w m) blk off dj∧Hid (insInner ltInt a j dj=insInner ltInt a i di)) (fun s7 _=>(intOf s7).toNat)
      case atStart=>exact ⟨i,n,di,rfl,by omega,Nat.le_refl _,hsi,rfl,Lib.hid rfl⟩
      case round =>
        obtain ⟨j,m,dj,rfl,haj,hji,hsj,hwq,HI⟩:=hrel
        obtain ⟨G,hG⟩:∃ G:Nat→Int,∀ t,G t=dj[t]!:=⟨fun t=>dj[t]!,fun _=>rfl⟩
        have hcell:∀ t,t < d.size→wr.cell? ⟨blk,off+t,none⟩=some (.int .u32 (G t)):=fun t ht=>by
          rw [hwq,hG];exact cell?_putRow _ _ _ _ d dj (holds_ahead _ _ _ _ _ _ hH) hsj t (by omega)
        have hfroz:∀ t,t < d.size→wr.frozen? ⟨blk,off+t,none⟩=false:=fun t ht=>by
          rw [hwq,frozen?_putRow];exact (holds_ahead _ _ m _ _ _ hH t ht).2
        have HW:=Lib.hid hwq
        have HG:=Lib.hid hG
        clear hwq hG hH
        have fin:(j≤a∨ltInt dj[j]! dj[j - 1]! = false)→∀ q,∃ (i' n':Nat) (di':Array Int),Value.int .i64 ((i:Int)+1)=.int .i64 (i':Nat)∧a < i'∧i'≤b+1∧di'.size=d.size∧wr.drewN q=putRow (Value.int .u32) (Sort.ahead w n') blk off di'∧Hid (insOuter ltInt a b i' di' = insOuter ltInt a b (a+1) d):=fun hs q =>
          ⟨i+1,m+q,dj,by go_num,by omega,by omega,hsj,by rw [HW.out,putRow_ahead _ w m,← ahead_ahead,putRow_ahead];rfl,Lib.hid (by
            rw [← HO.out]
            conv=>rhs;rw [insOuter,if_pos hlt]
            rw [← HI.out,inner_end _ _ _ _ hs])⟩
        have Fin:=Lib.hid fin
        clear fin
        go_wp2
        by_cases hja:a < j
        · go_quiet (first | (go_at_call 153;refine Calls.quiet_of_same (lessU_any _ _ _)))
          go_wp2
          · have hl:ltInt (G j) (G (j - 1))=true:=by assumption
            go_region
            all_goals go_wp2
            go_roundw
            case rel =>
              refine ⟨j - 1,m+(nq+1),swp dj j (j - 1),by congr 1;omega,by omega,by omega,by rw [swp_size];exact hsj,?_,?_⟩
              · rw [HW.out,HG.out,HG.out]
                have:=putRow_swp (Value.int .u32) (Sort.ahead w (m+(nq+1))) blk off dj j (j - 1) (by omega) (by omega)
                rw [← this,putRow_ahead _ w m,putRow_ahead _ w (m+(nq+1)),← ahead_ahead]
                rfl
              · exact Lib.hid (by rw [← HI.out,inner_on ltInt a j dj hja (by rw [← HG.out,← HG.out];exact hl)])
            case measure=>simp [intOf];omega
          · have hl:ltInt (G j) (G (j - 1))=false:=by assumption
            go_roundw
            case rel=>exact Fin.out (Or.inr (by rw [← HG.out,← HG.out];exact hl)) nq
            case measure=>simp [intOf];omega
        · go_quiet (first | (go_at_call 153;refine Calls.quiet_of_same (lessU_any _ _ _)))
          go_wp2
          go_roundw
          case rel=>exact Fin.out (Or.inl (by omega)) nq
          case measure=>simp [intOf];omega
    · have hge:¬ i < b:=by assumption
      go_end0
      exact ⟨rfl,n,by unfold insertionSort;rw [← HO.out,insOuter,if_neg hge]⟩
end Go.Proofs.YtjandnidljbkoaaGreat
