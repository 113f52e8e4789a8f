/-
  Regions that draw their order: a walk in one order of our own serves every order, where each operation of it either yields one value in every world that the others may leave (and leaves the world alone), or is the only one that may come up. Plain theorems over any program.
-/
import Derived.Test.YteellpcagdnikaaQuiet
namespace Go.Th
open Go.RowKit

def NoWay : Exit → Act → World → Prop := fun _ _ _ => False

section
variable {P : Program} {ops : Array Oper} {G : World → World → Prop} {md : Region.Mode}

theorem upon_map {o : Oper} {a a' : Act} {next next' : Act → World → Prop} {Q' : Exit → Act → World → Prop}
    (hval : ∀ v w, next (a.put o.dst v) w → next' (a'.put o.dst v) w)
    (hdef : ∀ d w, next ({ a with defers := d :: a.defers }.put o.dst undef) w → next' ({ a' with defers := d :: a'.defers }.put o.dst undef) w)
    (r : Result Next) (h : o.upon P a next NoWay r) : o.upon P a' next' Q' r := by
  cases r with
  | ok n w' =>
    cases n <;> simp only [Oper.upon] at h ⊢
    case value v => exact hval _ _ h
    case skip => exact hval _ _ h
    case defer d => exact hdef _ _ h
    case enter f args =>
      refine h.mono fun e w'' hh => ?_
      cases e with
      | returned v => exact hval _ _ hh
      | panicked c => exact hh.elim
      | outgrown => obtain ⟨_, _, hf⟩ := hh; exact hf.elim
    case row row args => exact h.mono fun v w'' hh => hval _ _ hh
  | halt x w' =>
    cases x <;> simp only [Oper.upon] at h
    case panic v => exact h.elim
theorem wp_weak {o : Oper} {a : Act} {w : World} {K K' : Act → World → Prop} {Q' : Exit → Act → World → Prop} (h : ∀ a w, K a w → K' a w) (hh : o.wp P a w K NoWay) : o.wp P a w K' Q' :=
  upon_map (fun _ _ => h _ _) (fun _ _ => h _ _) _ hh

/-- Operation number i comes up; each step is one of G. -/
def opG (P : Program) (ops : Array Oper) (G : World → World → Prop) (i : Nat) (K : Act → World → Prop) (a : Act) (w : World) : Prop :=
  match ops[i]? with
  | none => K a w
  | some o => if Region.wanted o (yielded ops a.tmps) then o.wp P a w (fun a' w' => G w w' ∧ K a' w') NoWay else K (a.put o.dst undef) w
def anyG (P : Program) (md : Region.Mode) (ops : Array Oper) (G : World → World → Prop) (Q : Act → World → Prop) : Nat → Array Bool → Act → World → Prop
  | 0, listed, a, w => Region.ready md ops listed = [] ∧ Q a w
  | fuel + 1, listed, a, w =>
    (Region.ready md ops listed = [] → Q a w) ∧
    ∀ i ∈ Region.ready md ops listed, opG P ops G i (anyG P md ops G Q fuel (listed.setIfInBounds i true)) a w

theorem wpAny_of_anyG {Q : Act → World → Prop} {Q' : Exit → Act → World → Prop} (hQ : ∀ a w, Q a w → Q' .normal a w) : ∀ (fuel : Nat) (listed : Array Bool) (a : Act) (w : World), anyG P md ops G Q fuel listed a w → wpAny P md ops Q' fuel listed a w
  | 0, _, _, _, h => ⟨h.1, hQ _ _ h.2⟩
  | fuel + 1, listed, a, w, h => by
    refine ⟨fun h0 => hQ _ _ (h.1 h0), fun i hi => ?_⟩
    have h1 := h.2 i hi
    unfold opG at h1
    unfold wpOp
    split
    · rename_i ho
      simp only [ho] at h1
      exact wpAny_of_anyG hQ fuel _ _ _ h1
    · rename_i o ho
      simp only [ho] at h1
      split
      · rename_i hw
        simp only [hw, if_true] at h1
        exact .inl (wp_weak (fun a' w' hh => wpAny_of_anyG hQ fuel _ _ _ hh.2) h1)
      · rename_i hw
        simp only [hw] at h1
        exact wpAny_of_anyG hQ fuel _ _ _ h1

/-- In state a, in every world that is a step of G from w, operation o leaves v in its temporary, and the world as it is. -/
def YieldsG (P : Program) (ops : Array Oper) (G : World → World → Prop) (o : Oper) (v : Value) (a : Act) (w : World) : Prop :=
  (Region.wanted o (yielded ops a.tmps) = true ∧ ∀ w', G w w' → (execOp a.eval o).run P w' = .ok (.value v) w' ∨ ((execOp a.eval o).run P w' = .ok .skip w' ∧ v = undef)) ∨
  (Region.wanted o (yielded ops a.tmps) = false ∧ v = undef)
theorem YieldsG.of_same {o : Oper} {v : Value} {a a' : Act} {w : World} (hy : YieldsG P ops G o v a w) (he : execOp a'.eval o = execOp a.eval o)
    (hw : Region.wanted o (yielded ops a'.tmps) = Region.wanted o (yielded ops a.tmps)) : YieldsG P ops G o v a' w := by
  unfold YieldsG at *
  rw [he, hw]
  exact hy
theorem YieldsG.later {o : Oper} {v : Value} {a : Act} {w w' : World} (hG : ∀ x y z, G x y → G y z → G x z) (hy : YieldsG P ops G o v a w) (h : G w w') : YieldsG P ops G o v a w' := by
  rcases hy with ⟨h1, h2⟩ | h1
  · exact .inl ⟨h1, fun w'' hw => h2 w'' (hG _ _ _ h hw)⟩
  · exact .inr h1
theorem YieldsG.opG {i : Nat} {o : Oper} {v : Value} {a : Act} {w : World} (hr : ∀ x, G x x) (hi : ops[i]? = some o) (hy : YieldsG P ops G o v a w) {K : Act → World → Prop} (h : K (a.put o.dst v) w) : opG P ops G i K a w := by
  unfold Go.Th.opG
  simp only [hi]
  rcases hy with ⟨hw, hv⟩ | ⟨hw, rfl⟩
  · simp only [hw, if_true]
    unfold Oper.wp
    rcases hv w (hr w) with e | ⟨e, rfl⟩ <;> rw [e] <;> exact ⟨hr w, h⟩
  · simp only [hw, Bool.false_eq_true, if_false]
    exact h
theorem opG_mono {i : Nat} {a : Act} {w : World} {K K' : Act → World → Prop} (h : ∀ a' w', (w' = w ∨ G w w') → K a' w' → K' a' w') (hh : opG P ops G i K a w) : opG P ops G i K' a w := by
  unfold opG at *
  split
  · rename_i ho; simp only [ho] at hh; exact h _ _ (.inl rfl) hh
  · rename_i o ho
    simp only [ho] at hh
    split
    · rename_i hw; simp only [hw, if_true] at hh; exact wp_weak (fun a' w' q => ⟨q.1, h _ _ (.inr q.1) q.2⟩) hh
    · rename_i hw; simp only [hw] at hh; exact h _ _ (.inl rfl) hh
theorem opG_put {j : Nat} {oi oj : Oper} {v : Value} (hG : ∀ x y z, G x y → G y z → G x z) (hj : ops[j]? = some oj) (hap : oi.apart ops oj = true)
    (hsi : ∀ cs b, oi.op ≠ .select cs b) (hsj : ∀ cs b, oj.op ≠ .select cs b) {K : Act → World → Prop} {a : Act} {w : World}
    (hy : YieldsG P ops G oi v a w) (h : opG P ops G j K (a.put oi.dst v) w) :
    opG P ops G j (fun a' w' => YieldsG P ops G oi v a' w' ∧ K (a'.put oi.dst v) w') a w := by
  obtain ⟨h1, h2, h3⟩ := Oper.apart_spec hap
  have keep : ∀ (a : Act), YieldsG P ops G oi v a w → ∀ u, YieldsG P ops G oi v (a.put oj.dst u) w := fun a hy u =>
    hy.of_same (execOp_put oi hsi a oj.dst u h3) (wanted_put oi a oj.dst u h3)
  have defers_put : ∀ (b : Act) (x : Option Tmp) (u : Value) (ds : List Deferred), ({ b with defers := ds } : Act).put x u = { b.put x u with defers := ds } := fun b x u ds => by cases x <;> rfl
  have pd : ∀ (b : Act) (x : Option Tmp) (u : Value), (b.put x u).defers = b.defers := fun b x u => by cases x <;> rfl
  unfold opG at *
  simp only [hj] at *
  rw [wanted_put oj a oi.dst v h1] at h
  split
  · rename_i hw
    simp only [hw, if_true] at h
    unfold Oper.wp at *
    rw [execOp_put oj hsj a oi.dst v h1] at h
    refine upon_map (a := a.put oi.dst v) (fun u w' hh => ⟨hh.1, (keep a hy u).later hG hh.1, ?_⟩) (fun d w' hh => ⟨hh.1, ?_, ?_⟩) _ h
    · rw [← Act.put_comm a v u h2]; exact hh.2
    · exact (((keep a hy undef).later hG hh.1).of_same (a' := ({ a with defers := d :: a.defers } : Act).put oj.dst undef) (by rw [defers_put]; rfl) (by rw [defers_put]))
    · have hh2 := hh.2
      have e : ({ (a.put oi.dst v) with defers := d :: (a.put oi.dst v).defers } : Act).put oj.dst undef = (({ a with defers := d :: a.defers } : Act).put oj.dst undef).put oi.dst v := by
        have hL := defers_put (a.put oi.dst v) oj.dst undef (d :: (a.put oi.dst v).defers)
        have hR1 := defers_put a oj.dst undef (d :: a.defers)
        have hR2 := defers_put (a.put oj.dst undef) oi.dst v (d :: a.defers)
        rw [hL, hR1, hR2, Act.put_comm a v undef h2, pd]
      rw [e] at hh2
      exact hh2
  · rename_i hw
    simp only [hw] at h
    exact ⟨keep a hy _, by rw [← Act.put_comm a v undef h2]; exact h⟩
theorem anyG_first {Q : Act → World → Prop} {i : Nat} {oi : Oper} {v : Value} (hG : ∀ x y z, G x y → G y z → G x z) (hr0 : ∀ x, G x x) (hi : ops[i]? = some oi) (hsel : ∀ (j : Nat) (o : Oper) cs b, ops[j]? = some o → o.op ≠ .select cs b) :
    ∀ (fuel : Nat) (listed : Array Bool) (a : Act) (w : World),
      (∀ j oj, ops[j]? = some oj → j ≠ i → listed.getD j true = false → (∀ e ∈ oj.after, Region.binds md e = true → e.on ≠ i) → oi.apart ops oj = true) →
      i ∈ Region.ready md ops listed → YieldsG P ops G oi v a w →
      anyG P md ops G Q fuel (listed.setIfInBounds i true) (a.put oi.dst v) w → anyG P md ops G Q (fuel + 1) listed a w := by
  intro fuel
  induction fuel with
  | zero =>
    intro listed a w _ hr hy H
    refine ⟨fun h => (by rw [h] at hr; cases hr), fun j hj => ?_⟩
    by_cases hji : j = i
    · subst hji; exact hy.opG hr0 hi H
    · have := ready_mono hj hji
      rw [H.1] at this
      cases this
  | succ fuel ih =>
    intro listed a w hfree hr hy H
    refine ⟨fun h => (by rw [h] at hr; cases hr), fun j hj => ?_⟩
    by_cases hji : j = i
    · subst hji; exact hy.opG hr0 hi H
    · have h1 := H.2 j (ready_mono hj hji)
      obtain ⟨hjun, oj, hoj, hall⟩ := mem_ready.1 hj
      have hnot : ∀ e ∈ oj.after, Region.binds md e = true → e.on ≠ i := fun e he hb heq => by
        have h1 := hall e he hb
        have h0 := (mem_ready.1 hr).1
        rw [heq] at h1
        rcases Nat.lt_or_ge i listed.size with h' | h'
        · simp [h'] at h0 h1; rw [h0] at h1; cases h1
        · simp [Array.getElem?_eq_none h'] at h1
      have h2 := opG_put hG hoj (hfree j oj hoj hji hjun hnot) (fun cs b => hsel i oi cs b hi) (fun cs b => hsel j oj cs b hoj) hy h1
      have hfree' : ∀ k ok, ops[k]? = some ok → k ≠ i → (listed.setIfInBounds j true).getD k true = false →
          (∀ e ∈ ok.after, Region.binds md e = true → e.on ≠ i) → oi.apart ops ok = true := fun k ok hk hki hun hno => by
        refine hfree k ok hk hki ?_ hno
        by_cases hjk : j = k
        · subst hjk; exact hjun
        · rw [getD_set_ne true hjk] at hun; exact hun
      refine opG_mono (fun a' w' _ h3 => ih (listed.setIfInBounds j true) a' w' hfree' (ready_mono hr (Ne.symm hji)) h3.1 ?_) h2
      rw [Array.setIfInBounds_comm _ _ hji]
      exact h3.2

/-- Operations that run no code of the program. -/
def calm (o : Oper) : Bool :=
  match o.op with
  | .move _ | .assign _ | .pick .. | .load .. | .binOp .. | .unOp .. | .convert .. | .slice .. | .fieldAddr .. | .field .. | .indexAddr .. | .index .. | .extract .. | .lookup .. | .build .. => true
  | .call { callee := .builtin .len, .. } | .call { callee := .builtin .min, .. } | .call { callee := .builtin .max, .. } | .call { callee := .builtin .cap, .. } => true
  | _ => false
theorem calm_run {o : Oper} (h : calm o = true) {ρ : Operand → Value} {w w' : World} {n : Next} (hr : (execOp ρ o).run P w = .ok n w') : (∃ v, n = .value v) ∨ n = .skip := by
  have key : ∀ s : Sem Value, (do pure (Next.value (← s)) : Sem Next).run P w = .ok n w' → ∃ v, n = .value v := by
    intro s hs
    rw [Sem.run_bind] at hs
    cases hq : s.run P w with
    | ok v w1 =>
      rw [hq] at hs
      simp only [Result.andThen, Sem.run_pure] at hs
      injection hs with h1 h2
      exact ⟨v, h1.symm⟩
    | halt x w1 => rw [hq] at hs; simp [Result.andThen] at hs
  obtain ⟨dst, op, ty, pos, after, guard⟩ := o
  cases op <;> simp only [calm] at h <;> (try cases h)
  case call c =>
    obtain ⟨callee, args, ats⟩ := c
    cases callee <;> (try simp only at h) <;> (try cases h)
    case builtin b =>
      cases b <;> (try simp only at h) <;> (try cases h)
      all_goals
        left
        rw [BigFrame.execOp_builtin] at hr
        first
          | (rw [BigFrame.builtin_len] at hr; exact key _ hr)
          | (rw [BigFrame.builtin_min] at hr; exact key _ hr)
          | (rw [BigFrame.builtin_max] at hr; exact key _ hr)
          | (rw [BigFrame.builtin_cap] at hr; exact key _ hr)
  case pick c a b =>
    left
    simp only [execOp, Sem.run_bind] at hr
    cases hq : (asBool (ρ c)).run P w with
    | ok v w1 =>
      rw [hq] at hr
      simp only [Result.andThen, Sem.run_pure] at hr
      injection hr with h1 h2
      exact ⟨_, h1.symm⟩
    | halt x w1 => rw [hq] at hr; simp [Result.andThen] at hr
  all_goals left
  all_goals first
    | (exact key _ hr)
    | (simp only [execOp, Sem.run_pure] at hr; injection hr with h1 h2; exact ⟨_, h1.symm⟩)
/-! ### The order of the walk: runs of operations that float, and operations that stand alone -/

/-- A plan: a run of operations that float; one that stands alone; two that may come up. -/
inductive Tree where
  | done
  | float (s n : Nat) (t : Tree)
  | one (i : Nat) (t : Tree)
  | two (i : Nat) (t : Tree) (j : Nat) (u : Tree)
  | three (i : Nat) (t : Tree) (j : Nat) (u : Tree) (k : Nat) (v : Tree)
def calmAt (ops : Array Oper) (i : Nat) : Bool := match ops[i]? with | some o => calm o | none => false
def floatsB (ops : Array Oper) : Nat → Nat → Array Bool → Bool
  | 0, _, _ => true
  | n + 1, k, listed => (Region.ready .any ops listed).contains k && Region.free .any ops listed k && calmAt ops k && floatsB ops n (k + 1) (listed.setIfInBounds k true)
def listAll : Nat → Nat → Array Bool → Array Bool
  | 0, _, listed => listed
  | n + 1, k, listed => listAll n (k + 1) (listed.setIfInBounds k true)
def Tree.len : Tree → Nat
  | .done => 0
  | .float _ n t => n + t.len
  | .one _ t => t.len + 1
  | .two _ t _ _ => t.len + 1
  | .three _ t _ _ _ _ => t.len + 1
def Tree.okB (ops : Array Oper) : Tree → Array Bool → Bool
  | .done, listed => (Region.ready .any ops listed).isEmpty
  | .float s n t, listed => floatsB ops n s listed && t.okB ops (listAll n s listed)
  | .one i t, listed => decide (Region.ready .any ops listed = [i]) && t.okB ops (listed.setIfInBounds i true)
  | .two i t j u, listed => decide (Region.ready .any ops listed = [i, j]) && t.len == u.len && t.okB ops (listed.setIfInBounds i true) && u.okB ops (listed.setIfInBounds j true)
  | .three i t j u k v, listed => decide (Region.ready .any ops listed = [i, j, k]) && t.len == u.len && t.len == v.len && t.okB ops (listed.setIfInBounds i true) && u.okB ops (listed.setIfInBounds j true) && v.okB ops (listed.setIfInBounds k true)
def treeB (ops : Array Oper) (t : Tree) : Bool := Region.noSelect ops && t.len == ops.size && t.okB ops (Array.replicate ops.size false)
/-- A plan of a region, by the Bool's own means. -/
def planFloats (ops : Array Oper) : Nat → Nat → Array Bool → Nat
  | 0, _, _ => 0
  | f + 1, k, listed => if k < ops.size && (Region.ready .any ops listed).contains k && Region.free .any ops listed k && calmAt ops k then planFloats ops f (k + 1) (listed.setIfInBounds k true) + 1 else 0
def plan (ops : Array Oper) : Nat → Array Bool → Option Tree
  | 0, _ => none
  | f + 1, listed =>
    match (List.range ops.size).find? (fun k => planFloats ops 1 k listed == 1) with
    | some k => let n := planFloats ops ops.size k listed; (plan ops f (listAll n k listed)).map (.float k n)
    | none => match Region.ready .any ops listed with
      | [] => some .done
      | [i] => (plan ops f (listed.setIfInBounds i true)).map (.one i)
      | [i, j] => match plan ops f (listed.setIfInBounds i true), plan ops f (listed.setIfInBounds j true) with
        | some t, some u => some (.two i t j u)
        | _, _ => none
      | [i, j, k] => match plan ops f (listed.setIfInBounds i true), plan ops f (listed.setIfInBounds j true), plan ops f (listed.setIfInBounds k true) with
        | some t, some u, some v => some (.three i t j u k v)
        | _, _, _ => none
      | _ => none



/-- What an operation that stands alone leaves. -/
def Anch (G : World → World → Prop) (w : World) (K : Act → World → Prop) (e : Exit) (a : Act) (w' : World) : Prop := e = .normal ∧ G w w' ∧ K a w'
def wpTree (P : Program) (ops : Array Oper) (G : World → World → Prop) (Q : Act → World → Prop) (l : List Oper) : Tree → Act → World → Prop
  | .done, a, w => Q a w
  | .float s n t, a, w => wpQuiet P ops (G w) (fun a' => wpTree P ops G Q l t a' w) ((l.drop s).take n) a
  | .one i t, a, w => wpList P ops (Anch G w (wpTree P ops G Q l t)) ((l.drop i).take 1) a w
  | .two i t j u, a, w => wpList P ops (Anch G w (wpTree P ops G Q l t)) ((l.drop i).take 1) a w ∧ wpList P ops (Anch G w (wpTree P ops G Q l u)) ((l.drop j).take 1) a w
  | .three i t j u k v, a, w => wpList P ops (Anch G w (wpTree P ops G Q l t)) ((l.drop i).take 1) a w ∧ wpList P ops (Anch G w (wpTree P ops G Q l u)) ((l.drop j).take 1) a w ∧ wpList P ops (Anch G w (wpTree P ops G Q l v)) ((l.drop k).take 1) a w

theorem yieldsG_of_in {o : Oper} {v : Value} {a : Act} {w : World} (hc : calm o = true) (h : YieldsIn P ops (G w) o v a) : YieldsG P ops G o v a w := by
  rcases h with ⟨h1, h2⟩ | h1
  · refine .inl ⟨h1, fun w' hw => ?_⟩
    have h3 := h2 w' hw
    unfold Oper.quietAt at h3
    cases hq : (execOp a.eval o).run P w' with
    | ok n w1 =>
      rw [hq] at h3
      rcases calm_run hc hq with ⟨u, rfl⟩ | rfl
      · simp only [Oper.quietUpon] at h3
        obtain ⟨rfl, rfl⟩ := h3
        exact .inl rfl
      · simp only [Oper.quietUpon] at h3
        obtain ⟨rfl, rfl⟩ := h3
        exact .inr ⟨rfl, rfl⟩
    | halt x w1 => rw [hq] at h3; simp only [Oper.quietUpon] at h3
  · exact .inr h1
theorem anyG_floats {Q : Act → World → Prop} (hG : ∀ x y z, G x y → G y z → G x z) (hr0 : ∀ x, G x x) (hs : Region.noSelect ops = true) (l : List Oper) (hl : l.toArray = ops) (K : Act → World → Prop) (fuel : Nat) (w : World) :
    ∀ (n s : Nat) (listed : Array Bool) (a : Act), floatsB ops n s listed = true → (∀ a', K a' w → anyG P .any ops G Q fuel (listAll n s listed) a' w) →
      wpQuiet P ops (G w) (fun a' => K a' w) ((l.drop s).take n) a → anyG P .any ops G Q (n + fuel) listed a w := by
  intro n
  induction n with
  | zero => intro s listed a _ hK h; rw [Nat.zero_add]; rw [List.take_zero] at h; exact hK a h
  | succ n ih =>
    intro s listed a hB hK h
    simp only [floatsB, Bool.and_eq_true] at hB
    obtain ⟨⟨⟨hr, hf⟩, hc⟩, hB'⟩ := hB
    unfold calmAt at hc
    cases ho : ops[s]? with
    | none => rw [ho] at hc; simp at hc
    | some o =>
      rw [ho] at hc
      have hlt : s < l.length := by
        have := (Array.getElem?_eq_some_iff.1 ho).1
        rw [← hl] at this; simpa using this
      have hlo : l[s] = o := by
        have h1 := (Array.getElem?_eq_some_iff.1 ho).2
        subst hl
        simpa using h1
      rw [List.drop_eq_getElem_cons hlt, List.take_succ_cons, hlo] at h
      have hst : qOp P ops (G w) s (wpQuiet P ops (G w) (fun a' => K a' w) ((l.drop (s + 1)).take n)) a := by unfold qOp; simp only [ho]; exact h
      obtain ⟨v, hy, hK1⟩ := yieldsIn_of_qOp ho hst
      rw [show n + 1 + fuel = (n + fuel) + 1 by omega]
      exact anyG_first hG hr0 ho (Region.noSelect_spec hs) (n + fuel) listed a w (Region.free_spec ho hf) (by simpa using hr) (yieldsG_of_in hc hy)
        (ih (s + 1) _ _ hB' hK hK1)
theorem wp_nowayOf {o : Oper} {w : World} {K : Act → World → Prop} {a : Act} {w0 : World} (h : o.wp P a w (wpList P ops (Anch G w0 K) []) (Anch G w0 K)) : o.wp P a w (fun a' w' => G w0 w' ∧ K a' w') NoWay := by
  unfold Oper.wp at *
  generalize (execOp a.eval o).run P w = r at *
  cases r with
  | ok n w' =>
    cases n <;> simp only [Oper.upon] at h ⊢
    case value v => exact ⟨h.2.1, h.2.2⟩
    case skip => exact ⟨h.2.1, h.2.2⟩
    case defer d => exact ⟨h.2.1, h.2.2⟩
    case enter f args =>
      refine h.mono fun e w'' hh => ?_
      cases e with
      | returned v => exact ⟨hh.2.1, hh.2.2⟩
      | panicked c => exact absurd hh.1 (by simp)
      | outgrown => obtain ⟨_, _, hf⟩ := hh; exact absurd hf.1 (by simp)
    case row row args => exact h.mono fun v w'' hh => ⟨hh.2.1, hh.2.2⟩
  | halt x w' =>
    cases x <;> simp only [Oper.upon] at h
    case panic v => exact absurd h.1 (by simp)
theorem opG_anch (l : List Oper) (hl : l.toArray = ops) {K K' : Act → World → Prop} {a : Act} {w : World} {i : Nat} {listed : Array Bool} (hi : i ∈ Region.ready .any ops listed)
    (hK : ∀ a w, K a w → K' a w) (h : wpList P ops (Anch G w K) ((l.drop i).take 1) a w) : opG P ops G i K' a w := by
  obtain ⟨_, o, ho, _⟩ := mem_ready.1 hi
  have hlt : i < l.length := by
    have := (Array.getElem?_eq_some_iff.1 ho).1
    rw [← hl] at this; simpa using this
  have hlo : l[i] = o := by
    have h1 := (Array.getElem?_eq_some_iff.1 ho).2
    subst hl
    simpa using h1
  rw [List.drop_eq_getElem_cons hlt, List.take_succ_cons, List.take_zero, hlo] at h
  unfold opG
  simp only [ho]
  simp only [wpList] at h
  split
  · rename_i hw
    simp only [hw, if_true] at h
    rcases h with h | ⟨_, _, _, hq⟩
    · exact wp_weak (fun a' w' q => ⟨q.1, hK _ _ q.2⟩) (wp_nowayOf (ops := ops) h)
    · exact absurd hq.1 (by simp)
  · rename_i hw
    simp only [hw] at h
    exact hK _ _ h.2.2
theorem anyG_tree {Q : Act → World → Prop} (hG : ∀ x y z, G x y → G y z → G x z) (hr0 : ∀ x, G x x) (hs : Region.noSelect ops = true) (l : List Oper) (hl : l.toArray = ops) :
    ∀ (t : Tree) (listed : Array Bool) (a : Act) (w : World), t.okB ops listed = true → wpTree P ops G Q l t a w → anyG P .any ops G Q t.len listed a w
  | .done, listed, a, w, hB, h => ⟨by simpa [Tree.okB] using hB, h⟩
  | .float s n t, listed, a, w, hB, h => by
    simp only [Tree.okB, Bool.and_eq_true] at hB
    exact anyG_floats hG hr0 hs l hl (wpTree P ops G Q l t) t.len w n s listed a hB.1 (fun a' h' => anyG_tree hG hr0 hs l hl t _ a' w hB.2 h') h
  | .one i t, listed, a, w, hB, h => by
    simp only [Tree.okB, Bool.and_eq_true, decide_eq_true_eq] at hB
    refine ⟨fun h0 => absurd (hB.1 ▸ h0) (by simp), fun k hk => ?_⟩
    have hk' := hk
    rw [hB.1] at hk'
    have hk' := List.mem_singleton.1 hk'
    subst hk'
    exact opG_anch l hl hk (fun a w h => anyG_tree hG hr0 hs l hl t _ a w hB.2 h) h
  | .two i t j u, listed, a, w, hB, h => by
    simp only [Tree.okB, Bool.and_eq_true, decide_eq_true_eq, beq_iff_eq] at hB
    obtain ⟨⟨⟨h1, h2⟩, h3⟩, h4⟩ := hB
    refine ⟨fun h0 => absurd (h1 ▸ h0) (by simp), fun k hk => ?_⟩
    have hk' := hk
    rw [h1] at hk'
    simp at hk'
    rcases hk' with hk' | hk'
    · subst hk'
      exact opG_anch l hl hk (fun a w h => anyG_tree hG hr0 hs l hl t _ a w h3 h) h.1
    · subst hk'
      exact opG_anch l hl hk (fun a w h => by have := anyG_tree hG hr0 hs l hl u _ a w h4 h; rw [← h2] at this; exact this) h.2
  | .three i t j u m v, listed, a, w, hB, h => by
    simp only [Tree.okB, Bool.and_eq_true, decide_eq_true_eq, beq_iff_eq] at hB
    obtain ⟨⟨⟨⟨⟨h1, h2⟩, h2'⟩, h3⟩, h4⟩, h5⟩ := hB
    refine ⟨fun h0 => absurd (h1 ▸ h0) (by simp), fun k hk => ?_⟩
    have hk' := hk
    rw [h1] at hk'
    simp at hk'
    rcases hk' with hk' | hk' | hk'
    · subst hk'
      exact opG_anch l hl hk (fun a w h => anyG_tree hG hr0 hs l hl t _ a w h3 h) h.1
    · subst hk'
      exact opG_anch l hl hk (fun a w h => by have := anyG_tree hG hr0 hs l hl u _ a w h4 h; rw [← h2] at this; exact this) h.2.1
    · subst hk'
      exact opG_anch l hl hk (fun a w h => by have := anyG_tree hG hr0 hs l hl v _ a w h5 h; rw [← h2'] at this; exact this) h.2.2
/-- **A region that draws its order, walked by a plan of our own.** -/
theorem wp_region_tree (t : Tree) (G : World → World → Prop) (hG : ∀ x y z, G x y → G y z → G x z) (hr0 : ∀ x, G x x) {id : Nat} {Q : Exit → Act → World → Prop} {a : Act} {w : World} {l : List Oper} (hm : P.follows .mixedOrders = true) (hB : treeB l.toArray t = true)
    (h : ∀ K : Act → World → Prop, (∀ a w', Q .normal a w' → K a w') → wpTree P l.toArray G K l t a w.drew) : (Code.region id l.toArray true).wp P Q a w := by
  simp only [treeB, Bool.and_eq_true, beq_iff_eq] at hB
  obtain ⟨⟨h1, h2⟩, h3⟩ := hB
  refine wp_region_any hm (wpAny_of_anyG (Q := Q .normal) (G := G) (fun _ _ h => h) _ _ _ _ ?_)
  have := anyG_tree hG hr0 h1 l rfl t _ a _ h3 (h _ (fun _ _ h => h))
  rw [h2] at this
  exact this
theorem wpTree_done {Q : Act → World → Prop} {l : List Oper} {a : Act} {w : World} (h : Q a w) : wpTree P ops G Q l .done a w := h
theorem wpTree_float {Q : Act → World → Prop} {l : List Oper} {a : Act} {w : World} {s n : Nat} {t : Tree}
    (h : ∀ K : Act → Prop, (∀ a', wpTree P ops G Q l t a' w → K a') → wpQuiet P ops (G w) K ((l.drop s).take n) a) : wpTree P ops G Q l (.float s n t) a w := h _ (fun _ h => h)
theorem wpTree_one {Q : Act → World → Prop} {l : List Oper} {a : Act} {w : World} {i : Nat} {t : Tree}
    (h : ∀ K : Act → World → Prop, (∀ a' w', wpTree P ops G Q l t a' w' → K a' w') → wpList P ops (Anch G w K) ((l.drop i).take 1) a w) : wpTree P ops G Q l (.one i t) a w := h _ (fun _ _ h => h)
theorem wpTree_two {Q : Act → World → Prop} {l : List Oper} {a : Act} {w : World} {i j : Nat} {t u : Tree}
    (h1 : wpTree P ops G Q l (.one i t) a w) (h2 : wpTree P ops G Q l (.one j u) a w) : wpTree P ops G Q l (.two i t j u) a w := ⟨h1, h2⟩
theorem wpTree_three {Q : Act → World → Prop} {l : List Oper} {a : Act} {w : World} {i j k : Nat} {t u v : Tree}
    (h1 : wpTree P ops G Q l (.one i t) a w) (h2 : wpTree P ops G Q l (.one j u) a w) (h3 : wpTree P ops G Q l (.one k v) a w) : wpTree P ops G Q l (.three i t j u k v) a w := ⟨h1, h2, h3⟩
theorem anch_end {K : Act → World → Prop} {a : Act} {w w' : World} (hG : G w w') (h : K a w') : Anch G w K .normal a w' := ⟨rfl, hG, h⟩
end
/-! ### The class: worlds whose blocks below B are as they were -/
structure Step (B : Nat) (w0 : World) where
  w : World
  h : Below B w0 w
instance (B : Nat) (w : World) : Nonempty (Step B w) := ⟨⟨w, Below.refl _ _⟩⟩
def Reach (B : Nat) (w w' : World) : Prop := ∃ p : Step B w, w' = p.w
theorem Reach.of {B : Nat} {w w' : World} (h : Below B w w') : Reach B w w' := ⟨⟨w', h⟩, rfl⟩
theorem Reach.below {B : Nat} {w w' : World} (h : Reach B w w') : Below B w w' := by obtain ⟨p, rfl⟩ := h; exact p.h
theorem Reach.refl (B : Nat) (w : World) : Reach B w w := .of (Below.refl _ _)
theorem Reach.trans (B : Nat) (x y z : World) (h1 : Reach B x y) (h2 : Reach B y z) : Reach B x z := .of (h1.below.trans h2.below)
attribute [go_sem] Reach
theorem RdC.of_reach {α : Type} {f : α → Value} {w : World} {B B' : Nat} {A : Option Addr} {n c : Nat} {xs : List α} (h : RdS f w B A n c xs) (hB : B ≤ B') : RdC f (Reach B' w) B A n c xs :=
  ⟨fun _ hw => h.below (hw.below.mono hB)⟩
section
variable {P : Program} {ops : Array Oper} {rest : List Oper} {o : Oper} {a : Act} {B' : Nat} {w0 : World} {Q : Act → Prop}
/-- s[i]: the place. -/
theorem wt_at (hw : Region.wanted o (yielded ops a.tmps) = true) (T : TypeId) (s i : Operand) (ho : o.op = .indexAddr T s i) {E bytes : Nat} {z : Value} (el : El P T E z bytes)
    {A : Option Addr} {n c : Nat} {k : IntKind} {I : Int} (hs : a.eval s = .slice A n c) (hi : a.eval i = .int k I) (h0 : 0 ≤ I) (h1 : I < n)
    {B : Nat} {α : Type} {f : α → Value} {xs : List α} (hr : RdC f (Reach B' w0) B A n c xs)
    (h : ∀ (p : Addr) (x : α), Hid (xs[I.toNat]? = some x) → (∀ q : Step B' w0, q.w.cell? p = some (f x)) → wpQuiet P ops (Reach B' w0) Q rest (a.put o.dst (.pointer (some p)))) :
    wpQuiet P ops (Reach B' w0) Q (o :: rest) a := by
  have hC0 := Reach.refl B' w0
  have hl : I.toNat < xs.length := by have := (hr.rd w0 hC0).len; omega
  obtain ⟨b, off, hA, hb, hc⟩ := (hr.rd w0 hC0).rd.at_ I.toNat (f xs[I.toNat]) (by rw [List.getElem?_map, List.getElem?_eq_getElem hl]; rfl)
  subst hA
  refine wq_run hw (v := .pointer (some ((⟨b, off, none⟩ : Addr).add (I.toNat * 1)))) (fun w hC => ?_) ?_
  · simp only [execOp, ho, hs, hi, Sem.run_bind, run_indexAt T el.ht (el.size w) _ n c k I h0 h1, Result.andThen, Sem.run_pure]
  · refine h _ xs[I.toNat] (List.getElem?_eq_getElem hl) fun q => ?_
    obtain ⟨b', off', hA', _, hc'⟩ := (hr.rd q.w ⟨q, rfl⟩).rd.at_ I.toNat (f xs[I.toNat]) (by rw [List.getElem?_map, List.getElem?_eq_getElem hl]; rfl)
    injection hA' with hA'
    injection hA' with e1 e2
    subst e1 e2
    rw [Nat.mul_one, Addr.add_lit]
    exact hc'
theorem wt_at_i (hw : Region.wanted o (yielded ops a.tmps) = true) (T : TypeId) (s i : Operand) (ho : o.op = .indexAddr T s i) {E bytes : Nat} {z : Value} (el : El P T E z bytes)
    {A : Option Addr} {n c : Nat} {k : IntKind} {I : Int} (hs : a.eval s = .slice A n c) (hi : a.eval i = .int k I) (h0 : 0 ≤ I) (h1 : I < n)
    {B : Nat} {kk : IntKind} {xs : List Int} (hr : RdC (Value.int kk) (Reach B' w0) B A n c xs)
    (h : ∀ (p : Addr) (x : Int), Hid (xs[I.toNat]? = some x) → (∀ q : Step B' w0, q.w.cell? p = some (.int kk x)) → wpQuiet P ops (Reach B' w0) Q rest (a.put o.dst (.pointer (some p)))) :
    wpQuiet P ops (Reach B' w0) Q (o :: rest) a := wt_at hw T s i ho el hs hi h0 h1 hr h
theorem wt_at_b (hw : Region.wanted o (yielded ops a.tmps) = true) (T : TypeId) (s i : Operand) (ho : o.op = .indexAddr T s i) {E bytes : Nat} {z : Value} (el : El P T E z bytes)
    {A : Option Addr} {n c : Nat} {k : IntKind} {I : Int} (hs : a.eval s = .slice A n c) (hi : a.eval i = .int k I) (h0 : 0 ≤ I) (h1 : I < n)
    {B : Nat} {bs : List UInt8} (hr : RdC bv (Reach B' w0) B A n c bs)
    (h : ∀ (p : Addr) (x : UInt8), Hid (bs[I.toNat]? = some x) → (x.toNat : Int) ≤ 255 → (∀ q : Step B' w0, q.w.cell? p = some (.int .u8 (x.toNat : Int))) → wpQuiet P ops (Reach B' w0) Q rest (a.put o.dst (.pointer (some p)))) :
    wpQuiet P ops (Reach B' w0) Q (o :: rest) a := wt_at hw T s i ho el hs hi h0 h1 hr fun p x hx hq => h p x hx (by have := x.toNat_lt; omega) hq
end
theorem Step.cell {B : Nat} {w : World} (q : Step B w) {p : Addr} {v : Value} (hp : p.block < B) (h : w.cell? p = some v) : q.w.cell? p = some v := (q.h.cell hp).trans h
theorem bdrew1 {B : Nat} (w : World) : Below B w w.drew := ⟨rfl, rfl, rfl, Nat.le_refl _, fun _ _ => rfl⟩
end Go.Th
