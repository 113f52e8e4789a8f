/-
  A row's plc of a value; a map[string]int that holds of each text its plc.
-/
import Derived.Test.YtjandnidljbkoaaGreatGTpKey
set_option linter.unusedVariables false
namespace Go.Th
open Go.RowKit Go.Maps
def plc {α:Type} [DecidableEq α]:List α→α→Option Nat
  | [],_=>none
  | x :: l,y=>if x=y then some 0 else (plc l y).map (·+1)
section
variable {α β:Type} [DecidableEq α] [DecidableEq β]
theorem plc_none {l:List α} {y:α}:plc l y=none↔y ∉ l:=by
  induction l with
  | nil=>simp [plc]
  | cons x l ih =>
    unfold plc
    by_cases h:x=y
    · simp [h]
    · rw [if_neg h]
      simp [ih,Ne.symm h]
theorem plc_some {l:List α} {y:α} {p:Nat} (h:plc l y=some p):p < l.length∧l[p]? = some y:=by
  induction l generalizing p with
  | nil=>simp [plc] at h
  | cons x l ih =>
    unfold plc at h
    by_cases hx:x=y
    · rw [if_pos hx] at h
      injection h with h
      subst h hx
      simp
    · rw [if_neg hx] at h
      obtain ⟨q,hq,rfl⟩:=Option.map_eq_some_iff.1 h
      obtain ⟨h1,h2⟩:=ih hq
      exact ⟨by simp;omega,by simpa using h2⟩
theorem plc_new {l:List α} {y:α} (h:y ∉ l):plc (l ++ [y]) y=some l.length:=by
  induction l with
  | nil=>simp [plc]
  | cons x l ih =>
    rw [List.cons_append,plc,if_neg (fun e=>h (by simp [e])),ih (fun e=>h (by simp [e]))]
    simp
theorem plc_other {l:List α} {x y:α} (h:x≠y):plc (l ++ [x]) y=plc l y:=by
  induction l with
  | nil=>simp [plc,h]
  | cons z l ih=>rw [List.cons_append,plc,plc,ih]
theorem plc_map {f:α→β} {l:List α} {y:α} (h:∀ x∈l,f x=f y→x=y):plc (l.map f) (f y)=plc l y:=by
  induction l with
  | nil=>rfl
  | cons x l ih =>
    rw [List.map_cons,plc,plc,ih (fun z hz=>h z (by simp [hz]))]
    by_cases hx:x=y
    · simp [hx]
    · rw [if_neg hx,if_neg (fun e=>hx (h x (by simp) e))]
end
def MapP (w:World) (P:Program) (k e:TypeId) (b n:Nat) (ks:List (List UInt8)):Prop :=
  ∃ D:DataW Unit,w.ownsMap P k (plainElem P e) b n D∧∀ x:List UInt8,has D (.string x)=(plc ks x).isSome∧D.atKey (.string x) (.lit (.int .i64 0))=.lit (.int .i64 (((plc ks x).getD 0:Nat):Int))
theorem MapP.made (w:World) (P:Program) (k e:TypeId):MapP (w.alloc (.map #[] 0)) P k e w.heap.size 0 [] :=
  ⟨.map [],World.ownsMap_made _ _ _ _,fun x=>⟨by simp [has,plc],by simp [DataW.atKey,plc]⟩⟩
theorem MapP.lt {w:World} {P:Program} {k e:TypeId} {b n:Nat} {ks:List (List UInt8)} (h:MapP w P k e b n ks):b < w.heap.size:=by
  obtain ⟨D,h1,h2⟩:=h
  exact h1.lt
theorem MapP.below {w w':World} {P:Program} {k e:TypeId} {b n B:Nat} {ks:List (List UInt8)} (h:MapP w P k e b n ks) (hb:Below B w w') (hB:b < B):MapP w' P k e b n ks:=by
  obtain ⟨D,⟨es,clock,hh,r⟩,h2⟩:=h
  exact ⟨D,⟨es,clock,(hb.block b hB).trans hh,r⟩,h2⟩
theorem MapP.step {w w':World} {P:Program} {k e:TypeId} {b n:Nat} {ks:List (List UInt8)} (h:MapP w P k e b n ks) (hb:Below w.heap.size w w'):MapP w' P k e b n ks:=h.below hb h.lt
theorem MapP.grown {w w':World} {P:Program} {k e:TypeId} {b n:Nat} {ks:List (List UInt8)} (h:MapP w P k e b n ks) {row:Option Nat} (hg:w.grownBy w' row) (hne:row≠some b):MapP w' P k e b n ks:=by
  obtain ⟨D,h1,h2⟩:=h
  exact ⟨D,h1.kept hg (fun e=>hne e.symm),h2⟩
section
variable {P:Program} {ops:Array Oper} {rest:List Oper} {o:Oper} {a:Act} {Q:Exit→Act→World→Prop} {w:World}
theorem wl_lookP (hg:o.guard=none) (m y:Operand) (t:TypeId) (hop:o.op=.lookup t m y true) {k e:TypeId} (hk:P.underlying k=some .string) (ht:P.underlying t=some (.map k e)) (he:P.underlying e=some (.int .i64)) (hz:(zeroValue e).run P w=.ok (.int .i64 0) w)
    {b n:Nat} {ks:List (List UInt8)} (hm:a.eval m=.map (some b)) (hs:MapP w P k e b n ks) {x:List UInt8} (hy:a.eval y=.string ⟨x.toArray⟩) (hx:x.length≤100000)
    {q:Option Nat} (hq:Hid (plc ks x=q))
    (h:wpList P ops Q rest (a.put o.dst (.tuple #[.int .i64 ((q.getD 0:Nat):Int),.bool q.isSome])) w):wpList P ops Q (o :: rest) a w:=by
  obtain ⟨D,h1,h2⟩:=hs
  refine wpList_lookup_own_ok_int w hg m y t hop k e .i64 (string_keyed hk) ht he hz b n D hm h1 _ (.string x) hy (WideMaps.keyOf_string_mk hk (s:=⟨x.toArray⟩) (by show x.toArray.size≤maxLen;simp [maxLen];omega)) fun c hat hwc=>?_
  obtain ⟨r1,r2⟩:=h2 x
  rw [hq.out] at r1 r2
  rw [r2] at hat
  injection hat with hat
  injection hat with _ hat
  rw [r1,← hat]
  exact h
theorem wl_putP (hg:o.guard=none) (m y v:Operand) (t:TypeId) (hop:o.op=.mapUpdate t m y v) {k e:TypeId} (hk:P.underlying k=some .string) (ht:P.underlying t=some (.map k e)) (he:P.underlying e=some (.int .i64))
    {b n:Nat} {ks:List (List UInt8)} (hm:a.eval m=.map (some b)) (hs:MapP w P k e b n ks) (hn:n < maxLen) {x:List UInt8} (hy:a.eval y=.string ⟨x.toArray⟩) (hx:x.length≤100000) (hnew:Hid (plc ks x=none))
    {L:Nat} (hv:a.eval v=.int .i64 L) (hL:L=ks.length) (hb:L≤100000)
    (h:∀ w',MapP w' P k e b (n+1) (ks ++ [x])→w.grownBy w' (some b)→wpList P ops Q rest (a.put o.dst undef) w'):wpList P ops Q (o :: rest) a w:=by
  obtain ⟨D,h1,h2⟩:=hs
  have hwf:=wf_i64 (x:=(L:Int)) (by omega)
  have hnew:=hnew.out
  subst hL
  refine wpList_mapUpdate_own w hg m y v t hop k e (string_keyed hk) ht _ b n D hm h1 hn _ _ (.string x) hy hv (WideMaps.keyOf_string_mk hk (s:=⟨x.toArray⟩) (by show x.toArray.size≤maxLen;simp [maxLen];omega)) (.lit (.int .i64 ks.length)) [] (plainElem_int he hwf) fun w' h3 h4=>h w' ⟨_,h3,fun z=>?_⟩ h4
  by_cases hzx:z=x
  · subst hzx
    rw [Maps.atKey_put_same h1.isMap (show WideAt.IsKeyLit (.string z) from trivial),has_put_same h1.isMap (show WideAt.IsKeyLit (.string z) from trivial),plc_new (plc_none.1 hnew)]
    simp
  · rw [Maps.atKey_put_other (fun e=>hzx (by injection e)),has_put_other (fun e=>hzx (by injection e)),plc_other (fun e=>hzx e.symm)]
    exact h2 z
end
end Go.Th
