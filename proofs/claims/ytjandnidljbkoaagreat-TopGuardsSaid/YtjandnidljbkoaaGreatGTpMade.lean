/-
  Networks that were made.
-/
import Derived.Test.YtjandnidljbkoaaGreatGTpEx
set_option linter.unusedVariables false
namespace Go.Proofs.YtjandnidljbkoaaGreat
open Go.RowKit Go.Th
structure TBox (w:World) (g:Nat) (A:Option Addr) (n c:Nat) (ns:List Nd):Prop where
  box:Box w g 34 #[.slice A n c]
  rd:NRd w w.heap.size A n c ns
  may:nmay (Nd.ls ns)=0
  small:∀ x∈ns,x.n≤20
  nb:1≤n∧n≤8
section
variable {w w':World} {g:Nat} {A:Option Addr} {n c:Nat} {ns:List Nd}
theorem TBox.step (h:TBox w g A n c ns) (hb:Below w.heap.size w w'):TBox w' g A n c ns:=⟨h.box.step hb,(h.rd.step hb).heap,h.may,h.small,h.nb⟩
theorem TBox.net (h:TBox w g A n c ns):NetOk (Nd.ls ns):=netok_of h.rd h.may
theorem pre_of {r:Ru} (hok:r.Ok) (h:pmay r.a r.n=0):r.Pre:=by
  unfold pmay at h
  split at h
  · cases h
  · rename_i h1
    split at h
    · rename_i h2;exact ⟨hok,by omega,by omega,h2⟩
    · cases h
theorem NetOk.good {ls:List (List Ru)} (h:NetOk ls):∀ l∈ls,GoodT l:=fun l hl=>⟨fun r hr=>pre_of (h.pre l hl r hr).1 (h.pre l hl r hr).2,h.sorted l hl⟩
end
def FitNet (w:World) (e:Ending) (w':World):Prop:=∃ A n c ns,e=.returned (.agg #[.slice A n c])∧NRd w' w'.heap.size A n c ns∧NOk (Nd.ls ns)∧(∀ x∈ns,x.n≤20)∧(1≤n∧n≤8)∧Below w.heap.size w w'
theorem made_any (A:Option Addr) (n c:Nat) (ns:List Nd) (w:World) (ni:NetIn w A n c ns) (W:World) (hW:Below w.heap.size w W):Calls Tryz.prog 15 #[.agg #[.slice A n c]] W (FitNet W):=by
  refine (netfit_any A n c ns W ni.n ni.each _ (ni.rd.below hW)).mono ?_
  rintro e w' ⟨A',m,c',ms,rfl,no,hms,hb⟩
  have hok:∀ l∈Nd.ls ns,∀ r∈l,r.Ok:=by
    intro l hl r hr
    obtain ⟨x,hx,rfl⟩:=List.mem_map.1 hl
    exact ni.rd.ok x hx r hr
  obtain ⟨h1,h2,h3⟩:=nfit_size hok
  have hrd:=no.rd
  refine ⟨A',m,c',ms,rfl,hrd,by rw [hms];exact nfit_ok hok,fun x hx=>?_,?_,hb⟩
  · have:=(hrd.rk x hx).len
    have h4:=h1 x.l (by rw [← hms];exact List.mem_map.2 ⟨x,hx,rfl⟩)
    omega
  · have:=hrd.len
    rw [← hms,Nd.ls_len] at h2 h3
    omega
end Go.Proofs.YtjandnidljbkoaaGreat
