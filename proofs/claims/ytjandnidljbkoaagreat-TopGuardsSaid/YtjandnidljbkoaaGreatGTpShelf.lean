/-
  DERIVED: THE SHELF's CONTRACTS AT THIS DUMP, IN PLAIN WORDS (tools/lay-plain.mjs out of 'TryzShelf.lean', which tools/lay-shelf.mjs wrote): THE SAME DECLARATIONS UNDER THE SAME NAMES: 'import', 'namespace', 'open', 'def', 'theorem' AND NOTHING ELSE: no command of the shelf's: FOR A HAND-IN. Each laying: the table of numbers ('.._ren') and one theorem, a field a fact of the dump's own or the kernel's comparison; each contract: ONE APPLICATION.
-/
import Derived.Shelf.Small.Bits
import Derived.Shelf.Strconv.Itoa0
import Derived.Ground.Names2Prog
import Derived.Shelf.Slices.Clone
import Derived.Shelf.Slices.SearchI
import Derived.Ground.SlgnProg
import Derived.Shelf.SlicesE.Clone
import Derived.Test.YtjandnidljbkoaaGreatProg
set_option linter.unusedVariables false
namespace Go.Proofs
open Go.Shelf
def Tryz.lays125_ren:Go.Shelf.Ren:=⟨fun | 125=>137 | 128=>156 | 129=>157 | n=>n,fun | 46=>185 | 3=>3 | 51=>23 | 53=>243 | 4=>4 | 5=>5 | 9=>9 | n=>n,fun | n=>n⟩
theorem Tryz.lays125:Go.Proofs.Lays.n125 Tryz.prog Tryz.lays125_ren:={
  mixed:=by kernel_rfl
  f125:=Tryz.func137.trans (congrArg some (by kernel_rfl))
  f128:=Tryz.func156.trans (congrArg some (by kernel_rfl))
  f129:=Tryz.func157.trans (congrArg some (by kernel_rfl))
  t3:=Tryz.underlying3
  a3:=Tryz.isAgg3
  z3:=Tryz.sizeOf3
  v3:=Tryz.zeroValue3
  t4:=Tryz.underlying4
  a4:=Tryz.isAgg4
  z4:=Tryz.sizeOf4
  v4:=Tryz.zeroValue4
  t5:=Tryz.underlying5
  a5:=Tryz.isAgg5
  z5:=Tryz.sizeOf5
  v5:=Tryz.zeroValue5
  t9:=Tryz.underlying9
  a9:=Tryz.isAgg9
  z9:=Tryz.sizeOf9
  v9:=Tryz.zeroValue9
  t46:=Tryz.underlying185
  a46:=Tryz.isAgg185
  z46:=Tryz.sizeOf185
  v46:=Tryz.zeroValue185
  t51:=Tryz.underlying23
  a51:=Tryz.isAgg23
  z51:=Tryz.sizeOf23
  v51:=Tryz.zeroValue23
  t53:=Tryz.underlying243
  a53:=Tryz.isAgg243
  z53:=Tryz.sizeOf243
  v53:=Tryz.zeroValue243 }
theorem Tryz.bits_Len (x:Int) (w:World) (h0:0≤x) (h1:x≤18446744073709551615) :
    Calls Tryz.prog 137 #[.int .u64 x] w fun e w'=>e=.returned (.int .i64 (Lib.bitLen x.toNat))∧w' = w:=Any.bits_Len Tryz.lays125 x w h0 h1
def Tryz.lays133_ren:Go.Shelf.Ren:=⟨fun | 133=>146 | 128=>156 | n=>n,fun | 51=>23 | 3=>3 | 4=>4 | 46=>185 | 5=>5 | 9=>9 | n=>n,fun | n=>n⟩
theorem Tryz.lays133:Go.Proofs.Lays.n133 Tryz.prog Tryz.lays133_ren:={
  mixed:=by kernel_rfl
  f128:=Tryz.func156.trans (congrArg some (by kernel_rfl))
  f133:=Tryz.func146.trans (congrArg some (by kernel_rfl))
  t3:=Tryz.underlying3
  a3:=Tryz.isAgg3
  z3:=Tryz.sizeOf3
  v3:=Tryz.zeroValue3
  t4:=Tryz.underlying4
  a4:=Tryz.isAgg4
  z4:=Tryz.sizeOf4
  v4:=Tryz.zeroValue4
  t5:=Tryz.underlying5
  a5:=Tryz.isAgg5
  z5:=Tryz.sizeOf5
  v5:=Tryz.zeroValue5
  t9:=Tryz.underlying9
  a9:=Tryz.isAgg9
  z9:=Tryz.sizeOf9
  v9:=Tryz.zeroValue9
  t46:=Tryz.underlying185
  a46:=Tryz.isAgg185
  z46:=Tryz.sizeOf185
  v46:=Tryz.zeroValue185
  t51:=Tryz.underlying23
  a51:=Tryz.isAgg23
  z51:=Tryz.sizeOf23
  v51:=Tryz.zeroValue23 }
theorem Tryz.bits_LeadingZeros32 (x:Int) (w:World) (h0:0≤x) (h1:x≤4294967295) :
    Calls Tryz.prog 146 #[.int .u32 x] w fun e w'=>e=.returned (.int .i64 (32 - (Lib.bitLen x.toNat:Int)))∧w' = w:=Any.bits_LeadingZeros32 Tryz.lays133 x w h0 h1
def Tryz.laysNm215_ren:Go.Shelf.Ren:=⟨fun | 15=>64 | n=>n,fun | 22=>38 | 3=>3 | 4=>4 | n=>n,fun | n=>n⟩
theorem Tryz.laysNm215:Go.Proofs.Lays2.n15 Tryz.prog Tryz.laysNm215_ren:={
  mixed:=by kernel_rfl
  f15:=Tryz.func64.trans (congrArg some (by kernel_rfl))
  t3:=Tryz.underlying3
  a3:=Tryz.isAgg3
  z3:=Tryz.sizeOf3
  v3:=Tryz.zeroValue3
  t4:=Tryz.underlying4
  a4:=Tryz.isAgg4
  z4:=Tryz.sizeOf4
  v4:=Tryz.zeroValue4
  t22:=Tryz.underlying38
  a22:=Tryz.isAgg38
  z22:=Tryz.sizeOf38
  v22:=Tryz.zeroValue38
  i3:=by kernel_rfl }
open Go.RowKit Go.Lib in
theorem Tryz.slices_Clone_int (b off n c:Nat) (zs:List Int) (w:World) (hz:n≤zs.length) (hbig:n * 8≤140737488355328) (hc:∀ j,j < zs.length→w.cell? ⟨b,off+j,none⟩=some (.int .i64 (zs.getD j 0))) :
    Calls Tryz.prog 64 #[.slice (some ⟨b,off,none⟩) n c] w fun e w'=>∃ v',e=.returned v'∧w'.ownsRow w.heap.size 3 1 v' n ((zs.take n).map (Value.int .i64))∧v'≠.slice none 0 0∧Below w.heap.size w w':=Any.slices_Clone_int Tryz.laysNm215 b off n c zs w hz hbig hc
open Go.RowKit Go.Lib in
theorem Tryz.slices_Clone_int_nil (n c:Nat) (w:World) :
    Calls Tryz.prog 64 #[.slice none n c] w fun e w'=>e=.returned (.slice none 0 0)∧w' = w:=Any.slices_Clone_int_nil Tryz.laysNm215 n c w
open Go.RowKit Go.Lib in
theorem Tryz.slices_Clone_int_zero (a:Addr) (c:Nat) (w:World) :
    Calls Tryz.prog 64 #[.slice (some a) 0 c] w fun e w'=>∃ v',e=.returned v'∧w'.ownsRow w.heap.size 3 1 v' 0 []∧v'≠.slice none 0 0∧Below w.heap.size w w':=Any.slices_Clone_int_zero Tryz.laysNm215 a c w
end Go.Proofs
