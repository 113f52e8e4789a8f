/-
  Closed facts on the types of this seat's translation.
-/
import Derived.Test.YteellpcagdnikaaProg
import Derived.KernelRfl
import Derived.Test.YteellpcagdnikaaMany
namespace Go.Proofs.Yteellpcagdnikaa
theorem info_u8 : (Try.prog.info? 5).map (fun i => (i.zero, i.size, i.bytes)) = some (some (.int .u8 0), 1, 1) := by kernel_rfl
theorem info_int : (Try.prog.info? 3).map (fun i => (i.zero, i.size, i.bytes)) = some (some (.int .i64 0), 1, 8) := by kernel_rfl
theorem size_u8 (w : World) : (sizeOf 5).run Try.prog w = .ok 1 w := by kernel_rfl
theorem size_int (w : World) : (sizeOf 3).run Try.prog w = .ok 1 w := by kernel_rfl
theorem el_int : Go.Th.El Try.prog 24 3 (.int .i64 0) 8 := ⟨Try.underlying24, info_parts info_int, rfl, size_int⟩
theorem info_u32 : (Try.prog.info? 22).map (fun i => (i.zero, i.size, i.bytes)) = some (some (.int .u32 0), 1, 4) := by kernel_rfl
theorem size_u32 (w : World) : (sizeOf 22).run Try.prog w = .ok 1 w := by kernel_rfl
theorem el_u32 : Go.Th.El Try.prog 39 22 (.int .u32 0) 4 := ⟨Try.underlying39, info_parts info_u32, rfl, size_u32⟩
end Go.Proofs.Yteellpcagdnikaa
