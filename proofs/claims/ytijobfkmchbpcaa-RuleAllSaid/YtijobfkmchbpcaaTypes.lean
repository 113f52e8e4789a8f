/-
  Closed facts on the types of this seat's translation.
-/
import Derived.Test.YtijobfkmchbpcaaProg
import Derived.KernelRfl
import Derived.Test.YtijobfkmchbpcaaMany
namespace Go.Proofs.Ytijobfkmchbpcaa
theorem info_u8 : (Try.prog.info? 5).map (fun i => (i.zero, i.size, i.bytes)) = some (some (.int .u8 0), 1, 1) := by kernel_rfl
theorem info_int : (Try.prog.info? 3).map (fun i => (i.zero, i.size, i.bytes)) = some (some (.int .i64 0), 1, 8) := by kernel_rfl
theorem size_u8 (w : World) : (sizeOf 5).run Try.prog w = .ok 1 w := by kernel_rfl
theorem size_int (w : World) : (sizeOf 3).run Try.prog w = .ok 1 w := by kernel_rfl
theorem el_u8 : Go.Th.El Try.prog 36 5 (.int .u8 0) 1 := ⟨Try.underlying36, info_parts info_u8, rfl, size_u8⟩
theorem el_int : Go.Th.El Try.prog 74 3 (.int .i64 0) 8 := ⟨Try.underlying74, info_parts info_int, rfl, size_int⟩
theorem info_rule : (Try.prog.info? 25).map (fun i => (i.zero, i.size, i.bytes)) = some (some (.agg #[.int .u32 0, .int .i64 0, .int .i64 0, .int .i64 0]), 4, 32) := by kernel_rfl
theorem size_rule (w : World) : (sizeOf 25).run Try.prog w = .ok 4 w := by kernel_rfl
theorem el_rule : Go.Th.ElM Try.prog 22 25 (.agg #[.int .u32 0, .int .i64 0, .int .i64 0, .int .i64 0]) 32 4 := ⟨Try.underlying22, info_parts info_rule, rfl, size_rule, by omega⟩
theorem st_rule : Go.Th.St Try.prog 25 4 := ⟨⟨_, Try.underlying25⟩, by kernel_rfl⟩
end Go.Proofs.Ytijobfkmchbpcaa
