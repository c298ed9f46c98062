/- What the types of this program are, each by the reckoning of its tables. Conditions: none. -/
import Derived.Test.YtceodidlbjephaaSr
import Derived.Test.YtceodidlbjephaaSi
import Derived.Test.YtceodidlbjephaaSe
import Derived.Test.YtceodidlbjephaaProg
set_option linter.unusedSimpArgs false
set_option linter.unusedVariables false
namespace Go.Proofs.Ytceodidlbjephaa
open Go.Ost
-- 3 int
instance : TInt Try.prog 3 .i64 := ⟨by kernel_rfl⟩
instance : TSized Try.prog 3 (.int .i64 0) 1 8 := ⟨by kernel_rfl⟩
instance : TFlat Try.prog 3 := ⟨by kernel_rfl⟩
-- 4 bool
instance : TBool Try.prog 4 := ⟨by kernel_rfl⟩
instance : TSized Try.prog 4 (.bool false) 1 1 := ⟨by kernel_rfl⟩
instance : TFlat Try.prog 4 := ⟨by kernel_rfl⟩
-- 5 uint8
instance : TInt Try.prog 5 .u8 := ⟨by kernel_rfl⟩
instance : TSized Try.prog 5 (.int .u8 0) 1 1 := ⟨by kernel_rfl⟩
instance : TFlat Try.prog 5 := ⟨by kernel_rfl⟩
-- 22 uint64
instance : TInt Try.prog 22 .u64 := ⟨by kernel_rfl⟩
instance : TSized Try.prog 22 (.int .u64 0) 1 8 := ⟨by kernel_rfl⟩
instance : TFlat Try.prog 22 := ⟨by kernel_rfl⟩
-- 30 uint32
instance : TInt Try.prog 30 .u32 := ⟨by kernel_rfl⟩
instance : TSized Try.prog 30 (.int .u32 0) 1 4 := ⟨by kernel_rfl⟩
instance : TFlat Try.prog 30 := ⟨by kernel_rfl⟩
-- 31 uint16
instance : TInt Try.prog 31 .u16 := ⟨by kernel_rfl⟩
instance : TSized Try.prog 31 (.int .u16 0) 1 2 := ⟨by kernel_rfl⟩
instance : TFlat Try.prog 31 := ⟨by kernel_rfl⟩
-- 37 []uint64
instance : TSlice Try.prog 37 22 := ⟨by kernel_rfl⟩
instance : TSized Try.prog 37 (.slice none 0 0) 1 24 := ⟨by kernel_rfl⟩
instance : TFlat Try.prog 37 := ⟨by kernel_rfl⟩
-- 38 *span.Clock
instance : TPtr Try.prog 38 46 := ⟨by kernel_rfl⟩
instance : TSized Try.prog 38 (.pointer none) 1 8 := ⟨by kernel_rfl⟩
instance : TFlat Try.prog 38 := ⟨by kernel_rfl⟩
-- 46 span.Clock
instance : TSized Try.prog 46 (.agg #[.int .u64 0]) 1 8 := ⟨by kernel_rfl⟩
instance : TDeep Try.prog 46 := ⟨by kernel_rfl⟩
instance : TField Try.prog 46 0 0 22 := ⟨by kernel_rfl⟩ -- now
end Go.Proofs.Ytceodidlbjephaa
