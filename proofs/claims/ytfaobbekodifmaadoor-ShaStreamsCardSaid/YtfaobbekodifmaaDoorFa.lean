/- What the types of this program are, each by the reckoning of its tables. Conditions: none. -/
import Derived.Test.YtfaobbekodifmaaDoorSr
import Derived.Test.YtfaobbekodifmaaDoorSi
import Derived.Test.YtfaobbekodifmaaDoorSe
import Derived.Test.YtfaobbekodifmaaDoorProg
namespace Go.Proofs.YtfaobbekodifmaaDoor
open Go.Ost
-- 3 int
instance : TInt Tryd.prog 3 .i64 := ⟨by kernel_rfl⟩
instance : TSized Tryd.prog 3 (.int .i64 0) 1 8 := ⟨by kernel_rfl⟩
instance : TFlat Tryd.prog 3 := ⟨by kernel_rfl⟩
-- 4 bool
instance : TBool Tryd.prog 4 := ⟨by kernel_rfl⟩
instance : TSized Tryd.prog 4 (.bool false) 1 1 := ⟨by kernel_rfl⟩
instance : TFlat Tryd.prog 4 := ⟨by kernel_rfl⟩
-- 5 uint8
instance : TInt Tryd.prog 5 .u8 := ⟨by kernel_rfl⟩
instance : TSized Tryd.prog 5 (.int .u8 0) 1 1 := ⟨by kernel_rfl⟩
instance : TFlat Tryd.prog 5 := ⟨by kernel_rfl⟩
-- 9 string
instance : TStr Tryd.prog 9 := ⟨by kernel_rfl⟩
instance : TSized Tryd.prog 9 (.string ⟨#[]⟩) 1 16 := ⟨by kernel_rfl⟩
instance : TFlat Tryd.prog 9 := ⟨by kernel_rfl⟩
-- 22 [][]uint8
instance : TSlice Tryd.prog 22 24 := ⟨by kernel_rfl⟩
instance : TSized Tryd.prog 22 (.slice none 0 0) 1 24 := ⟨by kernel_rfl⟩
instance : TFlat Tryd.prog 22 := ⟨by kernel_rfl⟩
-- 24 []uint8
instance : TSlice Tryd.prog 24 5 := ⟨by kernel_rfl⟩
instance : TSized Tryd.prog 24 (.slice none 0 0) 1 24 := ⟨by kernel_rfl⟩
instance : TFlat Tryd.prog 24 := ⟨by kernel_rfl⟩
-- 33 uint64
instance : TInt Tryd.prog 33 .u64 := ⟨by kernel_rfl⟩
instance : TSized Tryd.prog 33 (.int .u64 0) 1 8 := ⟨by kernel_rfl⟩
instance : TFlat Tryd.prog 33 := ⟨by kernel_rfl⟩
-- 37 *sha.Hash
instance : TPtr Tryd.prog 37 64 := ⟨by kernel_rfl⟩
instance : TSized Tryd.prog 37 (.pointer none) 1 8 := ⟨by kernel_rfl⟩
instance : TFlat Tryd.prog 37 := ⟨by kernel_rfl⟩
-- 38 api.Errno
instance : TInt Tryd.prog 38 .i64 := ⟨by kernel_rfl⟩
instance : TSized Tryd.prog 38 (.int .i64 0) 1 8 := ⟨by kernel_rfl⟩
instance : TFlat Tryd.prog 38 := ⟨by kernel_rfl⟩
-- 50 uint32
instance : TInt Tryd.prog 50 .u32 := ⟨by kernel_rfl⟩
instance : TSized Tryd.prog 50 (.int .u32 0) 1 4 := ⟨by kernel_rfl⟩
instance : TFlat Tryd.prog 50 := ⟨by kernel_rfl⟩
-- 51 [8]uint32
instance : TArr Tryd.prog 51 8 50 := ⟨by kernel_rfl⟩
instance : TSized Tryd.prog 51 (.agg #[.int .u32 0, .int .u32 0, .int .u32 0, .int .u32 0, .int .u32 0, .int .u32 0, .int .u32 0, .int .u32 0]) 8 32 := ⟨by kernel_rfl⟩
instance : TDeep Tryd.prog 51 := ⟨by kernel_rfl⟩
-- 52 ostiaryref01.State
instance : TArr Tryd.prog 52 8 50 := ⟨by kernel_rfl⟩
instance : TSized Tryd.prog 52 (.agg #[.int .u32 0, .int .u32 0, .int .u32 0, .int .u32 0, .int .u32 0, .int .u32 0, .int .u32 0, .int .u32 0]) 8 32 := ⟨by kernel_rfl⟩
instance : TDeep Tryd.prog 52 := ⟨by kernel_rfl⟩
-- 58 sha.state
instance : TArr Tryd.prog 58 8 50 := ⟨by kernel_rfl⟩
instance : TSized Tryd.prog 58 (.agg #[.int .u32 0, .int .u32 0, .int .u32 0, .int .u32 0, .int .u32 0, .int .u32 0, .int .u32 0, .int .u32 0]) 8 32 := ⟨by kernel_rfl⟩
instance : TDeep Tryd.prog 58 := ⟨by kernel_rfl⟩
-- 64 sha.Hash
instance : TSized Tryd.prog 64 (.agg #[.int .u32 0, .int .u32 0, .int .u32 0, .int .u32 0, .int .u32 0, .int .u32 0, .int .u32 0, .int .u32 0, .slice none 0 0, .int .u64 0]) 10 64 := ⟨by kernel_rfl⟩
instance : TDeep Tryd.prog 64 := ⟨by kernel_rfl⟩
instance : TField Tryd.prog 64 0 0 58 := ⟨by kernel_rfl⟩ -- s
instance : TField Tryd.prog 64 1 8 24 := ⟨by kernel_rfl⟩ -- rest
instance : TField Tryd.prog 64 2 9 33 := ⟨by kernel_rfl⟩ -- n
-- 66 uint
instance : TInt Tryd.prog 66 .u64 := ⟨by kernel_rfl⟩
instance : TSized Tryd.prog 66 (.int .u64 0) 1 8 := ⟨by kernel_rfl⟩
instance : TFlat Tryd.prog 66 := ⟨by kernel_rfl⟩
-- 70 [64]uint32
instance : TArr Tryd.prog 70 64 50 := ⟨by kernel_rfl⟩
instance : TSized Tryd.prog 70 (.agg #[.int .u32 0, .int .u32 0, .int .u32 0, .int .u32 0, .int .u32 0, .int .u32 0, .int .u32 0, .int .u32 0, .int .u32 0, .int .u32 0, .int .u32 0, .int .u32 0, .int .u32 0, .int .u32 0, .int .u32 0, .int .u32 0, .int .u32 0, .int .u32 0, .int .u32 0, .int .u32 0, .int .u32 0, .int .u32 0, .int .u32 0, .int .u32 0, .int .u32 0, .int .u32 0, .int .u32 0, .int .u32 0, .int .u32 0, .int .u32 0, .int .u32 0, .int .u32 0, .int .u32 0, .int .u32 0, .int .u32 0, .int .u32 0, .int .u32 0, .int .u32 0, .int .u32 0, .int .u32 0, .int .u32 0, .int .u32 0, .int .u32 0, .int .u32 0, .int .u32 0, .int .u32 0, .int .u32 0, .int .u32 0, .int .u32 0, .int .u32 0, .int .u32 0, .int .u32 0, .int .u32 0, .int .u32 0, .int .u32 0, .int .u32 0, .int .u32 0, .int .u32 0, .int .u32 0, .int .u32 0, .int .u32 0, .int .u32 0, .int .u32 0, .int .u32 0]) 64 256 := ⟨by kernel_rfl⟩
instance : TDeep Tryd.prog 70 := ⟨by kernel_rfl⟩
end Go.Proofs.YtfaobbekodifmaaDoor
