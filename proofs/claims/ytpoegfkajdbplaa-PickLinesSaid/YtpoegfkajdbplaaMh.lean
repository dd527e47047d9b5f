/- Printed by merge.py: many texts in one. -/
import Derived.Test.YtpoegfkajdbplaaMc
import Derived.Test.YtpoegfkajdbplaaProg
import Derived.KernelRfl
import Derived.Test.YtpoegfkajdbplaaMd
import Derived.Test.YtpoegfkajdbplaaMg

namespace Go.Proofs.Ytpoegfkajdbplaa
open Go.Dm
def tl : List TI := [
  noTI,
  ⟨.fn, 1, 8, [.nilf], []⟩,
  ⟨.int .i64, 1, 8, [.int .i64 0], []⟩,
  ⟨.int .i64, 1, 8, [.int .i64 0], []⟩,
  ⟨.bool, 1, 1, [.bool false], []⟩,
  ⟨.int .u8, 1, 1, [.int .u8 0], []⟩,
  ⟨.int .u8, 1, 1, [.int .u8 0], []⟩,
  ⟨.struct [(0, 2), (1, 3), (2, 4), (3, 6)], 4, 24, [.int .i64 0, .int .i64 0, .bool false, .int .u8 0], []⟩,
  ⟨.struct [(0, 2), (1, 3), (2, 4), (3, 6)], 4, 24, [.int .i64 0, .int .i64 0, .bool false, .int .u8 0], []⟩,
  ⟨.str, 1, 16, [.str []], []⟩,
  ⟨.str, 1, 16, [.str []], []⟩,
  ⟨.str, 1, 16, [.str []], []⟩,
  ⟨.int .u64, 1, 8, [.int .u64 0], []⟩,
  ⟨.struct [(0, 9), (1, 12)], 2, 24, [.str [], .int .u64 0], []⟩,
  ⟨.struct [(0, 9), (1, 12)], 2, 24, [.str [], .int .u64 0], []⟩,
  ⟨.ptr 191, 1, 8, [.nilp], []⟩,
  ⟨.ptr 194, 1, 8, [.nilp], []⟩,
  ⟨.ptr 202, 1, 8, [.nilp], []⟩,
  ⟨.struct [(0, 17)], 1, 8, [.nilp], []⟩,
  ⟨.struct [(0, 17)], 1, 8, [.nilp], []⟩,
  noTI,
  ⟨.int .i32, 1, 4, [.int .i32 0], []⟩,
  ⟨.slice 9, 1, 24, [.nils], []⟩,
  ⟨.cpl, 1, 16, [.cpl 0 0], []⟩,
  ⟨.fn, 1, 8, [.nilf], []⟩,
  ⟨.fn, 1, 8, [.nilf], []⟩,
  ⟨.fn, 1, 8, [.nilf], []⟩,
  ⟨.fn, 1, 8, [.nilf], []⟩,
  ⟨.fn, 1, 8, [.nilf], []⟩,
  ⟨.fn, 1, 8, [.nilf], []⟩,
  ⟨.slice 3, 1, 24, [.nils], []⟩,
  ⟨.slice 23, 1, 24, [.nils], []⟩,
  ⟨.fn, 1, 8, [.nilf], []⟩,
  ⟨.fn, 1, 8, [.nilf], []⟩,
  ⟨.fn, 1, 8, [.nilf], []⟩,
  ⟨.struct [(0, 4), (1, 4)], 2, 2, [.bool false, .bool false], []⟩,
  ⟨.struct [(0, 4), (1, 4)], 2, 2, [.bool false, .bool false], [.b, .b]⟩,
  ⟨.slice 43, 1, 24, [.nils], []⟩,
  ⟨.struct [(0, 3), (1, 9), (2, 36), (4, 22), (5, 37), (6, 3), (7, 3), (8, 3)], 9, 104, [.int .i64 0, .str [], .bool false, .bool false, .nils, .nils, .int .i64 0, .int .i64 0, .int .i64 0], []⟩,
  ⟨.struct [(0, 3), (1, 9), (2, 36), (4, 22), (5, 37), (6, 3), (7, 3), (8, 3)], 9, 104, [.int .i64 0, .str [], .bool false, .bool false, .nils, .nils, .int .i64 0, .int .i64 0, .int .i64 0], []⟩,
  ⟨.fn, 1, 8, [.nilf], []⟩,
  ⟨.fn, 1, 8, [.nilf], []⟩,
  ⟨.struct [(0, 3), (1, 3), (2, 22)], 3, 40, [.int .i64 0, .int .i64 0, .nils], []⟩,
  ⟨.struct [(0, 3), (1, 3), (2, 22)], 3, 40, [.int .i64 0, .int .i64 0, .nils], []⟩,
  ⟨.slice 5, 1, 24, [.nils], []⟩,
  ⟨.fn, 1, 8, [.nilf], []⟩,
  noTI,
  ⟨.fn, 1, 8, [.nilf], []⟩,
  ⟨.fn, 1, 8, [.nilf], []⟩,
  ⟨.fn, 1, 8, [.nilf], []⟩,
  ⟨.fn, 1, 8, [.nilf], []⟩,
  ⟨.fn, 1, 8, [.nilf], []⟩,
  ⟨.fn, 1, 8, [.nilf], []⟩,
  ⟨.fn, 1, 8, [.nilf], []⟩,
  ⟨.slice 44, 1, 24, [.nils], []⟩,
  ⟨.fn, 1, 8, [.nilf], []⟩,
  ⟨.struct [(0, 30), (1, 30)], 2, 48, [.nils, .nils], []⟩,
  ⟨.struct [(0, 30), (1, 30)], 2, 48, [.nils, .nils], []⟩,
  ⟨.struct [(0, 3), (1, 3), (2, 57)], 4, 64, [.int .i64 0, .int .i64 0, .nils, .nils], []⟩,
  ⟨.struct [(0, 3), (1, 3), (2, 57)], 4, 64, [.int .i64 0, .int .i64 0, .nils, .nils], []⟩,
  ⟨.struct [(0, 30)], 1, 24, [.nils], []⟩,
  ⟨.struct [(0, 30)], 1, 24, [.nils], []⟩,
  ⟨.struct [(0, 3), (1, 3), (2, 59), (6, 59), (10, 4), (11, 57), (13, 61), (14, 3)], 15, 232, [.int .i64 0, .int .i64 0, .int .i64 0, .int .i64 0, .nils, .nils, .int .i64 0, .int .i64 0, .nils, .nils, .bool false, .nils, .nils, .nils, .int .i64 0], []⟩,
  ⟨.struct [(0, 3), (1, 3), (2, 59), (6, 59), (10, 4), (11, 57), (13, 61), (14, 3)], 15, 232, [.int .i64 0, .int .i64 0, .int .i64 0, .int .i64 0, .nils, .nils, .int .i64 0, .int .i64 0, .nils, .nils, .bool false, .nils, .nils, .nils, .int .i64 0], []⟩,
  ⟨.slice 30, 1, 24, [.nils], []⟩,
  ⟨.int .u64, 1, 8, [.int .u64 0], []⟩,
  ⟨.array 4 65, 4, 32, [.int .u64 0, .int .u64 0, .int .u64 0, .int .u64 0], [.i .u64, .i .u64, .i .u64, .i .u64]⟩,
  ⟨.array 4 65, 4, 32, [.int .u64 0, .int .u64 0, .int .u64 0, .int .u64 0], [.i .u64, .i .u64, .i .u64, .i .u64]⟩,
  ⟨.slice 70, 1, 24, [.nils], []⟩,
  ⟨.struct [(0, 3), (1, 3), (2, 3), (3, 3), (4, 67), (8, 68)], 9, 88, [.int .i64 0, .int .i64 0, .int .i64 0, .int .i64 0, .int .u64 0, .int .u64 0, .int .u64 0, .int .u64 0, .nils], []⟩,
  ⟨.struct [(0, 3), (1, 3), (2, 3), (3, 3), (4, 67), (8, 68)], 9, 88, [.int .i64 0, .int .i64 0, .int .i64 0, .int .i64 0, .int .u64 0, .int .u64 0, .int .u64 0, .int .u64 0, .nils], []⟩,
  ⟨.struct [(0, 3), (1, 3), (2, 70)], 11, 104, [.int .i64 0, .int .i64 0, .int .i64 0, .int .i64 0, .int .i64 0, .int .i64 0, .int .u64 0, .int .u64 0, .int .u64 0, .int .u64 0, .nils], []⟩,
  ⟨.struct [(0, 3), (1, 3), (2, 70)], 11, 104, [.int .i64 0, .int .i64 0, .int .i64 0, .int .i64 0, .int .i64 0, .int .i64 0, .int .u64 0, .int .u64 0, .int .u64 0, .int .u64 0, .nils], []⟩,
  ⟨.slice 124, 1, 24, [.nils], []⟩,
  ⟨.struct [(0, 72), (11, 72), (22, 4), (23, 5), (24, 9), (25, 70), (34, 73), (35, 4), (36, 4), (37, 3), (38, 9), (39, 9)], 40, 392, [.int .i64 0, .int .i64 0, .int .i64 0, .int .i64 0, .int .i64 0, .int .i64 0, .int .u64 0, .int .u64 0, .int .u64 0, .int .u64 0, .nils, .int .i64 0, .int .i64 0, .int .i64 0, .int .i64 0, .int .i64 0, .int .i64 0, .int .u64 0, .int .u64 0, .int .u64 0, .int .u64 0, .nils, .bool false, .int .u8 0, .str [], .int .i64 0, .int .i64 0, .int .i64 0, .int .i64 0, .int .u64 0, .int .u64 0, .int .u64 0, .int .u64 0, .nils, .nils, .bool false, .bool false, .int .i64 0, .str [], .str []], []⟩,
  ⟨.struct [(0, 72), (11, 72), (22, 4), (23, 5), (24, 9), (25, 70), (34, 73), (35, 4), (36, 4), (37, 3), (38, 9), (39, 9)], 40, 392, [.int .i64 0, .int .i64 0, .int .i64 0, .int .i64 0, .int .i64 0, .int .i64 0, .int .u64 0, .int .u64 0, .int .u64 0, .int .u64 0, .nils, .int .i64 0, .int .i64 0, .int .i64 0, .int .i64 0, .int .i64 0, .int .i64 0, .int .u64 0, .int .u64 0, .int .u64 0, .int .u64 0, .nils, .bool false, .int .u8 0, .str [], .int .i64 0, .int .i64 0, .int .i64 0, .int .i64 0, .int .u64 0, .int .u64 0, .int .u64 0, .int .u64 0, .nils, .nils, .bool false, .bool false, .int .i64 0, .str [], .str []], []⟩,
  ⟨.fn, 1, 8, [.nilf], []⟩,
  ⟨.fn, 1, 8, [.nilf], []⟩,
  ⟨.struct [(0, 3), (1, 4), (2, 9)], 3, 32, [.int .i64 0, .bool false, .str []], []⟩,
  ⟨.struct [(0, 3), (1, 4), (2, 9)], 3, 32, [.int .i64 0, .bool false, .str []], [.i .i64, .b, .s]⟩,
  noTI,
  ⟨.fn, 1, 8, [.nilf], []⟩,
  ⟨.fn, 1, 8, [.nilf], []⟩,
  ⟨.fn, 1, 8, [.nilf], []⟩,
  ⟨.fn, 1, 8, [.nilf], []⟩,
  ⟨.fn, 1, 8, [.nilf], []⟩,
  ⟨.fn, 1, 8, [.nilf], []⟩,
  ⟨.fn, 1, 8, [.nilf], []⟩,
  ⟨.flo, 1, 8, [.flo 0], []⟩,
  ⟨.fn, 1, 8, [.nilf], []⟩,
  ⟨.fn, 1, 8, [.nilf], []⟩,
  ⟨.fn, 1, 8, [.nilf], []⟩,
  ⟨.ptr 94, 1, 8, [.nilp], []⟩,
  ⟨.struct [(0, 44), (1, 4)], 2, 32, [.nils, .bool false], []⟩,
  ⟨.struct [(0, 44), (1, 4)], 2, 32, [.nils, .bool false], []⟩,
  ⟨.fn, 1, 8, [.nilf], []⟩,
  ⟨.fn, 1, 8, [.nilf], []⟩,
  ⟨.fn, 1, 8, [.nilf], []⟩,
  ⟨.fn, 1, 8, [.nilf], []⟩,
  ⟨.fn, 1, 8, [.nilf], []⟩,
  ⟨.fn, 1, 8, [.nilf], []⟩,
  ⟨.fn, 1, 8, [.nilf], []⟩,
  ⟨.fn, 1, 8, [.nilf], []⟩,
  ⟨.fn, 1, 8, [.nilf], []⟩,
  ⟨.fn, 1, 8, [.nilf], []⟩,
  ⟨.fn, 1, 8, [.nilf], []⟩,
  ⟨.fn, 1, 8, [.nilf], []⟩,
  ⟨.slice 4, 1, 24, [.nils], []⟩,
  ⟨.fn, 1, 8, [.nilf], []⟩,
  ⟨.fn, 1, 8, [.nilf], []⟩,
  ⟨.fn, 1, 8, [.nilf], []⟩,
  ⟨.fn, 1, 8, [.nilf], []⟩,
  ⟨.fn, 1, 8, [.nilf], []⟩,
  ⟨.fn, 1, 8, [.nilf], []⟩,
  ⟨.fn, 1, 8, [.nilf], []⟩,
  ⟨.fn, 1, 8, [.nilf], []⟩,
  ⟨.int .u32, 1, 4, [.int .u32 0], []⟩,
  ⟨.int .u64, 1, 8, [.int .u64 0], []⟩,
  ⟨.fn, 1, 8, [.nilf], []⟩,
  ⟨.ptr 3, 1, 8, [.nilp], []⟩,
  ⟨.struct [(0, 57), (2, 4), (3, 119), (4, 119), (5, 119)], 6, 80, [.nils, .nils, .bool false, .nilp, .nilp, .nilp], []⟩,
  ⟨.struct [(0, 57), (2, 4), (3, 119), (4, 119), (5, 119)], 6, 80, [.nils, .nils, .bool false, .nilp, .nilp, .nilp], []⟩,
  ⟨.fn, 1, 8, [.nilf], []⟩,
  ⟨.struct [(0, 3), (1, 9)], 2, 24, [.int .i64 0, .str []], []⟩,
  ⟨.struct [(0, 3), (1, 9)], 2, 24, [.int .i64 0, .str []], [.i .i64, .s]⟩,
  ⟨.struct [(0, 3), (1, 3)], 2, 16, [.int .i64 0, .int .i64 0], []⟩,
  ⟨.struct [(0, 3), (1, 3)], 2, 16, [.int .i64 0, .int .i64 0], [.i .i64, .i .i64]⟩,
  ⟨.array 4 126, 8, 64, [.int .i64 0, .int .i64 0, .int .i64 0, .int .i64 0, .int .i64 0, .int .i64 0, .int .i64 0, .int .i64 0], [.i .i64, .i .i64, .i .i64, .i .i64, .i .i64, .i .i64, .i .i64, .i .i64]⟩,
  ⟨.array 4 126, 8, 64, [.int .i64 0, .int .i64 0, .int .i64 0, .int .i64 0, .int .i64 0, .int .i64 0, .int .i64 0, .int .i64 0], [.i .i64, .i .i64, .i .i64, .i .i64, .i .i64, .i .i64, .i .i64, .i .i64]⟩,
  noTI,
  ⟨.fn, 1, 8, [.nilf], []⟩,
  ⟨.fn, 1, 8, [.nilf], []⟩,
  ⟨.fn, 1, 8, [.nilf], []⟩,
  noTI,
  ⟨.fn, 1, 8, [.nilf], []⟩,
  ⟨.fn, 1, 8, [.nilf], []⟩,
  ⟨.fn, 1, 8, [.nilf], []⟩,
  ⟨.fn, 1, 8, [.nilf], []⟩,
  ⟨.struct [(0, 3), (1, 128)], 9, 72, [.int .i64 0, .int .i64 0, .int .i64 0, .int .i64 0, .int .i64 0, .int .i64 0, .int .i64 0, .int .i64 0, .int .i64 0], []⟩,
  ⟨.struct [(0, 3), (1, 128)], 9, 72, [.int .i64 0, .int .i64 0, .int .i64 0, .int .i64 0, .int .i64 0, .int .i64 0, .int .i64 0, .int .i64 0, .int .i64 0], [.i .i64, .i .i64, .i .i64, .i .i64, .i .i64, .i .i64, .i .i64, .i .i64, .i .i64]⟩,
  ⟨.slice 139, 1, 24, [.nils], []⟩,
  ⟨.fn, 1, 8, [.nilf], []⟩,
  ⟨.slice 145, 1, 24, [.nils], []⟩,
  ⟨.fn, 1, 8, [.nilf], []⟩,
  ⟨.struct [(0, 3), (1, 128)], 9, 72, [.int .i64 0, .int .i64 0, .int .i64 0, .int .i64 0, .int .i64 0, .int .i64 0, .int .i64 0, .int .i64 0, .int .i64 0], []⟩,
  ⟨.struct [(0, 3), (1, 128)], 9, 72, [.int .i64 0, .int .i64 0, .int .i64 0, .int .i64 0, .int .i64 0, .int .i64 0, .int .i64 0, .int .i64 0, .int .i64 0], [.i .i64, .i .i64, .i .i64, .i .i64, .i .i64, .i .i64, .i .i64, .i .i64, .i .i64]⟩,
  ⟨.fn, 1, 8, [.nilf], []⟩,
  ⟨.ptr 149, 1, 8, [.nilp], []⟩,
  ⟨.struct [(0, 4), (1, 3)], 2, 16, [.bool false, .int .i64 0], []⟩,
  ⟨.struct [(0, 4), (1, 3)], 2, 16, [.bool false, .int .i64 0], [.b, .i .i64]⟩,
  ⟨.fn, 1, 8, [.nilf], []⟩,
  ⟨.fn, 1, 8, [.nilf], []⟩,
  ⟨.struct [(0, 9), (1, 4)], 2, 24, [.str [], .bool false], []⟩,
  ⟨.struct [(0, 9), (1, 4)], 2, 24, [.str [], .bool false], [.s, .b]⟩,
  ⟨.fn, 1, 8, [.nilf], []⟩,
  ⟨.map 177 142, 1, 8, [.nilm], []⟩,
  ⟨.struct [(0, 9), (1, 4), (2, 155)], 3, 32, [.str [], .bool false, .nilm], []⟩,
  ⟨.struct [(0, 9), (1, 4), (2, 155)], 3, 32, [.str [], .bool false, .nilm], []⟩,
  ⟨.fn, 1, 8, [.nilf], []⟩,
  noTI,
  ⟨.fn, 1, 8, [.nilf], []⟩,
  ⟨.fn, 1, 8, [.nilf], []⟩,
  ⟨.fn, 1, 8, [.nilf], []⟩,
  ⟨.fn, 1, 8, [.nilf], []⟩,
  ⟨.ptr 169, 1, 8, [.nilp], []⟩,
  ⟨.fn, 1, 8, [.nilf], []⟩,
  ⟨.fn, 1, 8, [.nilf], []⟩,
  ⟨.map 139 4, 1, 8, [.nilm], []⟩,
  ⟨.struct [(0, 140), (1, 167)], 2, 32, [.nils, .nilm], []⟩,
  ⟨.struct [(0, 140), (1, 167)], 2, 32, [.nils, .nilm], []⟩,
  ⟨.fn, 1, 8, [.nilf], []⟩,
  ⟨.ptr 174, 1, 8, [.nilp], []⟩,
  ⟨.map 184 4, 1, 8, [.nilm], []⟩,
  ⟨.struct [(0, 153), (2, 70), (11, 164), (12, 172)], 13, 128, [.str [], .bool false, .int .i64 0, .int .i64 0, .int .i64 0, .int .i64 0, .int .u64 0, .int .u64 0, .int .u64 0, .int .u64 0, .nils, .nilp, .nilm], []⟩,
  ⟨.struct [(0, 153), (2, 70), (11, 164), (12, 172)], 13, 128, [.str [], .bool false, .int .i64 0, .int .i64 0, .int .i64 0, .int .i64 0, .int .u64 0, .int .u64 0, .int .u64 0, .int .u64 0, .nils, .nilp, .nilm], []⟩,
  ⟨.fn, 1, 8, [.nilf], []⟩,
  ⟨.struct [(0, 3), (1, 145)], 10, 80, [.int .i64 0, .int .i64 0, .int .i64 0, .int .i64 0, .int .i64 0, .int .i64 0, .int .i64 0, .int .i64 0, .int .i64 0, .int .i64 0], []⟩,
  ⟨.struct [(0, 3), (1, 145)], 10, 80, [.int .i64 0, .int .i64 0, .int .i64 0, .int .i64 0, .int .i64 0, .int .i64 0, .int .i64 0, .int .i64 0, .int .i64 0, .int .i64 0], [.i .i64, .i .i64, .i .i64, .i .i64, .i .i64, .i .i64, .i .i64, .i .i64, .i .i64, .i .i64]⟩,
  noTI,
  ⟨.fn, 1, 8, [.nilf], []⟩,
  ⟨.fn, 1, 8, [.nilf], []⟩,
  ⟨.fn, 1, 8, [.nilf], []⟩,
  ⟨.fn, 1, 8, [.nilf], []⟩,
  ⟨.struct [(0, 3), (1, 139)], 10, 80, [.int .i64 0, .int .i64 0, .int .i64 0, .int .i64 0, .int .i64 0, .int .i64 0, .int .i64 0, .int .i64 0, .int .i64 0, .int .i64 0], []⟩,
  ⟨.struct [(0, 3), (1, 139)], 10, 80, [.int .i64 0, .int .i64 0, .int .i64 0, .int .i64 0, .int .i64 0, .int .i64 0, .int .i64 0, .int .i64 0, .int .i64 0, .int .i64 0], [.i .i64, .i .i64, .i .i64, .i .i64, .i .i64, .i .i64, .i .i64, .i .i64, .i .i64, .i .i64]⟩,
  ⟨.fn, 1, 8, [.nilf], []⟩,
  ⟨.fn, 1, 8, [.nilf], []⟩,
  ⟨.fn, 1, 8, [.nilf], []⟩,
  ⟨.fn, 1, 8, [.nilf], []⟩,
  ⟨.fn, 1, 8, [.nilf], []⟩,
  ⟨.struct [(0, 17), (1, 17), (2, 17), (3, 9)], 4, 40, [.nilp, .nilp, .nilp, .str []], []⟩,
  ⟨.struct [(0, 17), (1, 17), (2, 17), (3, 9)], 4, 40, [.nilp, .nilp, .nilp, .str []], []⟩,
  ⟨.array 0 16, 0, 0, [], []⟩,
  ⟨.struct [(0, 192)], 0, 0, [], []⟩,
  ⟨.struct [(0, 192)], 0, 0, [], []⟩,
  ⟨.int .u8, 1, 1, [.int .u8 0], []⟩,
  ⟨.int .u8, 1, 1, [.int .u8 0], []⟩,
  ⟨.fn, 1, 8, [.nilf], []⟩,
  ⟨.ptr 5, 1, 8, [.nilp], []⟩,
  ⟨.int .i32, 1, 4, [.int .i32 0], []⟩,
  ⟨.int .i32, 1, 4, [.int .i32 0], []⟩,
  ⟨.struct [(0, 12), (1, 12), (2, 116), (3, 195), (4, 5), (5, 5), (6, 196), (7, 197), (8, 198), (9, 199), (10, 200)], 11, 48, [.int .u64 0, .int .u64 0, .int .u32 0, .int .u8 0, .int .u8 0, .int .u8 0, .int .u8 0, .nilf, .nilp, .int .i32 0, .int .i32 0], []⟩,
  ⟨.struct [(0, 12), (1, 12), (2, 116), (3, 195), (4, 5), (5, 5), (6, 196), (7, 197), (8, 198), (9, 199), (10, 200)], 11, 48, [.int .u64 0, .int .u64 0, .int .u32 0, .int .u8 0, .int .u8 0, .int .u8 0, .int .u8 0, .nilf, .nilp, .int .i32 0, .int .i32 0], []⟩,
  ⟨.uptr, 1, 8, [.nilp], []⟩]
def tb : Tab := tabOf tl
theorem tok : TabOk Try.prog tb := tab_ok (by kernel_rfl)
theorem mixed : Try.prog.follows .mixedOrders = true := by kernel_rfl
end Go.Proofs.Ytpoegfkajdbplaa
set_option maxHeartbeats 4000000
namespace Go.Proofs.Ytpoegfkajdbplaa
open Go.Dm
set_option linter.unusedVariables false
abbrev f_main_main : Nat := 0
abbrev f_gosem_cut : Nat := 1
abbrev f_gosem_cut_init : Nat := 2
abbrev f_glosslaw1_MarkTexts : Nat := 3
abbrev f_glosslaw1_MarkSums : Nat := 4
abbrev f_glosslaw23_ReqBack : Nat := 5
abbrev f_glosslaw23_ReqOnly : Nat := 6
abbrev f_glosslaw23_ReqBig : Nat := 7
abbrev f_glosslaw23_ReqKinds : Nat := 8
abbrev f_glosslaw12_PickRanges : Nat := 9
abbrev f_glosslaw12_PickLines : Nat := 10
abbrev f_glosslaw12_PickTells : Nat := 11
abbrev f_mark_Of : Nat := 12
abbrev f_mark_Sum : Nat := 13
abbrev f_mark_Line : Nat := 14
abbrev f_mark_Text : Nat := 15
abbrev f_mark_Lines : Nat := 16
abbrev f_mark_Bytes : Nat := 17
abbrev f_glosslaw1_MarkRuns : Nat := 18
abbrev f_glossbook_Within : Nat := 19
abbrev f_mark_Less : Nat := 20
abbrev f_glosslaw23_tame : Nat := 21
abbrev f_glosslaw23_ReqBack_1 : Nat := 22
abbrev f_req_Plain : Nat := 23
abbrev f_req_Encode : Nat := 24
abbrev f_req_Decode : Nat := 25
abbrev f_glosskeep_Reqs : Nat := 26
abbrev f_req_Right : Nat := 27
abbrev f_glossbook_Same_byte : Nat := 28
abbrev f_glosslaw23_ReqRuns : Nat := 29
abbrev f_glossbook_Roomy_byte : Nat := 30
abbrev f_glossbook_Intact_byte : Nat := 31
abbrev f_glosskeep_Cmd_Cmd : Nat := 32
abbrev f_glosskeep_Text : Nat := 33
abbrev f_pick_Pick : Nat := 34
abbrev f_pick_Hit : Nat := 35
abbrev f_glosslaw12_PickRuns : Nat := 36
abbrev f_glossref8_Pick : Nat := 37
abbrev f_pick_Looks : Nat := 38
abbrev f_strings_Count : Nat := 39
abbrev f_strings_HasSuffix : Nat := 40
abbrev f_slices_Clone_string_string : Nat := 41
abbrev f_req_body : Nat := 42
abbrev f_req_reader_one : Nat := 43
abbrev f_req_reader_text : Nat := 44
abbrev f_req_reader_texts : Nat := 45
abbrev f_req_reader_list : Nat := 46
abbrev f_req_Decode_1 : Nat := 47
abbrev f_req_reader_edit : Nat := 48
abbrev f_req_reader_number : Nat := 49
abbrev f_slices_Equal_byte_byte : Nat := 50
abbrev f_glossbook_Same_string : Nat := 51
abbrev f_glosskeep_Edits : Nat := 52
abbrev f_req_numbers : Nat := 53
abbrev f_glosskeep_Addr_Addr : Nat := 54
abbrev f_glosskeep_Labels : Nat := 55
abbrev f_glosskeep_Rx_Rx : Nat := 56
abbrev f_glosskeep_Tpl_Tpl : Nat := 57
abbrev f_glosskeep_count : Nat := 58
abbrev f_pick_past : Nat := 59
abbrev f_find_Has : Nat := 60
abbrev f_glossbook_Same_bool : Nat := 61
abbrev f_glossref8_hit : Nat := 62
abbrev f_unicode_utf8_RuneCountInString : Nat := 63
abbrev f_internal_bytealg_CountString : Nat := 64
abbrev f_strings_Index : Nat := 65
abbrev f_internal_stringslite_HasSuffix : Nat := 66
abbrev f_req_text : Nat := 67
abbrev f_req_flag : Nat := 68
abbrev f_req_texts : Nat := 69
abbrev f_req_number : Nat := 70
abbrev f_req_reader_take : Nat := 71
abbrev f_req_reader_texts_1 : Nat := 72
abbrev f_slices_ContainsFunc_int_int : Nat := 73
abbrev f_req_numbers_1 : Nat := 74
abbrev f_glosskeep_maker_row : Nat := 75
abbrev f_find_First : Nat := 76
abbrev f_glossref1_Find : Nat := 77
abbrev f_internal_stringslite_Index : Nat := 78
abbrev f_slices_IndexFunc_int_int : Nat := 79
abbrev f_glosskeep_maker_next : Nat := 80
abbrev f_glosskeep_maker_parts : Nat := 81
abbrev f_rx_Right : Nat := 82
abbrev f_way_None : Nat := 83
abbrev f_way_Ways : Nat := 84
abbrev f_glossref1_Ways : Nat := 85
abbrev f_glossref1_None : Nat := 86
abbrev f_internal_stringslite_IndexByte : Nat := 87
abbrev f_internal_bytealg_IndexString : Nat := 88
abbrev f_internal_bytealg_Cutover : Nat := 89
abbrev f_internal_bytealg_IndexRabinKarp_string : Nat := 90
abbrev f_glosskeep_maker_part : Nat := 91
abbrev f_rx_Nodes : Nat := 92
abbrev f_rx_walker_anchors : Nat := 93
abbrev f_rx_walker_walk : Nat := 94
abbrev f_way_text_ways : Nat := 95
abbrev f_glossref1_walker_ways : Nat := 96
abbrev f_internal_bytealg_IndexByteString : Nat := 97
abbrev f_internal_bytealg_hashStr_string : Nat := 98
abbrev f_glosskeep_byteSet : Nat := 99
abbrev f_rx_bare : Nat := 100
abbrev f_rx_kids : Nat := 101
abbrev f_bset_Has : Nat := 102
abbrev f_way_text_back : Nat := 103
abbrev f_way_newRow : Nat := 104
abbrev f_way_row_add : Nat := 105
abbrev f_way_text_from : Nat := 106
abbrev f_way_repeater_on : Nat := 107
abbrev f_glossref1_Has : Nat := 108
abbrev f_glossref1_add : Nat := 109
abbrev f_glossref1_size : Nat := 110
abbrev f_glossref1_walker_repeat : Nat := 111
abbrev f_glosskeep_byteSet_1 : Nat := 112
abbrev f_rx_has : Nat := 113
abbrev f_rx_rep : Nat := 114
abbrev f_way_repeater_key : Nat := 115
abbrev f_slices_ContainsFunc_api_Rx_api_Rx : Nat := 116
abbrev f_rx_has_1 : Nat := 117
abbrev f_slices_Contains_int_int : Nat := 118
abbrev f_slices_IndexFunc_api_Rx_api_Rx : Nat := 119
abbrev f_slices_Index_int_int : Nat := 120
abbrev f_runtime_boundsError_Error : Nat := 121
abbrev f_runtime_boundsError_RuntimeError : Nat := 122
abbrev f_runtime_errorString_Error : Nat := 123
abbrev f_runtime_errorString_RuntimeError : Nat := 124
abbrev f_runtime_plainError_Error : Nat := 125
abbrev f_runtime_plainError_RuntimeError : Nat := 126
abbrev f_runtime_errorAddressString_Error : Nat := 127
abbrev f_runtime_errorAddressString_RuntimeError : Nat := 128
abbrev f_runtime_TypeAssertionError_Error : Nat := 129
abbrev f_runtime_TypeAssertionError_RuntimeError : Nat := 130
abbrev f_runtime_PanicNilError_Error : Nat := 131
abbrev f_runtime_PanicNilError_RuntimeError : Nat := 132
abbrev f_internal_abi_Type_Align : Nat := 133
abbrev f_internal_runtime_maps_unhashableTypeError_Error : Nat := 134
abbrev f_internal_runtime_maps_unhashableTypeError_RuntimeError : Nat := 135
abbrev f_internal_abi_Kind_String : Nat := 136
def pureL : List Nat := [12, 13, 14, 15, 16, 17, 19, 20, 28, 30, 31, 33, 34, 35, 37, 38, 39, 40, 41, 50, 51, 55, 58, 59, 60, 61, 62, 65, 66, 67, 68, 69, 70, 76, 77, 78, 82, 83, 84, 85, 86, 87, 92, 99, 100, 101, 104, 110, 113, 114, 118, 120]
def inNat (f : Nat) : List Nat → Bool
  | [] => false
  | x :: r => (match Nat.beq f x with | true => true | false => inNat f r)
instance : Pures := ⟨fun f => inNat f pureL⟩
def w_glosslaw12_PickLines : Ent Try.prog tb (stlW tb) := ⟨10, [], _, by cbv, by kernel_rfl⟩
def w_glossbook_Within : Ent Try.prog tb (stlW tb) := ⟨19, [], _, by cbv, by kernel_rfl⟩
def w_pick_Pick : Ent Try.prog tb (stlW tb) := ⟨34, [], _, by cbv, by kernel_rfl⟩
def w_pick_Hit : Ent Try.prog tb (stlW tb) := ⟨35, [], _, by cbv, by kernel_rfl⟩
def w_pick_past : Ent Try.prog tb (stlW tb) := ⟨59, [], _, by cbv, by kernel_rfl⟩
def w_glossbook_Same_string : Ent Try.prog tb (stlW tb) := ⟨51, [(6, .go 0 true (.go 1 true (.go 2 true (.go 3 true (.go 4 true (.go 5 true (.go 6 true (.go 7 true (.go 8 true (.done))))))))))], _, by cbv, by kernel_rfl⟩
end Go.Proofs.Ytpoegfkajdbplaa
namespace Go.Proofs.Ytpoegfkajdbplaa
open Go.Dm Go.Dm.Sx
set_option linter.unusedVariables false
def tyL : List (Option Ty) := [none, none, some (.int .i64), some (.int .i64), some (.bool), some (.int .u8), some (.int .u8), none, none, some (.str), some (.str), some (.str), some (.int .u64), none, none, none, none, none, none, none, none, some (.int .i32), some (.list (.str)), some (.cpl), none, none, none, none, none, none, some (.list (.int .i64)), some (.list (.cpl)), none, none, none, none, none, none, none, none, none, none, none, none, some (.list (.int .u8)), none, none, none, none, none, none, none, none, none, some (.list (.list (.int .u8))), none, none, none, none, none, none, none, none, none, some (.list (.list (.int .i64))), some (.int .u64), none, none, some (.list (.base 0)), none, some (.base 0), none, some (.base 1), some (.list (.base 2)), none, some (.base 3), none, none, none, some (.base 4), none, none, none, none, none, none, none, none, some (.flo), none, none, none, none, none, none, none, none, none, none, none, none, none, none, none, none, none, none, some (.list (.bool)), none, none, none, none, none, none, none, none, some (.int .u32), some (.int .u64), none, some (.opt (.int .i64)), none, none, none, none, some (.base 2), none, none, none, none, none, none, none, none, none, none, none, none, none, none, none, none, none, none, none, none, none, none, none, none, none, none, none, none, none, none, none, none, none, none, none, none, none, none, none, none, none, none, none, none, none, none, none, none, none, none, none, none, none, none, none, none, none, none, none, none, none, none, none, none, none, none, none, none, none, none, some (.int .u8), some (.int .u8), none, some (.opt (.int .u8)), some (.int .i32), some (.int .i32), none, none, none]
def tyO (t : Nat) : Option Ty := match nth tyL t with | some x => x | none => none
end Go.Proofs.Ytpoegfkajdbplaa
