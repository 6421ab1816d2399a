/- The table of the types, as plain facts. -/
import Derived.Test.YtdclkdcgcfkopaaDoorProg
import Derived.Test.YtdclkdcgcfkopaaDoorFhDrawGo
import Derived.KernelRfl
namespace Go.Proofs.YtdclkdcgcfkopaaDoor
open Go.Fh
theorem ti1 : tinfo Tryd.prog 1 = some { k := .other, size := 1, bytes := 8, zero := some [.nilfn] } := by kernel_rfl
theorem ti2 : tinfo Tryd.prog 2 = some { k := .int .i64, size := 1, bytes := 8, zero := some [.int .i64 0] } := by kernel_rfl
theorem ti3 : tinfo Tryd.prog 3 = some { k := .int .i64, size := 1, bytes := 8, zero := some [.int .i64 0] } := by kernel_rfl
theorem ti4 : tinfo Tryd.prog 4 = some { k := .bool, size := 1, bytes := 1, zero := some [.bool false] } := by kernel_rfl
theorem ti5 : tinfo Tryd.prog 5 = some { k := .int .u8, size := 1, bytes := 1, zero := some [.int .u8 0] } := by kernel_rfl
theorem ti6 : tinfo Tryd.prog 6 = some { k := .int .u8, size := 1, bytes := 1, zero := some [.int .u8 0] } := by kernel_rfl
theorem ti7 : tinfo Tryd.prog 7 = some { k := .struct [(0, 2), (1, 3), (2, 4), (3, 6)], size := 4, bytes := 24, zero := some [.int .i64 0, .int .i64 0, .bool false, .int .u8 0] } := by kernel_rfl
theorem ti8 : tinfo Tryd.prog 8 = some { k := .struct [(0, 2), (1, 3), (2, 4), (3, 6)], size := 4, bytes := 24, zero := some [.int .i64 0, .int .i64 0, .bool false, .int .u8 0] } := by kernel_rfl
theorem ti9 : tinfo Tryd.prog 9 = some { k := .str, size := 1, bytes := 16, zero := some [.str []] } := by kernel_rfl
theorem ti10 : tinfo Tryd.prog 10 = some { k := .str, size := 1, bytes := 16, zero := some [.str []] } := by kernel_rfl
theorem ti11 : tinfo Tryd.prog 11 = some { k := .str, size := 1, bytes := 16, zero := some [.str []] } := by kernel_rfl
theorem ti12 : tinfo Tryd.prog 12 = some { k := .int .u64, size := 1, bytes := 8, zero := some [.int .u64 0] } := by kernel_rfl
theorem ti13 : tinfo Tryd.prog 13 = some { k := .struct [(0, 9), (1, 12)], size := 2, bytes := 24, zero := some [.str [], .int .u64 0] } := by kernel_rfl
theorem ti14 : tinfo Tryd.prog 14 = some { k := .struct [(0, 9), (1, 12)], size := 2, bytes := 24, zero := some [.str [], .int .u64 0] } := by kernel_rfl
theorem ti15 : tinfo Tryd.prog 15 = some { k := .ptr, size := 1, bytes := 8, zero := some [.nilptr] } := by kernel_rfl
theorem ti16 : tinfo Tryd.prog 16 = some { k := .ptr, size := 1, bytes := 8, zero := some [.nilptr] } := by kernel_rfl
theorem ti17 : tinfo Tryd.prog 17 = some { k := .ptr, size := 1, bytes := 8, zero := some [.nilptr] } := by kernel_rfl
theorem ti18 : tinfo Tryd.prog 18 = some { k := .struct [(0, 17)], size := 1, bytes := 8, zero := some [.nilptr] } := by kernel_rfl
theorem ti19 : tinfo Tryd.prog 19 = some { k := .struct [(0, 17)], size := 1, bytes := 8, zero := some [.nilptr] } := by kernel_rfl
theorem ti20 : tinfo Tryd.prog 20 = some { k := .iface, size := 1, bytes := 16, zero := some [.niliface] } := by kernel_rfl
theorem ti21 : tinfo Tryd.prog 21 = some { k := .int .i32, size := 1, bytes := 4, zero := some [.int .i32 0] } := by kernel_rfl
theorem ti22 : tinfo Tryd.prog 22 = some { k := .slice 43, size := 1, bytes := 24, zero := some [.list .full []] } := by kernel_rfl
theorem ti23 : tinfo Tryd.prog 23 = some { k := .slice 47, size := 1, bytes := 24, zero := some [.list .full []] } := by kernel_rfl
theorem ti24 : tinfo Tryd.prog 24 = some { k := .struct [(0, 22), (1, 23), (2, 3), (3, 3)], size := 4, bytes := 64, zero := some [.list .full [], .list .full [], .int .i64 0, .int .i64 0] } := by kernel_rfl
theorem ti25 : tinfo Tryd.prog 25 = some { k := .struct [(0, 22), (1, 23), (2, 3), (3, 3)], size := 4, bytes := 64, zero := some [.list .full [], .list .full [], .int .i64 0, .int .i64 0] } := by kernel_rfl
theorem ti26 : tinfo Tryd.prog 26 = some { k := .int .i64, size := 1, bytes := 8, zero := some [.int .i64 0] } := by kernel_rfl
theorem ti28 : tinfo Tryd.prog 28 = some { k := .other, size := 1, bytes := 8, zero := some [.nilfn] } := by kernel_rfl
theorem ti29 : tinfo Tryd.prog 29 = some { k := .other, size := 1, bytes := 8, zero := some [.nilfn] } := by kernel_rfl
theorem ti30 : tinfo Tryd.prog 30 = some { k := .slice 9, size := 1, bytes := 24, zero := some [.list .full []] } := by kernel_rfl
theorem ti31 : tinfo Tryd.prog 31 = some { k := .other, size := 1, bytes := 8, zero := some [.nilfn] } := by kernel_rfl
theorem ti32 : tinfo Tryd.prog 32 = some { k := .other, size := 1, bytes := 8, zero := some [.nilfn] } := by kernel_rfl
theorem ti33 : tinfo Tryd.prog 33 = some { k := .other, size := 1, bytes := 8, zero := some [.nilfn] } := by kernel_rfl
theorem ti34 : tinfo Tryd.prog 34 = some { k := .other, size := 1, bytes := 8, zero := some [.nilfn] } := by kernel_rfl
theorem ti35 : tinfo Tryd.prog 35 = some { k := .other, size := 1, bytes := 8, zero := some [.nilfn] } := by kernel_rfl
theorem ti36 : tinfo Tryd.prog 36 = some { k := .ptr, size := 1, bytes := 8, zero := some [.nilptr] } := by kernel_rfl
theorem ti37 : tinfo Tryd.prog 37 = some { k := .struct [(0, 25), (4, 30), (5, 9)], size := 6, bytes := 104, zero := some [.list .full [], .list .full [], .int .i64 0, .int .i64 0, .list .full [], .str []] } := by kernel_rfl
theorem ti38 : tinfo Tryd.prog 38 = some { k := .struct [(0, 25), (4, 30), (5, 9)], size := 6, bytes := 104, zero := some [.list .full [], .list .full [], .int .i64 0, .int .i64 0, .list .full [], .str []] } := by kernel_rfl
theorem ti39 : tinfo Tryd.prog 39 = some { k := .other, size := 1, bytes := 8, zero := some [.nilfn] } := by kernel_rfl
theorem ti40 : tinfo Tryd.prog 40 = some { k := .struct [(0, 3), (1, 3), (2, 3)], size := 3, bytes := 24, zero := some [.int .i64 0, .int .i64 0, .int .i64 0] } := by kernel_rfl
theorem ti41 : tinfo Tryd.prog 41 = some { k := .struct [(0, 3), (1, 3), (2, 3)], size := 3, bytes := 24, zero := some [.int .i64 0, .int .i64 0, .int .i64 0] } := by kernel_rfl
theorem ti42 : tinfo Tryd.prog 42 = some { k := .struct [(0, 9), (1, 41), (4, 3), (5, 3), (6, 3), (7, 3), (8, 3)], size := 9, bytes := 80, zero := some [.str [], .int .i64 0, .int .i64 0, .int .i64 0, .int .i64 0, .int .i64 0, .int .i64 0, .int .i64 0, .int .i64 0] } := by kernel_rfl
theorem ti43 : tinfo Tryd.prog 43 = some { k := .struct [(0, 9), (1, 41), (4, 3), (5, 3), (6, 3), (7, 3), (8, 3)], size := 9, bytes := 80, zero := some [.str [], .int .i64 0, .int .i64 0, .int .i64 0, .int .i64 0, .int .i64 0, .int .i64 0, .int .i64 0, .int .i64 0] } := by kernel_rfl
theorem ti44 : tinfo Tryd.prog 44 = some { k := .slice 3, size := 1, bytes := 24, zero := some [.list .full []] } := by kernel_rfl
theorem ti45 : tinfo Tryd.prog 45 = some { k := .slice 55, size := 1, bytes := 24, zero := some [.list .full []] } := by kernel_rfl
theorem ti46 : tinfo Tryd.prog 46 = some { k := .struct [(0, 44), (1, 45)], size := 2, bytes := 48, zero := some [.list .full [], .list .full []] } := by kernel_rfl
theorem ti47 : tinfo Tryd.prog 47 = some { k := .struct [(0, 44), (1, 45)], size := 2, bytes := 48, zero := some [.list .full [], .list .full []] } := by kernel_rfl
theorem ti48 : tinfo Tryd.prog 48 = some { k := .other, size := 1, bytes := 8, zero := some [.nilfn] } := by kernel_rfl
theorem ti49 : tinfo Tryd.prog 49 = some { k := .other, size := 1, bytes := 8, zero := some [.nilfn] } := by kernel_rfl
theorem ti50 : tinfo Tryd.prog 50 = some { k := .map 9 30, size := 1, bytes := 8, zero := some [.dead] } := by kernel_rfl
theorem ti51 : tinfo Tryd.prog 51 = some { k := .other, size := 1, bytes := 8, zero := some [.nilfn] } := by kernel_rfl
theorem ti52 : tinfo Tryd.prog 52 = some { k := .map 9 51, size := 1, bytes := 8, zero := some [.dead] } := by kernel_rfl
theorem ti53 : tinfo Tryd.prog 53 = some { k := .other, size := 1, bytes := 8, zero := some [.nilfn] } := by kernel_rfl
theorem ti54 : tinfo Tryd.prog 54 = some { k := .struct [(0, 3), (1, 9), (2, 9)], size := 3, bytes := 40, zero := some [.int .i64 0, .str [], .str []] } := by kernel_rfl
theorem ti55 : tinfo Tryd.prog 55 = some { k := .struct [(0, 3), (1, 9), (2, 9)], size := 3, bytes := 40, zero := some [.int .i64 0, .str [], .str []] } := by kernel_rfl
theorem ti56 : tinfo Tryd.prog 56 = some { k := .other, size := 1, bytes := 8, zero := some [.nilfn] } := by kernel_rfl
theorem ti57 : tinfo Tryd.prog 57 = some { k := .other, size := 1, bytes := 8, zero := some [.nilfn] } := by kernel_rfl
theorem ti58 : tinfo Tryd.prog 58 = some { k := .other, size := 1, bytes := 8, zero := some [.nilfn] } := by kernel_rfl
theorem ti59 : tinfo Tryd.prog 59 = some { k := .array 8 3, size := 8, bytes := 64, zero := some [.int .i64 0, .int .i64 0, .int .i64 0, .int .i64 0, .int .i64 0, .int .i64 0, .int .i64 0, .int .i64 0] } := by kernel_rfl
theorem ti61 : tinfo Tryd.prog 61 = some { k := .other, size := 1, bytes := 8, zero := some [.nilfn] } := by kernel_rfl
theorem ti62 : tinfo Tryd.prog 62 = some { k := .other, size := 1, bytes := 8, zero := some [.nilfn] } := by kernel_rfl
theorem ti63 : tinfo Tryd.prog 63 = some { k := .other, size := 1, bytes := 8, zero := some [.nilfn] } := by kernel_rfl
theorem ti65 : tinfo Tryd.prog 65 = some { k := .other, size := 1, bytes := 8, zero := some [.nilfn] } := by kernel_rfl
theorem ti66 : tinfo Tryd.prog 66 = some { k := .other, size := 1, bytes := 8, zero := some [.nilfn] } := by kernel_rfl
theorem ti67 : tinfo Tryd.prog 67 = some { k := .other, size := 1, bytes := 8, zero := some [.nilfn] } := by kernel_rfl
theorem ti68 : tinfo Tryd.prog 68 = some { k := .ptr, size := 1, bytes := 8, zero := some [.nilptr] } := by kernel_rfl
theorem ti69 : tinfo Tryd.prog 69 = some { k := .other, size := 1, bytes := 8, zero := some [.nilfn] } := by kernel_rfl
theorem ti71 : tinfo Tryd.prog 71 = some { k := .other, size := 1, bytes := 8, zero := some [.nilfn] } := by kernel_rfl
theorem ti72 : tinfo Tryd.prog 72 = some { k := .other, size := 1, bytes := 8, zero := some [.nilfn] } := by kernel_rfl
theorem ti73 : tinfo Tryd.prog 73 = some { k := .other, size := 1, bytes := 8, zero := some [.nilfn] } := by kernel_rfl
theorem ti74 : tinfo Tryd.prog 74 = some { k := .iface, size := 1, bytes := 16, zero := some [.niliface] } := by kernel_rfl
theorem ti75 : tinfo Tryd.prog 75 = some { k := .iface, size := 1, bytes := 16, zero := some [.niliface] } := by kernel_rfl
theorem ti77 : tinfo Tryd.prog 77 = some { k := .other, size := 1, bytes := 8, zero := some [.nilfn] } := by kernel_rfl
theorem ti78 : tinfo Tryd.prog 78 = some { k := .other, size := 1, bytes := 8, zero := some [.nilfn] } := by kernel_rfl
theorem ti79 : tinfo Tryd.prog 79 = some { k := .other, size := 1, bytes := 8, zero := some [.nilfn] } := by kernel_rfl
theorem ti80 : tinfo Tryd.prog 80 = some { k := .struct [(0, 3), (1, 3), (2, 3), (3, 3), (4, 3)], size := 5, bytes := 40, zero := some [.int .i64 0, .int .i64 0, .int .i64 0, .int .i64 0, .int .i64 0] } := by kernel_rfl
theorem ti81 : tinfo Tryd.prog 81 = some { k := .struct [(0, 3), (1, 3), (2, 3), (3, 3), (4, 3)], size := 5, bytes := 40, zero := some [.int .i64 0, .int .i64 0, .int .i64 0, .int .i64 0, .int .i64 0] } := by kernel_rfl
theorem ti83 : tinfo Tryd.prog 83 = some { k := .other, size := 1, bytes := 8, zero := some [.nilfn] } := by kernel_rfl
theorem ti84 : tinfo Tryd.prog 84 = some { k := .struct [(0, 3), (1, 3), (2, 3), (3, 3)], size := 4, bytes := 32, zero := some [.int .i64 0, .int .i64 0, .int .i64 0, .int .i64 0] } := by kernel_rfl
theorem ti85 : tinfo Tryd.prog 85 = some { k := .struct [(0, 3), (1, 3), (2, 3), (3, 3)], size := 4, bytes := 32, zero := some [.int .i64 0, .int .i64 0, .int .i64 0, .int .i64 0] } := by kernel_rfl
theorem ti87 : tinfo Tryd.prog 87 = some { k := .other, size := 1, bytes := 8, zero := some [.nilfn] } := by kernel_rfl
theorem ti88 : tinfo Tryd.prog 88 = some { k := .other, size := 1, bytes := 8, zero := some [.nilfn] } := by kernel_rfl
theorem ti89 : tinfo Tryd.prog 89 = some { k := .other, size := 1, bytes := 8, zero := some [.nilfn] } := by kernel_rfl
theorem ti90 : tinfo Tryd.prog 90 = some { k := .map 3 3, size := 1, bytes := 8, zero := some [.dead] } := by kernel_rfl
theorem ti91 : tinfo Tryd.prog 91 = some { k := .other, size := 1, bytes := 8, zero := some [.nilfn] } := by kernel_rfl
theorem ti92 : tinfo Tryd.prog 92 = some { k := .other, size := 1, bytes := 8, zero := some [.nilfn] } := by kernel_rfl
theorem ti93 : tinfo Tryd.prog 93 = some { k := .int .u64, size := 1, bytes := 8, zero := some [.int .u64 0] } := by kernel_rfl
theorem ti94 : tinfo Tryd.prog 94 = some { k := .other, size := 1, bytes := 8, zero := some [.nilfn] } := by kernel_rfl
theorem ti95 : tinfo Tryd.prog 95 = some { k := .other, size := 1, bytes := 8, zero := some [.nilfn] } := by kernel_rfl
theorem ti96 : tinfo Tryd.prog 96 = some { k := .other, size := 1, bytes := 8, zero := some [.nilfn] } := by kernel_rfl
theorem ti97 : tinfo Tryd.prog 97 = some { k := .other, size := 1, bytes := 8, zero := some [.nilfn] } := by kernel_rfl
theorem ti98 : tinfo Tryd.prog 98 = some { k := .other, size := 1, bytes := 8, zero := some [.nilfn] } := by kernel_rfl
theorem ti99 : tinfo Tryd.prog 99 = some { k := .other, size := 1, bytes := 8, zero := some [.nilfn] } := by kernel_rfl
theorem ti103 : tinfo Tryd.prog 103 = some { k := .other, size := 1, bytes := 8, zero := some [.nilfn] } := by kernel_rfl
theorem ti104 : tinfo Tryd.prog 104 = some { k := .other, size := 1, bytes := 8, zero := some [.nilfn] } := by kernel_rfl
theorem ti105 : tinfo Tryd.prog 105 = some { k := .other, size := 1, bytes := 8, zero := some [.nilfn] } := by kernel_rfl
theorem ti107 : tinfo Tryd.prog 107 = some { k := .struct [(0, 5), (1, 5)], size := 2, bytes := 2, zero := some [.int .u8 0, .int .u8 0] } := by kernel_rfl
theorem ti108 : tinfo Tryd.prog 108 = some { k := .struct [(0, 5), (1, 5)], size := 2, bytes := 2, zero := some [.int .u8 0, .int .u8 0] } := by kernel_rfl
theorem ti109 : tinfo Tryd.prog 109 = some { k := .array 16 108, size := 32, bytes := 32, zero := some [.int .u8 0, .int .u8 0, .int .u8 0, .int .u8 0, .int .u8 0, .int .u8 0, .int .u8 0, .int .u8 0, .int .u8 0, .int .u8 0, .int .u8 0, .int .u8 0, .int .u8 0, .int .u8 0, .int .u8 0, .int .u8 0, .int .u8 0, .int .u8 0, .int .u8 0, .int .u8 0, .int .u8 0, .int .u8 0, .int .u8 0, .int .u8 0, .int .u8 0, .int .u8 0, .int .u8 0, .int .u8 0, .int .u8 0, .int .u8 0, .int .u8 0, .int .u8 0] } := by kernel_rfl
theorem ti110 : tinfo Tryd.prog 110 = some { k := .int .u32, size := 1, bytes := 4, zero := some [.int .u32 0] } := by kernel_rfl
theorem ti112 : tinfo Tryd.prog 112 = some { k := .other, size := 1, bytes := 8, zero := some [.nilfn] } := by kernel_rfl
theorem ti113 : tinfo Tryd.prog 113 = some { k := .int .i64, size := 1, bytes := 8, zero := some [.int .i64 0] } := by kernel_rfl
theorem ti114 : tinfo Tryd.prog 114 = some { k := .slice 5, size := 1, bytes := 24, zero := some [.list .full []] } := by kernel_rfl
theorem ti116 : tinfo Tryd.prog 116 = some { k := .other, size := 1, bytes := 8, zero := some [.nilfn] } := by kernel_rfl
theorem ti117 : tinfo Tryd.prog 117 = some { k := .ptr, size := 1, bytes := 8, zero := some [.nilptr] } := by kernel_rfl
theorem ti118 : tinfo Tryd.prog 118 = some { k := .other, size := 1, bytes := 8, zero := some [.nilfn] } := by kernel_rfl
theorem ti119 : tinfo Tryd.prog 119 = some { k := .other, size := 1, bytes := 8, zero := some [.nilfn] } := by kernel_rfl
theorem ti120 : tinfo Tryd.prog 120 = some { k := .other, size := 1, bytes := 8, zero := some [.nilfn] } := by kernel_rfl
theorem ti121 : tinfo Tryd.prog 121 = some { k := .other, size := 1, bytes := 8, zero := some [.nilfn] } := by kernel_rfl
theorem ti122 : tinfo Tryd.prog 122 = some { k := .ptr, size := 1, bytes := 8, zero := some [.nilptr] } := by kernel_rfl
theorem ti123 : tinfo Tryd.prog 123 = some { k := .int .u64, size := 1, bytes := 8, zero := some [.int .u64 0] } := by kernel_rfl
theorem ti125 : tinfo Tryd.prog 125 = some { k := .other, size := 1, bytes := 8, zero := some [.nilfn] } := by kernel_rfl
theorem ti126 : tinfo Tryd.prog 126 = some { k := .other, size := 1, bytes := 8, zero := some [.nilfn] } := by kernel_rfl
theorem ti127 : tinfo Tryd.prog 127 = some { k := .struct [(0, 9), (1, 9), (2, 75)], size := 3, bytes := 48, zero := some [.str [], .str [], .niliface] } := by kernel_rfl
theorem ti128 : tinfo Tryd.prog 128 = some { k := .struct [(0, 9), (1, 9), (2, 75)], size := 3, bytes := 48, zero := some [.str [], .str [], .niliface] } := by kernel_rfl
theorem ti129 : tinfo Tryd.prog 129 = some { k := .other, size := 1, bytes := 8, zero := some [.nilfn] } := by kernel_rfl
theorem ti130 : tinfo Tryd.prog 130 = some { k := .array 24 5, size := 24, bytes := 24, zero := some [.int .u8 0, .int .u8 0, .int .u8 0, .int .u8 0, .int .u8 0, .int .u8 0, .int .u8 0, .int .u8 0, .int .u8 0, .int .u8 0, .int .u8 0, .int .u8 0, .int .u8 0, .int .u8 0, .int .u8 0, .int .u8 0, .int .u8 0, .int .u8 0, .int .u8 0, .int .u8 0, .int .u8 0, .int .u8 0, .int .u8 0, .int .u8 0] } := by kernel_rfl
theorem ti131 : tinfo Tryd.prog 131 = some { k := .other, size := 1, bytes := 8, zero := some [.nilfn] } := by kernel_rfl
theorem ti132 : tinfo Tryd.prog 132 = some { k := .other, size := 1, bytes := 8, zero := some [.nilfn] } := by kernel_rfl
theorem ti134 : tinfo Tryd.prog 134 = some { k := .other, size := 1, bytes := 8, zero := some [.nilfn] } := by kernel_rfl
theorem ti135 : tinfo Tryd.prog 135 = some { k := .other, size := 1, bytes := 8, zero := some [.nilfn] } := by kernel_rfl
theorem ti136 : tinfo Tryd.prog 136 = some { k := .ptr, size := 1, bytes := 8, zero := some [.nilptr] } := by kernel_rfl
theorem ti137 : tinfo Tryd.prog 137 = some { k := .ptr, size := 1, bytes := 8, zero := some [.nilptr] } := by kernel_rfl
theorem ti138 : tinfo Tryd.prog 138 = some { k := .struct [(0, 9)], size := 1, bytes := 16, zero := some [.str []] } := by kernel_rfl
theorem ti139 : tinfo Tryd.prog 139 = some { k := .struct [(0, 9)], size := 1, bytes := 16, zero := some [.str []] } := by kernel_rfl
theorem ti140 : tinfo Tryd.prog 140 = some { k := .other, size := 1, bytes := 8, zero := some [.nilfn] } := by kernel_rfl
theorem ti141 : tinfo Tryd.prog 141 = some { k := .array 20 123, size := 20, bytes := 160, zero := some [.int .u64 0, .int .u64 0, .int .u64 0, .int .u64 0, .int .u64 0, .int .u64 0, .int .u64 0, .int .u64 0, .int .u64 0, .int .u64 0, .int .u64 0, .int .u64 0, .int .u64 0, .int .u64 0, .int .u64 0, .int .u64 0, .int .u64 0, .int .u64 0, .int .u64 0, .int .u64 0] } := by kernel_rfl
theorem ti142 : tinfo Tryd.prog 142 = some { k := .array 65 5, size := 65, bytes := 65, zero := some [.int .u8 0, .int .u8 0, .int .u8 0, .int .u8 0, .int .u8 0, .int .u8 0, .int .u8 0, .int .u8 0, .int .u8 0, .int .u8 0, .int .u8 0, .int .u8 0, .int .u8 0, .int .u8 0, .int .u8 0, .int .u8 0, .int .u8 0, .int .u8 0, .int .u8 0, .int .u8 0, .int .u8 0, .int .u8 0, .int .u8 0, .int .u8 0, .int .u8 0, .int .u8 0, .int .u8 0, .int .u8 0, .int .u8 0, .int .u8 0, .int .u8 0, .int .u8 0, .int .u8 0, .int .u8 0, .int .u8 0, .int .u8 0, .int .u8 0, .int .u8 0, .int .u8 0, .int .u8 0, .int .u8 0, .int .u8 0, .int .u8 0, .int .u8 0, .int .u8 0, .int .u8 0, .int .u8 0, .int .u8 0, .int .u8 0, .int .u8 0, .int .u8 0, .int .u8 0, .int .u8 0, .int .u8 0, .int .u8 0, .int .u8 0, .int .u8 0, .int .u8 0, .int .u8 0, .int .u8 0, .int .u8 0, .int .u8 0, .int .u8 0, .int .u8 0, .int .u8 0] } := by kernel_rfl
theorem ti143 : tinfo Tryd.prog 143 = some { k := .other, size := 1, bytes := 8, zero := some [.nilfn] } := by kernel_rfl
theorem ti144 : tinfo Tryd.prog 144 = some { k := .other, size := 1, bytes := 8, zero := some [.nilfn] } := by kernel_rfl
theorem ti145 : tinfo Tryd.prog 145 = some { k := .array 32 5, size := 32, bytes := 32, zero := some [.int .u8 0, .int .u8 0, .int .u8 0, .int .u8 0, .int .u8 0, .int .u8 0, .int .u8 0, .int .u8 0, .int .u8 0, .int .u8 0, .int .u8 0, .int .u8 0, .int .u8 0, .int .u8 0, .int .u8 0, .int .u8 0, .int .u8 0, .int .u8 0, .int .u8 0, .int .u8 0, .int .u8 0, .int .u8 0, .int .u8 0, .int .u8 0, .int .u8 0, .int .u8 0, .int .u8 0, .int .u8 0, .int .u8 0, .int .u8 0, .int .u8 0, .int .u8 0] } := by kernel_rfl
theorem ti146 : tinfo Tryd.prog 146 = some { k := .array 64 5, size := 64, bytes := 64, zero := some [.int .u8 0, .int .u8 0, .int .u8 0, .int .u8 0, .int .u8 0, .int .u8 0, .int .u8 0, .int .u8 0, .int .u8 0, .int .u8 0, .int .u8 0, .int .u8 0, .int .u8 0, .int .u8 0, .int .u8 0, .int .u8 0, .int .u8 0, .int .u8 0, .int .u8 0, .int .u8 0, .int .u8 0, .int .u8 0, .int .u8 0, .int .u8 0, .int .u8 0, .int .u8 0, .int .u8 0, .int .u8 0, .int .u8 0, .int .u8 0, .int .u8 0, .int .u8 0, .int .u8 0, .int .u8 0, .int .u8 0, .int .u8 0, .int .u8 0, .int .u8 0, .int .u8 0, .int .u8 0, .int .u8 0, .int .u8 0, .int .u8 0, .int .u8 0, .int .u8 0, .int .u8 0, .int .u8 0, .int .u8 0, .int .u8 0, .int .u8 0, .int .u8 0, .int .u8 0, .int .u8 0, .int .u8 0, .int .u8 0, .int .u8 0, .int .u8 0, .int .u8 0, .int .u8 0, .int .u8 0, .int .u8 0, .int .u8 0, .int .u8 0, .int .u8 0] } := by kernel_rfl
theorem ti147 : tinfo Tryd.prog 147 = some { k := .other, size := 1, bytes := 8, zero := some [.nilfn] } := by kernel_rfl
theorem ti148 : tinfo Tryd.prog 148 = some { k := .struct [(0, 17), (1, 17), (2, 17), (3, 9)], size := 4, bytes := 40, zero := some [.nilptr, .nilptr, .nilptr, .str []] } := by kernel_rfl
theorem ti149 : tinfo Tryd.prog 149 = some { k := .struct [(0, 17), (1, 17), (2, 17), (3, 9)], size := 4, bytes := 40, zero := some [.nilptr, .nilptr, .nilptr, .str []] } := by kernel_rfl
theorem ti150 : tinfo Tryd.prog 150 = some { k := .array 0 16, size := 0, bytes := 0, zero := some [] } := by kernel_rfl
theorem ti151 : tinfo Tryd.prog 151 = some { k := .struct [(0, 150)], size := 0, bytes := 0, zero := some [] } := by kernel_rfl
theorem ti152 : tinfo Tryd.prog 152 = some { k := .struct [(0, 150)], size := 0, bytes := 0, zero := some [] } := by kernel_rfl
theorem ti153 : tinfo Tryd.prog 153 = some { k := .other, size := 1, bytes := 8, zero := some [.nilfn] } := by kernel_rfl
theorem ti154 : tinfo Tryd.prog 154 = some { k := .int .u8, size := 1, bytes := 1, zero := some [.int .u8 0] } := by kernel_rfl
theorem ti155 : tinfo Tryd.prog 155 = some { k := .int .u8, size := 1, bytes := 1, zero := some [.int .u8 0] } := by kernel_rfl
theorem ti156 : tinfo Tryd.prog 156 = some { k := .other, size := 1, bytes := 8, zero := some [.nilfn] } := by kernel_rfl
theorem ti157 : tinfo Tryd.prog 157 = some { k := .int .i32, size := 1, bytes := 4, zero := some [.int .i32 0] } := by kernel_rfl
theorem ti158 : tinfo Tryd.prog 158 = some { k := .int .i32, size := 1, bytes := 4, zero := some [.int .i32 0] } := by kernel_rfl
theorem ti159 : tinfo Tryd.prog 159 = some { k := .struct [(0, 12), (1, 12), (2, 110), (3, 154), (4, 5), (5, 5), (6, 155), (7, 156), (8, 136), (9, 157), (10, 158)], size := 11, bytes := 48, zero := some [.int .u64 0, .int .u64 0, .int .u32 0, .int .u8 0, .int .u8 0, .int .u8 0, .int .u8 0, .nilfn, .nilptr, .int .i32 0, .int .i32 0] } := by kernel_rfl
theorem ti160 : tinfo Tryd.prog 160 = some { k := .struct [(0, 12), (1, 12), (2, 110), (3, 154), (4, 5), (5, 5), (6, 155), (7, 156), (8, 136), (9, 157), (10, 158)], size := 11, bytes := 48, zero := some [.int .u64 0, .int .u64 0, .int .u32 0, .int .u8 0, .int .u8 0, .int .u8 0, .int .u8 0, .nilfn, .nilptr, .int .i32 0, .int .i32 0] } := by kernel_rfl
theorem ti161 : tinfo Tryd.prog 161 = some { k := .other, size := 1, bytes := 8, zero := some [.nilptr] } := by kernel_rfl
attribute [simp] ti1 ti2 ti3 ti4 ti5 ti6 ti7 ti8 ti9 ti10 ti11 ti12 ti13 ti14 ti15 ti16 ti17 ti18 ti19 ti20 ti21 ti22 ti23 ti24 ti25 ti26 ti28 ti29 ti30 ti31 ti32 ti33 ti34 ti35 ti36 ti37 ti38 ti39 ti40 ti41 ti42 ti43 ti44 ti45 ti46 ti47 ti48 ti49 ti50 ti51 ti52 ti53 ti54 ti55 ti56 ti57 ti58 ti59 ti61 ti62 ti63 ti65 ti66 ti67 ti68 ti69 ti71 ti72 ti73 ti74 ti75 ti77 ti78 ti79 ti80 ti81 ti83 ti84 ti85 ti87 ti88 ti89 ti90 ti91 ti92 ti93 ti94 ti95 ti96 ti97 ti98 ti99 ti103 ti104 ti105 ti107 ti108 ti109 ti110 ti112 ti113 ti114 ti116 ti117 ti118 ti119 ti120 ti121 ti122 ti123 ti125 ti126 ti127 ti128 ti129 ti130 ti131 ti132 ti134 ti135 ti136 ti137 ti138 ti139 ti140 ti141 ti142 ti143 ti144 ti145 ti146 ti147 ti148 ti149 ti150 ti151 ti152 ti153 ti154 ti155 ti156 ti157 ti158 ti159 ti160 ti161
theorem eo41 : eqOk Tryd.prog 41 = true := by kernel_rfl
theorem eo43 : eqOk Tryd.prog 43 = true := by kernel_rfl
theorem eo55 : eqOk Tryd.prog 55 = true := by kernel_rfl
theorem eo81 : eqOk Tryd.prog 81 = true := by kernel_rfl
theorem eo85 : eqOk Tryd.prog 85 = true := by kernel_rfl
attribute [simp] eo41 eo43 eo55 eo81 eo85
end Go.Proofs.YtdclkdcgcfkopaaDoor
