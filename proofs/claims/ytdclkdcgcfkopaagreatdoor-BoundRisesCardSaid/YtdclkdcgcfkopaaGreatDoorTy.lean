/- The table of the types, as plain facts. -/
import Derived.Test.YtdclkdcgcfkopaaGreatDoorProg
import Derived.Test.YtdclkdcgcfkopaaGreatDoorFhDrawGo
import Derived.KernelRfl
namespace Go.Proofs.YtdclkdcgcfkopaaGreatDoor
open Go.Fh
theorem ti1 : tinfo Tryz.prog 1 = some { k := .other, size := 1, bytes := 8, zero := some [.nilfn] } := by kernel_rfl
theorem ti2 : tinfo Tryz.prog 2 = some { k := .int .i64, size := 1, bytes := 8, zero := some [.int .i64 0] } := by kernel_rfl
theorem ti3 : tinfo Tryz.prog 3 = some { k := .int .i64, size := 1, bytes := 8, zero := some [.int .i64 0] } := by kernel_rfl
theorem ti4 : tinfo Tryz.prog 4 = some { k := .bool, size := 1, bytes := 1, zero := some [.bool false] } := by kernel_rfl
theorem ti5 : tinfo Tryz.prog 5 = some { k := .int .u8, size := 1, bytes := 1, zero := some [.int .u8 0] } := by kernel_rfl
theorem ti6 : tinfo Tryz.prog 6 = some { k := .int .u8, size := 1, bytes := 1, zero := some [.int .u8 0] } := by kernel_rfl
theorem ti7 : tinfo Tryz.prog 7 = some { k := .struct [(0, 2), (1, 3), (2, 4), (3, 6)], size := 4, bytes := 24, zero := some [.int .i64 0, .int .i64 0, .bool false, .int .u8 0] } := by kernel_rfl
theorem ti8 : tinfo Tryz.prog 8 = some { k := .struct [(0, 2), (1, 3), (2, 4), (3, 6)], size := 4, bytes := 24, zero := some [.int .i64 0, .int .i64 0, .bool false, .int .u8 0] } := by kernel_rfl
theorem ti9 : tinfo Tryz.prog 9 = some { k := .str, size := 1, bytes := 16, zero := some [.str []] } := by kernel_rfl
theorem ti10 : tinfo Tryz.prog 10 = some { k := .str, size := 1, bytes := 16, zero := some [.str []] } := by kernel_rfl
theorem ti11 : tinfo Tryz.prog 11 = some { k := .str, size := 1, bytes := 16, zero := some [.str []] } := by kernel_rfl
theorem ti12 : tinfo Tryz.prog 12 = some { k := .int .u64, size := 1, bytes := 8, zero := some [.int .u64 0] } := by kernel_rfl
theorem ti13 : tinfo Tryz.prog 13 = some { k := .struct [(0, 9), (1, 12)], size := 2, bytes := 24, zero := some [.str [], .int .u64 0] } := by kernel_rfl
theorem ti14 : tinfo Tryz.prog 14 = some { k := .struct [(0, 9), (1, 12)], size := 2, bytes := 24, zero := some [.str [], .int .u64 0] } := by kernel_rfl
theorem ti15 : tinfo Tryz.prog 15 = some { k := .ptr, size := 1, bytes := 8, zero := some [.nilptr] } := by kernel_rfl
theorem ti16 : tinfo Tryz.prog 16 = some { k := .ptr, size := 1, bytes := 8, zero := some [.nilptr] } := by kernel_rfl
theorem ti17 : tinfo Tryz.prog 17 = some { k := .ptr, size := 1, bytes := 8, zero := some [.nilptr] } := by kernel_rfl
theorem ti18 : tinfo Tryz.prog 18 = some { k := .struct [(0, 17)], size := 1, bytes := 8, zero := some [.nilptr] } := by kernel_rfl
theorem ti19 : tinfo Tryz.prog 19 = some { k := .struct [(0, 17)], size := 1, bytes := 8, zero := some [.nilptr] } := by kernel_rfl
theorem ti20 : tinfo Tryz.prog 20 = some { k := .iface, size := 1, bytes := 16, zero := some [.niliface] } := by kernel_rfl
theorem ti21 : tinfo Tryz.prog 21 = some { k := .int .i32, size := 1, bytes := 4, zero := some [.int .i32 0] } := by kernel_rfl
theorem ti22 : tinfo Tryz.prog 22 = some { k := .slice 45, size := 1, bytes := 24, zero := some [.list .full []] } := by kernel_rfl
theorem ti23 : tinfo Tryz.prog 23 = some { k := .slice 90, size := 1, bytes := 24, zero := some [.list .full []] } := by kernel_rfl
theorem ti24 : tinfo Tryz.prog 24 = some { k := .struct [(0, 22), (1, 23), (2, 3), (3, 3)], size := 4, bytes := 64, zero := some [.list .full [], .list .full [], .int .i64 0, .int .i64 0] } := by kernel_rfl
theorem ti25 : tinfo Tryz.prog 25 = some { k := .struct [(0, 22), (1, 23), (2, 3), (3, 3)], size := 4, bytes := 64, zero := some [.list .full [], .list .full [], .int .i64 0, .int .i64 0] } := by kernel_rfl
theorem ti26 : tinfo Tryz.prog 26 = some { k := .int .i64, size := 1, bytes := 8, zero := some [.int .i64 0] } := by kernel_rfl
theorem ti28 : tinfo Tryz.prog 28 = some { k := .other, size := 1, bytes := 8, zero := some [.nilfn] } := by kernel_rfl
theorem ti29 : tinfo Tryz.prog 29 = some { k := .other, size := 1, bytes := 8, zero := some [.nilfn] } := by kernel_rfl
theorem ti30 : tinfo Tryz.prog 30 = some { k := .other, size := 1, bytes := 8, zero := some [.nilfn] } := by kernel_rfl
theorem ti31 : tinfo Tryz.prog 31 = some { k := .other, size := 1, bytes := 8, zero := some [.nilfn] } := by kernel_rfl
theorem ti32 : tinfo Tryz.prog 32 = some { k := .other, size := 1, bytes := 8, zero := some [.nilfn] } := by kernel_rfl
theorem ti34 : tinfo Tryz.prog 34 = some { k := .other, size := 1, bytes := 8, zero := some [.nilfn] } := by kernel_rfl
theorem ti35 : tinfo Tryz.prog 35 = some { k := .other, size := 1, bytes := 8, zero := some [.nilfn] } := by kernel_rfl
theorem ti36 : tinfo Tryz.prog 36 = some { k := .other, size := 1, bytes := 8, zero := some [.nilfn] } := by kernel_rfl
theorem ti37 : tinfo Tryz.prog 37 = some { k := .other, size := 1, bytes := 8, zero := some [.nilfn] } := by kernel_rfl
theorem ti38 : tinfo Tryz.prog 38 = some { k := .other, size := 1, bytes := 8, zero := some [.nilfn] } := by kernel_rfl
theorem ti39 : tinfo Tryz.prog 39 = some { k := .other, size := 1, bytes := 8, zero := some [.nilfn] } := by kernel_rfl
theorem ti40 : tinfo Tryz.prog 40 = some { k := .other, size := 1, bytes := 8, zero := some [.nilfn] } := by kernel_rfl
theorem ti41 : tinfo Tryz.prog 41 = some { k := .other, size := 1, bytes := 8, zero := some [.nilfn] } := by kernel_rfl
theorem ti42 : tinfo Tryz.prog 42 = some { k := .struct [(0, 3), (1, 3), (2, 3)], size := 3, bytes := 24, zero := some [.int .i64 0, .int .i64 0, .int .i64 0] } := by kernel_rfl
theorem ti43 : tinfo Tryz.prog 43 = some { k := .struct [(0, 3), (1, 3), (2, 3)], size := 3, bytes := 24, zero := some [.int .i64 0, .int .i64 0, .int .i64 0] } := by kernel_rfl
theorem ti44 : tinfo Tryz.prog 44 = some { k := .struct [(0, 9), (1, 43), (4, 3), (5, 3), (6, 3), (7, 3), (8, 3)], size := 9, bytes := 80, zero := some [.str [], .int .i64 0, .int .i64 0, .int .i64 0, .int .i64 0, .int .i64 0, .int .i64 0, .int .i64 0, .int .i64 0] } := by kernel_rfl
theorem ti45 : tinfo Tryz.prog 45 = some { k := .struct [(0, 9), (1, 43), (4, 3), (5, 3), (6, 3), (7, 3), (8, 3)], size := 9, bytes := 80, zero := some [.str [], .int .i64 0, .int .i64 0, .int .i64 0, .int .i64 0, .int .i64 0, .int .i64 0, .int .i64 0, .int .i64 0] } := by kernel_rfl
theorem ti47 : tinfo Tryz.prog 47 = some { k := .other, size := 1, bytes := 8, zero := some [.nilfn] } := by kernel_rfl
theorem ti48 : tinfo Tryz.prog 48 = some { k := .other, size := 1, bytes := 8, zero := some [.nilfn] } := by kernel_rfl
theorem ti49 : tinfo Tryz.prog 49 = some { k := .other, size := 1, bytes := 8, zero := some [.nilfn] } := by kernel_rfl
theorem ti50 : tinfo Tryz.prog 50 = some { k := .slice 77, size := 1, bytes := 24, zero := some [.list .full []] } := by kernel_rfl
theorem ti51 : tinfo Tryz.prog 51 = some { k := .slice 59, size := 1, bytes := 24, zero := some [.list .full []] } := by kernel_rfl
theorem ti52 : tinfo Tryz.prog 52 = some { k := .struct [(0, 3), (1, 3), (2, 51)], size := 3, bytes := 40, zero := some [.int .i64 0, .int .i64 0, .list .full []] } := by kernel_rfl
theorem ti53 : tinfo Tryz.prog 53 = some { k := .struct [(0, 3), (1, 3), (2, 51)], size := 3, bytes := 40, zero := some [.int .i64 0, .int .i64 0, .list .full []] } := by kernel_rfl
theorem ti54 : tinfo Tryz.prog 54 = some { k := .struct [(0, 3), (1, 50), (2, 53)], size := 5, bytes := 72, zero := some [.int .i64 0, .list .full [], .int .i64 0, .int .i64 0, .list .full []] } := by kernel_rfl
theorem ti55 : tinfo Tryz.prog 55 = some { k := .struct [(0, 3), (1, 50), (2, 53)], size := 5, bytes := 72, zero := some [.int .i64 0, .list .full [], .int .i64 0, .int .i64 0, .list .full []] } := by kernel_rfl
theorem ti57 : tinfo Tryz.prog 57 = some { k := .other, size := 1, bytes := 8, zero := some [.nilfn] } := by kernel_rfl
theorem ti58 : tinfo Tryz.prog 58 = some { k := .struct [(0, 3), (1, 9), (2, 9)], size := 3, bytes := 40, zero := some [.int .i64 0, .str [], .str []] } := by kernel_rfl
theorem ti59 : tinfo Tryz.prog 59 = some { k := .struct [(0, 3), (1, 9), (2, 9)], size := 3, bytes := 40, zero := some [.int .i64 0, .str [], .str []] } := by kernel_rfl
theorem ti61 : tinfo Tryz.prog 61 = some { k := .other, size := 1, bytes := 8, zero := some [.nilfn] } := by kernel_rfl
theorem ti63 : tinfo Tryz.prog 63 = some { k := .other, size := 1, bytes := 8, zero := some [.nilfn] } := by kernel_rfl
theorem ti64 : tinfo Tryz.prog 64 = some { k := .other, size := 1, bytes := 8, zero := some [.nilfn] } := by kernel_rfl
theorem ti65 : tinfo Tryz.prog 65 = some { k := .other, size := 1, bytes := 8, zero := some [.nilfn] } := by kernel_rfl
theorem ti66 : tinfo Tryz.prog 66 = some { k := .other, size := 1, bytes := 8, zero := some [.nilfn] } := by kernel_rfl
theorem ti67 : tinfo Tryz.prog 67 = some { k := .other, size := 1, bytes := 8, zero := some [.nilfn] } := by kernel_rfl
theorem ti68 : tinfo Tryz.prog 68 = some { k := .other, size := 1, bytes := 8, zero := some [.nilfn] } := by kernel_rfl
theorem ti69 : tinfo Tryz.prog 69 = some { k := .other, size := 1, bytes := 8, zero := some [.nilfn] } := by kernel_rfl
theorem ti70 : tinfo Tryz.prog 70 = some { k := .other, size := 1, bytes := 8, zero := some [.nilfn] } := by kernel_rfl
theorem ti71 : tinfo Tryz.prog 71 = some { k := .other, size := 1, bytes := 8, zero := some [.nilfn] } := by kernel_rfl
theorem ti72 : tinfo Tryz.prog 72 = some { k := .other, size := 1, bytes := 8, zero := some [.nilfn] } := by kernel_rfl
theorem ti73 : tinfo Tryz.prog 73 = some { k := .other, size := 1, bytes := 8, zero := some [.nilfn] } := by kernel_rfl
theorem ti74 : tinfo Tryz.prog 74 = some { k := .other, size := 1, bytes := 8, zero := some [.nilfn] } := by kernel_rfl
theorem ti75 : tinfo Tryz.prog 75 = some { k := .other, size := 1, bytes := 8, zero := some [.nilfn] } := by kernel_rfl
theorem ti76 : tinfo Tryz.prog 76 = some { k := .struct [(0, 9), (1, 9)], size := 2, bytes := 32, zero := some [.str [], .str []] } := by kernel_rfl
theorem ti77 : tinfo Tryz.prog 77 = some { k := .struct [(0, 9), (1, 9)], size := 2, bytes := 32, zero := some [.str [], .str []] } := by kernel_rfl
theorem ti78 : tinfo Tryz.prog 78 = some { k := .other, size := 1, bytes := 8, zero := some [.nilfn] } := by kernel_rfl
theorem ti79 : tinfo Tryz.prog 79 = some { k := .slice 9, size := 1, bytes := 24, zero := some [.list .full []] } := by kernel_rfl
theorem ti80 : tinfo Tryz.prog 80 = some { k := .other, size := 1, bytes := 8, zero := some [.nilfn] } := by kernel_rfl
theorem ti81 : tinfo Tryz.prog 81 = some { k := .other, size := 1, bytes := 8, zero := some [.nilfn] } := by kernel_rfl
theorem ti82 : tinfo Tryz.prog 82 = some { k := .ptr, size := 1, bytes := 8, zero := some [.nilptr] } := by kernel_rfl
theorem ti83 : tinfo Tryz.prog 83 = some { k := .struct [(0, 25), (4, 79), (5, 9)], size := 6, bytes := 104, zero := some [.list .full [], .list .full [], .int .i64 0, .int .i64 0, .list .full [], .str []] } := by kernel_rfl
theorem ti84 : tinfo Tryz.prog 84 = some { k := .struct [(0, 25), (4, 79), (5, 9)], size := 6, bytes := 104, zero := some [.list .full [], .list .full [], .int .i64 0, .int .i64 0, .list .full [], .str []] } := by kernel_rfl
theorem ti85 : tinfo Tryz.prog 85 = some { k := .other, size := 1, bytes := 8, zero := some [.nilfn] } := by kernel_rfl
theorem ti86 : tinfo Tryz.prog 86 = some { k := .other, size := 1, bytes := 8, zero := some [.nilfn] } := by kernel_rfl
theorem ti87 : tinfo Tryz.prog 87 = some { k := .other, size := 1, bytes := 8, zero := some [.nilfn] } := by kernel_rfl
theorem ti88 : tinfo Tryz.prog 88 = some { k := .slice 3, size := 1, bytes := 24, zero := some [.list .full []] } := by kernel_rfl
theorem ti89 : tinfo Tryz.prog 89 = some { k := .struct [(0, 88), (1, 51)], size := 2, bytes := 48, zero := some [.list .full [], .list .full []] } := by kernel_rfl
theorem ti90 : tinfo Tryz.prog 90 = some { k := .struct [(0, 88), (1, 51)], size := 2, bytes := 48, zero := some [.list .full [], .list .full []] } := by kernel_rfl
theorem ti91 : tinfo Tryz.prog 91 = some { k := .other, size := 1, bytes := 8, zero := some [.nilfn] } := by kernel_rfl
theorem ti92 : tinfo Tryz.prog 92 = some { k := .other, size := 1, bytes := 8, zero := some [.nilfn] } := by kernel_rfl
theorem ti93 : tinfo Tryz.prog 93 = some { k := .other, size := 1, bytes := 8, zero := some [.nilfn] } := by kernel_rfl
theorem ti94 : tinfo Tryz.prog 94 = some { k := .other, size := 1, bytes := 8, zero := some [.nilfn] } := by kernel_rfl
theorem ti95 : tinfo Tryz.prog 95 = some { k := .other, size := 1, bytes := 8, zero := some [.nilfn] } := by kernel_rfl
theorem ti96 : tinfo Tryz.prog 96 = some { k := .other, size := 1, bytes := 8, zero := some [.nilfn] } := by kernel_rfl
theorem ti97 : tinfo Tryz.prog 97 = some { k := .other, size := 1, bytes := 8, zero := some [.nilfn] } := by kernel_rfl
theorem ti98 : tinfo Tryz.prog 98 = some { k := .other, size := 1, bytes := 8, zero := some [.nilfn] } := by kernel_rfl
theorem ti99 : tinfo Tryz.prog 99 = some { k := .other, size := 1, bytes := 8, zero := some [.nilfn] } := by kernel_rfl
theorem ti100 : tinfo Tryz.prog 100 = some { k := .ptr, size := 1, bytes := 8, zero := some [.nilptr] } := by kernel_rfl
theorem ti101 : tinfo Tryz.prog 101 = some { k := .slice 5, size := 1, bytes := 24, zero := some [.list .full []] } := by kernel_rfl
theorem ti102 : tinfo Tryz.prog 102 = some { k := .struct [(0, 100), (1, 101)], size := 2, bytes := 32, zero := some [.nilptr, .list .full []] } := by kernel_rfl
theorem ti103 : tinfo Tryz.prog 103 = some { k := .struct [(0, 100), (1, 101)], size := 2, bytes := 32, zero := some [.nilptr, .list .full []] } := by kernel_rfl
theorem ti104 : tinfo Tryz.prog 104 = some { k := .iface, size := 1, bytes := 16, zero := some [.niliface] } := by kernel_rfl
theorem ti105 : tinfo Tryz.prog 105 = some { k := .iface, size := 1, bytes := 16, zero := some [.niliface] } := by kernel_rfl
theorem ti107 : tinfo Tryz.prog 107 = some { k := .other, size := 1, bytes := 8, zero := some [.nilfn] } := by kernel_rfl
theorem ti108 : tinfo Tryz.prog 108 = some { k := .other, size := 1, bytes := 8, zero := some [.nilfn] } := by kernel_rfl
theorem ti109 : tinfo Tryz.prog 109 = some { k := .other, size := 1, bytes := 8, zero := some [.nilfn] } := by kernel_rfl
theorem ti110 : tinfo Tryz.prog 110 = some { k := .other, size := 1, bytes := 8, zero := some [.nilfn] } := by kernel_rfl
theorem ti111 : tinfo Tryz.prog 111 = some { k := .other, size := 1, bytes := 8, zero := some [.nilfn] } := by kernel_rfl
theorem ti112 : tinfo Tryz.prog 112 = some { k := .other, size := 1, bytes := 8, zero := some [.nilfn] } := by kernel_rfl
theorem ti113 : tinfo Tryz.prog 113 = some { k := .other, size := 1, bytes := 8, zero := some [.nilfn] } := by kernel_rfl
theorem ti114 : tinfo Tryz.prog 114 = some { k := .other, size := 1, bytes := 8, zero := some [.nilfn] } := by kernel_rfl
theorem ti115 : tinfo Tryz.prog 115 = some { k := .other, size := 1, bytes := 8, zero := some [.nilfn] } := by kernel_rfl
theorem ti116 : tinfo Tryz.prog 116 = some { k := .other, size := 1, bytes := 8, zero := some [.nilfn] } := by kernel_rfl
theorem ti117 : tinfo Tryz.prog 117 = some { k := .other, size := 1, bytes := 8, zero := some [.nilfn] } := by kernel_rfl
theorem ti118 : tinfo Tryz.prog 118 = some { k := .other, size := 1, bytes := 8, zero := some [.nilfn] } := by kernel_rfl
theorem ti119 : tinfo Tryz.prog 119 = some { k := .other, size := 1, bytes := 8, zero := some [.nilfn] } := by kernel_rfl
theorem ti120 : tinfo Tryz.prog 120 = some { k := .other, size := 1, bytes := 8, zero := some [.nilfn] } := by kernel_rfl
theorem ti121 : tinfo Tryz.prog 121 = some { k := .other, size := 1, bytes := 8, zero := some [.nilfn] } := by kernel_rfl
theorem ti122 : tinfo Tryz.prog 122 = some { k := .other, size := 1, bytes := 8, zero := some [.nilfn] } := by kernel_rfl
theorem ti123 : tinfo Tryz.prog 123 = some { k := .other, size := 1, bytes := 8, zero := some [.nilfn] } := by kernel_rfl
theorem ti124 : tinfo Tryz.prog 124 = some { k := .other, size := 1, bytes := 8, zero := some [.nilfn] } := by kernel_rfl
theorem ti125 : tinfo Tryz.prog 125 = some { k := .map 9 79, size := 1, bytes := 8, zero := some [.dead] } := by kernel_rfl
theorem ti126 : tinfo Tryz.prog 126 = some { k := .other, size := 1, bytes := 8, zero := some [.nilfn] } := by kernel_rfl
theorem ti127 : tinfo Tryz.prog 127 = some { k := .map 9 126, size := 1, bytes := 8, zero := some [.dead] } := by kernel_rfl
theorem ti128 : tinfo Tryz.prog 128 = some { k := .other, size := 1, bytes := 8, zero := some [.nilfn] } := by kernel_rfl
theorem ti130 : tinfo Tryz.prog 130 = some { k := .other, size := 1, bytes := 8, zero := some [.nilfn] } := by kernel_rfl
theorem ti131 : tinfo Tryz.prog 131 = some { k := .other, size := 1, bytes := 8, zero := some [.nilfn] } := by kernel_rfl
theorem ti132 : tinfo Tryz.prog 132 = some { k := .other, size := 1, bytes := 8, zero := some [.nilfn] } := by kernel_rfl
theorem ti133 : tinfo Tryz.prog 133 = some { k := .other, size := 1, bytes := 8, zero := some [.nilfn] } := by kernel_rfl
theorem ti134 : tinfo Tryz.prog 134 = some { k := .other, size := 1, bytes := 8, zero := some [.nilfn] } := by kernel_rfl
theorem ti135 : tinfo Tryz.prog 135 = some { k := .struct [(0, 3), (1, 3), (2, 3), (3, 3), (4, 3)], size := 5, bytes := 40, zero := some [.int .i64 0, .int .i64 0, .int .i64 0, .int .i64 0, .int .i64 0] } := by kernel_rfl
theorem ti136 : tinfo Tryz.prog 136 = some { k := .struct [(0, 3), (1, 3), (2, 3), (3, 3), (4, 3)], size := 5, bytes := 40, zero := some [.int .i64 0, .int .i64 0, .int .i64 0, .int .i64 0, .int .i64 0] } := by kernel_rfl
theorem ti137 : tinfo Tryz.prog 137 = some { k := .other, size := 1, bytes := 8, zero := some [.nilfn] } := by kernel_rfl
theorem ti138 : tinfo Tryz.prog 138 = some { k := .struct [(0, 3), (1, 3), (2, 3), (3, 3)], size := 4, bytes := 32, zero := some [.int .i64 0, .int .i64 0, .int .i64 0, .int .i64 0] } := by kernel_rfl
theorem ti139 : tinfo Tryz.prog 139 = some { k := .struct [(0, 3), (1, 3), (2, 3), (3, 3)], size := 4, bytes := 32, zero := some [.int .i64 0, .int .i64 0, .int .i64 0, .int .i64 0] } := by kernel_rfl
theorem ti140 : tinfo Tryz.prog 140 = some { k := .other, size := 1, bytes := 8, zero := some [.nilfn] } := by kernel_rfl
theorem ti141 : tinfo Tryz.prog 141 = some { k := .other, size := 1, bytes := 8, zero := some [.nilfn] } := by kernel_rfl
theorem ti142 : tinfo Tryz.prog 142 = some { k := .ptr, size := 1, bytes := 8, zero := some [.nilptr] } := by kernel_rfl
theorem ti144 : tinfo Tryz.prog 144 = some { k := .other, size := 1, bytes := 8, zero := some [.nilfn] } := by kernel_rfl
theorem ti146 : tinfo Tryz.prog 146 = some { k := .other, size := 1, bytes := 8, zero := some [.nilfn] } := by kernel_rfl
theorem ti147 : tinfo Tryz.prog 147 = some { k := .other, size := 1, bytes := 8, zero := some [.nilfn] } := by kernel_rfl
theorem ti148 : tinfo Tryz.prog 148 = some { k := .other, size := 1, bytes := 8, zero := some [.nilfn] } := by kernel_rfl
theorem ti149 : tinfo Tryz.prog 149 = some { k := .map 3 3, size := 1, bytes := 8, zero := some [.dead] } := by kernel_rfl
theorem ti150 : tinfo Tryz.prog 150 = some { k := .other, size := 1, bytes := 8, zero := some [.nilfn] } := by kernel_rfl
theorem ti152 : tinfo Tryz.prog 152 = some { k := .other, size := 1, bytes := 8, zero := some [.nilfn] } := by kernel_rfl
theorem ti154 : tinfo Tryz.prog 154 = some { k := .other, size := 1, bytes := 8, zero := some [.nilfn] } := by kernel_rfl
theorem ti156 : tinfo Tryz.prog 156 = some { k := .other, size := 1, bytes := 8, zero := some [.nilfn] } := by kernel_rfl
theorem ti158 : tinfo Tryz.prog 158 = some { k := .other, size := 1, bytes := 8, zero := some [.nilfn] } := by kernel_rfl
theorem ti159 : tinfo Tryz.prog 159 = some { k := .other, size := 1, bytes := 8, zero := some [.nilfn] } := by kernel_rfl
theorem ti163 : tinfo Tryz.prog 163 = some { k := .other, size := 1, bytes := 8, zero := some [.nilfn] } := by kernel_rfl
theorem ti164 : tinfo Tryz.prog 164 = some { k := .other, size := 1, bytes := 8, zero := some [.nilfn] } := by kernel_rfl
theorem ti165 : tinfo Tryz.prog 165 = some { k := .other, size := 1, bytes := 8, zero := some [.nilfn] } := by kernel_rfl
theorem ti166 : tinfo Tryz.prog 166 = some { k := .other, size := 1, bytes := 8, zero := some [.nilfn] } := by kernel_rfl
theorem ti167 : tinfo Tryz.prog 167 = some { k := .array 8 3, size := 8, bytes := 64, zero := some [.int .i64 0, .int .i64 0, .int .i64 0, .int .i64 0, .int .i64 0, .int .i64 0, .int .i64 0, .int .i64 0] } := by kernel_rfl
theorem ti168 : tinfo Tryz.prog 168 = some { k := .other, size := 1, bytes := 8, zero := some [.nilfn] } := by kernel_rfl
theorem ti169 : tinfo Tryz.prog 169 = some { k := .other, size := 1, bytes := 8, zero := some [.nilfn] } := by kernel_rfl
theorem ti170 : tinfo Tryz.prog 170 = some { k := .ptr, size := 1, bytes := 8, zero := some [.nilptr] } := by kernel_rfl
theorem ti172 : tinfo Tryz.prog 172 = some { k := .other, size := 1, bytes := 8, zero := some [.nilfn] } := by kernel_rfl
theorem ti173 : tinfo Tryz.prog 173 = some { k := .other, size := 1, bytes := 8, zero := some [.nilfn] } := by kernel_rfl
theorem ti174 : tinfo Tryz.prog 174 = some { k := .other, size := 1, bytes := 8, zero := some [.nilptr] } := by kernel_rfl
theorem ti175 : tinfo Tryz.prog 175 = some { k := .other, size := 1, bytes := 8, zero := some [.nilfn] } := by kernel_rfl
theorem ti176 : tinfo Tryz.prog 176 = some { k := .other, size := 1, bytes := 8, zero := some [.nilfn] } := by kernel_rfl
theorem ti177 : tinfo Tryz.prog 177 = some { k := .other, size := 1, bytes := 8, zero := some [.nilfn] } := by kernel_rfl
theorem ti178 : tinfo Tryz.prog 178 = some { k := .other, size := 1, bytes := 8, zero := some [.nilfn] } := by kernel_rfl
theorem ti179 : tinfo Tryz.prog 179 = some { k := .other, size := 1, bytes := 8, zero := some [.nilfn] } := by kernel_rfl
theorem ti180 : tinfo Tryz.prog 180 = some { k := .other, size := 1, bytes := 8, zero := some [.nilfn] } := by kernel_rfl
theorem ti181 : tinfo Tryz.prog 181 = some { k := .other, size := 1, bytes := 8, zero := some [.nilfn] } := by kernel_rfl
theorem ti182 : tinfo Tryz.prog 182 = some { k := .other, size := 1, bytes := 8, zero := some [.nilfn] } := by kernel_rfl
theorem ti183 : tinfo Tryz.prog 183 = some { k := .other, size := 1, bytes := 8, zero := some [.nilfn] } := by kernel_rfl
theorem ti184 : tinfo Tryz.prog 184 = some { k := .int .u64, size := 1, bytes := 8, zero := some [.int .u64 0] } := by kernel_rfl
theorem ti185 : tinfo Tryz.prog 185 = some { k := .ptr, size := 1, bytes := 8, zero := some [.nilptr] } := by kernel_rfl
theorem ti186 : tinfo Tryz.prog 186 = some { k := .other, size := 1, bytes := 8, zero := some [.nilfn] } := by kernel_rfl
theorem ti187 : tinfo Tryz.prog 187 = some { k := .other, size := 1, bytes := 8, zero := some [.nilfn] } := by kernel_rfl
theorem ti188 : tinfo Tryz.prog 188 = some { k := .other, size := 1, bytes := 8, zero := some [.nilfn] } := by kernel_rfl
theorem ti190 : tinfo Tryz.prog 190 = some { k := .other, size := 1, bytes := 8, zero := some [.nilfn] } := by kernel_rfl
theorem ti191 : tinfo Tryz.prog 191 = some { k := .other, size := 1, bytes := 8, zero := some [.nilfn] } := by kernel_rfl
theorem ti192 : tinfo Tryz.prog 192 = some { k := .other, size := 1, bytes := 8, zero := some [.nilfn] } := by kernel_rfl
theorem ti193 : tinfo Tryz.prog 193 = some { k := .array 24 5, size := 24, bytes := 24, zero := some [.int .u8 0, .int .u8 0, .int .u8 0, .int .u8 0, .int .u8 0, .int .u8 0, .int .u8 0, .int .u8 0, .int .u8 0, .int .u8 0, .int .u8 0, .int .u8 0, .int .u8 0, .int .u8 0, .int .u8 0, .int .u8 0, .int .u8 0, .int .u8 0, .int .u8 0, .int .u8 0, .int .u8 0, .int .u8 0, .int .u8 0, .int .u8 0] } := by kernel_rfl
theorem ti194 : tinfo Tryz.prog 194 = some { k := .int .u64, size := 1, bytes := 8, zero := some [.int .u64 0] } := by kernel_rfl
theorem ti195 : tinfo Tryz.prog 195 = some { k := .other, size := 1, bytes := 8, zero := some [.nilfn] } := by kernel_rfl
theorem ti196 : tinfo Tryz.prog 196 = some { k := .other, size := 1, bytes := 8, zero := some [.nilfn] } := by kernel_rfl
theorem ti198 : tinfo Tryz.prog 198 = some { k := .other, size := 1, bytes := 8, zero := some [.nilfn] } := by kernel_rfl
theorem ti199 : tinfo Tryz.prog 199 = some { k := .other, size := 1, bytes := 8, zero := some [.nilfn] } := by kernel_rfl
theorem ti200 : tinfo Tryz.prog 200 = some { k := .other, size := 1, bytes := 8, zero := some [.nilfn] } := by kernel_rfl
theorem ti201 : tinfo Tryz.prog 201 = some { k := .other, size := 1, bytes := 8, zero := some [.nilfn] } := by kernel_rfl
theorem ti202 : tinfo Tryz.prog 202 = some { k := .other, size := 1, bytes := 8, zero := some [.nilfn] } := by kernel_rfl
theorem ti203 : tinfo Tryz.prog 203 = some { k := .other, size := 1, bytes := 8, zero := some [.nilfn] } := by kernel_rfl
theorem ti204 : tinfo Tryz.prog 204 = some { k := .array 20 194, size := 20, bytes := 160, zero := some [.int .u64 0, .int .u64 0, .int .u64 0, .int .u64 0, .int .u64 0, .int .u64 0, .int .u64 0, .int .u64 0, .int .u64 0, .int .u64 0, .int .u64 0, .int .u64 0, .int .u64 0, .int .u64 0, .int .u64 0, .int .u64 0, .int .u64 0, .int .u64 0, .int .u64 0, .int .u64 0] } := by kernel_rfl
theorem ti205 : tinfo Tryz.prog 205 = some { k := .int .u32, size := 1, bytes := 4, zero := some [.int .u32 0] } := by kernel_rfl
theorem ti206 : tinfo Tryz.prog 206 = some { k := .array 65 5, size := 65, bytes := 65, zero := some [.int .u8 0, .int .u8 0, .int .u8 0, .int .u8 0, .int .u8 0, .int .u8 0, .int .u8 0, .int .u8 0, .int .u8 0, .int .u8 0, .int .u8 0, .int .u8 0, .int .u8 0, .int .u8 0, .int .u8 0, .int .u8 0, .int .u8 0, .int .u8 0, .int .u8 0, .int .u8 0, .int .u8 0, .int .u8 0, .int .u8 0, .int .u8 0, .int .u8 0, .int .u8 0, .int .u8 0, .int .u8 0, .int .u8 0, .int .u8 0, .int .u8 0, .int .u8 0, .int .u8 0, .int .u8 0, .int .u8 0, .int .u8 0, .int .u8 0, .int .u8 0, .int .u8 0, .int .u8 0, .int .u8 0, .int .u8 0, .int .u8 0, .int .u8 0, .int .u8 0, .int .u8 0, .int .u8 0, .int .u8 0, .int .u8 0, .int .u8 0, .int .u8 0, .int .u8 0, .int .u8 0, .int .u8 0, .int .u8 0, .int .u8 0, .int .u8 0, .int .u8 0, .int .u8 0, .int .u8 0, .int .u8 0, .int .u8 0, .int .u8 0, .int .u8 0, .int .u8 0] } := by kernel_rfl
theorem ti207 : tinfo Tryz.prog 207 = some { k := .other, size := 1, bytes := 8, zero := some [.nilfn] } := by kernel_rfl
theorem ti208 : tinfo Tryz.prog 208 = some { k := .int .i64, size := 1, bytes := 8, zero := some [.int .i64 0] } := by kernel_rfl
theorem ti210 : tinfo Tryz.prog 210 = some { k := .other, size := 1, bytes := 8, zero := some [.nilfn] } := by kernel_rfl
theorem ti211 : tinfo Tryz.prog 211 = some { k := .other, size := 1, bytes := 8, zero := some [.nilfn] } := by kernel_rfl
theorem ti212 : tinfo Tryz.prog 212 = some { k := .other, size := 1, bytes := 8, zero := some [.nilfn] } := by kernel_rfl
theorem ti213 : tinfo Tryz.prog 213 = some { k := .other, size := 1, bytes := 8, zero := some [.nilfn] } := by kernel_rfl
theorem ti214 : tinfo Tryz.prog 214 = some { k := .other, size := 1, bytes := 8, zero := some [.nilfn] } := by kernel_rfl
theorem ti215 : tinfo Tryz.prog 215 = some { k := .int .i64, size := 1, bytes := 8, zero := some [.int .i64 0] } := by kernel_rfl
theorem ti217 : tinfo Tryz.prog 217 = some { k := .other, size := 1, bytes := 8, zero := some [.nilfn] } := by kernel_rfl
theorem ti218 : tinfo Tryz.prog 218 = some { k := .ptr, size := 1, bytes := 8, zero := some [.nilptr] } := by kernel_rfl
theorem ti219 : tinfo Tryz.prog 219 = some { k := .other, size := 1, bytes := 8, zero := some [.nilfn] } := by kernel_rfl
theorem ti220 : tinfo Tryz.prog 220 = some { k := .other, size := 1, bytes := 8, zero := some [.nilfn] } := by kernel_rfl
theorem ti222 : tinfo Tryz.prog 222 = some { k := .struct [(0, 5), (1, 5)], size := 2, bytes := 2, zero := some [.int .u8 0, .int .u8 0] } := by kernel_rfl
theorem ti223 : tinfo Tryz.prog 223 = some { k := .struct [(0, 5), (1, 5)], size := 2, bytes := 2, zero := some [.int .u8 0, .int .u8 0] } := by kernel_rfl
theorem ti224 : tinfo Tryz.prog 224 = some { k := .array 16 223, size := 32, bytes := 32, zero := some [.int .u8 0, .int .u8 0, .int .u8 0, .int .u8 0, .int .u8 0, .int .u8 0, .int .u8 0, .int .u8 0, .int .u8 0, .int .u8 0, .int .u8 0, .int .u8 0, .int .u8 0, .int .u8 0, .int .u8 0, .int .u8 0, .int .u8 0, .int .u8 0, .int .u8 0, .int .u8 0, .int .u8 0, .int .u8 0, .int .u8 0, .int .u8 0, .int .u8 0, .int .u8 0, .int .u8 0, .int .u8 0, .int .u8 0, .int .u8 0, .int .u8 0, .int .u8 0] } := by kernel_rfl
theorem ti226 : tinfo Tryz.prog 226 = some { k := .other, size := 1, bytes := 8, zero := some [.nilfn] } := by kernel_rfl
theorem ti227 : tinfo Tryz.prog 227 = some { k := .int .u64, size := 1, bytes := 8, zero := some [.int .u64 0] } := by kernel_rfl
theorem ti228 : tinfo Tryz.prog 228 = some { k := .other, size := 1, bytes := 8, zero := some [.nilfn] } := by kernel_rfl
theorem ti229 : tinfo Tryz.prog 229 = some { k := .other, size := 1, bytes := 8, zero := some [.nilfn] } := by kernel_rfl
theorem ti230 : tinfo Tryz.prog 230 = some { k := .other, size := 1, bytes := 8, zero := some [.nilfn] } := by kernel_rfl
theorem ti231 : tinfo Tryz.prog 231 = some { k := .other, size := 1, bytes := 8, zero := some [.nilfn] } := by kernel_rfl
theorem ti233 : tinfo Tryz.prog 233 = some { k := .other, size := 1, bytes := 8, zero := some [.nilfn] } := by kernel_rfl
theorem ti234 : tinfo Tryz.prog 234 = some { k := .other, size := 1, bytes := 8, zero := some [.nilfn] } := by kernel_rfl
theorem ti235 : tinfo Tryz.prog 235 = some { k := .struct [(0, 9), (1, 9), (2, 105)], size := 3, bytes := 48, zero := some [.str [], .str [], .niliface] } := by kernel_rfl
theorem ti236 : tinfo Tryz.prog 236 = some { k := .struct [(0, 9), (1, 9), (2, 105)], size := 3, bytes := 48, zero := some [.str [], .str [], .niliface] } := by kernel_rfl
theorem ti237 : tinfo Tryz.prog 237 = some { k := .other, size := 1, bytes := 8, zero := some [.nilfn] } := by kernel_rfl
theorem ti238 : tinfo Tryz.prog 238 = some { k := .array 32 5, size := 32, bytes := 32, zero := some [.int .u8 0, .int .u8 0, .int .u8 0, .int .u8 0, .int .u8 0, .int .u8 0, .int .u8 0, .int .u8 0, .int .u8 0, .int .u8 0, .int .u8 0, .int .u8 0, .int .u8 0, .int .u8 0, .int .u8 0, .int .u8 0, .int .u8 0, .int .u8 0, .int .u8 0, .int .u8 0, .int .u8 0, .int .u8 0, .int .u8 0, .int .u8 0, .int .u8 0, .int .u8 0, .int .u8 0, .int .u8 0, .int .u8 0, .int .u8 0, .int .u8 0, .int .u8 0] } := by kernel_rfl
theorem ti239 : tinfo Tryz.prog 239 = some { k := .array 64 5, size := 64, bytes := 64, zero := some [.int .u8 0, .int .u8 0, .int .u8 0, .int .u8 0, .int .u8 0, .int .u8 0, .int .u8 0, .int .u8 0, .int .u8 0, .int .u8 0, .int .u8 0, .int .u8 0, .int .u8 0, .int .u8 0, .int .u8 0, .int .u8 0, .int .u8 0, .int .u8 0, .int .u8 0, .int .u8 0, .int .u8 0, .int .u8 0, .int .u8 0, .int .u8 0, .int .u8 0, .int .u8 0, .int .u8 0, .int .u8 0, .int .u8 0, .int .u8 0, .int .u8 0, .int .u8 0, .int .u8 0, .int .u8 0, .int .u8 0, .int .u8 0, .int .u8 0, .int .u8 0, .int .u8 0, .int .u8 0, .int .u8 0, .int .u8 0, .int .u8 0, .int .u8 0, .int .u8 0, .int .u8 0, .int .u8 0, .int .u8 0, .int .u8 0, .int .u8 0, .int .u8 0, .int .u8 0, .int .u8 0, .int .u8 0, .int .u8 0, .int .u8 0, .int .u8 0, .int .u8 0, .int .u8 0, .int .u8 0, .int .u8 0, .int .u8 0, .int .u8 0, .int .u8 0] } := by kernel_rfl
theorem ti240 : tinfo Tryz.prog 240 = some { k := .ptr, size := 1, bytes := 8, zero := some [.nilptr] } := by kernel_rfl
theorem ti242 : tinfo Tryz.prog 242 = some { k := .other, size := 1, bytes := 8, zero := some [.nilfn] } := by kernel_rfl
theorem ti243 : tinfo Tryz.prog 243 = some { k := .other, size := 1, bytes := 8, zero := some [.nilfn] } := by kernel_rfl
theorem ti244 : tinfo Tryz.prog 244 = some { k := .ptr, size := 1, bytes := 8, zero := some [.nilptr] } := by kernel_rfl
theorem ti245 : tinfo Tryz.prog 245 = some { k := .struct [(0, 9)], size := 1, bytes := 16, zero := some [.str []] } := by kernel_rfl
theorem ti246 : tinfo Tryz.prog 246 = some { k := .struct [(0, 9)], size := 1, bytes := 16, zero := some [.str []] } := by kernel_rfl
theorem ti247 : tinfo Tryz.prog 247 = some { k := .struct [(0, 17), (1, 17), (2, 17), (3, 9)], size := 4, bytes := 40, zero := some [.nilptr, .nilptr, .nilptr, .str []] } := by kernel_rfl
theorem ti248 : tinfo Tryz.prog 248 = some { k := .struct [(0, 17), (1, 17), (2, 17), (3, 9)], size := 4, bytes := 40, zero := some [.nilptr, .nilptr, .nilptr, .str []] } := by kernel_rfl
theorem ti249 : tinfo Tryz.prog 249 = some { k := .array 0 16, size := 0, bytes := 0, zero := some [] } := by kernel_rfl
theorem ti250 : tinfo Tryz.prog 250 = some { k := .struct [(0, 249)], size := 0, bytes := 0, zero := some [] } := by kernel_rfl
theorem ti251 : tinfo Tryz.prog 251 = some { k := .struct [(0, 249)], size := 0, bytes := 0, zero := some [] } := by kernel_rfl
theorem ti252 : tinfo Tryz.prog 252 = some { k := .other, size := 1, bytes := 8, zero := some [.nilfn] } := by kernel_rfl
theorem ti253 : tinfo Tryz.prog 253 = some { k := .int .u8, size := 1, bytes := 1, zero := some [.int .u8 0] } := by kernel_rfl
theorem ti254 : tinfo Tryz.prog 254 = some { k := .int .u8, size := 1, bytes := 1, zero := some [.int .u8 0] } := by kernel_rfl
theorem ti255 : tinfo Tryz.prog 255 = some { k := .other, size := 1, bytes := 8, zero := some [.nilfn] } := by kernel_rfl
theorem ti256 : tinfo Tryz.prog 256 = some { k := .int .i32, size := 1, bytes := 4, zero := some [.int .i32 0] } := by kernel_rfl
theorem ti257 : tinfo Tryz.prog 257 = some { k := .int .i32, size := 1, bytes := 4, zero := some [.int .i32 0] } := by kernel_rfl
theorem ti258 : tinfo Tryz.prog 258 = some { k := .struct [(0, 12), (1, 12), (2, 205), (3, 253), (4, 5), (5, 5), (6, 254), (7, 255), (8, 142), (9, 256), (10, 257)], size := 11, bytes := 48, zero := some [.int .u64 0, .int .u64 0, .int .u32 0, .int .u8 0, .int .u8 0, .int .u8 0, .int .u8 0, .nilfn, .nilptr, .int .i32 0, .int .i32 0] } := by kernel_rfl
theorem ti259 : tinfo Tryz.prog 259 = some { k := .struct [(0, 12), (1, 12), (2, 205), (3, 253), (4, 5), (5, 5), (6, 254), (7, 255), (8, 142), (9, 256), (10, 257)], size := 11, bytes := 48, zero := some [.int .u64 0, .int .u64 0, .int .u32 0, .int .u8 0, .int .u8 0, .int .u8 0, .int .u8 0, .nilfn, .nilptr, .int .i32 0, .int .i32 0] } := by kernel_rfl
attribute [simp] ti1 ti2 ti3 ti4 ti5 ti6 ti7 ti8 ti9 ti10 ti11 ti12 ti13 ti14 ti15 ti16 ti17 ti18 ti19 ti20 ti21 ti22 ti23 ti24 ti25 ti26 ti28 ti29 ti30 ti31 ti32 ti34 ti35 ti36 ti37 ti38 ti39 ti40 ti41 ti42 ti43 ti44 ti45 ti47 ti48 ti49 ti50 ti51 ti52 ti53 ti54 ti55 ti57 ti58 ti59 ti61 ti63 ti64 ti65 ti66 ti67 ti68 ti69 ti70 ti71 ti72 ti73 ti74 ti75 ti76 ti77 ti78 ti79 ti80 ti81 ti82 ti83 ti84 ti85 ti86 ti87 ti88 ti89 ti90 ti91 ti92 ti93 ti94 ti95 ti96 ti97 ti98 ti99 ti100 ti101 ti102 ti103 ti104 ti105 ti107 ti108 ti109 ti110 ti111 ti112 ti113 ti114 ti115 ti116 ti117 ti118 ti119 ti120 ti121 ti122 ti123 ti124 ti125 ti126 ti127 ti128 ti130 ti131 ti132 ti133 ti134 ti135 ti136 ti137 ti138 ti139 ti140 ti141 ti142 ti144 ti146 ti147 ti148 ti149 ti150 ti152 ti154 ti156 ti158 ti159 ti163 ti164 ti165 ti166 ti167 ti168 ti169 ti170 ti172 ti173 ti174 ti175 ti176 ti177 ti178 ti179 ti180 ti181 ti182 ti183 ti184 ti185 ti186 ti187 ti188 ti190 ti191 ti192 ti193 ti194 ti195 ti196 ti198 ti199 ti200 ti201 ti202 ti203 ti204 ti205 ti206 ti207 ti208 ti210 ti211 ti212 ti213 ti214 ti215 ti217 ti218 ti219 ti220 ti222 ti223 ti224 ti226 ti227 ti228 ti229 ti230 ti231 ti233 ti234 ti235 ti236 ti237 ti238 ti239 ti240 ti242 ti243 ti244 ti245 ti246 ti247 ti248 ti249 ti250 ti251 ti252 ti253 ti254 ti255 ti256 ti257 ti258 ti259
theorem eo43 : eqOk Tryz.prog 43 = true := by kernel_rfl
theorem eo45 : eqOk Tryz.prog 45 = true := by kernel_rfl
theorem eo59 : eqOk Tryz.prog 59 = true := by kernel_rfl
theorem eo77 : eqOk Tryz.prog 77 = true := by kernel_rfl
theorem eo136 : eqOk Tryz.prog 136 = true := by kernel_rfl
theorem eo139 : eqOk Tryz.prog 139 = true := by kernel_rfl
attribute [simp] eo43 eo45 eo59 eo77 eo136 eo139
end Go.Proofs.YtdclkdcgcfkopaaGreatDoor
