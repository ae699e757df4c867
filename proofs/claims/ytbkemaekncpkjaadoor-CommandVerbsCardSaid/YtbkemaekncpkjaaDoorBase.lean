/- Helper lemmas towards this seat's statements: a contract, proved for every input within its own premise, of functions of the program. -/
import Derived.Test.YtbkemaekncpkjaaDoorProg
import Derived.Test.YtbkemaekncpkjaaDoorVxR
namespace Go.Proofs.YtbkemaekncpkjaaDoor
open Go Go.Vx
set_option maxRecDepth 100000
theorem fol : Tryd.prog.follows .mixedOrders = true := by kernel_rfl
theorem ti1 : tiOf Tryd.prog 1 = some ⟨.other, 1, 8, (some (.nilFunc))⟩ := by kernel_rfl
theorem ti2 : tiOf Tryd.prog 2 = some ⟨(.int .i64), 1, 8, (some (.int .i64 0))⟩ := by kernel_rfl
theorem ti3 : tiOf Tryd.prog 3 = some ⟨(.int .i64), 1, 8, (some (.int .i64 0))⟩ := by kernel_rfl
theorem ti4 : tiOf Tryd.prog 4 = some ⟨.bool, 1, 1, (some (.bool false))⟩ := by kernel_rfl
theorem ti5 : tiOf Tryd.prog 5 = some ⟨(.int .u8), 1, 1, (some (.int .u8 0))⟩ := by kernel_rfl
theorem ti6 : tiOf Tryd.prog 6 = some ⟨(.int .u8), 1, 1, (some (.int .u8 0))⟩ := by kernel_rfl
theorem ti7 : tiOf Tryd.prog 7 = some ⟨(.struct [(0, 2), (1, 3), (2, 4), (3, 6)]), 4, 24, (some (.agg #[.int .i64 0, .int .i64 0, .bool false, .int .u8 0]))⟩ := by kernel_rfl
theorem ti8 : tiOf Tryd.prog 8 = some ⟨(.struct [(0, 2), (1, 3), (2, 4), (3, 6)]), 4, 24, (some (.agg #[.int .i64 0, .int .i64 0, .bool false, .int .u8 0]))⟩ := by kernel_rfl
theorem ti9 : tiOf Tryd.prog 9 = some ⟨.str, 1, 16, (some (.string ⟨#[]⟩))⟩ := by kernel_rfl
theorem ti10 : tiOf Tryd.prog 10 = some ⟨.str, 1, 16, (some (.string ⟨#[]⟩))⟩ := by kernel_rfl
theorem ti11 : tiOf Tryd.prog 11 = some ⟨.str, 1, 16, (some (.string ⟨#[]⟩))⟩ := by kernel_rfl
theorem ti12 : tiOf Tryd.prog 12 = some ⟨(.int .u64), 1, 8, (some (.int .u64 0))⟩ := by kernel_rfl
theorem ti13 : tiOf Tryd.prog 13 = some ⟨(.struct [(0, 9), (1, 12)]), 2, 24, (some (.agg #[.string ⟨#[]⟩, .int .u64 0]))⟩ := by kernel_rfl
theorem ti14 : tiOf Tryd.prog 14 = some ⟨(.struct [(0, 9), (1, 12)]), 2, 24, (some (.agg #[.string ⟨#[]⟩, .int .u64 0]))⟩ := by kernel_rfl
theorem ti15 : tiOf Tryd.prog 15 = some ⟨(.ptr 130), 1, 8, (some (.pointer none))⟩ := by kernel_rfl
theorem ti16 : tiOf Tryd.prog 16 = some ⟨(.ptr 133), 1, 8, (some (.pointer none))⟩ := by kernel_rfl
theorem ti17 : tiOf Tryd.prog 17 = some ⟨(.ptr 141), 1, 8, (some (.pointer none))⟩ := by kernel_rfl
theorem ti18 : tiOf Tryd.prog 18 = some ⟨(.struct [(0, 17)]), 1, 8, (some (.agg #[.pointer none]))⟩ := by kernel_rfl
theorem ti19 : tiOf Tryd.prog 19 = some ⟨(.struct [(0, 17)]), 1, 8, (some (.agg #[.pointer none]))⟩ := by kernel_rfl
theorem ti21 : tiOf Tryd.prog 21 = some ⟨(.int .i32), 1, 4, (some (.int .i32 0))⟩ := by kernel_rfl
theorem ti22 : tiOf Tryd.prog 22 = some ⟨(.struct [(0, 3), (1, 9), (2, 3), (3, 4)]), 4, 40, (some (.agg #[.int .i64 0, .string ⟨#[]⟩, .int .i64 0, .bool false]))⟩ := by kernel_rfl
theorem ti23 : tiOf Tryd.prog 23 = some ⟨(.struct [(0, 3), (1, 9), (2, 3), (3, 4)]), 4, 40, (some (.agg #[.int .i64 0, .string ⟨#[]⟩, .int .i64 0, .bool false]))⟩ := by kernel_rfl
theorem ti24 : tiOf Tryd.prog 24 = some ⟨(.struct [(0, 3), (1, 9)]), 2, 24, (some (.agg #[.int .i64 0, .string ⟨#[]⟩]))⟩ := by kernel_rfl
theorem ti25 : tiOf Tryd.prog 25 = some ⟨(.struct [(0, 3), (1, 9)]), 2, 24, (some (.agg #[.int .i64 0, .string ⟨#[]⟩]))⟩ := by kernel_rfl
theorem ti26 : tiOf Tryd.prog 26 = some ⟨.other, 1, 8, (some (.nilFunc))⟩ := by kernel_rfl
theorem ti27 : tiOf Tryd.prog 27 = some ⟨(.int .i64), 1, 8, (some (.int .i64 0))⟩ := by kernel_rfl
theorem ti29 : tiOf Tryd.prog 29 = some ⟨.other, 1, 8, (some (.nilFunc))⟩ := by kernel_rfl
theorem ti31 : tiOf Tryd.prog 31 = some ⟨.other, 1, 8, (some (.nilFunc))⟩ := by kernel_rfl
theorem ti32 : tiOf Tryd.prog 32 = some ⟨.other, 1, 8, (some (.nilFunc))⟩ := by kernel_rfl
theorem ti34 : tiOf Tryd.prog 34 = some ⟨.other, 1, 8, (some (.nilFunc))⟩ := by kernel_rfl
theorem ti35 : tiOf Tryd.prog 35 = some ⟨.other, 1, 8, (some (.nilFunc))⟩ := by kernel_rfl
theorem ti36 : tiOf Tryd.prog 36 = some ⟨(.int .u64), 1, 8, (some (.int .u64 0))⟩ := by kernel_rfl
theorem ti37 : tiOf Tryd.prog 37 = some ⟨(.slice 5), 1, 24, (some (.slice none 0 0))⟩ := by kernel_rfl
theorem ti38 : tiOf Tryd.prog 38 = some ⟨(.int .u64), 1, 8, (some (.int .u64 0))⟩ := by kernel_rfl
theorem ti39 : tiOf Tryd.prog 39 = some ⟨.other, 1, 8, (some (.nilFunc))⟩ := by kernel_rfl
theorem ti40 : tiOf Tryd.prog 40 = some ⟨.other, 1, 8, (some (.nilFunc))⟩ := by kernel_rfl
theorem ti41 : tiOf Tryd.prog 41 = some ⟨.other, 1, 8, (some (.nilFunc))⟩ := by kernel_rfl
theorem ti43 : tiOf Tryd.prog 43 = some ⟨.other, 1, 8, (some (.nilFunc))⟩ := by kernel_rfl
theorem ti44 : tiOf Tryd.prog 44 = some ⟨.other, 1, 8, (some (.nilFunc))⟩ := by kernel_rfl
theorem ti45 : tiOf Tryd.prog 45 = some ⟨(.slice 9), 1, 24, (some (.slice none 0 0))⟩ := by kernel_rfl
theorem ti46 : tiOf Tryd.prog 46 = some ⟨.other, 1, 8, (some (.nilFunc))⟩ := by kernel_rfl
theorem ti47 : tiOf Tryd.prog 47 = some ⟨.other, 1, 8, (some (.nilFunc))⟩ := by kernel_rfl
theorem ti48 : tiOf Tryd.prog 48 = some ⟨.other, 1, 8, (some (.nilFunc))⟩ := by kernel_rfl
theorem ti49 : tiOf Tryd.prog 49 = some ⟨.other, 1, 8, (some (.nilFunc))⟩ := by kernel_rfl
theorem ti50 : tiOf Tryd.prog 50 = some ⟨.other, 1, 8, (some (.nilFunc))⟩ := by kernel_rfl
theorem ti51 : tiOf Tryd.prog 51 = some ⟨.other, 1, 8, (some (.nilFunc))⟩ := by kernel_rfl
theorem ti52 : tiOf Tryd.prog 52 = some ⟨(.ptr 23), 1, 8, (some (.pointer none))⟩ := by kernel_rfl
theorem ti53 : tiOf Tryd.prog 53 = some ⟨.other, 1, 8, (some (.nilFunc))⟩ := by kernel_rfl
theorem ti54 : tiOf Tryd.prog 54 = some ⟨.other, 1, 8, (some (.nilFunc))⟩ := by kernel_rfl
theorem ti55 : tiOf Tryd.prog 55 = some ⟨.other, 1, 8, (some (.nilFunc))⟩ := by kernel_rfl
theorem ti57 : tiOf Tryd.prog 57 = some ⟨.other, 1, 16, (some (.nilIface))⟩ := by kernel_rfl
theorem ti59 : tiOf Tryd.prog 59 = some ⟨.other, 1, 8, (some (.nilFunc))⟩ := by kernel_rfl
theorem ti60 : tiOf Tryd.prog 60 = some ⟨.other, 1, 8, (some (.nilFunc))⟩ := by kernel_rfl
theorem ti61 : tiOf Tryd.prog 61 = some ⟨(.array 256 4), 256, 256, (some (.agg (Array.replicate 256 (.bool false))))⟩ := by kernel_rfl
theorem ti62 : tiOf Tryd.prog 62 = some ⟨(.array 256 4), 256, 256, (some (.agg (Array.replicate 256 (.bool false))))⟩ := by kernel_rfl
theorem ti64 : tiOf Tryd.prog 64 = some ⟨.other, 1, 8, (some (.nilFunc))⟩ := by kernel_rfl
theorem ti65 : tiOf Tryd.prog 65 = some ⟨.other, 1, 8, (some (.nilFunc))⟩ := by kernel_rfl
theorem ti66 : tiOf Tryd.prog 66 = some ⟨(.ptr 62), 1, 8, (some (.pointer none))⟩ := by kernel_rfl
theorem ti67 : tiOf Tryd.prog 67 = some ⟨.other, 1, 8, (some (.nilFunc))⟩ := by kernel_rfl
theorem ti68 : tiOf Tryd.prog 68 = some ⟨(.struct [(0, 9), (1, 9), (2, 9)]), 3, 48, (some (.agg #[.string ⟨#[]⟩, .string ⟨#[]⟩, .string ⟨#[]⟩]))⟩ := by kernel_rfl
theorem ti69 : tiOf Tryd.prog 69 = some ⟨(.struct [(0, 9), (1, 9), (2, 9)]), 3, 48, (some (.agg #[.string ⟨#[]⟩, .string ⟨#[]⟩, .string ⟨#[]⟩]))⟩ := by kernel_rfl
theorem ti71 : tiOf Tryd.prog 71 = some ⟨.other, 1, 8, (some (.nilFunc))⟩ := by kernel_rfl
theorem ti72 : tiOf Tryd.prog 72 = some ⟨(.map 9 4), 1, 8, (some (.map none))⟩ := by kernel_rfl
theorem ti74 : tiOf Tryd.prog 74 = some ⟨.other, 1, 8, (some (.nilFunc))⟩ := by kernel_rfl
theorem ti75 : tiOf Tryd.prog 75 = some ⟨.other, 1, 8, (some (.nilFunc))⟩ := by kernel_rfl
theorem ti76 : tiOf Tryd.prog 76 = some ⟨.other, 1, 8, (some (.nilFunc))⟩ := by kernel_rfl
theorem ti77 : tiOf Tryd.prog 77 = some ⟨.other, 1, 8, (some (.nilFunc))⟩ := by kernel_rfl
theorem ti78 : tiOf Tryd.prog 78 = some ⟨.other, 1, 8, (some (.nilFunc))⟩ := by kernel_rfl
theorem ti80 : tiOf Tryd.prog 80 = some ⟨.other, 1, 8, (some (.nilFunc))⟩ := by kernel_rfl
theorem ti81 : tiOf Tryd.prog 81 = some ⟨.other, 1, 8, (some (.nilFunc))⟩ := by kernel_rfl
theorem ti82 : tiOf Tryd.prog 82 = some ⟨.other, 1, 8, (some (.nilFunc))⟩ := by kernel_rfl
theorem ti83 : tiOf Tryd.prog 83 = some ⟨.other, 1, 8, (some (.nilFunc))⟩ := by kernel_rfl
theorem ti84 : tiOf Tryd.prog 84 = some ⟨(.int .i64), 1, 8, (some (.int .i64 0))⟩ := by kernel_rfl
theorem ti86 : tiOf Tryd.prog 86 = some ⟨.other, 1, 8, (some (.nilFunc))⟩ := by kernel_rfl
theorem ti87 : tiOf Tryd.prog 87 = some ⟨(.ptr 102), 1, 8, (some (.pointer none))⟩ := by kernel_rfl
theorem ti88 : tiOf Tryd.prog 88 = some ⟨.other, 1, 8, (some (.nilFunc))⟩ := by kernel_rfl
theorem ti89 : tiOf Tryd.prog 89 = some ⟨.other, 1, 8, (some (.nilFunc))⟩ := by kernel_rfl
theorem ti90 : tiOf Tryd.prog 90 = some ⟨.other, 1, 8, (some (.nilFunc))⟩ := by kernel_rfl
theorem ti91 : tiOf Tryd.prog 91 = some ⟨.other, 1, 8, (some (.nilFunc))⟩ := by kernel_rfl
theorem ti92 : tiOf Tryd.prog 92 = some ⟨.other, 1, 8, (some (.nilFunc))⟩ := by kernel_rfl
theorem ti93 : tiOf Tryd.prog 93 = some ⟨.other, 1, 8, (some (.nilFunc))⟩ := by kernel_rfl
theorem ti94 : tiOf Tryd.prog 94 = some ⟨(.array 24 5), 24, 24, (some (.agg (Array.replicate 24 (.int .u8 0))))⟩ := by kernel_rfl
theorem ti95 : tiOf Tryd.prog 95 = some ⟨.other, 1, 8, (some (.nilFunc))⟩ := by kernel_rfl
theorem ti96 : tiOf Tryd.prog 96 = some ⟨.other, 1, 8, (some (.nilFunc))⟩ := by kernel_rfl
theorem ti98 : tiOf Tryd.prog 98 = some ⟨.other, 1, 8, (some (.nilFunc))⟩ := by kernel_rfl
theorem ti100 : tiOf Tryd.prog 100 = some ⟨.other, 1, 8, (some (.nilFunc))⟩ := by kernel_rfl
theorem ti101 : tiOf Tryd.prog 101 = some ⟨(.struct [(0, 9), (1, 9), (2, 57)]), 3, 48, (some (.agg #[.string ⟨#[]⟩, .string ⟨#[]⟩, .nilIface]))⟩ := by kernel_rfl
theorem ti102 : tiOf Tryd.prog 102 = some ⟨(.struct [(0, 9), (1, 9), (2, 57)]), 3, 48, (some (.agg #[.string ⟨#[]⟩, .string ⟨#[]⟩, .nilIface]))⟩ := by kernel_rfl
theorem ti103 : tiOf Tryd.prog 103 = some ⟨.other, 1, 8, (some (.nilFunc))⟩ := by kernel_rfl
theorem ti104 : tiOf Tryd.prog 104 = some ⟨(.int .u32), 1, 4, (some (.int .u32 0))⟩ := by kernel_rfl
theorem ti106 : tiOf Tryd.prog 106 = some ⟨.other, 1, 8, (some (.nilFunc))⟩ := by kernel_rfl
theorem ti107 : tiOf Tryd.prog 107 = some ⟨(.array 256 5), 256, 256, (some (.agg (Array.replicate 256 (.int .u8 0))))⟩ := by kernel_rfl
theorem ti108 : tiOf Tryd.prog 108 = some ⟨(.struct [(0, 5), (1, 5)]), 2, 2, (some (.agg #[.int .u8 0, .int .u8 0]))⟩ := by kernel_rfl
theorem ti109 : tiOf Tryd.prog 109 = some ⟨(.struct [(0, 5), (1, 5)]), 2, 2, (some (.agg #[.int .u8 0, .int .u8 0]))⟩ := by kernel_rfl
theorem ti110 : tiOf Tryd.prog 110 = some ⟨(.array 16 109), 32, 32, (some (.agg (Array.replicate 32 (.int .u8 0))))⟩ := by kernel_rfl
theorem ti111 : tiOf Tryd.prog 111 = some ⟨.other, 1, 8, (some (.nilFunc))⟩ := by kernel_rfl
theorem ti112 : tiOf Tryd.prog 112 = some ⟨.other, 1, 8, (some (.nilFunc))⟩ := by kernel_rfl
theorem ti113 : tiOf Tryd.prog 113 = some ⟨.other, 1, 8, (some (.nilFunc))⟩ := by kernel_rfl
theorem ti114 : tiOf Tryd.prog 114 = some ⟨(.array 20 36), 20, 160, (some (.agg #[.int .u64 0, .int .u64 0, .int .u64 0, .int .u64 0, .int .u64 0, .int .u64 0, .int .u64 0, .int .u64 0, .int .u64 0, .int .u64 0, .int .u64 0, .int .u64 0, .int .u64 0, .int .u64 0, .int .u64 0, .int .u64 0, .int .u64 0, .int .u64 0, .int .u64 0, .int .u64 0]))⟩ := by kernel_rfl
theorem ti115 : tiOf Tryd.prog 115 = some ⟨(.array 65 5), 65, 65, (some (.agg (Array.replicate 65 (.int .u8 0))))⟩ := by kernel_rfl
theorem ti116 : tiOf Tryd.prog 116 = some ⟨.other, 1, 8, (some (.nilFunc))⟩ := by kernel_rfl
theorem ti117 : tiOf Tryd.prog 117 = some ⟨.other, 1, 8, (some (.nilFunc))⟩ := by kernel_rfl
theorem ti118 : tiOf Tryd.prog 118 = some ⟨.other, 1, 8, (some (.nilFunc))⟩ := by kernel_rfl
theorem ti119 : tiOf Tryd.prog 119 = some ⟨(.ptr 5), 1, 8, (some (.pointer none))⟩ := by kernel_rfl
theorem ti120 : tiOf Tryd.prog 120 = some ⟨(.ptr 122), 1, 8, (some (.pointer none))⟩ := by kernel_rfl
theorem ti121 : tiOf Tryd.prog 121 = some ⟨(.struct [(0, 9)]), 1, 16, (some (.agg #[.string ⟨#[]⟩]))⟩ := by kernel_rfl
theorem ti122 : tiOf Tryd.prog 122 = some ⟨(.struct [(0, 9)]), 1, 16, (some (.agg #[.string ⟨#[]⟩]))⟩ := by kernel_rfl
theorem ti123 : tiOf Tryd.prog 123 = some ⟨.other, 1, 8, (some (.nilFunc))⟩ := by kernel_rfl
theorem ti124 : tiOf Tryd.prog 124 = some ⟨.other, 1, 8, (some (.nilFunc))⟩ := by kernel_rfl
theorem ti125 : tiOf Tryd.prog 125 = some ⟨.other, 1, 8, (some (.nilFunc))⟩ := by kernel_rfl
theorem ti126 : tiOf Tryd.prog 126 = some ⟨(.array 32 5), 32, 32, (some (.agg (Array.replicate 32 (.int .u8 0))))⟩ := by kernel_rfl
theorem ti127 : tiOf Tryd.prog 127 = some ⟨(.array 64 5), 64, 64, (some (.agg (Array.replicate 64 (.int .u8 0))))⟩ := by kernel_rfl
theorem ti128 : tiOf Tryd.prog 128 = some ⟨.other, 1, 8, (some (.nilFunc))⟩ := by kernel_rfl
theorem ti129 : tiOf Tryd.prog 129 = some ⟨(.struct [(0, 17), (1, 17), (2, 17), (3, 9)]), 4, 40, (some (.agg #[.pointer none, .pointer none, .pointer none, .string ⟨#[]⟩]))⟩ := by kernel_rfl
theorem ti130 : tiOf Tryd.prog 130 = some ⟨(.struct [(0, 17), (1, 17), (2, 17), (3, 9)]), 4, 40, (some (.agg #[.pointer none, .pointer none, .pointer none, .string ⟨#[]⟩]))⟩ := by kernel_rfl
theorem ti131 : tiOf Tryd.prog 131 = some ⟨(.array 0 16), 0, 0, (some (.agg #[]))⟩ := by kernel_rfl
theorem ti132 : tiOf Tryd.prog 132 = some ⟨(.struct [(0, 131)]), 0, 0, (some (.agg #[]))⟩ := by kernel_rfl
theorem ti133 : tiOf Tryd.prog 133 = some ⟨(.struct [(0, 131)]), 0, 0, (some (.agg #[]))⟩ := by kernel_rfl
theorem ti134 : tiOf Tryd.prog 134 = some ⟨.other, 1, 8, (some (.nilFunc))⟩ := by kernel_rfl
theorem ti135 : tiOf Tryd.prog 135 = some ⟨(.int .u8), 1, 1, (some (.int .u8 0))⟩ := by kernel_rfl
theorem ti136 : tiOf Tryd.prog 136 = some ⟨(.int .u8), 1, 1, (some (.int .u8 0))⟩ := by kernel_rfl
theorem ti137 : tiOf Tryd.prog 137 = some ⟨.other, 1, 8, (some (.nilFunc))⟩ := by kernel_rfl
theorem ti138 : tiOf Tryd.prog 138 = some ⟨(.int .i32), 1, 4, (some (.int .i32 0))⟩ := by kernel_rfl
theorem ti139 : tiOf Tryd.prog 139 = some ⟨(.int .i32), 1, 4, (some (.int .i32 0))⟩ := by kernel_rfl
theorem ti140 : tiOf Tryd.prog 140 = some ⟨(.struct [(0, 12), (1, 12), (2, 104), (3, 135), (4, 5), (5, 5), (6, 136), (7, 137), (8, 119), (9, 138), (10, 139)]), 11, 48, (some (.agg #[.int .u64 0, .int .u64 0, .int .u32 0, .int .u8 0, .int .u8 0, .int .u8 0, .int .u8 0, .nilFunc, .pointer none, .int .i32 0, .int .i32 0]))⟩ := by kernel_rfl
theorem ti141 : tiOf Tryd.prog 141 = some ⟨(.struct [(0, 12), (1, 12), (2, 104), (3, 135), (4, 5), (5, 5), (6, 136), (7, 137), (8, 119), (9, 138), (10, 139)]), 11, 48, (some (.agg #[.int .u64 0, .int .u64 0, .int .u32 0, .int .u8 0, .int .u8 0, .int .u8 0, .int .u8 0, .nilFunc, .pointer none, .int .i32 0, .int .i32 0]))⟩ := by kernel_rfl
theorem ti142 : tiOf Tryd.prog 142 = some ⟨.other, 1, 8, (some (.pointer none))⟩ := by kernel_rfl
theorem eqk23 : eqKs Tryd.prog 23 = some [.int .i64, .str, .int .i64, .bool] := by kernel_rfl
theorem eqk25 : eqKs Tryd.prog 25 = some [.int .i64, .str] := by kernel_rfl
theorem eqk69 : eqKs Tryd.prog 69 = some [.str, .str, .str] := by kernel_rfl
theorem tyo2 : tyOf Tryd.prog 12 2 = some (.int .i64) := by kernel_rfl
theorem tyo3 : tyOf Tryd.prog 12 3 = some (.int .i64) := by kernel_rfl
theorem tyo4 : tyOf Tryd.prog 12 4 = some (.bool) := by kernel_rfl
theorem tyo5 : tyOf Tryd.prog 12 5 = some (.int .u8) := by kernel_rfl
theorem tyo6 : tyOf Tryd.prog 12 6 = some (.int .u8) := by kernel_rfl
theorem tyo7 : tyOf Tryd.prog 12 7 = some (.pair (.int .i64) (.pair (.int .i64) (.pair (.bool) (.int .u8)))) := by kernel_rfl
theorem tyo8 : tyOf Tryd.prog 12 8 = some (.pair (.int .i64) (.pair (.int .i64) (.pair (.bool) (.int .u8)))) := by kernel_rfl
theorem tyo9 : tyOf Tryd.prog 12 9 = some (.str) := by kernel_rfl
theorem tyo10 : tyOf Tryd.prog 12 10 = some (.str) := by kernel_rfl
theorem tyo11 : tyOf Tryd.prog 12 11 = some (.str) := by kernel_rfl
theorem tyo12 : tyOf Tryd.prog 12 12 = some (.int .u64) := by kernel_rfl
theorem tyo13 : tyOf Tryd.prog 12 13 = some (.pair (.str) (.int .u64)) := by kernel_rfl
theorem tyo14 : tyOf Tryd.prog 12 14 = some (.pair (.str) (.int .u64)) := by kernel_rfl
theorem tyo21 : tyOf Tryd.prog 12 21 = some (.int .i32) := by kernel_rfl
theorem tyo22 : tyOf Tryd.prog 12 22 = some (.pair (.int .i64) (.pair (.str) (.pair (.int .i64) (.bool)))) := by kernel_rfl
theorem tyo23 : tyOf Tryd.prog 12 23 = some (.pair (.int .i64) (.pair (.str) (.pair (.int .i64) (.bool)))) := by kernel_rfl
theorem tyo24 : tyOf Tryd.prog 12 24 = some (.pair (.int .i64) (.str)) := by kernel_rfl
theorem tyo25 : tyOf Tryd.prog 12 25 = some (.pair (.int .i64) (.str)) := by kernel_rfl
theorem tyo27 : tyOf Tryd.prog 12 27 = some (.int .i64) := by kernel_rfl
theorem tyo36 : tyOf Tryd.prog 12 36 = some (.int .u64) := by kernel_rfl
theorem tyo37 : tyOf Tryd.prog 12 37 = some (.slice (.int .u8)) := by kernel_rfl
theorem tyo38 : tyOf Tryd.prog 12 38 = some (.int .u64) := by kernel_rfl
theorem tyo45 : tyOf Tryd.prog 12 45 = some (.slice (.str)) := by kernel_rfl
theorem tyo68 : tyOf Tryd.prog 12 68 = some (.pair (.str) (.pair (.str) (.str))) := by kernel_rfl
theorem tyo69 : tyOf Tryd.prog 12 69 = some (.pair (.str) (.pair (.str) (.str))) := by kernel_rfl
theorem tyo84 : tyOf Tryd.prog 12 84 = some (.int .i64) := by kernel_rfl
theorem tyo104 : tyOf Tryd.prog 12 104 = some (.int .u32) := by kernel_rfl
theorem tyo108 : tyOf Tryd.prog 12 108 = some (.pair (.int .u8) (.int .u8)) := by kernel_rfl
theorem tyo109 : tyOf Tryd.prog 12 109 = some (.pair (.int .u8) (.int .u8)) := by kernel_rfl
theorem tyo121 : tyOf Tryd.prog 12 121 = some (.str) := by kernel_rfl
theorem tyo122 : tyOf Tryd.prog 12 122 = some (.str) := by kernel_rfl
theorem tyo135 : tyOf Tryd.prog 12 135 = some (.int .u8) := by kernel_rfl
theorem tyo136 : tyOf Tryd.prog 12 136 = some (.int .u8) := by kernel_rfl
theorem tyo138 : tyOf Tryd.prog 12 138 = some (.int .i32) := by kernel_rfl
theorem tyo139 : tyOf Tryd.prog 12 139 = some (.int .i32) := by kernel_rfl
theorem arr1 : arrOf Tryd.prog 1 = none := by kernel_rfl
theorem arr2 : arrOf Tryd.prog 2 = none := by kernel_rfl
theorem arr3 : arrOf Tryd.prog 3 = none := by kernel_rfl
theorem arr4 : arrOf Tryd.prog 4 = none := by kernel_rfl
theorem arr5 : arrOf Tryd.prog 5 = none := by kernel_rfl
theorem arr6 : arrOf Tryd.prog 6 = none := by kernel_rfl
theorem arr7 : arrOf Tryd.prog 7 = none := by kernel_rfl
theorem arr8 : arrOf Tryd.prog 8 = none := by kernel_rfl
theorem arr9 : arrOf Tryd.prog 9 = none := by kernel_rfl
theorem arr10 : arrOf Tryd.prog 10 = none := by kernel_rfl
theorem arr11 : arrOf Tryd.prog 11 = none := by kernel_rfl
theorem arr12 : arrOf Tryd.prog 12 = none := by kernel_rfl
theorem arr13 : arrOf Tryd.prog 13 = none := by kernel_rfl
theorem arr14 : arrOf Tryd.prog 14 = none := by kernel_rfl
theorem arr15 : arrOf Tryd.prog 15 = none := by kernel_rfl
theorem arr16 : arrOf Tryd.prog 16 = none := by kernel_rfl
theorem arr17 : arrOf Tryd.prog 17 = none := by kernel_rfl
theorem arr18 : arrOf Tryd.prog 18 = none := by kernel_rfl
theorem arr19 : arrOf Tryd.prog 19 = none := by kernel_rfl
theorem arr21 : arrOf Tryd.prog 21 = none := by kernel_rfl
theorem arr22 : arrOf Tryd.prog 22 = none := by kernel_rfl
theorem arr23 : arrOf Tryd.prog 23 = none := by kernel_rfl
theorem arr24 : arrOf Tryd.prog 24 = none := by kernel_rfl
theorem arr25 : arrOf Tryd.prog 25 = none := by kernel_rfl
theorem arr26 : arrOf Tryd.prog 26 = none := by kernel_rfl
theorem arr27 : arrOf Tryd.prog 27 = none := by kernel_rfl
theorem arr29 : arrOf Tryd.prog 29 = none := by kernel_rfl
theorem arr31 : arrOf Tryd.prog 31 = none := by kernel_rfl
theorem arr32 : arrOf Tryd.prog 32 = none := by kernel_rfl
theorem arr34 : arrOf Tryd.prog 34 = none := by kernel_rfl
theorem arr35 : arrOf Tryd.prog 35 = none := by kernel_rfl
theorem arr36 : arrOf Tryd.prog 36 = none := by kernel_rfl
theorem arr37 : arrOf Tryd.prog 37 = none := by kernel_rfl
theorem arr38 : arrOf Tryd.prog 38 = none := by kernel_rfl
theorem arr39 : arrOf Tryd.prog 39 = none := by kernel_rfl
theorem arr40 : arrOf Tryd.prog 40 = none := by kernel_rfl
theorem arr41 : arrOf Tryd.prog 41 = none := by kernel_rfl
theorem arr43 : arrOf Tryd.prog 43 = none := by kernel_rfl
theorem arr44 : arrOf Tryd.prog 44 = none := by kernel_rfl
theorem arr45 : arrOf Tryd.prog 45 = none := by kernel_rfl
theorem arr46 : arrOf Tryd.prog 46 = none := by kernel_rfl
theorem arr47 : arrOf Tryd.prog 47 = none := by kernel_rfl
theorem arr48 : arrOf Tryd.prog 48 = none := by kernel_rfl
theorem arr49 : arrOf Tryd.prog 49 = none := by kernel_rfl
theorem arr50 : arrOf Tryd.prog 50 = none := by kernel_rfl
theorem arr51 : arrOf Tryd.prog 51 = none := by kernel_rfl
theorem arr52 : arrOf Tryd.prog 52 = none := by kernel_rfl
theorem arr53 : arrOf Tryd.prog 53 = none := by kernel_rfl
theorem arr54 : arrOf Tryd.prog 54 = none := by kernel_rfl
theorem arr55 : arrOf Tryd.prog 55 = none := by kernel_rfl
theorem arr57 : arrOf Tryd.prog 57 = none := by kernel_rfl
theorem arr59 : arrOf Tryd.prog 59 = none := by kernel_rfl
theorem arr60 : arrOf Tryd.prog 60 = none := by kernel_rfl
theorem arr61 : arrOf Tryd.prog 61 = some (.bool, 256) := by kernel_rfl
theorem arr62 : arrOf Tryd.prog 62 = some (.bool, 256) := by kernel_rfl
theorem arr64 : arrOf Tryd.prog 64 = none := by kernel_rfl
theorem arr65 : arrOf Tryd.prog 65 = none := by kernel_rfl
theorem arr66 : arrOf Tryd.prog 66 = none := by kernel_rfl
theorem arr67 : arrOf Tryd.prog 67 = none := by kernel_rfl
theorem arr68 : arrOf Tryd.prog 68 = none := by kernel_rfl
theorem arr69 : arrOf Tryd.prog 69 = none := by kernel_rfl
theorem arr71 : arrOf Tryd.prog 71 = none := by kernel_rfl
theorem arr72 : arrOf Tryd.prog 72 = none := by kernel_rfl
theorem arr74 : arrOf Tryd.prog 74 = none := by kernel_rfl
theorem arr75 : arrOf Tryd.prog 75 = none := by kernel_rfl
theorem arr76 : arrOf Tryd.prog 76 = none := by kernel_rfl
theorem arr77 : arrOf Tryd.prog 77 = none := by kernel_rfl
theorem arr78 : arrOf Tryd.prog 78 = none := by kernel_rfl
theorem arr80 : arrOf Tryd.prog 80 = none := by kernel_rfl
theorem arr81 : arrOf Tryd.prog 81 = none := by kernel_rfl
theorem arr82 : arrOf Tryd.prog 82 = none := by kernel_rfl
theorem arr83 : arrOf Tryd.prog 83 = none := by kernel_rfl
theorem arr84 : arrOf Tryd.prog 84 = none := by kernel_rfl
theorem arr86 : arrOf Tryd.prog 86 = none := by kernel_rfl
theorem arr87 : arrOf Tryd.prog 87 = none := by kernel_rfl
theorem arr88 : arrOf Tryd.prog 88 = none := by kernel_rfl
theorem arr89 : arrOf Tryd.prog 89 = none := by kernel_rfl
theorem arr90 : arrOf Tryd.prog 90 = none := by kernel_rfl
theorem arr91 : arrOf Tryd.prog 91 = none := by kernel_rfl
theorem arr92 : arrOf Tryd.prog 92 = none := by kernel_rfl
theorem arr93 : arrOf Tryd.prog 93 = none := by kernel_rfl
theorem arr94 : arrOf Tryd.prog 94 = some (.int .u8, 24) := by kernel_rfl
theorem arr95 : arrOf Tryd.prog 95 = none := by kernel_rfl
theorem arr96 : arrOf Tryd.prog 96 = none := by kernel_rfl
theorem arr98 : arrOf Tryd.prog 98 = none := by kernel_rfl
theorem arr100 : arrOf Tryd.prog 100 = none := by kernel_rfl
theorem arr101 : arrOf Tryd.prog 101 = none := by kernel_rfl
theorem arr102 : arrOf Tryd.prog 102 = none := by kernel_rfl
theorem arr103 : arrOf Tryd.prog 103 = none := by kernel_rfl
theorem arr104 : arrOf Tryd.prog 104 = none := by kernel_rfl
theorem arr106 : arrOf Tryd.prog 106 = none := by kernel_rfl
theorem arr107 : arrOf Tryd.prog 107 = some (.int .u8, 256) := by kernel_rfl
theorem arr108 : arrOf Tryd.prog 108 = none := by kernel_rfl
theorem arr109 : arrOf Tryd.prog 109 = none := by kernel_rfl
theorem arr110 : arrOf Tryd.prog 110 = none := by kernel_rfl
theorem arr111 : arrOf Tryd.prog 111 = none := by kernel_rfl
theorem arr112 : arrOf Tryd.prog 112 = none := by kernel_rfl
theorem arr113 : arrOf Tryd.prog 113 = none := by kernel_rfl
theorem arr114 : arrOf Tryd.prog 114 = some (.int .u64, 20) := by kernel_rfl
theorem arr115 : arrOf Tryd.prog 115 = some (.int .u8, 65) := by kernel_rfl
theorem arr116 : arrOf Tryd.prog 116 = none := by kernel_rfl
theorem arr117 : arrOf Tryd.prog 117 = none := by kernel_rfl
theorem arr118 : arrOf Tryd.prog 118 = none := by kernel_rfl
theorem arr119 : arrOf Tryd.prog 119 = none := by kernel_rfl
theorem arr120 : arrOf Tryd.prog 120 = none := by kernel_rfl
theorem arr121 : arrOf Tryd.prog 121 = none := by kernel_rfl
theorem arr122 : arrOf Tryd.prog 122 = none := by kernel_rfl
theorem arr123 : arrOf Tryd.prog 123 = none := by kernel_rfl
theorem arr124 : arrOf Tryd.prog 124 = none := by kernel_rfl
theorem arr125 : arrOf Tryd.prog 125 = none := by kernel_rfl
theorem arr126 : arrOf Tryd.prog 126 = some (.int .u8, 32) := by kernel_rfl
theorem arr127 : arrOf Tryd.prog 127 = some (.int .u8, 64) := by kernel_rfl
theorem arr128 : arrOf Tryd.prog 128 = none := by kernel_rfl
theorem arr129 : arrOf Tryd.prog 129 = none := by kernel_rfl
theorem arr130 : arrOf Tryd.prog 130 = none := by kernel_rfl
theorem arr131 : arrOf Tryd.prog 131 = none := by kernel_rfl
theorem arr132 : arrOf Tryd.prog 132 = none := by kernel_rfl
theorem arr133 : arrOf Tryd.prog 133 = none := by kernel_rfl
theorem arr134 : arrOf Tryd.prog 134 = none := by kernel_rfl
theorem arr135 : arrOf Tryd.prog 135 = none := by kernel_rfl
theorem arr136 : arrOf Tryd.prog 136 = none := by kernel_rfl
theorem arr137 : arrOf Tryd.prog 137 = none := by kernel_rfl
theorem arr138 : arrOf Tryd.prog 138 = none := by kernel_rfl
theorem arr139 : arrOf Tryd.prog 139 = none := by kernel_rfl
theorem arr140 : arrOf Tryd.prog 140 = none := by kernel_rfl
theorem arr141 : arrOf Tryd.prog 141 = none := by kernel_rfl
theorem arr142 : arrOf Tryd.prog 142 = none := by kernel_rfl
theorem mpo72 : mapOf Tryd.prog 72 = some (.string, 4) := by kernel_rfl
end Go.Proofs.YtbkemaekncpkjaaDoor
