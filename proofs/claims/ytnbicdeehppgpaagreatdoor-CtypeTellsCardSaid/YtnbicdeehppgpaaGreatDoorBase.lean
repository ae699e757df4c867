/- Helper lemmas towards this seat's statements: a contract, proved for every input within its own premise, of functions of the program. -/
import Derived.Test.YtnbicdeehppgpaaGreatDoorProg
import Derived.Test.YtnbicdeehppgpaaGreatDoorVxV
set_option linter.unusedSimpArgs false
set_option linter.unusedVariables false
namespace Go.Proofs.YtnbicdeehppgpaaGreatDoor
open Go Go.Vx
set_option maxRecDepth 100000
theorem fol : Tryz.prog.follows .mixedOrders = true := by kernel_rfl
theorem ti1 : tiOf Tryz.prog 1 = some ⟨.other, 1, 8, (some (.nilFunc))⟩ := by kernel_rfl
theorem ti2 : tiOf Tryz.prog 2 = some ⟨(.int .i64), 1, 8, (some (.int .i64 0))⟩ := by kernel_rfl
theorem ti3 : tiOf Tryz.prog 3 = some ⟨(.int .i64), 1, 8, (some (.int .i64 0))⟩ := by kernel_rfl
theorem ti4 : tiOf Tryz.prog 4 = some ⟨.bool, 1, 1, (some (.bool false))⟩ := by kernel_rfl
theorem ti5 : tiOf Tryz.prog 5 = some ⟨(.int .u8), 1, 1, (some (.int .u8 0))⟩ := by kernel_rfl
theorem ti6 : tiOf Tryz.prog 6 = some ⟨(.int .u8), 1, 1, (some (.int .u8 0))⟩ := by kernel_rfl
theorem ti7 : tiOf Tryz.prog 7 = some ⟨(.struct [(0, 2), (1, 3), (2, 4), (3, 6)]), 4, 24, (some (.agg #[.int .i64 0, .int .i64 0, .bool false, .int .u8 0]))⟩ := by kernel_rfl
theorem ti8 : tiOf Tryz.prog 8 = some ⟨(.struct [(0, 2), (1, 3), (2, 4), (3, 6)]), 4, 24, (some (.agg #[.int .i64 0, .int .i64 0, .bool false, .int .u8 0]))⟩ := by kernel_rfl
theorem ti9 : tiOf Tryz.prog 9 = some ⟨.str, 1, 16, (some (.string ⟨#[]⟩))⟩ := by kernel_rfl
theorem ti10 : tiOf Tryz.prog 10 = some ⟨.str, 1, 16, (some (.string ⟨#[]⟩))⟩ := by kernel_rfl
theorem ti11 : tiOf Tryz.prog 11 = some ⟨.str, 1, 16, (some (.string ⟨#[]⟩))⟩ := by kernel_rfl
theorem ti12 : tiOf Tryz.prog 12 = some ⟨(.int .u64), 1, 8, (some (.int .u64 0))⟩ := by kernel_rfl
theorem ti13 : tiOf Tryz.prog 13 = some ⟨(.struct [(0, 9), (1, 12)]), 2, 24, (some (.agg #[.string ⟨#[]⟩, .int .u64 0]))⟩ := by kernel_rfl
theorem ti14 : tiOf Tryz.prog 14 = some ⟨(.struct [(0, 9), (1, 12)]), 2, 24, (some (.agg #[.string ⟨#[]⟩, .int .u64 0]))⟩ := by kernel_rfl
theorem ti15 : tiOf Tryz.prog 15 = some ⟨(.ptr 143), 1, 8, (some (.pointer none))⟩ := by kernel_rfl
theorem ti16 : tiOf Tryz.prog 16 = some ⟨(.ptr 146), 1, 8, (some (.pointer none))⟩ := by kernel_rfl
theorem ti17 : tiOf Tryz.prog 17 = some ⟨(.ptr 155), 1, 8, (some (.pointer none))⟩ := by kernel_rfl
theorem ti18 : tiOf Tryz.prog 18 = some ⟨(.struct [(0, 17)]), 1, 8, (some (.agg #[.pointer none]))⟩ := by kernel_rfl
theorem ti19 : tiOf Tryz.prog 19 = some ⟨(.struct [(0, 17)]), 1, 8, (some (.agg #[.pointer none]))⟩ := by kernel_rfl
theorem ti21 : tiOf Tryz.prog 21 = some ⟨(.int .i32), 1, 4, (some (.int .i32 0))⟩ := by kernel_rfl
theorem ti22 : tiOf Tryz.prog 22 = some ⟨(.slice 41), 1, 24, (some (.slice none 0 0))⟩ := by kernel_rfl
theorem ti23 : tiOf Tryz.prog 23 = some ⟨(.struct [(0, 9), (1, 9), (2, 22)]), 3, 56, (some (.agg #[.string ⟨#[]⟩, .string ⟨#[]⟩, .slice none 0 0]))⟩ := by kernel_rfl
theorem ti24 : tiOf Tryz.prog 24 = some ⟨(.struct [(0, 9), (1, 9), (2, 22)]), 3, 56, (some (.agg #[.string ⟨#[]⟩, .string ⟨#[]⟩, .slice none 0 0]))⟩ := by kernel_rfl
theorem ti25 : tiOf Tryz.prog 25 = some ⟨.other, 1, 8, (some (.nilFunc))⟩ := by kernel_rfl
theorem ti26 : tiOf Tryz.prog 26 = some ⟨.other, 1, 8, (some (.nilFunc))⟩ := by kernel_rfl
theorem ti27 : tiOf Tryz.prog 27 = some ⟨(.int .i64), 1, 8, (some (.int .i64 0))⟩ := by kernel_rfl
theorem ti29 : tiOf Tryz.prog 29 = some ⟨.other, 1, 8, (some (.nilFunc))⟩ := by kernel_rfl
theorem ti31 : tiOf Tryz.prog 31 = some ⟨.other, 1, 8, (some (.nilFunc))⟩ := by kernel_rfl
theorem ti33 : tiOf Tryz.prog 33 = some ⟨.other, 1, 8, (some (.nilFunc))⟩ := by kernel_rfl
theorem ti35 : tiOf Tryz.prog 35 = some ⟨.other, 1, 8, (some (.nilFunc))⟩ := by kernel_rfl
theorem ti37 : tiOf Tryz.prog 37 = some ⟨.other, 1, 8, (some (.nilFunc))⟩ := by kernel_rfl
theorem ti38 : tiOf Tryz.prog 38 = some ⟨.other, 1, 8, (some (.nilFunc))⟩ := by kernel_rfl
theorem ti39 : tiOf Tryz.prog 39 = some ⟨.other, 1, 8, (some (.nilFunc))⟩ := by kernel_rfl
theorem ti40 : tiOf Tryz.prog 40 = some ⟨(.struct [(0, 9), (1, 9)]), 2, 32, (some (.agg #[.string ⟨#[]⟩, .string ⟨#[]⟩]))⟩ := by kernel_rfl
theorem ti41 : tiOf Tryz.prog 41 = some ⟨(.struct [(0, 9), (1, 9)]), 2, 32, (some (.agg #[.string ⟨#[]⟩, .string ⟨#[]⟩]))⟩ := by kernel_rfl
theorem ti42 : tiOf Tryz.prog 42 = some ⟨.other, 1, 8, (some (.nilFunc))⟩ := by kernel_rfl
theorem ti43 : tiOf Tryz.prog 43 = some ⟨(.ptr 72), 1, 8, (some (.pointer none))⟩ := by kernel_rfl
theorem ti44 : tiOf Tryz.prog 44 = some ⟨.other, 1, 8, (some (.nilFunc))⟩ := by kernel_rfl
theorem ti45 : tiOf Tryz.prog 45 = some ⟨.other, 1, 8, (some (.nilFunc))⟩ := by kernel_rfl
theorem ti46 : tiOf Tryz.prog 46 = some ⟨.other, 1, 8, (some (.nilFunc))⟩ := by kernel_rfl
theorem ti47 : tiOf Tryz.prog 47 = some ⟨.other, 1, 8, (some (.nilFunc))⟩ := by kernel_rfl
theorem ti48 : tiOf Tryz.prog 48 = some ⟨.other, 1, 8, (some (.nilFunc))⟩ := by kernel_rfl
theorem ti49 : tiOf Tryz.prog 49 = some ⟨(.slice 5), 1, 24, (some (.slice none 0 0))⟩ := by kernel_rfl
theorem ti50 : tiOf Tryz.prog 50 = some ⟨.other, 1, 8, (some (.nilFunc))⟩ := by kernel_rfl
theorem ti51 : tiOf Tryz.prog 51 = some ⟨.other, 1, 8, (some (.nilFunc))⟩ := by kernel_rfl
theorem ti52 : tiOf Tryz.prog 52 = some ⟨.other, 1, 8, (some (.nilFunc))⟩ := by kernel_rfl
theorem ti53 : tiOf Tryz.prog 53 = some ⟨.other, 1, 8, (some (.nilFunc))⟩ := by kernel_rfl
theorem ti54 : tiOf Tryz.prog 54 = some ⟨.other, 1, 8, (some (.nilFunc))⟩ := by kernel_rfl
theorem ti55 : tiOf Tryz.prog 55 = some ⟨.other, 1, 8, (some (.nilFunc))⟩ := by kernel_rfl
theorem ti56 : tiOf Tryz.prog 56 = some ⟨(.slice 9), 1, 24, (some (.slice none 0 0))⟩ := by kernel_rfl
theorem ti57 : tiOf Tryz.prog 57 = some ⟨(.struct []), 0, 0, (some (.agg #[]))⟩ := by kernel_rfl
theorem ti58 : tiOf Tryz.prog 58 = some ⟨(.struct []), 0, 0, (some (.agg #[]))⟩ := by kernel_rfl
theorem ti59 : tiOf Tryz.prog 59 = some ⟨(.struct []), 0, 0, (some (.agg #[]))⟩ := by kernel_rfl
theorem ti60 : tiOf Tryz.prog 60 = some ⟨(.int .u32), 1, 4, (some (.int .u32 0))⟩ := by kernel_rfl
theorem ti61 : tiOf Tryz.prog 61 = some ⟨(.struct [(0, 59), (0, 60)]), 1, 4, (some (.agg #[.int .u32 0]))⟩ := by kernel_rfl
theorem ti62 : tiOf Tryz.prog 62 = some ⟨(.struct [(0, 59), (0, 60)]), 1, 4, (some (.agg #[.int .u32 0]))⟩ := by kernel_rfl
theorem ti63 : tiOf Tryz.prog 63 = some ⟨(.struct [(0, 21), (1, 60)]), 2, 8, (some (.agg #[.int .i32 0, .int .u32 0]))⟩ := by kernel_rfl
theorem ti64 : tiOf Tryz.prog 64 = some ⟨(.struct [(0, 21), (1, 60)]), 2, 8, (some (.agg #[.int .i32 0, .int .u32 0]))⟩ := by kernel_rfl
theorem ti65 : tiOf Tryz.prog 65 = some ⟨(.struct [(0, 58), (0, 64)]), 2, 8, (some (.agg #[.int .i32 0, .int .u32 0]))⟩ := by kernel_rfl
theorem ti66 : tiOf Tryz.prog 66 = some ⟨(.struct [(0, 58), (0, 64)]), 2, 8, (some (.agg #[.int .i32 0, .int .u32 0]))⟩ := by kernel_rfl
theorem ti67 : tiOf Tryz.prog 67 = some ⟨(.struct [(0, 58), (0, 62), (1, 66)]), 3, 12, (some (.agg #[.int .u32 0, .int .i32 0, .int .u32 0]))⟩ := by kernel_rfl
theorem ti68 : tiOf Tryz.prog 68 = some ⟨(.struct [(0, 58), (0, 62), (1, 66)]), 3, 12, (some (.agg #[.int .u32 0, .int .i32 0, .int .u32 0]))⟩ := by kernel_rfl
theorem ti70 : tiOf Tryz.prog 70 = some ⟨.other, 1, 16, (some (.nilIface))⟩ := by kernel_rfl
theorem ti71 : tiOf Tryz.prog 71 = some ⟨(.struct [(0, 68), (3, 70), (4, 56)]), 5, 56, (some (.agg #[.int .u32 0, .int .i32 0, .int .u32 0, .nilIface, .slice none 0 0]))⟩ := by kernel_rfl
theorem ti72 : tiOf Tryz.prog 72 = some ⟨(.struct [(0, 68), (3, 70), (4, 56)]), 5, 56, (some (.agg #[.int .u32 0, .int .i32 0, .int .u32 0, .nilIface, .slice none 0 0]))⟩ := by kernel_rfl
theorem ti73 : tiOf Tryz.prog 73 = some ⟨.other, 1, 8, (some (.nilFunc))⟩ := by kernel_rfl
theorem ti75 : tiOf Tryz.prog 75 = some ⟨.other, 1, 8, (some (.nilFunc))⟩ := by kernel_rfl
theorem ti76 : tiOf Tryz.prog 76 = some ⟨.other, 1, 8, (some (.nilFunc))⟩ := by kernel_rfl
theorem ti77 : tiOf Tryz.prog 77 = some ⟨.other, 1, 8, (some (.nilFunc))⟩ := by kernel_rfl
theorem ti78 : tiOf Tryz.prog 78 = some ⟨.other, 1, 8, (some (.nilFunc))⟩ := by kernel_rfl
theorem ti79 : tiOf Tryz.prog 79 = some ⟨(.array 256 4), 256, 256, (some (.agg (Array.replicate 256 (.bool false))))⟩ := by kernel_rfl
theorem ti80 : tiOf Tryz.prog 80 = some ⟨(.array 256 4), 256, 256, (some (.agg (Array.replicate 256 (.bool false))))⟩ := by kernel_rfl
theorem ti82 : tiOf Tryz.prog 82 = some ⟨.other, 1, 8, (some (.nilFunc))⟩ := by kernel_rfl
theorem ti83 : tiOf Tryz.prog 83 = some ⟨.other, 1, 8, (some (.nilFunc))⟩ := by kernel_rfl
theorem ti84 : tiOf Tryz.prog 84 = some ⟨(.ptr 80), 1, 8, (some (.pointer none))⟩ := by kernel_rfl
theorem ti85 : tiOf Tryz.prog 85 = some ⟨(.ptr 68), 1, 8, (some (.pointer none))⟩ := by kernel_rfl
theorem ti86 : tiOf Tryz.prog 86 = some ⟨.other, 1, 8, (some (.nilFunc))⟩ := by kernel_rfl
theorem ti87 : tiOf Tryz.prog 87 = some ⟨.other, 1, 8, (some (.nilFunc))⟩ := by kernel_rfl
theorem ti88 : tiOf Tryz.prog 88 = some ⟨.other, 1, 8, (some (.nilFunc))⟩ := by kernel_rfl
theorem ti89 : tiOf Tryz.prog 89 = some ⟨(.ptr 62), 1, 8, (some (.pointer none))⟩ := by kernel_rfl
theorem ti90 : tiOf Tryz.prog 90 = some ⟨.other, 1, 8, (some (.nilFunc))⟩ := by kernel_rfl
theorem ti91 : tiOf Tryz.prog 91 = some ⟨(.ptr 60), 1, 8, (some (.pointer none))⟩ := by kernel_rfl
theorem ti92 : tiOf Tryz.prog 92 = some ⟨.other, 1, 8, (some (.nilFunc))⟩ := by kernel_rfl
theorem ti93 : tiOf Tryz.prog 93 = some ⟨(.ptr 111), 1, 8, (some (.pointer none))⟩ := by kernel_rfl
theorem ti94 : tiOf Tryz.prog 94 = some ⟨.other, 1, 8, (some (.nilFunc))⟩ := by kernel_rfl
theorem ti95 : tiOf Tryz.prog 95 = some ⟨(.ptr 117), 1, 8, (some (.pointer none))⟩ := by kernel_rfl
theorem ti96 : tiOf Tryz.prog 96 = some ⟨.other, 1, 8, (some (.nilFunc))⟩ := by kernel_rfl
theorem ti97 : tiOf Tryz.prog 97 = some ⟨(.array 256 5), 256, 256, (some (.agg (Array.replicate 256 (.int .u8 0))))⟩ := by kernel_rfl
theorem ti98 : tiOf Tryz.prog 98 = some ⟨(.array 256 5), 256, 256, (some (.agg (Array.replicate 256 (.int .u8 0))))⟩ := by kernel_rfl
theorem ti99 : tiOf Tryz.prog 99 = some ⟨(.ptr 98), 1, 8, (some (.pointer none))⟩ := by kernel_rfl
theorem ti100 : tiOf Tryz.prog 100 = some ⟨(.array 256 49), 256, 6144, (some (.agg (Array.replicate 256 (.slice none 0 0))))⟩ := by kernel_rfl
theorem ti101 : tiOf Tryz.prog 101 = some ⟨(.struct [(0, 100), (256, 56)]), 257, 6168, (some (.agg (Array.replicate 257 (.slice none 0 0))))⟩ := by kernel_rfl
theorem ti102 : tiOf Tryz.prog 102 = some ⟨(.struct [(0, 100), (256, 56)]), 257, 6168, (some (.agg (Array.replicate 257 (.slice none 0 0))))⟩ := by kernel_rfl
theorem ti103 : tiOf Tryz.prog 103 = some ⟨(.ptr 102), 1, 8, (some (.pointer none))⟩ := by kernel_rfl
theorem ti104 : tiOf Tryz.prog 104 = some ⟨.other, 1, 8, (some (.nilFunc))⟩ := by kernel_rfl
theorem ti105 : tiOf Tryz.prog 105 = some ⟨(.ptr 66), 1, 8, (some (.pointer none))⟩ := by kernel_rfl
theorem ti106 : tiOf Tryz.prog 106 = some ⟨.other, 1, 8, (some (.nilFunc))⟩ := by kernel_rfl
theorem ti107 : tiOf Tryz.prog 107 = some ⟨.other, 1, 8, (some (.nilFunc))⟩ := by kernel_rfl
theorem ti108 : tiOf Tryz.prog 108 = some ⟨(.ptr 136), 1, 8, (some (.pointer none))⟩ := by kernel_rfl
theorem ti109 : tiOf Tryz.prog 109 = some ⟨.other, 1, 8, (some (.nilFunc))⟩ := by kernel_rfl
theorem ti110 : tiOf Tryz.prog 110 = some ⟨(.struct [(0, 108), (1, 9)]), 2, 24, (some (.agg #[.pointer none, .string ⟨#[]⟩]))⟩ := by kernel_rfl
theorem ti111 : tiOf Tryz.prog 111 = some ⟨(.struct [(0, 108), (1, 9)]), 2, 24, (some (.agg #[.pointer none, .string ⟨#[]⟩]))⟩ := by kernel_rfl
theorem ti112 : tiOf Tryz.prog 112 = some ⟨(.ptr 115), 1, 8, (some (.pointer none))⟩ := by kernel_rfl
theorem ti113 : tiOf Tryz.prog 113 = some ⟨(.slice 112), 1, 24, (some (.slice none 0 0))⟩ := by kernel_rfl
theorem ti114 : tiOf Tryz.prog 114 = some ⟨(.struct [(0, 9), (1, 3), (2, 9), (3, 112), (4, 113)]), 5, 72, (some (.agg #[.string ⟨#[]⟩, .int .i64 0, .string ⟨#[]⟩, .pointer none, .slice none 0 0]))⟩ := by kernel_rfl
theorem ti115 : tiOf Tryz.prog 115 = some ⟨(.struct [(0, 9), (1, 3), (2, 9), (3, 112), (4, 113)]), 5, 72, (some (.agg #[.string ⟨#[]⟩, .int .i64 0, .string ⟨#[]⟩, .pointer none, .slice none 0 0]))⟩ := by kernel_rfl
theorem ti118 : tiOf Tryz.prog 118 = some ⟨.other, 1, 8, (some (.nilFunc))⟩ := by kernel_rfl
theorem ti119 : tiOf Tryz.prog 119 = some ⟨(.int .u64), 1, 8, (some (.int .u64 0))⟩ := by kernel_rfl
theorem ti120 : tiOf Tryz.prog 120 = some ⟨(.struct [(0, 5), (1, 5)]), 2, 2, (some (.agg #[.int .u8 0, .int .u8 0]))⟩ := by kernel_rfl
theorem ti121 : tiOf Tryz.prog 121 = some ⟨(.struct [(0, 5), (1, 5)]), 2, 2, (some (.agg #[.int .u8 0, .int .u8 0]))⟩ := by kernel_rfl
theorem ti122 : tiOf Tryz.prog 122 = some ⟨(.array 16 121), 32, 32, (some (.agg (Array.replicate 32 (.int .u8 0))))⟩ := by kernel_rfl
theorem ti123 : tiOf Tryz.prog 123 = some ⟨.other, 1, 8, (some (.nilFunc))⟩ := by kernel_rfl
theorem ti124 : tiOf Tryz.prog 124 = some ⟨.other, 1, 8, (some (.nilFunc))⟩ := by kernel_rfl
theorem ti125 : tiOf Tryz.prog 125 = some ⟨.other, 1, 8, (some (.nilFunc))⟩ := by kernel_rfl
theorem ti126 : tiOf Tryz.prog 126 = some ⟨(.ptr 64), 1, 8, (some (.pointer none))⟩ := by kernel_rfl
theorem ti127 : tiOf Tryz.prog 127 = some ⟨.other, 1, 8, (some (.nilFunc))⟩ := by kernel_rfl
theorem ti128 : tiOf Tryz.prog 128 = some ⟨(.ptr 21), 1, 8, (some (.pointer none))⟩ := by kernel_rfl
theorem ti129 : tiOf Tryz.prog 129 = some ⟨.other, 1, 8, (some (.nilFunc))⟩ := by kernel_rfl
theorem ti130 : tiOf Tryz.prog 130 = some ⟨.other, 1, 8, (some (.pointer none))⟩ := by kernel_rfl
theorem ti131 : tiOf Tryz.prog 131 = some ⟨.other, 1, 8, (some (.nilFunc))⟩ := by kernel_rfl
theorem ti132 : tiOf Tryz.prog 132 = some ⟨.other, 1, 8, (some (.nilFunc))⟩ := by kernel_rfl
theorem ti133 : tiOf Tryz.prog 133 = some ⟨(.slice 3), 1, 24, (some (.slice none 0 0))⟩ := by kernel_rfl
theorem ti134 : tiOf Tryz.prog 134 = some ⟨(.array 256 3), 256, 2048, (some (.agg (Array.replicate 256 (.int .i64 0))))⟩ := by kernel_rfl
theorem ti137 : tiOf Tryz.prog 137 = some ⟨.other, 1, 8, (some (.nilFunc))⟩ := by kernel_rfl
theorem ti138 : tiOf Tryz.prog 138 = some ⟨.other, 1, 8, (some (.nilFunc))⟩ := by kernel_rfl
theorem ti139 : tiOf Tryz.prog 139 = some ⟨.other, 1, 8, (some (.nilFunc))⟩ := by kernel_rfl
theorem ti140 : tiOf Tryz.prog 140 = some ⟨.other, 1, 8, (some (.nilFunc))⟩ := by kernel_rfl
theorem ti141 : tiOf Tryz.prog 141 = some ⟨.other, 1, 8, (some (.nilFunc))⟩ := by kernel_rfl
theorem ti142 : tiOf Tryz.prog 142 = some ⟨(.struct [(0, 17), (1, 17), (2, 17), (3, 9)]), 4, 40, (some (.agg #[.pointer none, .pointer none, .pointer none, .string ⟨#[]⟩]))⟩ := by kernel_rfl
theorem ti143 : tiOf Tryz.prog 143 = some ⟨(.struct [(0, 17), (1, 17), (2, 17), (3, 9)]), 4, 40, (some (.agg #[.pointer none, .pointer none, .pointer none, .string ⟨#[]⟩]))⟩ := by kernel_rfl
theorem ti144 : tiOf Tryz.prog 144 = some ⟨(.array 0 16), 0, 0, (some (.agg #[]))⟩ := by kernel_rfl
theorem ti145 : tiOf Tryz.prog 145 = some ⟨(.struct [(0, 144)]), 0, 0, (some (.agg #[]))⟩ := by kernel_rfl
theorem ti146 : tiOf Tryz.prog 146 = some ⟨(.struct [(0, 144)]), 0, 0, (some (.agg #[]))⟩ := by kernel_rfl
theorem ti147 : tiOf Tryz.prog 147 = some ⟨.other, 1, 8, (some (.nilFunc))⟩ := by kernel_rfl
theorem ti148 : tiOf Tryz.prog 148 = some ⟨(.int .u8), 1, 1, (some (.int .u8 0))⟩ := by kernel_rfl
theorem ti149 : tiOf Tryz.prog 149 = some ⟨(.int .u8), 1, 1, (some (.int .u8 0))⟩ := by kernel_rfl
theorem ti150 : tiOf Tryz.prog 150 = some ⟨.other, 1, 8, (some (.nilFunc))⟩ := by kernel_rfl
theorem ti151 : tiOf Tryz.prog 151 = some ⟨(.ptr 5), 1, 8, (some (.pointer none))⟩ := by kernel_rfl
theorem ti152 : tiOf Tryz.prog 152 = some ⟨(.int .i32), 1, 4, (some (.int .i32 0))⟩ := by kernel_rfl
theorem ti153 : tiOf Tryz.prog 153 = some ⟨(.int .i32), 1, 4, (some (.int .i32 0))⟩ := by kernel_rfl
theorem ti154 : tiOf Tryz.prog 154 = some ⟨(.struct [(0, 12), (1, 12), (2, 60), (3, 148), (4, 5), (5, 5), (6, 149), (7, 150), (8, 151), (9, 152), (10, 153)]), 11, 48, (some (.agg #[.int .u64 0, .int .u64 0, .int .u32 0, .int .u8 0, .int .u8 0, .int .u8 0, .int .u8 0, .nilFunc, .pointer none, .int .i32 0, .int .i32 0]))⟩ := by kernel_rfl
theorem ti155 : tiOf Tryz.prog 155 = some ⟨(.struct [(0, 12), (1, 12), (2, 60), (3, 148), (4, 5), (5, 5), (6, 149), (7, 150), (8, 151), (9, 152), (10, 153)]), 11, 48, (some (.agg #[.int .u64 0, .int .u64 0, .int .u32 0, .int .u8 0, .int .u8 0, .int .u8 0, .int .u8 0, .nilFunc, .pointer none, .int .i32 0, .int .i32 0]))⟩ := by kernel_rfl
theorem ti156 : tiOf Tryz.prog 156 = some ⟨.other, 1, 8, (some (.nilFunc))⟩ := by kernel_rfl
theorem ti157 : tiOf Tryz.prog 157 = some ⟨(.ptr 159), 1, 8, (some (.pointer none))⟩ := by kernel_rfl
theorem ti158 : tiOf Tryz.prog 158 = some ⟨(.struct [(0, 157), (1, 49)]), 2, 32, (some (.agg #[.pointer none, .slice none 0 0]))⟩ := by kernel_rfl
theorem ti159 : tiOf Tryz.prog 159 = some ⟨(.struct [(0, 157), (1, 49)]), 2, 32, (some (.agg #[.pointer none, .slice none 0 0]))⟩ := by kernel_rfl
theorem ti160 : tiOf Tryz.prog 160 = some ⟨.other, 1, 8, (some (.nilFunc))⟩ := by kernel_rfl
theorem ti161 : tiOf Tryz.prog 161 = some ⟨.other, 1, 8, (some (.nilFunc))⟩ := by kernel_rfl
theorem ti163 : tiOf Tryz.prog 163 = some ⟨.other, 1, 16, (some (.nilIface))⟩ := by kernel_rfl
theorem ti165 : tiOf Tryz.prog 165 = some ⟨.other, 1, 8, (some (.nilFunc))⟩ := by kernel_rfl
theorem ti166 : tiOf Tryz.prog 166 = some ⟨.other, 1, 8, (some (.nilFunc))⟩ := by kernel_rfl
theorem ti167 : tiOf Tryz.prog 167 = some ⟨.other, 1, 8, (some (.nilFunc))⟩ := by kernel_rfl
theorem ti168 : tiOf Tryz.prog 168 = some ⟨(.slice 5), 1, 24, (some (.slice none 0 0))⟩ := by kernel_rfl
theorem ti169 : tiOf Tryz.prog 169 = some ⟨(.ptr 168), 1, 8, (some (.pointer none))⟩ := by kernel_rfl
theorem ti171 : tiOf Tryz.prog 171 = some ⟨.other, 1, 16, (some (.nilIface))⟩ := by kernel_rfl
theorem ti173 : tiOf Tryz.prog 173 = some ⟨.other, 1, 16, (some (.nilIface))⟩ := by kernel_rfl
theorem ti174 : tiOf Tryz.prog 174 = some ⟨.other, 1, 8, (some (.nilFunc))⟩ := by kernel_rfl
theorem ti176 : tiOf Tryz.prog 176 = some ⟨.other, 1, 8, (some (.nilFunc))⟩ := by kernel_rfl
theorem ti178 : tiOf Tryz.prog 178 = some ⟨(.struct [(0, 171)]), 1, 16, (some (.agg #[.nilIface]))⟩ := by kernel_rfl
theorem ti179 : tiOf Tryz.prog 179 = some ⟨(.struct [(0, 171)]), 1, 16, (some (.agg #[.nilIface]))⟩ := by kernel_rfl
theorem ti180 : tiOf Tryz.prog 180 = some ⟨.other, 1, 8, (some (.nilFunc))⟩ := by kernel_rfl
theorem ti182 : tiOf Tryz.prog 182 = some ⟨.other, 1, 8, (some (.nilFunc))⟩ := by kernel_rfl
theorem eqk41 : eqKs Tryz.prog 41 = some [.str, .str] := by kernel_rfl
theorem uns130 : isUnsafe Tryz.prog 130 = true := by kernel_rfl
theorem tyo2 : tyOf Tryz.prog 12 2 = some (.int .i64) := by kernel_rfl
theorem tyo3 : tyOf Tryz.prog 12 3 = some (.int .i64) := by kernel_rfl
theorem tyo4 : tyOf Tryz.prog 12 4 = some (.bool) := by kernel_rfl
theorem tyo5 : tyOf Tryz.prog 12 5 = some (.int .u8) := by kernel_rfl
theorem tyo6 : tyOf Tryz.prog 12 6 = some (.int .u8) := by kernel_rfl
theorem tyo7 : tyOf Tryz.prog 12 7 = some (.pair (.int .i64) (.pair (.int .i64) (.pair (.bool) (.int .u8)))) := by kernel_rfl
theorem tyo8 : tyOf Tryz.prog 12 8 = some (.pair (.int .i64) (.pair (.int .i64) (.pair (.bool) (.int .u8)))) := by kernel_rfl
theorem tyo9 : tyOf Tryz.prog 12 9 = some (.str) := by kernel_rfl
theorem tyo10 : tyOf Tryz.prog 12 10 = some (.str) := by kernel_rfl
theorem tyo11 : tyOf Tryz.prog 12 11 = some (.str) := by kernel_rfl
theorem tyo12 : tyOf Tryz.prog 12 12 = some (.int .u64) := by kernel_rfl
theorem tyo13 : tyOf Tryz.prog 12 13 = some (.pair (.str) (.int .u64)) := by kernel_rfl
theorem tyo14 : tyOf Tryz.prog 12 14 = some (.pair (.str) (.int .u64)) := by kernel_rfl
theorem tyo21 : tyOf Tryz.prog 12 21 = some (.int .i32) := by kernel_rfl
theorem tyo22 : tyOf Tryz.prog 12 22 = some (.slice (.pair (.str) (.str))) := by kernel_rfl
theorem tyo23 : tyOf Tryz.prog 12 23 = some (.pair (.str) (.pair (.str) (.slice (.pair (.str) (.str))))) := by kernel_rfl
theorem tyo24 : tyOf Tryz.prog 12 24 = some (.pair (.str) (.pair (.str) (.slice (.pair (.str) (.str))))) := by kernel_rfl
theorem tyo27 : tyOf Tryz.prog 12 27 = some (.int .i64) := by kernel_rfl
theorem tyo40 : tyOf Tryz.prog 12 40 = some (.pair (.str) (.str)) := by kernel_rfl
theorem tyo41 : tyOf Tryz.prog 12 41 = some (.pair (.str) (.str)) := by kernel_rfl
theorem tyo49 : tyOf Tryz.prog 12 49 = some (.slice (.int .u8)) := by kernel_rfl
theorem tyo56 : tyOf Tryz.prog 12 56 = some (.slice (.str)) := by kernel_rfl
theorem tyo60 : tyOf Tryz.prog 12 60 = some (.int .u32) := by kernel_rfl
theorem tyo63 : tyOf Tryz.prog 12 63 = some (.pair (.int .i32) (.int .u32)) := by kernel_rfl
theorem tyo64 : tyOf Tryz.prog 12 64 = some (.pair (.int .i32) (.int .u32)) := by kernel_rfl
theorem tyo119 : tyOf Tryz.prog 12 119 = some (.int .u64) := by kernel_rfl
theorem tyo120 : tyOf Tryz.prog 12 120 = some (.pair (.int .u8) (.int .u8)) := by kernel_rfl
theorem tyo121 : tyOf Tryz.prog 12 121 = some (.pair (.int .u8) (.int .u8)) := by kernel_rfl
theorem tyo133 : tyOf Tryz.prog 12 133 = some (.slice (.int .i64)) := by kernel_rfl
theorem tyo148 : tyOf Tryz.prog 12 148 = some (.int .u8) := by kernel_rfl
theorem tyo149 : tyOf Tryz.prog 12 149 = some (.int .u8) := by kernel_rfl
theorem tyo152 : tyOf Tryz.prog 12 152 = some (.int .i32) := by kernel_rfl
theorem tyo153 : tyOf Tryz.prog 12 153 = some (.int .i32) := by kernel_rfl
theorem tyo168 : tyOf Tryz.prog 12 168 = some (.slice (.int .u8)) := by kernel_rfl
theorem arr1 : arrOf Tryz.prog 1 = none := by kernel_rfl
theorem arr2 : arrOf Tryz.prog 2 = none := by kernel_rfl
theorem arr3 : arrOf Tryz.prog 3 = none := by kernel_rfl
theorem arr4 : arrOf Tryz.prog 4 = none := by kernel_rfl
theorem arr5 : arrOf Tryz.prog 5 = none := by kernel_rfl
theorem arr6 : arrOf Tryz.prog 6 = none := by kernel_rfl
theorem arr7 : arrOf Tryz.prog 7 = none := by kernel_rfl
theorem arr8 : arrOf Tryz.prog 8 = none := by kernel_rfl
theorem arr9 : arrOf Tryz.prog 9 = none := by kernel_rfl
theorem arr10 : arrOf Tryz.prog 10 = none := by kernel_rfl
theorem arr11 : arrOf Tryz.prog 11 = none := by kernel_rfl
theorem arr12 : arrOf Tryz.prog 12 = none := by kernel_rfl
theorem arr13 : arrOf Tryz.prog 13 = none := by kernel_rfl
theorem arr14 : arrOf Tryz.prog 14 = none := by kernel_rfl
theorem arr15 : arrOf Tryz.prog 15 = none := by kernel_rfl
theorem arr16 : arrOf Tryz.prog 16 = none := by kernel_rfl
theorem arr17 : arrOf Tryz.prog 17 = none := by kernel_rfl
theorem arr18 : arrOf Tryz.prog 18 = none := by kernel_rfl
theorem arr19 : arrOf Tryz.prog 19 = none := by kernel_rfl
theorem arr21 : arrOf Tryz.prog 21 = none := by kernel_rfl
theorem arr22 : arrOf Tryz.prog 22 = none := by kernel_rfl
theorem arr23 : arrOf Tryz.prog 23 = none := by kernel_rfl
theorem arr24 : arrOf Tryz.prog 24 = none := by kernel_rfl
theorem arr25 : arrOf Tryz.prog 25 = none := by kernel_rfl
theorem arr26 : arrOf Tryz.prog 26 = none := by kernel_rfl
theorem arr27 : arrOf Tryz.prog 27 = none := by kernel_rfl
theorem arr29 : arrOf Tryz.prog 29 = none := by kernel_rfl
theorem arr31 : arrOf Tryz.prog 31 = none := by kernel_rfl
theorem arr33 : arrOf Tryz.prog 33 = none := by kernel_rfl
theorem arr35 : arrOf Tryz.prog 35 = none := by kernel_rfl
theorem arr37 : arrOf Tryz.prog 37 = none := by kernel_rfl
theorem arr38 : arrOf Tryz.prog 38 = none := by kernel_rfl
theorem arr39 : arrOf Tryz.prog 39 = none := by kernel_rfl
theorem arr40 : arrOf Tryz.prog 40 = none := by kernel_rfl
theorem arr41 : arrOf Tryz.prog 41 = none := by kernel_rfl
theorem arr42 : arrOf Tryz.prog 42 = none := by kernel_rfl
theorem arr43 : arrOf Tryz.prog 43 = none := by kernel_rfl
theorem arr44 : arrOf Tryz.prog 44 = none := by kernel_rfl
theorem arr45 : arrOf Tryz.prog 45 = none := by kernel_rfl
theorem arr46 : arrOf Tryz.prog 46 = none := by kernel_rfl
theorem arr47 : arrOf Tryz.prog 47 = none := by kernel_rfl
theorem arr48 : arrOf Tryz.prog 48 = none := by kernel_rfl
theorem arr49 : arrOf Tryz.prog 49 = none := by kernel_rfl
theorem arr50 : arrOf Tryz.prog 50 = none := by kernel_rfl
theorem arr51 : arrOf Tryz.prog 51 = none := by kernel_rfl
theorem arr52 : arrOf Tryz.prog 52 = none := by kernel_rfl
theorem arr53 : arrOf Tryz.prog 53 = none := by kernel_rfl
theorem arr54 : arrOf Tryz.prog 54 = none := by kernel_rfl
theorem arr55 : arrOf Tryz.prog 55 = none := by kernel_rfl
theorem arr56 : arrOf Tryz.prog 56 = none := by kernel_rfl
theorem arr57 : arrOf Tryz.prog 57 = none := by kernel_rfl
theorem arr58 : arrOf Tryz.prog 58 = none := by kernel_rfl
theorem arr59 : arrOf Tryz.prog 59 = none := by kernel_rfl
theorem arr60 : arrOf Tryz.prog 60 = none := by kernel_rfl
theorem arr61 : arrOf Tryz.prog 61 = none := by kernel_rfl
theorem arr62 : arrOf Tryz.prog 62 = none := by kernel_rfl
theorem arr63 : arrOf Tryz.prog 63 = none := by kernel_rfl
theorem arr64 : arrOf Tryz.prog 64 = none := by kernel_rfl
theorem arr65 : arrOf Tryz.prog 65 = none := by kernel_rfl
theorem arr66 : arrOf Tryz.prog 66 = none := by kernel_rfl
theorem arr67 : arrOf Tryz.prog 67 = none := by kernel_rfl
theorem arr68 : arrOf Tryz.prog 68 = none := by kernel_rfl
theorem arr70 : arrOf Tryz.prog 70 = none := by kernel_rfl
theorem arr71 : arrOf Tryz.prog 71 = none := by kernel_rfl
theorem arr72 : arrOf Tryz.prog 72 = none := by kernel_rfl
theorem arr73 : arrOf Tryz.prog 73 = none := by kernel_rfl
theorem arr75 : arrOf Tryz.prog 75 = none := by kernel_rfl
theorem arr76 : arrOf Tryz.prog 76 = none := by kernel_rfl
theorem arr77 : arrOf Tryz.prog 77 = none := by kernel_rfl
theorem arr78 : arrOf Tryz.prog 78 = none := by kernel_rfl
theorem arr79 : arrOf Tryz.prog 79 = some (.bool, 256) := by kernel_rfl
theorem arr80 : arrOf Tryz.prog 80 = some (.bool, 256) := by kernel_rfl
theorem arr82 : arrOf Tryz.prog 82 = none := by kernel_rfl
theorem arr83 : arrOf Tryz.prog 83 = none := by kernel_rfl
theorem arr84 : arrOf Tryz.prog 84 = none := by kernel_rfl
theorem arr85 : arrOf Tryz.prog 85 = none := by kernel_rfl
theorem arr86 : arrOf Tryz.prog 86 = none := by kernel_rfl
theorem arr87 : arrOf Tryz.prog 87 = none := by kernel_rfl
theorem arr88 : arrOf Tryz.prog 88 = none := by kernel_rfl
theorem arr89 : arrOf Tryz.prog 89 = none := by kernel_rfl
theorem arr90 : arrOf Tryz.prog 90 = none := by kernel_rfl
theorem arr91 : arrOf Tryz.prog 91 = none := by kernel_rfl
theorem arr92 : arrOf Tryz.prog 92 = none := by kernel_rfl
theorem arr93 : arrOf Tryz.prog 93 = none := by kernel_rfl
theorem arr94 : arrOf Tryz.prog 94 = none := by kernel_rfl
theorem arr95 : arrOf Tryz.prog 95 = none := by kernel_rfl
theorem arr96 : arrOf Tryz.prog 96 = none := by kernel_rfl
theorem arr97 : arrOf Tryz.prog 97 = some (.int .u8, 256) := by kernel_rfl
theorem arr98 : arrOf Tryz.prog 98 = some (.int .u8, 256) := by kernel_rfl
theorem arr99 : arrOf Tryz.prog 99 = none := by kernel_rfl
theorem arr100 : arrOf Tryz.prog 100 = none := by kernel_rfl
theorem arr101 : arrOf Tryz.prog 101 = none := by kernel_rfl
theorem arr102 : arrOf Tryz.prog 102 = none := by kernel_rfl
theorem arr103 : arrOf Tryz.prog 103 = none := by kernel_rfl
theorem arr104 : arrOf Tryz.prog 104 = none := by kernel_rfl
theorem arr105 : arrOf Tryz.prog 105 = none := by kernel_rfl
theorem arr106 : arrOf Tryz.prog 106 = none := by kernel_rfl
theorem arr107 : arrOf Tryz.prog 107 = none := by kernel_rfl
theorem arr108 : arrOf Tryz.prog 108 = none := by kernel_rfl
theorem arr109 : arrOf Tryz.prog 109 = none := by kernel_rfl
theorem arr110 : arrOf Tryz.prog 110 = none := by kernel_rfl
theorem arr111 : arrOf Tryz.prog 111 = none := by kernel_rfl
theorem arr112 : arrOf Tryz.prog 112 = none := by kernel_rfl
theorem arr113 : arrOf Tryz.prog 113 = none := by kernel_rfl
theorem arr114 : arrOf Tryz.prog 114 = none := by kernel_rfl
theorem arr115 : arrOf Tryz.prog 115 = none := by kernel_rfl
theorem arr118 : arrOf Tryz.prog 118 = none := by kernel_rfl
theorem arr119 : arrOf Tryz.prog 119 = none := by kernel_rfl
theorem arr120 : arrOf Tryz.prog 120 = none := by kernel_rfl
theorem arr121 : arrOf Tryz.prog 121 = none := by kernel_rfl
theorem arr122 : arrOf Tryz.prog 122 = none := by kernel_rfl
theorem arr123 : arrOf Tryz.prog 123 = none := by kernel_rfl
theorem arr124 : arrOf Tryz.prog 124 = none := by kernel_rfl
theorem arr125 : arrOf Tryz.prog 125 = none := by kernel_rfl
theorem arr126 : arrOf Tryz.prog 126 = none := by kernel_rfl
theorem arr127 : arrOf Tryz.prog 127 = none := by kernel_rfl
theorem arr128 : arrOf Tryz.prog 128 = none := by kernel_rfl
theorem arr129 : arrOf Tryz.prog 129 = none := by kernel_rfl
theorem arr130 : arrOf Tryz.prog 130 = none := by kernel_rfl
theorem arr131 : arrOf Tryz.prog 131 = none := by kernel_rfl
theorem arr132 : arrOf Tryz.prog 132 = none := by kernel_rfl
theorem arr133 : arrOf Tryz.prog 133 = none := by kernel_rfl
theorem arr134 : arrOf Tryz.prog 134 = some (.int .i64, 256) := by kernel_rfl
theorem arr137 : arrOf Tryz.prog 137 = none := by kernel_rfl
theorem arr138 : arrOf Tryz.prog 138 = none := by kernel_rfl
theorem arr139 : arrOf Tryz.prog 139 = none := by kernel_rfl
theorem arr140 : arrOf Tryz.prog 140 = none := by kernel_rfl
theorem arr141 : arrOf Tryz.prog 141 = none := by kernel_rfl
theorem arr142 : arrOf Tryz.prog 142 = none := by kernel_rfl
theorem arr143 : arrOf Tryz.prog 143 = none := by kernel_rfl
theorem arr144 : arrOf Tryz.prog 144 = none := by kernel_rfl
theorem arr145 : arrOf Tryz.prog 145 = none := by kernel_rfl
theorem arr146 : arrOf Tryz.prog 146 = none := by kernel_rfl
theorem arr147 : arrOf Tryz.prog 147 = none := by kernel_rfl
theorem arr148 : arrOf Tryz.prog 148 = none := by kernel_rfl
theorem arr149 : arrOf Tryz.prog 149 = none := by kernel_rfl
theorem arr150 : arrOf Tryz.prog 150 = none := by kernel_rfl
theorem arr151 : arrOf Tryz.prog 151 = none := by kernel_rfl
theorem arr152 : arrOf Tryz.prog 152 = none := by kernel_rfl
theorem arr153 : arrOf Tryz.prog 153 = none := by kernel_rfl
theorem arr154 : arrOf Tryz.prog 154 = none := by kernel_rfl
theorem arr155 : arrOf Tryz.prog 155 = none := by kernel_rfl
theorem arr156 : arrOf Tryz.prog 156 = none := by kernel_rfl
theorem arr157 : arrOf Tryz.prog 157 = none := by kernel_rfl
theorem arr158 : arrOf Tryz.prog 158 = none := by kernel_rfl
theorem arr159 : arrOf Tryz.prog 159 = none := by kernel_rfl
theorem arr160 : arrOf Tryz.prog 160 = none := by kernel_rfl
theorem arr161 : arrOf Tryz.prog 161 = none := by kernel_rfl
theorem arr163 : arrOf Tryz.prog 163 = none := by kernel_rfl
theorem arr165 : arrOf Tryz.prog 165 = none := by kernel_rfl
theorem arr166 : arrOf Tryz.prog 166 = none := by kernel_rfl
theorem arr167 : arrOf Tryz.prog 167 = none := by kernel_rfl
theorem arr168 : arrOf Tryz.prog 168 = none := by kernel_rfl
theorem arr169 : arrOf Tryz.prog 169 = none := by kernel_rfl
theorem arr171 : arrOf Tryz.prog 171 = none := by kernel_rfl
theorem arr173 : arrOf Tryz.prog 173 = none := by kernel_rfl
theorem arr174 : arrOf Tryz.prog 174 = none := by kernel_rfl
theorem arr176 : arrOf Tryz.prog 176 = none := by kernel_rfl
theorem arr178 : arrOf Tryz.prog 178 = none := by kernel_rfl
theorem arr179 : arrOf Tryz.prog 179 = none := by kernel_rfl
theorem arr180 : arrOf Tryz.prog 180 = none := by kernel_rfl
theorem arr182 : arrOf Tryz.prog 182 = none := by kernel_rfl

end Go.Proofs.YtnbicdeehppgpaaGreatDoor
