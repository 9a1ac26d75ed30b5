/- Proved here: what the types of the program are. No condition. -/
import Derived.Test.YtflpphgccjlkjaaProg
import Derived.Test.YtflpphgccjlkjaaAmZd
import Derived.KernelRfl
namespace Go.Proofs.Ytflpphgccjlkjaa
open Go Go.AM
theorem ty1 : tyOf Try.prog 1 = some ⟨.func, 1, 8, some (.nilFunc)⟩ := by kernel_rfl
theorem ty2 : tyOf Try.prog 2 = some ⟨.int .i64, 1, 8, some (.int .i64 0)⟩ := by kernel_rfl
theorem ty3 : tyOf Try.prog 3 = some ⟨.int .i64, 1, 8, some (.int .i64 0)⟩ := by kernel_rfl
theorem ty4 : tyOf Try.prog 4 = some ⟨.bool, 1, 1, some (.bool false)⟩ := by kernel_rfl
theorem ty5 : tyOf Try.prog 5 = some ⟨.int .u8, 1, 1, some (.int .u8 0)⟩ := by kernel_rfl
theorem ty6 : tyOf Try.prog 6 = some ⟨.int .u8, 1, 1, some (.int .u8 0)⟩ := by kernel_rfl
theorem ty7 : tyOf Try.prog 7 = some ⟨.struct [(0, 2), (1, 3), (2, 4), (3, 6)], 4, 24, some (.agg #[.int .i64 0, .int .i64 0, .bool false, .int .u8 0])⟩ := by kernel_rfl
theorem ty8 : tyOf Try.prog 8 = some ⟨.struct [(0, 2), (1, 3), (2, 4), (3, 6)], 4, 24, some (.agg #[.int .i64 0, .int .i64 0, .bool false, .int .u8 0])⟩ := by kernel_rfl
theorem ty9 : tyOf Try.prog 9 = some ⟨.string, 1, 16, some (.string ⟨#[]⟩)⟩ := by kernel_rfl
theorem ty10 : tyOf Try.prog 10 = some ⟨.string, 1, 16, some (.string ⟨#[]⟩)⟩ := by kernel_rfl
theorem ty11 : tyOf Try.prog 11 = some ⟨.string, 1, 16, some (.string ⟨#[]⟩)⟩ := by kernel_rfl
theorem ty12 : tyOf Try.prog 12 = some ⟨.int .u64, 1, 8, some (.int .u64 0)⟩ := by kernel_rfl
theorem ty13 : tyOf Try.prog 13 = some ⟨.struct [(0, 9), (1, 12)], 2, 24, some (.agg #[.string ⟨#[]⟩, .int .u64 0])⟩ := by kernel_rfl
theorem ty14 : tyOf Try.prog 14 = some ⟨.struct [(0, 9), (1, 12)], 2, 24, some (.agg #[.string ⟨#[]⟩, .int .u64 0])⟩ := by kernel_rfl
theorem ty15 : tyOf Try.prog 15 = some ⟨.pointer 125, 1, 8, some (.pointer none)⟩ := by kernel_rfl
theorem ty16 : tyOf Try.prog 16 = some ⟨.pointer 128, 1, 8, some (.pointer none)⟩ := by kernel_rfl
theorem ty17 : tyOf Try.prog 17 = some ⟨.pointer 136, 1, 8, some (.pointer none)⟩ := by kernel_rfl
theorem ty18 : tyOf Try.prog 18 = some ⟨.struct [(0, 17)], 1, 8, some (.agg #[.pointer none])⟩ := by kernel_rfl
theorem ty19 : tyOf Try.prog 19 = some ⟨.struct [(0, 17)], 1, 8, some (.agg #[.pointer none])⟩ := by kernel_rfl
theorem ty21 : tyOf Try.prog 21 = some ⟨.int .i32, 1, 4, some (.int .i32 0)⟩ := by kernel_rfl
theorem ty22 : tyOf Try.prog 22 = some ⟨.array 7 3, 7, 56, some (.agg #[.int .i64 0, .int .i64 0, .int .i64 0, .int .i64 0, .int .i64 0, .int .i64 0, .int .i64 0])⟩ := by kernel_rfl
theorem ty23 : tyOf Try.prog 23 = some ⟨.slice 49, 1, 24, some (.slice none 0 0)⟩ := by kernel_rfl
theorem ty24 : tyOf Try.prog 24 = some ⟨.struct [(0, 5), (1, 3), (2, 3), (3, 3), (4, 3), (5, 3), (6, 3), (7, 4), (8, 22), (15, 23)], 16, 144, some (.agg #[.int .u8 0, .int .i64 0, .int .i64 0, .int .i64 0, .int .i64 0, .int .i64 0, .int .i64 0, .bool false, .int .i64 0, .int .i64 0, .int .i64 0, .int .i64 0, .int .i64 0, .int .i64 0, .int .i64 0, .slice none 0 0])⟩ := by kernel_rfl
theorem ty25 : tyOf Try.prog 25 = some ⟨.struct [(0, 5), (1, 3), (2, 3), (3, 3), (4, 3), (5, 3), (6, 3), (7, 4), (8, 22), (15, 23)], 16, 144, some (.agg #[.int .u8 0, .int .i64 0, .int .i64 0, .int .i64 0, .int .i64 0, .int .i64 0, .int .i64 0, .bool false, .int .i64 0, .int .i64 0, .int .i64 0, .int .i64 0, .int .i64 0, .int .i64 0, .int .i64 0, .slice none 0 0])⟩ := by kernel_rfl
theorem ty26 : tyOf Try.prog 26 = some ⟨.int .u16, 1, 2, some (.int .u16 0)⟩ := by kernel_rfl
theorem ty27 : tyOf Try.prog 27 = some ⟨.func, 1, 8, some (.nilFunc)⟩ := by kernel_rfl
theorem ty28 : tyOf Try.prog 28 = some ⟨.func, 1, 8, some (.nilFunc)⟩ := by kernel_rfl
theorem ty29 : tyOf Try.prog 29 = some ⟨.func, 1, 8, some (.nilFunc)⟩ := by kernel_rfl
theorem ty30 : tyOf Try.prog 30 = some ⟨.func, 1, 8, some (.nilFunc)⟩ := by kernel_rfl
theorem ty31 : tyOf Try.prog 31 = some ⟨.slice 5, 1, 24, some (.slice none 0 0)⟩ := by kernel_rfl
theorem ty32 : tyOf Try.prog 32 = some ⟨.int .i64, 1, 8, some (.int .i64 0)⟩ := by kernel_rfl
theorem ty34 : tyOf Try.prog 34 = some ⟨.func, 1, 8, some (.nilFunc)⟩ := by kernel_rfl
theorem ty35 : tyOf Try.prog 35 = some ⟨.func, 1, 8, some (.nilFunc)⟩ := by kernel_rfl
theorem ty36 : tyOf Try.prog 36 = some ⟨.func, 1, 8, some (.nilFunc)⟩ := by kernel_rfl
theorem ty38 : tyOf Try.prog 38 = some ⟨.func, 1, 8, some (.nilFunc)⟩ := by kernel_rfl
theorem ty39 : tyOf Try.prog 39 = some ⟨.func, 1, 8, some (.nilFunc)⟩ := by kernel_rfl
theorem ty40 : tyOf Try.prog 40 = some ⟨.func, 1, 8, some (.nilFunc)⟩ := by kernel_rfl
theorem ty41 : tyOf Try.prog 41 = some ⟨.func, 1, 8, some (.nilFunc)⟩ := by kernel_rfl
theorem ty42 : tyOf Try.prog 42 = some ⟨.slice 101, 1, 24, some (.slice none 0 0)⟩ := by kernel_rfl
theorem ty43 : tyOf Try.prog 43 = some ⟨.struct [(0, 3), (1, 3)], 2, 16, some (.agg #[.int .i64 0, .int .i64 0])⟩ := by kernel_rfl
theorem ty44 : tyOf Try.prog 44 = some ⟨.struct [(0, 3), (1, 3)], 2, 16, some (.agg #[.int .i64 0, .int .i64 0])⟩ := by kernel_rfl
theorem ty45 : tyOf Try.prog 45 = some ⟨.slice 104, 1, 24, some (.slice none 0 0)⟩ := by kernel_rfl
theorem ty46 : tyOf Try.prog 46 = some ⟨.struct [(0, 5), (1, 42), (2, 44), (4, 45)], 5, 72, some (.agg #[.int .u8 0, .slice none 0 0, .int .i64 0, .int .i64 0, .slice none 0 0])⟩ := by kernel_rfl
theorem ty47 : tyOf Try.prog 47 = some ⟨.struct [(0, 5), (1, 42), (2, 44), (4, 45)], 5, 72, some (.agg #[.int .u8 0, .slice none 0 0, .int .i64 0, .int .i64 0, .slice none 0 0])⟩ := by kernel_rfl
theorem ty48 : tyOf Try.prog 48 = some ⟨.struct [(0, 3), (1, 3), (2, 47)], 7, 88, some (.agg #[.int .i64 0, .int .i64 0, .int .u8 0, .slice none 0 0, .int .i64 0, .int .i64 0, .slice none 0 0])⟩ := by kernel_rfl
theorem ty49 : tyOf Try.prog 49 = some ⟨.struct [(0, 3), (1, 3), (2, 47)], 7, 88, some (.agg #[.int .i64 0, .int .i64 0, .int .u8 0, .slice none 0 0, .int .i64 0, .int .i64 0, .slice none 0 0])⟩ := by kernel_rfl
theorem ty50 : tyOf Try.prog 50 = some ⟨.func, 1, 8, some (.nilFunc)⟩ := by kernel_rfl
theorem ty51 : tyOf Try.prog 51 = some ⟨.func, 1, 8, some (.nilFunc)⟩ := by kernel_rfl
theorem ty52 : tyOf Try.prog 52 = some ⟨.slice 55, 1, 24, some (.slice none 0 0)⟩ := by kernel_rfl
theorem ty53 : tyOf Try.prog 53 = some ⟨.func, 1, 8, some (.nilFunc)⟩ := by kernel_rfl
theorem ty54 : tyOf Try.prog 54 = some ⟨.pointer 25, 1, 8, some (.pointer none)⟩ := by kernel_rfl
theorem ty55 : tyOf Try.prog 55 = some ⟨.pointer 3, 1, 8, some (.pointer none)⟩ := by kernel_rfl
theorem ty56 : tyOf Try.prog 56 = some ⟨.func, 1, 8, some (.nilFunc)⟩ := by kernel_rfl
theorem ty57 : tyOf Try.prog 57 = some ⟨.int .u64, 1, 8, some (.int .u64 0)⟩ := by kernel_rfl
theorem ty58 : tyOf Try.prog 58 = some ⟨.func, 1, 8, some (.nilFunc)⟩ := by kernel_rfl
theorem ty59 : tyOf Try.prog 59 = some ⟨.func, 1, 8, some (.nilFunc)⟩ := by kernel_rfl
theorem ty60 : tyOf Try.prog 60 = some ⟨.slice 3, 1, 24, some (.slice none 0 0)⟩ := by kernel_rfl
theorem ty61 : tyOf Try.prog 61 = some ⟨.func, 1, 8, some (.nilFunc)⟩ := by kernel_rfl
theorem ty62 : tyOf Try.prog 62 = some ⟨.func, 1, 8, some (.nilFunc)⟩ := by kernel_rfl
theorem ty63 : tyOf Try.prog 63 = some ⟨.func, 1, 8, some (.nilFunc)⟩ := by kernel_rfl
theorem ty64 : tyOf Try.prog 64 = some ⟨.func, 1, 8, some (.nilFunc)⟩ := by kernel_rfl
theorem ty65 : tyOf Try.prog 65 = some ⟨.func, 1, 8, some (.nilFunc)⟩ := by kernel_rfl
theorem ty67 : tyOf Try.prog 67 = some ⟨.func, 1, 8, some (.nilFunc)⟩ := by kernel_rfl
theorem ty68 : tyOf Try.prog 68 = some ⟨.pointer 93, 1, 8, some (.pointer none)⟩ := by kernel_rfl
theorem ty69 : tyOf Try.prog 69 = some ⟨.func, 1, 8, some (.nilFunc)⟩ := by kernel_rfl
theorem ty70 : tyOf Try.prog 70 = some ⟨.func, 1, 8, some (.nilFunc)⟩ := by kernel_rfl
theorem ty71 : tyOf Try.prog 71 = some ⟨.func, 1, 8, some (.nilFunc)⟩ := by kernel_rfl
theorem ty72 : tyOf Try.prog 72 = some ⟨.func, 1, 8, some (.nilFunc)⟩ := by kernel_rfl
theorem ty74 : tyOf Try.prog 74 = some ⟨.func, 1, 8, some (.nilFunc)⟩ := by kernel_rfl
theorem ty75 : tyOf Try.prog 75 = some ⟨.pointer 77, 1, 8, some (.pointer none)⟩ := by kernel_rfl
theorem ty76 : tyOf Try.prog 76 = some ⟨.struct [(0, 31), (1, 4)], 2, 32, some (.agg #[.slice none 0 0, .bool false])⟩ := by kernel_rfl
theorem ty77 : tyOf Try.prog 77 = some ⟨.struct [(0, 31), (1, 4)], 2, 32, some (.agg #[.slice none 0 0, .bool false])⟩ := by kernel_rfl
theorem ty79 : tyOf Try.prog 79 = some ⟨.func, 1, 8, some (.nilFunc)⟩ := by kernel_rfl
theorem ty80 : tyOf Try.prog 80 = some ⟨.func, 1, 8, some (.nilFunc)⟩ := by kernel_rfl
theorem ty81 : tyOf Try.prog 81 = some ⟨.func, 1, 8, some (.nilFunc)⟩ := by kernel_rfl
theorem ty82 : tyOf Try.prog 82 = some ⟨.int .u64, 1, 8, some (.int .u64 0)⟩ := by kernel_rfl
theorem ty83 : tyOf Try.prog 83 = some ⟨.func, 1, 8, some (.nilFunc)⟩ := by kernel_rfl
theorem ty84 : tyOf Try.prog 84 = some ⟨.func, 1, 8, some (.nilFunc)⟩ := by kernel_rfl
theorem ty85 : tyOf Try.prog 85 = some ⟨.func, 1, 8, some (.nilFunc)⟩ := by kernel_rfl
theorem ty86 : tyOf Try.prog 86 = some ⟨.int .u32, 1, 4, some (.int .u32 0)⟩ := by kernel_rfl
theorem ty87 : tyOf Try.prog 87 = some ⟨.func, 1, 8, some (.nilFunc)⟩ := by kernel_rfl
theorem ty88 : tyOf Try.prog 88 = some ⟨.func, 1, 8, some (.nilFunc)⟩ := by kernel_rfl
theorem ty89 : tyOf Try.prog 89 = some ⟨.func, 1, 8, some (.nilFunc)⟩ := by kernel_rfl
theorem ty90 : tyOf Try.prog 90 = some ⟨.func, 1, 8, some (.nilFunc)⟩ := by kernel_rfl
theorem ty91 : tyOf Try.prog 91 = some ⟨.func, 1, 8, some (.nilFunc)⟩ := by kernel_rfl
theorem ty92 : tyOf Try.prog 92 = some ⟨.struct [(0, 31), (1, 4)], 2, 32, some (.agg #[.slice none 0 0, .bool false])⟩ := by kernel_rfl
theorem ty93 : tyOf Try.prog 93 = some ⟨.struct [(0, 31), (1, 4)], 2, 32, some (.agg #[.slice none 0 0, .bool false])⟩ := by kernel_rfl
theorem ty94 : tyOf Try.prog 94 = some ⟨.func, 1, 8, some (.nilFunc)⟩ := by kernel_rfl
theorem ty96 : tyOf Try.prog 96 = some ⟨.func, 1, 8, some (.nilFunc)⟩ := by kernel_rfl
theorem ty98 : tyOf Try.prog 98 = some ⟨.func, 1, 8, some (.nilFunc)⟩ := by kernel_rfl
theorem ty99 : tyOf Try.prog 99 = some ⟨.func, 1, 8, some (.nilFunc)⟩ := by kernel_rfl
theorem ty100 : tyOf Try.prog 100 = some ⟨.struct [(0, 9), (1, 9)], 2, 32, some (.agg #[.string ⟨#[]⟩, .string ⟨#[]⟩])⟩ := by kernel_rfl
theorem ty101 : tyOf Try.prog 101 = some ⟨.struct [(0, 9), (1, 9)], 2, 32, some (.agg #[.string ⟨#[]⟩, .string ⟨#[]⟩])⟩ := by kernel_rfl
theorem ty102 : tyOf Try.prog 102 = some ⟨.func, 1, 8, some (.nilFunc)⟩ := by kernel_rfl
theorem ty103 : tyOf Try.prog 103 = some ⟨.struct [(0, 5), (1, 9), (2, 9)], 3, 40, some (.agg #[.int .u8 0, .string ⟨#[]⟩, .string ⟨#[]⟩])⟩ := by kernel_rfl
theorem ty104 : tyOf Try.prog 104 = some ⟨.struct [(0, 5), (1, 9), (2, 9)], 3, 40, some (.agg #[.int .u8 0, .string ⟨#[]⟩, .string ⟨#[]⟩])⟩ := by kernel_rfl
theorem ty105 : tyOf Try.prog 105 = some ⟨.func, 1, 8, some (.nilFunc)⟩ := by kernel_rfl
theorem ty106 : tyOf Try.prog 106 = some ⟨.func, 1, 8, some (.nilFunc)⟩ := by kernel_rfl
theorem ty107 : tyOf Try.prog 107 = some ⟨.func, 1, 8, some (.nilFunc)⟩ := by kernel_rfl
theorem ty108 : tyOf Try.prog 108 = some ⟨.func, 1, 8, some (.nilFunc)⟩ := by kernel_rfl
theorem ty109 : tyOf Try.prog 109 = some ⟨.func, 1, 8, some (.nilFunc)⟩ := by kernel_rfl
theorem ty110 : tyOf Try.prog 110 = some ⟨.func, 1, 8, some (.nilFunc)⟩ := by kernel_rfl
theorem ty112 : tyOf Try.prog 112 = some ⟨.func, 1, 8, some (.nilFunc)⟩ := by kernel_rfl
theorem ty113 : tyOf Try.prog 113 = some ⟨.func, 1, 8, some (.nilFunc)⟩ := by kernel_rfl
theorem ty114 : tyOf Try.prog 114 = some ⟨.func, 1, 8, some (.nilFunc)⟩ := by kernel_rfl
theorem ty115 : tyOf Try.prog 115 = some ⟨.func, 1, 8, some (.nilFunc)⟩ := by kernel_rfl
theorem ty116 : tyOf Try.prog 116 = some ⟨.func, 1, 8, some (.nilFunc)⟩ := by kernel_rfl
theorem ty117 : tyOf Try.prog 117 = some ⟨.func, 1, 8, some (.nilFunc)⟩ := by kernel_rfl
theorem ty118 : tyOf Try.prog 118 = some ⟨.func, 1, 8, some (.nilFunc)⟩ := by kernel_rfl
theorem ty119 : tyOf Try.prog 119 = some ⟨.func, 1, 8, some (.nilFunc)⟩ := by kernel_rfl
theorem ty120 : tyOf Try.prog 120 = some ⟨.func, 1, 8, some (.nilFunc)⟩ := by kernel_rfl
theorem ty121 : tyOf Try.prog 121 = some ⟨.func, 1, 8, some (.nilFunc)⟩ := by kernel_rfl
theorem ty122 : tyOf Try.prog 122 = some ⟨.func, 1, 8, some (.nilFunc)⟩ := by kernel_rfl
theorem ty123 : tyOf Try.prog 123 = some ⟨.func, 1, 8, some (.nilFunc)⟩ := by kernel_rfl
theorem ty124 : tyOf Try.prog 124 = some ⟨.struct [(0, 17), (1, 17), (2, 17), (3, 9)], 4, 40, some (.agg #[.pointer none, .pointer none, .pointer none, .string ⟨#[]⟩])⟩ := by kernel_rfl
theorem ty125 : tyOf Try.prog 125 = some ⟨.struct [(0, 17), (1, 17), (2, 17), (3, 9)], 4, 40, some (.agg #[.pointer none, .pointer none, .pointer none, .string ⟨#[]⟩])⟩ := by kernel_rfl
theorem ty126 : tyOf Try.prog 126 = some ⟨.array 0 16, 0, 0, some (.agg #[])⟩ := by kernel_rfl
theorem ty127 : tyOf Try.prog 127 = some ⟨.struct [(0, 126)], 0, 0, some (.agg #[])⟩ := by kernel_rfl
theorem ty128 : tyOf Try.prog 128 = some ⟨.struct [(0, 126)], 0, 0, some (.agg #[])⟩ := by kernel_rfl
theorem ty129 : tyOf Try.prog 129 = some ⟨.int .u8, 1, 1, some (.int .u8 0)⟩ := by kernel_rfl
theorem ty130 : tyOf Try.prog 130 = some ⟨.int .u8, 1, 1, some (.int .u8 0)⟩ := by kernel_rfl
theorem ty131 : tyOf Try.prog 131 = some ⟨.func, 1, 8, some (.nilFunc)⟩ := by kernel_rfl
theorem ty132 : tyOf Try.prog 132 = some ⟨.pointer 5, 1, 8, some (.pointer none)⟩ := by kernel_rfl
theorem ty133 : tyOf Try.prog 133 = some ⟨.int .i32, 1, 4, some (.int .i32 0)⟩ := by kernel_rfl
theorem ty134 : tyOf Try.prog 134 = some ⟨.int .i32, 1, 4, some (.int .i32 0)⟩ := by kernel_rfl
theorem ty135 : tyOf Try.prog 135 = some ⟨.struct [(0, 12), (1, 12), (2, 86), (3, 129), (4, 5), (5, 5), (6, 130), (7, 131), (8, 132), (9, 133), (10, 134)], 11, 48, some (.agg #[.int .u64 0, .int .u64 0, .int .u32 0, .int .u8 0, .int .u8 0, .int .u8 0, .int .u8 0, .nilFunc, .pointer none, .int .i32 0, .int .i32 0])⟩ := by kernel_rfl
theorem ty136 : tyOf Try.prog 136 = some ⟨.struct [(0, 12), (1, 12), (2, 86), (3, 129), (4, 5), (5, 5), (6, 130), (7, 131), (8, 132), (9, 133), (10, 134)], 11, 48, some (.agg #[.int .u64 0, .int .u64 0, .int .u32 0, .int .u8 0, .int .u8 0, .int .u8 0, .int .u8 0, .nilFunc, .pointer none, .int .i32 0, .int .i32 0])⟩ := by kernel_rfl
theorem fn3 : isFn Try.prog 3 = true := by kernel_rfl
theorem fn4 : isFn Try.prog 4 = true := by kernel_rfl
theorem fn5 : isFn Try.prog 5 = true := by kernel_rfl
theorem fn6 : isFn Try.prog 6 = true := by kernel_rfl
theorem fn7 : isFn Try.prog 7 = true := by kernel_rfl
theorem fn8 : isFn Try.prog 8 = true := by kernel_rfl
theorem fn9 : isFn Try.prog 9 = true := by kernel_rfl
theorem fn10 : isFn Try.prog 10 = true := by kernel_rfl
theorem fn11 : isFn Try.prog 11 = true := by kernel_rfl
theorem fn12 : isFn Try.prog 12 = true := by kernel_rfl
theorem fn13 : isFn Try.prog 13 = true := by kernel_rfl
theorem fn14 : isFn Try.prog 14 = true := by kernel_rfl
theorem fn15 : isFn Try.prog 15 = true := by kernel_rfl
theorem fn16 : isFn Try.prog 16 = true := by kernel_rfl
theorem fn17 : isFn Try.prog 17 = true := by kernel_rfl
theorem fn18 : isFn Try.prog 18 = true := by kernel_rfl
theorem fn19 : isFn Try.prog 19 = true := by kernel_rfl
theorem fn20 : isFn Try.prog 20 = true := by kernel_rfl
theorem fn21 : isFn Try.prog 21 = true := by kernel_rfl
theorem fn22 : isFn Try.prog 22 = true := by kernel_rfl
theorem fn23 : isFn Try.prog 23 = true := by kernel_rfl
theorem fn24 : isFn Try.prog 24 = true := by kernel_rfl
theorem fn25 : isFn Try.prog 25 = true := by kernel_rfl
theorem fn26 : isFn Try.prog 26 = true := by kernel_rfl
theorem fn27 : isFn Try.prog 27 = true := by kernel_rfl
theorem fn28 : isFn Try.prog 28 = true := by kernel_rfl
theorem fn29 : isFn Try.prog 29 = true := by kernel_rfl
theorem fn30 : isFn Try.prog 30 = true := by kernel_rfl
theorem fn31 : isFn Try.prog 31 = true := by kernel_rfl
theorem fn32 : isFn Try.prog 32 = true := by kernel_rfl
theorem fn33 : isFn Try.prog 33 = true := by kernel_rfl
theorem fn34 : isFn Try.prog 34 = true := by kernel_rfl
theorem fn35 : isFn Try.prog 35 = true := by kernel_rfl
theorem fn36 : isFn Try.prog 36 = true := by kernel_rfl
theorem fn37 : isFn Try.prog 37 = true := by kernel_rfl
theorem fn38 : isFn Try.prog 38 = true := by kernel_rfl
theorem fn39 : isFn Try.prog 39 = true := by kernel_rfl
theorem fn40 : isFn Try.prog 40 = true := by kernel_rfl
theorem fn41 : isFn Try.prog 41 = true := by kernel_rfl
theorem fn42 : isFn Try.prog 42 = true := by kernel_rfl
theorem fn43 : isFn Try.prog 43 = true := by kernel_rfl
theorem fn44 : isFn Try.prog 44 = true := by kernel_rfl
theorem fn45 : isFn Try.prog 45 = true := by kernel_rfl
theorem fn46 : isFn Try.prog 46 = true := by kernel_rfl
theorem fn47 : isFn Try.prog 47 = true := by kernel_rfl
theorem fn48 : isFn Try.prog 48 = true := by kernel_rfl
theorem fn49 : isFn Try.prog 49 = true := by kernel_rfl
theorem fn50 : isFn Try.prog 50 = true := by kernel_rfl
theorem fn51 : isFn Try.prog 51 = true := by kernel_rfl
theorem fn52 : isFn Try.prog 52 = true := by kernel_rfl
theorem fn53 : isFn Try.prog 53 = true := by kernel_rfl
theorem fn54 : isFn Try.prog 54 = true := by kernel_rfl
theorem fn55 : isFn Try.prog 55 = true := by kernel_rfl
theorem fn56 : isFn Try.prog 56 = true := by kernel_rfl
theorem fn57 : isFn Try.prog 57 = true := by kernel_rfl
theorem fn58 : isFn Try.prog 58 = true := by kernel_rfl
theorem fn59 : isFn Try.prog 59 = true := by kernel_rfl
theorem fn60 : isFn Try.prog 60 = true := by kernel_rfl
theorem fn61 : isFn Try.prog 61 = true := by kernel_rfl
theorem fn62 : isFn Try.prog 62 = true := by kernel_rfl
theorem fn63 : isFn Try.prog 63 = true := by kernel_rfl
theorem fn64 : isFn Try.prog 64 = true := by kernel_rfl
theorem fn65 : isFn Try.prog 65 = true := by kernel_rfl
theorem fn66 : isFn Try.prog 66 = true := by kernel_rfl
theorem fn67 : isFn Try.prog 67 = true := by kernel_rfl
theorem fn68 : isFn Try.prog 68 = true := by kernel_rfl
theorem fn69 : isFn Try.prog 69 = true := by kernel_rfl
theorem fn70 : isFn Try.prog 70 = true := by kernel_rfl
theorem fn71 : isFn Try.prog 71 = true := by kernel_rfl
theorem fn72 : isFn Try.prog 72 = true := by kernel_rfl
theorem fn74 : isFn Try.prog 74 = true := by kernel_rfl
theorem fn75 : isFn Try.prog 75 = true := by kernel_rfl
theorem fn76 : isFn Try.prog 76 = true := by kernel_rfl
theorem fn77 : isFn Try.prog 77 = true := by kernel_rfl
theorem fn78 : isFn Try.prog 78 = true := by kernel_rfl
theorem fn79 : isFn Try.prog 79 = true := by kernel_rfl
theorem fn80 : isFn Try.prog 80 = true := by kernel_rfl
theorem fn81 : isFn Try.prog 81 = true := by kernel_rfl
theorem fn82 : isFn Try.prog 82 = true := by kernel_rfl
theorem fn83 : isFn Try.prog 83 = true := by kernel_rfl
theorem fn84 : isFn Try.prog 84 = true := by kernel_rfl
theorem fn85 : isFn Try.prog 85 = true := by kernel_rfl
theorem fn86 : isFn Try.prog 86 = true := by kernel_rfl
theorem fn87 : isFn Try.prog 87 = true := by kernel_rfl
theorem fn88 : isFn Try.prog 88 = true := by kernel_rfl
theorem fn89 : isFn Try.prog 89 = true := by kernel_rfl
theorem fn90 : isFn Try.prog 90 = true := by kernel_rfl
theorem fn91 : isFn Try.prog 91 = true := by kernel_rfl
theorem fn92 : isFn Try.prog 92 = true := by kernel_rfl
theorem fn93 : isFn Try.prog 93 = true := by kernel_rfl
theorem fn94 : isFn Try.prog 94 = true := by kernel_rfl
theorem fn95 : isFn Try.prog 95 = true := by kernel_rfl
theorem fn96 : isFn Try.prog 96 = true := by kernel_rfl
theorem fn97 : isFn Try.prog 97 = true := by kernel_rfl
theorem fn98 : isFn Try.prog 98 = true := by kernel_rfl
theorem fn99 : isFn Try.prog 99 = true := by kernel_rfl
theorem fn100 : isFn Try.prog 100 = true := by kernel_rfl
theorem fn101 : isFn Try.prog 101 = true := by kernel_rfl
theorem fn102 : isFn Try.prog 102 = true := by kernel_rfl
theorem fn103 : isFn Try.prog 103 = true := by kernel_rfl
theorem fn104 : isFn Try.prog 104 = true := by kernel_rfl
theorem fn105 : isFn Try.prog 105 = true := by kernel_rfl
theorem fn106 : isFn Try.prog 106 = true := by kernel_rfl
theorem flat22 : flatK Try.prog 22 = some [.int .i64, .int .i64, .int .i64, .int .i64, .int .i64, .int .i64, .int .i64] := by kernel_rfl
theorem flat44 : flatK Try.prog 44 = some [.int .i64, .int .i64] := by kernel_rfl
theorem flat101 : flatK Try.prog 101 = some [.string, .string] := by kernel_rfl
theorem flat104 : flatK Try.prog 104 = some [.int .u8, .string, .string] := by kernel_rfl
theorem tys1 : type_of% (And.intro @ty1 (And.intro @ty2 (And.intro @ty3 (And.intro @ty4 (And.intro @ty5 (And.intro @ty6 (And.intro @ty7 (And.intro @ty8 (And.intro @ty9 (And.intro @ty10 (And.intro @ty11 (And.intro @ty12 (And.intro @ty13 (And.intro @ty14 (And.intro @ty15 (And.intro @ty16 (And.intro @ty17 (And.intro @ty18 (And.intro @ty19 (And.intro @ty21 (And.intro @ty22 (And.intro @ty23 (And.intro @ty24 (@ty25)))))))))))))))))))))))) := And.intro @ty1 (And.intro @ty2 (And.intro @ty3 (And.intro @ty4 (And.intro @ty5 (And.intro @ty6 (And.intro @ty7 (And.intro @ty8 (And.intro @ty9 (And.intro @ty10 (And.intro @ty11 (And.intro @ty12 (And.intro @ty13 (And.intro @ty14 (And.intro @ty15 (And.intro @ty16 (And.intro @ty17 (And.intro @ty18 (And.intro @ty19 (And.intro @ty21 (And.intro @ty22 (And.intro @ty23 (And.intro @ty24 (@ty25)))))))))))))))))))))))
theorem tys2 : type_of% (And.intro @ty26 (And.intro @ty27 (And.intro @ty28 (And.intro @ty29 (And.intro @ty30 (And.intro @ty31 (And.intro @ty32 (And.intro @ty34 (And.intro @ty35 (And.intro @ty36 (And.intro @ty38 (And.intro @ty39 (And.intro @ty40 (And.intro @ty41 (And.intro @ty42 (And.intro @ty43 (And.intro @ty44 (And.intro @ty45 (And.intro @ty46 (And.intro @ty47 (And.intro @ty48 (And.intro @ty49 (And.intro @ty50 (@ty51)))))))))))))))))))))))) := And.intro @ty26 (And.intro @ty27 (And.intro @ty28 (And.intro @ty29 (And.intro @ty30 (And.intro @ty31 (And.intro @ty32 (And.intro @ty34 (And.intro @ty35 (And.intro @ty36 (And.intro @ty38 (And.intro @ty39 (And.intro @ty40 (And.intro @ty41 (And.intro @ty42 (And.intro @ty43 (And.intro @ty44 (And.intro @ty45 (And.intro @ty46 (And.intro @ty47 (And.intro @ty48 (And.intro @ty49 (And.intro @ty50 (@ty51)))))))))))))))))))))))
theorem tys3 : type_of% (And.intro @ty52 (And.intro @ty53 (And.intro @ty54 (And.intro @ty55 (And.intro @ty56 (And.intro @ty57 (And.intro @ty58 (And.intro @ty59 (And.intro @ty60 (And.intro @ty61 (And.intro @ty62 (And.intro @ty63 (And.intro @ty64 (And.intro @ty65 (And.intro @ty67 (And.intro @ty68 (And.intro @ty69 (And.intro @ty70 (And.intro @ty71 (And.intro @ty72 (And.intro @ty74 (And.intro @ty75 (And.intro @ty76 (@ty77)))))))))))))))))))))))) := And.intro @ty52 (And.intro @ty53 (And.intro @ty54 (And.intro @ty55 (And.intro @ty56 (And.intro @ty57 (And.intro @ty58 (And.intro @ty59 (And.intro @ty60 (And.intro @ty61 (And.intro @ty62 (And.intro @ty63 (And.intro @ty64 (And.intro @ty65 (And.intro @ty67 (And.intro @ty68 (And.intro @ty69 (And.intro @ty70 (And.intro @ty71 (And.intro @ty72 (And.intro @ty74 (And.intro @ty75 (And.intro @ty76 (@ty77)))))))))))))))))))))))
theorem tys4 : type_of% (And.intro @ty79 (And.intro @ty80 (And.intro @ty81 (And.intro @ty82 (And.intro @ty83 (And.intro @ty84 (And.intro @ty85 (And.intro @ty86 (And.intro @ty87 (And.intro @ty88 (And.intro @ty89 (And.intro @ty90 (And.intro @ty91 (And.intro @ty92 (And.intro @ty93 (And.intro @ty94 (And.intro @ty96 (And.intro @ty98 (And.intro @ty99 (And.intro @ty100 (And.intro @ty101 (And.intro @ty102 (And.intro @ty103 (@ty104)))))))))))))))))))))))) := And.intro @ty79 (And.intro @ty80 (And.intro @ty81 (And.intro @ty82 (And.intro @ty83 (And.intro @ty84 (And.intro @ty85 (And.intro @ty86 (And.intro @ty87 (And.intro @ty88 (And.intro @ty89 (And.intro @ty90 (And.intro @ty91 (And.intro @ty92 (And.intro @ty93 (And.intro @ty94 (And.intro @ty96 (And.intro @ty98 (And.intro @ty99 (And.intro @ty100 (And.intro @ty101 (And.intro @ty102 (And.intro @ty103 (@ty104)))))))))))))))))))))))
theorem tys5 : type_of% (And.intro @ty105 (And.intro @ty106 (And.intro @ty107 (And.intro @ty108 (And.intro @ty109 (And.intro @ty110 (And.intro @ty112 (And.intro @ty113 (And.intro @ty114 (And.intro @ty115 (And.intro @ty116 (And.intro @ty117 (And.intro @ty118 (And.intro @ty119 (And.intro @ty120 (And.intro @ty121 (And.intro @ty122 (And.intro @ty123 (And.intro @ty124 (And.intro @ty125 (And.intro @ty126 (And.intro @ty127 (And.intro @ty128 (@ty129)))))))))))))))))))))))) := And.intro @ty105 (And.intro @ty106 (And.intro @ty107 (And.intro @ty108 (And.intro @ty109 (And.intro @ty110 (And.intro @ty112 (And.intro @ty113 (And.intro @ty114 (And.intro @ty115 (And.intro @ty116 (And.intro @ty117 (And.intro @ty118 (And.intro @ty119 (And.intro @ty120 (And.intro @ty121 (And.intro @ty122 (And.intro @ty123 (And.intro @ty124 (And.intro @ty125 (And.intro @ty126 (And.intro @ty127 (And.intro @ty128 (@ty129)))))))))))))))))))))))
theorem tys6 : type_of% (And.intro @ty130 (And.intro @ty131 (And.intro @ty132 (And.intro @ty133 (And.intro @ty134 (And.intro @ty135 (And.intro @ty136 (And.intro @fn3 (And.intro @fn4 (And.intro @fn5 (And.intro @fn6 (And.intro @fn7 (And.intro @fn8 (And.intro @fn9 (And.intro @fn10 (And.intro @fn11 (And.intro @fn12 (And.intro @fn13 (And.intro @fn14 (And.intro @fn15 (And.intro @fn16 (And.intro @fn17 (And.intro @fn18 (@fn19)))))))))))))))))))))))) := And.intro @ty130 (And.intro @ty131 (And.intro @ty132 (And.intro @ty133 (And.intro @ty134 (And.intro @ty135 (And.intro @ty136 (And.intro @fn3 (And.intro @fn4 (And.intro @fn5 (And.intro @fn6 (And.intro @fn7 (And.intro @fn8 (And.intro @fn9 (And.intro @fn10 (And.intro @fn11 (And.intro @fn12 (And.intro @fn13 (And.intro @fn14 (And.intro @fn15 (And.intro @fn16 (And.intro @fn17 (And.intro @fn18 (@fn19)))))))))))))))))))))))
theorem tys7 : type_of% (And.intro @fn20 (And.intro @fn21 (And.intro @fn22 (And.intro @fn23 (And.intro @fn24 (And.intro @fn25 (And.intro @fn26 (And.intro @fn27 (And.intro @fn28 (And.intro @fn29 (And.intro @fn30 (And.intro @fn31 (And.intro @fn32 (And.intro @fn33 (And.intro @fn34 (And.intro @fn35 (And.intro @fn36 (And.intro @fn37 (And.intro @fn38 (And.intro @fn39 (And.intro @fn40 (And.intro @fn41 (And.intro @fn42 (@fn43)))))))))))))))))))))))) := And.intro @fn20 (And.intro @fn21 (And.intro @fn22 (And.intro @fn23 (And.intro @fn24 (And.intro @fn25 (And.intro @fn26 (And.intro @fn27 (And.intro @fn28 (And.intro @fn29 (And.intro @fn30 (And.intro @fn31 (And.intro @fn32 (And.intro @fn33 (And.intro @fn34 (And.intro @fn35 (And.intro @fn36 (And.intro @fn37 (And.intro @fn38 (And.intro @fn39 (And.intro @fn40 (And.intro @fn41 (And.intro @fn42 (@fn43)))))))))))))))))))))))
theorem tys8 : type_of% (And.intro @fn44 (And.intro @fn45 (And.intro @fn46 (And.intro @fn47 (And.intro @fn48 (And.intro @fn49 (And.intro @fn50 (And.intro @fn51 (And.intro @fn52 (And.intro @fn53 (And.intro @fn54 (And.intro @fn55 (And.intro @fn56 (And.intro @fn57 (And.intro @fn58 (And.intro @fn59 (And.intro @fn60 (And.intro @fn61 (And.intro @fn62 (And.intro @fn63 (And.intro @fn64 (And.intro @fn65 (And.intro @fn66 (@fn67)))))))))))))))))))))))) := And.intro @fn44 (And.intro @fn45 (And.intro @fn46 (And.intro @fn47 (And.intro @fn48 (And.intro @fn49 (And.intro @fn50 (And.intro @fn51 (And.intro @fn52 (And.intro @fn53 (And.intro @fn54 (And.intro @fn55 (And.intro @fn56 (And.intro @fn57 (And.intro @fn58 (And.intro @fn59 (And.intro @fn60 (And.intro @fn61 (And.intro @fn62 (And.intro @fn63 (And.intro @fn64 (And.intro @fn65 (And.intro @fn66 (@fn67)))))))))))))))))))))))
theorem tys9 : type_of% (And.intro @fn68 (And.intro @fn69 (And.intro @fn70 (And.intro @fn71 (And.intro @fn72 (And.intro @fn74 (And.intro @fn75 (And.intro @fn76 (And.intro @fn77 (And.intro @fn78 (And.intro @fn79 (And.intro @fn80 (And.intro @fn81 (And.intro @fn82 (And.intro @fn83 (And.intro @fn84 (And.intro @fn85 (And.intro @fn86 (And.intro @fn87 (And.intro @fn88 (And.intro @fn89 (And.intro @fn90 (And.intro @fn91 (@fn92)))))))))))))))))))))))) := And.intro @fn68 (And.intro @fn69 (And.intro @fn70 (And.intro @fn71 (And.intro @fn72 (And.intro @fn74 (And.intro @fn75 (And.intro @fn76 (And.intro @fn77 (And.intro @fn78 (And.intro @fn79 (And.intro @fn80 (And.intro @fn81 (And.intro @fn82 (And.intro @fn83 (And.intro @fn84 (And.intro @fn85 (And.intro @fn86 (And.intro @fn87 (And.intro @fn88 (And.intro @fn89 (And.intro @fn90 (And.intro @fn91 (@fn92)))))))))))))))))))))))
theorem tys10 : type_of% (And.intro @fn93 (And.intro @fn94 (And.intro @fn95 (And.intro @fn96 (And.intro @fn97 (And.intro @fn98 (And.intro @fn99 (And.intro @fn100 (And.intro @fn101 (And.intro @fn102 (And.intro @fn103 (And.intro @fn104 (And.intro @fn105 (And.intro @fn106 (And.intro @flat22 (And.intro @flat44 (And.intro @flat101 (@flat104)))))))))))))))))) := And.intro @fn93 (And.intro @fn94 (And.intro @fn95 (And.intro @fn96 (And.intro @fn97 (And.intro @fn98 (And.intro @fn99 (And.intro @fn100 (And.intro @fn101 (And.intro @fn102 (And.intro @fn103 (And.intro @fn104 (And.intro @fn105 (And.intro @fn106 (And.intro @flat22 (And.intro @flat44 (And.intro @flat101 (@flat104)))))))))))))))))
theorem tys : type_of% (And.intro tys1 (And.intro tys2 (And.intro tys3 (And.intro tys4 (And.intro tys5 (And.intro tys6 (And.intro tys7 (And.intro tys8 (And.intro tys9 (tys10)))))))))) := And.intro tys1 (And.intro tys2 (And.intro tys3 (And.intro tys4 (And.intro tys5 (And.intro tys6 (And.intro tys7 (And.intro tys8 (And.intro tys9 (tys10)))))))))
end Go.Proofs.Ytflpphgccjlkjaa
