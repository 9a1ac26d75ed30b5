/- Proved here: what the types of the program are. No condition. -/
import Derived.Test.YtldckdbdgbpmpaaProg
import Derived.Test.YtldckdbdgbpmpaaAmZd
import Derived.KernelRfl
namespace Go.Proofs.Ytldckdbdgbpmpaa
open Go Go.AM
theorem ty1 : tyOf Try.prog 1 = some ⟨.func, 1, 8, some (.nilFunc)⟩ := by kernel_rfl
theorem ty2 : tyOf Try.prog 2 = some ⟨.int .i64, 1, 8, some (.int .i64 0)⟩ := by kernel_rfl
theorem ty3 : tyOf Try.prog 3 = some ⟨.int .i64, 1, 8, some (.int .i64 0)⟩ := by kernel_rfl
theorem ty4 : tyOf Try.prog 4 = some ⟨.bool, 1, 1, some (.bool false)⟩ := by kernel_rfl
theorem ty5 : tyOf Try.prog 5 = some ⟨.int .u8, 1, 1, some (.int .u8 0)⟩ := by kernel_rfl
theorem ty6 : tyOf Try.prog 6 = some ⟨.int .u8, 1, 1, some (.int .u8 0)⟩ := by kernel_rfl
theorem ty7 : tyOf Try.prog 7 = some ⟨.struct [(0, 2), (1, 3), (2, 4), (3, 6)], 4, 24, some (.agg #[.int .i64 0, .int .i64 0, .bool false, .int .u8 0])⟩ := by kernel_rfl
theorem ty8 : tyOf Try.prog 8 = some ⟨.struct [(0, 2), (1, 3), (2, 4), (3, 6)], 4, 24, some (.agg #[.int .i64 0, .int .i64 0, .bool false, .int .u8 0])⟩ := by kernel_rfl
theorem ty9 : tyOf Try.prog 9 = some ⟨.string, 1, 16, some (.string ⟨#[]⟩)⟩ := by kernel_rfl
theorem ty10 : tyOf Try.prog 10 = some ⟨.string, 1, 16, some (.string ⟨#[]⟩)⟩ := by kernel_rfl
theorem ty11 : tyOf Try.prog 11 = some ⟨.string, 1, 16, some (.string ⟨#[]⟩)⟩ := by kernel_rfl
theorem ty12 : tyOf Try.prog 12 = some ⟨.int .u64, 1, 8, some (.int .u64 0)⟩ := by kernel_rfl
theorem ty13 : tyOf Try.prog 13 = some ⟨.struct [(0, 9), (1, 12)], 2, 24, some (.agg #[.string ⟨#[]⟩, .int .u64 0])⟩ := by kernel_rfl
theorem ty14 : tyOf Try.prog 14 = some ⟨.struct [(0, 9), (1, 12)], 2, 24, some (.agg #[.string ⟨#[]⟩, .int .u64 0])⟩ := by kernel_rfl
theorem ty15 : tyOf Try.prog 15 = some ⟨.pointer 70, 1, 8, some (.pointer none)⟩ := by kernel_rfl
theorem ty16 : tyOf Try.prog 16 = some ⟨.pointer 73, 1, 8, some (.pointer none)⟩ := by kernel_rfl
theorem ty17 : tyOf Try.prog 17 = some ⟨.pointer 82, 1, 8, some (.pointer none)⟩ := by kernel_rfl
theorem ty18 : tyOf Try.prog 18 = some ⟨.struct [(0, 17)], 1, 8, some (.agg #[.pointer none])⟩ := by kernel_rfl
theorem ty19 : tyOf Try.prog 19 = some ⟨.struct [(0, 17)], 1, 8, some (.agg #[.pointer none])⟩ := by kernel_rfl
theorem ty21 : tyOf Try.prog 21 = some ⟨.int .i32, 1, 4, some (.int .i32 0)⟩ := by kernel_rfl
theorem ty22 : tyOf Try.prog 22 = some ⟨.slice 25, 1, 24, some (.slice none 0 0)⟩ := by kernel_rfl
theorem ty23 : tyOf Try.prog 23 = some ⟨.func, 1, 8, some (.nilFunc)⟩ := by kernel_rfl
theorem ty24 : tyOf Try.prog 24 = some ⟨.func, 1, 8, some (.nilFunc)⟩ := by kernel_rfl
theorem ty25 : tyOf Try.prog 25 = some ⟨.slice 34, 1, 24, some (.slice none 0 0)⟩ := by kernel_rfl
theorem ty26 : tyOf Try.prog 26 = some ⟨.func, 1, 8, some (.nilFunc)⟩ := by kernel_rfl
theorem ty27 : tyOf Try.prog 27 = some ⟨.func, 1, 8, some (.nilFunc)⟩ := by kernel_rfl
theorem ty28 : tyOf Try.prog 28 = some ⟨.func, 1, 8, some (.nilFunc)⟩ := by kernel_rfl
theorem ty29 : tyOf Try.prog 29 = some ⟨.func, 1, 8, some (.nilFunc)⟩ := by kernel_rfl
theorem ty30 : tyOf Try.prog 30 = some ⟨.func, 1, 8, some (.nilFunc)⟩ := by kernel_rfl
theorem ty31 : tyOf Try.prog 31 = some ⟨.func, 1, 8, some (.nilFunc)⟩ := by kernel_rfl
theorem ty32 : tyOf Try.prog 32 = some ⟨.map 3 3, 1, 8, some (.map none)⟩ := by kernel_rfl
theorem ty33 : tyOf Try.prog 33 = some ⟨.struct [(0, 3), (1, 3)], 2, 16, some (.agg #[.int .i64 0, .int .i64 0])⟩ := by kernel_rfl
theorem ty34 : tyOf Try.prog 34 = some ⟨.struct [(0, 3), (1, 3)], 2, 16, some (.agg #[.int .i64 0, .int .i64 0])⟩ := by kernel_rfl
theorem ty36 : tyOf Try.prog 36 = some ⟨.func, 1, 8, some (.nilFunc)⟩ := by kernel_rfl
theorem ty37 : tyOf Try.prog 37 = some ⟨.func, 1, 8, some (.nilFunc)⟩ := by kernel_rfl
theorem ty39 : tyOf Try.prog 39 = some ⟨.func, 1, 8, some (.nilFunc)⟩ := by kernel_rfl
theorem ty40 : tyOf Try.prog 40 = some ⟨.func, 1, 8, some (.nilFunc)⟩ := by kernel_rfl
theorem ty41 : tyOf Try.prog 41 = some ⟨.func, 1, 8, some (.nilFunc)⟩ := by kernel_rfl
theorem ty42 : tyOf Try.prog 42 = some ⟨.slice 47, 1, 24, some (.slice none 0 0)⟩ := by kernel_rfl
theorem ty43 : tyOf Try.prog 43 = some ⟨.slice 47, 1, 24, some (.slice none 0 0)⟩ := by kernel_rfl
theorem ty44 : tyOf Try.prog 44 = some ⟨.func, 1, 8, some (.nilFunc)⟩ := by kernel_rfl
theorem ty45 : tyOf Try.prog 45 = some ⟨.pointer 43, 1, 8, some (.pointer none)⟩ := by kernel_rfl
theorem ty46 : tyOf Try.prog 46 = some ⟨.struct [(0, 3), (1, 25)], 2, 32, some (.agg #[.int .i64 0, .slice none 0 0])⟩ := by kernel_rfl
theorem ty47 : tyOf Try.prog 47 = some ⟨.struct [(0, 3), (1, 25)], 2, 32, some (.agg #[.int .i64 0, .slice none 0 0])⟩ := by kernel_rfl
theorem ty48 : tyOf Try.prog 48 = some ⟨.func, 1, 8, some (.nilFunc)⟩ := by kernel_rfl
theorem ty49 : tyOf Try.prog 49 = some ⟨.func, 1, 8, some (.nilFunc)⟩ := by kernel_rfl
theorem ty50 : tyOf Try.prog 50 = some ⟨.func, 1, 8, some (.nilFunc)⟩ := by kernel_rfl
theorem ty51 : tyOf Try.prog 51 = some ⟨.func, 1, 8, some (.nilFunc)⟩ := by kernel_rfl
theorem ty52 : tyOf Try.prog 52 = some ⟨.func, 1, 8, some (.nilFunc)⟩ := by kernel_rfl
theorem ty53 : tyOf Try.prog 53 = some ⟨.func, 1, 8, some (.nilFunc)⟩ := by kernel_rfl
theorem ty54 : tyOf Try.prog 54 = some ⟨.func, 1, 8, some (.nilFunc)⟩ := by kernel_rfl
theorem ty56 : tyOf Try.prog 56 = some ⟨.iface, 1, 16, some (.nilIface)⟩ := by kernel_rfl
theorem ty57 : tyOf Try.prog 57 = some ⟨.func, 1, 8, some (.nilFunc)⟩ := by kernel_rfl
theorem ty58 : tyOf Try.prog 58 = some ⟨.func, 1, 8, some (.nilFunc)⟩ := by kernel_rfl
theorem ty59 : tyOf Try.prog 59 = some ⟨.func, 1, 8, some (.nilFunc)⟩ := by kernel_rfl
theorem ty60 : tyOf Try.prog 60 = some ⟨.func, 1, 8, some (.nilFunc)⟩ := by kernel_rfl
theorem ty61 : tyOf Try.prog 61 = some ⟨.func, 1, 8, some (.nilFunc)⟩ := by kernel_rfl
theorem ty62 : tyOf Try.prog 62 = some ⟨.func, 1, 8, some (.nilFunc)⟩ := by kernel_rfl
theorem ty63 : tyOf Try.prog 63 = some ⟨.func, 1, 8, some (.nilFunc)⟩ := by kernel_rfl
theorem ty64 : tyOf Try.prog 64 = some ⟨.int .u64, 1, 8, some (.int .u64 0)⟩ := by kernel_rfl
theorem ty65 : tyOf Try.prog 65 = some ⟨.func, 1, 8, some (.nilFunc)⟩ := by kernel_rfl
theorem ty66 : tyOf Try.prog 66 = some ⟨.func, 1, 8, some (.nilFunc)⟩ := by kernel_rfl
theorem ty67 : tyOf Try.prog 67 = some ⟨.func, 1, 8, some (.nilFunc)⟩ := by kernel_rfl
theorem ty68 : tyOf Try.prog 68 = some ⟨.func, 1, 8, some (.nilFunc)⟩ := by kernel_rfl
theorem ty69 : tyOf Try.prog 69 = some ⟨.struct [(0, 17), (1, 17), (2, 17), (3, 9)], 4, 40, some (.agg #[.pointer none, .pointer none, .pointer none, .string ⟨#[]⟩])⟩ := by kernel_rfl
theorem ty70 : tyOf Try.prog 70 = some ⟨.struct [(0, 17), (1, 17), (2, 17), (3, 9)], 4, 40, some (.agg #[.pointer none, .pointer none, .pointer none, .string ⟨#[]⟩])⟩ := by kernel_rfl
theorem ty71 : tyOf Try.prog 71 = some ⟨.array 0 16, 0, 0, some (.agg #[])⟩ := by kernel_rfl
theorem ty72 : tyOf Try.prog 72 = some ⟨.struct [(0, 71)], 0, 0, some (.agg #[])⟩ := by kernel_rfl
theorem ty73 : tyOf Try.prog 73 = some ⟨.struct [(0, 71)], 0, 0, some (.agg #[])⟩ := by kernel_rfl
theorem ty74 : tyOf Try.prog 74 = some ⟨.int .u32, 1, 4, some (.int .u32 0)⟩ := by kernel_rfl
theorem ty75 : tyOf Try.prog 75 = some ⟨.int .u8, 1, 1, some (.int .u8 0)⟩ := by kernel_rfl
theorem ty76 : tyOf Try.prog 76 = some ⟨.int .u8, 1, 1, some (.int .u8 0)⟩ := by kernel_rfl
theorem ty77 : tyOf Try.prog 77 = some ⟨.func, 1, 8, some (.nilFunc)⟩ := by kernel_rfl
theorem ty78 : tyOf Try.prog 78 = some ⟨.pointer 5, 1, 8, some (.pointer none)⟩ := by kernel_rfl
theorem ty79 : tyOf Try.prog 79 = some ⟨.int .i32, 1, 4, some (.int .i32 0)⟩ := by kernel_rfl
theorem ty80 : tyOf Try.prog 80 = some ⟨.int .i32, 1, 4, some (.int .i32 0)⟩ := by kernel_rfl
theorem ty81 : tyOf Try.prog 81 = some ⟨.struct [(0, 12), (1, 12), (2, 74), (3, 75), (4, 5), (5, 5), (6, 76), (7, 77), (8, 78), (9, 79), (10, 80)], 11, 48, some (.agg #[.int .u64 0, .int .u64 0, .int .u32 0, .int .u8 0, .int .u8 0, .int .u8 0, .int .u8 0, .nilFunc, .pointer none, .int .i32 0, .int .i32 0])⟩ := by kernel_rfl
theorem ty82 : tyOf Try.prog 82 = some ⟨.struct [(0, 12), (1, 12), (2, 74), (3, 75), (4, 5), (5, 5), (6, 76), (7, 77), (8, 78), (9, 79), (10, 80)], 11, 48, some (.agg #[.int .u64 0, .int .u64 0, .int .u32 0, .int .u8 0, .int .u8 0, .int .u8 0, .int .u8 0, .nilFunc, .pointer none, .int .i32 0, .int .i32 0])⟩ := by kernel_rfl
theorem fn3 : isFn Try.prog 3 = true := by kernel_rfl
theorem fn4 : isFn Try.prog 4 = true := by kernel_rfl
theorem fn5 : isFn Try.prog 5 = true := by kernel_rfl
theorem fn6 : isFn Try.prog 6 = true := by kernel_rfl
theorem fn7 : isFn Try.prog 7 = true := by kernel_rfl
theorem fn8 : isFn Try.prog 8 = true := by kernel_rfl
theorem fn9 : isFn Try.prog 9 = true := by kernel_rfl
theorem fn10 : isFn Try.prog 10 = true := by kernel_rfl
theorem fn11 : isFn Try.prog 11 = true := by kernel_rfl
theorem fn12 : isFn Try.prog 12 = true := by kernel_rfl
theorem fn13 : isFn Try.prog 13 = true := by kernel_rfl
theorem fn14 : isFn Try.prog 14 = true := by kernel_rfl
theorem fn15 : isFn Try.prog 15 = true := by kernel_rfl
theorem fn16 : isFn Try.prog 16 = true := by kernel_rfl
theorem fn17 : isFn Try.prog 17 = true := by kernel_rfl
theorem fn18 : isFn Try.prog 18 = true := by kernel_rfl
theorem fn19 : isFn Try.prog 19 = true := by kernel_rfl
theorem fn20 : isFn Try.prog 20 = true := by kernel_rfl
theorem fn21 : isFn Try.prog 21 = true := by kernel_rfl
theorem fn22 : isFn Try.prog 22 = true := by kernel_rfl
theorem fn23 : isFn Try.prog 23 = true := by kernel_rfl
theorem fn24 : isFn Try.prog 24 = true := by kernel_rfl
theorem fn25 : isFn Try.prog 25 = true := by kernel_rfl
theorem fn26 : isFn Try.prog 26 = true := by kernel_rfl
theorem fn27 : isFn Try.prog 27 = true := by kernel_rfl
theorem fn28 : isFn Try.prog 28 = true := by kernel_rfl
theorem fn29 : isFn Try.prog 29 = true := by kernel_rfl
theorem fn30 : isFn Try.prog 30 = true := by kernel_rfl
theorem fn31 : isFn Try.prog 31 = true := by kernel_rfl
theorem fn32 : isFn Try.prog 32 = true := by kernel_rfl
theorem fn33 : isFn Try.prog 33 = true := by kernel_rfl
theorem fn34 : isFn Try.prog 34 = true := by kernel_rfl
theorem fn35 : isFn Try.prog 35 = true := by kernel_rfl
theorem fn36 : isFn Try.prog 36 = true := by kernel_rfl
theorem fn37 : isFn Try.prog 37 = true := by kernel_rfl
theorem fn38 : isFn Try.prog 38 = true := by kernel_rfl
theorem fn55 : isFn Try.prog 55 = true := by kernel_rfl
theorem fn56 : isFn Try.prog 56 = true := by kernel_rfl
theorem fn57 : isFn Try.prog 57 = true := by kernel_rfl
theorem fn58 : isFn Try.prog 58 = true := by kernel_rfl
theorem flat34 : flatK Try.prog 34 = some [.int .i64, .int .i64] := by kernel_rfl
theorem mr45_Len : methRow Try.prog 45 "Len" = some (23, false, 43) := by kernel_rfl
theorem mr45_Less : methRow Try.prog 45 "Less" = some (55, false, 43) := by kernel_rfl
theorem mr45_Pop : methRow Try.prog 45 "Pop" = some (57, true, 43) := by kernel_rfl
theorem mr45_Push : methRow Try.prog 45 "Push" = some (58, true, 43) := by kernel_rfl
theorem mr45_Swap : methRow Try.prog 45 "Swap" = some (56, false, 43) := by kernel_rfl
theorem tys1 : type_of% (And.intro @ty1 (And.intro @ty2 (And.intro @ty3 (And.intro @ty4 (And.intro @ty5 (And.intro @ty6 (And.intro @ty7 (And.intro @ty8 (And.intro @ty9 (And.intro @ty10 (And.intro @ty11 (And.intro @ty12 (And.intro @ty13 (And.intro @ty14 (And.intro @ty15 (And.intro @ty16 (And.intro @ty17 (And.intro @ty18 (And.intro @ty19 (And.intro @ty21 (And.intro @ty22 (And.intro @ty23 (And.intro @ty24 (@ty25)))))))))))))))))))))))) := And.intro @ty1 (And.intro @ty2 (And.intro @ty3 (And.intro @ty4 (And.intro @ty5 (And.intro @ty6 (And.intro @ty7 (And.intro @ty8 (And.intro @ty9 (And.intro @ty10 (And.intro @ty11 (And.intro @ty12 (And.intro @ty13 (And.intro @ty14 (And.intro @ty15 (And.intro @ty16 (And.intro @ty17 (And.intro @ty18 (And.intro @ty19 (And.intro @ty21 (And.intro @ty22 (And.intro @ty23 (And.intro @ty24 (@ty25)))))))))))))))))))))))
theorem tys2 : type_of% (And.intro @ty26 (And.intro @ty27 (And.intro @ty28 (And.intro @ty29 (And.intro @ty30 (And.intro @ty31 (And.intro @ty32 (And.intro @ty33 (And.intro @ty34 (And.intro @ty36 (And.intro @ty37 (And.intro @ty39 (And.intro @ty40 (And.intro @ty41 (And.intro @ty42 (And.intro @ty43 (And.intro @ty44 (And.intro @ty45 (And.intro @ty46 (And.intro @ty47 (And.intro @ty48 (And.intro @ty49 (And.intro @ty50 (@ty51)))))))))))))))))))))))) := And.intro @ty26 (And.intro @ty27 (And.intro @ty28 (And.intro @ty29 (And.intro @ty30 (And.intro @ty31 (And.intro @ty32 (And.intro @ty33 (And.intro @ty34 (And.intro @ty36 (And.intro @ty37 (And.intro @ty39 (And.intro @ty40 (And.intro @ty41 (And.intro @ty42 (And.intro @ty43 (And.intro @ty44 (And.intro @ty45 (And.intro @ty46 (And.intro @ty47 (And.intro @ty48 (And.intro @ty49 (And.intro @ty50 (@ty51)))))))))))))))))))))))
theorem tys3 : type_of% (And.intro @ty52 (And.intro @ty53 (And.intro @ty54 (And.intro @ty56 (And.intro @ty57 (And.intro @ty58 (And.intro @ty59 (And.intro @ty60 (And.intro @ty61 (And.intro @ty62 (And.intro @ty63 (And.intro @ty64 (And.intro @ty65 (And.intro @ty66 (And.intro @ty67 (And.intro @ty68 (And.intro @ty69 (And.intro @ty70 (And.intro @ty71 (And.intro @ty72 (And.intro @ty73 (And.intro @ty74 (And.intro @ty75 (@ty76)))))))))))))))))))))))) := And.intro @ty52 (And.intro @ty53 (And.intro @ty54 (And.intro @ty56 (And.intro @ty57 (And.intro @ty58 (And.intro @ty59 (And.intro @ty60 (And.intro @ty61 (And.intro @ty62 (And.intro @ty63 (And.intro @ty64 (And.intro @ty65 (And.intro @ty66 (And.intro @ty67 (And.intro @ty68 (And.intro @ty69 (And.intro @ty70 (And.intro @ty71 (And.intro @ty72 (And.intro @ty73 (And.intro @ty74 (And.intro @ty75 (@ty76)))))))))))))))))))))))
theorem tys4 : type_of% (And.intro @ty77 (And.intro @ty78 (And.intro @ty79 (And.intro @ty80 (And.intro @ty81 (And.intro @ty82 (And.intro @fn3 (And.intro @fn4 (And.intro @fn5 (And.intro @fn6 (And.intro @fn7 (And.intro @fn8 (And.intro @fn9 (And.intro @fn10 (And.intro @fn11 (And.intro @fn12 (And.intro @fn13 (And.intro @fn14 (And.intro @fn15 (And.intro @fn16 (And.intro @fn17 (And.intro @fn18 (And.intro @fn19 (@fn20)))))))))))))))))))))))) := And.intro @ty77 (And.intro @ty78 (And.intro @ty79 (And.intro @ty80 (And.intro @ty81 (And.intro @ty82 (And.intro @fn3 (And.intro @fn4 (And.intro @fn5 (And.intro @fn6 (And.intro @fn7 (And.intro @fn8 (And.intro @fn9 (And.intro @fn10 (And.intro @fn11 (And.intro @fn12 (And.intro @fn13 (And.intro @fn14 (And.intro @fn15 (And.intro @fn16 (And.intro @fn17 (And.intro @fn18 (And.intro @fn19 (@fn20)))))))))))))))))))))))
theorem tys5 : type_of% (And.intro @fn21 (And.intro @fn22 (And.intro @fn23 (And.intro @fn24 (And.intro @fn25 (And.intro @fn26 (And.intro @fn27 (And.intro @fn28 (And.intro @fn29 (And.intro @fn30 (And.intro @fn31 (And.intro @fn32 (And.intro @fn33 (And.intro @fn34 (And.intro @fn35 (And.intro @fn36 (And.intro @fn37 (And.intro @fn38 (And.intro @fn55 (And.intro @fn56 (And.intro @fn57 (And.intro @fn58 (And.intro @flat34 (@mr45_Len)))))))))))))))))))))))) := And.intro @fn21 (And.intro @fn22 (And.intro @fn23 (And.intro @fn24 (And.intro @fn25 (And.intro @fn26 (And.intro @fn27 (And.intro @fn28 (And.intro @fn29 (And.intro @fn30 (And.intro @fn31 (And.intro @fn32 (And.intro @fn33 (And.intro @fn34 (And.intro @fn35 (And.intro @fn36 (And.intro @fn37 (And.intro @fn38 (And.intro @fn55 (And.intro @fn56 (And.intro @fn57 (And.intro @fn58 (And.intro @flat34 (@mr45_Len)))))))))))))))))))))))
theorem tys6 : type_of% (And.intro @mr45_Less (And.intro @mr45_Pop (And.intro @mr45_Push (@mr45_Swap)))) := And.intro @mr45_Less (And.intro @mr45_Pop (And.intro @mr45_Push (@mr45_Swap)))
theorem tys : type_of% (And.intro tys1 (And.intro tys2 (And.intro tys3 (And.intro tys4 (And.intro tys5 (tys6)))))) := And.intro tys1 (And.intro tys2 (And.intro tys3 (And.intro tys4 (And.intro tys5 (tys6)))))
end Go.Proofs.Ytldckdbdgbpmpaa
