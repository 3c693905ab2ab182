import Derived.Test.YtemjmjacmokidaaDoorH23
import Derived.Test.YtemjmjacmokidaaDoorProg
import Derived.KernelRfl
set_option linter.all false
namespace Go.HL
open Go Go.Proofs
theorem ti1 : tyI Tryd.prog 1 = some ⟨false, 1, 8, [.v .nilFunc]⟩ := by kernel_rfl
theorem ti2 : tyI Tryd.prog 2 = some ⟨false, 1, 8, [.v (.int .i64 0)]⟩ := by kernel_rfl
theorem ti3 : tyI Tryd.prog 3 = some ⟨false, 1, 8, [.v (.int .i64 0)]⟩ := by kernel_rfl
theorem ti4 : tyI Tryd.prog 4 = some ⟨false, 1, 1, [.v (.bool false)]⟩ := by kernel_rfl
theorem ti5 : tyI Tryd.prog 5 = some ⟨false, 1, 1, [.v (.int .u8 0)]⟩ := by kernel_rfl
theorem ti6 : tyI Tryd.prog 6 = some ⟨false, 1, 1, [.v (.int .u8 0)]⟩ := by kernel_rfl
theorem ti7 : tyI Tryd.prog 7 = some ⟨true, 4, 24, [.v (.int .i64 0), .v (.int .i64 0), .v (.bool false), .v (.int .u8 0)]⟩ := by kernel_rfl
theorem sp7 : structPlaces Tryd.prog 7 = some [(0, 1), (1, 1), (2, 1), (3, 1)] := by kernel_rfl
theorem ti8 : tyI Tryd.prog 8 = some ⟨true, 4, 24, [.v (.int .i64 0), .v (.int .i64 0), .v (.bool false), .v (.int .u8 0)]⟩ := by kernel_rfl
theorem sp8 : structPlaces Tryd.prog 8 = some [(0, 1), (1, 1), (2, 1), (3, 1)] := by kernel_rfl
theorem ti9 : tyI Tryd.prog 9 = some ⟨false, 1, 16, [.v (.string ⟨#[]⟩)]⟩ := by kernel_rfl
theorem ti10 : tyI Tryd.prog 10 = some ⟨false, 1, 16, [.v (.string ⟨#[]⟩)]⟩ := by kernel_rfl
theorem ti11 : tyI Tryd.prog 11 = some ⟨false, 1, 16, [.v (.string ⟨#[]⟩)]⟩ := by kernel_rfl
theorem ti12 : tyI Tryd.prog 12 = some ⟨false, 1, 8, [.v (.int .u64 0)]⟩ := by kernel_rfl
theorem ti13 : tyI Tryd.prog 13 = some ⟨true, 2, 24, [.v (.string ⟨#[]⟩), .v (.int .u64 0)]⟩ := by kernel_rfl
theorem sp13 : structPlaces Tryd.prog 13 = some [(0, 1), (1, 1)] := by kernel_rfl
theorem ti14 : tyI Tryd.prog 14 = some ⟨true, 2, 24, [.v (.string ⟨#[]⟩), .v (.int .u64 0)]⟩ := by kernel_rfl
theorem sp14 : structPlaces Tryd.prog 14 = some [(0, 1), (1, 1)] := by kernel_rfl
theorem ti15 : tyI Tryd.prog 15 = some ⟨false, 1, 8, [.v (.pointer none)]⟩ := by kernel_rfl
theorem ti16 : tyI Tryd.prog 16 = some ⟨false, 1, 8, [.v (.pointer none)]⟩ := by kernel_rfl
theorem ti17 : tyI Tryd.prog 17 = some ⟨false, 1, 8, [.v (.pointer none)]⟩ := by kernel_rfl
theorem ti18 : tyI Tryd.prog 18 = some ⟨true, 1, 8, [.v (.pointer none)]⟩ := by kernel_rfl
theorem sp18 : structPlaces Tryd.prog 18 = some [(0, 1)] := by kernel_rfl
theorem ti19 : tyI Tryd.prog 19 = some ⟨true, 1, 8, [.v (.pointer none)]⟩ := by kernel_rfl
theorem sp19 : structPlaces Tryd.prog 19 = some [(0, 1)] := by kernel_rfl
theorem ti20 : tyI Tryd.prog 20 = some ⟨false, 1, 16, [.v .nilIface]⟩ := by kernel_rfl
theorem ti21 : tyI Tryd.prog 21 = some ⟨false, 1, 4, [.v (.int .i32 0)]⟩ := by kernel_rfl
theorem ti22 : tyI Tryd.prog 22 = some ⟨false, 1, 8, [.v (.int .i64 0)]⟩ := by kernel_rfl
theorem ti23 : tyI Tryd.prog 23 = some ⟨false, 1, 16, [.v (.string ⟨#[]⟩)]⟩ := by kernel_rfl
theorem ti24 : tyI Tryd.prog 24 = some ⟨true, 2, 24, [.v (.string ⟨#[]⟩), .v (.int .i64 0)]⟩ := by kernel_rfl
theorem sp24 : structPlaces Tryd.prog 24 = some [(0, 1), (1, 1)] := by kernel_rfl
theorem ti25 : tyI Tryd.prog 25 = some ⟨true, 2, 24, [.v (.string ⟨#[]⟩), .v (.int .i64 0)]⟩ := by kernel_rfl
theorem sp25 : structPlaces Tryd.prog 25 = some [(0, 1), (1, 1)] := by kernel_rfl
theorem ti26 : tyI Tryd.prog 26 = some ⟨true, 4, 48, [.v (.int .i64 0), .v (.string ⟨#[]⟩), .v (.string ⟨#[]⟩), .v (.int .i64 0)]⟩ := by kernel_rfl
theorem sp26 : structPlaces Tryd.prog 26 = some [(0, 1), (1, 1), (2, 2)] := by kernel_rfl
theorem ti27 : tyI Tryd.prog 27 = some ⟨true, 4, 48, [.v (.int .i64 0), .v (.string ⟨#[]⟩), .v (.string ⟨#[]⟩), .v (.int .i64 0)]⟩ := by kernel_rfl
theorem sp27 : structPlaces Tryd.prog 27 = some [(0, 1), (1, 1), (2, 2)] := by kernel_rfl
theorem ti28 : tyI Tryd.prog 28 = some ⟨false, 1, 8, [.v .nilFunc]⟩ := by kernel_rfl
theorem ti29 : tyI Tryd.prog 29 = some ⟨false, 1, 8, [.v .nilFunc]⟩ := by kernel_rfl
theorem ti30 : tyI Tryd.prog 30 = some ⟨false, 1, 8, [.v .nilFunc]⟩ := by kernel_rfl
theorem ti31 : tyI Tryd.prog 31 = some ⟨false, 1, 24, [.sl .full 0 []]⟩ := by kernel_rfl
theorem se31 : sliceElem Tryd.prog 31 = some ⟨false, 1, 1, [.v (.int .u8 0)]⟩ := by kernel_rfl
theorem ti32 : tyI Tryd.prog 32 = some ⟨false, 1, 8, [.v (.pointer none)]⟩ := by kernel_rfl
theorem ti33 : tyI Tryd.prog 33 = some ⟨false, 1, 8, [.v .nilFunc]⟩ := by kernel_rfl
theorem ti34 : tyI Tryd.prog 34 = some ⟨false, 1, 8, [.v .nilFunc]⟩ := by kernel_rfl
theorem ti35 : tyI Tryd.prog 35 = some ⟨false, 1, 8, [.v .nilFunc]⟩ := by kernel_rfl
theorem ti37 : tyI Tryd.prog 37 = some ⟨false, 1, 8, [.v .nilFunc]⟩ := by kernel_rfl
theorem ti38 : tyI Tryd.prog 38 = some ⟨false, 1, 8, [.v .nilFunc]⟩ := by kernel_rfl
theorem ti40 : tyI Tryd.prog 40 = some ⟨false, 1, 8, [.v .nilFunc]⟩ := by kernel_rfl
theorem ti41 : tyI Tryd.prog 41 = some ⟨false, 1, 8, [.v .nilFunc]⟩ := by kernel_rfl
theorem ti42 : tyI Tryd.prog 42 = some ⟨false, 1, 8, [.v .nilFunc]⟩ := by kernel_rfl
theorem ti44 : tyI Tryd.prog 44 = some ⟨false, 1, 8, [.v .nilFunc]⟩ := by kernel_rfl
theorem ti45 : tyI Tryd.prog 45 = some ⟨false, 1, 8, [.v (.int .i64 0)]⟩ := by kernel_rfl
theorem ti46 : tyI Tryd.prog 46 = some ⟨false, 1, 24, [.sl .full 0 []]⟩ := by kernel_rfl
theorem se46 : sliceElem Tryd.prog 46 = some ⟨true, 4, 40, [.v (.string ⟨#[]⟩), .v (.int .u16 0), .v (.int .u32 0), .v (.string ⟨#[]⟩)]⟩ := by kernel_rfl
theorem ti47 : tyI Tryd.prog 47 = some ⟨true, 4, 56, [.v (.int .i64 0), .v (.string ⟨#[]⟩), .v (.bool false), .sl .full 0 []]⟩ := by kernel_rfl
theorem sp47 : structPlaces Tryd.prog 47 = some [(0, 1), (1, 1), (2, 1), (3, 1)] := by kernel_rfl
theorem ti48 : tyI Tryd.prog 48 = some ⟨true, 4, 56, [.v (.int .i64 0), .v (.string ⟨#[]⟩), .v (.bool false), .sl .full 0 []]⟩ := by kernel_rfl
theorem sp48 : structPlaces Tryd.prog 48 = some [(0, 1), (1, 1), (2, 1), (3, 1)] := by kernel_rfl
theorem ti49 : tyI Tryd.prog 49 = some ⟨true, 9, 112, [.v (.int .i64 0), .v (.int .i64 0), .v (.string ⟨#[]⟩), .v (.string ⟨#[]⟩), .v (.int .i64 0), .v (.int .i64 0), .v (.string ⟨#[]⟩), .v (.bool false), .sl .full 0 []]⟩ := by kernel_rfl
theorem sp49 : structPlaces Tryd.prog 49 = some [(0, 1), (1, 4), (5, 4)] := by kernel_rfl
theorem ti50 : tyI Tryd.prog 50 = some ⟨true, 9, 112, [.v (.int .i64 0), .v (.int .i64 0), .v (.string ⟨#[]⟩), .v (.string ⟨#[]⟩), .v (.int .i64 0), .v (.int .i64 0), .v (.string ⟨#[]⟩), .v (.bool false), .sl .full 0 []]⟩ := by kernel_rfl
theorem sp50 : structPlaces Tryd.prog 50 = some [(0, 1), (1, 4), (5, 4)] := by kernel_rfl
theorem ti52 : tyI Tryd.prog 52 = some ⟨false, 1, 8, [.v .nilFunc]⟩ := by kernel_rfl
theorem ti53 : tyI Tryd.prog 53 = some ⟨false, 1, 2, [.v (.int .u16 0)]⟩ := by kernel_rfl
theorem ti54 : tyI Tryd.prog 54 = some ⟨false, 1, 2, [.v (.int .u16 0)]⟩ := by kernel_rfl
theorem ti55 : tyI Tryd.prog 55 = some ⟨false, 1, 4, [.v (.int .u32 0)]⟩ := by kernel_rfl
theorem ti56 : tyI Tryd.prog 56 = some ⟨true, 4, 40, [.v (.string ⟨#[]⟩), .v (.int .u16 0), .v (.int .u32 0), .v (.string ⟨#[]⟩)]⟩ := by kernel_rfl
theorem sp56 : structPlaces Tryd.prog 56 = some [(0, 1), (1, 1), (2, 1), (3, 1)] := by kernel_rfl
theorem ti57 : tyI Tryd.prog 57 = some ⟨true, 4, 40, [.v (.string ⟨#[]⟩), .v (.int .u16 0), .v (.int .u32 0), .v (.string ⟨#[]⟩)]⟩ := by kernel_rfl
theorem sp57 : structPlaces Tryd.prog 57 = some [(0, 1), (1, 1), (2, 1), (3, 1)] := by kernel_rfl
theorem ti58 : tyI Tryd.prog 58 = some ⟨false, 1, 24, [.sl .full 0 []]⟩ := by kernel_rfl
theorem se58 : sliceElem Tryd.prog 58 = some ⟨true, 4, 40, [.v (.string ⟨#[]⟩), .v (.int .u16 0), .v (.int .u32 0), .v (.string ⟨#[]⟩)]⟩ := by kernel_rfl
theorem ti59 : tyI Tryd.prog 59 = some ⟨true, 4, 56, [.v (.string ⟨#[]⟩), .sl .full 0 [], .v (.bool false), .v (.int .i64 0)]⟩ := by kernel_rfl
theorem sp59 : structPlaces Tryd.prog 59 = some [(0, 1), (1, 1), (2, 1), (3, 1)] := by kernel_rfl
theorem ti60 : tyI Tryd.prog 60 = some ⟨true, 4, 56, [.v (.string ⟨#[]⟩), .sl .full 0 [], .v (.bool false), .v (.int .i64 0)]⟩ := by kernel_rfl
theorem sp60 : structPlaces Tryd.prog 60 = some [(0, 1), (1, 1), (2, 1), (3, 1)] := by kernel_rfl
theorem ti61 : tyI Tryd.prog 61 = some ⟨false, 1, 24, [.sl .full 0 []]⟩ := by kernel_rfl
theorem se61 : sliceElem Tryd.prog 61 = some ⟨true, 4, 56, [.v (.string ⟨#[]⟩), .sl .full 0 [], .v (.bool false), .v (.int .i64 0)]⟩ := by kernel_rfl
theorem ti62 : tyI Tryd.prog 62 = some ⟨false, 1, 24, [.sl .full 0 []]⟩ := by kernel_rfl
theorem se62 : sliceElem Tryd.prog 62 = some ⟨false, 1, 16, [.v (.string ⟨#[]⟩)]⟩ := by kernel_rfl
theorem ti63 : tyI Tryd.prog 63 = some ⟨false, 1, 24, [.sl .full 0 []]⟩ := by kernel_rfl
theorem se63 : sliceElem Tryd.prog 63 = some ⟨false, 1, 16, [.v (.string ⟨#[]⟩)]⟩ := by kernel_rfl
theorem ti64 : tyI Tryd.prog 64 = some ⟨true, 5, 104, [.v (.string ⟨#[]⟩), .v (.string ⟨#[]⟩), .sl .full 0 [], .sl .full 0 [], .sl .full 0 []]⟩ := by kernel_rfl
theorem sp64 : structPlaces Tryd.prog 64 = some [(0, 1), (1, 1), (2, 1), (3, 1), (4, 1)] := by kernel_rfl
theorem ti65 : tyI Tryd.prog 65 = some ⟨true, 5, 104, [.v (.string ⟨#[]⟩), .v (.string ⟨#[]⟩), .sl .full 0 [], .sl .full 0 [], .sl .full 0 []]⟩ := by kernel_rfl
theorem sp65 : structPlaces Tryd.prog 65 = some [(0, 1), (1, 1), (2, 1), (3, 1), (4, 1)] := by kernel_rfl
theorem ti66 : tyI Tryd.prog 66 = some ⟨false, 1, 8, [.v (.map none)]⟩ := by kernel_rfl
theorem mt66 : mapTypes Tryd.prog 66 = some (84, 75) := by kernel_rfl
theorem ti67 : tyI Tryd.prog 67 = some ⟨false, 1, 24, [.sl .full 0 []]⟩ := by kernel_rfl
theorem se67 : sliceElem Tryd.prog 67 = some ⟨true, 4, 32, [.v (.string ⟨#[]⟩), .v (.int .i64 0), .v (.bool false), .v (.bool false)]⟩ := by kernel_rfl
theorem ti68 : tyI Tryd.prog 68 = some ⟨true, 3, 40, [.sl .full 0 [], .v (.int .i64 0), .v (.int .i64 0)]⟩ := by kernel_rfl
theorem sp68 : structPlaces Tryd.prog 68 = some [(0, 1), (1, 1), (2, 1)] := by kernel_rfl
theorem ti69 : tyI Tryd.prog 69 = some ⟨true, 3, 40, [.sl .full 0 [], .v (.int .i64 0), .v (.int .i64 0)]⟩ := by kernel_rfl
theorem sp69 : structPlaces Tryd.prog 69 = some [(0, 1), (1, 1), (2, 1)] := by kernel_rfl
theorem ti70 : tyI Tryd.prog 70 = some ⟨true, 4, 48, [.sl .full 0 [], .v (.int .i64 0), .v (.int .i64 0), .v (.map none)]⟩ := by kernel_rfl
theorem sp70 : structPlaces Tryd.prog 70 = some [(0, 3), (3, 1)] := by kernel_rfl
theorem ti71 : tyI Tryd.prog 71 = some ⟨true, 4, 48, [.sl .full 0 [], .v (.int .i64 0), .v (.int .i64 0), .v (.map none)]⟩ := by kernel_rfl
theorem sp71 : structPlaces Tryd.prog 71 = some [(0, 3), (3, 1)] := by kernel_rfl
theorem ti72 : tyI Tryd.prog 72 = some ⟨false, 1, 8, [.v .nilFunc]⟩ := by kernel_rfl
theorem ti73 : tyI Tryd.prog 73 = some ⟨false, 1, 8, [.v .nilFunc]⟩ := by kernel_rfl
theorem ti74 : tyI Tryd.prog 74 = some ⟨false, 1, 8, [.v .nilFunc]⟩ := by kernel_rfl
theorem ti75 : tyI Tryd.prog 75 = some ⟨false, 1, 8, [.v (.pointer none)]⟩ := by kernel_rfl
theorem ti76 : tyI Tryd.prog 76 = some ⟨false, 1, 8, [.v .nilFunc]⟩ := by kernel_rfl
theorem ti77 : tyI Tryd.prog 77 = some ⟨false, 1, 8, [.v .nilFunc]⟩ := by kernel_rfl
theorem ti78 : tyI Tryd.prog 78 = some ⟨false, 1, 8, [.v .nilFunc]⟩ := by kernel_rfl
theorem ti79 : tyI Tryd.prog 79 = some ⟨false, 1, 8, [.v .nilFunc]⟩ := by kernel_rfl
theorem ti81 : tyI Tryd.prog 81 = some ⟨false, 1, 8, [.v .nilFunc]⟩ := by kernel_rfl
theorem ti82 : tyI Tryd.prog 82 = some ⟨false, 1, 8, [.v .nilFunc]⟩ := by kernel_rfl
theorem ti83 : tyI Tryd.prog 83 = some ⟨true, 2, 16, [.v (.int .i64 0), .v (.int .i64 0)]⟩ := by kernel_rfl
theorem sp83 : structPlaces Tryd.prog 83 = some [(0, 1), (1, 1)] := by kernel_rfl
theorem ti84 : tyI Tryd.prog 84 = some ⟨true, 2, 16, [.v (.int .i64 0), .v (.int .i64 0)]⟩ := by kernel_rfl
theorem sp84 : structPlaces Tryd.prog 84 = some [(0, 1), (1, 1)] := by kernel_rfl
theorem ti86 : tyI Tryd.prog 86 = some ⟨false, 1, 8, [.v .nilFunc]⟩ := by kernel_rfl
theorem ti87 : tyI Tryd.prog 87 = some ⟨false, 1, 8, [.v (.pointer none)]⟩ := by kernel_rfl
theorem ti88 : tyI Tryd.prog 88 = some ⟨true, 2, 32, [.v (.pointer none), .sl .full 0 []]⟩ := by kernel_rfl
theorem sp88 : structPlaces Tryd.prog 88 = some [(0, 1), (1, 1)] := by kernel_rfl
theorem ti89 : tyI Tryd.prog 89 = some ⟨true, 2, 32, [.v (.pointer none), .sl .full 0 []]⟩ := by kernel_rfl
theorem sp89 : structPlaces Tryd.prog 89 = some [(0, 1), (1, 1)] := by kernel_rfl
theorem ti90 : tyI Tryd.prog 90 = some ⟨false, 1, 8, [.v .nilFunc]⟩ := by kernel_rfl
theorem ti91 : tyI Tryd.prog 91 = some ⟨false, 1, 16, [.v .nilIface]⟩ := by kernel_rfl
theorem ti92 : tyI Tryd.prog 92 = some ⟨false, 1, 16, [.v .nilIface]⟩ := by kernel_rfl
theorem ti93 : tyI Tryd.prog 93 = some ⟨false, 1, 8, [.v .nilFunc]⟩ := by kernel_rfl
theorem ti95 : tyI Tryd.prog 95 = some ⟨false, 1, 8, [.v .nilFunc]⟩ := by kernel_rfl
theorem ti96 : tyI Tryd.prog 96 = some ⟨false, 1, 8, [.v .nilFunc]⟩ := by kernel_rfl
theorem ti97 : tyI Tryd.prog 97 = some ⟨false, 1, 8, [.v .nilFunc]⟩ := by kernel_rfl
theorem ti99 : tyI Tryd.prog 99 = some ⟨false, 1, 8, [.v .nilFunc]⟩ := by kernel_rfl
theorem ti100 : tyI Tryd.prog 100 = some ⟨false, 1, 8, [.v .nilFunc]⟩ := by kernel_rfl
theorem ti101 : tyI Tryd.prog 101 = some ⟨false, 1, 8, [.v .nilFunc]⟩ := by kernel_rfl
theorem ti103 : tyI Tryd.prog 103 = some ⟨false, 1, 8, [.v .nilFunc]⟩ := by kernel_rfl
theorem ti104 : tyI Tryd.prog 104 = some ⟨false, 1, 8, [.v (.map none)]⟩ := by kernel_rfl
theorem mt104 : mapTypes Tryd.prog 104 = some (22, 9) := by kernel_rfl
theorem ti105 : tyI Tryd.prog 105 = some ⟨false, 1, 8, [.v .nilFunc]⟩ := by kernel_rfl
theorem ti106 : tyI Tryd.prog 106 = some ⟨false, 1, 8, [.v .nilFunc]⟩ := by kernel_rfl
theorem ti108 : tyI Tryd.prog 108 = some ⟨false, 1, 8, [.v .nilFunc]⟩ := by kernel_rfl
theorem ti109 : tyI Tryd.prog 109 = some ⟨false, 1, 8, [.v (.pointer none)]⟩ := by kernel_rfl
theorem ti110 : tyI Tryd.prog 110 = some ⟨true, 2, 16, [.v (.pointer none), .v (.int .i64 0)]⟩ := by kernel_rfl
theorem sp110 : structPlaces Tryd.prog 110 = some [(0, 1), (1, 1)] := by kernel_rfl
theorem ti111 : tyI Tryd.prog 111 = some ⟨true, 2, 16, [.v (.pointer none), .v (.int .i64 0)]⟩ := by kernel_rfl
theorem sp111 : structPlaces Tryd.prog 111 = some [(0, 1), (1, 1)] := by kernel_rfl
theorem ti112 : tyI Tryd.prog 112 = some ⟨false, 1, 8, [.v (.pointer none)]⟩ := by kernel_rfl
theorem ti113 : tyI Tryd.prog 113 = some ⟨true, 2, 16, [.v (.pointer none), .v (.pointer none)]⟩ := by kernel_rfl
theorem ti114 : tyI Tryd.prog 114 = some ⟨true, 5, 48, [.v (.string ⟨#[]⟩), .v (.bool false), .v (.int .i64 0), .v (.pointer none), .v (.pointer none)]⟩ := by kernel_rfl
theorem sp114 : structPlaces Tryd.prog 114 = some [(0, 1), (1, 1), (2, 1), (3, 2)] := by kernel_rfl
theorem ti115 : tyI Tryd.prog 115 = some ⟨true, 5, 48, [.v (.string ⟨#[]⟩), .v (.bool false), .v (.int .i64 0), .v (.pointer none), .v (.pointer none)]⟩ := by kernel_rfl
theorem sp115 : structPlaces Tryd.prog 115 = some [(0, 1), (1, 1), (2, 1), (3, 2)] := by kernel_rfl
theorem ti116 : tyI Tryd.prog 116 = some ⟨false, 1, 8, [.v .nilFunc]⟩ := by kernel_rfl
theorem ti117 : tyI Tryd.prog 117 = some ⟨false, 1, 8, [.v .nilFunc]⟩ := by kernel_rfl
theorem ti118 : tyI Tryd.prog 118 = some ⟨false, 1, 8, [.v .nilFunc]⟩ := by kernel_rfl
theorem ti119 : tyI Tryd.prog 119 = some ⟨false, 1, 8, [.v (.pointer none)]⟩ := by kernel_rfl
theorem ti120 : tyI Tryd.prog 120 = some ⟨true, 4, 32, [.v (.string ⟨#[]⟩), .v (.int .i64 0), .v (.bool false), .v (.bool false)]⟩ := by kernel_rfl
theorem sp120 : structPlaces Tryd.prog 120 = some [(0, 1), (1, 1), (2, 1), (3, 1)] := by kernel_rfl
theorem ti121 : tyI Tryd.prog 121 = some ⟨true, 4, 32, [.v (.string ⟨#[]⟩), .v (.int .i64 0), .v (.bool false), .v (.bool false)]⟩ := by kernel_rfl
theorem sp121 : structPlaces Tryd.prog 121 = some [(0, 1), (1, 1), (2, 1), (3, 1)] := by kernel_rfl
theorem ti122 : tyI Tryd.prog 122 = some ⟨false, 1, 8, [.v .nilFunc]⟩ := by kernel_rfl
theorem ti123 : tyI Tryd.prog 123 = some ⟨false, 1, 8, [.v .nilFunc]⟩ := by kernel_rfl
theorem ti124 : tyI Tryd.prog 124 = some ⟨false, 1, 8, [.v (.pointer none)]⟩ := by kernel_rfl
theorem ti125 : tyI Tryd.prog 125 = some ⟨false, 1, 8, [.v .nilFunc]⟩ := by kernel_rfl
theorem ti127 : tyI Tryd.prog 127 = some ⟨false, 1, 8, [.v .nilFunc]⟩ := by kernel_rfl
theorem ti128 : tyI Tryd.prog 128 = some ⟨false, 1, 8, [.v .nilFunc]⟩ := by kernel_rfl
theorem ti129 : tyI Tryd.prog 129 = some ⟨false, 1, 8, [.v .nilFunc]⟩ := by kernel_rfl
theorem ti130 : tyI Tryd.prog 130 = some ⟨false, 1, 8, [.v .nilFunc]⟩ := by kernel_rfl
theorem ti131 : tyI Tryd.prog 131 = some ⟨false, 1, 8, [.v .nilFunc]⟩ := by kernel_rfl
theorem ti132 : tyI Tryd.prog 132 = some ⟨false, 1, 8, [.v .nilFunc]⟩ := by kernel_rfl
theorem ti133 : tyI Tryd.prog 133 = some ⟨false, 1, 8, [.v .nilFunc]⟩ := by kernel_rfl
theorem ti134 : tyI Tryd.prog 134 = some ⟨false, 1, 16, [.v (.complex .f64 0 0)]⟩ := by kernel_rfl
theorem ti135 : tyI Tryd.prog 135 = some ⟨false, 1, 8, [.v .nilFunc]⟩ := by kernel_rfl
theorem ti136 : tyI Tryd.prog 136 = some ⟨false, 1, 8, [.v .nilFunc]⟩ := by kernel_rfl
theorem ti137 : tyI Tryd.prog 137 = some ⟨false, 1, 8, [.v .nilFunc]⟩ := by kernel_rfl
theorem ti138 : tyI Tryd.prog 138 = some ⟨false, 1, 8, [.v .nilFunc]⟩ := by kernel_rfl
theorem ti139 : tyI Tryd.prog 139 = some ⟨false, 1, 8, [.v .nilFunc]⟩ := by kernel_rfl
theorem ti140 : tyI Tryd.prog 140 = some ⟨false, 1, 8, [.v .nilFunc]⟩ := by kernel_rfl
theorem ti141 : tyI Tryd.prog 141 = some ⟨false, 1, 8, [.v .nilFunc]⟩ := by kernel_rfl
theorem ti142 : tyI Tryd.prog 142 = some ⟨false, 1, 8, [.v (.pointer none)]⟩ := by kernel_rfl
theorem ti143 : tyI Tryd.prog 143 = some ⟨false, 1, 8, [.v .nilFunc]⟩ := by kernel_rfl
theorem ti144 : tyI Tryd.prog 144 = some ⟨false, 1, 8, [.v .nilFunc]⟩ := by kernel_rfl
theorem ti145 : tyI Tryd.prog 145 = some ⟨false, 1, 8, [.v .nilFunc]⟩ := by kernel_rfl
theorem ti146 : tyI Tryd.prog 146 = some ⟨false, 1, 24, [.sl .full 0 []]⟩ := by kernel_rfl
theorem se146 : sliceElem Tryd.prog 146 = some ⟨false, 1, 8, [.v (.int .i64 0)]⟩ := by kernel_rfl
theorem ti147 : tyI Tryd.prog 147 = some ⟨false, 1, 8, [.v .nilFunc]⟩ := by kernel_rfl
theorem ti148 : tyI Tryd.prog 148 = some ⟨false, 1, 8, [.v (.float .f64 0)]⟩ := by kernel_rfl
theorem ti149 : tyI Tryd.prog 149 = some ⟨false, 1, 24, [.sl .full 0 []]⟩ := by kernel_rfl
theorem se149 : sliceElem Tryd.prog 149 = some ⟨false, 1, 8, [.v (.int .i64 0)]⟩ := by kernel_rfl
theorem ti150 : tyI Tryd.prog 150 = some ⟨false, 1, 8, [.v (.int .u64 0)]⟩ := by kernel_rfl
theorem ti151 : tyI Tryd.prog 151 = some ⟨false, 1, 8, [.v .nilFunc]⟩ := by kernel_rfl
theorem ti152 : tyI Tryd.prog 152 = some ⟨false, 1, 8, [.v .nilFunc]⟩ := by kernel_rfl
theorem ti153 : tyI Tryd.prog 153 = some ⟨false, 1, 8, [.v .nilFunc]⟩ := by kernel_rfl
theorem ti155 : tyI Tryd.prog 155 = some ⟨false, 1, 8, [.v .nilFunc]⟩ := by kernel_rfl
theorem ti156 : tyI Tryd.prog 156 = some ⟨false, 1, 8, [.v .nilFunc]⟩ := by kernel_rfl
theorem ti157 : tyI Tryd.prog 157 = some ⟨false, 1, 8, [.v (.int .u64 0)]⟩ := by kernel_rfl
theorem ti158 : tyI Tryd.prog 158 = some ⟨false, 1, 8, [.v (.map none)]⟩ := by kernel_rfl
theorem mt158 : mapTypes Tryd.prog 158 = some (45, 62) := by kernel_rfl
theorem ti159 : tyI Tryd.prog 159 = some ⟨false, 1, 8, [.v .nilFunc]⟩ := by kernel_rfl
theorem ti160 : tyI Tryd.prog 160 = some ⟨false, 1, 8, [.v .nilFunc]⟩ := by kernel_rfl
theorem ti161 : tyI Tryd.prog 161 = some ⟨false, 1, 8, [.v .nilFunc]⟩ := by kernel_rfl
theorem ti162 : tyI Tryd.prog 162 = some ⟨false, 1, 8, [.v .nilFunc]⟩ := by kernel_rfl
theorem ti163 : tyI Tryd.prog 163 = some ⟨false, 1, 8, [.v .nilFunc]⟩ := by kernel_rfl
theorem ti164 : tyI Tryd.prog 164 = some ⟨false, 1, 8, [.v .nilFunc]⟩ := by kernel_rfl
theorem ti165 : tyI Tryd.prog 165 = some ⟨true, 24, 24, [.v (.int .u8 0), .v (.int .u8 0), .v (.int .u8 0), .v (.int .u8 0), .v (.int .u8 0), .v (.int .u8 0), .v (.int .u8 0), .v (.int .u8 0), .v (.int .u8 0), .v (.int .u8 0), .v (.int .u8 0), .v (.int .u8 0), .v (.int .u8 0), .v (.int .u8 0), .v (.int .u8 0), .v (.int .u8 0), .v (.int .u8 0), .v (.int .u8 0), .v (.int .u8 0), .v (.int .u8 0), .v (.int .u8 0), .v (.int .u8 0), .v (.int .u8 0), .v (.int .u8 0)]⟩ := by kernel_rfl
theorem ti166 : tyI Tryd.prog 166 = some ⟨false, 1, 8, [.v .nilFunc]⟩ := by kernel_rfl
theorem ti167 : tyI Tryd.prog 167 = some ⟨false, 1, 8, [.v .nilFunc]⟩ := by kernel_rfl
theorem ti169 : tyI Tryd.prog 169 = some ⟨false, 1, 8, [.v .nilFunc]⟩ := by kernel_rfl
theorem ti170 : tyI Tryd.prog 170 = some ⟨false, 1, 8, [.v .nilFunc]⟩ := by kernel_rfl
theorem ti172 : tyI Tryd.prog 172 = some ⟨false, 1, 8, [.v .nilFunc]⟩ := by kernel_rfl
theorem ti173 : tyI Tryd.prog 173 = some ⟨false, 1, 8, [.v .nilFunc]⟩ := by kernel_rfl
theorem ti174 : tyI Tryd.prog 174 = some ⟨false, 1, 8, [.v .nilFunc]⟩ := by kernel_rfl
theorem ti175 : tyI Tryd.prog 175 = some ⟨false, 1, 8, [.v .nilFunc]⟩ := by kernel_rfl
theorem ti177 : tyI Tryd.prog 177 = some ⟨false, 1, 8, [.v .nilFunc]⟩ := by kernel_rfl
theorem ti178 : tyI Tryd.prog 178 = some ⟨false, 1, 8, [.v .nilFunc]⟩ := by kernel_rfl
theorem ti179 : tyI Tryd.prog 179 = some ⟨false, 1, 8, [.v .nilFunc]⟩ := by kernel_rfl
theorem ti180 : tyI Tryd.prog 180 = some ⟨false, 1, 8, [.v .nilFunc]⟩ := by kernel_rfl
theorem ti181 : tyI Tryd.prog 181 = some ⟨true, 20, 160, [.v (.int .u64 0), .v (.int .u64 0), .v (.int .u64 0), .v (.int .u64 0), .v (.int .u64 0), .v (.int .u64 0), .v (.int .u64 0), .v (.int .u64 0), .v (.int .u64 0), .v (.int .u64 0), .v (.int .u64 0), .v (.int .u64 0), .v (.int .u64 0), .v (.int .u64 0), .v (.int .u64 0), .v (.int .u64 0), .v (.int .u64 0), .v (.int .u64 0), .v (.int .u64 0), .v (.int .u64 0)]⟩ := by kernel_rfl
theorem ti183 : tyI Tryd.prog 183 = some ⟨false, 1, 8, [.v .nilFunc]⟩ := by kernel_rfl
theorem ti184 : tyI Tryd.prog 184 = some ⟨false, 1, 8, [.v .nilFunc]⟩ := by kernel_rfl
theorem ti185 : tyI Tryd.prog 185 = some ⟨false, 1, 8, [.v (.int .i64 0)]⟩ := by kernel_rfl
theorem ti187 : tyI Tryd.prog 187 = some ⟨false, 1, 8, [.v .nilFunc]⟩ := by kernel_rfl
theorem ti188 : tyI Tryd.prog 188 = some ⟨false, 1, 8, [.v (.pointer none)]⟩ := by kernel_rfl
theorem ti189 : tyI Tryd.prog 189 = some ⟨false, 1, 8, [.v .nilFunc]⟩ := by kernel_rfl
theorem ti190 : tyI Tryd.prog 190 = some ⟨false, 1, 8, [.v .nilFunc]⟩ := by kernel_rfl
theorem ti192 : tyI Tryd.prog 192 = some ⟨false, 1, 8, [.v .nilFunc]⟩ := by kernel_rfl
theorem ti194 : tyI Tryd.prog 194 = some ⟨false, 1, 8, [.v .nilFunc]⟩ := by kernel_rfl
theorem ti195 : tyI Tryd.prog 195 = some ⟨false, 1, 8, [.v (.pointer none)]⟩ := by kernel_rfl
theorem ti196 : tyI Tryd.prog 196 = some ⟨false, 1, 8, [.v .nilFunc]⟩ := by kernel_rfl
theorem ti197 : tyI Tryd.prog 197 = some ⟨true, 3, 48, [.v (.string ⟨#[]⟩), .v (.string ⟨#[]⟩), .v .nilIface]⟩ := by kernel_rfl
theorem sp197 : structPlaces Tryd.prog 197 = some [(0, 1), (1, 1), (2, 1)] := by kernel_rfl
theorem ti198 : tyI Tryd.prog 198 = some ⟨true, 3, 48, [.v (.string ⟨#[]⟩), .v (.string ⟨#[]⟩), .v .nilIface]⟩ := by kernel_rfl
theorem sp198 : structPlaces Tryd.prog 198 = some [(0, 1), (1, 1), (2, 1)] := by kernel_rfl
theorem ti199 : tyI Tryd.prog 199 = some ⟨false, 1, 8, [.v .nilFunc]⟩ := by kernel_rfl
theorem ti200 : tyI Tryd.prog 200 = some ⟨true, 32, 32, [.v (.int .u8 0), .v (.int .u8 0), .v (.int .u8 0), .v (.int .u8 0), .v (.int .u8 0), .v (.int .u8 0), .v (.int .u8 0), .v (.int .u8 0), .v (.int .u8 0), .v (.int .u8 0), .v (.int .u8 0), .v (.int .u8 0), .v (.int .u8 0), .v (.int .u8 0), .v (.int .u8 0), .v (.int .u8 0), .v (.int .u8 0), .v (.int .u8 0), .v (.int .u8 0), .v (.int .u8 0), .v (.int .u8 0), .v (.int .u8 0), .v (.int .u8 0), .v (.int .u8 0), .v (.int .u8 0), .v (.int .u8 0), .v (.int .u8 0), .v (.int .u8 0), .v (.int .u8 0), .v (.int .u8 0), .v (.int .u8 0), .v (.int .u8 0)]⟩ := by kernel_rfl
theorem ti202 : tyI Tryd.prog 202 = some ⟨false, 1, 8, [.v (.pointer none)]⟩ := by kernel_rfl
theorem ti203 : tyI Tryd.prog 203 = some ⟨true, 1, 16, [.v (.string ⟨#[]⟩)]⟩ := by kernel_rfl
theorem sp203 : structPlaces Tryd.prog 203 = some [(0, 1)] := by kernel_rfl
theorem ti204 : tyI Tryd.prog 204 = some ⟨true, 1, 16, [.v (.string ⟨#[]⟩)]⟩ := by kernel_rfl
theorem sp204 : structPlaces Tryd.prog 204 = some [(0, 1)] := by kernel_rfl
theorem ti205 : tyI Tryd.prog 205 = some ⟨true, 4, 40, [.v (.pointer none), .v (.pointer none), .v (.pointer none), .v (.string ⟨#[]⟩)]⟩ := by kernel_rfl
theorem sp205 : structPlaces Tryd.prog 205 = some [(0, 1), (1, 1), (2, 1), (3, 1)] := by kernel_rfl
theorem ti206 : tyI Tryd.prog 206 = some ⟨true, 4, 40, [.v (.pointer none), .v (.pointer none), .v (.pointer none), .v (.string ⟨#[]⟩)]⟩ := by kernel_rfl
theorem sp206 : structPlaces Tryd.prog 206 = some [(0, 1), (1, 1), (2, 1), (3, 1)] := by kernel_rfl
theorem ti207 : tyI Tryd.prog 207 = some ⟨true, 0, 0, []⟩ := by kernel_rfl
theorem ti208 : tyI Tryd.prog 208 = some ⟨true, 0, 0, []⟩ := by kernel_rfl
theorem sp208 : structPlaces Tryd.prog 208 = some [(0, 0)] := by kernel_rfl
theorem ti209 : tyI Tryd.prog 209 = some ⟨true, 0, 0, []⟩ := by kernel_rfl
theorem sp209 : structPlaces Tryd.prog 209 = some [(0, 0)] := by kernel_rfl
theorem ti210 : tyI Tryd.prog 210 = some ⟨false, 1, 1, [.v (.int .u8 0)]⟩ := by kernel_rfl
theorem ti211 : tyI Tryd.prog 211 = some ⟨false, 1, 1, [.v (.int .u8 0)]⟩ := by kernel_rfl
theorem ti212 : tyI Tryd.prog 212 = some ⟨false, 1, 8, [.v .nilFunc]⟩ := by kernel_rfl
theorem ti213 : tyI Tryd.prog 213 = some ⟨false, 1, 4, [.v (.int .i32 0)]⟩ := by kernel_rfl
theorem ti214 : tyI Tryd.prog 214 = some ⟨false, 1, 4, [.v (.int .i32 0)]⟩ := by kernel_rfl
theorem ti215 : tyI Tryd.prog 215 = some ⟨true, 11, 48, [.v (.int .u64 0), .v (.int .u64 0), .v (.int .u32 0), .v (.int .u8 0), .v (.int .u8 0), .v (.int .u8 0), .v (.int .u8 0), .v .nilFunc, .v (.pointer none), .v (.int .i32 0), .v (.int .i32 0)]⟩ := by kernel_rfl
theorem sp215 : structPlaces Tryd.prog 215 = some [(0, 1), (1, 1), (2, 1), (3, 1), (4, 1), (5, 1), (6, 1), (7, 1), (8, 1), (9, 1), (10, 1)] := by kernel_rfl
theorem ti216 : tyI Tryd.prog 216 = some ⟨true, 11, 48, [.v (.int .u64 0), .v (.int .u64 0), .v (.int .u32 0), .v (.int .u8 0), .v (.int .u8 0), .v (.int .u8 0), .v (.int .u8 0), .v .nilFunc, .v (.pointer none), .v (.int .i32 0), .v (.int .i32 0)]⟩ := by kernel_rfl
theorem sp216 : structPlaces Tryd.prog 216 = some [(0, 1), (1, 1), (2, 1), (3, 1), (4, 1), (5, 1), (6, 1), (7, 1), (8, 1), (9, 1), (10, 1)] := by kernel_rfl
end Go.HL
