/- The types of the program, as far as the operations ask: a table, and that the loaded program bears it out. -/
import Derived.Test.YtpipbjfcbbdicaaGreatDoorAbsC
import Derived.Test.YtpipbjfcbbdicaaGreatDoorProg
import Derived.KernelRfl
set_option linter.unusedVariables false
set_option linter.unusedSimpArgs false
namespace Go.Proofs.YtpipbjfcbbdicaaGreatDoor
open Go Go.Abs
theorem tok_cons {P : Program} {t : TypeId} {ti : TI} {T : TT} (h : TFits P t ti) (k : TOk P T) : TOk P ((t, ti) :: T) := fun p hp => by
  rcases List.mem_cons.1 hp with rfl | hp
  · exact h
  · exact k p hp
def ti1 : TI := ⟨.func, 1, 8, [.nilFunc], false⟩
def ti2 : TI := ⟨.int .i64, 1, 8, [.int .i64 0], false⟩
def ti3 : TI := ⟨.int .i64, 1, 8, [.int .i64 0], false⟩
def ti4 : TI := ⟨.bool, 1, 1, [.bool false], false⟩
def ti5 : TI := ⟨.int .u8, 1, 1, [.int .u8 0], false⟩
def ti6 : TI := ⟨.int .u8, 1, 1, [.int .u8 0], false⟩
def ti7 : TI := ⟨.struct [(0, 2), (1, 3), (2, 4), (3, 6)], 4, 24, [.int .i64 0, .int .i64 0, .bool false, .int .u8 0], true⟩
def ti8 : TI := ⟨.struct [(0, 2), (1, 3), (2, 4), (3, 6)], 4, 24, [.int .i64 0, .int .i64 0, .bool false, .int .u8 0], true⟩
def ti9 : TI := ⟨.str, 1, 16, [.string ⟨⟨[]⟩⟩], false⟩
def ti10 : TI := ⟨.str, 1, 16, [.string ⟨⟨[]⟩⟩], false⟩
def ti11 : TI := ⟨.str, 1, 16, [.string ⟨⟨[]⟩⟩], false⟩
def ti12 : TI := ⟨.int .u64, 1, 8, [.int .u64 0], false⟩
def ti13 : TI := ⟨.struct [(0, 9), (1, 12)], 2, 24, [.string ⟨⟨[]⟩⟩, .int .u64 0], false⟩
def ti14 : TI := ⟨.struct [(0, 9), (1, 12)], 2, 24, [.string ⟨⟨[]⟩⟩, .int .u64 0], false⟩
def ti15 : TI := ⟨.ptr 270, 1, 8, [.pointer none], false⟩
def ti16 : TI := ⟨.ptr 273, 1, 8, [.pointer none], false⟩
def ti17 : TI := ⟨.ptr 281, 1, 8, [.pointer none], false⟩
def ti18 : TI := ⟨.struct [(0, 17)], 1, 8, [.pointer none], false⟩
def ti19 : TI := ⟨.struct [(0, 17)], 1, 8, [.pointer none], false⟩
def ti20 : TI := ⟨.iface, 1, 16, [.nilIface], false⟩
def ti21 : TI := ⟨.int .i32, 1, 4, [.int .i32 0], false⟩
def ti22 : TI := ⟨.array 10 9, 10, 160, [.string ⟨⟨[]⟩⟩, .string ⟨⟨[]⟩⟩, .string ⟨⟨[]⟩⟩, .string ⟨⟨[]⟩⟩, .string ⟨⟨[]⟩⟩, .string ⟨⟨[]⟩⟩, .string ⟨⟨[]⟩⟩, .string ⟨⟨[]⟩⟩, .string ⟨⟨[]⟩⟩, .string ⟨⟨[]⟩⟩], false⟩
def ti23 : TI := ⟨.array 10 9, 10, 160, [.string ⟨⟨[]⟩⟩, .string ⟨⟨[]⟩⟩, .string ⟨⟨[]⟩⟩, .string ⟨⟨[]⟩⟩, .string ⟨⟨[]⟩⟩, .string ⟨⟨[]⟩⟩, .string ⟨⟨[]⟩⟩, .string ⟨⟨[]⟩⟩, .string ⟨⟨[]⟩⟩, .string ⟨⟨[]⟩⟩], false⟩
def ti24 : TI := ⟨.slice 43, 1, 24, [.slice none 0 0], false⟩
def ti25 : TI := ⟨.slice 46, 1, 24, [.slice none 0 0], false⟩
def ti26 : TI := ⟨.slice 48, 1, 24, [.slice none 0 0], false⟩
def ti27 : TI := ⟨.slice 87, 1, 24, [.slice none 0 0], false⟩
def ti28 : TI := ⟨.struct [(0, 9), (1, 9), (2, 9)], 3, 48, [.string ⟨⟨[]⟩⟩, .string ⟨⟨[]⟩⟩, .string ⟨⟨[]⟩⟩], true⟩
def ti29 : TI := ⟨.struct [(0, 9), (1, 9), (2, 9)], 3, 48, [.string ⟨⟨[]⟩⟩, .string ⟨⟨[]⟩⟩, .string ⟨⟨[]⟩⟩], true⟩
def ti30 : TI := ⟨.struct [(0, 23), (10, 9), (11, 9), (12, 9), (13, 9), (14, 9), (15, 9), (16, 3), (17, 9), (18, 9), (19, 9), (20, 9), (21, 9), (22, 24), (23, 24), (24, 24), (25, 25), (26, 26), (27, 27), (28, 29), (31, 29)], 34, 584, [.string ⟨⟨[]⟩⟩, .string ⟨⟨[]⟩⟩, .string ⟨⟨[]⟩⟩, .string ⟨⟨[]⟩⟩, .string ⟨⟨[]⟩⟩, .string ⟨⟨[]⟩⟩, .string ⟨⟨[]⟩⟩, .string ⟨⟨[]⟩⟩, .string ⟨⟨[]⟩⟩, .string ⟨⟨[]⟩⟩, .string ⟨⟨[]⟩⟩, .string ⟨⟨[]⟩⟩, .string ⟨⟨[]⟩⟩, .string ⟨⟨[]⟩⟩, .string ⟨⟨[]⟩⟩, .string ⟨⟨[]⟩⟩, .int .i64 0, .string ⟨⟨[]⟩⟩, .string ⟨⟨[]⟩⟩, .string ⟨⟨[]⟩⟩, .string ⟨⟨[]⟩⟩, .string ⟨⟨[]⟩⟩, .slice none 0 0, .slice none 0 0, .slice none 0 0, .slice none 0 0, .slice none 0 0, .slice none 0 0, .string ⟨⟨[]⟩⟩, .string ⟨⟨[]⟩⟩, .string ⟨⟨[]⟩⟩, .string ⟨⟨[]⟩⟩, .string ⟨⟨[]⟩⟩, .string ⟨⟨[]⟩⟩], true⟩
def ti31 : TI := ⟨.struct [(0, 23), (10, 9), (11, 9), (12, 9), (13, 9), (14, 9), (15, 9), (16, 3), (17, 9), (18, 9), (19, 9), (20, 9), (21, 9), (22, 24), (23, 24), (24, 24), (25, 25), (26, 26), (27, 27), (28, 29), (31, 29)], 34, 584, [.string ⟨⟨[]⟩⟩, .string ⟨⟨[]⟩⟩, .string ⟨⟨[]⟩⟩, .string ⟨⟨[]⟩⟩, .string ⟨⟨[]⟩⟩, .string ⟨⟨[]⟩⟩, .string ⟨⟨[]⟩⟩, .string ⟨⟨[]⟩⟩, .string ⟨⟨[]⟩⟩, .string ⟨⟨[]⟩⟩, .string ⟨⟨[]⟩⟩, .string ⟨⟨[]⟩⟩, .string ⟨⟨[]⟩⟩, .string ⟨⟨[]⟩⟩, .string ⟨⟨[]⟩⟩, .string ⟨⟨[]⟩⟩, .int .i64 0, .string ⟨⟨[]⟩⟩, .string ⟨⟨[]⟩⟩, .string ⟨⟨[]⟩⟩, .string ⟨⟨[]⟩⟩, .string ⟨⟨[]⟩⟩, .slice none 0 0, .slice none 0 0, .slice none 0 0, .slice none 0 0, .slice none 0 0, .slice none 0 0, .string ⟨⟨[]⟩⟩, .string ⟨⟨[]⟩⟩, .string ⟨⟨[]⟩⟩, .string ⟨⟨[]⟩⟩, .string ⟨⟨[]⟩⟩, .string ⟨⟨[]⟩⟩], true⟩
def ti32 : TI := ⟨.func, 1, 8, [.nilFunc], false⟩
def ti33 : TI := ⟨.func, 1, 8, [.nilFunc], false⟩
def ti34 : TI := ⟨.int .i64, 1, 8, [.int .i64 0], false⟩
def ti35 : TI := ⟨.func, 1, 8, [.nilFunc], false⟩
def ti36 : TI := ⟨.struct [(0, 3), (1, 3), (2, 9)], 3, 32, [.int .i64 0, .int .i64 0, .string ⟨⟨[]⟩⟩], true⟩
def ti37 : TI := ⟨.struct [(0, 3), (1, 3), (2, 9)], 3, 32, [.int .i64 0, .int .i64 0, .string ⟨⟨[]⟩⟩], true⟩
def ti38 : TI := ⟨.func, 1, 8, [.nilFunc], false⟩
def ti39 : TI := ⟨.func, 1, 8, [.nilFunc], false⟩
def ti40 : TI := ⟨.func, 1, 8, [.nilFunc], false⟩
def ti41 : TI := ⟨.func, 1, 8, [.nilFunc], false⟩
def ti42 : TI := ⟨.struct [(0, 3), (1, 27)], 2, 32, [.int .i64 0, .slice none 0 0], true⟩
def ti43 : TI := ⟨.struct [(0, 3), (1, 27)], 2, 32, [.int .i64 0, .slice none 0 0], true⟩
def ti44 : TI := ⟨.slice 5, 1, 24, [.slice none 0 0], false⟩
def ti45 : TI := ⟨.struct [(0, 9), (1, 9), (2, 9), (3, 27), (4, 3), (5, 3), (6, 3), (7, 3)], 8, 104, [.string ⟨⟨[]⟩⟩, .string ⟨⟨[]⟩⟩, .string ⟨⟨[]⟩⟩, .slice none 0 0, .int .i64 0, .int .i64 0, .int .i64 0, .int .i64 0], true⟩
def ti46 : TI := ⟨.struct [(0, 9), (1, 9), (2, 9), (3, 27), (4, 3), (5, 3), (6, 3), (7, 3)], 8, 104, [.string ⟨⟨[]⟩⟩, .string ⟨⟨[]⟩⟩, .string ⟨⟨[]⟩⟩, .slice none 0 0, .int .i64 0, .int .i64 0, .int .i64 0, .int .i64 0], true⟩
def ti47 : TI := ⟨.struct [(0, 9), (1, 27)], 2, 40, [.string ⟨⟨[]⟩⟩, .slice none 0 0], true⟩
def ti48 : TI := ⟨.struct [(0, 9), (1, 27)], 2, 40, [.string ⟨⟨[]⟩⟩, .slice none 0 0], true⟩
def ti49 : TI := ⟨.slice 51, 1, 24, [.slice none 0 0], false⟩
def ti50 : TI := ⟨.struct [(0, 21), (1, 21)], 2, 8, [.int .i32 0, .int .i32 0], true⟩
def ti51 : TI := ⟨.struct [(0, 21), (1, 21)], 2, 8, [.int .i32 0, .int .i32 0], true⟩
def ti52 : TI := ⟨.slice 51, 1, 24, [.slice none 0 0], false⟩
def ti53 : TI := ⟨.func, 1, 8, [.nilFunc], false⟩
def ti54 : TI := ⟨.func, 1, 8, [.nilFunc], false⟩
def ti55 : TI := ⟨.func, 1, 8, [.nilFunc], false⟩
def ti56 : TI := ⟨.slice 9, 1, 24, [.slice none 0 0], false⟩
def ti57 : TI := ⟨.func, 1, 8, [.nilFunc], false⟩
def ti58 : TI := ⟨.func, 1, 8, [.nilFunc], false⟩
def ti59 : TI := ⟨.struct [(0, 34), (1, 32)], 2, 16, [.int .i64 0, .nilFunc], true⟩
def ti60 : TI := ⟨.func, 1, 8, [.nilFunc], false⟩
def ti61 : TI := ⟨.func, 1, 8, [.nilFunc], false⟩
def ti62 : TI := ⟨.func, 1, 8, [.nilFunc], false⟩
def ti63 : TI := ⟨.func, 1, 8, [.nilFunc], false⟩
def ti64 : TI := ⟨.slice 156, 1, 24, [.slice none 0 0], false⟩
def ti65 : TI := ⟨.slice 156, 1, 24, [.slice none 0 0], false⟩
def ti66 : TI := ⟨.int .i64, 1, 8, [.int .i64 0], false⟩
def ti68 : TI := ⟨.func, 1, 8, [.nilFunc], false⟩
def ti69 : TI := ⟨.func, 1, 8, [.nilFunc], false⟩
def ti70 : TI := ⟨.func, 1, 8, [.nilFunc], false⟩
def ti71 : TI := ⟨.func, 1, 8, [.nilFunc], false⟩
def ti72 : TI := ⟨.func, 1, 8, [.nilFunc], false⟩
def ti73 : TI := ⟨.func, 1, 8, [.nilFunc], false⟩
def ti74 : TI := ⟨.func, 1, 8, [.nilFunc], false⟩
def ti75 : TI := ⟨.func, 1, 8, [.nilFunc], false⟩
def ti76 : TI := ⟨.func, 1, 8, [.nilFunc], false⟩
def ti77 : TI := ⟨.func, 1, 8, [.nilFunc], false⟩
def ti78 : TI := ⟨.slice 59, 1, 24, [.slice none 0 0], false⟩
def ti79 : TI := ⟨.func, 1, 8, [.nilFunc], false⟩
def ti80 : TI := ⟨.func, 1, 8, [.nilFunc], false⟩
def ti81 : TI := ⟨.func, 1, 8, [.nilFunc], false⟩
def ti82 : TI := ⟨.ptr 9, 1, 8, [.pointer none], false⟩
def ti83 : TI := ⟨.int .u64, 1, 8, [.int .u64 0], false⟩
def ti84 : TI := ⟨.slice 82, 1, 24, [.slice none 0 0], false⟩
def ti85 : TI := ⟨.int .i64, 1, 8, [.int .i64 0], false⟩
def ti86 : TI := ⟨.struct [(0, 85), (1, 9)], 2, 24, [.int .i64 0, .string ⟨⟨[]⟩⟩], true⟩
def ti87 : TI := ⟨.struct [(0, 85), (1, 9)], 2, 24, [.int .i64 0, .string ⟨⟨[]⟩⟩], true⟩
def ti88 : TI := ⟨.func, 1, 8, [.nilFunc], false⟩
def ti89 : TI := ⟨.func, 1, 8, [.nilFunc], false⟩
def ti90 : TI := ⟨.func, 1, 8, [.nilFunc], false⟩
def ti91 : TI := ⟨.func, 1, 8, [.nilFunc], false⟩
def ti92 : TI := ⟨.ptr 94, 1, 8, [.pointer none], false⟩
def ti93 : TI := ⟨.struct [(0, 92), (1, 44)], 2, 32, [.pointer none, .slice none 0 0], true⟩
def ti94 : TI := ⟨.struct [(0, 92), (1, 44)], 2, 32, [.pointer none, .slice none 0 0], true⟩
def ti95 : TI := ⟨.iface, 1, 16, [.nilIface], false⟩
def ti96 : TI := ⟨.iface, 1, 16, [.nilIface], false⟩
def ti97 : TI := ⟨.func, 1, 8, [.nilFunc], false⟩
def ti99 : TI := ⟨.func, 1, 8, [.nilFunc], false⟩
def ti100 : TI := ⟨.func, 1, 8, [.nilFunc], false⟩
def ti102 : TI := ⟨.func, 1, 8, [.nilFunc], false⟩
def ti103 : TI := ⟨.slice 190, 1, 24, [.slice none 0 0], false⟩
def ti104 : TI := ⟨.struct [(0, 103), (1, 103)], 2, 48, [.slice none 0 0, .slice none 0 0], true⟩
def ti105 : TI := ⟨.struct [(0, 103), (1, 103)], 2, 48, [.slice none 0 0, .slice none 0 0], true⟩
def ti106 : TI := ⟨.struct [(0, 105), (2, 105), (4, 4), (5, 3), (6, 3), (7, 3), (8, 3), (9, 3), (10, 3)], 11, 152, [.slice none 0 0, .slice none 0 0, .slice none 0 0, .slice none 0 0, .bool false, .int .i64 0, .int .i64 0, .int .i64 0, .int .i64 0, .int .i64 0, .int .i64 0], true⟩
def ti107 : TI := ⟨.struct [(0, 105), (2, 105), (4, 4), (5, 3), (6, 3), (7, 3), (8, 3), (9, 3), (10, 3)], 11, 152, [.slice none 0 0, .slice none 0 0, .slice none 0 0, .slice none 0 0, .bool false, .int .i64 0, .int .i64 0, .int .i64 0, .int .i64 0, .int .i64 0, .int .i64 0], true⟩
def ti109 : TI := ⟨.func, 1, 8, [.nilFunc], false⟩
def ti110 : TI := ⟨.func, 1, 8, [.nilFunc], false⟩
def ti111 : TI := ⟨.struct [(0, 66), (1, 3)], 2, 16, [.int .i64 0, .int .i64 0], true⟩
def ti112 : TI := ⟨.struct [(0, 66), (1, 3)], 2, 16, [.int .i64 0, .int .i64 0], true⟩
def ti114 : TI := ⟨.ptr 117, 1, 8, [.pointer none], false⟩
def ti115 : TI := ⟨.array 6 4, 6, 6, [.bool false, .bool false, .bool false, .bool false, .bool false, .bool false], false⟩
def ti116 : TI := ⟨.struct [(0, 9), (1, 3), (2, 3), (3, 115)], 9, 40, [.string ⟨⟨[]⟩⟩, .int .i64 0, .int .i64 0, .bool false, .bool false, .bool false, .bool false, .bool false, .bool false], true⟩
def ti117 : TI := ⟨.struct [(0, 9), (1, 3), (2, 3), (3, 115)], 9, 40, [.string ⟨⟨[]⟩⟩, .int .i64 0, .int .i64 0, .bool false, .bool false, .bool false, .bool false, .bool false, .bool false], true⟩
def ti118 : TI := ⟨.func, 1, 8, [.nilFunc], false⟩
def ti119 : TI := ⟨.func, 1, 8, [.nilFunc], false⟩
def ti121 : TI := ⟨.func, 1, 8, [.nilFunc], false⟩
def ti122 : TI := ⟨.func, 1, 8, [.nilFunc], false⟩
def ti123 : TI := ⟨.func, 1, 8, [.nilFunc], false⟩
def ti124 : TI := ⟨.func, 1, 8, [.nilFunc], false⟩
def ti125 : TI := ⟨.slice 3, 1, 24, [.slice none 0 0], false⟩
def ti126 : TI := ⟨.struct [(0, 56), (1, 125)], 2, 48, [.slice none 0 0, .slice none 0 0], true⟩
def ti127 : TI := ⟨.struct [(0, 56), (1, 125)], 2, 48, [.slice none 0 0, .slice none 0 0], true⟩
def ti129 : TI := ⟨.func, 1, 8, [.nilFunc], false⟩
def ti131 : TI := ⟨.func, 1, 8, [.nilFunc], false⟩
def ti132 : TI := ⟨.struct [(0, 3), (1, 4), (2, 107)], 13, 168, [.int .i64 0, .bool false, .slice none 0 0, .slice none 0 0, .slice none 0 0, .slice none 0 0, .bool false, .int .i64 0, .int .i64 0, .int .i64 0, .int .i64 0, .int .i64 0, .int .i64 0], true⟩
def ti133 : TI := ⟨.struct [(0, 3), (1, 4), (2, 107)], 13, 168, [.int .i64 0, .bool false, .slice none 0 0, .slice none 0 0, .slice none 0 0, .slice none 0 0, .bool false, .int .i64 0, .int .i64 0, .int .i64 0, .int .i64 0, .int .i64 0, .int .i64 0], true⟩
def ti135 : TI := ⟨.func, 1, 8, [.nilFunc], false⟩
def ti136 : TI := ⟨.func, 1, 8, [.nilFunc], false⟩
def ti137 : TI := ⟨.func, 1, 8, [.nilFunc], false⟩
def ti138 : TI := ⟨.func, 1, 8, [.nilFunc], false⟩
def ti139 : TI := ⟨.ptr 5, 1, 8, [.pointer none], false⟩
def ti140 : TI := ⟨.func, 1, 8, [.nilFunc], false⟩
def ti141 : TI := ⟨.func, 1, 8, [.nilFunc], false⟩
def ti142 : TI := ⟨.struct [(0, 3)], 1, 8, [.int .i64 0], true⟩
def ti143 : TI := ⟨.struct [(0, 3)], 1, 8, [.int .i64 0], true⟩
def ti145 : TI := ⟨.ptr 147, 1, 8, [.pointer none], false⟩
def ti146 : TI := ⟨.struct [(0, 9), (1, 3)], 2, 24, [.string ⟨⟨[]⟩⟩, .int .i64 0], true⟩
def ti147 : TI := ⟨.struct [(0, 9), (1, 3)], 2, 24, [.string ⟨⟨[]⟩⟩, .int .i64 0], true⟩
def ti148 : TI := ⟨.func, 1, 8, [.nilFunc], false⟩
def ti149 : TI := ⟨.func, 1, 8, [.nilFunc], false⟩
def ti150 : TI := ⟨.slice 105, 1, 24, [.slice none 0 0], false⟩
def ti151 : TI := ⟨.func, 1, 8, [.nilFunc], false⟩
def ti152 : TI := ⟨.int .i64, 1, 8, [.int .i64 0], false⟩
def ti153 : TI := ⟨.func, 1, 8, [.nilFunc], false⟩
def ti154 : TI := ⟨.slice 195, 1, 24, [.slice none 0 0], false⟩
def ti155 : TI := ⟨.struct [(0, 85), (1, 154), (2, 9)], 3, 48, [.int .i64 0, .slice none 0 0, .string ⟨⟨[]⟩⟩], true⟩
def ti156 : TI := ⟨.struct [(0, 85), (1, 154), (2, 9)], 3, 48, [.int .i64 0, .slice none 0 0, .string ⟨⟨[]⟩⟩], true⟩
def ti157 : TI := ⟨.func, 1, 8, [.nilFunc], false⟩
def ti158 : TI := ⟨.func, 1, 8, [.nilFunc], false⟩
def ti159 : TI := ⟨.func, 1, 8, [.nilFunc], false⟩
def ti160 : TI := ⟨.array 10 4, 10, 10, [.bool false, .bool false, .bool false, .bool false, .bool false, .bool false, .bool false, .bool false, .bool false, .bool false], false⟩
def ti161 : TI := ⟨.ptr 163, 1, 8, [.pointer none], false⟩
def ti162 : TI := ⟨.struct [(0, 9), (1, 3), (2, 3)], 3, 32, [.string ⟨⟨[]⟩⟩, .int .i64 0, .int .i64 0], true⟩
def ti163 : TI := ⟨.struct [(0, 9), (1, 3), (2, 3)], 3, 32, [.string ⟨⟨[]⟩⟩, .int .i64 0, .int .i64 0], true⟩
def ti164 : TI := ⟨.func, 1, 8, [.nilFunc], false⟩
def ti165 : TI := ⟨.func, 1, 8, [.nilFunc], false⟩
def ti166 : TI := ⟨.func, 1, 8, [.nilFunc], false⟩
def ti167 : TI := ⟨.int .i64, 1, 8, [.int .i64 0], false⟩
def ti169 : TI := ⟨.func, 1, 8, [.nilFunc], false⟩
def ti170 : TI := ⟨.func, 1, 8, [.nilFunc], false⟩
def ti171 : TI := ⟨.func, 1, 8, [.nilFunc], false⟩
def ti172 : TI := ⟨.func, 1, 8, [.nilFunc], false⟩
def ti173 : TI := ⟨.func, 1, 8, [.nilFunc], false⟩
def ti174 : TI := ⟨.int .u32, 1, 4, [.int .u32 0], false⟩
def ti175 : TI := ⟨.func, 1, 8, [.nilFunc], false⟩
def ti176 : TI := ⟨.int .u64, 1, 8, [.int .u64 0], false⟩
def ti177 : TI := ⟨.uptr, 1, 8, [.pointer none], false⟩
def ti178 : TI := ⟨.func, 1, 8, [.nilFunc], false⟩
def ti179 : TI := ⟨.func, 1, 8, [.nilFunc], false⟩
def ti181 : TI := ⟨.struct [(0, 5), (1, 5)], 2, 2, [.int .u8 0, .int .u8 0], true⟩
def ti182 : TI := ⟨.struct [(0, 5), (1, 5)], 2, 2, [.int .u8 0, .int .u8 0], true⟩
def ti183 : TI := ⟨.array 16 182, 32, 32, [.int .u8 0, .int .u8 0, .int .u8 0, .int .u8 0, .int .u8 0, .int .u8 0, .int .u8 0, .int .u8 0, .int .u8 0, .int .u8 0, .int .u8 0, .int .u8 0, .int .u8 0, .int .u8 0, .int .u8 0, .int .u8 0, .int .u8 0, .int .u8 0, .int .u8 0, .int .u8 0, .int .u8 0, .int .u8 0, .int .u8 0, .int .u8 0, .int .u8 0, .int .u8 0, .int .u8 0, .int .u8 0, .int .u8 0, .int .u8 0, .int .u8 0, .int .u8 0], false⟩
def ti185 : TI := ⟨.func, 1, 8, [.nilFunc], false⟩
def ti186 : TI := ⟨.func, 1, 8, [.nilFunc], false⟩
def ti187 : TI := ⟨.func, 1, 8, [.nilFunc], false⟩
def ti188 : TI := ⟨.ptr 107, 1, 8, [.pointer none], false⟩
def ti189 : TI := ⟨.struct [(0, 152), (1, 9), (2, 3)], 3, 32, [.int .i64 0, .string ⟨⟨[]⟩⟩, .int .i64 0], true⟩
def ti190 : TI := ⟨.struct [(0, 152), (1, 9), (2, 3)], 3, 32, [.int .i64 0, .string ⟨⟨[]⟩⟩, .int .i64 0], true⟩
def ti191 : TI := ⟨.slice 103, 1, 24, [.slice none 0 0], false⟩
def ti193 : TI := ⟨.func, 1, 8, [.nilFunc], false⟩
def ti194 : TI := ⟨.func, 1, 8, [.nilFunc], false⟩
def ti195 : TI := ⟨.slice 217, 1, 24, [.slice none 0 0], false⟩
def ti196 : TI := ⟨.func, 1, 8, [.nilFunc], false⟩
def ti197 : TI := ⟨.func, 1, 8, [.nilFunc], false⟩
def ti198 : TI := ⟨.func, 1, 8, [.nilFunc], false⟩
def ti199 : TI := ⟨.int .u64, 1, 8, [.int .u64 0], false⟩
def ti200 : TI := ⟨.func, 1, 8, [.nilFunc], false⟩
def ti201 : TI := ⟨.func, 1, 8, [.nilFunc], false⟩
def ti202 : TI := ⟨.func, 1, 8, [.nilFunc], false⟩
def ti203 : TI := ⟨.ptr 3, 1, 8, [.pointer none], false⟩
def ti204 : TI := ⟨.func, 1, 8, [.nilFunc], false⟩
def ti205 : TI := ⟨.func, 1, 8, [.nilFunc], false⟩
def ti206 : TI := ⟨.array 24 5, 24, 24, [.int .u8 0, .int .u8 0, .int .u8 0, .int .u8 0, .int .u8 0, .int .u8 0, .int .u8 0, .int .u8 0, .int .u8 0, .int .u8 0, .int .u8 0, .int .u8 0, .int .u8 0, .int .u8 0, .int .u8 0, .int .u8 0, .int .u8 0, .int .u8 0, .int .u8 0, .int .u8 0, .int .u8 0, .int .u8 0, .int .u8 0, .int .u8 0], false⟩
def ti207 : TI := ⟨.func, 1, 8, [.nilFunc], false⟩
def ti209 : TI := ⟨.func, 1, 8, [.nilFunc], false⟩
def ti211 : TI := ⟨.func, 1, 8, [.nilFunc], false⟩
def ti213 : TI := ⟨.func, 1, 8, [.nilFunc], false⟩
def ti214 : TI := ⟨.func, 1, 8, [.nilFunc], false⟩
def ti215 : TI := ⟨.slice 234, 1, 24, [.slice none 0 0], false⟩
def ti216 : TI := ⟨.struct [(0, 5), (1, 3), (2, 4), (3, 215)], 4, 48, [.int .u8 0, .int .i64 0, .bool false, .slice none 0 0], true⟩
def ti217 : TI := ⟨.struct [(0, 5), (1, 3), (2, 4), (3, 215)], 4, 48, [.int .u8 0, .int .i64 0, .bool false, .slice none 0 0], true⟩
def ti218 : TI := ⟨.func, 1, 8, [.nilFunc], false⟩
def ti220 : TI := ⟨.func, 1, 8, [.nilFunc], false⟩
def ti221 : TI := ⟨.func, 1, 8, [.nilFunc], false⟩
def ti222 : TI := ⟨.ptr 199, 1, 8, [.pointer none], false⟩
def ti223 : TI := ⟨.func, 1, 8, [.nilFunc], false⟩
def ti224 : TI := ⟨.func, 1, 8, [.nilFunc], false⟩
def ti225 : TI := ⟨.array 20 176, 20, 160, [.int .u64 0, .int .u64 0, .int .u64 0, .int .u64 0, .int .u64 0, .int .u64 0, .int .u64 0, .int .u64 0, .int .u64 0, .int .u64 0, .int .u64 0, .int .u64 0, .int .u64 0, .int .u64 0, .int .u64 0, .int .u64 0, .int .u64 0, .int .u64 0, .int .u64 0, .int .u64 0], false⟩
def ti226 : TI := ⟨.array 65 5, 65, 65, [.int .u8 0, .int .u8 0, .int .u8 0, .int .u8 0, .int .u8 0, .int .u8 0, .int .u8 0, .int .u8 0, .int .u8 0, .int .u8 0, .int .u8 0, .int .u8 0, .int .u8 0, .int .u8 0, .int .u8 0, .int .u8 0, .int .u8 0, .int .u8 0, .int .u8 0, .int .u8 0, .int .u8 0, .int .u8 0, .int .u8 0, .int .u8 0, .int .u8 0, .int .u8 0, .int .u8 0, .int .u8 0, .int .u8 0, .int .u8 0, .int .u8 0, .int .u8 0].append [.int .u8 0, .int .u8 0, .int .u8 0, .int .u8 0, .int .u8 0, .int .u8 0, .int .u8 0, .int .u8 0, .int .u8 0, .int .u8 0, .int .u8 0, .int .u8 0, .int .u8 0, .int .u8 0, .int .u8 0, .int .u8 0, .int .u8 0, .int .u8 0, .int .u8 0, .int .u8 0, .int .u8 0, .int .u8 0, .int .u8 0, .int .u8 0, .int .u8 0, .int .u8 0, .int .u8 0, .int .u8 0, .int .u8 0, .int .u8 0, .int .u8 0, .int .u8 0, .int .u8 0], false⟩
def ti227 : TI := ⟨.func, 1, 8, [.nilFunc], false⟩
def ti228 : TI := ⟨.array 5 9, 5, 80, [.string ⟨⟨[]⟩⟩, .string ⟨⟨[]⟩⟩, .string ⟨⟨[]⟩⟩, .string ⟨⟨[]⟩⟩, .string ⟨⟨[]⟩⟩], false⟩
def ti229 : TI := ⟨.func, 1, 8, [.nilFunc], false⟩
def ti230 : TI := ⟨.func, 1, 8, [.nilFunc], false⟩
def ti231 : TI := ⟨.array 6 9, 6, 96, [.string ⟨⟨[]⟩⟩, .string ⟨⟨[]⟩⟩, .string ⟨⟨[]⟩⟩, .string ⟨⟨[]⟩⟩, .string ⟨⟨[]⟩⟩, .string ⟨⟨[]⟩⟩], false⟩
def ti232 : TI := ⟨.func, 1, 8, [.nilFunc], false⟩
def ti233 : TI := ⟨.struct [(0, 3), (1, 3)], 2, 16, [.int .i64 0, .int .i64 0], true⟩
def ti234 : TI := ⟨.struct [(0, 3), (1, 3)], 2, 16, [.int .i64 0, .int .i64 0], true⟩
def ti235 : TI := ⟨.func, 1, 8, [.nilFunc], false⟩
def ti236 : TI := ⟨.func, 1, 8, [.nilFunc], false⟩
def ti240 : TI := ⟨.func, 1, 8, [.nilFunc], false⟩
def ti241 : TI := ⟨.func, 1, 8, [.nilFunc], false⟩
def ti242 : TI := ⟨.ptr 238, 1, 8, [.pointer none], false⟩
def ti243 : TI := ⟨.func, 1, 8, [.nilFunc], false⟩
def ti245 : TI := ⟨.func, 1, 8, [.nilFunc], false⟩
def ti246 : TI := ⟨.func, 1, 8, [.nilFunc], false⟩
def ti247 : TI := ⟨.func, 1, 8, [.nilFunc], false⟩
def ti248 : TI := ⟨.func, 1, 8, [.nilFunc], false⟩
def ti249 : TI := ⟨.array 32 5, 32, 32, [.int .u8 0, .int .u8 0, .int .u8 0, .int .u8 0, .int .u8 0, .int .u8 0, .int .u8 0, .int .u8 0, .int .u8 0, .int .u8 0, .int .u8 0, .int .u8 0, .int .u8 0, .int .u8 0, .int .u8 0, .int .u8 0, .int .u8 0, .int .u8 0, .int .u8 0, .int .u8 0, .int .u8 0, .int .u8 0, .int .u8 0, .int .u8 0, .int .u8 0, .int .u8 0, .int .u8 0, .int .u8 0, .int .u8 0, .int .u8 0, .int .u8 0, .int .u8 0], false⟩
def ti250 : TI := ⟨.array 64 5, 64, 64, [.int .u8 0, .int .u8 0, .int .u8 0, .int .u8 0, .int .u8 0, .int .u8 0, .int .u8 0, .int .u8 0, .int .u8 0, .int .u8 0, .int .u8 0, .int .u8 0, .int .u8 0, .int .u8 0, .int .u8 0, .int .u8 0, .int .u8 0, .int .u8 0, .int .u8 0, .int .u8 0, .int .u8 0, .int .u8 0, .int .u8 0, .int .u8 0, .int .u8 0, .int .u8 0, .int .u8 0, .int .u8 0, .int .u8 0, .int .u8 0, .int .u8 0, .int .u8 0, .int .u8 0, .int .u8 0, .int .u8 0, .int .u8 0, .int .u8 0, .int .u8 0, .int .u8 0, .int .u8 0, .int .u8 0, .int .u8 0, .int .u8 0, .int .u8 0, .int .u8 0, .int .u8 0, .int .u8 0, .int .u8 0, .int .u8 0, .int .u8 0, .int .u8 0, .int .u8 0, .int .u8 0, .int .u8 0, .int .u8 0, .int .u8 0, .int .u8 0, .int .u8 0, .int .u8 0, .int .u8 0, .int .u8 0, .int .u8 0, .int .u8 0, .int .u8 0], false⟩
def ti251 : TI := ⟨.func, 1, 8, [.nilFunc], false⟩
def ti252 : TI := ⟨.int .i64, 1, 8, [.int .i64 0], false⟩
def ti254 : TI := ⟨.func, 1, 8, [.nilFunc], false⟩
def ti255 : TI := ⟨.ptr 264, 1, 8, [.pointer none], false⟩
def ti256 : TI := ⟨.func, 1, 8, [.nilFunc], false⟩
def ti257 : TI := ⟨.func, 1, 8, [.nilFunc], false⟩
def ti259 : TI := ⟨.func, 1, 8, [.nilFunc], false⟩
def ti260 : TI := ⟨.func, 1, 8, [.nilFunc], false⟩
def ti261 : TI := ⟨.func, 1, 8, [.nilFunc], false⟩
def ti262 : TI := ⟨.func, 1, 8, [.nilFunc], false⟩
def ti263 : TI := ⟨.struct [(0, 9), (1, 9), (2, 96)], 3, 48, [.string ⟨⟨[]⟩⟩, .string ⟨⟨[]⟩⟩, .nilIface], false⟩
def ti264 : TI := ⟨.struct [(0, 9), (1, 9), (2, 96)], 3, 48, [.string ⟨⟨[]⟩⟩, .string ⟨⟨[]⟩⟩, .nilIface], false⟩
def ti265 : TI := ⟨.func, 1, 8, [.nilFunc], false⟩
def ti266 : TI := ⟨.ptr 268, 1, 8, [.pointer none], false⟩
def ti267 : TI := ⟨.struct [(0, 9)], 1, 16, [.string ⟨⟨[]⟩⟩], true⟩
def ti268 : TI := ⟨.struct [(0, 9)], 1, 16, [.string ⟨⟨[]⟩⟩], true⟩
def ti269 : TI := ⟨.struct [(0, 17), (1, 17), (2, 17), (3, 9)], 4, 40, [.pointer none, .pointer none, .pointer none, .string ⟨⟨[]⟩⟩], false⟩
def ti270 : TI := ⟨.struct [(0, 17), (1, 17), (2, 17), (3, 9)], 4, 40, [.pointer none, .pointer none, .pointer none, .string ⟨⟨[]⟩⟩], false⟩
def ti271 : TI := ⟨.array 0 16, 0, 0, [], false⟩
def ti272 : TI := ⟨.struct [(0, 271)], 0, 0, [], false⟩
def ti273 : TI := ⟨.struct [(0, 271)], 0, 0, [], false⟩
def ti274 : TI := ⟨.func, 1, 8, [.nilFunc], false⟩
def ti275 : TI := ⟨.int .u8, 1, 1, [.int .u8 0], false⟩
def ti276 : TI := ⟨.int .u8, 1, 1, [.int .u8 0], false⟩
def ti277 : TI := ⟨.func, 1, 8, [.nilFunc], false⟩
def ti278 : TI := ⟨.int .i32, 1, 4, [.int .i32 0], false⟩
def ti279 : TI := ⟨.int .i32, 1, 4, [.int .i32 0], false⟩
def ti280 : TI := ⟨.struct [(0, 12), (1, 12), (2, 174), (3, 275), (4, 5), (5, 5), (6, 276), (7, 277), (8, 139), (9, 278), (10, 279)], 11, 48, [.int .u64 0, .int .u64 0, .int .u32 0, .int .u8 0, .int .u8 0, .int .u8 0, .int .u8 0, .nilFunc, .pointer none, .int .i32 0, .int .i32 0], false⟩
def ti281 : TI := ⟨.struct [(0, 12), (1, 12), (2, 174), (3, 275), (4, 5), (5, 5), (6, 276), (7, 277), (8, 139), (9, 278), (10, 279)], 11, 48, [.int .u64 0, .int .u64 0, .int .u32 0, .int .u8 0, .int .u8 0, .int .u8 0, .int .u8 0, .nilFunc, .pointer none, .int .i32 0, .int .i32 0], false⟩
def TY : TT := [(1, ti1), (2, ti2), (3, ti3), (4, ti4), (5, ti5), (6, ti6), (7, ti7), (8, ti8), (9, ti9), (10, ti10), (11, ti11), (12, ti12), (13, ti13), (14, ti14), (15, ti15), (16, ti16), (17, ti17), (18, ti18), (19, ti19), (20, ti20), (21, ti21), (22, ti22), (23, ti23), (24, ti24), (25, ti25), (26, ti26), (27, ti27), (28, ti28), (29, ti29), (30, ti30), (31, ti31), (32, ti32), (33, ti33), (34, ti34), (35, ti35), (36, ti36), (37, ti37), (38, ti38), (39, ti39), (40, ti40), (41, ti41), (42, ti42), (43, ti43), (44, ti44), (45, ti45), (46, ti46), (47, ti47), (48, ti48), (49, ti49), (50, ti50), (51, ti51), (52, ti52), (53, ti53), (54, ti54), (55, ti55), (56, ti56), (57, ti57), (58, ti58), (59, ti59), (60, ti60), (61, ti61), (62, ti62), (63, ti63), (64, ti64), (65, ti65), (66, ti66), (68, ti68), (69, ti69), (70, ti70), (71, ti71), (72, ti72), (73, ti73), (74, ti74), (75, ti75), (76, ti76), (77, ti77), (78, ti78), (79, ti79), (80, ti80), (81, ti81), (82, ti82), (83, ti83), (84, ti84), (85, ti85), (86, ti86), (87, ti87), (88, ti88), (89, ti89), (90, ti90), (91, ti91), (92, ti92), (93, ti93), (94, ti94), (95, ti95), (96, ti96), (97, ti97), (99, ti99), (100, ti100), (102, ti102), (103, ti103), (104, ti104), (105, ti105), (106, ti106), (107, ti107), (109, ti109), (110, ti110), (111, ti111), (112, ti112), (114, ti114), (115, ti115), (116, ti116), (117, ti117), (118, ti118), (119, ti119), (121, ti121), (122, ti122), (123, ti123), (124, ti124), (125, ti125), (126, ti126), (127, ti127), (129, ti129), (131, ti131), (132, ti132), (133, ti133), (135, ti135), (136, ti136), (137, ti137), (138, ti138), (139, ti139), (140, ti140), (141, ti141), (142, ti142), (143, ti143), (145, ti145), (146, ti146), (147, ti147), (148, ti148), (149, ti149), (150, ti150), (151, ti151), (152, ti152), (153, ti153), (154, ti154), (155, ti155), (156, ti156), (157, ti157), (158, ti158), (159, ti159), (160, ti160), (161, ti161), (162, ti162), (163, ti163), (164, ti164), (165, ti165), (166, ti166), (167, ti167), (169, ti169), (170, ti170), (171, ti171), (172, ti172), (173, ti173), (174, ti174), (175, ti175), (176, ti176), (177, ti177), (178, ti178), (179, ti179), (181, ti181), (182, ti182), (183, ti183), (185, ti185), (186, ti186), (187, ti187), (188, ti188), (189, ti189), (190, ti190), (191, ti191), (193, ti193), (194, ti194), (195, ti195), (196, ti196), (197, ti197), (198, ti198), (199, ti199), (200, ti200), (201, ti201), (202, ti202), (203, ti203), (204, ti204), (205, ti205), (206, ti206), (207, ti207), (209, ti209), (211, ti211), (213, ti213), (214, ti214), (215, ti215), (216, ti216), (217, ti217), (218, ti218), (220, ti220), (221, ti221), (222, ti222), (223, ti223), (224, ti224), (225, ti225), (226, ti226), (227, ti227), (228, ti228), (229, ti229), (230, ti230), (231, ti231), (232, ti232), (233, ti233), (234, ti234), (235, ti235), (236, ti236), (240, ti240), (241, ti241), (242, ti242), (243, ti243), (245, ti245), (246, ti246), (247, ti247), (248, ti248), (249, ti249), (250, ti250), (251, ti251), (252, ti252), (254, ti254), (255, ti255), (256, ti256), (257, ti257), (259, ti259), (260, ti260), (261, ti261), (262, ti262), (263, ti263), (264, ti264), (265, ti265), (266, ti266), (267, ti267), (268, ti268), (269, ti269), (270, ti270), (271, ti271), (272, ti272), (273, ti273), (274, ti274), (275, ti275), (276, ti276), (277, ti277), (278, ti278), (279, ti279), (280, ti280), (281, ti281)]
theorem fit1 : TFits Tryz.prog 1 ti1 := ⟨⟨Tryz.t1, by kernel_rfl, rfl, rfl, _, rfl, rfl⟩, ⟨_, Tryz.underlying1, rfl⟩, fun _ => ⟨Tryz.t1, _, by kernel_rfl, rfl, rfl⟩, fun h => Bool.noConfusion h, fun h => Bool.noConfusion h⟩
theorem fit2 : TFits Tryz.prog 2 ti2 := ⟨⟨Tryz.t2, by kernel_rfl, rfl, rfl, _, rfl, rfl⟩, ⟨_, Tryz.underlying2, rfl⟩, fun _ => ⟨Tryz.t2, _, by kernel_rfl, rfl, rfl⟩, fun h => Bool.noConfusion h, fun h => Bool.noConfusion h⟩
theorem fit3 : TFits Tryz.prog 3 ti3 := ⟨⟨Tryz.t3, by kernel_rfl, rfl, rfl, _, rfl, rfl⟩, ⟨_, Tryz.underlying3, rfl⟩, fun _ => ⟨Tryz.t3, _, by kernel_rfl, rfl, rfl⟩, fun h => Bool.noConfusion h, fun h => Bool.noConfusion h⟩
theorem fit4 : TFits Tryz.prog 4 ti4 := ⟨⟨Tryz.t4, by kernel_rfl, rfl, rfl, _, rfl, rfl⟩, ⟨_, Tryz.underlying4, rfl⟩, fun _ => ⟨Tryz.t4, _, by kernel_rfl, rfl, rfl⟩, fun h => Bool.noConfusion h, fun h => Bool.noConfusion h⟩
theorem fit5 : TFits Tryz.prog 5 ti5 := ⟨⟨Tryz.t5, by kernel_rfl, rfl, rfl, _, rfl, rfl⟩, ⟨_, Tryz.underlying5, rfl⟩, fun _ => ⟨Tryz.t5, _, by kernel_rfl, rfl, rfl⟩, fun h => Bool.noConfusion h, fun h => Bool.noConfusion h⟩
theorem fit6 : TFits Tryz.prog 6 ti6 := ⟨⟨Tryz.t6, by kernel_rfl, rfl, rfl, _, rfl, rfl⟩, ⟨_, Tryz.underlying6, rfl⟩, fun _ => ⟨Tryz.t6, _, by kernel_rfl, rfl, rfl⟩, fun h => Bool.noConfusion h, fun h => Bool.noConfusion h⟩
theorem fit7 : TFits Tryz.prog 7 ti7 := ⟨⟨Tryz.t7, by kernel_rfl, rfl, rfl, _, rfl, rfl⟩, ⟨_, Tryz.underlying7, rfl⟩, fun h => Bool.noConfusion h, fun _ => ⟨Tryz.t7, _, by kernel_rfl, rfl, rfl⟩, fun _ => ⟨by kernel_rfl, by kernel_rfl, _, Tryz.underlying7, by kernel_rfl⟩⟩
theorem fit8 : TFits Tryz.prog 8 ti8 := ⟨⟨Tryz.t8, by kernel_rfl, rfl, rfl, _, rfl, rfl⟩, ⟨_, Tryz.underlying8, rfl⟩, fun h => Bool.noConfusion h, fun _ => ⟨Tryz.t8, _, by kernel_rfl, rfl, rfl⟩, fun _ => ⟨by kernel_rfl, by kernel_rfl, _, Tryz.underlying8, by kernel_rfl⟩⟩
theorem fit9 : TFits Tryz.prog 9 ti9 := ⟨⟨Tryz.t9, by kernel_rfl, rfl, rfl, _, rfl, rfl⟩, ⟨_, Tryz.underlying9, rfl⟩, fun _ => ⟨Tryz.t9, _, by kernel_rfl, rfl, rfl⟩, fun h => Bool.noConfusion h, fun h => Bool.noConfusion h⟩
theorem fit10 : TFits Tryz.prog 10 ti10 := ⟨⟨Tryz.t10, by kernel_rfl, rfl, rfl, _, rfl, rfl⟩, ⟨_, Tryz.underlying10, rfl⟩, fun _ => ⟨Tryz.t10, _, by kernel_rfl, rfl, rfl⟩, fun h => Bool.noConfusion h, fun h => Bool.noConfusion h⟩
theorem fit11 : TFits Tryz.prog 11 ti11 := ⟨⟨Tryz.t11, by kernel_rfl, rfl, rfl, _, rfl, rfl⟩, ⟨_, Tryz.underlying11, rfl⟩, fun _ => ⟨Tryz.t11, _, by kernel_rfl, rfl, rfl⟩, fun h => Bool.noConfusion h, fun h => Bool.noConfusion h⟩
theorem fit12 : TFits Tryz.prog 12 ti12 := ⟨⟨Tryz.t12, by kernel_rfl, rfl, rfl, _, rfl, rfl⟩, ⟨_, Tryz.underlying12, rfl⟩, fun _ => ⟨Tryz.t12, _, by kernel_rfl, rfl, rfl⟩, fun h => Bool.noConfusion h, fun h => Bool.noConfusion h⟩
theorem fit13 : TFits Tryz.prog 13 ti13 := ⟨⟨Tryz.t13, by kernel_rfl, rfl, rfl, _, rfl, rfl⟩, ⟨_, Tryz.underlying13, rfl⟩, fun h => Bool.noConfusion h, fun _ => ⟨Tryz.t13, _, by kernel_rfl, rfl, rfl⟩, fun h => Bool.noConfusion h⟩
theorem fit14 : TFits Tryz.prog 14 ti14 := ⟨⟨Tryz.t14, by kernel_rfl, rfl, rfl, _, rfl, rfl⟩, ⟨_, Tryz.underlying14, rfl⟩, fun h => Bool.noConfusion h, fun _ => ⟨Tryz.t14, _, by kernel_rfl, rfl, rfl⟩, fun h => Bool.noConfusion h⟩
theorem fit15 : TFits Tryz.prog 15 ti15 := ⟨⟨Tryz.t15, by kernel_rfl, rfl, rfl, _, rfl, rfl⟩, ⟨_, Tryz.underlying15, rfl⟩, fun _ => ⟨Tryz.t15, _, by kernel_rfl, rfl, rfl⟩, fun h => Bool.noConfusion h, fun h => Bool.noConfusion h⟩
theorem fit16 : TFits Tryz.prog 16 ti16 := ⟨⟨Tryz.t16, by kernel_rfl, rfl, rfl, _, rfl, rfl⟩, ⟨_, Tryz.underlying16, rfl⟩, fun _ => ⟨Tryz.t16, _, by kernel_rfl, rfl, rfl⟩, fun h => Bool.noConfusion h, fun h => Bool.noConfusion h⟩
theorem fit17 : TFits Tryz.prog 17 ti17 := ⟨⟨Tryz.t17, by kernel_rfl, rfl, rfl, _, rfl, rfl⟩, ⟨_, Tryz.underlying17, rfl⟩, fun _ => ⟨Tryz.t17, _, by kernel_rfl, rfl, rfl⟩, fun h => Bool.noConfusion h, fun h => Bool.noConfusion h⟩
theorem fit18 : TFits Tryz.prog 18 ti18 := ⟨⟨Tryz.t18, by kernel_rfl, rfl, rfl, _, rfl, rfl⟩, ⟨_, Tryz.underlying18, rfl⟩, fun h => Bool.noConfusion h, fun _ => ⟨Tryz.t18, _, by kernel_rfl, rfl, rfl⟩, fun h => Bool.noConfusion h⟩
theorem fit19 : TFits Tryz.prog 19 ti19 := ⟨⟨Tryz.t19, by kernel_rfl, rfl, rfl, _, rfl, rfl⟩, ⟨_, Tryz.underlying19, rfl⟩, fun h => Bool.noConfusion h, fun _ => ⟨Tryz.t19, _, by kernel_rfl, rfl, rfl⟩, fun h => Bool.noConfusion h⟩
theorem fit20 : TFits Tryz.prog 20 ti20 := ⟨⟨Tryz.t20, by kernel_rfl, rfl, rfl, _, rfl, rfl⟩, ⟨_, Tryz.underlying20, rfl⟩, fun _ => ⟨Tryz.t20, _, by kernel_rfl, rfl, rfl⟩, fun h => Bool.noConfusion h, fun h => Bool.noConfusion h⟩
theorem fit21 : TFits Tryz.prog 21 ti21 := ⟨⟨Tryz.t21, by kernel_rfl, rfl, rfl, _, rfl, rfl⟩, ⟨_, Tryz.underlying21, rfl⟩, fun _ => ⟨Tryz.t21, _, by kernel_rfl, rfl, rfl⟩, fun h => Bool.noConfusion h, fun h => Bool.noConfusion h⟩
theorem fit22 : TFits Tryz.prog 22 ti22 := ⟨⟨Tryz.t22, by kernel_rfl, rfl, rfl, _, rfl, rfl⟩, ⟨_, Tryz.underlying22, rfl⟩, fun h => Bool.noConfusion h, fun _ => ⟨Tryz.t22, _, by kernel_rfl, rfl, rfl⟩, fun h => Bool.noConfusion h⟩
theorem fit23 : TFits Tryz.prog 23 ti23 := ⟨⟨Tryz.t23, by kernel_rfl, rfl, rfl, _, rfl, rfl⟩, ⟨_, Tryz.underlying23, rfl⟩, fun h => Bool.noConfusion h, fun _ => ⟨Tryz.t23, _, by kernel_rfl, rfl, rfl⟩, fun h => Bool.noConfusion h⟩
theorem fit24 : TFits Tryz.prog 24 ti24 := ⟨⟨Tryz.t24, by kernel_rfl, rfl, rfl, _, rfl, rfl⟩, ⟨_, Tryz.underlying24, rfl⟩, fun _ => ⟨Tryz.t24, _, by kernel_rfl, rfl, rfl⟩, fun h => Bool.noConfusion h, fun h => Bool.noConfusion h⟩
theorem fit25 : TFits Tryz.prog 25 ti25 := ⟨⟨Tryz.t25, by kernel_rfl, rfl, rfl, _, rfl, rfl⟩, ⟨_, Tryz.underlying25, rfl⟩, fun _ => ⟨Tryz.t25, _, by kernel_rfl, rfl, rfl⟩, fun h => Bool.noConfusion h, fun h => Bool.noConfusion h⟩
theorem fit26 : TFits Tryz.prog 26 ti26 := ⟨⟨Tryz.t26, by kernel_rfl, rfl, rfl, _, rfl, rfl⟩, ⟨_, Tryz.underlying26, rfl⟩, fun _ => ⟨Tryz.t26, _, by kernel_rfl, rfl, rfl⟩, fun h => Bool.noConfusion h, fun h => Bool.noConfusion h⟩
theorem fit27 : TFits Tryz.prog 27 ti27 := ⟨⟨Tryz.t27, by kernel_rfl, rfl, rfl, _, rfl, rfl⟩, ⟨_, Tryz.underlying27, rfl⟩, fun _ => ⟨Tryz.t27, _, by kernel_rfl, rfl, rfl⟩, fun h => Bool.noConfusion h, fun h => Bool.noConfusion h⟩
theorem fit28 : TFits Tryz.prog 28 ti28 := ⟨⟨Tryz.t28, by kernel_rfl, rfl, rfl, _, rfl, rfl⟩, ⟨_, Tryz.underlying28, rfl⟩, fun h => Bool.noConfusion h, fun _ => ⟨Tryz.t28, _, by kernel_rfl, rfl, rfl⟩, fun _ => ⟨by kernel_rfl, by kernel_rfl, _, Tryz.underlying28, by kernel_rfl⟩⟩
theorem fit29 : TFits Tryz.prog 29 ti29 := ⟨⟨Tryz.t29, by kernel_rfl, rfl, rfl, _, rfl, rfl⟩, ⟨_, Tryz.underlying29, rfl⟩, fun h => Bool.noConfusion h, fun _ => ⟨Tryz.t29, _, by kernel_rfl, rfl, rfl⟩, fun _ => ⟨by kernel_rfl, by kernel_rfl, _, Tryz.underlying29, by kernel_rfl⟩⟩
theorem fit30 : TFits Tryz.prog 30 ti30 := ⟨⟨Tryz.t30, by kernel_rfl, rfl, rfl, _, rfl, rfl⟩, ⟨_, Tryz.underlying30, rfl⟩, fun h => Bool.noConfusion h, fun _ => ⟨Tryz.t30, _, by kernel_rfl, rfl, rfl⟩, fun _ => ⟨by kernel_rfl, by kernel_rfl, _, Tryz.underlying30, by kernel_rfl⟩⟩
theorem fit31 : TFits Tryz.prog 31 ti31 := ⟨⟨Tryz.t31, by kernel_rfl, rfl, rfl, _, rfl, rfl⟩, ⟨_, Tryz.underlying31, rfl⟩, fun h => Bool.noConfusion h, fun _ => ⟨Tryz.t31, _, by kernel_rfl, rfl, rfl⟩, fun _ => ⟨by kernel_rfl, by kernel_rfl, _, Tryz.underlying31, by kernel_rfl⟩⟩
theorem fit32 : TFits Tryz.prog 32 ti32 := ⟨⟨Tryz.t32, by kernel_rfl, rfl, rfl, _, rfl, rfl⟩, ⟨_, Tryz.underlying32, rfl⟩, fun _ => ⟨Tryz.t32, _, by kernel_rfl, rfl, rfl⟩, fun h => Bool.noConfusion h, fun h => Bool.noConfusion h⟩
theorem fit33 : TFits Tryz.prog 33 ti33 := ⟨⟨Tryz.t33, by kernel_rfl, rfl, rfl, _, rfl, rfl⟩, ⟨_, Tryz.underlying33, rfl⟩, fun _ => ⟨Tryz.t33, _, by kernel_rfl, rfl, rfl⟩, fun h => Bool.noConfusion h, fun h => Bool.noConfusion h⟩
theorem fit34 : TFits Tryz.prog 34 ti34 := ⟨⟨Tryz.t34, by kernel_rfl, rfl, rfl, _, rfl, rfl⟩, ⟨_, Tryz.underlying34, rfl⟩, fun _ => ⟨Tryz.t34, _, by kernel_rfl, rfl, rfl⟩, fun h => Bool.noConfusion h, fun h => Bool.noConfusion h⟩
theorem fit35 : TFits Tryz.prog 35 ti35 := ⟨⟨Tryz.t35, by kernel_rfl, rfl, rfl, _, rfl, rfl⟩, ⟨_, Tryz.underlying35, rfl⟩, fun _ => ⟨Tryz.t35, _, by kernel_rfl, rfl, rfl⟩, fun h => Bool.noConfusion h, fun h => Bool.noConfusion h⟩
theorem fit36 : TFits Tryz.prog 36 ti36 := ⟨⟨Tryz.t36, by kernel_rfl, rfl, rfl, _, rfl, rfl⟩, ⟨_, Tryz.underlying36, rfl⟩, fun h => Bool.noConfusion h, fun _ => ⟨Tryz.t36, _, by kernel_rfl, rfl, rfl⟩, fun _ => ⟨by kernel_rfl, by kernel_rfl, _, Tryz.underlying36, by kernel_rfl⟩⟩
theorem fit37 : TFits Tryz.prog 37 ti37 := ⟨⟨Tryz.t37, by kernel_rfl, rfl, rfl, _, rfl, rfl⟩, ⟨_, Tryz.underlying37, rfl⟩, fun h => Bool.noConfusion h, fun _ => ⟨Tryz.t37, _, by kernel_rfl, rfl, rfl⟩, fun _ => ⟨by kernel_rfl, by kernel_rfl, _, Tryz.underlying37, by kernel_rfl⟩⟩
theorem fit38 : TFits Tryz.prog 38 ti38 := ⟨⟨Tryz.t38, by kernel_rfl, rfl, rfl, _, rfl, rfl⟩, ⟨_, Tryz.underlying38, rfl⟩, fun _ => ⟨Tryz.t38, _, by kernel_rfl, rfl, rfl⟩, fun h => Bool.noConfusion h, fun h => Bool.noConfusion h⟩
theorem fit39 : TFits Tryz.prog 39 ti39 := ⟨⟨Tryz.t39, by kernel_rfl, rfl, rfl, _, rfl, rfl⟩, ⟨_, Tryz.underlying39, rfl⟩, fun _ => ⟨Tryz.t39, _, by kernel_rfl, rfl, rfl⟩, fun h => Bool.noConfusion h, fun h => Bool.noConfusion h⟩
theorem fit40 : TFits Tryz.prog 40 ti40 := ⟨⟨Tryz.t40, by kernel_rfl, rfl, rfl, _, rfl, rfl⟩, ⟨_, Tryz.underlying40, rfl⟩, fun _ => ⟨Tryz.t40, _, by kernel_rfl, rfl, rfl⟩, fun h => Bool.noConfusion h, fun h => Bool.noConfusion h⟩
theorem fit41 : TFits Tryz.prog 41 ti41 := ⟨⟨Tryz.t41, by kernel_rfl, rfl, rfl, _, rfl, rfl⟩, ⟨_, Tryz.underlying41, rfl⟩, fun _ => ⟨Tryz.t41, _, by kernel_rfl, rfl, rfl⟩, fun h => Bool.noConfusion h, fun h => Bool.noConfusion h⟩
theorem fit42 : TFits Tryz.prog 42 ti42 := ⟨⟨Tryz.t42, by kernel_rfl, rfl, rfl, _, rfl, rfl⟩, ⟨_, Tryz.underlying42, rfl⟩, fun h => Bool.noConfusion h, fun _ => ⟨Tryz.t42, _, by kernel_rfl, rfl, rfl⟩, fun _ => ⟨by kernel_rfl, by kernel_rfl, _, Tryz.underlying42, by kernel_rfl⟩⟩
theorem fit43 : TFits Tryz.prog 43 ti43 := ⟨⟨Tryz.t43, by kernel_rfl, rfl, rfl, _, rfl, rfl⟩, ⟨_, Tryz.underlying43, rfl⟩, fun h => Bool.noConfusion h, fun _ => ⟨Tryz.t43, _, by kernel_rfl, rfl, rfl⟩, fun _ => ⟨by kernel_rfl, by kernel_rfl, _, Tryz.underlying43, by kernel_rfl⟩⟩
theorem fit44 : TFits Tryz.prog 44 ti44 := ⟨⟨Tryz.t44, by kernel_rfl, rfl, rfl, _, rfl, rfl⟩, ⟨_, Tryz.underlying44, rfl⟩, fun _ => ⟨Tryz.t44, _, by kernel_rfl, rfl, rfl⟩, fun h => Bool.noConfusion h, fun h => Bool.noConfusion h⟩
theorem fit45 : TFits Tryz.prog 45 ti45 := ⟨⟨Tryz.t45, by kernel_rfl, rfl, rfl, _, rfl, rfl⟩, ⟨_, Tryz.underlying45, rfl⟩, fun h => Bool.noConfusion h, fun _ => ⟨Tryz.t45, _, by kernel_rfl, rfl, rfl⟩, fun _ => ⟨by kernel_rfl, by kernel_rfl, _, Tryz.underlying45, by kernel_rfl⟩⟩
theorem fit46 : TFits Tryz.prog 46 ti46 := ⟨⟨Tryz.t46, by kernel_rfl, rfl, rfl, _, rfl, rfl⟩, ⟨_, Tryz.underlying46, rfl⟩, fun h => Bool.noConfusion h, fun _ => ⟨Tryz.t46, _, by kernel_rfl, rfl, rfl⟩, fun _ => ⟨by kernel_rfl, by kernel_rfl, _, Tryz.underlying46, by kernel_rfl⟩⟩
theorem fit47 : TFits Tryz.prog 47 ti47 := ⟨⟨Tryz.t47, by kernel_rfl, rfl, rfl, _, rfl, rfl⟩, ⟨_, Tryz.underlying47, rfl⟩, fun h => Bool.noConfusion h, fun _ => ⟨Tryz.t47, _, by kernel_rfl, rfl, rfl⟩, fun _ => ⟨by kernel_rfl, by kernel_rfl, _, Tryz.underlying47, by kernel_rfl⟩⟩
theorem fit48 : TFits Tryz.prog 48 ti48 := ⟨⟨Tryz.t48, by kernel_rfl, rfl, rfl, _, rfl, rfl⟩, ⟨_, Tryz.underlying48, rfl⟩, fun h => Bool.noConfusion h, fun _ => ⟨Tryz.t48, _, by kernel_rfl, rfl, rfl⟩, fun _ => ⟨by kernel_rfl, by kernel_rfl, _, Tryz.underlying48, by kernel_rfl⟩⟩
theorem fit49 : TFits Tryz.prog 49 ti49 := ⟨⟨Tryz.t49, by kernel_rfl, rfl, rfl, _, rfl, rfl⟩, ⟨_, Tryz.underlying49, rfl⟩, fun _ => ⟨Tryz.t49, _, by kernel_rfl, rfl, rfl⟩, fun h => Bool.noConfusion h, fun h => Bool.noConfusion h⟩
theorem fit50 : TFits Tryz.prog 50 ti50 := ⟨⟨Tryz.t50, by kernel_rfl, rfl, rfl, _, rfl, rfl⟩, ⟨_, Tryz.underlying50, rfl⟩, fun h => Bool.noConfusion h, fun _ => ⟨Tryz.t50, _, by kernel_rfl, rfl, rfl⟩, fun _ => ⟨by kernel_rfl, by kernel_rfl, _, Tryz.underlying50, by kernel_rfl⟩⟩
theorem fit51 : TFits Tryz.prog 51 ti51 := ⟨⟨Tryz.t51, by kernel_rfl, rfl, rfl, _, rfl, rfl⟩, ⟨_, Tryz.underlying51, rfl⟩, fun h => Bool.noConfusion h, fun _ => ⟨Tryz.t51, _, by kernel_rfl, rfl, rfl⟩, fun _ => ⟨by kernel_rfl, by kernel_rfl, _, Tryz.underlying51, by kernel_rfl⟩⟩
theorem fit52 : TFits Tryz.prog 52 ti52 := ⟨⟨Tryz.t52, by kernel_rfl, rfl, rfl, _, rfl, rfl⟩, ⟨_, Tryz.underlying52, rfl⟩, fun _ => ⟨Tryz.t52, _, by kernel_rfl, rfl, rfl⟩, fun h => Bool.noConfusion h, fun h => Bool.noConfusion h⟩
theorem fit53 : TFits Tryz.prog 53 ti53 := ⟨⟨Tryz.t53, by kernel_rfl, rfl, rfl, _, rfl, rfl⟩, ⟨_, Tryz.underlying53, rfl⟩, fun _ => ⟨Tryz.t53, _, by kernel_rfl, rfl, rfl⟩, fun h => Bool.noConfusion h, fun h => Bool.noConfusion h⟩
theorem fit54 : TFits Tryz.prog 54 ti54 := ⟨⟨Tryz.t54, by kernel_rfl, rfl, rfl, _, rfl, rfl⟩, ⟨_, Tryz.underlying54, rfl⟩, fun _ => ⟨Tryz.t54, _, by kernel_rfl, rfl, rfl⟩, fun h => Bool.noConfusion h, fun h => Bool.noConfusion h⟩
theorem fit55 : TFits Tryz.prog 55 ti55 := ⟨⟨Tryz.t55, by kernel_rfl, rfl, rfl, _, rfl, rfl⟩, ⟨_, Tryz.underlying55, rfl⟩, fun _ => ⟨Tryz.t55, _, by kernel_rfl, rfl, rfl⟩, fun h => Bool.noConfusion h, fun h => Bool.noConfusion h⟩
theorem fit56 : TFits Tryz.prog 56 ti56 := ⟨⟨Tryz.t56, by kernel_rfl, rfl, rfl, _, rfl, rfl⟩, ⟨_, Tryz.underlying56, rfl⟩, fun _ => ⟨Tryz.t56, _, by kernel_rfl, rfl, rfl⟩, fun h => Bool.noConfusion h, fun h => Bool.noConfusion h⟩
theorem fit57 : TFits Tryz.prog 57 ti57 := ⟨⟨Tryz.t57, by kernel_rfl, rfl, rfl, _, rfl, rfl⟩, ⟨_, Tryz.underlying57, rfl⟩, fun _ => ⟨Tryz.t57, _, by kernel_rfl, rfl, rfl⟩, fun h => Bool.noConfusion h, fun h => Bool.noConfusion h⟩
theorem fit58 : TFits Tryz.prog 58 ti58 := ⟨⟨Tryz.t58, by kernel_rfl, rfl, rfl, _, rfl, rfl⟩, ⟨_, Tryz.underlying58, rfl⟩, fun _ => ⟨Tryz.t58, _, by kernel_rfl, rfl, rfl⟩, fun h => Bool.noConfusion h, fun h => Bool.noConfusion h⟩
theorem fit59 : TFits Tryz.prog 59 ti59 := ⟨⟨Tryz.t59, by kernel_rfl, rfl, rfl, _, rfl, rfl⟩, ⟨_, Tryz.underlying59, rfl⟩, fun h => Bool.noConfusion h, fun _ => ⟨Tryz.t59, _, by kernel_rfl, rfl, rfl⟩, fun _ => ⟨by kernel_rfl, by kernel_rfl, _, Tryz.underlying59, by kernel_rfl⟩⟩
theorem fit60 : TFits Tryz.prog 60 ti60 := ⟨⟨Tryz.t60, by kernel_rfl, rfl, rfl, _, rfl, rfl⟩, ⟨_, Tryz.underlying60, rfl⟩, fun _ => ⟨Tryz.t60, _, by kernel_rfl, rfl, rfl⟩, fun h => Bool.noConfusion h, fun h => Bool.noConfusion h⟩
theorem fit61 : TFits Tryz.prog 61 ti61 := ⟨⟨Tryz.t61, by kernel_rfl, rfl, rfl, _, rfl, rfl⟩, ⟨_, Tryz.underlying61, rfl⟩, fun _ => ⟨Tryz.t61, _, by kernel_rfl, rfl, rfl⟩, fun h => Bool.noConfusion h, fun h => Bool.noConfusion h⟩
theorem fit62 : TFits Tryz.prog 62 ti62 := ⟨⟨Tryz.t62, by kernel_rfl, rfl, rfl, _, rfl, rfl⟩, ⟨_, Tryz.underlying62, rfl⟩, fun _ => ⟨Tryz.t62, _, by kernel_rfl, rfl, rfl⟩, fun h => Bool.noConfusion h, fun h => Bool.noConfusion h⟩
theorem fit63 : TFits Tryz.prog 63 ti63 := ⟨⟨Tryz.t63, by kernel_rfl, rfl, rfl, _, rfl, rfl⟩, ⟨_, Tryz.underlying63, rfl⟩, fun _ => ⟨Tryz.t63, _, by kernel_rfl, rfl, rfl⟩, fun h => Bool.noConfusion h, fun h => Bool.noConfusion h⟩
theorem fit64 : TFits Tryz.prog 64 ti64 := ⟨⟨Tryz.t64, by kernel_rfl, rfl, rfl, _, rfl, rfl⟩, ⟨_, Tryz.underlying64, rfl⟩, fun _ => ⟨Tryz.t64, _, by kernel_rfl, rfl, rfl⟩, fun h => Bool.noConfusion h, fun h => Bool.noConfusion h⟩
theorem fit65 : TFits Tryz.prog 65 ti65 := ⟨⟨Tryz.t65, by kernel_rfl, rfl, rfl, _, rfl, rfl⟩, ⟨_, Tryz.underlying65, rfl⟩, fun _ => ⟨Tryz.t65, _, by kernel_rfl, rfl, rfl⟩, fun h => Bool.noConfusion h, fun h => Bool.noConfusion h⟩
theorem fit66 : TFits Tryz.prog 66 ti66 := ⟨⟨Tryz.t66, by kernel_rfl, rfl, rfl, _, rfl, rfl⟩, ⟨_, Tryz.underlying66, rfl⟩, fun _ => ⟨Tryz.t66, _, by kernel_rfl, rfl, rfl⟩, fun h => Bool.noConfusion h, fun h => Bool.noConfusion h⟩
theorem fit68 : TFits Tryz.prog 68 ti68 := ⟨⟨Tryz.t68, by kernel_rfl, rfl, rfl, _, rfl, rfl⟩, ⟨_, Tryz.underlying68, rfl⟩, fun _ => ⟨Tryz.t68, _, by kernel_rfl, rfl, rfl⟩, fun h => Bool.noConfusion h, fun h => Bool.noConfusion h⟩
theorem fit69 : TFits Tryz.prog 69 ti69 := ⟨⟨Tryz.t69, by kernel_rfl, rfl, rfl, _, rfl, rfl⟩, ⟨_, Tryz.underlying69, rfl⟩, fun _ => ⟨Tryz.t69, _, by kernel_rfl, rfl, rfl⟩, fun h => Bool.noConfusion h, fun h => Bool.noConfusion h⟩
theorem fit70 : TFits Tryz.prog 70 ti70 := ⟨⟨Tryz.t70, by kernel_rfl, rfl, rfl, _, rfl, rfl⟩, ⟨_, Tryz.underlying70, rfl⟩, fun _ => ⟨Tryz.t70, _, by kernel_rfl, rfl, rfl⟩, fun h => Bool.noConfusion h, fun h => Bool.noConfusion h⟩
theorem fit71 : TFits Tryz.prog 71 ti71 := ⟨⟨Tryz.t71, by kernel_rfl, rfl, rfl, _, rfl, rfl⟩, ⟨_, Tryz.underlying71, rfl⟩, fun _ => ⟨Tryz.t71, _, by kernel_rfl, rfl, rfl⟩, fun h => Bool.noConfusion h, fun h => Bool.noConfusion h⟩
theorem fit72 : TFits Tryz.prog 72 ti72 := ⟨⟨Tryz.t72, by kernel_rfl, rfl, rfl, _, rfl, rfl⟩, ⟨_, Tryz.underlying72, rfl⟩, fun _ => ⟨Tryz.t72, _, by kernel_rfl, rfl, rfl⟩, fun h => Bool.noConfusion h, fun h => Bool.noConfusion h⟩
theorem fit73 : TFits Tryz.prog 73 ti73 := ⟨⟨Tryz.t73, by kernel_rfl, rfl, rfl, _, rfl, rfl⟩, ⟨_, Tryz.underlying73, rfl⟩, fun _ => ⟨Tryz.t73, _, by kernel_rfl, rfl, rfl⟩, fun h => Bool.noConfusion h, fun h => Bool.noConfusion h⟩
theorem fit74 : TFits Tryz.prog 74 ti74 := ⟨⟨Tryz.t74, by kernel_rfl, rfl, rfl, _, rfl, rfl⟩, ⟨_, Tryz.underlying74, rfl⟩, fun _ => ⟨Tryz.t74, _, by kernel_rfl, rfl, rfl⟩, fun h => Bool.noConfusion h, fun h => Bool.noConfusion h⟩
theorem fit75 : TFits Tryz.prog 75 ti75 := ⟨⟨Tryz.t75, by kernel_rfl, rfl, rfl, _, rfl, rfl⟩, ⟨_, Tryz.underlying75, rfl⟩, fun _ => ⟨Tryz.t75, _, by kernel_rfl, rfl, rfl⟩, fun h => Bool.noConfusion h, fun h => Bool.noConfusion h⟩
theorem fit76 : TFits Tryz.prog 76 ti76 := ⟨⟨Tryz.t76, by kernel_rfl, rfl, rfl, _, rfl, rfl⟩, ⟨_, Tryz.underlying76, rfl⟩, fun _ => ⟨Tryz.t76, _, by kernel_rfl, rfl, rfl⟩, fun h => Bool.noConfusion h, fun h => Bool.noConfusion h⟩
theorem fit77 : TFits Tryz.prog 77 ti77 := ⟨⟨Tryz.t77, by kernel_rfl, rfl, rfl, _, rfl, rfl⟩, ⟨_, Tryz.underlying77, rfl⟩, fun _ => ⟨Tryz.t77, _, by kernel_rfl, rfl, rfl⟩, fun h => Bool.noConfusion h, fun h => Bool.noConfusion h⟩
theorem fit78 : TFits Tryz.prog 78 ti78 := ⟨⟨Tryz.t78, by kernel_rfl, rfl, rfl, _, rfl, rfl⟩, ⟨_, Tryz.underlying78, rfl⟩, fun _ => ⟨Tryz.t78, _, by kernel_rfl, rfl, rfl⟩, fun h => Bool.noConfusion h, fun h => Bool.noConfusion h⟩
theorem fit79 : TFits Tryz.prog 79 ti79 := ⟨⟨Tryz.t79, by kernel_rfl, rfl, rfl, _, rfl, rfl⟩, ⟨_, Tryz.underlying79, rfl⟩, fun _ => ⟨Tryz.t79, _, by kernel_rfl, rfl, rfl⟩, fun h => Bool.noConfusion h, fun h => Bool.noConfusion h⟩
theorem fit80 : TFits Tryz.prog 80 ti80 := ⟨⟨Tryz.t80, by kernel_rfl, rfl, rfl, _, rfl, rfl⟩, ⟨_, Tryz.underlying80, rfl⟩, fun _ => ⟨Tryz.t80, _, by kernel_rfl, rfl, rfl⟩, fun h => Bool.noConfusion h, fun h => Bool.noConfusion h⟩
theorem fit81 : TFits Tryz.prog 81 ti81 := ⟨⟨Tryz.t81, by kernel_rfl, rfl, rfl, _, rfl, rfl⟩, ⟨_, Tryz.underlying81, rfl⟩, fun _ => ⟨Tryz.t81, _, by kernel_rfl, rfl, rfl⟩, fun h => Bool.noConfusion h, fun h => Bool.noConfusion h⟩
theorem fit82 : TFits Tryz.prog 82 ti82 := ⟨⟨Tryz.t82, by kernel_rfl, rfl, rfl, _, rfl, rfl⟩, ⟨_, Tryz.underlying82, rfl⟩, fun _ => ⟨Tryz.t82, _, by kernel_rfl, rfl, rfl⟩, fun h => Bool.noConfusion h, fun h => Bool.noConfusion h⟩
theorem fit83 : TFits Tryz.prog 83 ti83 := ⟨⟨Tryz.t83, by kernel_rfl, rfl, rfl, _, rfl, rfl⟩, ⟨_, Tryz.underlying83, rfl⟩, fun _ => ⟨Tryz.t83, _, by kernel_rfl, rfl, rfl⟩, fun h => Bool.noConfusion h, fun h => Bool.noConfusion h⟩
theorem fit84 : TFits Tryz.prog 84 ti84 := ⟨⟨Tryz.t84, by kernel_rfl, rfl, rfl, _, rfl, rfl⟩, ⟨_, Tryz.underlying84, rfl⟩, fun _ => ⟨Tryz.t84, _, by kernel_rfl, rfl, rfl⟩, fun h => Bool.noConfusion h, fun h => Bool.noConfusion h⟩
theorem fit85 : TFits Tryz.prog 85 ti85 := ⟨⟨Tryz.t85, by kernel_rfl, rfl, rfl, _, rfl, rfl⟩, ⟨_, Tryz.underlying85, rfl⟩, fun _ => ⟨Tryz.t85, _, by kernel_rfl, rfl, rfl⟩, fun h => Bool.noConfusion h, fun h => Bool.noConfusion h⟩
theorem fit86 : TFits Tryz.prog 86 ti86 := ⟨⟨Tryz.t86, by kernel_rfl, rfl, rfl, _, rfl, rfl⟩, ⟨_, Tryz.underlying86, rfl⟩, fun h => Bool.noConfusion h, fun _ => ⟨Tryz.t86, _, by kernel_rfl, rfl, rfl⟩, fun _ => ⟨by kernel_rfl, by kernel_rfl, _, Tryz.underlying86, by kernel_rfl⟩⟩
theorem fit87 : TFits Tryz.prog 87 ti87 := ⟨⟨Tryz.t87, by kernel_rfl, rfl, rfl, _, rfl, rfl⟩, ⟨_, Tryz.underlying87, rfl⟩, fun h => Bool.noConfusion h, fun _ => ⟨Tryz.t87, _, by kernel_rfl, rfl, rfl⟩, fun _ => ⟨by kernel_rfl, by kernel_rfl, _, Tryz.underlying87, by kernel_rfl⟩⟩
theorem fit88 : TFits Tryz.prog 88 ti88 := ⟨⟨Tryz.t88, by kernel_rfl, rfl, rfl, _, rfl, rfl⟩, ⟨_, Tryz.underlying88, rfl⟩, fun _ => ⟨Tryz.t88, _, by kernel_rfl, rfl, rfl⟩, fun h => Bool.noConfusion h, fun h => Bool.noConfusion h⟩
theorem fit89 : TFits Tryz.prog 89 ti89 := ⟨⟨Tryz.t89, by kernel_rfl, rfl, rfl, _, rfl, rfl⟩, ⟨_, Tryz.underlying89, rfl⟩, fun _ => ⟨Tryz.t89, _, by kernel_rfl, rfl, rfl⟩, fun h => Bool.noConfusion h, fun h => Bool.noConfusion h⟩
theorem fit90 : TFits Tryz.prog 90 ti90 := ⟨⟨Tryz.t90, by kernel_rfl, rfl, rfl, _, rfl, rfl⟩, ⟨_, Tryz.underlying90, rfl⟩, fun _ => ⟨Tryz.t90, _, by kernel_rfl, rfl, rfl⟩, fun h => Bool.noConfusion h, fun h => Bool.noConfusion h⟩
theorem fit91 : TFits Tryz.prog 91 ti91 := ⟨⟨Tryz.t91, by kernel_rfl, rfl, rfl, _, rfl, rfl⟩, ⟨_, Tryz.underlying91, rfl⟩, fun _ => ⟨Tryz.t91, _, by kernel_rfl, rfl, rfl⟩, fun h => Bool.noConfusion h, fun h => Bool.noConfusion h⟩
theorem fit92 : TFits Tryz.prog 92 ti92 := ⟨⟨Tryz.t92, by kernel_rfl, rfl, rfl, _, rfl, rfl⟩, ⟨_, Tryz.underlying92, rfl⟩, fun _ => ⟨Tryz.t92, _, by kernel_rfl, rfl, rfl⟩, fun h => Bool.noConfusion h, fun h => Bool.noConfusion h⟩
theorem fit93 : TFits Tryz.prog 93 ti93 := ⟨⟨Tryz.t93, by kernel_rfl, rfl, rfl, _, rfl, rfl⟩, ⟨_, Tryz.underlying93, rfl⟩, fun h => Bool.noConfusion h, fun _ => ⟨Tryz.t93, _, by kernel_rfl, rfl, rfl⟩, fun _ => ⟨by kernel_rfl, by kernel_rfl, _, Tryz.underlying93, by kernel_rfl⟩⟩
theorem fit94 : TFits Tryz.prog 94 ti94 := ⟨⟨Tryz.t94, by kernel_rfl, rfl, rfl, _, rfl, rfl⟩, ⟨_, Tryz.underlying94, rfl⟩, fun h => Bool.noConfusion h, fun _ => ⟨Tryz.t94, _, by kernel_rfl, rfl, rfl⟩, fun _ => ⟨by kernel_rfl, by kernel_rfl, _, Tryz.underlying94, by kernel_rfl⟩⟩
theorem fit95 : TFits Tryz.prog 95 ti95 := ⟨⟨Tryz.t95, by kernel_rfl, rfl, rfl, _, rfl, rfl⟩, ⟨_, Tryz.underlying95, rfl⟩, fun _ => ⟨Tryz.t95, _, by kernel_rfl, rfl, rfl⟩, fun h => Bool.noConfusion h, fun h => Bool.noConfusion h⟩
theorem fit96 : TFits Tryz.prog 96 ti96 := ⟨⟨Tryz.t96, by kernel_rfl, rfl, rfl, _, rfl, rfl⟩, ⟨_, Tryz.underlying96, rfl⟩, fun _ => ⟨Tryz.t96, _, by kernel_rfl, rfl, rfl⟩, fun h => Bool.noConfusion h, fun h => Bool.noConfusion h⟩
theorem fit97 : TFits Tryz.prog 97 ti97 := ⟨⟨Tryz.t97, by kernel_rfl, rfl, rfl, _, rfl, rfl⟩, ⟨_, Tryz.underlying97, rfl⟩, fun _ => ⟨Tryz.t97, _, by kernel_rfl, rfl, rfl⟩, fun h => Bool.noConfusion h, fun h => Bool.noConfusion h⟩
theorem fit99 : TFits Tryz.prog 99 ti99 := ⟨⟨Tryz.t99, by kernel_rfl, rfl, rfl, _, rfl, rfl⟩, ⟨_, Tryz.underlying99, rfl⟩, fun _ => ⟨Tryz.t99, _, by kernel_rfl, rfl, rfl⟩, fun h => Bool.noConfusion h, fun h => Bool.noConfusion h⟩
theorem fit100 : TFits Tryz.prog 100 ti100 := ⟨⟨Tryz.t100, by kernel_rfl, rfl, rfl, _, rfl, rfl⟩, ⟨_, Tryz.underlying100, rfl⟩, fun _ => ⟨Tryz.t100, _, by kernel_rfl, rfl, rfl⟩, fun h => Bool.noConfusion h, fun h => Bool.noConfusion h⟩
theorem fit102 : TFits Tryz.prog 102 ti102 := ⟨⟨Tryz.t102, by kernel_rfl, rfl, rfl, _, rfl, rfl⟩, ⟨_, Tryz.underlying102, rfl⟩, fun _ => ⟨Tryz.t102, _, by kernel_rfl, rfl, rfl⟩, fun h => Bool.noConfusion h, fun h => Bool.noConfusion h⟩
theorem fit103 : TFits Tryz.prog 103 ti103 := ⟨⟨Tryz.t103, by kernel_rfl, rfl, rfl, _, rfl, rfl⟩, ⟨_, Tryz.underlying103, rfl⟩, fun _ => ⟨Tryz.t103, _, by kernel_rfl, rfl, rfl⟩, fun h => Bool.noConfusion h, fun h => Bool.noConfusion h⟩
theorem fit104 : TFits Tryz.prog 104 ti104 := ⟨⟨Tryz.t104, by kernel_rfl, rfl, rfl, _, rfl, rfl⟩, ⟨_, Tryz.underlying104, rfl⟩, fun h => Bool.noConfusion h, fun _ => ⟨Tryz.t104, _, by kernel_rfl, rfl, rfl⟩, fun _ => ⟨by kernel_rfl, by kernel_rfl, _, Tryz.underlying104, by kernel_rfl⟩⟩
theorem fit105 : TFits Tryz.prog 105 ti105 := ⟨⟨Tryz.t105, by kernel_rfl, rfl, rfl, _, rfl, rfl⟩, ⟨_, Tryz.underlying105, rfl⟩, fun h => Bool.noConfusion h, fun _ => ⟨Tryz.t105, _, by kernel_rfl, rfl, rfl⟩, fun _ => ⟨by kernel_rfl, by kernel_rfl, _, Tryz.underlying105, by kernel_rfl⟩⟩
theorem fit106 : TFits Tryz.prog 106 ti106 := ⟨⟨Tryz.t106, by kernel_rfl, rfl, rfl, _, rfl, rfl⟩, ⟨_, Tryz.underlying106, rfl⟩, fun h => Bool.noConfusion h, fun _ => ⟨Tryz.t106, _, by kernel_rfl, rfl, rfl⟩, fun _ => ⟨by kernel_rfl, by kernel_rfl, _, Tryz.underlying106, by kernel_rfl⟩⟩
theorem fit107 : TFits Tryz.prog 107 ti107 := ⟨⟨Tryz.t107, by kernel_rfl, rfl, rfl, _, rfl, rfl⟩, ⟨_, Tryz.underlying107, rfl⟩, fun h => Bool.noConfusion h, fun _ => ⟨Tryz.t107, _, by kernel_rfl, rfl, rfl⟩, fun _ => ⟨by kernel_rfl, by kernel_rfl, _, Tryz.underlying107, by kernel_rfl⟩⟩
theorem fit109 : TFits Tryz.prog 109 ti109 := ⟨⟨Tryz.t109, by kernel_rfl, rfl, rfl, _, rfl, rfl⟩, ⟨_, Tryz.underlying109, rfl⟩, fun _ => ⟨Tryz.t109, _, by kernel_rfl, rfl, rfl⟩, fun h => Bool.noConfusion h, fun h => Bool.noConfusion h⟩
theorem fit110 : TFits Tryz.prog 110 ti110 := ⟨⟨Tryz.t110, by kernel_rfl, rfl, rfl, _, rfl, rfl⟩, ⟨_, Tryz.underlying110, rfl⟩, fun _ => ⟨Tryz.t110, _, by kernel_rfl, rfl, rfl⟩, fun h => Bool.noConfusion h, fun h => Bool.noConfusion h⟩
theorem fit111 : TFits Tryz.prog 111 ti111 := ⟨⟨Tryz.t111, by kernel_rfl, rfl, rfl, _, rfl, rfl⟩, ⟨_, Tryz.underlying111, rfl⟩, fun h => Bool.noConfusion h, fun _ => ⟨Tryz.t111, _, by kernel_rfl, rfl, rfl⟩, fun _ => ⟨by kernel_rfl, by kernel_rfl, _, Tryz.underlying111, by kernel_rfl⟩⟩
theorem fit112 : TFits Tryz.prog 112 ti112 := ⟨⟨Tryz.t112, by kernel_rfl, rfl, rfl, _, rfl, rfl⟩, ⟨_, Tryz.underlying112, rfl⟩, fun h => Bool.noConfusion h, fun _ => ⟨Tryz.t112, _, by kernel_rfl, rfl, rfl⟩, fun _ => ⟨by kernel_rfl, by kernel_rfl, _, Tryz.underlying112, by kernel_rfl⟩⟩
theorem fit114 : TFits Tryz.prog 114 ti114 := ⟨⟨Tryz.t114, by kernel_rfl, rfl, rfl, _, rfl, rfl⟩, ⟨_, Tryz.underlying114, rfl⟩, fun _ => ⟨Tryz.t114, _, by kernel_rfl, rfl, rfl⟩, fun h => Bool.noConfusion h, fun h => Bool.noConfusion h⟩
theorem fit115 : TFits Tryz.prog 115 ti115 := ⟨⟨Tryz.t115, by kernel_rfl, rfl, rfl, _, rfl, rfl⟩, ⟨_, Tryz.underlying115, rfl⟩, fun h => Bool.noConfusion h, fun _ => ⟨Tryz.t115, _, by kernel_rfl, rfl, rfl⟩, fun h => Bool.noConfusion h⟩
theorem fit116 : TFits Tryz.prog 116 ti116 := ⟨⟨Tryz.t116, by kernel_rfl, rfl, rfl, _, rfl, rfl⟩, ⟨_, Tryz.underlying116, rfl⟩, fun h => Bool.noConfusion h, fun _ => ⟨Tryz.t116, _, by kernel_rfl, rfl, rfl⟩, fun _ => ⟨by kernel_rfl, by kernel_rfl, _, Tryz.underlying116, by kernel_rfl⟩⟩
theorem fit117 : TFits Tryz.prog 117 ti117 := ⟨⟨Tryz.t117, by kernel_rfl, rfl, rfl, _, rfl, rfl⟩, ⟨_, Tryz.underlying117, rfl⟩, fun h => Bool.noConfusion h, fun _ => ⟨Tryz.t117, _, by kernel_rfl, rfl, rfl⟩, fun _ => ⟨by kernel_rfl, by kernel_rfl, _, Tryz.underlying117, by kernel_rfl⟩⟩
theorem fit118 : TFits Tryz.prog 118 ti118 := ⟨⟨Tryz.t118, by kernel_rfl, rfl, rfl, _, rfl, rfl⟩, ⟨_, Tryz.underlying118, rfl⟩, fun _ => ⟨Tryz.t118, _, by kernel_rfl, rfl, rfl⟩, fun h => Bool.noConfusion h, fun h => Bool.noConfusion h⟩
theorem fit119 : TFits Tryz.prog 119 ti119 := ⟨⟨Tryz.t119, by kernel_rfl, rfl, rfl, _, rfl, rfl⟩, ⟨_, Tryz.underlying119, rfl⟩, fun _ => ⟨Tryz.t119, _, by kernel_rfl, rfl, rfl⟩, fun h => Bool.noConfusion h, fun h => Bool.noConfusion h⟩
theorem fit121 : TFits Tryz.prog 121 ti121 := ⟨⟨Tryz.t121, by kernel_rfl, rfl, rfl, _, rfl, rfl⟩, ⟨_, Tryz.underlying121, rfl⟩, fun _ => ⟨Tryz.t121, _, by kernel_rfl, rfl, rfl⟩, fun h => Bool.noConfusion h, fun h => Bool.noConfusion h⟩
theorem fit122 : TFits Tryz.prog 122 ti122 := ⟨⟨Tryz.t122, by kernel_rfl, rfl, rfl, _, rfl, rfl⟩, ⟨_, Tryz.underlying122, rfl⟩, fun _ => ⟨Tryz.t122, _, by kernel_rfl, rfl, rfl⟩, fun h => Bool.noConfusion h, fun h => Bool.noConfusion h⟩
theorem fit123 : TFits Tryz.prog 123 ti123 := ⟨⟨Tryz.t123, by kernel_rfl, rfl, rfl, _, rfl, rfl⟩, ⟨_, Tryz.underlying123, rfl⟩, fun _ => ⟨Tryz.t123, _, by kernel_rfl, rfl, rfl⟩, fun h => Bool.noConfusion h, fun h => Bool.noConfusion h⟩
theorem fit124 : TFits Tryz.prog 124 ti124 := ⟨⟨Tryz.t124, by kernel_rfl, rfl, rfl, _, rfl, rfl⟩, ⟨_, Tryz.underlying124, rfl⟩, fun _ => ⟨Tryz.t124, _, by kernel_rfl, rfl, rfl⟩, fun h => Bool.noConfusion h, fun h => Bool.noConfusion h⟩
theorem fit125 : TFits Tryz.prog 125 ti125 := ⟨⟨Tryz.t125, by kernel_rfl, rfl, rfl, _, rfl, rfl⟩, ⟨_, Tryz.underlying125, rfl⟩, fun _ => ⟨Tryz.t125, _, by kernel_rfl, rfl, rfl⟩, fun h => Bool.noConfusion h, fun h => Bool.noConfusion h⟩
theorem fit126 : TFits Tryz.prog 126 ti126 := ⟨⟨Tryz.t126, by kernel_rfl, rfl, rfl, _, rfl, rfl⟩, ⟨_, Tryz.underlying126, rfl⟩, fun h => Bool.noConfusion h, fun _ => ⟨Tryz.t126, _, by kernel_rfl, rfl, rfl⟩, fun _ => ⟨by kernel_rfl, by kernel_rfl, _, Tryz.underlying126, by kernel_rfl⟩⟩
theorem fit127 : TFits Tryz.prog 127 ti127 := ⟨⟨Tryz.t127, by kernel_rfl, rfl, rfl, _, rfl, rfl⟩, ⟨_, Tryz.underlying127, rfl⟩, fun h => Bool.noConfusion h, fun _ => ⟨Tryz.t127, _, by kernel_rfl, rfl, rfl⟩, fun _ => ⟨by kernel_rfl, by kernel_rfl, _, Tryz.underlying127, by kernel_rfl⟩⟩
theorem fit129 : TFits Tryz.prog 129 ti129 := ⟨⟨Tryz.t129, by kernel_rfl, rfl, rfl, _, rfl, rfl⟩, ⟨_, Tryz.underlying129, rfl⟩, fun _ => ⟨Tryz.t129, _, by kernel_rfl, rfl, rfl⟩, fun h => Bool.noConfusion h, fun h => Bool.noConfusion h⟩
theorem fit131 : TFits Tryz.prog 131 ti131 := ⟨⟨Tryz.t131, by kernel_rfl, rfl, rfl, _, rfl, rfl⟩, ⟨_, Tryz.underlying131, rfl⟩, fun _ => ⟨Tryz.t131, _, by kernel_rfl, rfl, rfl⟩, fun h => Bool.noConfusion h, fun h => Bool.noConfusion h⟩
theorem fit132 : TFits Tryz.prog 132 ti132 := ⟨⟨Tryz.t132, by kernel_rfl, rfl, rfl, _, rfl, rfl⟩, ⟨_, Tryz.underlying132, rfl⟩, fun h => Bool.noConfusion h, fun _ => ⟨Tryz.t132, _, by kernel_rfl, rfl, rfl⟩, fun _ => ⟨by kernel_rfl, by kernel_rfl, _, Tryz.underlying132, by kernel_rfl⟩⟩
theorem fit133 : TFits Tryz.prog 133 ti133 := ⟨⟨Tryz.t133, by kernel_rfl, rfl, rfl, _, rfl, rfl⟩, ⟨_, Tryz.underlying133, rfl⟩, fun h => Bool.noConfusion h, fun _ => ⟨Tryz.t133, _, by kernel_rfl, rfl, rfl⟩, fun _ => ⟨by kernel_rfl, by kernel_rfl, _, Tryz.underlying133, by kernel_rfl⟩⟩
theorem fit135 : TFits Tryz.prog 135 ti135 := ⟨⟨Tryz.t135, by kernel_rfl, rfl, rfl, _, rfl, rfl⟩, ⟨_, Tryz.underlying135, rfl⟩, fun _ => ⟨Tryz.t135, _, by kernel_rfl, rfl, rfl⟩, fun h => Bool.noConfusion h, fun h => Bool.noConfusion h⟩
theorem fit136 : TFits Tryz.prog 136 ti136 := ⟨⟨Tryz.t136, by kernel_rfl, rfl, rfl, _, rfl, rfl⟩, ⟨_, Tryz.underlying136, rfl⟩, fun _ => ⟨Tryz.t136, _, by kernel_rfl, rfl, rfl⟩, fun h => Bool.noConfusion h, fun h => Bool.noConfusion h⟩
theorem fit137 : TFits Tryz.prog 137 ti137 := ⟨⟨Tryz.t137, by kernel_rfl, rfl, rfl, _, rfl, rfl⟩, ⟨_, Tryz.underlying137, rfl⟩, fun _ => ⟨Tryz.t137, _, by kernel_rfl, rfl, rfl⟩, fun h => Bool.noConfusion h, fun h => Bool.noConfusion h⟩
theorem fit138 : TFits Tryz.prog 138 ti138 := ⟨⟨Tryz.t138, by kernel_rfl, rfl, rfl, _, rfl, rfl⟩, ⟨_, Tryz.underlying138, rfl⟩, fun _ => ⟨Tryz.t138, _, by kernel_rfl, rfl, rfl⟩, fun h => Bool.noConfusion h, fun h => Bool.noConfusion h⟩
theorem fit139 : TFits Tryz.prog 139 ti139 := ⟨⟨Tryz.t139, by kernel_rfl, rfl, rfl, _, rfl, rfl⟩, ⟨_, Tryz.underlying139, rfl⟩, fun _ => ⟨Tryz.t139, _, by kernel_rfl, rfl, rfl⟩, fun h => Bool.noConfusion h, fun h => Bool.noConfusion h⟩
theorem fit140 : TFits Tryz.prog 140 ti140 := ⟨⟨Tryz.t140, by kernel_rfl, rfl, rfl, _, rfl, rfl⟩, ⟨_, Tryz.underlying140, rfl⟩, fun _ => ⟨Tryz.t140, _, by kernel_rfl, rfl, rfl⟩, fun h => Bool.noConfusion h, fun h => Bool.noConfusion h⟩
theorem fit141 : TFits Tryz.prog 141 ti141 := ⟨⟨Tryz.t141, by kernel_rfl, rfl, rfl, _, rfl, rfl⟩, ⟨_, Tryz.underlying141, rfl⟩, fun _ => ⟨Tryz.t141, _, by kernel_rfl, rfl, rfl⟩, fun h => Bool.noConfusion h, fun h => Bool.noConfusion h⟩
theorem fit142 : TFits Tryz.prog 142 ti142 := ⟨⟨Tryz.t142, by kernel_rfl, rfl, rfl, _, rfl, rfl⟩, ⟨_, Tryz.underlying142, rfl⟩, fun h => Bool.noConfusion h, fun _ => ⟨Tryz.t142, _, by kernel_rfl, rfl, rfl⟩, fun _ => ⟨by kernel_rfl, by kernel_rfl, _, Tryz.underlying142, by kernel_rfl⟩⟩
theorem fit143 : TFits Tryz.prog 143 ti143 := ⟨⟨Tryz.t143, by kernel_rfl, rfl, rfl, _, rfl, rfl⟩, ⟨_, Tryz.underlying143, rfl⟩, fun h => Bool.noConfusion h, fun _ => ⟨Tryz.t143, _, by kernel_rfl, rfl, rfl⟩, fun _ => ⟨by kernel_rfl, by kernel_rfl, _, Tryz.underlying143, by kernel_rfl⟩⟩
theorem fit145 : TFits Tryz.prog 145 ti145 := ⟨⟨Tryz.t145, by kernel_rfl, rfl, rfl, _, rfl, rfl⟩, ⟨_, Tryz.underlying145, rfl⟩, fun _ => ⟨Tryz.t145, _, by kernel_rfl, rfl, rfl⟩, fun h => Bool.noConfusion h, fun h => Bool.noConfusion h⟩
theorem fit146 : TFits Tryz.prog 146 ti146 := ⟨⟨Tryz.t146, by kernel_rfl, rfl, rfl, _, rfl, rfl⟩, ⟨_, Tryz.underlying146, rfl⟩, fun h => Bool.noConfusion h, fun _ => ⟨Tryz.t146, _, by kernel_rfl, rfl, rfl⟩, fun _ => ⟨by kernel_rfl, by kernel_rfl, _, Tryz.underlying146, by kernel_rfl⟩⟩
theorem fit147 : TFits Tryz.prog 147 ti147 := ⟨⟨Tryz.t147, by kernel_rfl, rfl, rfl, _, rfl, rfl⟩, ⟨_, Tryz.underlying147, rfl⟩, fun h => Bool.noConfusion h, fun _ => ⟨Tryz.t147, _, by kernel_rfl, rfl, rfl⟩, fun _ => ⟨by kernel_rfl, by kernel_rfl, _, Tryz.underlying147, by kernel_rfl⟩⟩
theorem fit148 : TFits Tryz.prog 148 ti148 := ⟨⟨Tryz.t148, by kernel_rfl, rfl, rfl, _, rfl, rfl⟩, ⟨_, Tryz.underlying148, rfl⟩, fun _ => ⟨Tryz.t148, _, by kernel_rfl, rfl, rfl⟩, fun h => Bool.noConfusion h, fun h => Bool.noConfusion h⟩
theorem fit149 : TFits Tryz.prog 149 ti149 := ⟨⟨Tryz.t149, by kernel_rfl, rfl, rfl, _, rfl, rfl⟩, ⟨_, Tryz.underlying149, rfl⟩, fun _ => ⟨Tryz.t149, _, by kernel_rfl, rfl, rfl⟩, fun h => Bool.noConfusion h, fun h => Bool.noConfusion h⟩
theorem fit150 : TFits Tryz.prog 150 ti150 := ⟨⟨Tryz.t150, by kernel_rfl, rfl, rfl, _, rfl, rfl⟩, ⟨_, Tryz.underlying150, rfl⟩, fun _ => ⟨Tryz.t150, _, by kernel_rfl, rfl, rfl⟩, fun h => Bool.noConfusion h, fun h => Bool.noConfusion h⟩
theorem fit151 : TFits Tryz.prog 151 ti151 := ⟨⟨Tryz.t151, by kernel_rfl, rfl, rfl, _, rfl, rfl⟩, ⟨_, Tryz.underlying151, rfl⟩, fun _ => ⟨Tryz.t151, _, by kernel_rfl, rfl, rfl⟩, fun h => Bool.noConfusion h, fun h => Bool.noConfusion h⟩
theorem fit152 : TFits Tryz.prog 152 ti152 := ⟨⟨Tryz.t152, by kernel_rfl, rfl, rfl, _, rfl, rfl⟩, ⟨_, Tryz.underlying152, rfl⟩, fun _ => ⟨Tryz.t152, _, by kernel_rfl, rfl, rfl⟩, fun h => Bool.noConfusion h, fun h => Bool.noConfusion h⟩
theorem fit153 : TFits Tryz.prog 153 ti153 := ⟨⟨Tryz.t153, by kernel_rfl, rfl, rfl, _, rfl, rfl⟩, ⟨_, Tryz.underlying153, rfl⟩, fun _ => ⟨Tryz.t153, _, by kernel_rfl, rfl, rfl⟩, fun h => Bool.noConfusion h, fun h => Bool.noConfusion h⟩
theorem fit154 : TFits Tryz.prog 154 ti154 := ⟨⟨Tryz.t154, by kernel_rfl, rfl, rfl, _, rfl, rfl⟩, ⟨_, Tryz.underlying154, rfl⟩, fun _ => ⟨Tryz.t154, _, by kernel_rfl, rfl, rfl⟩, fun h => Bool.noConfusion h, fun h => Bool.noConfusion h⟩
theorem fit155 : TFits Tryz.prog 155 ti155 := ⟨⟨Tryz.t155, by kernel_rfl, rfl, rfl, _, rfl, rfl⟩, ⟨_, Tryz.underlying155, rfl⟩, fun h => Bool.noConfusion h, fun _ => ⟨Tryz.t155, _, by kernel_rfl, rfl, rfl⟩, fun _ => ⟨by kernel_rfl, by kernel_rfl, _, Tryz.underlying155, by kernel_rfl⟩⟩
theorem fit156 : TFits Tryz.prog 156 ti156 := ⟨⟨Tryz.t156, by kernel_rfl, rfl, rfl, _, rfl, rfl⟩, ⟨_, Tryz.underlying156, rfl⟩, fun h => Bool.noConfusion h, fun _ => ⟨Tryz.t156, _, by kernel_rfl, rfl, rfl⟩, fun _ => ⟨by kernel_rfl, by kernel_rfl, _, Tryz.underlying156, by kernel_rfl⟩⟩
theorem fit157 : TFits Tryz.prog 157 ti157 := ⟨⟨Tryz.t157, by kernel_rfl, rfl, rfl, _, rfl, rfl⟩, ⟨_, Tryz.underlying157, rfl⟩, fun _ => ⟨Tryz.t157, _, by kernel_rfl, rfl, rfl⟩, fun h => Bool.noConfusion h, fun h => Bool.noConfusion h⟩
theorem fit158 : TFits Tryz.prog 158 ti158 := ⟨⟨Tryz.t158, by kernel_rfl, rfl, rfl, _, rfl, rfl⟩, ⟨_, Tryz.underlying158, rfl⟩, fun _ => ⟨Tryz.t158, _, by kernel_rfl, rfl, rfl⟩, fun h => Bool.noConfusion h, fun h => Bool.noConfusion h⟩
theorem fit159 : TFits Tryz.prog 159 ti159 := ⟨⟨Tryz.t159, by kernel_rfl, rfl, rfl, _, rfl, rfl⟩, ⟨_, Tryz.underlying159, rfl⟩, fun _ => ⟨Tryz.t159, _, by kernel_rfl, rfl, rfl⟩, fun h => Bool.noConfusion h, fun h => Bool.noConfusion h⟩
theorem fit160 : TFits Tryz.prog 160 ti160 := ⟨⟨Tryz.t160, by kernel_rfl, rfl, rfl, _, rfl, rfl⟩, ⟨_, Tryz.underlying160, rfl⟩, fun h => Bool.noConfusion h, fun _ => ⟨Tryz.t160, _, by kernel_rfl, rfl, rfl⟩, fun h => Bool.noConfusion h⟩
theorem fit161 : TFits Tryz.prog 161 ti161 := ⟨⟨Tryz.t161, by kernel_rfl, rfl, rfl, _, rfl, rfl⟩, ⟨_, Tryz.underlying161, rfl⟩, fun _ => ⟨Tryz.t161, _, by kernel_rfl, rfl, rfl⟩, fun h => Bool.noConfusion h, fun h => Bool.noConfusion h⟩
theorem fit162 : TFits Tryz.prog 162 ti162 := ⟨⟨Tryz.t162, by kernel_rfl, rfl, rfl, _, rfl, rfl⟩, ⟨_, Tryz.underlying162, rfl⟩, fun h => Bool.noConfusion h, fun _ => ⟨Tryz.t162, _, by kernel_rfl, rfl, rfl⟩, fun _ => ⟨by kernel_rfl, by kernel_rfl, _, Tryz.underlying162, by kernel_rfl⟩⟩
theorem fit163 : TFits Tryz.prog 163 ti163 := ⟨⟨Tryz.t163, by kernel_rfl, rfl, rfl, _, rfl, rfl⟩, ⟨_, Tryz.underlying163, rfl⟩, fun h => Bool.noConfusion h, fun _ => ⟨Tryz.t163, _, by kernel_rfl, rfl, rfl⟩, fun _ => ⟨by kernel_rfl, by kernel_rfl, _, Tryz.underlying163, by kernel_rfl⟩⟩
theorem fit164 : TFits Tryz.prog 164 ti164 := ⟨⟨Tryz.t164, by kernel_rfl, rfl, rfl, _, rfl, rfl⟩, ⟨_, Tryz.underlying164, rfl⟩, fun _ => ⟨Tryz.t164, _, by kernel_rfl, rfl, rfl⟩, fun h => Bool.noConfusion h, fun h => Bool.noConfusion h⟩
theorem fit165 : TFits Tryz.prog 165 ti165 := ⟨⟨Tryz.t165, by kernel_rfl, rfl, rfl, _, rfl, rfl⟩, ⟨_, Tryz.underlying165, rfl⟩, fun _ => ⟨Tryz.t165, _, by kernel_rfl, rfl, rfl⟩, fun h => Bool.noConfusion h, fun h => Bool.noConfusion h⟩
theorem fit166 : TFits Tryz.prog 166 ti166 := ⟨⟨Tryz.t166, by kernel_rfl, rfl, rfl, _, rfl, rfl⟩, ⟨_, Tryz.underlying166, rfl⟩, fun _ => ⟨Tryz.t166, _, by kernel_rfl, rfl, rfl⟩, fun h => Bool.noConfusion h, fun h => Bool.noConfusion h⟩
theorem fit167 : TFits Tryz.prog 167 ti167 := ⟨⟨Tryz.t167, by kernel_rfl, rfl, rfl, _, rfl, rfl⟩, ⟨_, Tryz.underlying167, rfl⟩, fun _ => ⟨Tryz.t167, _, by kernel_rfl, rfl, rfl⟩, fun h => Bool.noConfusion h, fun h => Bool.noConfusion h⟩
theorem fit169 : TFits Tryz.prog 169 ti169 := ⟨⟨Tryz.t169, by kernel_rfl, rfl, rfl, _, rfl, rfl⟩, ⟨_, Tryz.underlying169, rfl⟩, fun _ => ⟨Tryz.t169, _, by kernel_rfl, rfl, rfl⟩, fun h => Bool.noConfusion h, fun h => Bool.noConfusion h⟩
theorem fit170 : TFits Tryz.prog 170 ti170 := ⟨⟨Tryz.t170, by kernel_rfl, rfl, rfl, _, rfl, rfl⟩, ⟨_, Tryz.underlying170, rfl⟩, fun _ => ⟨Tryz.t170, _, by kernel_rfl, rfl, rfl⟩, fun h => Bool.noConfusion h, fun h => Bool.noConfusion h⟩
theorem fit171 : TFits Tryz.prog 171 ti171 := ⟨⟨Tryz.t171, by kernel_rfl, rfl, rfl, _, rfl, rfl⟩, ⟨_, Tryz.underlying171, rfl⟩, fun _ => ⟨Tryz.t171, _, by kernel_rfl, rfl, rfl⟩, fun h => Bool.noConfusion h, fun h => Bool.noConfusion h⟩
theorem fit172 : TFits Tryz.prog 172 ti172 := ⟨⟨Tryz.t172, by kernel_rfl, rfl, rfl, _, rfl, rfl⟩, ⟨_, Tryz.underlying172, rfl⟩, fun _ => ⟨Tryz.t172, _, by kernel_rfl, rfl, rfl⟩, fun h => Bool.noConfusion h, fun h => Bool.noConfusion h⟩
theorem fit173 : TFits Tryz.prog 173 ti173 := ⟨⟨Tryz.t173, by kernel_rfl, rfl, rfl, _, rfl, rfl⟩, ⟨_, Tryz.underlying173, rfl⟩, fun _ => ⟨Tryz.t173, _, by kernel_rfl, rfl, rfl⟩, fun h => Bool.noConfusion h, fun h => Bool.noConfusion h⟩
theorem fit174 : TFits Tryz.prog 174 ti174 := ⟨⟨Tryz.t174, by kernel_rfl, rfl, rfl, _, rfl, rfl⟩, ⟨_, Tryz.underlying174, rfl⟩, fun _ => ⟨Tryz.t174, _, by kernel_rfl, rfl, rfl⟩, fun h => Bool.noConfusion h, fun h => Bool.noConfusion h⟩
theorem fit175 : TFits Tryz.prog 175 ti175 := ⟨⟨Tryz.t175, by kernel_rfl, rfl, rfl, _, rfl, rfl⟩, ⟨_, Tryz.underlying175, rfl⟩, fun _ => ⟨Tryz.t175, _, by kernel_rfl, rfl, rfl⟩, fun h => Bool.noConfusion h, fun h => Bool.noConfusion h⟩
theorem fit176 : TFits Tryz.prog 176 ti176 := ⟨⟨Tryz.t176, by kernel_rfl, rfl, rfl, _, rfl, rfl⟩, ⟨_, Tryz.underlying176, rfl⟩, fun _ => ⟨Tryz.t176, _, by kernel_rfl, rfl, rfl⟩, fun h => Bool.noConfusion h, fun h => Bool.noConfusion h⟩
theorem fit177 : TFits Tryz.prog 177 ti177 := ⟨⟨Tryz.t177, by kernel_rfl, rfl, rfl, _, rfl, rfl⟩, ⟨_, Tryz.underlying177, rfl⟩, fun _ => ⟨Tryz.t177, _, by kernel_rfl, rfl, rfl⟩, fun h => Bool.noConfusion h, fun h => Bool.noConfusion h⟩
theorem fit178 : TFits Tryz.prog 178 ti178 := ⟨⟨Tryz.t178, by kernel_rfl, rfl, rfl, _, rfl, rfl⟩, ⟨_, Tryz.underlying178, rfl⟩, fun _ => ⟨Tryz.t178, _, by kernel_rfl, rfl, rfl⟩, fun h => Bool.noConfusion h, fun h => Bool.noConfusion h⟩
theorem fit179 : TFits Tryz.prog 179 ti179 := ⟨⟨Tryz.t179, by kernel_rfl, rfl, rfl, _, rfl, rfl⟩, ⟨_, Tryz.underlying179, rfl⟩, fun _ => ⟨Tryz.t179, _, by kernel_rfl, rfl, rfl⟩, fun h => Bool.noConfusion h, fun h => Bool.noConfusion h⟩
theorem fit181 : TFits Tryz.prog 181 ti181 := ⟨⟨Tryz.t181, by kernel_rfl, rfl, rfl, _, rfl, rfl⟩, ⟨_, Tryz.underlying181, rfl⟩, fun h => Bool.noConfusion h, fun _ => ⟨Tryz.t181, _, by kernel_rfl, rfl, rfl⟩, fun _ => ⟨by kernel_rfl, by kernel_rfl, _, Tryz.underlying181, by kernel_rfl⟩⟩
theorem fit182 : TFits Tryz.prog 182 ti182 := ⟨⟨Tryz.t182, by kernel_rfl, rfl, rfl, _, rfl, rfl⟩, ⟨_, Tryz.underlying182, rfl⟩, fun h => Bool.noConfusion h, fun _ => ⟨Tryz.t182, _, by kernel_rfl, rfl, rfl⟩, fun _ => ⟨by kernel_rfl, by kernel_rfl, _, Tryz.underlying182, by kernel_rfl⟩⟩
theorem fit183 : TFits Tryz.prog 183 ti183 := ⟨⟨Tryz.t183, by kernel_rfl, rfl, rfl, _, rfl, rfl⟩, ⟨_, Tryz.underlying183, rfl⟩, fun h => Bool.noConfusion h, fun _ => ⟨Tryz.t183, _, by kernel_rfl, rfl, rfl⟩, fun h => Bool.noConfusion h⟩
theorem fit185 : TFits Tryz.prog 185 ti185 := ⟨⟨Tryz.t185, by kernel_rfl, rfl, rfl, _, rfl, rfl⟩, ⟨_, Tryz.underlying185, rfl⟩, fun _ => ⟨Tryz.t185, _, by kernel_rfl, rfl, rfl⟩, fun h => Bool.noConfusion h, fun h => Bool.noConfusion h⟩
theorem fit186 : TFits Tryz.prog 186 ti186 := ⟨⟨Tryz.t186, by kernel_rfl, rfl, rfl, _, rfl, rfl⟩, ⟨_, Tryz.underlying186, rfl⟩, fun _ => ⟨Tryz.t186, _, by kernel_rfl, rfl, rfl⟩, fun h => Bool.noConfusion h, fun h => Bool.noConfusion h⟩
theorem fit187 : TFits Tryz.prog 187 ti187 := ⟨⟨Tryz.t187, by kernel_rfl, rfl, rfl, _, rfl, rfl⟩, ⟨_, Tryz.underlying187, rfl⟩, fun _ => ⟨Tryz.t187, _, by kernel_rfl, rfl, rfl⟩, fun h => Bool.noConfusion h, fun h => Bool.noConfusion h⟩
theorem fit188 : TFits Tryz.prog 188 ti188 := ⟨⟨Tryz.t188, by kernel_rfl, rfl, rfl, _, rfl, rfl⟩, ⟨_, Tryz.underlying188, rfl⟩, fun _ => ⟨Tryz.t188, _, by kernel_rfl, rfl, rfl⟩, fun h => Bool.noConfusion h, fun h => Bool.noConfusion h⟩
theorem fit189 : TFits Tryz.prog 189 ti189 := ⟨⟨Tryz.t189, by kernel_rfl, rfl, rfl, _, rfl, rfl⟩, ⟨_, Tryz.underlying189, rfl⟩, fun h => Bool.noConfusion h, fun _ => ⟨Tryz.t189, _, by kernel_rfl, rfl, rfl⟩, fun _ => ⟨by kernel_rfl, by kernel_rfl, _, Tryz.underlying189, by kernel_rfl⟩⟩
theorem fit190 : TFits Tryz.prog 190 ti190 := ⟨⟨Tryz.t190, by kernel_rfl, rfl, rfl, _, rfl, rfl⟩, ⟨_, Tryz.underlying190, rfl⟩, fun h => Bool.noConfusion h, fun _ => ⟨Tryz.t190, _, by kernel_rfl, rfl, rfl⟩, fun _ => ⟨by kernel_rfl, by kernel_rfl, _, Tryz.underlying190, by kernel_rfl⟩⟩
theorem fit191 : TFits Tryz.prog 191 ti191 := ⟨⟨Tryz.t191, by kernel_rfl, rfl, rfl, _, rfl, rfl⟩, ⟨_, Tryz.underlying191, rfl⟩, fun _ => ⟨Tryz.t191, _, by kernel_rfl, rfl, rfl⟩, fun h => Bool.noConfusion h, fun h => Bool.noConfusion h⟩
theorem fit193 : TFits Tryz.prog 193 ti193 := ⟨⟨Tryz.t193, by kernel_rfl, rfl, rfl, _, rfl, rfl⟩, ⟨_, Tryz.underlying193, rfl⟩, fun _ => ⟨Tryz.t193, _, by kernel_rfl, rfl, rfl⟩, fun h => Bool.noConfusion h, fun h => Bool.noConfusion h⟩
theorem fit194 : TFits Tryz.prog 194 ti194 := ⟨⟨Tryz.t194, by kernel_rfl, rfl, rfl, _, rfl, rfl⟩, ⟨_, Tryz.underlying194, rfl⟩, fun _ => ⟨Tryz.t194, _, by kernel_rfl, rfl, rfl⟩, fun h => Bool.noConfusion h, fun h => Bool.noConfusion h⟩
theorem fit195 : TFits Tryz.prog 195 ti195 := ⟨⟨Tryz.t195, by kernel_rfl, rfl, rfl, _, rfl, rfl⟩, ⟨_, Tryz.underlying195, rfl⟩, fun _ => ⟨Tryz.t195, _, by kernel_rfl, rfl, rfl⟩, fun h => Bool.noConfusion h, fun h => Bool.noConfusion h⟩
theorem fit196 : TFits Tryz.prog 196 ti196 := ⟨⟨Tryz.t196, by kernel_rfl, rfl, rfl, _, rfl, rfl⟩, ⟨_, Tryz.underlying196, rfl⟩, fun _ => ⟨Tryz.t196, _, by kernel_rfl, rfl, rfl⟩, fun h => Bool.noConfusion h, fun h => Bool.noConfusion h⟩
theorem fit197 : TFits Tryz.prog 197 ti197 := ⟨⟨Tryz.t197, by kernel_rfl, rfl, rfl, _, rfl, rfl⟩, ⟨_, Tryz.underlying197, rfl⟩, fun _ => ⟨Tryz.t197, _, by kernel_rfl, rfl, rfl⟩, fun h => Bool.noConfusion h, fun h => Bool.noConfusion h⟩
theorem fit198 : TFits Tryz.prog 198 ti198 := ⟨⟨Tryz.t198, by kernel_rfl, rfl, rfl, _, rfl, rfl⟩, ⟨_, Tryz.underlying198, rfl⟩, fun _ => ⟨Tryz.t198, _, by kernel_rfl, rfl, rfl⟩, fun h => Bool.noConfusion h, fun h => Bool.noConfusion h⟩
theorem fit199 : TFits Tryz.prog 199 ti199 := ⟨⟨Tryz.t199, by kernel_rfl, rfl, rfl, _, rfl, rfl⟩, ⟨_, Tryz.underlying199, rfl⟩, fun _ => ⟨Tryz.t199, _, by kernel_rfl, rfl, rfl⟩, fun h => Bool.noConfusion h, fun h => Bool.noConfusion h⟩
theorem fit200 : TFits Tryz.prog 200 ti200 := ⟨⟨Tryz.t200, by kernel_rfl, rfl, rfl, _, rfl, rfl⟩, ⟨_, Tryz.underlying200, rfl⟩, fun _ => ⟨Tryz.t200, _, by kernel_rfl, rfl, rfl⟩, fun h => Bool.noConfusion h, fun h => Bool.noConfusion h⟩
theorem fit201 : TFits Tryz.prog 201 ti201 := ⟨⟨Tryz.t201, by kernel_rfl, rfl, rfl, _, rfl, rfl⟩, ⟨_, Tryz.underlying201, rfl⟩, fun _ => ⟨Tryz.t201, _, by kernel_rfl, rfl, rfl⟩, fun h => Bool.noConfusion h, fun h => Bool.noConfusion h⟩
theorem fit202 : TFits Tryz.prog 202 ti202 := ⟨⟨Tryz.t202, by kernel_rfl, rfl, rfl, _, rfl, rfl⟩, ⟨_, Tryz.underlying202, rfl⟩, fun _ => ⟨Tryz.t202, _, by kernel_rfl, rfl, rfl⟩, fun h => Bool.noConfusion h, fun h => Bool.noConfusion h⟩
theorem fit203 : TFits Tryz.prog 203 ti203 := ⟨⟨Tryz.t203, by kernel_rfl, rfl, rfl, _, rfl, rfl⟩, ⟨_, Tryz.underlying203, rfl⟩, fun _ => ⟨Tryz.t203, _, by kernel_rfl, rfl, rfl⟩, fun h => Bool.noConfusion h, fun h => Bool.noConfusion h⟩
theorem fit204 : TFits Tryz.prog 204 ti204 := ⟨⟨Tryz.t204, by kernel_rfl, rfl, rfl, _, rfl, rfl⟩, ⟨_, Tryz.underlying204, rfl⟩, fun _ => ⟨Tryz.t204, _, by kernel_rfl, rfl, rfl⟩, fun h => Bool.noConfusion h, fun h => Bool.noConfusion h⟩
theorem fit205 : TFits Tryz.prog 205 ti205 := ⟨⟨Tryz.t205, by kernel_rfl, rfl, rfl, _, rfl, rfl⟩, ⟨_, Tryz.underlying205, rfl⟩, fun _ => ⟨Tryz.t205, _, by kernel_rfl, rfl, rfl⟩, fun h => Bool.noConfusion h, fun h => Bool.noConfusion h⟩
theorem fit206 : TFits Tryz.prog 206 ti206 := ⟨⟨Tryz.t206, by kernel_rfl, rfl, rfl, _, rfl, rfl⟩, ⟨_, Tryz.underlying206, rfl⟩, fun h => Bool.noConfusion h, fun _ => ⟨Tryz.t206, _, by kernel_rfl, rfl, rfl⟩, fun h => Bool.noConfusion h⟩
theorem fit207 : TFits Tryz.prog 207 ti207 := ⟨⟨Tryz.t207, by kernel_rfl, rfl, rfl, _, rfl, rfl⟩, ⟨_, Tryz.underlying207, rfl⟩, fun _ => ⟨Tryz.t207, _, by kernel_rfl, rfl, rfl⟩, fun h => Bool.noConfusion h, fun h => Bool.noConfusion h⟩
theorem fit209 : TFits Tryz.prog 209 ti209 := ⟨⟨Tryz.t209, by kernel_rfl, rfl, rfl, _, rfl, rfl⟩, ⟨_, Tryz.underlying209, rfl⟩, fun _ => ⟨Tryz.t209, _, by kernel_rfl, rfl, rfl⟩, fun h => Bool.noConfusion h, fun h => Bool.noConfusion h⟩
theorem fit211 : TFits Tryz.prog 211 ti211 := ⟨⟨Tryz.t211, by kernel_rfl, rfl, rfl, _, rfl, rfl⟩, ⟨_, Tryz.underlying211, rfl⟩, fun _ => ⟨Tryz.t211, _, by kernel_rfl, rfl, rfl⟩, fun h => Bool.noConfusion h, fun h => Bool.noConfusion h⟩
theorem fit213 : TFits Tryz.prog 213 ti213 := ⟨⟨Tryz.t213, by kernel_rfl, rfl, rfl, _, rfl, rfl⟩, ⟨_, Tryz.underlying213, rfl⟩, fun _ => ⟨Tryz.t213, _, by kernel_rfl, rfl, rfl⟩, fun h => Bool.noConfusion h, fun h => Bool.noConfusion h⟩
theorem fit214 : TFits Tryz.prog 214 ti214 := ⟨⟨Tryz.t214, by kernel_rfl, rfl, rfl, _, rfl, rfl⟩, ⟨_, Tryz.underlying214, rfl⟩, fun _ => ⟨Tryz.t214, _, by kernel_rfl, rfl, rfl⟩, fun h => Bool.noConfusion h, fun h => Bool.noConfusion h⟩
theorem fit215 : TFits Tryz.prog 215 ti215 := ⟨⟨Tryz.t215, by kernel_rfl, rfl, rfl, _, rfl, rfl⟩, ⟨_, Tryz.underlying215, rfl⟩, fun _ => ⟨Tryz.t215, _, by kernel_rfl, rfl, rfl⟩, fun h => Bool.noConfusion h, fun h => Bool.noConfusion h⟩
theorem fit216 : TFits Tryz.prog 216 ti216 := ⟨⟨Tryz.t216, by kernel_rfl, rfl, rfl, _, rfl, rfl⟩, ⟨_, Tryz.underlying216, rfl⟩, fun h => Bool.noConfusion h, fun _ => ⟨Tryz.t216, _, by kernel_rfl, rfl, rfl⟩, fun _ => ⟨by kernel_rfl, by kernel_rfl, _, Tryz.underlying216, by kernel_rfl⟩⟩
theorem fit217 : TFits Tryz.prog 217 ti217 := ⟨⟨Tryz.t217, by kernel_rfl, rfl, rfl, _, rfl, rfl⟩, ⟨_, Tryz.underlying217, rfl⟩, fun h => Bool.noConfusion h, fun _ => ⟨Tryz.t217, _, by kernel_rfl, rfl, rfl⟩, fun _ => ⟨by kernel_rfl, by kernel_rfl, _, Tryz.underlying217, by kernel_rfl⟩⟩
theorem fit218 : TFits Tryz.prog 218 ti218 := ⟨⟨Tryz.t218, by kernel_rfl, rfl, rfl, _, rfl, rfl⟩, ⟨_, Tryz.underlying218, rfl⟩, fun _ => ⟨Tryz.t218, _, by kernel_rfl, rfl, rfl⟩, fun h => Bool.noConfusion h, fun h => Bool.noConfusion h⟩
theorem fit220 : TFits Tryz.prog 220 ti220 := ⟨⟨Tryz.t220, by kernel_rfl, rfl, rfl, _, rfl, rfl⟩, ⟨_, Tryz.underlying220, rfl⟩, fun _ => ⟨Tryz.t220, _, by kernel_rfl, rfl, rfl⟩, fun h => Bool.noConfusion h, fun h => Bool.noConfusion h⟩
theorem fit221 : TFits Tryz.prog 221 ti221 := ⟨⟨Tryz.t221, by kernel_rfl, rfl, rfl, _, rfl, rfl⟩, ⟨_, Tryz.underlying221, rfl⟩, fun _ => ⟨Tryz.t221, _, by kernel_rfl, rfl, rfl⟩, fun h => Bool.noConfusion h, fun h => Bool.noConfusion h⟩
theorem fit222 : TFits Tryz.prog 222 ti222 := ⟨⟨Tryz.t222, by kernel_rfl, rfl, rfl, _, rfl, rfl⟩, ⟨_, Tryz.underlying222, rfl⟩, fun _ => ⟨Tryz.t222, _, by kernel_rfl, rfl, rfl⟩, fun h => Bool.noConfusion h, fun h => Bool.noConfusion h⟩
theorem fit223 : TFits Tryz.prog 223 ti223 := ⟨⟨Tryz.t223, by kernel_rfl, rfl, rfl, _, rfl, rfl⟩, ⟨_, Tryz.underlying223, rfl⟩, fun _ => ⟨Tryz.t223, _, by kernel_rfl, rfl, rfl⟩, fun h => Bool.noConfusion h, fun h => Bool.noConfusion h⟩
theorem fit224 : TFits Tryz.prog 224 ti224 := ⟨⟨Tryz.t224, by kernel_rfl, rfl, rfl, _, rfl, rfl⟩, ⟨_, Tryz.underlying224, rfl⟩, fun _ => ⟨Tryz.t224, _, by kernel_rfl, rfl, rfl⟩, fun h => Bool.noConfusion h, fun h => Bool.noConfusion h⟩
theorem fit225 : TFits Tryz.prog 225 ti225 := ⟨⟨Tryz.t225, by kernel_rfl, rfl, rfl, _, rfl, rfl⟩, ⟨_, Tryz.underlying225, rfl⟩, fun h => Bool.noConfusion h, fun _ => ⟨Tryz.t225, _, by kernel_rfl, rfl, rfl⟩, fun h => Bool.noConfusion h⟩
theorem fit226 : TFits Tryz.prog 226 ti226 := ⟨⟨Tryz.t226, by kernel_rfl, rfl, rfl, _, rfl, rfl⟩, ⟨_, Tryz.underlying226, rfl⟩, fun h => Bool.noConfusion h, fun _ => ⟨Tryz.t226, _, by kernel_rfl, rfl, rfl⟩, fun h => Bool.noConfusion h⟩
theorem fit227 : TFits Tryz.prog 227 ti227 := ⟨⟨Tryz.t227, by kernel_rfl, rfl, rfl, _, rfl, rfl⟩, ⟨_, Tryz.underlying227, rfl⟩, fun _ => ⟨Tryz.t227, _, by kernel_rfl, rfl, rfl⟩, fun h => Bool.noConfusion h, fun h => Bool.noConfusion h⟩
theorem fit228 : TFits Tryz.prog 228 ti228 := ⟨⟨Tryz.t228, by kernel_rfl, rfl, rfl, _, rfl, rfl⟩, ⟨_, Tryz.underlying228, rfl⟩, fun h => Bool.noConfusion h, fun _ => ⟨Tryz.t228, _, by kernel_rfl, rfl, rfl⟩, fun h => Bool.noConfusion h⟩
theorem fit229 : TFits Tryz.prog 229 ti229 := ⟨⟨Tryz.t229, by kernel_rfl, rfl, rfl, _, rfl, rfl⟩, ⟨_, Tryz.underlying229, rfl⟩, fun _ => ⟨Tryz.t229, _, by kernel_rfl, rfl, rfl⟩, fun h => Bool.noConfusion h, fun h => Bool.noConfusion h⟩
theorem fit230 : TFits Tryz.prog 230 ti230 := ⟨⟨Tryz.t230, by kernel_rfl, rfl, rfl, _, rfl, rfl⟩, ⟨_, Tryz.underlying230, rfl⟩, fun _ => ⟨Tryz.t230, _, by kernel_rfl, rfl, rfl⟩, fun h => Bool.noConfusion h, fun h => Bool.noConfusion h⟩
theorem fit231 : TFits Tryz.prog 231 ti231 := ⟨⟨Tryz.t231, by kernel_rfl, rfl, rfl, _, rfl, rfl⟩, ⟨_, Tryz.underlying231, rfl⟩, fun h => Bool.noConfusion h, fun _ => ⟨Tryz.t231, _, by kernel_rfl, rfl, rfl⟩, fun h => Bool.noConfusion h⟩
theorem fit232 : TFits Tryz.prog 232 ti232 := ⟨⟨Tryz.t232, by kernel_rfl, rfl, rfl, _, rfl, rfl⟩, ⟨_, Tryz.underlying232, rfl⟩, fun _ => ⟨Tryz.t232, _, by kernel_rfl, rfl, rfl⟩, fun h => Bool.noConfusion h, fun h => Bool.noConfusion h⟩
theorem fit233 : TFits Tryz.prog 233 ti233 := ⟨⟨Tryz.t233, by kernel_rfl, rfl, rfl, _, rfl, rfl⟩, ⟨_, Tryz.underlying233, rfl⟩, fun h => Bool.noConfusion h, fun _ => ⟨Tryz.t233, _, by kernel_rfl, rfl, rfl⟩, fun _ => ⟨by kernel_rfl, by kernel_rfl, _, Tryz.underlying233, by kernel_rfl⟩⟩
theorem fit234 : TFits Tryz.prog 234 ti234 := ⟨⟨Tryz.t234, by kernel_rfl, rfl, rfl, _, rfl, rfl⟩, ⟨_, Tryz.underlying234, rfl⟩, fun h => Bool.noConfusion h, fun _ => ⟨Tryz.t234, _, by kernel_rfl, rfl, rfl⟩, fun _ => ⟨by kernel_rfl, by kernel_rfl, _, Tryz.underlying234, by kernel_rfl⟩⟩
theorem fit235 : TFits Tryz.prog 235 ti235 := ⟨⟨Tryz.t235, by kernel_rfl, rfl, rfl, _, rfl, rfl⟩, ⟨_, Tryz.underlying235, rfl⟩, fun _ => ⟨Tryz.t235, _, by kernel_rfl, rfl, rfl⟩, fun h => Bool.noConfusion h, fun h => Bool.noConfusion h⟩
theorem fit236 : TFits Tryz.prog 236 ti236 := ⟨⟨Tryz.t236, by kernel_rfl, rfl, rfl, _, rfl, rfl⟩, ⟨_, Tryz.underlying236, rfl⟩, fun _ => ⟨Tryz.t236, _, by kernel_rfl, rfl, rfl⟩, fun h => Bool.noConfusion h, fun h => Bool.noConfusion h⟩
theorem fit240 : TFits Tryz.prog 240 ti240 := ⟨⟨Tryz.t240, by kernel_rfl, rfl, rfl, _, rfl, rfl⟩, ⟨_, Tryz.underlying240, rfl⟩, fun _ => ⟨Tryz.t240, _, by kernel_rfl, rfl, rfl⟩, fun h => Bool.noConfusion h, fun h => Bool.noConfusion h⟩
theorem fit241 : TFits Tryz.prog 241 ti241 := ⟨⟨Tryz.t241, by kernel_rfl, rfl, rfl, _, rfl, rfl⟩, ⟨_, Tryz.underlying241, rfl⟩, fun _ => ⟨Tryz.t241, _, by kernel_rfl, rfl, rfl⟩, fun h => Bool.noConfusion h, fun h => Bool.noConfusion h⟩
theorem fit242 : TFits Tryz.prog 242 ti242 := ⟨⟨Tryz.t242, by kernel_rfl, rfl, rfl, _, rfl, rfl⟩, ⟨_, Tryz.underlying242, rfl⟩, fun _ => ⟨Tryz.t242, _, by kernel_rfl, rfl, rfl⟩, fun h => Bool.noConfusion h, fun h => Bool.noConfusion h⟩
theorem fit243 : TFits Tryz.prog 243 ti243 := ⟨⟨Tryz.t243, by kernel_rfl, rfl, rfl, _, rfl, rfl⟩, ⟨_, Tryz.underlying243, rfl⟩, fun _ => ⟨Tryz.t243, _, by kernel_rfl, rfl, rfl⟩, fun h => Bool.noConfusion h, fun h => Bool.noConfusion h⟩
theorem fit245 : TFits Tryz.prog 245 ti245 := ⟨⟨Tryz.t245, by kernel_rfl, rfl, rfl, _, rfl, rfl⟩, ⟨_, Tryz.underlying245, rfl⟩, fun _ => ⟨Tryz.t245, _, by kernel_rfl, rfl, rfl⟩, fun h => Bool.noConfusion h, fun h => Bool.noConfusion h⟩
theorem fit246 : TFits Tryz.prog 246 ti246 := ⟨⟨Tryz.t246, by kernel_rfl, rfl, rfl, _, rfl, rfl⟩, ⟨_, Tryz.underlying246, rfl⟩, fun _ => ⟨Tryz.t246, _, by kernel_rfl, rfl, rfl⟩, fun h => Bool.noConfusion h, fun h => Bool.noConfusion h⟩
theorem fit247 : TFits Tryz.prog 247 ti247 := ⟨⟨Tryz.t247, by kernel_rfl, rfl, rfl, _, rfl, rfl⟩, ⟨_, Tryz.underlying247, rfl⟩, fun _ => ⟨Tryz.t247, _, by kernel_rfl, rfl, rfl⟩, fun h => Bool.noConfusion h, fun h => Bool.noConfusion h⟩
theorem fit248 : TFits Tryz.prog 248 ti248 := ⟨⟨Tryz.t248, by kernel_rfl, rfl, rfl, _, rfl, rfl⟩, ⟨_, Tryz.underlying248, rfl⟩, fun _ => ⟨Tryz.t248, _, by kernel_rfl, rfl, rfl⟩, fun h => Bool.noConfusion h, fun h => Bool.noConfusion h⟩
theorem fit249 : TFits Tryz.prog 249 ti249 := ⟨⟨Tryz.t249, by kernel_rfl, rfl, rfl, _, rfl, rfl⟩, ⟨_, Tryz.underlying249, rfl⟩, fun h => Bool.noConfusion h, fun _ => ⟨Tryz.t249, _, by kernel_rfl, rfl, rfl⟩, fun h => Bool.noConfusion h⟩
theorem fit250 : TFits Tryz.prog 250 ti250 := ⟨⟨Tryz.t250, by kernel_rfl, rfl, rfl, _, rfl, rfl⟩, ⟨_, Tryz.underlying250, rfl⟩, fun h => Bool.noConfusion h, fun _ => ⟨Tryz.t250, _, by kernel_rfl, rfl, rfl⟩, fun h => Bool.noConfusion h⟩
theorem fit251 : TFits Tryz.prog 251 ti251 := ⟨⟨Tryz.t251, by kernel_rfl, rfl, rfl, _, rfl, rfl⟩, ⟨_, Tryz.underlying251, rfl⟩, fun _ => ⟨Tryz.t251, _, by kernel_rfl, rfl, rfl⟩, fun h => Bool.noConfusion h, fun h => Bool.noConfusion h⟩
theorem fit252 : TFits Tryz.prog 252 ti252 := ⟨⟨Tryz.t252, by kernel_rfl, rfl, rfl, _, rfl, rfl⟩, ⟨_, Tryz.underlying252, rfl⟩, fun _ => ⟨Tryz.t252, _, by kernel_rfl, rfl, rfl⟩, fun h => Bool.noConfusion h, fun h => Bool.noConfusion h⟩
theorem fit254 : TFits Tryz.prog 254 ti254 := ⟨⟨Tryz.t254, by kernel_rfl, rfl, rfl, _, rfl, rfl⟩, ⟨_, Tryz.underlying254, rfl⟩, fun _ => ⟨Tryz.t254, _, by kernel_rfl, rfl, rfl⟩, fun h => Bool.noConfusion h, fun h => Bool.noConfusion h⟩
theorem fit255 : TFits Tryz.prog 255 ti255 := ⟨⟨Tryz.t255, by kernel_rfl, rfl, rfl, _, rfl, rfl⟩, ⟨_, Tryz.underlying255, rfl⟩, fun _ => ⟨Tryz.t255, _, by kernel_rfl, rfl, rfl⟩, fun h => Bool.noConfusion h, fun h => Bool.noConfusion h⟩
theorem fit256 : TFits Tryz.prog 256 ti256 := ⟨⟨Tryz.t256, by kernel_rfl, rfl, rfl, _, rfl, rfl⟩, ⟨_, Tryz.underlying256, rfl⟩, fun _ => ⟨Tryz.t256, _, by kernel_rfl, rfl, rfl⟩, fun h => Bool.noConfusion h, fun h => Bool.noConfusion h⟩
theorem fit257 : TFits Tryz.prog 257 ti257 := ⟨⟨Tryz.t257, by kernel_rfl, rfl, rfl, _, rfl, rfl⟩, ⟨_, Tryz.underlying257, rfl⟩, fun _ => ⟨Tryz.t257, _, by kernel_rfl, rfl, rfl⟩, fun h => Bool.noConfusion h, fun h => Bool.noConfusion h⟩
theorem fit259 : TFits Tryz.prog 259 ti259 := ⟨⟨Tryz.t259, by kernel_rfl, rfl, rfl, _, rfl, rfl⟩, ⟨_, Tryz.underlying259, rfl⟩, fun _ => ⟨Tryz.t259, _, by kernel_rfl, rfl, rfl⟩, fun h => Bool.noConfusion h, fun h => Bool.noConfusion h⟩
theorem fit260 : TFits Tryz.prog 260 ti260 := ⟨⟨Tryz.t260, by kernel_rfl, rfl, rfl, _, rfl, rfl⟩, ⟨_, Tryz.underlying260, rfl⟩, fun _ => ⟨Tryz.t260, _, by kernel_rfl, rfl, rfl⟩, fun h => Bool.noConfusion h, fun h => Bool.noConfusion h⟩
theorem fit261 : TFits Tryz.prog 261 ti261 := ⟨⟨Tryz.t261, by kernel_rfl, rfl, rfl, _, rfl, rfl⟩, ⟨_, Tryz.underlying261, rfl⟩, fun _ => ⟨Tryz.t261, _, by kernel_rfl, rfl, rfl⟩, fun h => Bool.noConfusion h, fun h => Bool.noConfusion h⟩
theorem fit262 : TFits Tryz.prog 262 ti262 := ⟨⟨Tryz.t262, by kernel_rfl, rfl, rfl, _, rfl, rfl⟩, ⟨_, Tryz.underlying262, rfl⟩, fun _ => ⟨Tryz.t262, _, by kernel_rfl, rfl, rfl⟩, fun h => Bool.noConfusion h, fun h => Bool.noConfusion h⟩
theorem fit263 : TFits Tryz.prog 263 ti263 := ⟨⟨Tryz.t263, by kernel_rfl, rfl, rfl, _, rfl, rfl⟩, ⟨_, Tryz.underlying263, rfl⟩, fun h => Bool.noConfusion h, fun _ => ⟨Tryz.t263, _, by kernel_rfl, rfl, rfl⟩, fun h => Bool.noConfusion h⟩
theorem fit264 : TFits Tryz.prog 264 ti264 := ⟨⟨Tryz.t264, by kernel_rfl, rfl, rfl, _, rfl, rfl⟩, ⟨_, Tryz.underlying264, rfl⟩, fun h => Bool.noConfusion h, fun _ => ⟨Tryz.t264, _, by kernel_rfl, rfl, rfl⟩, fun h => Bool.noConfusion h⟩
theorem fit265 : TFits Tryz.prog 265 ti265 := ⟨⟨Tryz.t265, by kernel_rfl, rfl, rfl, _, rfl, rfl⟩, ⟨_, Tryz.underlying265, rfl⟩, fun _ => ⟨Tryz.t265, _, by kernel_rfl, rfl, rfl⟩, fun h => Bool.noConfusion h, fun h => Bool.noConfusion h⟩
theorem fit266 : TFits Tryz.prog 266 ti266 := ⟨⟨Tryz.t266, by kernel_rfl, rfl, rfl, _, rfl, rfl⟩, ⟨_, Tryz.underlying266, rfl⟩, fun _ => ⟨Tryz.t266, _, by kernel_rfl, rfl, rfl⟩, fun h => Bool.noConfusion h, fun h => Bool.noConfusion h⟩
theorem fit267 : TFits Tryz.prog 267 ti267 := ⟨⟨Tryz.t267, by kernel_rfl, rfl, rfl, _, rfl, rfl⟩, ⟨_, Tryz.underlying267, rfl⟩, fun h => Bool.noConfusion h, fun _ => ⟨Tryz.t267, _, by kernel_rfl, rfl, rfl⟩, fun _ => ⟨by kernel_rfl, by kernel_rfl, _, Tryz.underlying267, by kernel_rfl⟩⟩
theorem fit268 : TFits Tryz.prog 268 ti268 := ⟨⟨Tryz.t268, by kernel_rfl, rfl, rfl, _, rfl, rfl⟩, ⟨_, Tryz.underlying268, rfl⟩, fun h => Bool.noConfusion h, fun _ => ⟨Tryz.t268, _, by kernel_rfl, rfl, rfl⟩, fun _ => ⟨by kernel_rfl, by kernel_rfl, _, Tryz.underlying268, by kernel_rfl⟩⟩
theorem fit269 : TFits Tryz.prog 269 ti269 := ⟨⟨Tryz.t269, by kernel_rfl, rfl, rfl, _, rfl, rfl⟩, ⟨_, Tryz.underlying269, rfl⟩, fun h => Bool.noConfusion h, fun _ => ⟨Tryz.t269, _, by kernel_rfl, rfl, rfl⟩, fun h => Bool.noConfusion h⟩
theorem fit270 : TFits Tryz.prog 270 ti270 := ⟨⟨Tryz.t270, by kernel_rfl, rfl, rfl, _, rfl, rfl⟩, ⟨_, Tryz.underlying270, rfl⟩, fun h => Bool.noConfusion h, fun _ => ⟨Tryz.t270, _, by kernel_rfl, rfl, rfl⟩, fun h => Bool.noConfusion h⟩
theorem fit271 : TFits Tryz.prog 271 ti271 := ⟨⟨Tryz.t271, by kernel_rfl, rfl, rfl, _, rfl, rfl⟩, ⟨_, Tryz.underlying271, rfl⟩, fun h => Bool.noConfusion h, fun _ => ⟨Tryz.t271, _, by kernel_rfl, rfl, rfl⟩, fun h => Bool.noConfusion h⟩
theorem fit272 : TFits Tryz.prog 272 ti272 := ⟨⟨Tryz.t272, by kernel_rfl, rfl, rfl, _, rfl, rfl⟩, ⟨_, Tryz.underlying272, rfl⟩, fun h => Bool.noConfusion h, fun _ => ⟨Tryz.t272, _, by kernel_rfl, rfl, rfl⟩, fun h => Bool.noConfusion h⟩
theorem fit273 : TFits Tryz.prog 273 ti273 := ⟨⟨Tryz.t273, by kernel_rfl, rfl, rfl, _, rfl, rfl⟩, ⟨_, Tryz.underlying273, rfl⟩, fun h => Bool.noConfusion h, fun _ => ⟨Tryz.t273, _, by kernel_rfl, rfl, rfl⟩, fun h => Bool.noConfusion h⟩
theorem fit274 : TFits Tryz.prog 274 ti274 := ⟨⟨Tryz.t274, by kernel_rfl, rfl, rfl, _, rfl, rfl⟩, ⟨_, Tryz.underlying274, rfl⟩, fun _ => ⟨Tryz.t274, _, by kernel_rfl, rfl, rfl⟩, fun h => Bool.noConfusion h, fun h => Bool.noConfusion h⟩
theorem fit275 : TFits Tryz.prog 275 ti275 := ⟨⟨Tryz.t275, by kernel_rfl, rfl, rfl, _, rfl, rfl⟩, ⟨_, Tryz.underlying275, rfl⟩, fun _ => ⟨Tryz.t275, _, by kernel_rfl, rfl, rfl⟩, fun h => Bool.noConfusion h, fun h => Bool.noConfusion h⟩
theorem fit276 : TFits Tryz.prog 276 ti276 := ⟨⟨Tryz.t276, by kernel_rfl, rfl, rfl, _, rfl, rfl⟩, ⟨_, Tryz.underlying276, rfl⟩, fun _ => ⟨Tryz.t276, _, by kernel_rfl, rfl, rfl⟩, fun h => Bool.noConfusion h, fun h => Bool.noConfusion h⟩
theorem fit277 : TFits Tryz.prog 277 ti277 := ⟨⟨Tryz.t277, by kernel_rfl, rfl, rfl, _, rfl, rfl⟩, ⟨_, Tryz.underlying277, rfl⟩, fun _ => ⟨Tryz.t277, _, by kernel_rfl, rfl, rfl⟩, fun h => Bool.noConfusion h, fun h => Bool.noConfusion h⟩
theorem fit278 : TFits Tryz.prog 278 ti278 := ⟨⟨Tryz.t278, by kernel_rfl, rfl, rfl, _, rfl, rfl⟩, ⟨_, Tryz.underlying278, rfl⟩, fun _ => ⟨Tryz.t278, _, by kernel_rfl, rfl, rfl⟩, fun h => Bool.noConfusion h, fun h => Bool.noConfusion h⟩
theorem fit279 : TFits Tryz.prog 279 ti279 := ⟨⟨Tryz.t279, by kernel_rfl, rfl, rfl, _, rfl, rfl⟩, ⟨_, Tryz.underlying279, rfl⟩, fun _ => ⟨Tryz.t279, _, by kernel_rfl, rfl, rfl⟩, fun h => Bool.noConfusion h, fun h => Bool.noConfusion h⟩
theorem fit280 : TFits Tryz.prog 280 ti280 := ⟨⟨Tryz.t280, by kernel_rfl, rfl, rfl, _, rfl, rfl⟩, ⟨_, Tryz.underlying280, rfl⟩, fun h => Bool.noConfusion h, fun _ => ⟨Tryz.t280, _, by kernel_rfl, rfl, rfl⟩, fun h => Bool.noConfusion h⟩
theorem fit281 : TFits Tryz.prog 281 ti281 := ⟨⟨Tryz.t281, by kernel_rfl, rfl, rfl, _, rfl, rfl⟩, ⟨_, Tryz.underlying281, rfl⟩, fun h => Bool.noConfusion h, fun _ => ⟨Tryz.t281, _, by kernel_rfl, rfl, rfl⟩, fun h => Bool.noConfusion h⟩
set_option maxRecDepth 100000 in
theorem ty_ok : TOk Tryz.prog TY := tok_cons fit1 (tok_cons fit2 (tok_cons fit3 (tok_cons fit4 (tok_cons fit5 (tok_cons fit6 (tok_cons fit7 (tok_cons fit8 (tok_cons fit9 (tok_cons fit10 (tok_cons fit11 (tok_cons fit12 (tok_cons fit13 (tok_cons fit14 (tok_cons fit15 (tok_cons fit16 (tok_cons fit17 (tok_cons fit18 (tok_cons fit19 (tok_cons fit20 (tok_cons fit21 (tok_cons fit22 (tok_cons fit23 (tok_cons fit24 (tok_cons fit25 (tok_cons fit26 (tok_cons fit27 (tok_cons fit28 (tok_cons fit29 (tok_cons fit30 (tok_cons fit31 (tok_cons fit32 (tok_cons fit33 (tok_cons fit34 (tok_cons fit35 (tok_cons fit36 (tok_cons fit37 (tok_cons fit38 (tok_cons fit39 (tok_cons fit40 (tok_cons fit41 (tok_cons fit42 (tok_cons fit43 (tok_cons fit44 (tok_cons fit45 (tok_cons fit46 (tok_cons fit47 (tok_cons fit48 (tok_cons fit49 (tok_cons fit50 (tok_cons fit51 (tok_cons fit52 (tok_cons fit53 (tok_cons fit54 (tok_cons fit55 (tok_cons fit56 (tok_cons fit57 (tok_cons fit58 (tok_cons fit59 (tok_cons fit60 (tok_cons fit61 (tok_cons fit62 (tok_cons fit63 (tok_cons fit64 (tok_cons fit65 (tok_cons fit66 (tok_cons fit68 (tok_cons fit69 (tok_cons fit70 (tok_cons fit71 (tok_cons fit72 (tok_cons fit73 (tok_cons fit74 (tok_cons fit75 (tok_cons fit76 (tok_cons fit77 (tok_cons fit78 (tok_cons fit79 (tok_cons fit80 (tok_cons fit81 (tok_cons fit82 (tok_cons fit83 (tok_cons fit84 (tok_cons fit85 (tok_cons fit86 (tok_cons fit87 (tok_cons fit88 (tok_cons fit89 (tok_cons fit90 (tok_cons fit91 (tok_cons fit92 (tok_cons fit93 (tok_cons fit94 (tok_cons fit95 (tok_cons fit96 (tok_cons fit97 (tok_cons fit99 (tok_cons fit100 (tok_cons fit102 (tok_cons fit103 (tok_cons fit104 (tok_cons fit105 (tok_cons fit106 (tok_cons fit107 (tok_cons fit109 (tok_cons fit110 (tok_cons fit111 (tok_cons fit112 (tok_cons fit114 (tok_cons fit115 (tok_cons fit116 (tok_cons fit117 (tok_cons fit118 (tok_cons fit119 (tok_cons fit121 (tok_cons fit122 (tok_cons fit123 (tok_cons fit124 (tok_cons fit125 (tok_cons fit126 (tok_cons fit127 (tok_cons fit129 (tok_cons fit131 (tok_cons fit132 (tok_cons fit133 (tok_cons fit135 (tok_cons fit136 (tok_cons fit137 (tok_cons fit138 (tok_cons fit139 (tok_cons fit140 (tok_cons fit141 (tok_cons fit142 (tok_cons fit143 (tok_cons fit145 (tok_cons fit146 (tok_cons fit147 (tok_cons fit148 (tok_cons fit149 (tok_cons fit150 (tok_cons fit151 (tok_cons fit152 (tok_cons fit153 (tok_cons fit154 (tok_cons fit155 (tok_cons fit156 (tok_cons fit157 (tok_cons fit158 (tok_cons fit159 (tok_cons fit160 (tok_cons fit161 (tok_cons fit162 (tok_cons fit163 (tok_cons fit164 (tok_cons fit165 (tok_cons fit166 (tok_cons fit167 (tok_cons fit169 (tok_cons fit170 (tok_cons fit171 (tok_cons fit172 (tok_cons fit173 (tok_cons fit174 (tok_cons fit175 (tok_cons fit176 (tok_cons fit177 (tok_cons fit178 (tok_cons fit179 (tok_cons fit181 (tok_cons fit182 (tok_cons fit183 (tok_cons fit185 (tok_cons fit186 (tok_cons fit187 (tok_cons fit188 (tok_cons fit189 (tok_cons fit190 (tok_cons fit191 (tok_cons fit193 (tok_cons fit194 (tok_cons fit195 (tok_cons fit196 (tok_cons fit197 (tok_cons fit198 (tok_cons fit199 (tok_cons fit200 (tok_cons fit201 (tok_cons fit202 (tok_cons fit203 (tok_cons fit204 (tok_cons fit205 (tok_cons fit206 (tok_cons fit207 (tok_cons fit209 (tok_cons fit211 (tok_cons fit213 (tok_cons fit214 (tok_cons fit215 (tok_cons fit216 (tok_cons fit217 (tok_cons fit218 (tok_cons fit220 (tok_cons fit221 (tok_cons fit222 (tok_cons fit223 (tok_cons fit224 (tok_cons fit225 (tok_cons fit226 (tok_cons fit227 (tok_cons fit228 (tok_cons fit229 (tok_cons fit230 (tok_cons fit231 (tok_cons fit232 (tok_cons fit233 (tok_cons fit234 (tok_cons fit235 (tok_cons fit236 (tok_cons fit240 (tok_cons fit241 (tok_cons fit242 (tok_cons fit243 (tok_cons fit245 (tok_cons fit246 (tok_cons fit247 (tok_cons fit248 (tok_cons fit249 (tok_cons fit250 (tok_cons fit251 (tok_cons fit252 (tok_cons fit254 (tok_cons fit255 (tok_cons fit256 (tok_cons fit257 (tok_cons fit259 (tok_cons fit260 (tok_cons fit261 (tok_cons fit262 (tok_cons fit263 (tok_cons fit264 (tok_cons fit265 (tok_cons fit266 (tok_cons fit267 (tok_cons fit268 (tok_cons fit269 (tok_cons fit270 (tok_cons fit271 (tok_cons fit272 (tok_cons fit273 (tok_cons fit274 (tok_cons fit275 (tok_cons fit276 (tok_cons fit277 (tok_cons fit278 (tok_cons fit279 (tok_cons fit280 (tok_cons fit281 ((fun p hp => by cases hp))))))))))))))))))))))))))))))))))))))))))))))))))))))))))))))))))))))))))))))))))))))))))))))))))))))))))))))))))))))))))))))))))))))))))))))))))))))))))))))))))))))))))))))))))))))))))))))))))))))))))))))))))))))))))))))))))))))))))))))))))))))))))))))))))
theorem tab : Tab Tryz.prog TY := ⟨ty_ok, by kernel_rfl⟩
end Go.Proofs.YtpipbjfcbbdicaaGreatDoor
