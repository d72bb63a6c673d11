/- The types of the program, as far as the operations ask: a table, and that the loaded program bears it out. -/
import Derived.Test.YtijdnjngfkohfaaGreatDoorAbsC
import Derived.Test.YtijdnjngfkohfaaGreatDoorProg
import Derived.KernelRfl
set_option linter.unusedVariables false
set_option linter.unusedSimpArgs false
namespace Go.Proofs.YtijdnjngfkohfaaGreatDoor
open Go Go.Abs
theorem tok_cons {P : Program} {t : TypeId} {ti : TI} {T : TT} (h : TFits P t ti) (k : TOk P T) : TOk P ((t, ti) :: T) := fun p hp => by
  rcases List.mem_cons.1 hp with rfl | hp
  · exact h
  · exact k p hp
def ti1 : TI := ⟨.func, 1, 8, [.nilFunc], false⟩
def ti2 : TI := ⟨.int .i64, 1, 8, [.int .i64 0], false⟩
def ti3 : TI := ⟨.int .i64, 1, 8, [.int .i64 0], false⟩
def ti4 : TI := ⟨.bool, 1, 1, [.bool false], false⟩
def ti5 : TI := ⟨.int .u8, 1, 1, [.int .u8 0], false⟩
def ti6 : TI := ⟨.int .u8, 1, 1, [.int .u8 0], false⟩
def ti7 : TI := ⟨.struct [(0, 2), (1, 3), (2, 4), (3, 6)], 4, 24, [.int .i64 0, .int .i64 0, .bool false, .int .u8 0], true⟩
def ti8 : TI := ⟨.struct [(0, 2), (1, 3), (2, 4), (3, 6)], 4, 24, [.int .i64 0, .int .i64 0, .bool false, .int .u8 0], true⟩
def ti9 : TI := ⟨.str, 1, 16, [.string ⟨⟨[]⟩⟩], false⟩
def ti10 : TI := ⟨.str, 1, 16, [.string ⟨⟨[]⟩⟩], false⟩
def ti11 : TI := ⟨.str, 1, 16, [.string ⟨⟨[]⟩⟩], false⟩
def ti12 : TI := ⟨.int .u64, 1, 8, [.int .u64 0], false⟩
def ti13 : TI := ⟨.struct [(0, 9), (1, 12)], 2, 24, [.string ⟨⟨[]⟩⟩, .int .u64 0], false⟩
def ti14 : TI := ⟨.struct [(0, 9), (1, 12)], 2, 24, [.string ⟨⟨[]⟩⟩, .int .u64 0], false⟩
def ti15 : TI := ⟨.ptr 425, 1, 8, [.pointer none], false⟩
def ti16 : TI := ⟨.ptr 428, 1, 8, [.pointer none], false⟩
def ti17 : TI := ⟨.ptr 435, 1, 8, [.pointer none], false⟩
def ti18 : TI := ⟨.struct [(0, 17)], 1, 8, [.pointer none], false⟩
def ti19 : TI := ⟨.struct [(0, 17)], 1, 8, [.pointer none], false⟩
def ti20 : TI := ⟨.iface, 1, 16, [.nilIface], false⟩
def ti21 : TI := ⟨.int .i32, 1, 4, [.int .i32 0], false⟩
def ti22 : TI := ⟨.slice 30, 1, 24, [.slice none 0 0], false⟩
def ti23 : TI := ⟨.func, 1, 8, [.nilFunc], false⟩
def ti24 : TI := ⟨.ptr 28, 1, 8, [.pointer none], false⟩
def ti25 : TI := ⟨.array 6 3, 6, 48, [.int .i64 0, .int .i64 0, .int .i64 0, .int .i64 0, .int .i64 0, .int .i64 0], false⟩
def ti26 : TI := ⟨.array 6 4, 6, 6, [.bool false, .bool false, .bool false, .bool false, .bool false, .bool false], false⟩
def ti27 : TI := ⟨.struct [(0, 25), (6, 26)], 12, 56, [.int .i64 0, .int .i64 0, .int .i64 0, .int .i64 0, .int .i64 0, .int .i64 0, .bool false, .bool false, .bool false, .bool false, .bool false, .bool false], true⟩
def ti28 : TI := ⟨.struct [(0, 25), (6, 26)], 12, 56, [.int .i64 0, .int .i64 0, .int .i64 0, .int .i64 0, .int .i64 0, .int .i64 0, .bool false, .bool false, .bool false, .bool false, .bool false, .bool false], true⟩
def ti29 : TI := ⟨.struct [(0, 3), (1, 3)], 2, 16, [.int .i64 0, .int .i64 0], true⟩
def ti30 : TI := ⟨.struct [(0, 3), (1, 3)], 2, 16, [.int .i64 0, .int .i64 0], true⟩
def ti31 : TI := ⟨.func, 1, 8, [.nilFunc], false⟩
def ti32 : TI := ⟨.int .i64, 1, 8, [.int .i64 0], false⟩
def ti33 : TI := ⟨.func, 1, 8, [.nilFunc], false⟩
def ti34 : TI := ⟨.func, 1, 8, [.nilFunc], false⟩
def ti35 : TI := ⟨.ptr 38, 1, 8, [.pointer none], false⟩
def ti36 : TI := ⟨.array 6 9, 6, 96, [.string ⟨⟨[]⟩⟩, .string ⟨⟨[]⟩⟩, .string ⟨⟨[]⟩⟩, .string ⟨⟨[]⟩⟩, .string ⟨⟨[]⟩⟩, .string ⟨⟨[]⟩⟩], false⟩
def ti37 : TI := ⟨.struct [(0, 36), (6, 26)], 12, 104, [.string ⟨⟨[]⟩⟩, .string ⟨⟨[]⟩⟩, .string ⟨⟨[]⟩⟩, .string ⟨⟨[]⟩⟩, .string ⟨⟨[]⟩⟩, .string ⟨⟨[]⟩⟩, .bool false, .bool false, .bool false, .bool false, .bool false, .bool false], true⟩
def ti38 : TI := ⟨.struct [(0, 36), (6, 26)], 12, 104, [.string ⟨⟨[]⟩⟩, .string ⟨⟨[]⟩⟩, .string ⟨⟨[]⟩⟩, .string ⟨⟨[]⟩⟩, .string ⟨⟨[]⟩⟩, .string ⟨⟨[]⟩⟩, .bool false, .bool false, .bool false, .bool false, .bool false, .bool false], true⟩
def ti39 : TI := ⟨.func, 1, 8, [.nilFunc], false⟩
def ti40 : TI := ⟨.func, 1, 8, [.nilFunc], false⟩
def ti41 : TI := ⟨.slice 145, 1, 24, [.slice none 0 0], false⟩
def ti42 : TI := ⟨.func, 1, 8, [.nilFunc], false⟩
def ti43 : TI := ⟨.slice 145, 1, 24, [.slice none 0 0], false⟩
def ti44 : TI := ⟨.func, 1, 8, [.nilFunc], false⟩
def ti45 : TI := ⟨.struct [(0, 43), (1, 43), (2, 9)], 3, 64, [.slice none 0 0, .slice none 0 0, .string ⟨⟨[]⟩⟩], true⟩
def ti46 : TI := ⟨.struct [(0, 43), (1, 43), (2, 9)], 3, 64, [.slice none 0 0, .slice none 0 0, .string ⟨⟨[]⟩⟩], true⟩
def ti47 : TI := ⟨.func, 1, 8, [.nilFunc], false⟩
def ti48 : TI := ⟨.func, 1, 8, [.nilFunc], false⟩
def ti49 : TI := ⟨.func, 1, 8, [.nilFunc], false⟩
def ti50 : TI := ⟨.func, 1, 8, [.nilFunc], false⟩
def ti51 : TI := ⟨.struct [(0, 3), (1, 3), (2, 9)], 3, 32, [.int .i64 0, .int .i64 0, .string ⟨⟨[]⟩⟩], true⟩
def ti52 : TI := ⟨.struct [(0, 3), (1, 3), (2, 9)], 3, 32, [.int .i64 0, .int .i64 0, .string ⟨⟨[]⟩⟩], true⟩
def ti53 : TI := ⟨.array 10 9, 10, 160, [.string ⟨⟨[]⟩⟩, .string ⟨⟨[]⟩⟩, .string ⟨⟨[]⟩⟩, .string ⟨⟨[]⟩⟩, .string ⟨⟨[]⟩⟩, .string ⟨⟨[]⟩⟩, .string ⟨⟨[]⟩⟩, .string ⟨⟨[]⟩⟩, .string ⟨⟨[]⟩⟩, .string ⟨⟨[]⟩⟩], false⟩
def ti54 : TI := ⟨.array 10 9, 10, 160, [.string ⟨⟨[]⟩⟩, .string ⟨⟨[]⟩⟩, .string ⟨⟨[]⟩⟩, .string ⟨⟨[]⟩⟩, .string ⟨⟨[]⟩⟩, .string ⟨⟨[]⟩⟩, .string ⟨⟨[]⟩⟩, .string ⟨⟨[]⟩⟩, .string ⟨⟨[]⟩⟩, .string ⟨⟨[]⟩⟩], false⟩
def ti55 : TI := ⟨.slice 125, 1, 24, [.slice none 0 0], false⟩
def ti56 : TI := ⟨.slice 106, 1, 24, [.slice none 0 0], false⟩
def ti57 : TI := ⟨.slice 104, 1, 24, [.slice none 0 0], false⟩
def ti58 : TI := ⟨.slice 127, 1, 24, [.slice none 0 0], false⟩
def ti59 : TI := ⟨.struct [(0, 9), (1, 9), (2, 9)], 3, 48, [.string ⟨⟨[]⟩⟩, .string ⟨⟨[]⟩⟩, .string ⟨⟨[]⟩⟩], true⟩
def ti60 : TI := ⟨.struct [(0, 9), (1, 9), (2, 9)], 3, 48, [.string ⟨⟨[]⟩⟩, .string ⟨⟨[]⟩⟩, .string ⟨⟨[]⟩⟩], true⟩
def ti61 : TI := ⟨.struct [(0, 54), (10, 9), (11, 9), (12, 9), (13, 9), (14, 9), (15, 9), (16, 3), (17, 9), (18, 9), (19, 9), (20, 9), (21, 9), (22, 55), (23, 55), (24, 55), (25, 56), (26, 57), (27, 58), (28, 60), (31, 60)], 34, 584, [.string ⟨⟨[]⟩⟩, .string ⟨⟨[]⟩⟩, .string ⟨⟨[]⟩⟩, .string ⟨⟨[]⟩⟩, .string ⟨⟨[]⟩⟩, .string ⟨⟨[]⟩⟩, .string ⟨⟨[]⟩⟩, .string ⟨⟨[]⟩⟩, .string ⟨⟨[]⟩⟩, .string ⟨⟨[]⟩⟩, .string ⟨⟨[]⟩⟩, .string ⟨⟨[]⟩⟩, .string ⟨⟨[]⟩⟩, .string ⟨⟨[]⟩⟩, .string ⟨⟨[]⟩⟩, .string ⟨⟨[]⟩⟩, .int .i64 0, .string ⟨⟨[]⟩⟩, .string ⟨⟨[]⟩⟩, .string ⟨⟨[]⟩⟩, .string ⟨⟨[]⟩⟩, .string ⟨⟨[]⟩⟩, .slice none 0 0, .slice none 0 0, .slice none 0 0, .slice none 0 0, .slice none 0 0, .slice none 0 0, .string ⟨⟨[]⟩⟩, .string ⟨⟨[]⟩⟩, .string ⟨⟨[]⟩⟩, .string ⟨⟨[]⟩⟩, .string ⟨⟨[]⟩⟩, .string ⟨⟨[]⟩⟩], true⟩
def ti62 : TI := ⟨.struct [(0, 54), (10, 9), (11, 9), (12, 9), (13, 9), (14, 9), (15, 9), (16, 3), (17, 9), (18, 9), (19, 9), (20, 9), (21, 9), (22, 55), (23, 55), (24, 55), (25, 56), (26, 57), (27, 58), (28, 60), (31, 60)], 34, 584, [.string ⟨⟨[]⟩⟩, .string ⟨⟨[]⟩⟩, .string ⟨⟨[]⟩⟩, .string ⟨⟨[]⟩⟩, .string ⟨⟨[]⟩⟩, .string ⟨⟨[]⟩⟩, .string ⟨⟨[]⟩⟩, .string ⟨⟨[]⟩⟩, .string ⟨⟨[]⟩⟩, .string ⟨⟨[]⟩⟩, .string ⟨⟨[]⟩⟩, .string ⟨⟨[]⟩⟩, .string ⟨⟨[]⟩⟩, .string ⟨⟨[]⟩⟩, .string ⟨⟨[]⟩⟩, .string ⟨⟨[]⟩⟩, .int .i64 0, .string ⟨⟨[]⟩⟩, .string ⟨⟨[]⟩⟩, .string ⟨⟨[]⟩⟩, .string ⟨⟨[]⟩⟩, .string ⟨⟨[]⟩⟩, .slice none 0 0, .slice none 0 0, .slice none 0 0, .slice none 0 0, .slice none 0 0, .slice none 0 0, .string ⟨⟨[]⟩⟩, .string ⟨⟨[]⟩⟩, .string ⟨⟨[]⟩⟩, .string ⟨⟨[]⟩⟩, .string ⟨⟨[]⟩⟩, .string ⟨⟨[]⟩⟩], true⟩
def ti63 : TI := ⟨.func, 1, 8, [.nilFunc], false⟩
def ti64 : TI := ⟨.func, 1, 8, [.nilFunc], false⟩
def ti65 : TI := ⟨.ptr 86, 1, 8, [.pointer none], false⟩
def ti66 : TI := ⟨.int .i64, 1, 8, [.int .i64 0], false⟩
def ti68 : TI := ⟨.func, 1, 8, [.nilFunc], false⟩
def ti69 : TI := ⟨.func, 1, 8, [.nilFunc], false⟩
def ti70 : TI := ⟨.func, 1, 8, [.nilFunc], false⟩
def ti71 : TI := ⟨.int .i64, 1, 8, [.int .i64 0], false⟩
def ti72 : TI := ⟨.func, 1, 8, [.nilFunc], false⟩
def ti73 : TI := ⟨.func, 1, 8, [.nilFunc], false⟩
def ti74 : TI := ⟨.slice 366, 1, 24, [.slice none 0 0], false⟩
def ti75 : TI := ⟨.struct [(0, 74), (1, 74)], 2, 48, [.slice none 0 0, .slice none 0 0], true⟩
def ti76 : TI := ⟨.struct [(0, 74), (1, 74)], 2, 48, [.slice none 0 0, .slice none 0 0], true⟩
def ti77 : TI := ⟨.struct [(0, 76), (2, 76), (4, 4), (5, 3), (6, 3), (7, 3), (8, 3), (9, 3), (10, 3)], 11, 152, [.slice none 0 0, .slice none 0 0, .slice none 0 0, .slice none 0 0, .bool false, .int .i64 0, .int .i64 0, .int .i64 0, .int .i64 0, .int .i64 0, .int .i64 0], true⟩
def ti78 : TI := ⟨.struct [(0, 76), (2, 76), (4, 4), (5, 3), (6, 3), (7, 3), (8, 3), (9, 3), (10, 3)], 11, 152, [.slice none 0 0, .slice none 0 0, .slice none 0 0, .slice none 0 0, .bool false, .int .i64 0, .int .i64 0, .int .i64 0, .int .i64 0, .int .i64 0, .int .i64 0], true⟩
def ti79 : TI := ⟨.slice 211, 1, 24, [.slice none 0 0], false⟩
def ti80 : TI := ⟨.slice 211, 1, 24, [.slice none 0 0], false⟩
def ti81 : TI := ⟨.slice 223, 1, 24, [.slice none 0 0], false⟩
def ti82 : TI := ⟨.map 9 84, 1, 8, [.map none], false⟩
def ti83 : TI := ⟨.map 9 35, 1, 8, [.map none], false⟩
def ti84 : TI := ⟨.ptr 258, 1, 8, [.pointer none], false⟩
def ti85 : TI := ⟨.struct [(0, 62), (34, 78), (45, 78), (56, 78), (67, 78), (78, 80), (79, 81), (80, 81), (81, 81), (82, 46), (85, 46), (88, 82), (89, 83), (90, 84)], 91, 1440, [.string ⟨⟨[]⟩⟩, .string ⟨⟨[]⟩⟩, .string ⟨⟨[]⟩⟩, .string ⟨⟨[]⟩⟩, .string ⟨⟨[]⟩⟩, .string ⟨⟨[]⟩⟩, .string ⟨⟨[]⟩⟩, .string ⟨⟨[]⟩⟩, .string ⟨⟨[]⟩⟩, .string ⟨⟨[]⟩⟩, .string ⟨⟨[]⟩⟩, .string ⟨⟨[]⟩⟩, .string ⟨⟨[]⟩⟩, .string ⟨⟨[]⟩⟩, .string ⟨⟨[]⟩⟩, .string ⟨⟨[]⟩⟩, .int .i64 0, .string ⟨⟨[]⟩⟩, .string ⟨⟨[]⟩⟩, .string ⟨⟨[]⟩⟩, .string ⟨⟨[]⟩⟩, .string ⟨⟨[]⟩⟩, .slice none 0 0, .slice none 0 0, .slice none 0 0, .slice none 0 0, .slice none 0 0, .slice none 0 0, .string ⟨⟨[]⟩⟩, .string ⟨⟨[]⟩⟩, .string ⟨⟨[]⟩⟩, .string ⟨⟨[]⟩⟩, .string ⟨⟨[]⟩⟩, .string ⟨⟨[]⟩⟩, .slice none 0 0, .slice none 0 0, .slice none 0 0, .slice none 0 0, .bool false, .int .i64 0, .int .i64 0, .int .i64 0, .int .i64 0, .int .i64 0, .int .i64 0].append [.slice none 0 0, .slice none 0 0, .slice none 0 0, .slice none 0 0, .bool false, .int .i64 0, .int .i64 0, .int .i64 0, .int .i64 0, .int .i64 0, .int .i64 0, .slice none 0 0, .slice none 0 0, .slice none 0 0, .slice none 0 0, .bool false, .int .i64 0, .int .i64 0, .int .i64 0, .int .i64 0, .int .i64 0, .int .i64 0, .slice none 0 0, .slice none 0 0, .slice none 0 0, .slice none 0 0, .bool false, .int .i64 0, .int .i64 0, .int .i64 0, .int .i64 0, .int .i64 0, .int .i64 0, .slice none 0 0, .slice none 0 0, .slice none 0 0, .slice none 0 0, .slice none 0 0, .slice none 0 0, .string ⟨⟨[]⟩⟩, .slice none 0 0, .slice none 0 0, .string ⟨⟨[]⟩⟩, .map none, .map none, .pointer none], true⟩
def ti86 : TI := ⟨.struct [(0, 62), (34, 78), (45, 78), (56, 78), (67, 78), (78, 80), (79, 81), (80, 81), (81, 81), (82, 46), (85, 46), (88, 82), (89, 83), (90, 84)], 91, 1440, [.string ⟨⟨[]⟩⟩, .string ⟨⟨[]⟩⟩, .string ⟨⟨[]⟩⟩, .string ⟨⟨[]⟩⟩, .string ⟨⟨[]⟩⟩, .string ⟨⟨[]⟩⟩, .string ⟨⟨[]⟩⟩, .string ⟨⟨[]⟩⟩, .string ⟨⟨[]⟩⟩, .string ⟨⟨[]⟩⟩, .string ⟨⟨[]⟩⟩, .string ⟨⟨[]⟩⟩, .string ⟨⟨[]⟩⟩, .string ⟨⟨[]⟩⟩, .string ⟨⟨[]⟩⟩, .string ⟨⟨[]⟩⟩, .int .i64 0, .string ⟨⟨[]⟩⟩, .string ⟨⟨[]⟩⟩, .string ⟨⟨[]⟩⟩, .string ⟨⟨[]⟩⟩, .string ⟨⟨[]⟩⟩, .slice none 0 0, .slice none 0 0, .slice none 0 0, .slice none 0 0, .slice none 0 0, .slice none 0 0, .string ⟨⟨[]⟩⟩, .string ⟨⟨[]⟩⟩, .string ⟨⟨[]⟩⟩, .string ⟨⟨[]⟩⟩, .string ⟨⟨[]⟩⟩, .string ⟨⟨[]⟩⟩, .slice none 0 0, .slice none 0 0, .slice none 0 0, .slice none 0 0, .bool false, .int .i64 0, .int .i64 0, .int .i64 0, .int .i64 0, .int .i64 0, .int .i64 0].append [.slice none 0 0, .slice none 0 0, .slice none 0 0, .slice none 0 0, .bool false, .int .i64 0, .int .i64 0, .int .i64 0, .int .i64 0, .int .i64 0, .int .i64 0, .slice none 0 0, .slice none 0 0, .slice none 0 0, .slice none 0 0, .bool false, .int .i64 0, .int .i64 0, .int .i64 0, .int .i64 0, .int .i64 0, .int .i64 0, .slice none 0 0, .slice none 0 0, .slice none 0 0, .slice none 0 0, .bool false, .int .i64 0, .int .i64 0, .int .i64 0, .int .i64 0, .int .i64 0, .int .i64 0, .slice none 0 0, .slice none 0 0, .slice none 0 0, .slice none 0 0, .slice none 0 0, .slice none 0 0, .string ⟨⟨[]⟩⟩, .slice none 0 0, .slice none 0 0, .string ⟨⟨[]⟩⟩, .map none, .map none, .pointer none], true⟩
def ti88 : TI := ⟨.func, 1, 8, [.nilFunc], false⟩
def ti89 : TI := ⟨.func, 1, 8, [.nilFunc], false⟩
def ti90 : TI := ⟨.func, 1, 8, [.nilFunc], false⟩
def ti91 : TI := ⟨.func, 1, 8, [.nilFunc], false⟩
def ti92 : TI := ⟨.func, 1, 8, [.nilFunc], false⟩
def ti93 : TI := ⟨.func, 1, 8, [.nilFunc], false⟩
def ti94 : TI := ⟨.slice 9, 1, 24, [.slice none 0 0], false⟩
def ti95 : TI := ⟨.slice 3, 1, 24, [.slice none 0 0], false⟩
def ti96 : TI := ⟨.struct [(0, 94), (1, 95)], 2, 48, [.slice none 0 0, .slice none 0 0], true⟩
def ti97 : TI := ⟨.struct [(0, 94), (1, 95)], 2, 48, [.slice none 0 0, .slice none 0 0], true⟩
def ti99 : TI := ⟨.func, 1, 8, [.nilFunc], false⟩
def ti100 : TI := ⟨.func, 1, 8, [.nilFunc], false⟩
def ti101 : TI := ⟨.func, 1, 8, [.nilFunc], false⟩
def ti102 : TI := ⟨.func, 1, 8, [.nilFunc], false⟩
def ti103 : TI := ⟨.struct [(0, 9), (1, 58)], 2, 40, [.string ⟨⟨[]⟩⟩, .slice none 0 0], true⟩
def ti104 : TI := ⟨.struct [(0, 9), (1, 58)], 2, 40, [.string ⟨⟨[]⟩⟩, .slice none 0 0], true⟩
def ti105 : TI := ⟨.struct [(0, 9), (1, 9), (2, 9), (3, 58), (4, 3), (5, 3), (6, 3), (7, 3)], 8, 104, [.string ⟨⟨[]⟩⟩, .string ⟨⟨[]⟩⟩, .string ⟨⟨[]⟩⟩, .slice none 0 0, .int .i64 0, .int .i64 0, .int .i64 0, .int .i64 0], true⟩
def ti106 : TI := ⟨.struct [(0, 9), (1, 9), (2, 9), (3, 58), (4, 3), (5, 3), (6, 3), (7, 3)], 8, 104, [.string ⟨⟨[]⟩⟩, .string ⟨⟨[]⟩⟩, .string ⟨⟨[]⟩⟩, .slice none 0 0, .int .i64 0, .int .i64 0, .int .i64 0, .int .i64 0], true⟩
def ti108 : TI := ⟨.func, 1, 8, [.nilFunc], false⟩
def ti110 : TI := ⟨.func, 1, 8, [.nilFunc], false⟩
def ti112 : TI := ⟨.func, 1, 8, [.nilFunc], false⟩
def ti113 : TI := ⟨.func, 1, 8, [.nilFunc], false⟩
def ti114 : TI := ⟨.slice 5, 1, 24, [.slice none 0 0], false⟩
def ti115 : TI := ⟨.struct [(0, 4), (1, 9), (2, 9)], 3, 40, [.bool false, .string ⟨⟨[]⟩⟩, .string ⟨⟨[]⟩⟩], true⟩
def ti116 : TI := ⟨.struct [(0, 4), (1, 9), (2, 9)], 3, 40, [.bool false, .string ⟨⟨[]⟩⟩, .string ⟨⟨[]⟩⟩], true⟩
def ti117 : TI := ⟨.func, 1, 8, [.nilFunc], false⟩
def ti118 : TI := ⟨.func, 1, 8, [.nilFunc], false⟩
def ti119 : TI := ⟨.func, 1, 8, [.nilFunc], false⟩
def ti120 : TI := ⟨.struct [(0, 9), (1, 9), (2, 3)], 3, 40, [.string ⟨⟨[]⟩⟩, .string ⟨⟨[]⟩⟩, .int .i64 0], true⟩
def ti121 : TI := ⟨.struct [(0, 9), (1, 9), (2, 3)], 3, 40, [.string ⟨⟨[]⟩⟩, .string ⟨⟨[]⟩⟩, .int .i64 0], true⟩
def ti122 : TI := ⟨.func, 1, 8, [.nilFunc], false⟩
def ti123 : TI := ⟨.func, 1, 8, [.nilFunc], false⟩
def ti124 : TI := ⟨.struct [(0, 3), (1, 58)], 2, 32, [.int .i64 0, .slice none 0 0], true⟩
def ti125 : TI := ⟨.struct [(0, 3), (1, 58)], 2, 32, [.int .i64 0, .slice none 0 0], true⟩
def ti126 : TI := ⟨.struct [(0, 32), (1, 9)], 2, 24, [.int .i64 0, .string ⟨⟨[]⟩⟩], true⟩
def ti127 : TI := ⟨.struct [(0, 32), (1, 9)], 2, 24, [.int .i64 0, .string ⟨⟨[]⟩⟩], true⟩
def ti128 : TI := ⟨.func, 1, 8, [.nilFunc], false⟩
def ti129 : TI := ⟨.func, 1, 8, [.nilFunc], false⟩
def ti130 : TI := ⟨.slice 141, 1, 24, [.slice none 0 0], false⟩
def ti131 : TI := ⟨.func, 1, 8, [.nilFunc], false⟩
def ti132 : TI := ⟨.func, 1, 8, [.nilFunc], false⟩
def ti134 : TI := ⟨.func, 1, 8, [.nilFunc], false⟩
def ti135 : TI := ⟨.func, 1, 8, [.nilFunc], false⟩
def ti136 : TI := ⟨.func, 1, 8, [.nilFunc], false⟩
def ti137 : TI := ⟨.int .u64, 1, 8, [.int .u64 0], false⟩
def ti138 : TI := ⟨.func, 1, 8, [.nilFunc], false⟩
def ti139 : TI := ⟨.int .i64, 1, 8, [.int .i64 0], false⟩
def ti140 : TI := ⟨.struct [(0, 139), (1, 9)], 2, 24, [.int .i64 0, .string ⟨⟨[]⟩⟩], true⟩
def ti141 : TI := ⟨.struct [(0, 139), (1, 9)], 2, 24, [.int .i64 0, .string ⟨⟨[]⟩⟩], true⟩
def ti142 : TI := ⟨.func, 1, 8, [.nilFunc], false⟩
def ti143 : TI := ⟨.func, 1, 8, [.nilFunc], false⟩
def ti144 : TI := ⟨.struct [(0, 21), (1, 21)], 2, 8, [.int .i32 0, .int .i32 0], true⟩
def ti145 : TI := ⟨.struct [(0, 21), (1, 21)], 2, 8, [.int .i32 0, .int .i32 0], true⟩
def ti146 : TI := ⟨.func, 1, 8, [.nilFunc], false⟩
def ti147 : TI := ⟨.func, 1, 8, [.nilFunc], false⟩
def ti149 : TI := ⟨.func, 1, 8, [.nilFunc], false⟩
def ti150 : TI := ⟨.func, 1, 8, [.nilFunc], false⟩
def ti151 : TI := ⟨.ptr 9, 1, 8, [.pointer none], false⟩
def ti152 : TI := ⟨.slice 151, 1, 24, [.slice none 0 0], false⟩
def ti153 : TI := ⟨.func, 1, 8, [.nilFunc], false⟩
def ti154 : TI := ⟨.func, 1, 8, [.nilFunc], false⟩
def ti155 : TI := ⟨.func, 1, 8, [.nilFunc], false⟩
def ti156 : TI := ⟨.func, 1, 8, [.nilFunc], false⟩
def ti157 : TI := ⟨.func, 1, 8, [.nilFunc], false⟩
def ti158 : TI := ⟨.func, 1, 8, [.nilFunc], false⟩
def ti159 : TI := ⟨.func, 1, 8, [.nilFunc], false⟩
def ti160 : TI := ⟨.func, 1, 8, [.nilFunc], false⟩
def ti161 : TI := ⟨.func, 1, 8, [.nilFunc], false⟩
def ti162 : TI := ⟨.func, 1, 8, [.nilFunc], false⟩
def ti164 : TI := ⟨.func, 1, 8, [.nilFunc], false⟩
def ti165 : TI := ⟨.ptr 167, 1, 8, [.pointer none], false⟩
def ti166 : TI := ⟨.struct [(0, 114)], 1, 24, [.slice none 0 0], true⟩
def ti167 : TI := ⟨.struct [(0, 114)], 1, 24, [.slice none 0 0], true⟩
def ti168 : TI := ⟨.func, 1, 8, [.nilFunc], false⟩
def ti169 : TI := ⟨.func, 1, 8, [.nilFunc], false⟩
def ti170 : TI := ⟨.func, 1, 8, [.nilFunc], false⟩
def ti171 : TI := ⟨.slice 55, 1, 24, [.slice none 0 0], false⟩
def ti172 : TI := ⟨.func, 1, 8, [.nilFunc], false⟩
def ti173 : TI := ⟨.func, 1, 8, [.nilFunc], false⟩
def ti174 : TI := ⟨.struct [(0, 71), (1, 23)], 2, 16, [.int .i64 0, .nilFunc], true⟩
def ti175 : TI := ⟨.func, 1, 8, [.nilFunc], false⟩
def ti176 : TI := ⟨.func, 1, 8, [.nilFunc], false⟩
def ti178 : TI := ⟨.func, 1, 8, [.nilFunc], false⟩
def ti179 : TI := ⟨.func, 1, 8, [.nilFunc], false⟩
def ti180 : TI := ⟨.func, 1, 8, [.nilFunc], false⟩
def ti182 : TI := ⟨.func, 1, 8, [.nilFunc], false⟩
def ti186 : TI := ⟨.func, 1, 8, [.nilFunc], false⟩
def ti187 : TI := ⟨.func, 1, 8, [.nilFunc], false⟩
def ti188 : TI := ⟨.slice 174, 1, 24, [.slice none 0 0], false⟩
def ti189 : TI := ⟨.func, 1, 8, [.nilFunc], false⟩
def ti191 : TI := ⟨.func, 1, 8, [.nilFunc], false⟩
def ti192 : TI := ⟨.func, 1, 8, [.nilFunc], false⟩
def ti193 : TI := ⟨.func, 1, 8, [.nilFunc], false⟩
def ti195 : TI := ⟨.func, 1, 8, [.nilFunc], false⟩
def ti198 : TI := ⟨.func, 1, 8, [.nilFunc], false⟩
def ti200 : TI := ⟨.struct [(0, 66), (1, 3)], 2, 16, [.int .i64 0, .int .i64 0], true⟩
def ti202 : TI := ⟨.ptr 204, 1, 8, [.pointer none], false⟩
def ti204 : TI := ⟨.struct [(0, 9), (1, 3), (2, 3), (3, 26)], 9, 40, [.string ⟨⟨[]⟩⟩, .int .i64 0, .int .i64 0, .bool false, .bool false, .bool false, .bool false, .bool false, .bool false], true⟩
def ti207 : TI := ⟨.func, 1, 8, [.nilFunc], false⟩
def ti209 : TI := ⟨.slice 212, 1, 24, [.slice none 0 0], false⟩
def ti211 : TI := ⟨.struct [(0, 32), (1, 209), (2, 9)], 3, 48, [.int .i64 0, .slice none 0 0, .string ⟨⟨[]⟩⟩], true⟩
def ti212 : TI := ⟨.slice 216, 1, 24, [.slice none 0 0], false⟩
def ti214 : TI := ⟨.slice 294, 1, 24, [.slice none 0 0], false⟩
def ti216 : TI := ⟨.struct [(0, 5), (1, 3), (2, 4), (3, 214)], 4, 48, [.int .u8 0, .int .i64 0, .bool false, .slice none 0 0], true⟩
def ti218 : TI := ⟨.struct [(0, 3), (1, 4), (2, 78)], 13, 168, [.int .i64 0, .bool false, .slice none 0 0, .slice none 0 0, .slice none 0 0, .slice none 0 0, .bool false, .int .i64 0, .int .i64 0, .int .i64 0, .int .i64 0, .int .i64 0, .int .i64 0], true⟩
def ti221 : TI := ⟨.ptr 298, 1, 8, [.pointer none], false⟩
def ti223 : TI := ⟨.struct [(0, 3), (1, 3), (2, 4), (3, 221)], 4, 32, [.int .i64 0, .int .i64 0, .bool false, .pointer none], true⟩
def ti228 : TI := ⟨.array 10 4, 10, 10, [.bool false, .bool false, .bool false, .bool false, .bool false, .bool false, .bool false, .bool false, .bool false, .bool false], false⟩
def ti234 : TI := ⟨.func, 1, 8, [.nilFunc], false⟩
def ti241 : TI := ⟨.ptr 243, 1, 8, [.pointer none], false⟩
def ti243 : TI := ⟨.struct [(0, 241), (1, 114)], 2, 32, [.pointer none, .slice none 0 0], true⟩
def ti245 : TI := ⟨.iface, 1, 16, [.nilIface], false⟩
def ti253 : TI := ⟨.func, 1, 8, [.nilFunc], false⟩
def ti254 : TI := ⟨.func, 1, 8, [.nilFunc], false⟩
def ti255 : TI := ⟨.func, 1, 8, [.nilFunc], false⟩
def ti256 : TI := ⟨.array 6 97, 12, 288, [.slice none 0 0, .slice none 0 0, .slice none 0 0, .slice none 0 0, .slice none 0 0, .slice none 0 0, .slice none 0 0, .slice none 0 0, .slice none 0 0, .slice none 0 0, .slice none 0 0, .slice none 0 0], false⟩
def ti258 : TI := ⟨.struct [(0, 256), (12, 26)], 18, 296, [.slice none 0 0, .slice none 0 0, .slice none 0 0, .slice none 0 0, .slice none 0 0, .slice none 0 0, .slice none 0 0, .slice none 0 0, .slice none 0 0, .slice none 0 0, .slice none 0 0, .slice none 0 0, .bool false, .bool false, .bool false, .bool false, .bool false, .bool false], true⟩
def ti261 : TI := ⟨.ptr 323, 1, 8, [.pointer none], false⟩
def ti267 : TI := ⟨.func, 1, 8, [.nilFunc], false⟩
def ti269 : TI := ⟨.func, 1, 8, [.nilFunc], false⟩
def ti270 : TI := ⟨.ptr 62, 1, 8, [.pointer none], false⟩
def ti272 : TI := ⟨.func, 1, 8, [.nilFunc], false⟩
def ti276 : TI := ⟨.func, 1, 8, [.nilFunc], false⟩
def ti278 : TI := ⟨.func, 1, 8, [.nilFunc], false⟩
def ti280 : TI := ⟨.func, 1, 8, [.nilFunc], false⟩
def ti286 : TI := ⟨.struct [(0, 3)], 1, 8, [.int .i64 0], true⟩
def ti288 : TI := ⟨.ptr 290, 1, 8, [.pointer none], false⟩
def ti290 : TI := ⟨.struct [(0, 9), (1, 3)], 2, 24, [.string ⟨⟨[]⟩⟩, .int .i64 0], true⟩
def ti294 : TI := ⟨.struct [(0, 3), (1, 3)], 2, 16, [.int .i64 0, .int .i64 0], true⟩
def ti296 : TI := ⟨.array 6 218, 78, 1008, [.int .i64 0, .bool false, .slice none 0 0, .slice none 0 0, .slice none 0 0, .slice none 0 0, .bool false, .int .i64 0, .int .i64 0, .int .i64 0, .int .i64 0, .int .i64 0, .int .i64 0, .int .i64 0, .bool false, .slice none 0 0, .slice none 0 0, .slice none 0 0, .slice none 0 0, .bool false, .int .i64 0, .int .i64 0, .int .i64 0, .int .i64 0, .int .i64 0, .int .i64 0, .int .i64 0, .bool false, .slice none 0 0, .slice none 0 0, .slice none 0 0, .slice none 0 0, .bool false, .int .i64 0, .int .i64 0, .int .i64 0, .int .i64 0, .int .i64 0, .int .i64 0].append [.int .i64 0, .bool false, .slice none 0 0, .slice none 0 0, .slice none 0 0, .slice none 0 0, .bool false, .int .i64 0, .int .i64 0, .int .i64 0, .int .i64 0, .int .i64 0, .int .i64 0, .int .i64 0, .bool false, .slice none 0 0, .slice none 0 0, .slice none 0 0, .slice none 0 0, .bool false, .int .i64 0, .int .i64 0, .int .i64 0, .int .i64 0, .int .i64 0, .int .i64 0, .int .i64 0, .bool false, .slice none 0 0, .slice none 0 0, .slice none 0 0, .slice none 0 0, .bool false, .int .i64 0, .int .i64 0, .int .i64 0, .int .i64 0, .int .i64 0, .int .i64 0], false⟩
def ti298 : TI := ⟨.struct [(0, 296), (78, 26)], 84, 1016, [.int .i64 0, .bool false, .slice none 0 0, .slice none 0 0, .slice none 0 0, .slice none 0 0, .bool false, .int .i64 0, .int .i64 0, .int .i64 0, .int .i64 0, .int .i64 0, .int .i64 0, .int .i64 0, .bool false, .slice none 0 0, .slice none 0 0, .slice none 0 0, .slice none 0 0, .bool false, .int .i64 0, .int .i64 0, .int .i64 0, .int .i64 0, .int .i64 0, .int .i64 0, .int .i64 0, .bool false, .slice none 0 0, .slice none 0 0, .slice none 0 0, .slice none 0 0, .bool false, .int .i64 0, .int .i64 0, .int .i64 0, .int .i64 0, .int .i64 0, .int .i64 0, .int .i64 0, .bool false, .slice none 0 0].append [.slice none 0 0, .slice none 0 0, .slice none 0 0, .bool false, .int .i64 0, .int .i64 0, .int .i64 0, .int .i64 0, .int .i64 0, .int .i64 0, .int .i64 0, .bool false, .slice none 0 0, .slice none 0 0, .slice none 0 0, .slice none 0 0, .bool false, .int .i64 0, .int .i64 0, .int .i64 0, .int .i64 0, .int .i64 0, .int .i64 0, .int .i64 0, .bool false, .slice none 0 0, .slice none 0 0, .slice none 0 0, .slice none 0 0, .bool false, .int .i64 0, .int .i64 0, .int .i64 0, .int .i64 0, .int .i64 0, .int .i64 0, .bool false, .bool false, .bool false, .bool false, .bool false, .bool false], true⟩
def ti299 : TI := ⟨.ptr 301, 1, 8, [.pointer none], false⟩
def ti301 : TI := ⟨.struct [(0, 9), (1, 3), (2, 3)], 3, 32, [.string ⟨⟨[]⟩⟩, .int .i64 0, .int .i64 0], true⟩
def ti308 : TI := ⟨.ptr 5, 1, 8, [.pointer none], false⟩
def ti310 : TI := ⟨.int .i64, 1, 8, [.int .i64 0], false⟩
def ti317 : TI := ⟨.int .u32, 1, 4, [.int .u32 0], false⟩
def ti319 : TI := ⟨.int .u64, 1, 8, [.int .u64 0], false⟩
def ti323 : TI := ⟨.struct [(0, 9), (1, 3), (2, 4)], 3, 32, [.string ⟨⟨[]⟩⟩, .int .i64 0, .bool false], true⟩
def ti325 : TI := ⟨.func, 1, 8, [.nilFunc], false⟩
def ti327 : TI := ⟨.func, 1, 8, [.nilFunc], false⟩
def ti329 : TI := ⟨.slice 76, 1, 24, [.slice none 0 0], false⟩
def ti331 : TI := ⟨.int .i64, 1, 8, [.int .i64 0], false⟩
def ti338 : TI := ⟨.ptr 78, 1, 8, [.pointer none], false⟩
def ti344 : TI := ⟨.struct [(0, 5), (1, 5)], 2, 2, [.int .u8 0, .int .u8 0], true⟩
def ti345 : TI := ⟨.array 16 344, 32, 32, [.int .u8 0, .int .u8 0, .int .u8 0, .int .u8 0, .int .u8 0, .int .u8 0, .int .u8 0, .int .u8 0, .int .u8 0, .int .u8 0, .int .u8 0, .int .u8 0, .int .u8 0, .int .u8 0, .int .u8 0, .int .u8 0, .int .u8 0, .int .u8 0, .int .u8 0, .int .u8 0, .int .u8 0, .int .u8 0, .int .u8 0, .int .u8 0, .int .u8 0, .int .u8 0, .int .u8 0, .int .u8 0, .int .u8 0, .int .u8 0, .int .u8 0, .int .u8 0], false⟩
def ti356 : TI := ⟨.ptr 352, 1, 8, [.pointer none], false⟩
def ti357 : TI := ⟨.uptr, 1, 8, [.pointer none], false⟩
def ti359 : TI := ⟨.int .u64, 1, 8, [.int .u64 0], false⟩
def ti363 : TI := ⟨.ptr 3, 1, 8, [.pointer none], false⟩
def ti366 : TI := ⟨.struct [(0, 331), (1, 9), (2, 3)], 3, 32, [.int .i64 0, .string ⟨⟨[]⟩⟩, .int .i64 0], true⟩
def ti367 : TI := ⟨.slice 74, 1, 24, [.slice none 0 0], false⟩
def ti385 : TI := ⟨.ptr 359, 1, 8, [.pointer none], false⟩
def ti389 : TI := ⟨.array 5 9, 5, 80, [.string ⟨⟨[]⟩⟩, .string ⟨⟨[]⟩⟩, .string ⟨⟨[]⟩⟩, .string ⟨⟨[]⟩⟩, .string ⟨⟨[]⟩⟩], false⟩
def ti399 : TI := ⟨.int .i64, 1, 8, [.int .i64 0], false⟩
def ti414 : TI := ⟨.array 24 5, 24, 24, [.int .u8 0, .int .u8 0, .int .u8 0, .int .u8 0, .int .u8 0, .int .u8 0, .int .u8 0, .int .u8 0, .int .u8 0, .int .u8 0, .int .u8 0, .int .u8 0, .int .u8 0, .int .u8 0, .int .u8 0, .int .u8 0, .int .u8 0, .int .u8 0, .int .u8 0, .int .u8 0, .int .u8 0, .int .u8 0, .int .u8 0, .int .u8 0], false⟩
def ti420 : TI := ⟨.array 65 5, 65, 65, [.int .u8 0, .int .u8 0, .int .u8 0, .int .u8 0, .int .u8 0, .int .u8 0, .int .u8 0, .int .u8 0, .int .u8 0, .int .u8 0, .int .u8 0, .int .u8 0, .int .u8 0, .int .u8 0, .int .u8 0, .int .u8 0, .int .u8 0, .int .u8 0, .int .u8 0, .int .u8 0, .int .u8 0, .int .u8 0, .int .u8 0, .int .u8 0, .int .u8 0, .int .u8 0, .int .u8 0, .int .u8 0, .int .u8 0, .int .u8 0, .int .u8 0, .int .u8 0].append [.int .u8 0, .int .u8 0, .int .u8 0, .int .u8 0, .int .u8 0, .int .u8 0, .int .u8 0, .int .u8 0, .int .u8 0, .int .u8 0, .int .u8 0, .int .u8 0, .int .u8 0, .int .u8 0, .int .u8 0, .int .u8 0, .int .u8 0, .int .u8 0, .int .u8 0, .int .u8 0, .int .u8 0, .int .u8 0, .int .u8 0, .int .u8 0, .int .u8 0, .int .u8 0, .int .u8 0, .int .u8 0, .int .u8 0, .int .u8 0, .int .u8 0, .int .u8 0, .int .u8 0], false⟩
def ti423 : TI := ⟨.array 64 5, 64, 64, [.int .u8 0, .int .u8 0, .int .u8 0, .int .u8 0, .int .u8 0, .int .u8 0, .int .u8 0, .int .u8 0, .int .u8 0, .int .u8 0, .int .u8 0, .int .u8 0, .int .u8 0, .int .u8 0, .int .u8 0, .int .u8 0, .int .u8 0, .int .u8 0, .int .u8 0, .int .u8 0, .int .u8 0, .int .u8 0, .int .u8 0, .int .u8 0, .int .u8 0, .int .u8 0, .int .u8 0, .int .u8 0, .int .u8 0, .int .u8 0, .int .u8 0, .int .u8 0, .int .u8 0, .int .u8 0, .int .u8 0, .int .u8 0, .int .u8 0, .int .u8 0, .int .u8 0, .int .u8 0, .int .u8 0, .int .u8 0, .int .u8 0, .int .u8 0, .int .u8 0, .int .u8 0, .int .u8 0, .int .u8 0, .int .u8 0, .int .u8 0, .int .u8 0, .int .u8 0, .int .u8 0, .int .u8 0, .int .u8 0, .int .u8 0, .int .u8 0, .int .u8 0, .int .u8 0, .int .u8 0, .int .u8 0, .int .u8 0, .int .u8 0, .int .u8 0], false⟩
def ti425 : TI := ⟨.struct [(0, 17), (1, 17), (2, 17), (3, 9)], 4, 40, [.pointer none, .pointer none, .pointer none, .string ⟨⟨[]⟩⟩], false⟩
def ti426 : TI := ⟨.array 0 16, 0, 0, [], false⟩
def ti428 : TI := ⟨.struct [(0, 426)], 0, 0, [], false⟩
def ti429 : TI := ⟨.int .u8, 1, 1, [.int .u8 0], false⟩
def ti430 : TI := ⟨.int .u8, 1, 1, [.int .u8 0], false⟩
def ti431 : TI := ⟨.func, 1, 8, [.nilFunc], false⟩
def ti432 : TI := ⟨.int .i32, 1, 4, [.int .i32 0], false⟩
def ti433 : TI := ⟨.int .i32, 1, 4, [.int .i32 0], false⟩
def ti435 : TI := ⟨.struct [(0, 12), (1, 12), (2, 317), (3, 429), (4, 5), (5, 5), (6, 430), (7, 431), (8, 308), (9, 432), (10, 433)], 11, 48, [.int .u64 0, .int .u64 0, .int .u32 0, .int .u8 0, .int .u8 0, .int .u8 0, .int .u8 0, .nilFunc, .pointer none, .int .i32 0, .int .i32 0], false⟩
def TY : TT := [(1, ti1), (2, ti2), (3, ti3), (4, ti4), (5, ti5), (6, ti6), (7, ti7), (8, ti8), (9, ti9), (10, ti10), (11, ti11), (12, ti12), (13, ti13), (14, ti14), (15, ti15), (16, ti16), (17, ti17), (18, ti18), (19, ti19), (20, ti20), (21, ti21), (22, ti22), (23, ti23), (24, ti24), (25, ti25), (26, ti26), (27, ti27), (28, ti28), (29, ti29), (30, ti30), (31, ti31), (32, ti32), (33, ti33), (34, ti34), (35, ti35), (36, ti36), (37, ti37), (38, ti38), (39, ti39), (40, ti40), (41, ti41), (42, ti42), (43, ti43), (44, ti44), (45, ti45), (46, ti46), (47, ti47), (48, ti48), (49, ti49), (50, ti50), (51, ti51), (52, ti52), (53, ti53), (54, ti54), (55, ti55), (56, ti56), (57, ti57), (58, ti58), (59, ti59), (60, ti60), (61, ti61), (62, ti62), (63, ti63), (64, ti64), (65, ti65), (66, ti66), (68, ti68), (69, ti69), (70, ti70), (71, ti71), (72, ti72), (73, ti73), (74, ti74), (75, ti75), (76, ti76), (77, ti77), (78, ti78), (79, ti79), (80, ti80), (81, ti81), (82, ti82), (83, ti83), (84, ti84), (85, ti85), (86, ti86), (88, ti88), (89, ti89), (90, ti90), (91, ti91), (92, ti92), (93, ti93), (94, ti94), (95, ti95), (96, ti96), (97, ti97), (99, ti99), (100, ti100), (101, ti101), (102, ti102), (103, ti103), (104, ti104), (105, ti105), (106, ti106), (108, ti108), (110, ti110), (112, ti112), (113, ti113), (114, ti114), (115, ti115), (116, ti116), (117, ti117), (118, ti118), (119, ti119), (120, ti120), (121, ti121), (122, ti122), (123, ti123), (124, ti124), (125, ti125), (126, ti126), (127, ti127), (128, ti128), (129, ti129), (130, ti130), (131, ti131), (132, ti132), (134, ti134), (135, ti135), (136, ti136), (137, ti137), (138, ti138), (139, ti139), (140, ti140), (141, ti141), (142, ti142), (143, ti143), (144, ti144), (145, ti145), (146, ti146), (147, ti147), (149, ti149), (150, ti150), (151, ti151), (152, ti152), (153, ti153), (154, ti154), (155, ti155), (156, ti156), (157, ti157), (158, ti158), (159, ti159), (160, ti160), (161, ti161), (162, ti162), (164, ti164), (165, ti165), (166, ti166), (167, ti167), (168, ti168), (169, ti169), (170, ti170), (171, ti171), (172, ti172), (173, ti173), (174, ti174), (175, ti175), (176, ti176), (178, ti178), (179, ti179), (180, ti180), (182, ti182), (186, ti186), (187, ti187), (188, ti188), (189, ti189), (191, ti191), (192, ti192), (193, ti193), (195, ti195), (198, ti198), (200, ti200), (202, ti202), (204, ti204), (207, ti207), (209, ti209), (211, ti211), (212, ti212), (214, ti214), (216, ti216), (218, ti218), (221, ti221), (223, ti223), (228, ti228), (234, ti234), (241, ti241), (243, ti243), (245, ti245), (253, ti253), (254, ti254), (255, ti255), (256, ti256), (258, ti258), (261, ti261), (267, ti267), (269, ti269), (270, ti270), (272, ti272), (276, ti276), (278, ti278), (280, ti280), (286, ti286), (288, ti288), (290, ti290), (294, ti294), (296, ti296), (298, ti298), (299, ti299), (301, ti301), (308, ti308), (310, ti310), (317, ti317), (319, ti319), (323, ti323), (325, ti325), (327, ti327), (329, ti329), (331, ti331), (338, ti338), (344, ti344), (345, ti345), (356, ti356), (357, ti357), (359, ti359), (363, ti363), (366, ti366), (367, ti367), (385, ti385), (389, ti389), (399, ti399), (414, ti414), (420, ti420), (423, ti423), (425, ti425), (426, ti426), (428, ti428), (429, ti429), (430, ti430), (431, ti431), (432, ti432), (433, ti433), (435, ti435)]
theorem fit1 : TFits Tryz.prog 1 ti1 := ⟨⟨Tryz.t1, by kernel_rfl, rfl, rfl, _, rfl, rfl⟩, ⟨_, Tryz.underlying1, rfl⟩, fun _ => ⟨Tryz.t1, _, by kernel_rfl, rfl, rfl⟩, fun h => Bool.noConfusion h, fun h => Bool.noConfusion h⟩
theorem fit2 : TFits Tryz.prog 2 ti2 := ⟨⟨Tryz.t2, by kernel_rfl, rfl, rfl, _, rfl, rfl⟩, ⟨_, Tryz.underlying2, rfl⟩, fun _ => ⟨Tryz.t2, _, by kernel_rfl, rfl, rfl⟩, fun h => Bool.noConfusion h, fun h => Bool.noConfusion h⟩
theorem fit3 : TFits Tryz.prog 3 ti3 := ⟨⟨Tryz.t3, by kernel_rfl, rfl, rfl, _, rfl, rfl⟩, ⟨_, Tryz.underlying3, rfl⟩, fun _ => ⟨Tryz.t3, _, by kernel_rfl, rfl, rfl⟩, fun h => Bool.noConfusion h, fun h => Bool.noConfusion h⟩
theorem fit4 : TFits Tryz.prog 4 ti4 := ⟨⟨Tryz.t4, by kernel_rfl, rfl, rfl, _, rfl, rfl⟩, ⟨_, Tryz.underlying4, rfl⟩, fun _ => ⟨Tryz.t4, _, by kernel_rfl, rfl, rfl⟩, fun h => Bool.noConfusion h, fun h => Bool.noConfusion h⟩
theorem fit5 : TFits Tryz.prog 5 ti5 := ⟨⟨Tryz.t5, by kernel_rfl, rfl, rfl, _, rfl, rfl⟩, ⟨_, Tryz.underlying5, rfl⟩, fun _ => ⟨Tryz.t5, _, by kernel_rfl, rfl, rfl⟩, fun h => Bool.noConfusion h, fun h => Bool.noConfusion h⟩
theorem fit6 : TFits Tryz.prog 6 ti6 := ⟨⟨Tryz.t6, by kernel_rfl, rfl, rfl, _, rfl, rfl⟩, ⟨_, Tryz.underlying6, rfl⟩, fun _ => ⟨Tryz.t6, _, by kernel_rfl, rfl, rfl⟩, fun h => Bool.noConfusion h, fun h => Bool.noConfusion h⟩
theorem fit7 : TFits Tryz.prog 7 ti7 := ⟨⟨Tryz.t7, by kernel_rfl, rfl, rfl, _, rfl, rfl⟩, ⟨_, Tryz.underlying7, rfl⟩, fun h => Bool.noConfusion h, fun _ => ⟨Tryz.t7, _, by kernel_rfl, rfl, rfl⟩, fun _ => ⟨by kernel_rfl, by kernel_rfl, _, Tryz.underlying7, by kernel_rfl⟩⟩
theorem fit8 : TFits Tryz.prog 8 ti8 := ⟨⟨Tryz.t8, by kernel_rfl, rfl, rfl, _, rfl, rfl⟩, ⟨_, Tryz.underlying8, rfl⟩, fun h => Bool.noConfusion h, fun _ => ⟨Tryz.t8, _, by kernel_rfl, rfl, rfl⟩, fun _ => ⟨by kernel_rfl, by kernel_rfl, _, Tryz.underlying8, by kernel_rfl⟩⟩
theorem fit9 : TFits Tryz.prog 9 ti9 := ⟨⟨Tryz.t9, by kernel_rfl, rfl, rfl, _, rfl, rfl⟩, ⟨_, Tryz.underlying9, rfl⟩, fun _ => ⟨Tryz.t9, _, by kernel_rfl, rfl, rfl⟩, fun h => Bool.noConfusion h, fun h => Bool.noConfusion h⟩
theorem fit10 : TFits Tryz.prog 10 ti10 := ⟨⟨Tryz.t10, by kernel_rfl, rfl, rfl, _, rfl, rfl⟩, ⟨_, Tryz.underlying10, rfl⟩, fun _ => ⟨Tryz.t10, _, by kernel_rfl, rfl, rfl⟩, fun h => Bool.noConfusion h, fun h => Bool.noConfusion h⟩
theorem fit11 : TFits Tryz.prog 11 ti11 := ⟨⟨Tryz.t11, by kernel_rfl, rfl, rfl, _, rfl, rfl⟩, ⟨_, Tryz.underlying11, rfl⟩, fun _ => ⟨Tryz.t11, _, by kernel_rfl, rfl, rfl⟩, fun h => Bool.noConfusion h, fun h => Bool.noConfusion h⟩
theorem fit12 : TFits Tryz.prog 12 ti12 := ⟨⟨Tryz.t12, by kernel_rfl, rfl, rfl, _, rfl, rfl⟩, ⟨_, Tryz.underlying12, rfl⟩, fun _ => ⟨Tryz.t12, _, by kernel_rfl, rfl, rfl⟩, fun h => Bool.noConfusion h, fun h => Bool.noConfusion h⟩
theorem fit13 : TFits Tryz.prog 13 ti13 := ⟨⟨Tryz.t13, by kernel_rfl, rfl, rfl, _, rfl, rfl⟩, ⟨_, Tryz.underlying13, rfl⟩, fun h => Bool.noConfusion h, fun _ => ⟨Tryz.t13, _, by kernel_rfl, rfl, rfl⟩, fun h => Bool.noConfusion h⟩
theorem fit14 : TFits Tryz.prog 14 ti14 := ⟨⟨Tryz.t14, by kernel_rfl, rfl, rfl, _, rfl, rfl⟩, ⟨_, Tryz.underlying14, rfl⟩, fun h => Bool.noConfusion h, fun _ => ⟨Tryz.t14, _, by kernel_rfl, rfl, rfl⟩, fun h => Bool.noConfusion h⟩
theorem fit15 : TFits Tryz.prog 15 ti15 := ⟨⟨Tryz.t15, by kernel_rfl, rfl, rfl, _, rfl, rfl⟩, ⟨_, Tryz.underlying15, rfl⟩, fun _ => ⟨Tryz.t15, _, by kernel_rfl, rfl, rfl⟩, fun h => Bool.noConfusion h, fun h => Bool.noConfusion h⟩
theorem fit16 : TFits Tryz.prog 16 ti16 := ⟨⟨Tryz.t16, by kernel_rfl, rfl, rfl, _, rfl, rfl⟩, ⟨_, Tryz.underlying16, rfl⟩, fun _ => ⟨Tryz.t16, _, by kernel_rfl, rfl, rfl⟩, fun h => Bool.noConfusion h, fun h => Bool.noConfusion h⟩
theorem fit17 : TFits Tryz.prog 17 ti17 := ⟨⟨Tryz.t17, by kernel_rfl, rfl, rfl, _, rfl, rfl⟩, ⟨_, Tryz.underlying17, rfl⟩, fun _ => ⟨Tryz.t17, _, by kernel_rfl, rfl, rfl⟩, fun h => Bool.noConfusion h, fun h => Bool.noConfusion h⟩
theorem fit18 : TFits Tryz.prog 18 ti18 := ⟨⟨Tryz.t18, by kernel_rfl, rfl, rfl, _, rfl, rfl⟩, ⟨_, Tryz.underlying18, rfl⟩, fun h => Bool.noConfusion h, fun _ => ⟨Tryz.t18, _, by kernel_rfl, rfl, rfl⟩, fun h => Bool.noConfusion h⟩
theorem fit19 : TFits Tryz.prog 19 ti19 := ⟨⟨Tryz.t19, by kernel_rfl, rfl, rfl, _, rfl, rfl⟩, ⟨_, Tryz.underlying19, rfl⟩, fun h => Bool.noConfusion h, fun _ => ⟨Tryz.t19, _, by kernel_rfl, rfl, rfl⟩, fun h => Bool.noConfusion h⟩
theorem fit20 : TFits Tryz.prog 20 ti20 := ⟨⟨Tryz.t20, by kernel_rfl, rfl, rfl, _, rfl, rfl⟩, ⟨_, Tryz.underlying20, rfl⟩, fun _ => ⟨Tryz.t20, _, by kernel_rfl, rfl, rfl⟩, fun h => Bool.noConfusion h, fun h => Bool.noConfusion h⟩
theorem fit21 : TFits Tryz.prog 21 ti21 := ⟨⟨Tryz.t21, by kernel_rfl, rfl, rfl, _, rfl, rfl⟩, ⟨_, Tryz.underlying21, rfl⟩, fun _ => ⟨Tryz.t21, _, by kernel_rfl, rfl, rfl⟩, fun h => Bool.noConfusion h, fun h => Bool.noConfusion h⟩
theorem fit22 : TFits Tryz.prog 22 ti22 := ⟨⟨Tryz.t22, by kernel_rfl, rfl, rfl, _, rfl, rfl⟩, ⟨_, Tryz.underlying22, rfl⟩, fun _ => ⟨Tryz.t22, _, by kernel_rfl, rfl, rfl⟩, fun h => Bool.noConfusion h, fun h => Bool.noConfusion h⟩
theorem fit23 : TFits Tryz.prog 23 ti23 := ⟨⟨Tryz.t23, by kernel_rfl, rfl, rfl, _, rfl, rfl⟩, ⟨_, Tryz.underlying23, rfl⟩, fun _ => ⟨Tryz.t23, _, by kernel_rfl, rfl, rfl⟩, fun h => Bool.noConfusion h, fun h => Bool.noConfusion h⟩
theorem fit24 : TFits Tryz.prog 24 ti24 := ⟨⟨Tryz.t24, by kernel_rfl, rfl, rfl, _, rfl, rfl⟩, ⟨_, Tryz.underlying24, rfl⟩, fun _ => ⟨Tryz.t24, _, by kernel_rfl, rfl, rfl⟩, fun h => Bool.noConfusion h, fun h => Bool.noConfusion h⟩
theorem fit25 : TFits Tryz.prog 25 ti25 := ⟨⟨Tryz.t25, by kernel_rfl, rfl, rfl, _, rfl, rfl⟩, ⟨_, Tryz.underlying25, rfl⟩, fun h => Bool.noConfusion h, fun _ => ⟨Tryz.t25, _, by kernel_rfl, rfl, rfl⟩, fun h => Bool.noConfusion h⟩
theorem fit26 : TFits Tryz.prog 26 ti26 := ⟨⟨Tryz.t26, by kernel_rfl, rfl, rfl, _, rfl, rfl⟩, ⟨_, Tryz.underlying26, rfl⟩, fun h => Bool.noConfusion h, fun _ => ⟨Tryz.t26, _, by kernel_rfl, rfl, rfl⟩, fun h => Bool.noConfusion h⟩
theorem fit27 : TFits Tryz.prog 27 ti27 := ⟨⟨Tryz.t27, by kernel_rfl, rfl, rfl, _, rfl, rfl⟩, ⟨_, Tryz.underlying27, rfl⟩, fun h => Bool.noConfusion h, fun _ => ⟨Tryz.t27, _, by kernel_rfl, rfl, rfl⟩, fun _ => ⟨by kernel_rfl, by kernel_rfl, _, Tryz.underlying27, by kernel_rfl⟩⟩
theorem fit28 : TFits Tryz.prog 28 ti28 := ⟨⟨Tryz.t28, by kernel_rfl, rfl, rfl, _, rfl, rfl⟩, ⟨_, Tryz.underlying28, rfl⟩, fun h => Bool.noConfusion h, fun _ => ⟨Tryz.t28, _, by kernel_rfl, rfl, rfl⟩, fun _ => ⟨by kernel_rfl, by kernel_rfl, _, Tryz.underlying28, by kernel_rfl⟩⟩
theorem fit29 : TFits Tryz.prog 29 ti29 := ⟨⟨Tryz.t29, by kernel_rfl, rfl, rfl, _, rfl, rfl⟩, ⟨_, Tryz.underlying29, rfl⟩, fun h => Bool.noConfusion h, fun _ => ⟨Tryz.t29, _, by kernel_rfl, rfl, rfl⟩, fun _ => ⟨by kernel_rfl, by kernel_rfl, _, Tryz.underlying29, by kernel_rfl⟩⟩
theorem fit30 : TFits Tryz.prog 30 ti30 := ⟨⟨Tryz.t30, by kernel_rfl, rfl, rfl, _, rfl, rfl⟩, ⟨_, Tryz.underlying30, rfl⟩, fun h => Bool.noConfusion h, fun _ => ⟨Tryz.t30, _, by kernel_rfl, rfl, rfl⟩, fun _ => ⟨by kernel_rfl, by kernel_rfl, _, Tryz.underlying30, by kernel_rfl⟩⟩
theorem fit31 : TFits Tryz.prog 31 ti31 := ⟨⟨Tryz.t31, by kernel_rfl, rfl, rfl, _, rfl, rfl⟩, ⟨_, Tryz.underlying31, rfl⟩, fun _ => ⟨Tryz.t31, _, by kernel_rfl, rfl, rfl⟩, fun h => Bool.noConfusion h, fun h => Bool.noConfusion h⟩
theorem fit32 : TFits Tryz.prog 32 ti32 := ⟨⟨Tryz.t32, by kernel_rfl, rfl, rfl, _, rfl, rfl⟩, ⟨_, Tryz.underlying32, rfl⟩, fun _ => ⟨Tryz.t32, _, by kernel_rfl, rfl, rfl⟩, fun h => Bool.noConfusion h, fun h => Bool.noConfusion h⟩
theorem fit33 : TFits Tryz.prog 33 ti33 := ⟨⟨Tryz.t33, by kernel_rfl, rfl, rfl, _, rfl, rfl⟩, ⟨_, Tryz.underlying33, rfl⟩, fun _ => ⟨Tryz.t33, _, by kernel_rfl, rfl, rfl⟩, fun h => Bool.noConfusion h, fun h => Bool.noConfusion h⟩
theorem fit34 : TFits Tryz.prog 34 ti34 := ⟨⟨Tryz.t34, by kernel_rfl, rfl, rfl, _, rfl, rfl⟩, ⟨_, Tryz.underlying34, rfl⟩, fun _ => ⟨Tryz.t34, _, by kernel_rfl, rfl, rfl⟩, fun h => Bool.noConfusion h, fun h => Bool.noConfusion h⟩
theorem fit35 : TFits Tryz.prog 35 ti35 := ⟨⟨Tryz.t35, by kernel_rfl, rfl, rfl, _, rfl, rfl⟩, ⟨_, Tryz.underlying35, rfl⟩, fun _ => ⟨Tryz.t35, _, by kernel_rfl, rfl, rfl⟩, fun h => Bool.noConfusion h, fun h => Bool.noConfusion h⟩
theorem fit36 : TFits Tryz.prog 36 ti36 := ⟨⟨Tryz.t36, by kernel_rfl, rfl, rfl, _, rfl, rfl⟩, ⟨_, Tryz.underlying36, rfl⟩, fun h => Bool.noConfusion h, fun _ => ⟨Tryz.t36, _, by kernel_rfl, rfl, rfl⟩, fun h => Bool.noConfusion h⟩
theorem fit37 : TFits Tryz.prog 37 ti37 := ⟨⟨Tryz.t37, by kernel_rfl, rfl, rfl, _, rfl, rfl⟩, ⟨_, Tryz.underlying37, rfl⟩, fun h => Bool.noConfusion h, fun _ => ⟨Tryz.t37, _, by kernel_rfl, rfl, rfl⟩, fun _ => ⟨by kernel_rfl, by kernel_rfl, _, Tryz.underlying37, by kernel_rfl⟩⟩
theorem fit38 : TFits Tryz.prog 38 ti38 := ⟨⟨Tryz.t38, by kernel_rfl, rfl, rfl, _, rfl, rfl⟩, ⟨_, Tryz.underlying38, rfl⟩, fun h => Bool.noConfusion h, fun _ => ⟨Tryz.t38, _, by kernel_rfl, rfl, rfl⟩, fun _ => ⟨by kernel_rfl, by kernel_rfl, _, Tryz.underlying38, by kernel_rfl⟩⟩
theorem fit39 : TFits Tryz.prog 39 ti39 := ⟨⟨Tryz.t39, by kernel_rfl, rfl, rfl, _, rfl, rfl⟩, ⟨_, Tryz.underlying39, rfl⟩, fun _ => ⟨Tryz.t39, _, by kernel_rfl, rfl, rfl⟩, fun h => Bool.noConfusion h, fun h => Bool.noConfusion h⟩
theorem fit40 : TFits Tryz.prog 40 ti40 := ⟨⟨Tryz.t40, by kernel_rfl, rfl, rfl, _, rfl, rfl⟩, ⟨_, Tryz.underlying40, rfl⟩, fun _ => ⟨Tryz.t40, _, by kernel_rfl, rfl, rfl⟩, fun h => Bool.noConfusion h, fun h => Bool.noConfusion h⟩
theorem fit41 : TFits Tryz.prog 41 ti41 := ⟨⟨Tryz.t41, by kernel_rfl, rfl, rfl, _, rfl, rfl⟩, ⟨_, Tryz.underlying41, rfl⟩, fun _ => ⟨Tryz.t41, _, by kernel_rfl, rfl, rfl⟩, fun h => Bool.noConfusion h, fun h => Bool.noConfusion h⟩
theorem fit42 : TFits Tryz.prog 42 ti42 := ⟨⟨Tryz.t42, by kernel_rfl, rfl, rfl, _, rfl, rfl⟩, ⟨_, Tryz.underlying42, rfl⟩, fun _ => ⟨Tryz.t42, _, by kernel_rfl, rfl, rfl⟩, fun h => Bool.noConfusion h, fun h => Bool.noConfusion h⟩
theorem fit43 : TFits Tryz.prog 43 ti43 := ⟨⟨Tryz.t43, by kernel_rfl, rfl, rfl, _, rfl, rfl⟩, ⟨_, Tryz.underlying43, rfl⟩, fun _ => ⟨Tryz.t43, _, by kernel_rfl, rfl, rfl⟩, fun h => Bool.noConfusion h, fun h => Bool.noConfusion h⟩
theorem fit44 : TFits Tryz.prog 44 ti44 := ⟨⟨Tryz.t44, by kernel_rfl, rfl, rfl, _, rfl, rfl⟩, ⟨_, Tryz.underlying44, rfl⟩, fun _ => ⟨Tryz.t44, _, by kernel_rfl, rfl, rfl⟩, fun h => Bool.noConfusion h, fun h => Bool.noConfusion h⟩
theorem fit45 : TFits Tryz.prog 45 ti45 := ⟨⟨Tryz.t45, by kernel_rfl, rfl, rfl, _, rfl, rfl⟩, ⟨_, Tryz.underlying45, rfl⟩, fun h => Bool.noConfusion h, fun _ => ⟨Tryz.t45, _, by kernel_rfl, rfl, rfl⟩, fun _ => ⟨by kernel_rfl, by kernel_rfl, _, Tryz.underlying45, by kernel_rfl⟩⟩
theorem fit46 : TFits Tryz.prog 46 ti46 := ⟨⟨Tryz.t46, by kernel_rfl, rfl, rfl, _, rfl, rfl⟩, ⟨_, Tryz.underlying46, rfl⟩, fun h => Bool.noConfusion h, fun _ => ⟨Tryz.t46, _, by kernel_rfl, rfl, rfl⟩, fun _ => ⟨by kernel_rfl, by kernel_rfl, _, Tryz.underlying46, by kernel_rfl⟩⟩
theorem fit47 : TFits Tryz.prog 47 ti47 := ⟨⟨Tryz.t47, by kernel_rfl, rfl, rfl, _, rfl, rfl⟩, ⟨_, Tryz.underlying47, rfl⟩, fun _ => ⟨Tryz.t47, _, by kernel_rfl, rfl, rfl⟩, fun h => Bool.noConfusion h, fun h => Bool.noConfusion h⟩
theorem fit48 : TFits Tryz.prog 48 ti48 := ⟨⟨Tryz.t48, by kernel_rfl, rfl, rfl, _, rfl, rfl⟩, ⟨_, Tryz.underlying48, rfl⟩, fun _ => ⟨Tryz.t48, _, by kernel_rfl, rfl, rfl⟩, fun h => Bool.noConfusion h, fun h => Bool.noConfusion h⟩
theorem fit49 : TFits Tryz.prog 49 ti49 := ⟨⟨Tryz.t49, by kernel_rfl, rfl, rfl, _, rfl, rfl⟩, ⟨_, Tryz.underlying49, rfl⟩, fun _ => ⟨Tryz.t49, _, by kernel_rfl, rfl, rfl⟩, fun h => Bool.noConfusion h, fun h => Bool.noConfusion h⟩
theorem fit50 : TFits Tryz.prog 50 ti50 := ⟨⟨Tryz.t50, by kernel_rfl, rfl, rfl, _, rfl, rfl⟩, ⟨_, Tryz.underlying50, rfl⟩, fun _ => ⟨Tryz.t50, _, by kernel_rfl, rfl, rfl⟩, fun h => Bool.noConfusion h, fun h => Bool.noConfusion h⟩
theorem fit51 : TFits Tryz.prog 51 ti51 := ⟨⟨Tryz.t51, by kernel_rfl, rfl, rfl, _, rfl, rfl⟩, ⟨_, Tryz.underlying51, rfl⟩, fun h => Bool.noConfusion h, fun _ => ⟨Tryz.t51, _, by kernel_rfl, rfl, rfl⟩, fun _ => ⟨by kernel_rfl, by kernel_rfl, _, Tryz.underlying51, by kernel_rfl⟩⟩
theorem fit52 : TFits Tryz.prog 52 ti52 := ⟨⟨Tryz.t52, by kernel_rfl, rfl, rfl, _, rfl, rfl⟩, ⟨_, Tryz.underlying52, rfl⟩, fun h => Bool.noConfusion h, fun _ => ⟨Tryz.t52, _, by kernel_rfl, rfl, rfl⟩, fun _ => ⟨by kernel_rfl, by kernel_rfl, _, Tryz.underlying52, by kernel_rfl⟩⟩
theorem fit53 : TFits Tryz.prog 53 ti53 := ⟨⟨Tryz.t53, by kernel_rfl, rfl, rfl, _, rfl, rfl⟩, ⟨_, Tryz.underlying53, rfl⟩, fun h => Bool.noConfusion h, fun _ => ⟨Tryz.t53, _, by kernel_rfl, rfl, rfl⟩, fun h => Bool.noConfusion h⟩
theorem fit54 : TFits Tryz.prog 54 ti54 := ⟨⟨Tryz.t54, by kernel_rfl, rfl, rfl, _, rfl, rfl⟩, ⟨_, Tryz.underlying54, rfl⟩, fun h => Bool.noConfusion h, fun _ => ⟨Tryz.t54, _, by kernel_rfl, rfl, rfl⟩, fun h => Bool.noConfusion h⟩
theorem fit55 : TFits Tryz.prog 55 ti55 := ⟨⟨Tryz.t55, by kernel_rfl, rfl, rfl, _, rfl, rfl⟩, ⟨_, Tryz.underlying55, rfl⟩, fun _ => ⟨Tryz.t55, _, by kernel_rfl, rfl, rfl⟩, fun h => Bool.noConfusion h, fun h => Bool.noConfusion h⟩
theorem fit56 : TFits Tryz.prog 56 ti56 := ⟨⟨Tryz.t56, by kernel_rfl, rfl, rfl, _, rfl, rfl⟩, ⟨_, Tryz.underlying56, rfl⟩, fun _ => ⟨Tryz.t56, _, by kernel_rfl, rfl, rfl⟩, fun h => Bool.noConfusion h, fun h => Bool.noConfusion h⟩
theorem fit57 : TFits Tryz.prog 57 ti57 := ⟨⟨Tryz.t57, by kernel_rfl, rfl, rfl, _, rfl, rfl⟩, ⟨_, Tryz.underlying57, rfl⟩, fun _ => ⟨Tryz.t57, _, by kernel_rfl, rfl, rfl⟩, fun h => Bool.noConfusion h, fun h => Bool.noConfusion h⟩
theorem fit58 : TFits Tryz.prog 58 ti58 := ⟨⟨Tryz.t58, by kernel_rfl, rfl, rfl, _, rfl, rfl⟩, ⟨_, Tryz.underlying58, rfl⟩, fun _ => ⟨Tryz.t58, _, by kernel_rfl, rfl, rfl⟩, fun h => Bool.noConfusion h, fun h => Bool.noConfusion h⟩
theorem fit59 : TFits Tryz.prog 59 ti59 := ⟨⟨Tryz.t59, by kernel_rfl, rfl, rfl, _, rfl, rfl⟩, ⟨_, Tryz.underlying59, rfl⟩, fun h => Bool.noConfusion h, fun _ => ⟨Tryz.t59, _, by kernel_rfl, rfl, rfl⟩, fun _ => ⟨by kernel_rfl, by kernel_rfl, _, Tryz.underlying59, by kernel_rfl⟩⟩
theorem fit60 : TFits Tryz.prog 60 ti60 := ⟨⟨Tryz.t60, by kernel_rfl, rfl, rfl, _, rfl, rfl⟩, ⟨_, Tryz.underlying60, rfl⟩, fun h => Bool.noConfusion h, fun _ => ⟨Tryz.t60, _, by kernel_rfl, rfl, rfl⟩, fun _ => ⟨by kernel_rfl, by kernel_rfl, _, Tryz.underlying60, by kernel_rfl⟩⟩
theorem fit61 : TFits Tryz.prog 61 ti61 := ⟨⟨Tryz.t61, by kernel_rfl, rfl, rfl, _, rfl, rfl⟩, ⟨_, Tryz.underlying61, rfl⟩, fun h => Bool.noConfusion h, fun _ => ⟨Tryz.t61, _, by kernel_rfl, rfl, rfl⟩, fun _ => ⟨by kernel_rfl, by kernel_rfl, _, Tryz.underlying61, by kernel_rfl⟩⟩
theorem fit62 : TFits Tryz.prog 62 ti62 := ⟨⟨Tryz.t62, by kernel_rfl, rfl, rfl, _, rfl, rfl⟩, ⟨_, Tryz.underlying62, rfl⟩, fun h => Bool.noConfusion h, fun _ => ⟨Tryz.t62, _, by kernel_rfl, rfl, rfl⟩, fun _ => ⟨by kernel_rfl, by kernel_rfl, _, Tryz.underlying62, by kernel_rfl⟩⟩
theorem fit63 : TFits Tryz.prog 63 ti63 := ⟨⟨Tryz.t63, by kernel_rfl, rfl, rfl, _, rfl, rfl⟩, ⟨_, Tryz.underlying63, rfl⟩, fun _ => ⟨Tryz.t63, _, by kernel_rfl, rfl, rfl⟩, fun h => Bool.noConfusion h, fun h => Bool.noConfusion h⟩
theorem fit64 : TFits Tryz.prog 64 ti64 := ⟨⟨Tryz.t64, by kernel_rfl, rfl, rfl, _, rfl, rfl⟩, ⟨_, Tryz.underlying64, rfl⟩, fun _ => ⟨Tryz.t64, _, by kernel_rfl, rfl, rfl⟩, fun h => Bool.noConfusion h, fun h => Bool.noConfusion h⟩
theorem fit65 : TFits Tryz.prog 65 ti65 := ⟨⟨Tryz.t65, by kernel_rfl, rfl, rfl, _, rfl, rfl⟩, ⟨_, Tryz.underlying65, rfl⟩, fun _ => ⟨Tryz.t65, _, by kernel_rfl, rfl, rfl⟩, fun h => Bool.noConfusion h, fun h => Bool.noConfusion h⟩
theorem fit66 : TFits Tryz.prog 66 ti66 := ⟨⟨Tryz.t66, by kernel_rfl, rfl, rfl, _, rfl, rfl⟩, ⟨_, Tryz.underlying66, rfl⟩, fun _ => ⟨Tryz.t66, _, by kernel_rfl, rfl, rfl⟩, fun h => Bool.noConfusion h, fun h => Bool.noConfusion h⟩
theorem fit68 : TFits Tryz.prog 68 ti68 := ⟨⟨Tryz.t68, by kernel_rfl, rfl, rfl, _, rfl, rfl⟩, ⟨_, Tryz.underlying68, rfl⟩, fun _ => ⟨Tryz.t68, _, by kernel_rfl, rfl, rfl⟩, fun h => Bool.noConfusion h, fun h => Bool.noConfusion h⟩
theorem fit69 : TFits Tryz.prog 69 ti69 := ⟨⟨Tryz.t69, by kernel_rfl, rfl, rfl, _, rfl, rfl⟩, ⟨_, Tryz.underlying69, rfl⟩, fun _ => ⟨Tryz.t69, _, by kernel_rfl, rfl, rfl⟩, fun h => Bool.noConfusion h, fun h => Bool.noConfusion h⟩
theorem fit70 : TFits Tryz.prog 70 ti70 := ⟨⟨Tryz.t70, by kernel_rfl, rfl, rfl, _, rfl, rfl⟩, ⟨_, Tryz.underlying70, rfl⟩, fun _ => ⟨Tryz.t70, _, by kernel_rfl, rfl, rfl⟩, fun h => Bool.noConfusion h, fun h => Bool.noConfusion h⟩
theorem fit71 : TFits Tryz.prog 71 ti71 := ⟨⟨Tryz.t71, by kernel_rfl, rfl, rfl, _, rfl, rfl⟩, ⟨_, Tryz.underlying71, rfl⟩, fun _ => ⟨Tryz.t71, _, by kernel_rfl, rfl, rfl⟩, fun h => Bool.noConfusion h, fun h => Bool.noConfusion h⟩
theorem fit72 : TFits Tryz.prog 72 ti72 := ⟨⟨Tryz.t72, by kernel_rfl, rfl, rfl, _, rfl, rfl⟩, ⟨_, Tryz.underlying72, rfl⟩, fun _ => ⟨Tryz.t72, _, by kernel_rfl, rfl, rfl⟩, fun h => Bool.noConfusion h, fun h => Bool.noConfusion h⟩
theorem fit73 : TFits Tryz.prog 73 ti73 := ⟨⟨Tryz.t73, by kernel_rfl, rfl, rfl, _, rfl, rfl⟩, ⟨_, Tryz.underlying73, rfl⟩, fun _ => ⟨Tryz.t73, _, by kernel_rfl, rfl, rfl⟩, fun h => Bool.noConfusion h, fun h => Bool.noConfusion h⟩
theorem fit74 : TFits Tryz.prog 74 ti74 := ⟨⟨Tryz.t74, by kernel_rfl, rfl, rfl, _, rfl, rfl⟩, ⟨_, Tryz.underlying74, rfl⟩, fun _ => ⟨Tryz.t74, _, by kernel_rfl, rfl, rfl⟩, fun h => Bool.noConfusion h, fun h => Bool.noConfusion h⟩
theorem fit75 : TFits Tryz.prog 75 ti75 := ⟨⟨Tryz.t75, by kernel_rfl, rfl, rfl, _, rfl, rfl⟩, ⟨_, Tryz.underlying75, rfl⟩, fun h => Bool.noConfusion h, fun _ => ⟨Tryz.t75, _, by kernel_rfl, rfl, rfl⟩, fun _ => ⟨by kernel_rfl, by kernel_rfl, _, Tryz.underlying75, by kernel_rfl⟩⟩
theorem fit76 : TFits Tryz.prog 76 ti76 := ⟨⟨Tryz.t76, by kernel_rfl, rfl, rfl, _, rfl, rfl⟩, ⟨_, Tryz.underlying76, rfl⟩, fun h => Bool.noConfusion h, fun _ => ⟨Tryz.t76, _, by kernel_rfl, rfl, rfl⟩, fun _ => ⟨by kernel_rfl, by kernel_rfl, _, Tryz.underlying76, by kernel_rfl⟩⟩
theorem fit77 : TFits Tryz.prog 77 ti77 := ⟨⟨Tryz.t77, by kernel_rfl, rfl, rfl, _, rfl, rfl⟩, ⟨_, Tryz.underlying77, rfl⟩, fun h => Bool.noConfusion h, fun _ => ⟨Tryz.t77, _, by kernel_rfl, rfl, rfl⟩, fun _ => ⟨by kernel_rfl, by kernel_rfl, _, Tryz.underlying77, by kernel_rfl⟩⟩
theorem fit78 : TFits Tryz.prog 78 ti78 := ⟨⟨Tryz.t78, by kernel_rfl, rfl, rfl, _, rfl, rfl⟩, ⟨_, Tryz.underlying78, rfl⟩, fun h => Bool.noConfusion h, fun _ => ⟨Tryz.t78, _, by kernel_rfl, rfl, rfl⟩, fun _ => ⟨by kernel_rfl, by kernel_rfl, _, Tryz.underlying78, by kernel_rfl⟩⟩
theorem fit79 : TFits Tryz.prog 79 ti79 := ⟨⟨Tryz.t79, by kernel_rfl, rfl, rfl, _, rfl, rfl⟩, ⟨_, Tryz.underlying79, rfl⟩, fun _ => ⟨Tryz.t79, _, by kernel_rfl, rfl, rfl⟩, fun h => Bool.noConfusion h, fun h => Bool.noConfusion h⟩
theorem fit80 : TFits Tryz.prog 80 ti80 := ⟨⟨Tryz.t80, by kernel_rfl, rfl, rfl, _, rfl, rfl⟩, ⟨_, Tryz.underlying80, rfl⟩, fun _ => ⟨Tryz.t80, _, by kernel_rfl, rfl, rfl⟩, fun h => Bool.noConfusion h, fun h => Bool.noConfusion h⟩
theorem fit81 : TFits Tryz.prog 81 ti81 := ⟨⟨Tryz.t81, by kernel_rfl, rfl, rfl, _, rfl, rfl⟩, ⟨_, Tryz.underlying81, rfl⟩, fun _ => ⟨Tryz.t81, _, by kernel_rfl, rfl, rfl⟩, fun h => Bool.noConfusion h, fun h => Bool.noConfusion h⟩
theorem fit82 : TFits Tryz.prog 82 ti82 := ⟨⟨Tryz.t82, by kernel_rfl, rfl, rfl, _, rfl, rfl⟩, ⟨_, Tryz.underlying82, rfl⟩, fun _ => ⟨Tryz.t82, _, by kernel_rfl, rfl, rfl⟩, fun h => Bool.noConfusion h, fun h => Bool.noConfusion h⟩
theorem fit83 : TFits Tryz.prog 83 ti83 := ⟨⟨Tryz.t83, by kernel_rfl, rfl, rfl, _, rfl, rfl⟩, ⟨_, Tryz.underlying83, rfl⟩, fun _ => ⟨Tryz.t83, _, by kernel_rfl, rfl, rfl⟩, fun h => Bool.noConfusion h, fun h => Bool.noConfusion h⟩
theorem fit84 : TFits Tryz.prog 84 ti84 := ⟨⟨Tryz.t84, by kernel_rfl, rfl, rfl, _, rfl, rfl⟩, ⟨_, Tryz.underlying84, rfl⟩, fun _ => ⟨Tryz.t84, _, by kernel_rfl, rfl, rfl⟩, fun h => Bool.noConfusion h, fun h => Bool.noConfusion h⟩
theorem fit85 : TFits Tryz.prog 85 ti85 := ⟨⟨Tryz.t85, by kernel_rfl, rfl, rfl, _, rfl, rfl⟩, ⟨_, Tryz.underlying85, rfl⟩, fun h => Bool.noConfusion h, fun _ => ⟨Tryz.t85, _, by kernel_rfl, rfl, rfl⟩, fun _ => ⟨by kernel_rfl, by kernel_rfl, _, Tryz.underlying85, by kernel_rfl⟩⟩
theorem fit86 : TFits Tryz.prog 86 ti86 := ⟨⟨Tryz.t86, by kernel_rfl, rfl, rfl, _, rfl, rfl⟩, ⟨_, Tryz.underlying86, rfl⟩, fun h => Bool.noConfusion h, fun _ => ⟨Tryz.t86, _, by kernel_rfl, rfl, rfl⟩, fun _ => ⟨by kernel_rfl, by kernel_rfl, _, Tryz.underlying86, by kernel_rfl⟩⟩
theorem fit88 : TFits Tryz.prog 88 ti88 := ⟨⟨Tryz.t88, by kernel_rfl, rfl, rfl, _, rfl, rfl⟩, ⟨_, Tryz.underlying88, rfl⟩, fun _ => ⟨Tryz.t88, _, by kernel_rfl, rfl, rfl⟩, fun h => Bool.noConfusion h, fun h => Bool.noConfusion h⟩
theorem fit89 : TFits Tryz.prog 89 ti89 := ⟨⟨Tryz.t89, by kernel_rfl, rfl, rfl, _, rfl, rfl⟩, ⟨_, Tryz.underlying89, rfl⟩, fun _ => ⟨Tryz.t89, _, by kernel_rfl, rfl, rfl⟩, fun h => Bool.noConfusion h, fun h => Bool.noConfusion h⟩
theorem fit90 : TFits Tryz.prog 90 ti90 := ⟨⟨Tryz.t90, by kernel_rfl, rfl, rfl, _, rfl, rfl⟩, ⟨_, Tryz.underlying90, rfl⟩, fun _ => ⟨Tryz.t90, _, by kernel_rfl, rfl, rfl⟩, fun h => Bool.noConfusion h, fun h => Bool.noConfusion h⟩
theorem fit91 : TFits Tryz.prog 91 ti91 := ⟨⟨Tryz.t91, by kernel_rfl, rfl, rfl, _, rfl, rfl⟩, ⟨_, Tryz.underlying91, rfl⟩, fun _ => ⟨Tryz.t91, _, by kernel_rfl, rfl, rfl⟩, fun h => Bool.noConfusion h, fun h => Bool.noConfusion h⟩
theorem fit92 : TFits Tryz.prog 92 ti92 := ⟨⟨Tryz.t92, by kernel_rfl, rfl, rfl, _, rfl, rfl⟩, ⟨_, Tryz.underlying92, rfl⟩, fun _ => ⟨Tryz.t92, _, by kernel_rfl, rfl, rfl⟩, fun h => Bool.noConfusion h, fun h => Bool.noConfusion h⟩
theorem fit93 : TFits Tryz.prog 93 ti93 := ⟨⟨Tryz.t93, by kernel_rfl, rfl, rfl, _, rfl, rfl⟩, ⟨_, Tryz.underlying93, rfl⟩, fun _ => ⟨Tryz.t93, _, by kernel_rfl, rfl, rfl⟩, fun h => Bool.noConfusion h, fun h => Bool.noConfusion h⟩
theorem fit94 : TFits Tryz.prog 94 ti94 := ⟨⟨Tryz.t94, by kernel_rfl, rfl, rfl, _, rfl, rfl⟩, ⟨_, Tryz.underlying94, rfl⟩, fun _ => ⟨Tryz.t94, _, by kernel_rfl, rfl, rfl⟩, fun h => Bool.noConfusion h, fun h => Bool.noConfusion h⟩
theorem fit95 : TFits Tryz.prog 95 ti95 := ⟨⟨Tryz.t95, by kernel_rfl, rfl, rfl, _, rfl, rfl⟩, ⟨_, Tryz.underlying95, rfl⟩, fun _ => ⟨Tryz.t95, _, by kernel_rfl, rfl, rfl⟩, fun h => Bool.noConfusion h, fun h => Bool.noConfusion h⟩
theorem fit96 : TFits Tryz.prog 96 ti96 := ⟨⟨Tryz.t96, by kernel_rfl, rfl, rfl, _, rfl, rfl⟩, ⟨_, Tryz.underlying96, rfl⟩, fun h => Bool.noConfusion h, fun _ => ⟨Tryz.t96, _, by kernel_rfl, rfl, rfl⟩, fun _ => ⟨by kernel_rfl, by kernel_rfl, _, Tryz.underlying96, by kernel_rfl⟩⟩
theorem fit97 : TFits Tryz.prog 97 ti97 := ⟨⟨Tryz.t97, by kernel_rfl, rfl, rfl, _, rfl, rfl⟩, ⟨_, Tryz.underlying97, rfl⟩, fun h => Bool.noConfusion h, fun _ => ⟨Tryz.t97, _, by kernel_rfl, rfl, rfl⟩, fun _ => ⟨by kernel_rfl, by kernel_rfl, _, Tryz.underlying97, by kernel_rfl⟩⟩
theorem fit99 : TFits Tryz.prog 99 ti99 := ⟨⟨Tryz.t99, by kernel_rfl, rfl, rfl, _, rfl, rfl⟩, ⟨_, Tryz.underlying99, rfl⟩, fun _ => ⟨Tryz.t99, _, by kernel_rfl, rfl, rfl⟩, fun h => Bool.noConfusion h, fun h => Bool.noConfusion h⟩
theorem fit100 : TFits Tryz.prog 100 ti100 := ⟨⟨Tryz.t100, by kernel_rfl, rfl, rfl, _, rfl, rfl⟩, ⟨_, Tryz.underlying100, rfl⟩, fun _ => ⟨Tryz.t100, _, by kernel_rfl, rfl, rfl⟩, fun h => Bool.noConfusion h, fun h => Bool.noConfusion h⟩
theorem fit101 : TFits Tryz.prog 101 ti101 := ⟨⟨Tryz.t101, by kernel_rfl, rfl, rfl, _, rfl, rfl⟩, ⟨_, Tryz.underlying101, rfl⟩, fun _ => ⟨Tryz.t101, _, by kernel_rfl, rfl, rfl⟩, fun h => Bool.noConfusion h, fun h => Bool.noConfusion h⟩
theorem fit102 : TFits Tryz.prog 102 ti102 := ⟨⟨Tryz.t102, by kernel_rfl, rfl, rfl, _, rfl, rfl⟩, ⟨_, Tryz.underlying102, rfl⟩, fun _ => ⟨Tryz.t102, _, by kernel_rfl, rfl, rfl⟩, fun h => Bool.noConfusion h, fun h => Bool.noConfusion h⟩
theorem fit103 : TFits Tryz.prog 103 ti103 := ⟨⟨Tryz.t103, by kernel_rfl, rfl, rfl, _, rfl, rfl⟩, ⟨_, Tryz.underlying103, rfl⟩, fun h => Bool.noConfusion h, fun _ => ⟨Tryz.t103, _, by kernel_rfl, rfl, rfl⟩, fun _ => ⟨by kernel_rfl, by kernel_rfl, _, Tryz.underlying103, by kernel_rfl⟩⟩
theorem fit104 : TFits Tryz.prog 104 ti104 := ⟨⟨Tryz.t104, by kernel_rfl, rfl, rfl, _, rfl, rfl⟩, ⟨_, Tryz.underlying104, rfl⟩, fun h => Bool.noConfusion h, fun _ => ⟨Tryz.t104, _, by kernel_rfl, rfl, rfl⟩, fun _ => ⟨by kernel_rfl, by kernel_rfl, _, Tryz.underlying104, by kernel_rfl⟩⟩
theorem fit105 : TFits Tryz.prog 105 ti105 := ⟨⟨Tryz.t105, by kernel_rfl, rfl, rfl, _, rfl, rfl⟩, ⟨_, Tryz.underlying105, rfl⟩, fun h => Bool.noConfusion h, fun _ => ⟨Tryz.t105, _, by kernel_rfl, rfl, rfl⟩, fun _ => ⟨by kernel_rfl, by kernel_rfl, _, Tryz.underlying105, by kernel_rfl⟩⟩
theorem fit106 : TFits Tryz.prog 106 ti106 := ⟨⟨Tryz.t106, by kernel_rfl, rfl, rfl, _, rfl, rfl⟩, ⟨_, Tryz.underlying106, rfl⟩, fun h => Bool.noConfusion h, fun _ => ⟨Tryz.t106, _, by kernel_rfl, rfl, rfl⟩, fun _ => ⟨by kernel_rfl, by kernel_rfl, _, Tryz.underlying106, by kernel_rfl⟩⟩
theorem fit108 : TFits Tryz.prog 108 ti108 := ⟨⟨Tryz.t108, by kernel_rfl, rfl, rfl, _, rfl, rfl⟩, ⟨_, Tryz.underlying108, rfl⟩, fun _ => ⟨Tryz.t108, _, by kernel_rfl, rfl, rfl⟩, fun h => Bool.noConfusion h, fun h => Bool.noConfusion h⟩
theorem fit110 : TFits Tryz.prog 110 ti110 := ⟨⟨Tryz.t110, by kernel_rfl, rfl, rfl, _, rfl, rfl⟩, ⟨_, Tryz.underlying110, rfl⟩, fun _ => ⟨Tryz.t110, _, by kernel_rfl, rfl, rfl⟩, fun h => Bool.noConfusion h, fun h => Bool.noConfusion h⟩
theorem fit112 : TFits Tryz.prog 112 ti112 := ⟨⟨Tryz.t112, by kernel_rfl, rfl, rfl, _, rfl, rfl⟩, ⟨_, Tryz.underlying112, rfl⟩, fun _ => ⟨Tryz.t112, _, by kernel_rfl, rfl, rfl⟩, fun h => Bool.noConfusion h, fun h => Bool.noConfusion h⟩
theorem fit113 : TFits Tryz.prog 113 ti113 := ⟨⟨Tryz.t113, by kernel_rfl, rfl, rfl, _, rfl, rfl⟩, ⟨_, Tryz.underlying113, rfl⟩, fun _ => ⟨Tryz.t113, _, by kernel_rfl, rfl, rfl⟩, fun h => Bool.noConfusion h, fun h => Bool.noConfusion h⟩
theorem fit114 : TFits Tryz.prog 114 ti114 := ⟨⟨Tryz.t114, by kernel_rfl, rfl, rfl, _, rfl, rfl⟩, ⟨_, Tryz.underlying114, rfl⟩, fun _ => ⟨Tryz.t114, _, by kernel_rfl, rfl, rfl⟩, fun h => Bool.noConfusion h, fun h => Bool.noConfusion h⟩
theorem fit115 : TFits Tryz.prog 115 ti115 := ⟨⟨Tryz.t115, by kernel_rfl, rfl, rfl, _, rfl, rfl⟩, ⟨_, Tryz.underlying115, rfl⟩, fun h => Bool.noConfusion h, fun _ => ⟨Tryz.t115, _, by kernel_rfl, rfl, rfl⟩, fun _ => ⟨by kernel_rfl, by kernel_rfl, _, Tryz.underlying115, by kernel_rfl⟩⟩
theorem fit116 : TFits Tryz.prog 116 ti116 := ⟨⟨Tryz.t116, by kernel_rfl, rfl, rfl, _, rfl, rfl⟩, ⟨_, Tryz.underlying116, rfl⟩, fun h => Bool.noConfusion h, fun _ => ⟨Tryz.t116, _, by kernel_rfl, rfl, rfl⟩, fun _ => ⟨by kernel_rfl, by kernel_rfl, _, Tryz.underlying116, by kernel_rfl⟩⟩
theorem fit117 : TFits Tryz.prog 117 ti117 := ⟨⟨Tryz.t117, by kernel_rfl, rfl, rfl, _, rfl, rfl⟩, ⟨_, Tryz.underlying117, rfl⟩, fun _ => ⟨Tryz.t117, _, by kernel_rfl, rfl, rfl⟩, fun h => Bool.noConfusion h, fun h => Bool.noConfusion h⟩
theorem fit118 : TFits Tryz.prog 118 ti118 := ⟨⟨Tryz.t118, by kernel_rfl, rfl, rfl, _, rfl, rfl⟩, ⟨_, Tryz.underlying118, rfl⟩, fun _ => ⟨Tryz.t118, _, by kernel_rfl, rfl, rfl⟩, fun h => Bool.noConfusion h, fun h => Bool.noConfusion h⟩
theorem fit119 : TFits Tryz.prog 119 ti119 := ⟨⟨Tryz.t119, by kernel_rfl, rfl, rfl, _, rfl, rfl⟩, ⟨_, Tryz.underlying119, rfl⟩, fun _ => ⟨Tryz.t119, _, by kernel_rfl, rfl, rfl⟩, fun h => Bool.noConfusion h, fun h => Bool.noConfusion h⟩
theorem fit120 : TFits Tryz.prog 120 ti120 := ⟨⟨Tryz.t120, by kernel_rfl, rfl, rfl, _, rfl, rfl⟩, ⟨_, Tryz.underlying120, rfl⟩, fun h => Bool.noConfusion h, fun _ => ⟨Tryz.t120, _, by kernel_rfl, rfl, rfl⟩, fun _ => ⟨by kernel_rfl, by kernel_rfl, _, Tryz.underlying120, by kernel_rfl⟩⟩
theorem fit121 : TFits Tryz.prog 121 ti121 := ⟨⟨Tryz.t121, by kernel_rfl, rfl, rfl, _, rfl, rfl⟩, ⟨_, Tryz.underlying121, rfl⟩, fun h => Bool.noConfusion h, fun _ => ⟨Tryz.t121, _, by kernel_rfl, rfl, rfl⟩, fun _ => ⟨by kernel_rfl, by kernel_rfl, _, Tryz.underlying121, by kernel_rfl⟩⟩
theorem fit122 : TFits Tryz.prog 122 ti122 := ⟨⟨Tryz.t122, by kernel_rfl, rfl, rfl, _, rfl, rfl⟩, ⟨_, Tryz.underlying122, rfl⟩, fun _ => ⟨Tryz.t122, _, by kernel_rfl, rfl, rfl⟩, fun h => Bool.noConfusion h, fun h => Bool.noConfusion h⟩
theorem fit123 : TFits Tryz.prog 123 ti123 := ⟨⟨Tryz.t123, by kernel_rfl, rfl, rfl, _, rfl, rfl⟩, ⟨_, Tryz.underlying123, rfl⟩, fun _ => ⟨Tryz.t123, _, by kernel_rfl, rfl, rfl⟩, fun h => Bool.noConfusion h, fun h => Bool.noConfusion h⟩
theorem fit124 : TFits Tryz.prog 124 ti124 := ⟨⟨Tryz.t124, by kernel_rfl, rfl, rfl, _, rfl, rfl⟩, ⟨_, Tryz.underlying124, rfl⟩, fun h => Bool.noConfusion h, fun _ => ⟨Tryz.t124, _, by kernel_rfl, rfl, rfl⟩, fun _ => ⟨by kernel_rfl, by kernel_rfl, _, Tryz.underlying124, by kernel_rfl⟩⟩
theorem fit125 : TFits Tryz.prog 125 ti125 := ⟨⟨Tryz.t125, by kernel_rfl, rfl, rfl, _, rfl, rfl⟩, ⟨_, Tryz.underlying125, rfl⟩, fun h => Bool.noConfusion h, fun _ => ⟨Tryz.t125, _, by kernel_rfl, rfl, rfl⟩, fun _ => ⟨by kernel_rfl, by kernel_rfl, _, Tryz.underlying125, by kernel_rfl⟩⟩
theorem fit126 : TFits Tryz.prog 126 ti126 := ⟨⟨Tryz.t126, by kernel_rfl, rfl, rfl, _, rfl, rfl⟩, ⟨_, Tryz.underlying126, rfl⟩, fun h => Bool.noConfusion h, fun _ => ⟨Tryz.t126, _, by kernel_rfl, rfl, rfl⟩, fun _ => ⟨by kernel_rfl, by kernel_rfl, _, Tryz.underlying126, by kernel_rfl⟩⟩
theorem fit127 : TFits Tryz.prog 127 ti127 := ⟨⟨Tryz.t127, by kernel_rfl, rfl, rfl, _, rfl, rfl⟩, ⟨_, Tryz.underlying127, rfl⟩, fun h => Bool.noConfusion h, fun _ => ⟨Tryz.t127, _, by kernel_rfl, rfl, rfl⟩, fun _ => ⟨by kernel_rfl, by kernel_rfl, _, Tryz.underlying127, by kernel_rfl⟩⟩
theorem fit128 : TFits Tryz.prog 128 ti128 := ⟨⟨Tryz.t128, by kernel_rfl, rfl, rfl, _, rfl, rfl⟩, ⟨_, Tryz.underlying128, rfl⟩, fun _ => ⟨Tryz.t128, _, by kernel_rfl, rfl, rfl⟩, fun h => Bool.noConfusion h, fun h => Bool.noConfusion h⟩
theorem fit129 : TFits Tryz.prog 129 ti129 := ⟨⟨Tryz.t129, by kernel_rfl, rfl, rfl, _, rfl, rfl⟩, ⟨_, Tryz.underlying129, rfl⟩, fun _ => ⟨Tryz.t129, _, by kernel_rfl, rfl, rfl⟩, fun h => Bool.noConfusion h, fun h => Bool.noConfusion h⟩
theorem fit130 : TFits Tryz.prog 130 ti130 := ⟨⟨Tryz.t130, by kernel_rfl, rfl, rfl, _, rfl, rfl⟩, ⟨_, Tryz.underlying130, rfl⟩, fun _ => ⟨Tryz.t130, _, by kernel_rfl, rfl, rfl⟩, fun h => Bool.noConfusion h, fun h => Bool.noConfusion h⟩
theorem fit131 : TFits Tryz.prog 131 ti131 := ⟨⟨Tryz.t131, by kernel_rfl, rfl, rfl, _, rfl, rfl⟩, ⟨_, Tryz.underlying131, rfl⟩, fun _ => ⟨Tryz.t131, _, by kernel_rfl, rfl, rfl⟩, fun h => Bool.noConfusion h, fun h => Bool.noConfusion h⟩
theorem fit132 : TFits Tryz.prog 132 ti132 := ⟨⟨Tryz.t132, by kernel_rfl, rfl, rfl, _, rfl, rfl⟩, ⟨_, Tryz.underlying132, rfl⟩, fun _ => ⟨Tryz.t132, _, by kernel_rfl, rfl, rfl⟩, fun h => Bool.noConfusion h, fun h => Bool.noConfusion h⟩
theorem fit134 : TFits Tryz.prog 134 ti134 := ⟨⟨Tryz.t134, by kernel_rfl, rfl, rfl, _, rfl, rfl⟩, ⟨_, Tryz.underlying134, rfl⟩, fun _ => ⟨Tryz.t134, _, by kernel_rfl, rfl, rfl⟩, fun h => Bool.noConfusion h, fun h => Bool.noConfusion h⟩
theorem fit135 : TFits Tryz.prog 135 ti135 := ⟨⟨Tryz.t135, by kernel_rfl, rfl, rfl, _, rfl, rfl⟩, ⟨_, Tryz.underlying135, rfl⟩, fun _ => ⟨Tryz.t135, _, by kernel_rfl, rfl, rfl⟩, fun h => Bool.noConfusion h, fun h => Bool.noConfusion h⟩
theorem fit136 : TFits Tryz.prog 136 ti136 := ⟨⟨Tryz.t136, by kernel_rfl, rfl, rfl, _, rfl, rfl⟩, ⟨_, Tryz.underlying136, rfl⟩, fun _ => ⟨Tryz.t136, _, by kernel_rfl, rfl, rfl⟩, fun h => Bool.noConfusion h, fun h => Bool.noConfusion h⟩
theorem fit137 : TFits Tryz.prog 137 ti137 := ⟨⟨Tryz.t137, by kernel_rfl, rfl, rfl, _, rfl, rfl⟩, ⟨_, Tryz.underlying137, rfl⟩, fun _ => ⟨Tryz.t137, _, by kernel_rfl, rfl, rfl⟩, fun h => Bool.noConfusion h, fun h => Bool.noConfusion h⟩
theorem fit138 : TFits Tryz.prog 138 ti138 := ⟨⟨Tryz.t138, by kernel_rfl, rfl, rfl, _, rfl, rfl⟩, ⟨_, Tryz.underlying138, rfl⟩, fun _ => ⟨Tryz.t138, _, by kernel_rfl, rfl, rfl⟩, fun h => Bool.noConfusion h, fun h => Bool.noConfusion h⟩
theorem fit139 : TFits Tryz.prog 139 ti139 := ⟨⟨Tryz.t139, by kernel_rfl, rfl, rfl, _, rfl, rfl⟩, ⟨_, Tryz.underlying139, rfl⟩, fun _ => ⟨Tryz.t139, _, by kernel_rfl, rfl, rfl⟩, fun h => Bool.noConfusion h, fun h => Bool.noConfusion h⟩
theorem fit140 : TFits Tryz.prog 140 ti140 := ⟨⟨Tryz.t140, by kernel_rfl, rfl, rfl, _, rfl, rfl⟩, ⟨_, Tryz.underlying140, rfl⟩, fun h => Bool.noConfusion h, fun _ => ⟨Tryz.t140, _, by kernel_rfl, rfl, rfl⟩, fun _ => ⟨by kernel_rfl, by kernel_rfl, _, Tryz.underlying140, by kernel_rfl⟩⟩
theorem fit141 : TFits Tryz.prog 141 ti141 := ⟨⟨Tryz.t141, by kernel_rfl, rfl, rfl, _, rfl, rfl⟩, ⟨_, Tryz.underlying141, rfl⟩, fun h => Bool.noConfusion h, fun _ => ⟨Tryz.t141, _, by kernel_rfl, rfl, rfl⟩, fun _ => ⟨by kernel_rfl, by kernel_rfl, _, Tryz.underlying141, by kernel_rfl⟩⟩
theorem fit142 : TFits Tryz.prog 142 ti142 := ⟨⟨Tryz.t142, by kernel_rfl, rfl, rfl, _, rfl, rfl⟩, ⟨_, Tryz.underlying142, rfl⟩, fun _ => ⟨Tryz.t142, _, by kernel_rfl, rfl, rfl⟩, fun h => Bool.noConfusion h, fun h => Bool.noConfusion h⟩
theorem fit143 : TFits Tryz.prog 143 ti143 := ⟨⟨Tryz.t143, by kernel_rfl, rfl, rfl, _, rfl, rfl⟩, ⟨_, Tryz.underlying143, rfl⟩, fun _ => ⟨Tryz.t143, _, by kernel_rfl, rfl, rfl⟩, fun h => Bool.noConfusion h, fun h => Bool.noConfusion h⟩
theorem fit144 : TFits Tryz.prog 144 ti144 := ⟨⟨Tryz.t144, by kernel_rfl, rfl, rfl, _, rfl, rfl⟩, ⟨_, Tryz.underlying144, rfl⟩, fun h => Bool.noConfusion h, fun _ => ⟨Tryz.t144, _, by kernel_rfl, rfl, rfl⟩, fun _ => ⟨by kernel_rfl, by kernel_rfl, _, Tryz.underlying144, by kernel_rfl⟩⟩
theorem fit145 : TFits Tryz.prog 145 ti145 := ⟨⟨Tryz.t145, by kernel_rfl, rfl, rfl, _, rfl, rfl⟩, ⟨_, Tryz.underlying145, rfl⟩, fun h => Bool.noConfusion h, fun _ => ⟨Tryz.t145, _, by kernel_rfl, rfl, rfl⟩, fun _ => ⟨by kernel_rfl, by kernel_rfl, _, Tryz.underlying145, by kernel_rfl⟩⟩
theorem fit146 : TFits Tryz.prog 146 ti146 := ⟨⟨Tryz.t146, by kernel_rfl, rfl, rfl, _, rfl, rfl⟩, ⟨_, Tryz.underlying146, rfl⟩, fun _ => ⟨Tryz.t146, _, by kernel_rfl, rfl, rfl⟩, fun h => Bool.noConfusion h, fun h => Bool.noConfusion h⟩
theorem fit147 : TFits Tryz.prog 147 ti147 := ⟨⟨Tryz.t147, by kernel_rfl, rfl, rfl, _, rfl, rfl⟩, ⟨_, Tryz.underlying147, rfl⟩, fun _ => ⟨Tryz.t147, _, by kernel_rfl, rfl, rfl⟩, fun h => Bool.noConfusion h, fun h => Bool.noConfusion h⟩
theorem fit149 : TFits Tryz.prog 149 ti149 := ⟨⟨Tryz.t149, by kernel_rfl, rfl, rfl, _, rfl, rfl⟩, ⟨_, Tryz.underlying149, rfl⟩, fun _ => ⟨Tryz.t149, _, by kernel_rfl, rfl, rfl⟩, fun h => Bool.noConfusion h, fun h => Bool.noConfusion h⟩
theorem fit150 : TFits Tryz.prog 150 ti150 := ⟨⟨Tryz.t150, by kernel_rfl, rfl, rfl, _, rfl, rfl⟩, ⟨_, Tryz.underlying150, rfl⟩, fun _ => ⟨Tryz.t150, _, by kernel_rfl, rfl, rfl⟩, fun h => Bool.noConfusion h, fun h => Bool.noConfusion h⟩
theorem fit151 : TFits Tryz.prog 151 ti151 := ⟨⟨Tryz.t151, by kernel_rfl, rfl, rfl, _, rfl, rfl⟩, ⟨_, Tryz.underlying151, rfl⟩, fun _ => ⟨Tryz.t151, _, by kernel_rfl, rfl, rfl⟩, fun h => Bool.noConfusion h, fun h => Bool.noConfusion h⟩
theorem fit152 : TFits Tryz.prog 152 ti152 := ⟨⟨Tryz.t152, by kernel_rfl, rfl, rfl, _, rfl, rfl⟩, ⟨_, Tryz.underlying152, rfl⟩, fun _ => ⟨Tryz.t152, _, by kernel_rfl, rfl, rfl⟩, fun h => Bool.noConfusion h, fun h => Bool.noConfusion h⟩
theorem fit153 : TFits Tryz.prog 153 ti153 := ⟨⟨Tryz.t153, by kernel_rfl, rfl, rfl, _, rfl, rfl⟩, ⟨_, Tryz.underlying153, rfl⟩, fun _ => ⟨Tryz.t153, _, by kernel_rfl, rfl, rfl⟩, fun h => Bool.noConfusion h, fun h => Bool.noConfusion h⟩
theorem fit154 : TFits Tryz.prog 154 ti154 := ⟨⟨Tryz.t154, by kernel_rfl, rfl, rfl, _, rfl, rfl⟩, ⟨_, Tryz.underlying154, rfl⟩, fun _ => ⟨Tryz.t154, _, by kernel_rfl, rfl, rfl⟩, fun h => Bool.noConfusion h, fun h => Bool.noConfusion h⟩
theorem fit155 : TFits Tryz.prog 155 ti155 := ⟨⟨Tryz.t155, by kernel_rfl, rfl, rfl, _, rfl, rfl⟩, ⟨_, Tryz.underlying155, rfl⟩, fun _ => ⟨Tryz.t155, _, by kernel_rfl, rfl, rfl⟩, fun h => Bool.noConfusion h, fun h => Bool.noConfusion h⟩
theorem fit156 : TFits Tryz.prog 156 ti156 := ⟨⟨Tryz.t156, by kernel_rfl, rfl, rfl, _, rfl, rfl⟩, ⟨_, Tryz.underlying156, rfl⟩, fun _ => ⟨Tryz.t156, _, by kernel_rfl, rfl, rfl⟩, fun h => Bool.noConfusion h, fun h => Bool.noConfusion h⟩
theorem fit157 : TFits Tryz.prog 157 ti157 := ⟨⟨Tryz.t157, by kernel_rfl, rfl, rfl, _, rfl, rfl⟩, ⟨_, Tryz.underlying157, rfl⟩, fun _ => ⟨Tryz.t157, _, by kernel_rfl, rfl, rfl⟩, fun h => Bool.noConfusion h, fun h => Bool.noConfusion h⟩
theorem fit158 : TFits Tryz.prog 158 ti158 := ⟨⟨Tryz.t158, by kernel_rfl, rfl, rfl, _, rfl, rfl⟩, ⟨_, Tryz.underlying158, rfl⟩, fun _ => ⟨Tryz.t158, _, by kernel_rfl, rfl, rfl⟩, fun h => Bool.noConfusion h, fun h => Bool.noConfusion h⟩
theorem fit159 : TFits Tryz.prog 159 ti159 := ⟨⟨Tryz.t159, by kernel_rfl, rfl, rfl, _, rfl, rfl⟩, ⟨_, Tryz.underlying159, rfl⟩, fun _ => ⟨Tryz.t159, _, by kernel_rfl, rfl, rfl⟩, fun h => Bool.noConfusion h, fun h => Bool.noConfusion h⟩
theorem fit160 : TFits Tryz.prog 160 ti160 := ⟨⟨Tryz.t160, by kernel_rfl, rfl, rfl, _, rfl, rfl⟩, ⟨_, Tryz.underlying160, rfl⟩, fun _ => ⟨Tryz.t160, _, by kernel_rfl, rfl, rfl⟩, fun h => Bool.noConfusion h, fun h => Bool.noConfusion h⟩
theorem fit161 : TFits Tryz.prog 161 ti161 := ⟨⟨Tryz.t161, by kernel_rfl, rfl, rfl, _, rfl, rfl⟩, ⟨_, Tryz.underlying161, rfl⟩, fun _ => ⟨Tryz.t161, _, by kernel_rfl, rfl, rfl⟩, fun h => Bool.noConfusion h, fun h => Bool.noConfusion h⟩
theorem fit162 : TFits Tryz.prog 162 ti162 := ⟨⟨Tryz.t162, by kernel_rfl, rfl, rfl, _, rfl, rfl⟩, ⟨_, Tryz.underlying162, rfl⟩, fun _ => ⟨Tryz.t162, _, by kernel_rfl, rfl, rfl⟩, fun h => Bool.noConfusion h, fun h => Bool.noConfusion h⟩
theorem fit164 : TFits Tryz.prog 164 ti164 := ⟨⟨Tryz.t164, by kernel_rfl, rfl, rfl, _, rfl, rfl⟩, ⟨_, Tryz.underlying164, rfl⟩, fun _ => ⟨Tryz.t164, _, by kernel_rfl, rfl, rfl⟩, fun h => Bool.noConfusion h, fun h => Bool.noConfusion h⟩
theorem fit165 : TFits Tryz.prog 165 ti165 := ⟨⟨Tryz.t165, by kernel_rfl, rfl, rfl, _, rfl, rfl⟩, ⟨_, Tryz.underlying165, rfl⟩, fun _ => ⟨Tryz.t165, _, by kernel_rfl, rfl, rfl⟩, fun h => Bool.noConfusion h, fun h => Bool.noConfusion h⟩
theorem fit166 : TFits Tryz.prog 166 ti166 := ⟨⟨Tryz.t166, by kernel_rfl, rfl, rfl, _, rfl, rfl⟩, ⟨_, Tryz.underlying166, rfl⟩, fun h => Bool.noConfusion h, fun _ => ⟨Tryz.t166, _, by kernel_rfl, rfl, rfl⟩, fun _ => ⟨by kernel_rfl, by kernel_rfl, _, Tryz.underlying166, by kernel_rfl⟩⟩
theorem fit167 : TFits Tryz.prog 167 ti167 := ⟨⟨Tryz.t167, by kernel_rfl, rfl, rfl, _, rfl, rfl⟩, ⟨_, Tryz.underlying167, rfl⟩, fun h => Bool.noConfusion h, fun _ => ⟨Tryz.t167, _, by kernel_rfl, rfl, rfl⟩, fun _ => ⟨by kernel_rfl, by kernel_rfl, _, Tryz.underlying167, by kernel_rfl⟩⟩
theorem fit168 : TFits Tryz.prog 168 ti168 := ⟨⟨Tryz.t168, by kernel_rfl, rfl, rfl, _, rfl, rfl⟩, ⟨_, Tryz.underlying168, rfl⟩, fun _ => ⟨Tryz.t168, _, by kernel_rfl, rfl, rfl⟩, fun h => Bool.noConfusion h, fun h => Bool.noConfusion h⟩
theorem fit169 : TFits Tryz.prog 169 ti169 := ⟨⟨Tryz.t169, by kernel_rfl, rfl, rfl, _, rfl, rfl⟩, ⟨_, Tryz.underlying169, rfl⟩, fun _ => ⟨Tryz.t169, _, by kernel_rfl, rfl, rfl⟩, fun h => Bool.noConfusion h, fun h => Bool.noConfusion h⟩
theorem fit170 : TFits Tryz.prog 170 ti170 := ⟨⟨Tryz.t170, by kernel_rfl, rfl, rfl, _, rfl, rfl⟩, ⟨_, Tryz.underlying170, rfl⟩, fun _ => ⟨Tryz.t170, _, by kernel_rfl, rfl, rfl⟩, fun h => Bool.noConfusion h, fun h => Bool.noConfusion h⟩
theorem fit171 : TFits Tryz.prog 171 ti171 := ⟨⟨Tryz.t171, by kernel_rfl, rfl, rfl, _, rfl, rfl⟩, ⟨_, Tryz.underlying171, rfl⟩, fun _ => ⟨Tryz.t171, _, by kernel_rfl, rfl, rfl⟩, fun h => Bool.noConfusion h, fun h => Bool.noConfusion h⟩
theorem fit172 : TFits Tryz.prog 172 ti172 := ⟨⟨Tryz.t172, by kernel_rfl, rfl, rfl, _, rfl, rfl⟩, ⟨_, Tryz.underlying172, rfl⟩, fun _ => ⟨Tryz.t172, _, by kernel_rfl, rfl, rfl⟩, fun h => Bool.noConfusion h, fun h => Bool.noConfusion h⟩
theorem fit173 : TFits Tryz.prog 173 ti173 := ⟨⟨Tryz.t173, by kernel_rfl, rfl, rfl, _, rfl, rfl⟩, ⟨_, Tryz.underlying173, rfl⟩, fun _ => ⟨Tryz.t173, _, by kernel_rfl, rfl, rfl⟩, fun h => Bool.noConfusion h, fun h => Bool.noConfusion h⟩
theorem fit174 : TFits Tryz.prog 174 ti174 := ⟨⟨Tryz.t174, by kernel_rfl, rfl, rfl, _, rfl, rfl⟩, ⟨_, Tryz.underlying174, rfl⟩, fun h => Bool.noConfusion h, fun _ => ⟨Tryz.t174, _, by kernel_rfl, rfl, rfl⟩, fun _ => ⟨by kernel_rfl, by kernel_rfl, _, Tryz.underlying174, by kernel_rfl⟩⟩
theorem fit175 : TFits Tryz.prog 175 ti175 := ⟨⟨Tryz.t175, by kernel_rfl, rfl, rfl, _, rfl, rfl⟩, ⟨_, Tryz.underlying175, rfl⟩, fun _ => ⟨Tryz.t175, _, by kernel_rfl, rfl, rfl⟩, fun h => Bool.noConfusion h, fun h => Bool.noConfusion h⟩
theorem fit176 : TFits Tryz.prog 176 ti176 := ⟨⟨Tryz.t176, by kernel_rfl, rfl, rfl, _, rfl, rfl⟩, ⟨_, Tryz.underlying176, rfl⟩, fun _ => ⟨Tryz.t176, _, by kernel_rfl, rfl, rfl⟩, fun h => Bool.noConfusion h, fun h => Bool.noConfusion h⟩
theorem fit178 : TFits Tryz.prog 178 ti178 := ⟨⟨Tryz.t178, by kernel_rfl, rfl, rfl, _, rfl, rfl⟩, ⟨_, Tryz.underlying178, rfl⟩, fun _ => ⟨Tryz.t178, _, by kernel_rfl, rfl, rfl⟩, fun h => Bool.noConfusion h, fun h => Bool.noConfusion h⟩
theorem fit179 : TFits Tryz.prog 179 ti179 := ⟨⟨Tryz.t179, by kernel_rfl, rfl, rfl, _, rfl, rfl⟩, ⟨_, Tryz.underlying179, rfl⟩, fun _ => ⟨Tryz.t179, _, by kernel_rfl, rfl, rfl⟩, fun h => Bool.noConfusion h, fun h => Bool.noConfusion h⟩
theorem fit180 : TFits Tryz.prog 180 ti180 := ⟨⟨Tryz.t180, by kernel_rfl, rfl, rfl, _, rfl, rfl⟩, ⟨_, Tryz.underlying180, rfl⟩, fun _ => ⟨Tryz.t180, _, by kernel_rfl, rfl, rfl⟩, fun h => Bool.noConfusion h, fun h => Bool.noConfusion h⟩
theorem fit182 : TFits Tryz.prog 182 ti182 := ⟨⟨Tryz.t182, by kernel_rfl, rfl, rfl, _, rfl, rfl⟩, ⟨_, Tryz.underlying182, rfl⟩, fun _ => ⟨Tryz.t182, _, by kernel_rfl, rfl, rfl⟩, fun h => Bool.noConfusion h, fun h => Bool.noConfusion h⟩
theorem fit186 : TFits Tryz.prog 186 ti186 := ⟨⟨Tryz.t186, by kernel_rfl, rfl, rfl, _, rfl, rfl⟩, ⟨_, Tryz.underlying186, rfl⟩, fun _ => ⟨Tryz.t186, _, by kernel_rfl, rfl, rfl⟩, fun h => Bool.noConfusion h, fun h => Bool.noConfusion h⟩
theorem fit187 : TFits Tryz.prog 187 ti187 := ⟨⟨Tryz.t187, by kernel_rfl, rfl, rfl, _, rfl, rfl⟩, ⟨_, Tryz.underlying187, rfl⟩, fun _ => ⟨Tryz.t187, _, by kernel_rfl, rfl, rfl⟩, fun h => Bool.noConfusion h, fun h => Bool.noConfusion h⟩
theorem fit188 : TFits Tryz.prog 188 ti188 := ⟨⟨Tryz.t188, by kernel_rfl, rfl, rfl, _, rfl, rfl⟩, ⟨_, Tryz.underlying188, rfl⟩, fun _ => ⟨Tryz.t188, _, by kernel_rfl, rfl, rfl⟩, fun h => Bool.noConfusion h, fun h => Bool.noConfusion h⟩
theorem fit189 : TFits Tryz.prog 189 ti189 := ⟨⟨Tryz.t189, by kernel_rfl, rfl, rfl, _, rfl, rfl⟩, ⟨_, Tryz.underlying189, rfl⟩, fun _ => ⟨Tryz.t189, _, by kernel_rfl, rfl, rfl⟩, fun h => Bool.noConfusion h, fun h => Bool.noConfusion h⟩
theorem fit191 : TFits Tryz.prog 191 ti191 := ⟨⟨Tryz.t191, by kernel_rfl, rfl, rfl, _, rfl, rfl⟩, ⟨_, Tryz.underlying191, rfl⟩, fun _ => ⟨Tryz.t191, _, by kernel_rfl, rfl, rfl⟩, fun h => Bool.noConfusion h, fun h => Bool.noConfusion h⟩
theorem fit192 : TFits Tryz.prog 192 ti192 := ⟨⟨Tryz.t192, by kernel_rfl, rfl, rfl, _, rfl, rfl⟩, ⟨_, Tryz.underlying192, rfl⟩, fun _ => ⟨Tryz.t192, _, by kernel_rfl, rfl, rfl⟩, fun h => Bool.noConfusion h, fun h => Bool.noConfusion h⟩
theorem fit193 : TFits Tryz.prog 193 ti193 := ⟨⟨Tryz.t193, by kernel_rfl, rfl, rfl, _, rfl, rfl⟩, ⟨_, Tryz.underlying193, rfl⟩, fun _ => ⟨Tryz.t193, _, by kernel_rfl, rfl, rfl⟩, fun h => Bool.noConfusion h, fun h => Bool.noConfusion h⟩
theorem fit195 : TFits Tryz.prog 195 ti195 := ⟨⟨Tryz.t195, by kernel_rfl, rfl, rfl, _, rfl, rfl⟩, ⟨_, Tryz.underlying195, rfl⟩, fun _ => ⟨Tryz.t195, _, by kernel_rfl, rfl, rfl⟩, fun h => Bool.noConfusion h, fun h => Bool.noConfusion h⟩
theorem fit198 : TFits Tryz.prog 198 ti198 := ⟨⟨Tryz.t198, by kernel_rfl, rfl, rfl, _, rfl, rfl⟩, ⟨_, Tryz.underlying198, rfl⟩, fun _ => ⟨Tryz.t198, _, by kernel_rfl, rfl, rfl⟩, fun h => Bool.noConfusion h, fun h => Bool.noConfusion h⟩
theorem fit200 : TFits Tryz.prog 200 ti200 := ⟨⟨Tryz.t200, by kernel_rfl, rfl, rfl, _, rfl, rfl⟩, ⟨_, Tryz.underlying200, rfl⟩, fun h => Bool.noConfusion h, fun _ => ⟨Tryz.t200, _, by kernel_rfl, rfl, rfl⟩, fun _ => ⟨by kernel_rfl, by kernel_rfl, _, Tryz.underlying200, by kernel_rfl⟩⟩
theorem fit202 : TFits Tryz.prog 202 ti202 := ⟨⟨Tryz.t202, by kernel_rfl, rfl, rfl, _, rfl, rfl⟩, ⟨_, Tryz.underlying202, rfl⟩, fun _ => ⟨Tryz.t202, _, by kernel_rfl, rfl, rfl⟩, fun h => Bool.noConfusion h, fun h => Bool.noConfusion h⟩
theorem fit204 : TFits Tryz.prog 204 ti204 := ⟨⟨Tryz.t204, by kernel_rfl, rfl, rfl, _, rfl, rfl⟩, ⟨_, Tryz.underlying204, rfl⟩, fun h => Bool.noConfusion h, fun _ => ⟨Tryz.t204, _, by kernel_rfl, rfl, rfl⟩, fun _ => ⟨by kernel_rfl, by kernel_rfl, _, Tryz.underlying204, by kernel_rfl⟩⟩
theorem fit207 : TFits Tryz.prog 207 ti207 := ⟨⟨Tryz.t207, by kernel_rfl, rfl, rfl, _, rfl, rfl⟩, ⟨_, Tryz.underlying207, rfl⟩, fun _ => ⟨Tryz.t207, _, by kernel_rfl, rfl, rfl⟩, fun h => Bool.noConfusion h, fun h => Bool.noConfusion h⟩
theorem fit209 : TFits Tryz.prog 209 ti209 := ⟨⟨Tryz.t209, by kernel_rfl, rfl, rfl, _, rfl, rfl⟩, ⟨_, Tryz.underlying209, rfl⟩, fun _ => ⟨Tryz.t209, _, by kernel_rfl, rfl, rfl⟩, fun h => Bool.noConfusion h, fun h => Bool.noConfusion h⟩
theorem fit211 : TFits Tryz.prog 211 ti211 := ⟨⟨Tryz.t211, by kernel_rfl, rfl, rfl, _, rfl, rfl⟩, ⟨_, Tryz.underlying211, rfl⟩, fun h => Bool.noConfusion h, fun _ => ⟨Tryz.t211, _, by kernel_rfl, rfl, rfl⟩, fun _ => ⟨by kernel_rfl, by kernel_rfl, _, Tryz.underlying211, by kernel_rfl⟩⟩
theorem fit212 : TFits Tryz.prog 212 ti212 := ⟨⟨Tryz.t212, by kernel_rfl, rfl, rfl, _, rfl, rfl⟩, ⟨_, Tryz.underlying212, rfl⟩, fun _ => ⟨Tryz.t212, _, by kernel_rfl, rfl, rfl⟩, fun h => Bool.noConfusion h, fun h => Bool.noConfusion h⟩
theorem fit214 : TFits Tryz.prog 214 ti214 := ⟨⟨Tryz.t214, by kernel_rfl, rfl, rfl, _, rfl, rfl⟩, ⟨_, Tryz.underlying214, rfl⟩, fun _ => ⟨Tryz.t214, _, by kernel_rfl, rfl, rfl⟩, fun h => Bool.noConfusion h, fun h => Bool.noConfusion h⟩
theorem fit216 : TFits Tryz.prog 216 ti216 := ⟨⟨Tryz.t216, by kernel_rfl, rfl, rfl, _, rfl, rfl⟩, ⟨_, Tryz.underlying216, rfl⟩, fun h => Bool.noConfusion h, fun _ => ⟨Tryz.t216, _, by kernel_rfl, rfl, rfl⟩, fun _ => ⟨by kernel_rfl, by kernel_rfl, _, Tryz.underlying216, by kernel_rfl⟩⟩
theorem fit218 : TFits Tryz.prog 218 ti218 := ⟨⟨Tryz.t218, by kernel_rfl, rfl, rfl, _, rfl, rfl⟩, ⟨_, Tryz.underlying218, rfl⟩, fun h => Bool.noConfusion h, fun _ => ⟨Tryz.t218, _, by kernel_rfl, rfl, rfl⟩, fun _ => ⟨by kernel_rfl, by kernel_rfl, _, Tryz.underlying218, by kernel_rfl⟩⟩
theorem fit221 : TFits Tryz.prog 221 ti221 := ⟨⟨Tryz.t221, by kernel_rfl, rfl, rfl, _, rfl, rfl⟩, ⟨_, Tryz.underlying221, rfl⟩, fun _ => ⟨Tryz.t221, _, by kernel_rfl, rfl, rfl⟩, fun h => Bool.noConfusion h, fun h => Bool.noConfusion h⟩
theorem fit223 : TFits Tryz.prog 223 ti223 := ⟨⟨Tryz.t223, by kernel_rfl, rfl, rfl, _, rfl, rfl⟩, ⟨_, Tryz.underlying223, rfl⟩, fun h => Bool.noConfusion h, fun _ => ⟨Tryz.t223, _, by kernel_rfl, rfl, rfl⟩, fun _ => ⟨by kernel_rfl, by kernel_rfl, _, Tryz.underlying223, by kernel_rfl⟩⟩
theorem fit228 : TFits Tryz.prog 228 ti228 := ⟨⟨Tryz.t228, by kernel_rfl, rfl, rfl, _, rfl, rfl⟩, ⟨_, Tryz.underlying228, rfl⟩, fun h => Bool.noConfusion h, fun _ => ⟨Tryz.t228, _, by kernel_rfl, rfl, rfl⟩, fun h => Bool.noConfusion h⟩
theorem fit234 : TFits Tryz.prog 234 ti234 := ⟨⟨Tryz.t234, by kernel_rfl, rfl, rfl, _, rfl, rfl⟩, ⟨_, Tryz.underlying234, rfl⟩, fun _ => ⟨Tryz.t234, _, by kernel_rfl, rfl, rfl⟩, fun h => Bool.noConfusion h, fun h => Bool.noConfusion h⟩
theorem fit241 : TFits Tryz.prog 241 ti241 := ⟨⟨Tryz.t241, by kernel_rfl, rfl, rfl, _, rfl, rfl⟩, ⟨_, Tryz.underlying241, rfl⟩, fun _ => ⟨Tryz.t241, _, by kernel_rfl, rfl, rfl⟩, fun h => Bool.noConfusion h, fun h => Bool.noConfusion h⟩
theorem fit243 : TFits Tryz.prog 243 ti243 := ⟨⟨Tryz.t243, by kernel_rfl, rfl, rfl, _, rfl, rfl⟩, ⟨_, Tryz.underlying243, rfl⟩, fun h => Bool.noConfusion h, fun _ => ⟨Tryz.t243, _, by kernel_rfl, rfl, rfl⟩, fun _ => ⟨by kernel_rfl, by kernel_rfl, _, Tryz.underlying243, by kernel_rfl⟩⟩
theorem fit245 : TFits Tryz.prog 245 ti245 := ⟨⟨Tryz.t245, by kernel_rfl, rfl, rfl, _, rfl, rfl⟩, ⟨_, Tryz.underlying245, rfl⟩, fun _ => ⟨Tryz.t245, _, by kernel_rfl, rfl, rfl⟩, fun h => Bool.noConfusion h, fun h => Bool.noConfusion h⟩
theorem fit253 : TFits Tryz.prog 253 ti253 := ⟨⟨Tryz.t253, by kernel_rfl, rfl, rfl, _, rfl, rfl⟩, ⟨_, Tryz.underlying253, rfl⟩, fun _ => ⟨Tryz.t253, _, by kernel_rfl, rfl, rfl⟩, fun h => Bool.noConfusion h, fun h => Bool.noConfusion h⟩
theorem fit254 : TFits Tryz.prog 254 ti254 := ⟨⟨Tryz.t254, by kernel_rfl, rfl, rfl, _, rfl, rfl⟩, ⟨_, Tryz.underlying254, rfl⟩, fun _ => ⟨Tryz.t254, _, by kernel_rfl, rfl, rfl⟩, fun h => Bool.noConfusion h, fun h => Bool.noConfusion h⟩
theorem fit255 : TFits Tryz.prog 255 ti255 := ⟨⟨Tryz.t255, by kernel_rfl, rfl, rfl, _, rfl, rfl⟩, ⟨_, Tryz.underlying255, rfl⟩, fun _ => ⟨Tryz.t255, _, by kernel_rfl, rfl, rfl⟩, fun h => Bool.noConfusion h, fun h => Bool.noConfusion h⟩
theorem fit256 : TFits Tryz.prog 256 ti256 := ⟨⟨Tryz.t256, by kernel_rfl, rfl, rfl, _, rfl, rfl⟩, ⟨_, Tryz.underlying256, rfl⟩, fun h => Bool.noConfusion h, fun _ => ⟨Tryz.t256, _, by kernel_rfl, rfl, rfl⟩, fun h => Bool.noConfusion h⟩
theorem fit258 : TFits Tryz.prog 258 ti258 := ⟨⟨Tryz.t258, by kernel_rfl, rfl, rfl, _, rfl, rfl⟩, ⟨_, Tryz.underlying258, rfl⟩, fun h => Bool.noConfusion h, fun _ => ⟨Tryz.t258, _, by kernel_rfl, rfl, rfl⟩, fun _ => ⟨by kernel_rfl, by kernel_rfl, _, Tryz.underlying258, by kernel_rfl⟩⟩
theorem fit261 : TFits Tryz.prog 261 ti261 := ⟨⟨Tryz.t261, by kernel_rfl, rfl, rfl, _, rfl, rfl⟩, ⟨_, Tryz.underlying261, rfl⟩, fun _ => ⟨Tryz.t261, _, by kernel_rfl, rfl, rfl⟩, fun h => Bool.noConfusion h, fun h => Bool.noConfusion h⟩
theorem fit267 : TFits Tryz.prog 267 ti267 := ⟨⟨Tryz.t267, by kernel_rfl, rfl, rfl, _, rfl, rfl⟩, ⟨_, Tryz.underlying267, rfl⟩, fun _ => ⟨Tryz.t267, _, by kernel_rfl, rfl, rfl⟩, fun h => Bool.noConfusion h, fun h => Bool.noConfusion h⟩
theorem fit269 : TFits Tryz.prog 269 ti269 := ⟨⟨Tryz.t269, by kernel_rfl, rfl, rfl, _, rfl, rfl⟩, ⟨_, Tryz.underlying269, rfl⟩, fun _ => ⟨Tryz.t269, _, by kernel_rfl, rfl, rfl⟩, fun h => Bool.noConfusion h, fun h => Bool.noConfusion h⟩
theorem fit270 : TFits Tryz.prog 270 ti270 := ⟨⟨Tryz.t270, by kernel_rfl, rfl, rfl, _, rfl, rfl⟩, ⟨_, Tryz.underlying270, rfl⟩, fun _ => ⟨Tryz.t270, _, by kernel_rfl, rfl, rfl⟩, fun h => Bool.noConfusion h, fun h => Bool.noConfusion h⟩
theorem fit272 : TFits Tryz.prog 272 ti272 := ⟨⟨Tryz.t272, by kernel_rfl, rfl, rfl, _, rfl, rfl⟩, ⟨_, Tryz.underlying272, rfl⟩, fun _ => ⟨Tryz.t272, _, by kernel_rfl, rfl, rfl⟩, fun h => Bool.noConfusion h, fun h => Bool.noConfusion h⟩
theorem fit276 : TFits Tryz.prog 276 ti276 := ⟨⟨Tryz.t276, by kernel_rfl, rfl, rfl, _, rfl, rfl⟩, ⟨_, Tryz.underlying276, rfl⟩, fun _ => ⟨Tryz.t276, _, by kernel_rfl, rfl, rfl⟩, fun h => Bool.noConfusion h, fun h => Bool.noConfusion h⟩
theorem fit278 : TFits Tryz.prog 278 ti278 := ⟨⟨Tryz.t278, by kernel_rfl, rfl, rfl, _, rfl, rfl⟩, ⟨_, Tryz.underlying278, rfl⟩, fun _ => ⟨Tryz.t278, _, by kernel_rfl, rfl, rfl⟩, fun h => Bool.noConfusion h, fun h => Bool.noConfusion h⟩
theorem fit280 : TFits Tryz.prog 280 ti280 := ⟨⟨Tryz.t280, by kernel_rfl, rfl, rfl, _, rfl, rfl⟩, ⟨_, Tryz.underlying280, rfl⟩, fun _ => ⟨Tryz.t280, _, by kernel_rfl, rfl, rfl⟩, fun h => Bool.noConfusion h, fun h => Bool.noConfusion h⟩
theorem fit286 : TFits Tryz.prog 286 ti286 := ⟨⟨Tryz.t286, by kernel_rfl, rfl, rfl, _, rfl, rfl⟩, ⟨_, Tryz.underlying286, rfl⟩, fun h => Bool.noConfusion h, fun _ => ⟨Tryz.t286, _, by kernel_rfl, rfl, rfl⟩, fun _ => ⟨by kernel_rfl, by kernel_rfl, _, Tryz.underlying286, by kernel_rfl⟩⟩
theorem fit288 : TFits Tryz.prog 288 ti288 := ⟨⟨Tryz.t288, by kernel_rfl, rfl, rfl, _, rfl, rfl⟩, ⟨_, Tryz.underlying288, rfl⟩, fun _ => ⟨Tryz.t288, _, by kernel_rfl, rfl, rfl⟩, fun h => Bool.noConfusion h, fun h => Bool.noConfusion h⟩
theorem fit290 : TFits Tryz.prog 290 ti290 := ⟨⟨Tryz.t290, by kernel_rfl, rfl, rfl, _, rfl, rfl⟩, ⟨_, Tryz.underlying290, rfl⟩, fun h => Bool.noConfusion h, fun _ => ⟨Tryz.t290, _, by kernel_rfl, rfl, rfl⟩, fun _ => ⟨by kernel_rfl, by kernel_rfl, _, Tryz.underlying290, by kernel_rfl⟩⟩
theorem fit294 : TFits Tryz.prog 294 ti294 := ⟨⟨Tryz.t294, by kernel_rfl, rfl, rfl, _, rfl, rfl⟩, ⟨_, Tryz.underlying294, rfl⟩, fun h => Bool.noConfusion h, fun _ => ⟨Tryz.t294, _, by kernel_rfl, rfl, rfl⟩, fun _ => ⟨by kernel_rfl, by kernel_rfl, _, Tryz.underlying294, by kernel_rfl⟩⟩
theorem fit296 : TFits Tryz.prog 296 ti296 := ⟨⟨Tryz.t296, by kernel_rfl, rfl, rfl, _, rfl, rfl⟩, ⟨_, Tryz.underlying296, rfl⟩, fun h => Bool.noConfusion h, fun _ => ⟨Tryz.t296, _, by kernel_rfl, rfl, rfl⟩, fun h => Bool.noConfusion h⟩
theorem fit298 : TFits Tryz.prog 298 ti298 := ⟨⟨Tryz.t298, by kernel_rfl, rfl, rfl, _, rfl, rfl⟩, ⟨_, Tryz.underlying298, rfl⟩, fun h => Bool.noConfusion h, fun _ => ⟨Tryz.t298, _, by kernel_rfl, rfl, rfl⟩, fun _ => ⟨by kernel_rfl, by kernel_rfl, _, Tryz.underlying298, by kernel_rfl⟩⟩
theorem fit299 : TFits Tryz.prog 299 ti299 := ⟨⟨Tryz.t299, by kernel_rfl, rfl, rfl, _, rfl, rfl⟩, ⟨_, Tryz.underlying299, rfl⟩, fun _ => ⟨Tryz.t299, _, by kernel_rfl, rfl, rfl⟩, fun h => Bool.noConfusion h, fun h => Bool.noConfusion h⟩
theorem fit301 : TFits Tryz.prog 301 ti301 := ⟨⟨Tryz.t301, by kernel_rfl, rfl, rfl, _, rfl, rfl⟩, ⟨_, Tryz.underlying301, rfl⟩, fun h => Bool.noConfusion h, fun _ => ⟨Tryz.t301, _, by kernel_rfl, rfl, rfl⟩, fun _ => ⟨by kernel_rfl, by kernel_rfl, _, Tryz.underlying301, by kernel_rfl⟩⟩
theorem fit308 : TFits Tryz.prog 308 ti308 := ⟨⟨Tryz.t308, by kernel_rfl, rfl, rfl, _, rfl, rfl⟩, ⟨_, Tryz.underlying308, rfl⟩, fun _ => ⟨Tryz.t308, _, by kernel_rfl, rfl, rfl⟩, fun h => Bool.noConfusion h, fun h => Bool.noConfusion h⟩
theorem fit310 : TFits Tryz.prog 310 ti310 := ⟨⟨Tryz.t310, by kernel_rfl, rfl, rfl, _, rfl, rfl⟩, ⟨_, Tryz.underlying310, rfl⟩, fun _ => ⟨Tryz.t310, _, by kernel_rfl, rfl, rfl⟩, fun h => Bool.noConfusion h, fun h => Bool.noConfusion h⟩
theorem fit317 : TFits Tryz.prog 317 ti317 := ⟨⟨Tryz.t317, by kernel_rfl, rfl, rfl, _, rfl, rfl⟩, ⟨_, Tryz.underlying317, rfl⟩, fun _ => ⟨Tryz.t317, _, by kernel_rfl, rfl, rfl⟩, fun h => Bool.noConfusion h, fun h => Bool.noConfusion h⟩
theorem fit319 : TFits Tryz.prog 319 ti319 := ⟨⟨Tryz.t319, by kernel_rfl, rfl, rfl, _, rfl, rfl⟩, ⟨_, Tryz.underlying319, rfl⟩, fun _ => ⟨Tryz.t319, _, by kernel_rfl, rfl, rfl⟩, fun h => Bool.noConfusion h, fun h => Bool.noConfusion h⟩
theorem fit323 : TFits Tryz.prog 323 ti323 := ⟨⟨Tryz.t323, by kernel_rfl, rfl, rfl, _, rfl, rfl⟩, ⟨_, Tryz.underlying323, rfl⟩, fun h => Bool.noConfusion h, fun _ => ⟨Tryz.t323, _, by kernel_rfl, rfl, rfl⟩, fun _ => ⟨by kernel_rfl, by kernel_rfl, _, Tryz.underlying323, by kernel_rfl⟩⟩
theorem fit325 : TFits Tryz.prog 325 ti325 := ⟨⟨Tryz.t325, by kernel_rfl, rfl, rfl, _, rfl, rfl⟩, ⟨_, Tryz.underlying325, rfl⟩, fun _ => ⟨Tryz.t325, _, by kernel_rfl, rfl, rfl⟩, fun h => Bool.noConfusion h, fun h => Bool.noConfusion h⟩
theorem fit327 : TFits Tryz.prog 327 ti327 := ⟨⟨Tryz.t327, by kernel_rfl, rfl, rfl, _, rfl, rfl⟩, ⟨_, Tryz.underlying327, rfl⟩, fun _ => ⟨Tryz.t327, _, by kernel_rfl, rfl, rfl⟩, fun h => Bool.noConfusion h, fun h => Bool.noConfusion h⟩
theorem fit329 : TFits Tryz.prog 329 ti329 := ⟨⟨Tryz.t329, by kernel_rfl, rfl, rfl, _, rfl, rfl⟩, ⟨_, Tryz.underlying329, rfl⟩, fun _ => ⟨Tryz.t329, _, by kernel_rfl, rfl, rfl⟩, fun h => Bool.noConfusion h, fun h => Bool.noConfusion h⟩
theorem fit331 : TFits Tryz.prog 331 ti331 := ⟨⟨Tryz.t331, by kernel_rfl, rfl, rfl, _, rfl, rfl⟩, ⟨_, Tryz.underlying331, rfl⟩, fun _ => ⟨Tryz.t331, _, by kernel_rfl, rfl, rfl⟩, fun h => Bool.noConfusion h, fun h => Bool.noConfusion h⟩
theorem fit338 : TFits Tryz.prog 338 ti338 := ⟨⟨Tryz.t338, by kernel_rfl, rfl, rfl, _, rfl, rfl⟩, ⟨_, Tryz.underlying338, rfl⟩, fun _ => ⟨Tryz.t338, _, by kernel_rfl, rfl, rfl⟩, fun h => Bool.noConfusion h, fun h => Bool.noConfusion h⟩
theorem fit344 : TFits Tryz.prog 344 ti344 := ⟨⟨Tryz.t344, by kernel_rfl, rfl, rfl, _, rfl, rfl⟩, ⟨_, Tryz.underlying344, rfl⟩, fun h => Bool.noConfusion h, fun _ => ⟨Tryz.t344, _, by kernel_rfl, rfl, rfl⟩, fun _ => ⟨by kernel_rfl, by kernel_rfl, _, Tryz.underlying344, by kernel_rfl⟩⟩
theorem fit345 : TFits Tryz.prog 345 ti345 := ⟨⟨Tryz.t345, by kernel_rfl, rfl, rfl, _, rfl, rfl⟩, ⟨_, Tryz.underlying345, rfl⟩, fun h => Bool.noConfusion h, fun _ => ⟨Tryz.t345, _, by kernel_rfl, rfl, rfl⟩, fun h => Bool.noConfusion h⟩
theorem fit356 : TFits Tryz.prog 356 ti356 := ⟨⟨Tryz.t356, by kernel_rfl, rfl, rfl, _, rfl, rfl⟩, ⟨_, Tryz.underlying356, rfl⟩, fun _ => ⟨Tryz.t356, _, by kernel_rfl, rfl, rfl⟩, fun h => Bool.noConfusion h, fun h => Bool.noConfusion h⟩
theorem fit357 : TFits Tryz.prog 357 ti357 := ⟨⟨Tryz.t357, by kernel_rfl, rfl, rfl, _, rfl, rfl⟩, ⟨_, Tryz.underlying357, rfl⟩, fun _ => ⟨Tryz.t357, _, by kernel_rfl, rfl, rfl⟩, fun h => Bool.noConfusion h, fun h => Bool.noConfusion h⟩
theorem fit359 : TFits Tryz.prog 359 ti359 := ⟨⟨Tryz.t359, by kernel_rfl, rfl, rfl, _, rfl, rfl⟩, ⟨_, Tryz.underlying359, rfl⟩, fun _ => ⟨Tryz.t359, _, by kernel_rfl, rfl, rfl⟩, fun h => Bool.noConfusion h, fun h => Bool.noConfusion h⟩
theorem fit363 : TFits Tryz.prog 363 ti363 := ⟨⟨Tryz.t363, by kernel_rfl, rfl, rfl, _, rfl, rfl⟩, ⟨_, Tryz.underlying363, rfl⟩, fun _ => ⟨Tryz.t363, _, by kernel_rfl, rfl, rfl⟩, fun h => Bool.noConfusion h, fun h => Bool.noConfusion h⟩
theorem fit366 : TFits Tryz.prog 366 ti366 := ⟨⟨Tryz.t366, by kernel_rfl, rfl, rfl, _, rfl, rfl⟩, ⟨_, Tryz.underlying366, rfl⟩, fun h => Bool.noConfusion h, fun _ => ⟨Tryz.t366, _, by kernel_rfl, rfl, rfl⟩, fun _ => ⟨by kernel_rfl, by kernel_rfl, _, Tryz.underlying366, by kernel_rfl⟩⟩
theorem fit367 : TFits Tryz.prog 367 ti367 := ⟨⟨Tryz.t367, by kernel_rfl, rfl, rfl, _, rfl, rfl⟩, ⟨_, Tryz.underlying367, rfl⟩, fun _ => ⟨Tryz.t367, _, by kernel_rfl, rfl, rfl⟩, fun h => Bool.noConfusion h, fun h => Bool.noConfusion h⟩
theorem fit385 : TFits Tryz.prog 385 ti385 := ⟨⟨Tryz.t385, by kernel_rfl, rfl, rfl, _, rfl, rfl⟩, ⟨_, Tryz.underlying385, rfl⟩, fun _ => ⟨Tryz.t385, _, by kernel_rfl, rfl, rfl⟩, fun h => Bool.noConfusion h, fun h => Bool.noConfusion h⟩
theorem fit389 : TFits Tryz.prog 389 ti389 := ⟨⟨Tryz.t389, by kernel_rfl, rfl, rfl, _, rfl, rfl⟩, ⟨_, Tryz.underlying389, rfl⟩, fun h => Bool.noConfusion h, fun _ => ⟨Tryz.t389, _, by kernel_rfl, rfl, rfl⟩, fun h => Bool.noConfusion h⟩
theorem fit399 : TFits Tryz.prog 399 ti399 := ⟨⟨Tryz.t399, by kernel_rfl, rfl, rfl, _, rfl, rfl⟩, ⟨_, Tryz.underlying399, rfl⟩, fun _ => ⟨Tryz.t399, _, by kernel_rfl, rfl, rfl⟩, fun h => Bool.noConfusion h, fun h => Bool.noConfusion h⟩
theorem fit414 : TFits Tryz.prog 414 ti414 := ⟨⟨Tryz.t414, by kernel_rfl, rfl, rfl, _, rfl, rfl⟩, ⟨_, Tryz.underlying414, rfl⟩, fun h => Bool.noConfusion h, fun _ => ⟨Tryz.t414, _, by kernel_rfl, rfl, rfl⟩, fun h => Bool.noConfusion h⟩
theorem fit420 : TFits Tryz.prog 420 ti420 := ⟨⟨Tryz.t420, by kernel_rfl, rfl, rfl, _, rfl, rfl⟩, ⟨_, Tryz.underlying420, rfl⟩, fun h => Bool.noConfusion h, fun _ => ⟨Tryz.t420, _, by kernel_rfl, rfl, rfl⟩, fun h => Bool.noConfusion h⟩
theorem fit423 : TFits Tryz.prog 423 ti423 := ⟨⟨Tryz.t423, by kernel_rfl, rfl, rfl, _, rfl, rfl⟩, ⟨_, Tryz.underlying423, rfl⟩, fun h => Bool.noConfusion h, fun _ => ⟨Tryz.t423, _, by kernel_rfl, rfl, rfl⟩, fun h => Bool.noConfusion h⟩
theorem fit425 : TFits Tryz.prog 425 ti425 := ⟨⟨Tryz.t425, by kernel_rfl, rfl, rfl, _, rfl, rfl⟩, ⟨_, Tryz.underlying425, rfl⟩, fun h => Bool.noConfusion h, fun _ => ⟨Tryz.t425, _, by kernel_rfl, rfl, rfl⟩, fun h => Bool.noConfusion h⟩
theorem fit426 : TFits Tryz.prog 426 ti426 := ⟨⟨Tryz.t426, by kernel_rfl, rfl, rfl, _, rfl, rfl⟩, ⟨_, Tryz.underlying426, rfl⟩, fun h => Bool.noConfusion h, fun _ => ⟨Tryz.t426, _, by kernel_rfl, rfl, rfl⟩, fun h => Bool.noConfusion h⟩
theorem fit428 : TFits Tryz.prog 428 ti428 := ⟨⟨Tryz.t428, by kernel_rfl, rfl, rfl, _, rfl, rfl⟩, ⟨_, Tryz.underlying428, rfl⟩, fun h => Bool.noConfusion h, fun _ => ⟨Tryz.t428, _, by kernel_rfl, rfl, rfl⟩, fun h => Bool.noConfusion h⟩
theorem fit429 : TFits Tryz.prog 429 ti429 := ⟨⟨Tryz.t429, by kernel_rfl, rfl, rfl, _, rfl, rfl⟩, ⟨_, Tryz.underlying429, rfl⟩, fun _ => ⟨Tryz.t429, _, by kernel_rfl, rfl, rfl⟩, fun h => Bool.noConfusion h, fun h => Bool.noConfusion h⟩
theorem fit430 : TFits Tryz.prog 430 ti430 := ⟨⟨Tryz.t430, by kernel_rfl, rfl, rfl, _, rfl, rfl⟩, ⟨_, Tryz.underlying430, rfl⟩, fun _ => ⟨Tryz.t430, _, by kernel_rfl, rfl, rfl⟩, fun h => Bool.noConfusion h, fun h => Bool.noConfusion h⟩
theorem fit431 : TFits Tryz.prog 431 ti431 := ⟨⟨Tryz.t431, by kernel_rfl, rfl, rfl, _, rfl, rfl⟩, ⟨_, Tryz.underlying431, rfl⟩, fun _ => ⟨Tryz.t431, _, by kernel_rfl, rfl, rfl⟩, fun h => Bool.noConfusion h, fun h => Bool.noConfusion h⟩
theorem fit432 : TFits Tryz.prog 432 ti432 := ⟨⟨Tryz.t432, by kernel_rfl, rfl, rfl, _, rfl, rfl⟩, ⟨_, Tryz.underlying432, rfl⟩, fun _ => ⟨Tryz.t432, _, by kernel_rfl, rfl, rfl⟩, fun h => Bool.noConfusion h, fun h => Bool.noConfusion h⟩
theorem fit433 : TFits Tryz.prog 433 ti433 := ⟨⟨Tryz.t433, by kernel_rfl, rfl, rfl, _, rfl, rfl⟩, ⟨_, Tryz.underlying433, rfl⟩, fun _ => ⟨Tryz.t433, _, by kernel_rfl, rfl, rfl⟩, fun h => Bool.noConfusion h, fun h => Bool.noConfusion h⟩
theorem fit435 : TFits Tryz.prog 435 ti435 := ⟨⟨Tryz.t435, by kernel_rfl, rfl, rfl, _, rfl, rfl⟩, ⟨_, Tryz.underlying435, rfl⟩, fun h => Bool.noConfusion h, fun _ => ⟨Tryz.t435, _, by kernel_rfl, rfl, rfl⟩, fun h => Bool.noConfusion h⟩
set_option maxRecDepth 100000 in
theorem ty_ok : TOk Tryz.prog TY := tok_cons fit1 (tok_cons fit2 (tok_cons fit3 (tok_cons fit4 (tok_cons fit5 (tok_cons fit6 (tok_cons fit7 (tok_cons fit8 (tok_cons fit9 (tok_cons fit10 (tok_cons fit11 (tok_cons fit12 (tok_cons fit13 (tok_cons fit14 (tok_cons fit15 (tok_cons fit16 (tok_cons fit17 (tok_cons fit18 (tok_cons fit19 (tok_cons fit20 (tok_cons fit21 (tok_cons fit22 (tok_cons fit23 (tok_cons fit24 (tok_cons fit25 (tok_cons fit26 (tok_cons fit27 (tok_cons fit28 (tok_cons fit29 (tok_cons fit30 (tok_cons fit31 (tok_cons fit32 (tok_cons fit33 (tok_cons fit34 (tok_cons fit35 (tok_cons fit36 (tok_cons fit37 (tok_cons fit38 (tok_cons fit39 (tok_cons fit40 (tok_cons fit41 (tok_cons fit42 (tok_cons fit43 (tok_cons fit44 (tok_cons fit45 (tok_cons fit46 (tok_cons fit47 (tok_cons fit48 (tok_cons fit49 (tok_cons fit50 (tok_cons fit51 (tok_cons fit52 (tok_cons fit53 (tok_cons fit54 (tok_cons fit55 (tok_cons fit56 (tok_cons fit57 (tok_cons fit58 (tok_cons fit59 (tok_cons fit60 (tok_cons fit61 (tok_cons fit62 (tok_cons fit63 (tok_cons fit64 (tok_cons fit65 (tok_cons fit66 (tok_cons fit68 (tok_cons fit69 (tok_cons fit70 (tok_cons fit71 (tok_cons fit72 (tok_cons fit73 (tok_cons fit74 (tok_cons fit75 (tok_cons fit76 (tok_cons fit77 (tok_cons fit78 (tok_cons fit79 (tok_cons fit80 (tok_cons fit81 (tok_cons fit82 (tok_cons fit83 (tok_cons fit84 (tok_cons fit85 (tok_cons fit86 (tok_cons fit88 (tok_cons fit89 (tok_cons fit90 (tok_cons fit91 (tok_cons fit92 (tok_cons fit93 (tok_cons fit94 (tok_cons fit95 (tok_cons fit96 (tok_cons fit97 (tok_cons fit99 (tok_cons fit100 (tok_cons fit101 (tok_cons fit102 (tok_cons fit103 (tok_cons fit104 (tok_cons fit105 (tok_cons fit106 (tok_cons fit108 (tok_cons fit110 (tok_cons fit112 (tok_cons fit113 (tok_cons fit114 (tok_cons fit115 (tok_cons fit116 (tok_cons fit117 (tok_cons fit118 (tok_cons fit119 (tok_cons fit120 (tok_cons fit121 (tok_cons fit122 (tok_cons fit123 (tok_cons fit124 (tok_cons fit125 (tok_cons fit126 (tok_cons fit127 (tok_cons fit128 (tok_cons fit129 (tok_cons fit130 (tok_cons fit131 (tok_cons fit132 (tok_cons fit134 (tok_cons fit135 (tok_cons fit136 (tok_cons fit137 (tok_cons fit138 (tok_cons fit139 (tok_cons fit140 (tok_cons fit141 (tok_cons fit142 (tok_cons fit143 (tok_cons fit144 (tok_cons fit145 (tok_cons fit146 (tok_cons fit147 (tok_cons fit149 (tok_cons fit150 (tok_cons fit151 (tok_cons fit152 (tok_cons fit153 (tok_cons fit154 (tok_cons fit155 (tok_cons fit156 (tok_cons fit157 (tok_cons fit158 (tok_cons fit159 (tok_cons fit160 (tok_cons fit161 (tok_cons fit162 (tok_cons fit164 (tok_cons fit165 (tok_cons fit166 (tok_cons fit167 (tok_cons fit168 (tok_cons fit169 (tok_cons fit170 (tok_cons fit171 (tok_cons fit172 (tok_cons fit173 (tok_cons fit174 (tok_cons fit175 (tok_cons fit176 (tok_cons fit178 (tok_cons fit179 (tok_cons fit180 (tok_cons fit182 (tok_cons fit186 (tok_cons fit187 (tok_cons fit188 (tok_cons fit189 (tok_cons fit191 (tok_cons fit192 (tok_cons fit193 (tok_cons fit195 (tok_cons fit198 (tok_cons fit200 (tok_cons fit202 (tok_cons fit204 (tok_cons fit207 (tok_cons fit209 (tok_cons fit211 (tok_cons fit212 (tok_cons fit214 (tok_cons fit216 (tok_cons fit218 (tok_cons fit221 (tok_cons fit223 (tok_cons fit228 (tok_cons fit234 (tok_cons fit241 (tok_cons fit243 (tok_cons fit245 (tok_cons fit253 (tok_cons fit254 (tok_cons fit255 (tok_cons fit256 (tok_cons fit258 (tok_cons fit261 (tok_cons fit267 (tok_cons fit269 (tok_cons fit270 (tok_cons fit272 (tok_cons fit276 (tok_cons fit278 (tok_cons fit280 (tok_cons fit286 (tok_cons fit288 (tok_cons fit290 (tok_cons fit294 (tok_cons fit296 (tok_cons fit298 (tok_cons fit299 (tok_cons fit301 (tok_cons fit308 (tok_cons fit310 (tok_cons fit317 (tok_cons fit319 (tok_cons fit323 (tok_cons fit325 (tok_cons fit327 (tok_cons fit329 (tok_cons fit331 (tok_cons fit338 (tok_cons fit344 (tok_cons fit345 (tok_cons fit356 (tok_cons fit357 (tok_cons fit359 (tok_cons fit363 (tok_cons fit366 (tok_cons fit367 (tok_cons fit385 (tok_cons fit389 (tok_cons fit399 (tok_cons fit414 (tok_cons fit420 (tok_cons fit423 (tok_cons fit425 (tok_cons fit426 (tok_cons fit428 (tok_cons fit429 (tok_cons fit430 (tok_cons fit431 (tok_cons fit432 (tok_cons fit433 (tok_cons fit435 ((fun p hp => by cases hp))))))))))))))))))))))))))))))))))))))))))))))))))))))))))))))))))))))))))))))))))))))))))))))))))))))))))))))))))))))))))))))))))))))))))))))))))))))))))))))))))))))))))))))))))))))))))))))))))))))))))))))))))))))))))))))))))))))))))))))))))))))))))))
theorem tab : Tab Tryz.prog TY := ⟨ty_ok, by kernel_rfl⟩
end Go.Proofs.YtijdnjngfkohfaaGreatDoor
