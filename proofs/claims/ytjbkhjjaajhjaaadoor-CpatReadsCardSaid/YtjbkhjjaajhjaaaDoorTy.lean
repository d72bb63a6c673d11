/- The types of the program, as far as the operations ask: a table, and that the loaded program bears it out. -/
import Derived.Test.YtjbkhjjaajhjaaaDoorAbsC
import Derived.Test.YtjbkhjjaajhjaaaDoorProg
import Derived.KernelRfl
set_option linter.unusedVariables false
set_option linter.unusedSimpArgs false
namespace Go.Proofs.YtjbkhjjaajhjaaaDoor
open Go Go.Abs
theorem tok_cons {P : Program} {t : TypeId} {ti : TI} {T : TT} (h : TFits P t ti) (k : TOk P T) : TOk P ((t, ti) :: T) := fun p hp => by
  rcases List.mem_cons.1 hp with rfl | hp
  · exact h
  · exact k p hp
def ti1 : TI := ⟨.func, 1, 8, [.nilFunc], false⟩
def ti2 : TI := ⟨.int .i64, 1, 8, [.int .i64 0], false⟩
def ti3 : TI := ⟨.int .i64, 1, 8, [.int .i64 0], false⟩
def ti4 : TI := ⟨.bool, 1, 1, [.bool false], false⟩
def ti5 : TI := ⟨.int .u8, 1, 1, [.int .u8 0], false⟩
def ti6 : TI := ⟨.int .u8, 1, 1, [.int .u8 0], false⟩
def ti7 : TI := ⟨.struct [(0, 2), (1, 3), (2, 4), (3, 6)], 4, 24, [.int .i64 0, .int .i64 0, .bool false, .int .u8 0], true⟩
def ti8 : TI := ⟨.struct [(0, 2), (1, 3), (2, 4), (3, 6)], 4, 24, [.int .i64 0, .int .i64 0, .bool false, .int .u8 0], true⟩
def ti9 : TI := ⟨.str, 1, 16, [.string ⟨⟨[]⟩⟩], false⟩
def ti10 : TI := ⟨.str, 1, 16, [.string ⟨⟨[]⟩⟩], false⟩
def ti11 : TI := ⟨.str, 1, 16, [.string ⟨⟨[]⟩⟩], false⟩
def ti12 : TI := ⟨.int .u64, 1, 8, [.int .u64 0], false⟩
def ti13 : TI := ⟨.struct [(0, 9), (1, 12)], 2, 24, [.string ⟨⟨[]⟩⟩, .int .u64 0], false⟩
def ti14 : TI := ⟨.struct [(0, 9), (1, 12)], 2, 24, [.string ⟨⟨[]⟩⟩, .int .u64 0], false⟩
def ti15 : TI := ⟨.ptr 104, 1, 8, [.pointer none], false⟩
def ti16 : TI := ⟨.ptr 107, 1, 8, [.pointer none], false⟩
def ti17 : TI := ⟨.ptr 114, 1, 8, [.pointer none], false⟩
def ti18 : TI := ⟨.struct [(0, 17)], 1, 8, [.pointer none], false⟩
def ti19 : TI := ⟨.struct [(0, 17)], 1, 8, [.pointer none], false⟩
def ti20 : TI := ⟨.iface, 1, 16, [.nilIface], false⟩
def ti21 : TI := ⟨.int .i32, 1, 4, [.int .i32 0], false⟩
def ti22 : TI := ⟨.func, 1, 8, [.nilFunc], false⟩
def ti23 : TI := ⟨.slice 60, 1, 24, [.slice none 0 0], false⟩
def ti24 : TI := ⟨.struct [(0, 23), (1, 23)], 2, 48, [.slice none 0 0, .slice none 0 0], true⟩
def ti25 : TI := ⟨.struct [(0, 23), (1, 23)], 2, 48, [.slice none 0 0, .slice none 0 0], true⟩
def ti26 : TI := ⟨.struct [(0, 25), (2, 25), (4, 4), (5, 3), (6, 3), (7, 3), (8, 3), (9, 3), (10, 3)], 11, 152, [.slice none 0 0, .slice none 0 0, .slice none 0 0, .slice none 0 0, .bool false, .int .i64 0, .int .i64 0, .int .i64 0, .int .i64 0, .int .i64 0, .int .i64 0], true⟩
def ti27 : TI := ⟨.struct [(0, 25), (2, 25), (4, 4), (5, 3), (6, 3), (7, 3), (8, 3), (9, 3), (10, 3)], 11, 152, [.slice none 0 0, .slice none 0 0, .slice none 0 0, .slice none 0 0, .bool false, .int .i64 0, .int .i64 0, .int .i64 0, .int .i64 0, .int .i64 0, .int .i64 0], true⟩
def ti28 : TI := ⟨.struct [(0, 3), (1, 4), (2, 27)], 13, 168, [.int .i64 0, .bool false, .slice none 0 0, .slice none 0 0, .slice none 0 0, .slice none 0 0, .bool false, .int .i64 0, .int .i64 0, .int .i64 0, .int .i64 0, .int .i64 0, .int .i64 0], true⟩
def ti29 : TI := ⟨.struct [(0, 3), (1, 4), (2, 27)], 13, 168, [.int .i64 0, .bool false, .slice none 0 0, .slice none 0 0, .slice none 0 0, .slice none 0 0, .bool false, .int .i64 0, .int .i64 0, .int .i64 0, .int .i64 0, .int .i64 0, .int .i64 0], true⟩
def ti30 : TI := ⟨.int .i64, 1, 8, [.int .i64 0], false⟩
def ti32 : TI := ⟨.func, 1, 8, [.nilFunc], false⟩
def ti34 : TI := ⟨.func, 1, 8, [.nilFunc], false⟩
def ti35 : TI := ⟨.func, 1, 8, [.nilFunc], false⟩
def ti36 : TI := ⟨.func, 1, 8, [.nilFunc], false⟩
def ti37 : TI := ⟨.func, 1, 8, [.nilFunc], false⟩
def ti38 : TI := ⟨.func, 1, 8, [.nilFunc], false⟩
def ti39 : TI := ⟨.func, 1, 8, [.nilFunc], false⟩
def ti40 : TI := ⟨.func, 1, 8, [.nilFunc], false⟩
def ti41 : TI := ⟨.func, 1, 8, [.nilFunc], false⟩
def ti42 : TI := ⟨.func, 1, 8, [.nilFunc], false⟩
def ti43 : TI := ⟨.struct [(0, 3)], 1, 8, [.int .i64 0], true⟩
def ti44 : TI := ⟨.struct [(0, 3)], 1, 8, [.int .i64 0], true⟩
def ti46 : TI := ⟨.ptr 48, 1, 8, [.pointer none], false⟩
def ti47 : TI := ⟨.struct [(0, 9), (1, 3)], 2, 24, [.string ⟨⟨[]⟩⟩, .int .i64 0], true⟩
def ti48 : TI := ⟨.struct [(0, 9), (1, 3)], 2, 24, [.string ⟨⟨[]⟩⟩, .int .i64 0], true⟩
def ti49 : TI := ⟨.func, 1, 8, [.nilFunc], false⟩
def ti50 : TI := ⟨.func, 1, 8, [.nilFunc], false⟩
def ti52 : TI := ⟨.func, 1, 8, [.nilFunc], false⟩
def ti53 : TI := ⟨.func, 1, 8, [.nilFunc], false⟩
def ti54 : TI := ⟨.func, 1, 8, [.nilFunc], false⟩
def ti55 : TI := ⟨.ptr 27, 1, 8, [.pointer none], false⟩
def ti56 : TI := ⟨.func, 1, 8, [.nilFunc], false⟩
def ti57 : TI := ⟨.func, 1, 8, [.nilFunc], false⟩
def ti58 : TI := ⟨.int .i64, 1, 8, [.int .i64 0], false⟩
def ti59 : TI := ⟨.struct [(0, 58), (1, 9), (2, 3)], 3, 32, [.int .i64 0, .string ⟨⟨[]⟩⟩, .int .i64 0], true⟩
def ti60 : TI := ⟨.struct [(0, 58), (1, 9), (2, 3)], 3, 32, [.int .i64 0, .string ⟨⟨[]⟩⟩, .int .i64 0], true⟩
def ti62 : TI := ⟨.func, 1, 8, [.nilFunc], false⟩
def ti64 : TI := ⟨.func, 1, 8, [.nilFunc], false⟩
def ti65 : TI := ⟨.func, 1, 8, [.nilFunc], false⟩
def ti66 : TI := ⟨.ptr 69, 1, 8, [.pointer none], false⟩
def ti67 : TI := ⟨.slice 5, 1, 24, [.slice none 0 0], false⟩
def ti68 : TI := ⟨.struct [(0, 66), (1, 67)], 2, 32, [.pointer none, .slice none 0 0], true⟩
def ti69 : TI := ⟨.struct [(0, 66), (1, 67)], 2, 32, [.pointer none, .slice none 0 0], true⟩
def ti70 : TI := ⟨.iface, 1, 16, [.nilIface], false⟩
def ti71 : TI := ⟨.iface, 1, 16, [.nilIface], false⟩
def ti73 : TI := ⟨.func, 1, 8, [.nilFunc], false⟩
def ti74 : TI := ⟨.func, 1, 8, [.nilFunc], false⟩
def ti76 : TI := ⟨.int .u64, 1, 8, [.int .u64 0], false⟩
def ti77 : TI := ⟨.struct [(0, 5), (1, 5)], 2, 2, [.int .u8 0, .int .u8 0], true⟩
def ti78 : TI := ⟨.struct [(0, 5), (1, 5)], 2, 2, [.int .u8 0, .int .u8 0], true⟩
def ti79 : TI := ⟨.array 16 78, 32, 32, [.int .u8 0, .int .u8 0, .int .u8 0, .int .u8 0, .int .u8 0, .int .u8 0, .int .u8 0, .int .u8 0, .int .u8 0, .int .u8 0, .int .u8 0, .int .u8 0, .int .u8 0, .int .u8 0, .int .u8 0, .int .u8 0, .int .u8 0, .int .u8 0, .int .u8 0, .int .u8 0, .int .u8 0, .int .u8 0, .int .u8 0, .int .u8 0, .int .u8 0, .int .u8 0, .int .u8 0, .int .u8 0, .int .u8 0, .int .u8 0, .int .u8 0, .int .u8 0], false⟩
def ti80 : TI := ⟨.array 5 9, 5, 80, [.string ⟨⟨[]⟩⟩, .string ⟨⟨[]⟩⟩, .string ⟨⟨[]⟩⟩, .string ⟨⟨[]⟩⟩, .string ⟨⟨[]⟩⟩], false⟩
def ti81 : TI := ⟨.func, 1, 8, [.nilFunc], false⟩
def ti82 : TI := ⟨.slice 3, 1, 24, [.slice none 0 0], false⟩
def ti83 : TI := ⟨.func, 1, 8, [.nilFunc], false⟩
def ti84 : TI := ⟨.func, 1, 8, [.nilFunc], false⟩
def ti85 : TI := ⟨.ptr 5, 1, 8, [.pointer none], false⟩
def ti87 : TI := ⟨.func, 1, 8, [.nilFunc], false⟩
def ti88 : TI := ⟨.func, 1, 8, [.nilFunc], false⟩
def ti89 : TI := ⟨.func, 1, 8, [.nilFunc], false⟩
def ti90 : TI := ⟨.func, 1, 8, [.nilFunc], false⟩
def ti91 : TI := ⟨.uptr, 1, 8, [.pointer none], false⟩
def ti92 : TI := ⟨.func, 1, 8, [.nilFunc], false⟩
def ti93 : TI := ⟨.func, 1, 8, [.nilFunc], false⟩
def ti94 : TI := ⟨.int .u32, 1, 4, [.int .u32 0], false⟩
def ti96 : TI := ⟨.func, 1, 8, [.nilFunc], false⟩
def ti97 : TI := ⟨.int .u64, 1, 8, [.int .u64 0], false⟩
def ti99 : TI := ⟨.func, 1, 8, [.nilFunc], false⟩
def ti100 : TI := ⟨.func, 1, 8, [.nilFunc], false⟩
def ti101 : TI := ⟨.func, 1, 8, [.nilFunc], false⟩
def ti102 : TI := ⟨.func, 1, 8, [.nilFunc], false⟩
def ti103 : TI := ⟨.struct [(0, 17), (1, 17), (2, 17), (3, 9)], 4, 40, [.pointer none, .pointer none, .pointer none, .string ⟨⟨[]⟩⟩], false⟩
def ti104 : TI := ⟨.struct [(0, 17), (1, 17), (2, 17), (3, 9)], 4, 40, [.pointer none, .pointer none, .pointer none, .string ⟨⟨[]⟩⟩], false⟩
def ti105 : TI := ⟨.array 0 16, 0, 0, [], false⟩
def ti106 : TI := ⟨.struct [(0, 105)], 0, 0, [], false⟩
def ti107 : TI := ⟨.struct [(0, 105)], 0, 0, [], false⟩
def ti108 : TI := ⟨.int .u8, 1, 1, [.int .u8 0], false⟩
def ti109 : TI := ⟨.int .u8, 1, 1, [.int .u8 0], false⟩
def ti110 : TI := ⟨.func, 1, 8, [.nilFunc], false⟩
def ti111 : TI := ⟨.int .i32, 1, 4, [.int .i32 0], false⟩
def ti112 : TI := ⟨.int .i32, 1, 4, [.int .i32 0], false⟩
def ti113 : TI := ⟨.struct [(0, 12), (1, 12), (2, 94), (3, 108), (4, 5), (5, 5), (6, 109), (7, 110), (8, 85), (9, 111), (10, 112)], 11, 48, [.int .u64 0, .int .u64 0, .int .u32 0, .int .u8 0, .int .u8 0, .int .u8 0, .int .u8 0, .nilFunc, .pointer none, .int .i32 0, .int .i32 0], false⟩
def ti114 : TI := ⟨.struct [(0, 12), (1, 12), (2, 94), (3, 108), (4, 5), (5, 5), (6, 109), (7, 110), (8, 85), (9, 111), (10, 112)], 11, 48, [.int .u64 0, .int .u64 0, .int .u32 0, .int .u8 0, .int .u8 0, .int .u8 0, .int .u8 0, .nilFunc, .pointer none, .int .i32 0, .int .i32 0], false⟩
def TY : TT := [(1, ti1), (2, ti2), (3, ti3), (4, ti4), (5, ti5), (6, ti6), (7, ti7), (8, ti8), (9, ti9), (10, ti10), (11, ti11), (12, ti12), (13, ti13), (14, ti14), (15, ti15), (16, ti16), (17, ti17), (18, ti18), (19, ti19), (20, ti20), (21, ti21), (22, ti22), (23, ti23), (24, ti24), (25, ti25), (26, ti26), (27, ti27), (28, ti28), (29, ti29), (30, ti30), (32, ti32), (34, ti34), (35, ti35), (36, ti36), (37, ti37), (38, ti38), (39, ti39), (40, ti40), (41, ti41), (42, ti42), (43, ti43), (44, ti44), (46, ti46), (47, ti47), (48, ti48), (49, ti49), (50, ti50), (52, ti52), (53, ti53), (54, ti54), (55, ti55), (56, ti56), (57, ti57), (58, ti58), (59, ti59), (60, ti60), (62, ti62), (64, ti64), (65, ti65), (66, ti66), (67, ti67), (68, ti68), (69, ti69), (70, ti70), (71, ti71), (73, ti73), (74, ti74), (76, ti76), (77, ti77), (78, ti78), (79, ti79), (80, ti80), (81, ti81), (82, ti82), (83, ti83), (84, ti84), (85, ti85), (87, ti87), (88, ti88), (89, ti89), (90, ti90), (91, ti91), (92, ti92), (93, ti93), (94, ti94), (96, ti96), (97, ti97), (99, ti99), (100, ti100), (101, ti101), (102, ti102), (103, ti103), (104, ti104), (105, ti105), (106, ti106), (107, ti107), (108, ti108), (109, ti109), (110, ti110), (111, ti111), (112, ti112), (113, ti113), (114, ti114)]
theorem fit1 : TFits Tryd.prog 1 ti1 := ⟨⟨Tryd.t1, by kernel_rfl, rfl, rfl, _, rfl, rfl⟩, ⟨_, Tryd.underlying1, rfl⟩, fun _ => ⟨Tryd.t1, _, by kernel_rfl, rfl, rfl⟩, fun h => Bool.noConfusion h, fun h => Bool.noConfusion h⟩
theorem fit2 : TFits Tryd.prog 2 ti2 := ⟨⟨Tryd.t2, by kernel_rfl, rfl, rfl, _, rfl, rfl⟩, ⟨_, Tryd.underlying2, rfl⟩, fun _ => ⟨Tryd.t2, _, by kernel_rfl, rfl, rfl⟩, fun h => Bool.noConfusion h, fun h => Bool.noConfusion h⟩
theorem fit3 : TFits Tryd.prog 3 ti3 := ⟨⟨Tryd.t3, by kernel_rfl, rfl, rfl, _, rfl, rfl⟩, ⟨_, Tryd.underlying3, rfl⟩, fun _ => ⟨Tryd.t3, _, by kernel_rfl, rfl, rfl⟩, fun h => Bool.noConfusion h, fun h => Bool.noConfusion h⟩
theorem fit4 : TFits Tryd.prog 4 ti4 := ⟨⟨Tryd.t4, by kernel_rfl, rfl, rfl, _, rfl, rfl⟩, ⟨_, Tryd.underlying4, rfl⟩, fun _ => ⟨Tryd.t4, _, by kernel_rfl, rfl, rfl⟩, fun h => Bool.noConfusion h, fun h => Bool.noConfusion h⟩
theorem fit5 : TFits Tryd.prog 5 ti5 := ⟨⟨Tryd.t5, by kernel_rfl, rfl, rfl, _, rfl, rfl⟩, ⟨_, Tryd.underlying5, rfl⟩, fun _ => ⟨Tryd.t5, _, by kernel_rfl, rfl, rfl⟩, fun h => Bool.noConfusion h, fun h => Bool.noConfusion h⟩
theorem fit6 : TFits Tryd.prog 6 ti6 := ⟨⟨Tryd.t6, by kernel_rfl, rfl, rfl, _, rfl, rfl⟩, ⟨_, Tryd.underlying6, rfl⟩, fun _ => ⟨Tryd.t6, _, by kernel_rfl, rfl, rfl⟩, fun h => Bool.noConfusion h, fun h => Bool.noConfusion h⟩
theorem fit7 : TFits Tryd.prog 7 ti7 := ⟨⟨Tryd.t7, by kernel_rfl, rfl, rfl, _, rfl, rfl⟩, ⟨_, Tryd.underlying7, rfl⟩, fun h => Bool.noConfusion h, fun _ => ⟨Tryd.t7, _, by kernel_rfl, rfl, rfl⟩, fun _ => ⟨by kernel_rfl, by kernel_rfl, _, Tryd.underlying7, by kernel_rfl⟩⟩
theorem fit8 : TFits Tryd.prog 8 ti8 := ⟨⟨Tryd.t8, by kernel_rfl, rfl, rfl, _, rfl, rfl⟩, ⟨_, Tryd.underlying8, rfl⟩, fun h => Bool.noConfusion h, fun _ => ⟨Tryd.t8, _, by kernel_rfl, rfl, rfl⟩, fun _ => ⟨by kernel_rfl, by kernel_rfl, _, Tryd.underlying8, by kernel_rfl⟩⟩
theorem fit9 : TFits Tryd.prog 9 ti9 := ⟨⟨Tryd.t9, by kernel_rfl, rfl, rfl, _, rfl, rfl⟩, ⟨_, Tryd.underlying9, rfl⟩, fun _ => ⟨Tryd.t9, _, by kernel_rfl, rfl, rfl⟩, fun h => Bool.noConfusion h, fun h => Bool.noConfusion h⟩
theorem fit10 : TFits Tryd.prog 10 ti10 := ⟨⟨Tryd.t10, by kernel_rfl, rfl, rfl, _, rfl, rfl⟩, ⟨_, Tryd.underlying10, rfl⟩, fun _ => ⟨Tryd.t10, _, by kernel_rfl, rfl, rfl⟩, fun h => Bool.noConfusion h, fun h => Bool.noConfusion h⟩
theorem fit11 : TFits Tryd.prog 11 ti11 := ⟨⟨Tryd.t11, by kernel_rfl, rfl, rfl, _, rfl, rfl⟩, ⟨_, Tryd.underlying11, rfl⟩, fun _ => ⟨Tryd.t11, _, by kernel_rfl, rfl, rfl⟩, fun h => Bool.noConfusion h, fun h => Bool.noConfusion h⟩
theorem fit12 : TFits Tryd.prog 12 ti12 := ⟨⟨Tryd.t12, by kernel_rfl, rfl, rfl, _, rfl, rfl⟩, ⟨_, Tryd.underlying12, rfl⟩, fun _ => ⟨Tryd.t12, _, by kernel_rfl, rfl, rfl⟩, fun h => Bool.noConfusion h, fun h => Bool.noConfusion h⟩
theorem fit13 : TFits Tryd.prog 13 ti13 := ⟨⟨Tryd.t13, by kernel_rfl, rfl, rfl, _, rfl, rfl⟩, ⟨_, Tryd.underlying13, rfl⟩, fun h => Bool.noConfusion h, fun _ => ⟨Tryd.t13, _, by kernel_rfl, rfl, rfl⟩, fun h => Bool.noConfusion h⟩
theorem fit14 : TFits Tryd.prog 14 ti14 := ⟨⟨Tryd.t14, by kernel_rfl, rfl, rfl, _, rfl, rfl⟩, ⟨_, Tryd.underlying14, rfl⟩, fun h => Bool.noConfusion h, fun _ => ⟨Tryd.t14, _, by kernel_rfl, rfl, rfl⟩, fun h => Bool.noConfusion h⟩
theorem fit15 : TFits Tryd.prog 15 ti15 := ⟨⟨Tryd.t15, by kernel_rfl, rfl, rfl, _, rfl, rfl⟩, ⟨_, Tryd.underlying15, rfl⟩, fun _ => ⟨Tryd.t15, _, by kernel_rfl, rfl, rfl⟩, fun h => Bool.noConfusion h, fun h => Bool.noConfusion h⟩
theorem fit16 : TFits Tryd.prog 16 ti16 := ⟨⟨Tryd.t16, by kernel_rfl, rfl, rfl, _, rfl, rfl⟩, ⟨_, Tryd.underlying16, rfl⟩, fun _ => ⟨Tryd.t16, _, by kernel_rfl, rfl, rfl⟩, fun h => Bool.noConfusion h, fun h => Bool.noConfusion h⟩
theorem fit17 : TFits Tryd.prog 17 ti17 := ⟨⟨Tryd.t17, by kernel_rfl, rfl, rfl, _, rfl, rfl⟩, ⟨_, Tryd.underlying17, rfl⟩, fun _ => ⟨Tryd.t17, _, by kernel_rfl, rfl, rfl⟩, fun h => Bool.noConfusion h, fun h => Bool.noConfusion h⟩
theorem fit18 : TFits Tryd.prog 18 ti18 := ⟨⟨Tryd.t18, by kernel_rfl, rfl, rfl, _, rfl, rfl⟩, ⟨_, Tryd.underlying18, rfl⟩, fun h => Bool.noConfusion h, fun _ => ⟨Tryd.t18, _, by kernel_rfl, rfl, rfl⟩, fun h => Bool.noConfusion h⟩
theorem fit19 : TFits Tryd.prog 19 ti19 := ⟨⟨Tryd.t19, by kernel_rfl, rfl, rfl, _, rfl, rfl⟩, ⟨_, Tryd.underlying19, rfl⟩, fun h => Bool.noConfusion h, fun _ => ⟨Tryd.t19, _, by kernel_rfl, rfl, rfl⟩, fun h => Bool.noConfusion h⟩
theorem fit20 : TFits Tryd.prog 20 ti20 := ⟨⟨Tryd.t20, by kernel_rfl, rfl, rfl, _, rfl, rfl⟩, ⟨_, Tryd.underlying20, rfl⟩, fun _ => ⟨Tryd.t20, _, by kernel_rfl, rfl, rfl⟩, fun h => Bool.noConfusion h, fun h => Bool.noConfusion h⟩
theorem fit21 : TFits Tryd.prog 21 ti21 := ⟨⟨Tryd.t21, by kernel_rfl, rfl, rfl, _, rfl, rfl⟩, ⟨_, Tryd.underlying21, rfl⟩, fun _ => ⟨Tryd.t21, _, by kernel_rfl, rfl, rfl⟩, fun h => Bool.noConfusion h, fun h => Bool.noConfusion h⟩
theorem fit22 : TFits Tryd.prog 22 ti22 := ⟨⟨Tryd.t22, by kernel_rfl, rfl, rfl, _, rfl, rfl⟩, ⟨_, Tryd.underlying22, rfl⟩, fun _ => ⟨Tryd.t22, _, by kernel_rfl, rfl, rfl⟩, fun h => Bool.noConfusion h, fun h => Bool.noConfusion h⟩
theorem fit23 : TFits Tryd.prog 23 ti23 := ⟨⟨Tryd.t23, by kernel_rfl, rfl, rfl, _, rfl, rfl⟩, ⟨_, Tryd.underlying23, rfl⟩, fun _ => ⟨Tryd.t23, _, by kernel_rfl, rfl, rfl⟩, fun h => Bool.noConfusion h, fun h => Bool.noConfusion h⟩
theorem fit24 : TFits Tryd.prog 24 ti24 := ⟨⟨Tryd.t24, by kernel_rfl, rfl, rfl, _, rfl, rfl⟩, ⟨_, Tryd.underlying24, rfl⟩, fun h => Bool.noConfusion h, fun _ => ⟨Tryd.t24, _, by kernel_rfl, rfl, rfl⟩, fun _ => ⟨by kernel_rfl, by kernel_rfl, _, Tryd.underlying24, by kernel_rfl⟩⟩
theorem fit25 : TFits Tryd.prog 25 ti25 := ⟨⟨Tryd.t25, by kernel_rfl, rfl, rfl, _, rfl, rfl⟩, ⟨_, Tryd.underlying25, rfl⟩, fun h => Bool.noConfusion h, fun _ => ⟨Tryd.t25, _, by kernel_rfl, rfl, rfl⟩, fun _ => ⟨by kernel_rfl, by kernel_rfl, _, Tryd.underlying25, by kernel_rfl⟩⟩
theorem fit26 : TFits Tryd.prog 26 ti26 := ⟨⟨Tryd.t26, by kernel_rfl, rfl, rfl, _, rfl, rfl⟩, ⟨_, Tryd.underlying26, rfl⟩, fun h => Bool.noConfusion h, fun _ => ⟨Tryd.t26, _, by kernel_rfl, rfl, rfl⟩, fun _ => ⟨by kernel_rfl, by kernel_rfl, _, Tryd.underlying26, by kernel_rfl⟩⟩
theorem fit27 : TFits Tryd.prog 27 ti27 := ⟨⟨Tryd.t27, by kernel_rfl, rfl, rfl, _, rfl, rfl⟩, ⟨_, Tryd.underlying27, rfl⟩, fun h => Bool.noConfusion h, fun _ => ⟨Tryd.t27, _, by kernel_rfl, rfl, rfl⟩, fun _ => ⟨by kernel_rfl, by kernel_rfl, _, Tryd.underlying27, by kernel_rfl⟩⟩
theorem fit28 : TFits Tryd.prog 28 ti28 := ⟨⟨Tryd.t28, by kernel_rfl, rfl, rfl, _, rfl, rfl⟩, ⟨_, Tryd.underlying28, rfl⟩, fun h => Bool.noConfusion h, fun _ => ⟨Tryd.t28, _, by kernel_rfl, rfl, rfl⟩, fun _ => ⟨by kernel_rfl, by kernel_rfl, _, Tryd.underlying28, by kernel_rfl⟩⟩
theorem fit29 : TFits Tryd.prog 29 ti29 := ⟨⟨Tryd.t29, by kernel_rfl, rfl, rfl, _, rfl, rfl⟩, ⟨_, Tryd.underlying29, rfl⟩, fun h => Bool.noConfusion h, fun _ => ⟨Tryd.t29, _, by kernel_rfl, rfl, rfl⟩, fun _ => ⟨by kernel_rfl, by kernel_rfl, _, Tryd.underlying29, by kernel_rfl⟩⟩
theorem fit30 : TFits Tryd.prog 30 ti30 := ⟨⟨Tryd.t30, by kernel_rfl, rfl, rfl, _, rfl, rfl⟩, ⟨_, Tryd.underlying30, rfl⟩, fun _ => ⟨Tryd.t30, _, by kernel_rfl, rfl, rfl⟩, fun h => Bool.noConfusion h, fun h => Bool.noConfusion h⟩
theorem fit32 : TFits Tryd.prog 32 ti32 := ⟨⟨Tryd.t32, by kernel_rfl, rfl, rfl, _, rfl, rfl⟩, ⟨_, Tryd.underlying32, rfl⟩, fun _ => ⟨Tryd.t32, _, by kernel_rfl, rfl, rfl⟩, fun h => Bool.noConfusion h, fun h => Bool.noConfusion h⟩
theorem fit34 : TFits Tryd.prog 34 ti34 := ⟨⟨Tryd.t34, by kernel_rfl, rfl, rfl, _, rfl, rfl⟩, ⟨_, Tryd.underlying34, rfl⟩, fun _ => ⟨Tryd.t34, _, by kernel_rfl, rfl, rfl⟩, fun h => Bool.noConfusion h, fun h => Bool.noConfusion h⟩
theorem fit35 : TFits Tryd.prog 35 ti35 := ⟨⟨Tryd.t35, by kernel_rfl, rfl, rfl, _, rfl, rfl⟩, ⟨_, Tryd.underlying35, rfl⟩, fun _ => ⟨Tryd.t35, _, by kernel_rfl, rfl, rfl⟩, fun h => Bool.noConfusion h, fun h => Bool.noConfusion h⟩
theorem fit36 : TFits Tryd.prog 36 ti36 := ⟨⟨Tryd.t36, by kernel_rfl, rfl, rfl, _, rfl, rfl⟩, ⟨_, Tryd.underlying36, rfl⟩, fun _ => ⟨Tryd.t36, _, by kernel_rfl, rfl, rfl⟩, fun h => Bool.noConfusion h, fun h => Bool.noConfusion h⟩
theorem fit37 : TFits Tryd.prog 37 ti37 := ⟨⟨Tryd.t37, by kernel_rfl, rfl, rfl, _, rfl, rfl⟩, ⟨_, Tryd.underlying37, rfl⟩, fun _ => ⟨Tryd.t37, _, by kernel_rfl, rfl, rfl⟩, fun h => Bool.noConfusion h, fun h => Bool.noConfusion h⟩
theorem fit38 : TFits Tryd.prog 38 ti38 := ⟨⟨Tryd.t38, by kernel_rfl, rfl, rfl, _, rfl, rfl⟩, ⟨_, Tryd.underlying38, rfl⟩, fun _ => ⟨Tryd.t38, _, by kernel_rfl, rfl, rfl⟩, fun h => Bool.noConfusion h, fun h => Bool.noConfusion h⟩
theorem fit39 : TFits Tryd.prog 39 ti39 := ⟨⟨Tryd.t39, by kernel_rfl, rfl, rfl, _, rfl, rfl⟩, ⟨_, Tryd.underlying39, rfl⟩, fun _ => ⟨Tryd.t39, _, by kernel_rfl, rfl, rfl⟩, fun h => Bool.noConfusion h, fun h => Bool.noConfusion h⟩
theorem fit40 : TFits Tryd.prog 40 ti40 := ⟨⟨Tryd.t40, by kernel_rfl, rfl, rfl, _, rfl, rfl⟩, ⟨_, Tryd.underlying40, rfl⟩, fun _ => ⟨Tryd.t40, _, by kernel_rfl, rfl, rfl⟩, fun h => Bool.noConfusion h, fun h => Bool.noConfusion h⟩
theorem fit41 : TFits Tryd.prog 41 ti41 := ⟨⟨Tryd.t41, by kernel_rfl, rfl, rfl, _, rfl, rfl⟩, ⟨_, Tryd.underlying41, rfl⟩, fun _ => ⟨Tryd.t41, _, by kernel_rfl, rfl, rfl⟩, fun h => Bool.noConfusion h, fun h => Bool.noConfusion h⟩
theorem fit42 : TFits Tryd.prog 42 ti42 := ⟨⟨Tryd.t42, by kernel_rfl, rfl, rfl, _, rfl, rfl⟩, ⟨_, Tryd.underlying42, rfl⟩, fun _ => ⟨Tryd.t42, _, by kernel_rfl, rfl, rfl⟩, fun h => Bool.noConfusion h, fun h => Bool.noConfusion h⟩
theorem fit43 : TFits Tryd.prog 43 ti43 := ⟨⟨Tryd.t43, by kernel_rfl, rfl, rfl, _, rfl, rfl⟩, ⟨_, Tryd.underlying43, rfl⟩, fun h => Bool.noConfusion h, fun _ => ⟨Tryd.t43, _, by kernel_rfl, rfl, rfl⟩, fun _ => ⟨by kernel_rfl, by kernel_rfl, _, Tryd.underlying43, by kernel_rfl⟩⟩
theorem fit44 : TFits Tryd.prog 44 ti44 := ⟨⟨Tryd.t44, by kernel_rfl, rfl, rfl, _, rfl, rfl⟩, ⟨_, Tryd.underlying44, rfl⟩, fun h => Bool.noConfusion h, fun _ => ⟨Tryd.t44, _, by kernel_rfl, rfl, rfl⟩, fun _ => ⟨by kernel_rfl, by kernel_rfl, _, Tryd.underlying44, by kernel_rfl⟩⟩
theorem fit46 : TFits Tryd.prog 46 ti46 := ⟨⟨Tryd.t46, by kernel_rfl, rfl, rfl, _, rfl, rfl⟩, ⟨_, Tryd.underlying46, rfl⟩, fun _ => ⟨Tryd.t46, _, by kernel_rfl, rfl, rfl⟩, fun h => Bool.noConfusion h, fun h => Bool.noConfusion h⟩
theorem fit47 : TFits Tryd.prog 47 ti47 := ⟨⟨Tryd.t47, by kernel_rfl, rfl, rfl, _, rfl, rfl⟩, ⟨_, Tryd.underlying47, rfl⟩, fun h => Bool.noConfusion h, fun _ => ⟨Tryd.t47, _, by kernel_rfl, rfl, rfl⟩, fun _ => ⟨by kernel_rfl, by kernel_rfl, _, Tryd.underlying47, by kernel_rfl⟩⟩
theorem fit48 : TFits Tryd.prog 48 ti48 := ⟨⟨Tryd.t48, by kernel_rfl, rfl, rfl, _, rfl, rfl⟩, ⟨_, Tryd.underlying48, rfl⟩, fun h => Bool.noConfusion h, fun _ => ⟨Tryd.t48, _, by kernel_rfl, rfl, rfl⟩, fun _ => ⟨by kernel_rfl, by kernel_rfl, _, Tryd.underlying48, by kernel_rfl⟩⟩
theorem fit49 : TFits Tryd.prog 49 ti49 := ⟨⟨Tryd.t49, by kernel_rfl, rfl, rfl, _, rfl, rfl⟩, ⟨_, Tryd.underlying49, rfl⟩, fun _ => ⟨Tryd.t49, _, by kernel_rfl, rfl, rfl⟩, fun h => Bool.noConfusion h, fun h => Bool.noConfusion h⟩
theorem fit50 : TFits Tryd.prog 50 ti50 := ⟨⟨Tryd.t50, by kernel_rfl, rfl, rfl, _, rfl, rfl⟩, ⟨_, Tryd.underlying50, rfl⟩, fun _ => ⟨Tryd.t50, _, by kernel_rfl, rfl, rfl⟩, fun h => Bool.noConfusion h, fun h => Bool.noConfusion h⟩
theorem fit52 : TFits Tryd.prog 52 ti52 := ⟨⟨Tryd.t52, by kernel_rfl, rfl, rfl, _, rfl, rfl⟩, ⟨_, Tryd.underlying52, rfl⟩, fun _ => ⟨Tryd.t52, _, by kernel_rfl, rfl, rfl⟩, fun h => Bool.noConfusion h, fun h => Bool.noConfusion h⟩
theorem fit53 : TFits Tryd.prog 53 ti53 := ⟨⟨Tryd.t53, by kernel_rfl, rfl, rfl, _, rfl, rfl⟩, ⟨_, Tryd.underlying53, rfl⟩, fun _ => ⟨Tryd.t53, _, by kernel_rfl, rfl, rfl⟩, fun h => Bool.noConfusion h, fun h => Bool.noConfusion h⟩
theorem fit54 : TFits Tryd.prog 54 ti54 := ⟨⟨Tryd.t54, by kernel_rfl, rfl, rfl, _, rfl, rfl⟩, ⟨_, Tryd.underlying54, rfl⟩, fun _ => ⟨Tryd.t54, _, by kernel_rfl, rfl, rfl⟩, fun h => Bool.noConfusion h, fun h => Bool.noConfusion h⟩
theorem fit55 : TFits Tryd.prog 55 ti55 := ⟨⟨Tryd.t55, by kernel_rfl, rfl, rfl, _, rfl, rfl⟩, ⟨_, Tryd.underlying55, rfl⟩, fun _ => ⟨Tryd.t55, _, by kernel_rfl, rfl, rfl⟩, fun h => Bool.noConfusion h, fun h => Bool.noConfusion h⟩
theorem fit56 : TFits Tryd.prog 56 ti56 := ⟨⟨Tryd.t56, by kernel_rfl, rfl, rfl, _, rfl, rfl⟩, ⟨_, Tryd.underlying56, rfl⟩, fun _ => ⟨Tryd.t56, _, by kernel_rfl, rfl, rfl⟩, fun h => Bool.noConfusion h, fun h => Bool.noConfusion h⟩
theorem fit57 : TFits Tryd.prog 57 ti57 := ⟨⟨Tryd.t57, by kernel_rfl, rfl, rfl, _, rfl, rfl⟩, ⟨_, Tryd.underlying57, rfl⟩, fun _ => ⟨Tryd.t57, _, by kernel_rfl, rfl, rfl⟩, fun h => Bool.noConfusion h, fun h => Bool.noConfusion h⟩
theorem fit58 : TFits Tryd.prog 58 ti58 := ⟨⟨Tryd.t58, by kernel_rfl, rfl, rfl, _, rfl, rfl⟩, ⟨_, Tryd.underlying58, rfl⟩, fun _ => ⟨Tryd.t58, _, by kernel_rfl, rfl, rfl⟩, fun h => Bool.noConfusion h, fun h => Bool.noConfusion h⟩
theorem fit59 : TFits Tryd.prog 59 ti59 := ⟨⟨Tryd.t59, by kernel_rfl, rfl, rfl, _, rfl, rfl⟩, ⟨_, Tryd.underlying59, rfl⟩, fun h => Bool.noConfusion h, fun _ => ⟨Tryd.t59, _, by kernel_rfl, rfl, rfl⟩, fun _ => ⟨by kernel_rfl, by kernel_rfl, _, Tryd.underlying59, by kernel_rfl⟩⟩
theorem fit60 : TFits Tryd.prog 60 ti60 := ⟨⟨Tryd.t60, by kernel_rfl, rfl, rfl, _, rfl, rfl⟩, ⟨_, Tryd.underlying60, rfl⟩, fun h => Bool.noConfusion h, fun _ => ⟨Tryd.t60, _, by kernel_rfl, rfl, rfl⟩, fun _ => ⟨by kernel_rfl, by kernel_rfl, _, Tryd.underlying60, by kernel_rfl⟩⟩
theorem fit62 : TFits Tryd.prog 62 ti62 := ⟨⟨Tryd.t62, by kernel_rfl, rfl, rfl, _, rfl, rfl⟩, ⟨_, Tryd.underlying62, rfl⟩, fun _ => ⟨Tryd.t62, _, by kernel_rfl, rfl, rfl⟩, fun h => Bool.noConfusion h, fun h => Bool.noConfusion h⟩
theorem fit64 : TFits Tryd.prog 64 ti64 := ⟨⟨Tryd.t64, by kernel_rfl, rfl, rfl, _, rfl, rfl⟩, ⟨_, Tryd.underlying64, rfl⟩, fun _ => ⟨Tryd.t64, _, by kernel_rfl, rfl, rfl⟩, fun h => Bool.noConfusion h, fun h => Bool.noConfusion h⟩
theorem fit65 : TFits Tryd.prog 65 ti65 := ⟨⟨Tryd.t65, by kernel_rfl, rfl, rfl, _, rfl, rfl⟩, ⟨_, Tryd.underlying65, rfl⟩, fun _ => ⟨Tryd.t65, _, by kernel_rfl, rfl, rfl⟩, fun h => Bool.noConfusion h, fun h => Bool.noConfusion h⟩
theorem fit66 : TFits Tryd.prog 66 ti66 := ⟨⟨Tryd.t66, by kernel_rfl, rfl, rfl, _, rfl, rfl⟩, ⟨_, Tryd.underlying66, rfl⟩, fun _ => ⟨Tryd.t66, _, by kernel_rfl, rfl, rfl⟩, fun h => Bool.noConfusion h, fun h => Bool.noConfusion h⟩
theorem fit67 : TFits Tryd.prog 67 ti67 := ⟨⟨Tryd.t67, by kernel_rfl, rfl, rfl, _, rfl, rfl⟩, ⟨_, Tryd.underlying67, rfl⟩, fun _ => ⟨Tryd.t67, _, by kernel_rfl, rfl, rfl⟩, fun h => Bool.noConfusion h, fun h => Bool.noConfusion h⟩
theorem fit68 : TFits Tryd.prog 68 ti68 := ⟨⟨Tryd.t68, by kernel_rfl, rfl, rfl, _, rfl, rfl⟩, ⟨_, Tryd.underlying68, rfl⟩, fun h => Bool.noConfusion h, fun _ => ⟨Tryd.t68, _, by kernel_rfl, rfl, rfl⟩, fun _ => ⟨by kernel_rfl, by kernel_rfl, _, Tryd.underlying68, by kernel_rfl⟩⟩
theorem fit69 : TFits Tryd.prog 69 ti69 := ⟨⟨Tryd.t69, by kernel_rfl, rfl, rfl, _, rfl, rfl⟩, ⟨_, Tryd.underlying69, rfl⟩, fun h => Bool.noConfusion h, fun _ => ⟨Tryd.t69, _, by kernel_rfl, rfl, rfl⟩, fun _ => ⟨by kernel_rfl, by kernel_rfl, _, Tryd.underlying69, by kernel_rfl⟩⟩
theorem fit70 : TFits Tryd.prog 70 ti70 := ⟨⟨Tryd.t70, by kernel_rfl, rfl, rfl, _, rfl, rfl⟩, ⟨_, Tryd.underlying70, rfl⟩, fun _ => ⟨Tryd.t70, _, by kernel_rfl, rfl, rfl⟩, fun h => Bool.noConfusion h, fun h => Bool.noConfusion h⟩
theorem fit71 : TFits Tryd.prog 71 ti71 := ⟨⟨Tryd.t71, by kernel_rfl, rfl, rfl, _, rfl, rfl⟩, ⟨_, Tryd.underlying71, rfl⟩, fun _ => ⟨Tryd.t71, _, by kernel_rfl, rfl, rfl⟩, fun h => Bool.noConfusion h, fun h => Bool.noConfusion h⟩
theorem fit73 : TFits Tryd.prog 73 ti73 := ⟨⟨Tryd.t73, by kernel_rfl, rfl, rfl, _, rfl, rfl⟩, ⟨_, Tryd.underlying73, rfl⟩, fun _ => ⟨Tryd.t73, _, by kernel_rfl, rfl, rfl⟩, fun h => Bool.noConfusion h, fun h => Bool.noConfusion h⟩
theorem fit74 : TFits Tryd.prog 74 ti74 := ⟨⟨Tryd.t74, by kernel_rfl, rfl, rfl, _, rfl, rfl⟩, ⟨_, Tryd.underlying74, rfl⟩, fun _ => ⟨Tryd.t74, _, by kernel_rfl, rfl, rfl⟩, fun h => Bool.noConfusion h, fun h => Bool.noConfusion h⟩
theorem fit76 : TFits Tryd.prog 76 ti76 := ⟨⟨Tryd.t76, by kernel_rfl, rfl, rfl, _, rfl, rfl⟩, ⟨_, Tryd.underlying76, rfl⟩, fun _ => ⟨Tryd.t76, _, by kernel_rfl, rfl, rfl⟩, fun h => Bool.noConfusion h, fun h => Bool.noConfusion h⟩
theorem fit77 : TFits Tryd.prog 77 ti77 := ⟨⟨Tryd.t77, by kernel_rfl, rfl, rfl, _, rfl, rfl⟩, ⟨_, Tryd.underlying77, rfl⟩, fun h => Bool.noConfusion h, fun _ => ⟨Tryd.t77, _, by kernel_rfl, rfl, rfl⟩, fun _ => ⟨by kernel_rfl, by kernel_rfl, _, Tryd.underlying77, by kernel_rfl⟩⟩
theorem fit78 : TFits Tryd.prog 78 ti78 := ⟨⟨Tryd.t78, by kernel_rfl, rfl, rfl, _, rfl, rfl⟩, ⟨_, Tryd.underlying78, rfl⟩, fun h => Bool.noConfusion h, fun _ => ⟨Tryd.t78, _, by kernel_rfl, rfl, rfl⟩, fun _ => ⟨by kernel_rfl, by kernel_rfl, _, Tryd.underlying78, by kernel_rfl⟩⟩
theorem fit79 : TFits Tryd.prog 79 ti79 := ⟨⟨Tryd.t79, by kernel_rfl, rfl, rfl, _, rfl, rfl⟩, ⟨_, Tryd.underlying79, rfl⟩, fun h => Bool.noConfusion h, fun _ => ⟨Tryd.t79, _, by kernel_rfl, rfl, rfl⟩, fun h => Bool.noConfusion h⟩
theorem fit80 : TFits Tryd.prog 80 ti80 := ⟨⟨Tryd.t80, by kernel_rfl, rfl, rfl, _, rfl, rfl⟩, ⟨_, Tryd.underlying80, rfl⟩, fun h => Bool.noConfusion h, fun _ => ⟨Tryd.t80, _, by kernel_rfl, rfl, rfl⟩, fun h => Bool.noConfusion h⟩
theorem fit81 : TFits Tryd.prog 81 ti81 := ⟨⟨Tryd.t81, by kernel_rfl, rfl, rfl, _, rfl, rfl⟩, ⟨_, Tryd.underlying81, rfl⟩, fun _ => ⟨Tryd.t81, _, by kernel_rfl, rfl, rfl⟩, fun h => Bool.noConfusion h, fun h => Bool.noConfusion h⟩
theorem fit82 : TFits Tryd.prog 82 ti82 := ⟨⟨Tryd.t82, by kernel_rfl, rfl, rfl, _, rfl, rfl⟩, ⟨_, Tryd.underlying82, rfl⟩, fun _ => ⟨Tryd.t82, _, by kernel_rfl, rfl, rfl⟩, fun h => Bool.noConfusion h, fun h => Bool.noConfusion h⟩
theorem fit83 : TFits Tryd.prog 83 ti83 := ⟨⟨Tryd.t83, by kernel_rfl, rfl, rfl, _, rfl, rfl⟩, ⟨_, Tryd.underlying83, rfl⟩, fun _ => ⟨Tryd.t83, _, by kernel_rfl, rfl, rfl⟩, fun h => Bool.noConfusion h, fun h => Bool.noConfusion h⟩
theorem fit84 : TFits Tryd.prog 84 ti84 := ⟨⟨Tryd.t84, by kernel_rfl, rfl, rfl, _, rfl, rfl⟩, ⟨_, Tryd.underlying84, rfl⟩, fun _ => ⟨Tryd.t84, _, by kernel_rfl, rfl, rfl⟩, fun h => Bool.noConfusion h, fun h => Bool.noConfusion h⟩
theorem fit85 : TFits Tryd.prog 85 ti85 := ⟨⟨Tryd.t85, by kernel_rfl, rfl, rfl, _, rfl, rfl⟩, ⟨_, Tryd.underlying85, rfl⟩, fun _ => ⟨Tryd.t85, _, by kernel_rfl, rfl, rfl⟩, fun h => Bool.noConfusion h, fun h => Bool.noConfusion h⟩
theorem fit87 : TFits Tryd.prog 87 ti87 := ⟨⟨Tryd.t87, by kernel_rfl, rfl, rfl, _, rfl, rfl⟩, ⟨_, Tryd.underlying87, rfl⟩, fun _ => ⟨Tryd.t87, _, by kernel_rfl, rfl, rfl⟩, fun h => Bool.noConfusion h, fun h => Bool.noConfusion h⟩
theorem fit88 : TFits Tryd.prog 88 ti88 := ⟨⟨Tryd.t88, by kernel_rfl, rfl, rfl, _, rfl, rfl⟩, ⟨_, Tryd.underlying88, rfl⟩, fun _ => ⟨Tryd.t88, _, by kernel_rfl, rfl, rfl⟩, fun h => Bool.noConfusion h, fun h => Bool.noConfusion h⟩
theorem fit89 : TFits Tryd.prog 89 ti89 := ⟨⟨Tryd.t89, by kernel_rfl, rfl, rfl, _, rfl, rfl⟩, ⟨_, Tryd.underlying89, rfl⟩, fun _ => ⟨Tryd.t89, _, by kernel_rfl, rfl, rfl⟩, fun h => Bool.noConfusion h, fun h => Bool.noConfusion h⟩
theorem fit90 : TFits Tryd.prog 90 ti90 := ⟨⟨Tryd.t90, by kernel_rfl, rfl, rfl, _, rfl, rfl⟩, ⟨_, Tryd.underlying90, rfl⟩, fun _ => ⟨Tryd.t90, _, by kernel_rfl, rfl, rfl⟩, fun h => Bool.noConfusion h, fun h => Bool.noConfusion h⟩
theorem fit91 : TFits Tryd.prog 91 ti91 := ⟨⟨Tryd.t91, by kernel_rfl, rfl, rfl, _, rfl, rfl⟩, ⟨_, Tryd.underlying91, rfl⟩, fun _ => ⟨Tryd.t91, _, by kernel_rfl, rfl, rfl⟩, fun h => Bool.noConfusion h, fun h => Bool.noConfusion h⟩
theorem fit92 : TFits Tryd.prog 92 ti92 := ⟨⟨Tryd.t92, by kernel_rfl, rfl, rfl, _, rfl, rfl⟩, ⟨_, Tryd.underlying92, rfl⟩, fun _ => ⟨Tryd.t92, _, by kernel_rfl, rfl, rfl⟩, fun h => Bool.noConfusion h, fun h => Bool.noConfusion h⟩
theorem fit93 : TFits Tryd.prog 93 ti93 := ⟨⟨Tryd.t93, by kernel_rfl, rfl, rfl, _, rfl, rfl⟩, ⟨_, Tryd.underlying93, rfl⟩, fun _ => ⟨Tryd.t93, _, by kernel_rfl, rfl, rfl⟩, fun h => Bool.noConfusion h, fun h => Bool.noConfusion h⟩
theorem fit94 : TFits Tryd.prog 94 ti94 := ⟨⟨Tryd.t94, by kernel_rfl, rfl, rfl, _, rfl, rfl⟩, ⟨_, Tryd.underlying94, rfl⟩, fun _ => ⟨Tryd.t94, _, by kernel_rfl, rfl, rfl⟩, fun h => Bool.noConfusion h, fun h => Bool.noConfusion h⟩
theorem fit96 : TFits Tryd.prog 96 ti96 := ⟨⟨Tryd.t96, by kernel_rfl, rfl, rfl, _, rfl, rfl⟩, ⟨_, Tryd.underlying96, rfl⟩, fun _ => ⟨Tryd.t96, _, by kernel_rfl, rfl, rfl⟩, fun h => Bool.noConfusion h, fun h => Bool.noConfusion h⟩
theorem fit97 : TFits Tryd.prog 97 ti97 := ⟨⟨Tryd.t97, by kernel_rfl, rfl, rfl, _, rfl, rfl⟩, ⟨_, Tryd.underlying97, rfl⟩, fun _ => ⟨Tryd.t97, _, by kernel_rfl, rfl, rfl⟩, fun h => Bool.noConfusion h, fun h => Bool.noConfusion h⟩
theorem fit99 : TFits Tryd.prog 99 ti99 := ⟨⟨Tryd.t99, by kernel_rfl, rfl, rfl, _, rfl, rfl⟩, ⟨_, Tryd.underlying99, rfl⟩, fun _ => ⟨Tryd.t99, _, by kernel_rfl, rfl, rfl⟩, fun h => Bool.noConfusion h, fun h => Bool.noConfusion h⟩
theorem fit100 : TFits Tryd.prog 100 ti100 := ⟨⟨Tryd.t100, by kernel_rfl, rfl, rfl, _, rfl, rfl⟩, ⟨_, Tryd.underlying100, rfl⟩, fun _ => ⟨Tryd.t100, _, by kernel_rfl, rfl, rfl⟩, fun h => Bool.noConfusion h, fun h => Bool.noConfusion h⟩
theorem fit101 : TFits Tryd.prog 101 ti101 := ⟨⟨Tryd.t101, by kernel_rfl, rfl, rfl, _, rfl, rfl⟩, ⟨_, Tryd.underlying101, rfl⟩, fun _ => ⟨Tryd.t101, _, by kernel_rfl, rfl, rfl⟩, fun h => Bool.noConfusion h, fun h => Bool.noConfusion h⟩
theorem fit102 : TFits Tryd.prog 102 ti102 := ⟨⟨Tryd.t102, by kernel_rfl, rfl, rfl, _, rfl, rfl⟩, ⟨_, Tryd.underlying102, rfl⟩, fun _ => ⟨Tryd.t102, _, by kernel_rfl, rfl, rfl⟩, fun h => Bool.noConfusion h, fun h => Bool.noConfusion h⟩
theorem fit103 : TFits Tryd.prog 103 ti103 := ⟨⟨Tryd.t103, by kernel_rfl, rfl, rfl, _, rfl, rfl⟩, ⟨_, Tryd.underlying103, rfl⟩, fun h => Bool.noConfusion h, fun _ => ⟨Tryd.t103, _, by kernel_rfl, rfl, rfl⟩, fun h => Bool.noConfusion h⟩
theorem fit104 : TFits Tryd.prog 104 ti104 := ⟨⟨Tryd.t104, by kernel_rfl, rfl, rfl, _, rfl, rfl⟩, ⟨_, Tryd.underlying104, rfl⟩, fun h => Bool.noConfusion h, fun _ => ⟨Tryd.t104, _, by kernel_rfl, rfl, rfl⟩, fun h => Bool.noConfusion h⟩
theorem fit105 : TFits Tryd.prog 105 ti105 := ⟨⟨Tryd.t105, by kernel_rfl, rfl, rfl, _, rfl, rfl⟩, ⟨_, Tryd.underlying105, rfl⟩, fun h => Bool.noConfusion h, fun _ => ⟨Tryd.t105, _, by kernel_rfl, rfl, rfl⟩, fun h => Bool.noConfusion h⟩
theorem fit106 : TFits Tryd.prog 106 ti106 := ⟨⟨Tryd.t106, by kernel_rfl, rfl, rfl, _, rfl, rfl⟩, ⟨_, Tryd.underlying106, rfl⟩, fun h => Bool.noConfusion h, fun _ => ⟨Tryd.t106, _, by kernel_rfl, rfl, rfl⟩, fun h => Bool.noConfusion h⟩
theorem fit107 : TFits Tryd.prog 107 ti107 := ⟨⟨Tryd.t107, by kernel_rfl, rfl, rfl, _, rfl, rfl⟩, ⟨_, Tryd.underlying107, rfl⟩, fun h => Bool.noConfusion h, fun _ => ⟨Tryd.t107, _, by kernel_rfl, rfl, rfl⟩, fun h => Bool.noConfusion h⟩
theorem fit108 : TFits Tryd.prog 108 ti108 := ⟨⟨Tryd.t108, by kernel_rfl, rfl, rfl, _, rfl, rfl⟩, ⟨_, Tryd.underlying108, rfl⟩, fun _ => ⟨Tryd.t108, _, by kernel_rfl, rfl, rfl⟩, fun h => Bool.noConfusion h, fun h => Bool.noConfusion h⟩
theorem fit109 : TFits Tryd.prog 109 ti109 := ⟨⟨Tryd.t109, by kernel_rfl, rfl, rfl, _, rfl, rfl⟩, ⟨_, Tryd.underlying109, rfl⟩, fun _ => ⟨Tryd.t109, _, by kernel_rfl, rfl, rfl⟩, fun h => Bool.noConfusion h, fun h => Bool.noConfusion h⟩
theorem fit110 : TFits Tryd.prog 110 ti110 := ⟨⟨Tryd.t110, by kernel_rfl, rfl, rfl, _, rfl, rfl⟩, ⟨_, Tryd.underlying110, rfl⟩, fun _ => ⟨Tryd.t110, _, by kernel_rfl, rfl, rfl⟩, fun h => Bool.noConfusion h, fun h => Bool.noConfusion h⟩
theorem fit111 : TFits Tryd.prog 111 ti111 := ⟨⟨Tryd.t111, by kernel_rfl, rfl, rfl, _, rfl, rfl⟩, ⟨_, Tryd.underlying111, rfl⟩, fun _ => ⟨Tryd.t111, _, by kernel_rfl, rfl, rfl⟩, fun h => Bool.noConfusion h, fun h => Bool.noConfusion h⟩
theorem fit112 : TFits Tryd.prog 112 ti112 := ⟨⟨Tryd.t112, by kernel_rfl, rfl, rfl, _, rfl, rfl⟩, ⟨_, Tryd.underlying112, rfl⟩, fun _ => ⟨Tryd.t112, _, by kernel_rfl, rfl, rfl⟩, fun h => Bool.noConfusion h, fun h => Bool.noConfusion h⟩
theorem fit113 : TFits Tryd.prog 113 ti113 := ⟨⟨Tryd.t113, by kernel_rfl, rfl, rfl, _, rfl, rfl⟩, ⟨_, Tryd.underlying113, rfl⟩, fun h => Bool.noConfusion h, fun _ => ⟨Tryd.t113, _, by kernel_rfl, rfl, rfl⟩, fun h => Bool.noConfusion h⟩
theorem fit114 : TFits Tryd.prog 114 ti114 := ⟨⟨Tryd.t114, by kernel_rfl, rfl, rfl, _, rfl, rfl⟩, ⟨_, Tryd.underlying114, rfl⟩, fun h => Bool.noConfusion h, fun _ => ⟨Tryd.t114, _, by kernel_rfl, rfl, rfl⟩, fun h => Bool.noConfusion h⟩
theorem ty_ok : TOk Tryd.prog TY := tok_cons fit1 (tok_cons fit2 (tok_cons fit3 (tok_cons fit4 (tok_cons fit5 (tok_cons fit6 (tok_cons fit7 (tok_cons fit8 (tok_cons fit9 (tok_cons fit10 (tok_cons fit11 (tok_cons fit12 (tok_cons fit13 (tok_cons fit14 (tok_cons fit15 (tok_cons fit16 (tok_cons fit17 (tok_cons fit18 (tok_cons fit19 (tok_cons fit20 (tok_cons fit21 (tok_cons fit22 (tok_cons fit23 (tok_cons fit24 (tok_cons fit25 (tok_cons fit26 (tok_cons fit27 (tok_cons fit28 (tok_cons fit29 (tok_cons fit30 (tok_cons fit32 (tok_cons fit34 (tok_cons fit35 (tok_cons fit36 (tok_cons fit37 (tok_cons fit38 (tok_cons fit39 (tok_cons fit40 (tok_cons fit41 (tok_cons fit42 (tok_cons fit43 (tok_cons fit44 (tok_cons fit46 (tok_cons fit47 (tok_cons fit48 (tok_cons fit49 (tok_cons fit50 (tok_cons fit52 (tok_cons fit53 (tok_cons fit54 (tok_cons fit55 (tok_cons fit56 (tok_cons fit57 (tok_cons fit58 (tok_cons fit59 (tok_cons fit60 (tok_cons fit62 (tok_cons fit64 (tok_cons fit65 (tok_cons fit66 (tok_cons fit67 (tok_cons fit68 (tok_cons fit69 (tok_cons fit70 (tok_cons fit71 (tok_cons fit73 (tok_cons fit74 (tok_cons fit76 (tok_cons fit77 (tok_cons fit78 (tok_cons fit79 (tok_cons fit80 (tok_cons fit81 (tok_cons fit82 (tok_cons fit83 (tok_cons fit84 (tok_cons fit85 (tok_cons fit87 (tok_cons fit88 (tok_cons fit89 (tok_cons fit90 (tok_cons fit91 (tok_cons fit92 (tok_cons fit93 (tok_cons fit94 (tok_cons fit96 (tok_cons fit97 (tok_cons fit99 (tok_cons fit100 (tok_cons fit101 (tok_cons fit102 (tok_cons fit103 (tok_cons fit104 (tok_cons fit105 (tok_cons fit106 (tok_cons fit107 (tok_cons fit108 (tok_cons fit109 (tok_cons fit110 (tok_cons fit111 (tok_cons fit112 (tok_cons fit113 (tok_cons fit114 ((fun p hp => by cases hp))))))))))))))))))))))))))))))))))))))))))))))))))))))))))))))))))))))))))))))))))))))))))))))))))))))))
theorem tab : Tab Tryd.prog TY := ⟨ty_ok, by kernel_rfl⟩
end Go.Proofs.YtjbkhjjaajhjaaaDoor
