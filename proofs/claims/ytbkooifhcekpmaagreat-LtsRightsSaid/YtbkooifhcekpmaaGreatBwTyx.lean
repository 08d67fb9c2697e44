/- The types that the program names. Conditions: none. -/
import Derived.Test.YtbkooifhcekpmaaGreatBwCopy
import Derived.Test.YtbkooifhcekpmaaGreatProg
set_option linter.unusedVariables false
set_option linter.unusedSimpArgs false
set_option linter.unusedSectionVars false
namespace Go.Bw
open Go
set_option maxRecDepth 100000
def Tryz.ti3 : TI := ⟨.int .i64, 1, 8, [.int .i64 0]⟩
def Tryz.ti4 : TI := ⟨.bool, 1, 1, [.bool false]⟩
def Tryz.ti5 : TI := ⟨.int .u8, 1, 1, [.int .u8 0]⟩
def Tryz.ti9 : TI := ⟨.string, 1, 16, [.string ⟨#[]⟩]⟩
def Tryz.ti21 : TI := ⟨.int .i32, 1, 4, [.int .i32 0]⟩
def Tryz.ti22 : TI := ⟨.slice 9, 1, 24, [.slice none 0 0]⟩
def Tryz.ti23 : TI := ⟨.slice 54, 1, 24, [.slice none 0 0]⟩
def Tryz.ti24 : TI := ⟨.slice 57, 1, 24, [.slice none 0 0]⟩
def Tryz.ti26 : TI := ⟨.struct [(3, 0), (22, 1), (23, 2), (24, 3)], 4, 80, [.int .i64 0, .slice none 0 0, .slice none 0 0, .slice none 0 0]⟩
def Tryz.ti31 : TI := ⟨.slice 36, 1, 24, [.slice none 0 0]⟩
def Tryz.ti32 : TI := ⟨.pointer 74, 1, 8, [.pointer none]⟩
def Tryz.ti34 : TI := ⟨.int .u64, 1, 8, [.int .u64 0]⟩
def Tryz.ti36 : TI := ⟨.struct [(3, 0), (9, 1), (34, 2), (4, 3)], 4, 40, [.int .i64 0, .string ⟨#[]⟩, .int .u64 0, .bool false]⟩
def Tryz.ti38 : TI := ⟨.array 4 34, 4, 32, [.int .u64 0, .int .u64 0, .int .u64 0, .int .u64 0]⟩
def Tryz.ti47 : TI := ⟨.int .u64, 1, 8, [.int .u64 0]⟩
def Tryz.ti50 : TI := ⟨.iface, 1, 16, [.nilIface]⟩
def Tryz.ti54 : TI := ⟨.struct [(3, 0), (3, 1), (3, 2)], 3, 24, [.int .i64 0, .int .i64 0, .int .i64 0]⟩
def Tryz.ti55 : TI := ⟨.slice 3, 1, 24, [.slice none 0 0]⟩
def Tryz.ti57 : TI := ⟨.struct [(9, 0), (55, 1)], 2, 40, [.string ⟨#[]⟩, .slice none 0 0]⟩
def Tryz.ti58 : TI := ⟨.func, 1, 8, [.nilFunc]⟩
def Tryz.ti59 : TI := ⟨.func, 1, 8, [.nilFunc]⟩
def Tryz.ti61 : TI := ⟨.func, 1, 8, [.nilFunc]⟩
def Tryz.ti65 : TI := ⟨.func, 1, 8, [.nilFunc]⟩
def Tryz.ti67 : TI := ⟨.func, 1, 8, [.nilFunc]⟩
def Tryz.ti69 : TI := ⟨.func, 1, 8, [.nilFunc]⟩
def Tryz.ti71 : TI := ⟨.map 9 38, 1, 8, [.map none]⟩
def Tryz.ti72 : TI := ⟨.map 77 38, 1, 8, [.map none]⟩
def Tryz.ti74 : TI := ⟨.struct [(3, 0), (71, 1), (72, 2)], 3, 24, [.int .i64 0, .map none, .map none]⟩
def Tryz.ti77 : TI := ⟨.struct [(3, 0), (9, 1)], 2, 24, [.int .i64 0, .string ⟨#[]⟩]⟩
def Tryz.ti81 : TI := ⟨.slice 91, 1, 24, [.slice none 0 0]⟩
def Tryz.ti84 : TI := ⟨.pointer 89, 1, 8, [.pointer none]⟩
def Tryz.ti85 : TI := ⟨.map 9 4, 1, 8, [.map none]⟩
def Tryz.ti86 : TI := ⟨.pointer 105, 1, 8, [.pointer none]⟩
def Tryz.ti87 : TI := ⟨.slice 113, 1, 24, [.slice none 0 0]⟩
def Tryz.ti89 : TI := ⟨.struct [(81, 0), (86, 1), (26, 2), (87, 6), (85, 7)], 8, 144, [.slice none 0 0, .pointer none, .int .i64 0, .slice none 0 0, .slice none 0 0, .slice none 0 0, .slice none 0 0, .map none]⟩
def Tryz.ti91 : TI := ⟨.struct [(3, 0), (3, 1), (9, 2), (3, 3)], 4, 40, [.int .i64 0, .int .i64 0, .string ⟨#[]⟩, .int .i64 0]⟩
def Tryz.ti95 : TI := ⟨.int .i64, 1, 8, [.int .i64 0]⟩
def Tryz.ti98 : TI := ⟨.func, 1, 8, [.nilFunc]⟩
def Tryz.ti102 : TI := ⟨.slice 4, 1, 24, [.slice none 0 0]⟩
def Tryz.ti105 : TI := ⟨.struct [(3, 0), (95, 1)], 2, 16, [.int .i64 0, .int .i64 0]⟩
def Tryz.ti113 : TI := ⟨.struct [(3, 0), (9, 1), (3, 2)], 3, 32, [.int .i64 0, .string ⟨#[]⟩, .int .i64 0]⟩
def Tryz.ti116 : TI := ⟨.func, 1, 8, [.nilFunc]⟩
theorem Tryz.tok3 : TypeOk Go.Proofs.Tryz.prog 3 Tryz.ti3 := ⟨by kernel_rfl, by kernel_rfl⟩
theorem Tryz.tok4 : TypeOk Go.Proofs.Tryz.prog 4 Tryz.ti4 := ⟨by kernel_rfl, by kernel_rfl⟩
theorem Tryz.tok5 : TypeOk Go.Proofs.Tryz.prog 5 Tryz.ti5 := ⟨by kernel_rfl, by kernel_rfl⟩
theorem Tryz.tok9 : TypeOk Go.Proofs.Tryz.prog 9 Tryz.ti9 := ⟨by kernel_rfl, by kernel_rfl⟩
theorem Tryz.tok21 : TypeOk Go.Proofs.Tryz.prog 21 Tryz.ti21 := ⟨by kernel_rfl, by kernel_rfl⟩
theorem Tryz.tok22 : TypeOk Go.Proofs.Tryz.prog 22 Tryz.ti22 := ⟨by kernel_rfl, by kernel_rfl⟩
theorem Tryz.tok23 : TypeOk Go.Proofs.Tryz.prog 23 Tryz.ti23 := ⟨by kernel_rfl, by kernel_rfl⟩
theorem Tryz.tok24 : TypeOk Go.Proofs.Tryz.prog 24 Tryz.ti24 := ⟨by kernel_rfl, by kernel_rfl⟩
theorem Tryz.tok26 : TypeOk Go.Proofs.Tryz.prog 26 Tryz.ti26 := ⟨by kernel_rfl, by kernel_rfl⟩
theorem Tryz.tok31 : TypeOk Go.Proofs.Tryz.prog 31 Tryz.ti31 := ⟨by kernel_rfl, by kernel_rfl⟩
theorem Tryz.tok32 : TypeOk Go.Proofs.Tryz.prog 32 Tryz.ti32 := ⟨by kernel_rfl, by kernel_rfl⟩
theorem Tryz.tok34 : TypeOk Go.Proofs.Tryz.prog 34 Tryz.ti34 := ⟨by kernel_rfl, by kernel_rfl⟩
theorem Tryz.tok36 : TypeOk Go.Proofs.Tryz.prog 36 Tryz.ti36 := ⟨by kernel_rfl, by kernel_rfl⟩
theorem Tryz.tok38 : TypeOk Go.Proofs.Tryz.prog 38 Tryz.ti38 := ⟨by kernel_rfl, by kernel_rfl⟩
theorem Tryz.tok47 : TypeOk Go.Proofs.Tryz.prog 47 Tryz.ti47 := ⟨by kernel_rfl, by kernel_rfl⟩
theorem Tryz.tok50 : TypeOk Go.Proofs.Tryz.prog 50 Tryz.ti50 := ⟨by kernel_rfl, by kernel_rfl⟩
theorem Tryz.tok54 : TypeOk Go.Proofs.Tryz.prog 54 Tryz.ti54 := ⟨by kernel_rfl, by kernel_rfl⟩
theorem Tryz.tok55 : TypeOk Go.Proofs.Tryz.prog 55 Tryz.ti55 := ⟨by kernel_rfl, by kernel_rfl⟩
theorem Tryz.tok57 : TypeOk Go.Proofs.Tryz.prog 57 Tryz.ti57 := ⟨by kernel_rfl, by kernel_rfl⟩
theorem Tryz.tok58 : TypeOk Go.Proofs.Tryz.prog 58 Tryz.ti58 := ⟨by kernel_rfl, by kernel_rfl⟩
theorem Tryz.tok59 : TypeOk Go.Proofs.Tryz.prog 59 Tryz.ti59 := ⟨by kernel_rfl, by kernel_rfl⟩
theorem Tryz.tok61 : TypeOk Go.Proofs.Tryz.prog 61 Tryz.ti61 := ⟨by kernel_rfl, by kernel_rfl⟩
theorem Tryz.tok65 : TypeOk Go.Proofs.Tryz.prog 65 Tryz.ti65 := ⟨by kernel_rfl, by kernel_rfl⟩
theorem Tryz.tok67 : TypeOk Go.Proofs.Tryz.prog 67 Tryz.ti67 := ⟨by kernel_rfl, by kernel_rfl⟩
theorem Tryz.tok69 : TypeOk Go.Proofs.Tryz.prog 69 Tryz.ti69 := ⟨by kernel_rfl, by kernel_rfl⟩
theorem Tryz.tok71 : TypeOk Go.Proofs.Tryz.prog 71 Tryz.ti71 := ⟨by kernel_rfl, by kernel_rfl⟩
theorem Tryz.tok72 : TypeOk Go.Proofs.Tryz.prog 72 Tryz.ti72 := ⟨by kernel_rfl, by kernel_rfl⟩
theorem Tryz.tok74 : TypeOk Go.Proofs.Tryz.prog 74 Tryz.ti74 := ⟨by kernel_rfl, by kernel_rfl⟩
theorem Tryz.tok77 : TypeOk Go.Proofs.Tryz.prog 77 Tryz.ti77 := ⟨by kernel_rfl, by kernel_rfl⟩
theorem Tryz.tok81 : TypeOk Go.Proofs.Tryz.prog 81 Tryz.ti81 := ⟨by kernel_rfl, by kernel_rfl⟩
theorem Tryz.tok84 : TypeOk Go.Proofs.Tryz.prog 84 Tryz.ti84 := ⟨by kernel_rfl, by kernel_rfl⟩
theorem Tryz.tok85 : TypeOk Go.Proofs.Tryz.prog 85 Tryz.ti85 := ⟨by kernel_rfl, by kernel_rfl⟩
theorem Tryz.tok86 : TypeOk Go.Proofs.Tryz.prog 86 Tryz.ti86 := ⟨by kernel_rfl, by kernel_rfl⟩
theorem Tryz.tok87 : TypeOk Go.Proofs.Tryz.prog 87 Tryz.ti87 := ⟨by kernel_rfl, by kernel_rfl⟩
theorem Tryz.tok89 : TypeOk Go.Proofs.Tryz.prog 89 Tryz.ti89 := ⟨by kernel_rfl, by kernel_rfl⟩
theorem Tryz.tok91 : TypeOk Go.Proofs.Tryz.prog 91 Tryz.ti91 := ⟨by kernel_rfl, by kernel_rfl⟩
theorem Tryz.tok95 : TypeOk Go.Proofs.Tryz.prog 95 Tryz.ti95 := ⟨by kernel_rfl, by kernel_rfl⟩
theorem Tryz.tok98 : TypeOk Go.Proofs.Tryz.prog 98 Tryz.ti98 := ⟨by kernel_rfl, by kernel_rfl⟩
theorem Tryz.tok102 : TypeOk Go.Proofs.Tryz.prog 102 Tryz.ti102 := ⟨by kernel_rfl, by kernel_rfl⟩
theorem Tryz.tok105 : TypeOk Go.Proofs.Tryz.prog 105 Tryz.ti105 := ⟨by kernel_rfl, by kernel_rfl⟩
theorem Tryz.tok113 : TypeOk Go.Proofs.Tryz.prog 113 Tryz.ti113 := ⟨by kernel_rfl, by kernel_rfl⟩
theorem Tryz.tok116 : TypeOk Go.Proofs.Tryz.prog 116 Tryz.ti116 := ⟨by kernel_rfl, by kernel_rfl⟩
instance Tryz.tys : Tys Go.Proofs.Tryz.prog := ⟨[(3, Tryz.ti3), (4, Tryz.ti4), (5, Tryz.ti5), (9, Tryz.ti9), (21, Tryz.ti21), (22, Tryz.ti22), (23, Tryz.ti23), (24, Tryz.ti24), (26, Tryz.ti26), (31, Tryz.ti31), (32, Tryz.ti32), (34, Tryz.ti34), (36, Tryz.ti36), (38, Tryz.ti38), (47, Tryz.ti47), (50, Tryz.ti50), (54, Tryz.ti54), (55, Tryz.ti55), (57, Tryz.ti57), (58, Tryz.ti58), (59, Tryz.ti59), (61, Tryz.ti61), (65, Tryz.ti65), (67, Tryz.ti67), (69, Tryz.ti69), (71, Tryz.ti71), (72, Tryz.ti72), (74, Tryz.ti74), (77, Tryz.ti77), (81, Tryz.ti81), (84, Tryz.ti84), (85, Tryz.ti85), (86, Tryz.ti86), (87, Tryz.ti87), (89, Tryz.ti89), (91, Tryz.ti91), (95, Tryz.ti95), (98, Tryz.ti98), (102, Tryz.ti102), (105, Tryz.ti105), (113, Tryz.ti113), (116, Tryz.ti116)], ⟨Tryz.tok3, Tryz.tok4, Tryz.tok5, Tryz.tok9, Tryz.tok21, Tryz.tok22, Tryz.tok23, Tryz.tok24, Tryz.tok26, Tryz.tok31, Tryz.tok32, Tryz.tok34, Tryz.tok36, Tryz.tok38, Tryz.tok47, Tryz.tok50, Tryz.tok54, Tryz.tok55, Tryz.tok57, Tryz.tok58, Tryz.tok59, Tryz.tok61, Tryz.tok65, Tryz.tok67, Tryz.tok69, Tryz.tok71, Tryz.tok72, Tryz.tok74, Tryz.tok77, Tryz.tok81, Tryz.tok84, Tryz.tok85, Tryz.tok86, Tryz.tok87, Tryz.tok89, Tryz.tok91, Tryz.tok95, Tryz.tok98, Tryz.tok102, Tryz.tok105, Tryz.tok113, Tryz.tok116, trivial⟩⟩
instance Tryz.mixed : Mixed Go.Proofs.Tryz.prog := ⟨by kernel_rfl⟩
end Go.Bw
