/- The types that the program names. Conditions: none. -/
import Derived.Test.YtmkidaijgdgcjaaBwCopy
import Derived.Test.YtmkidaijgdgcjaaProg
set_option linter.unusedVariables false
set_option linter.unusedSimpArgs false
set_option linter.unusedSectionVars false
namespace Go.Bw
open Go
set_option maxRecDepth 100000
def Try.ti3 : TI := ⟨.int .i64, 1, 8, [.int .i64 0]⟩
def Try.ti4 : TI := ⟨.bool, 1, 1, [.bool false]⟩
def Try.ti22 : TI := ⟨.slice 26, 1, 24, [.slice none 0 0]⟩
def Try.ti26 : TI := ⟨.slice 3, 1, 24, [.slice none 0 0]⟩
def Try.ti31 : TI := ⟨.slice 4, 1, 24, [.slice none 0 0]⟩
def Try.ti36 : TI := ⟨.struct [(26, 0), (26, 1), (22, 2)], 3, 72, [.slice none 0 0, .slice none 0 0, .slice none 0 0]⟩
def Try.ti37 : TI := ⟨.array 2 26, 2, 48, [.slice none 0 0, .slice none 0 0]⟩
def Try.ti39 : TI := ⟨.struct [(37, 0), (37, 2)], 4, 96, [.slice none 0 0, .slice none 0 0, .slice none 0 0, .slice none 0 0]⟩
def Try.ti42 : TI := ⟨.int .i64, 1, 8, [.int .i64 0]⟩
def Try.ti44 : TI := ⟨.struct [(42, 0), (3, 1), (3, 2)], 3, 24, [.int .i64 0, .int .i64 0, .int .i64 0]⟩
def Try.ti54 : TI := ⟨.int .u64, 1, 8, [.int .u64 0]⟩
def Try.ti56 : TI := ⟨.array 4 54, 4, 32, [.int .u64 0, .int .u64 0, .int .u64 0, .int .u64 0]⟩
def Try.ti58 : TI := ⟨.slice 31, 1, 24, [.slice none 0 0]⟩
def Try.ti61 : TI := ⟨.func, 1, 8, [.nilFunc]⟩
def Try.ti62 : TI := ⟨.func, 1, 8, [.nilFunc]⟩
def Try.ti72 : TI := ⟨.pointer 74, 1, 8, [.pointer none]⟩
def Try.ti74 : TI := ⟨.struct [(36, 0), (39, 3), (37, 7)], 9, 216, [.slice none 0 0, .slice none 0 0, .slice none 0 0, .slice none 0 0, .slice none 0 0, .slice none 0 0, .slice none 0 0, .slice none 0 0, .slice none 0 0]⟩
def Try.ti76 : TI := ⟨.array 2 22, 2, 48, [.slice none 0 0, .slice none 0 0]⟩
def Try.ti82 : TI := ⟨.pointer 86, 1, 8, [.pointer none]⟩
def Try.ti83 : TI := ⟨.slice 99, 1, 24, [.slice none 0 0]⟩
def Try.ti84 : TI := ⟨.func, 1, 8, [.nilFunc]⟩
def Try.ti86 : TI := ⟨.struct [(22, 0), (61, 1), (26, 2), (26, 3), (31, 4), (26, 5), (83, 6), (3, 7), (84, 8)], 9, 168, [.slice none 0 0, .nilFunc, .slice none 0 0, .slice none 0 0, .slice none 0 0, .slice none 0 0, .slice none 0 0, .int .i64 0, .nilFunc]⟩
def Try.ti89 : TI := ⟨.func, 1, 8, [.nilFunc]⟩
def Try.ti95 : TI := ⟨.int .u64, 1, 8, [.int .u64 0]⟩
def Try.ti99 : TI := ⟨.struct [(3, 0), (3, 1)], 2, 16, [.int .i64 0, .int .i64 0]⟩
theorem Try.tok3 : TypeOk Go.Proofs.Try.prog 3 Try.ti3 := ⟨by kernel_rfl, by kernel_rfl⟩
theorem Try.tok4 : TypeOk Go.Proofs.Try.prog 4 Try.ti4 := ⟨by kernel_rfl, by kernel_rfl⟩
theorem Try.tok22 : TypeOk Go.Proofs.Try.prog 22 Try.ti22 := ⟨by kernel_rfl, by kernel_rfl⟩
theorem Try.tok26 : TypeOk Go.Proofs.Try.prog 26 Try.ti26 := ⟨by kernel_rfl, by kernel_rfl⟩
theorem Try.tok31 : TypeOk Go.Proofs.Try.prog 31 Try.ti31 := ⟨by kernel_rfl, by kernel_rfl⟩
theorem Try.tok36 : TypeOk Go.Proofs.Try.prog 36 Try.ti36 := ⟨by kernel_rfl, by kernel_rfl⟩
theorem Try.tok37 : TypeOk Go.Proofs.Try.prog 37 Try.ti37 := ⟨by kernel_rfl, by kernel_rfl⟩
theorem Try.tok39 : TypeOk Go.Proofs.Try.prog 39 Try.ti39 := ⟨by kernel_rfl, by kernel_rfl⟩
theorem Try.tok42 : TypeOk Go.Proofs.Try.prog 42 Try.ti42 := ⟨by kernel_rfl, by kernel_rfl⟩
theorem Try.tok44 : TypeOk Go.Proofs.Try.prog 44 Try.ti44 := ⟨by kernel_rfl, by kernel_rfl⟩
theorem Try.tok54 : TypeOk Go.Proofs.Try.prog 54 Try.ti54 := ⟨by kernel_rfl, by kernel_rfl⟩
theorem Try.tok56 : TypeOk Go.Proofs.Try.prog 56 Try.ti56 := ⟨by kernel_rfl, by kernel_rfl⟩
theorem Try.tok58 : TypeOk Go.Proofs.Try.prog 58 Try.ti58 := ⟨by kernel_rfl, by kernel_rfl⟩
theorem Try.tok61 : TypeOk Go.Proofs.Try.prog 61 Try.ti61 := ⟨by kernel_rfl, by kernel_rfl⟩
theorem Try.tok62 : TypeOk Go.Proofs.Try.prog 62 Try.ti62 := ⟨by kernel_rfl, by kernel_rfl⟩
theorem Try.tok72 : TypeOk Go.Proofs.Try.prog 72 Try.ti72 := ⟨by kernel_rfl, by kernel_rfl⟩
theorem Try.tok74 : TypeOk Go.Proofs.Try.prog 74 Try.ti74 := ⟨by kernel_rfl, by kernel_rfl⟩
theorem Try.tok76 : TypeOk Go.Proofs.Try.prog 76 Try.ti76 := ⟨by kernel_rfl, by kernel_rfl⟩
theorem Try.tok82 : TypeOk Go.Proofs.Try.prog 82 Try.ti82 := ⟨by kernel_rfl, by kernel_rfl⟩
theorem Try.tok83 : TypeOk Go.Proofs.Try.prog 83 Try.ti83 := ⟨by kernel_rfl, by kernel_rfl⟩
theorem Try.tok84 : TypeOk Go.Proofs.Try.prog 84 Try.ti84 := ⟨by kernel_rfl, by kernel_rfl⟩
theorem Try.tok86 : TypeOk Go.Proofs.Try.prog 86 Try.ti86 := ⟨by kernel_rfl, by kernel_rfl⟩
theorem Try.tok89 : TypeOk Go.Proofs.Try.prog 89 Try.ti89 := ⟨by kernel_rfl, by kernel_rfl⟩
theorem Try.tok95 : TypeOk Go.Proofs.Try.prog 95 Try.ti95 := ⟨by kernel_rfl, by kernel_rfl⟩
theorem Try.tok99 : TypeOk Go.Proofs.Try.prog 99 Try.ti99 := ⟨by kernel_rfl, by kernel_rfl⟩
instance Try.tys : Tys Go.Proofs.Try.prog := ⟨[(3, Try.ti3), (4, Try.ti4), (22, Try.ti22), (26, Try.ti26), (31, Try.ti31), (36, Try.ti36), (37, Try.ti37), (39, Try.ti39), (42, Try.ti42), (44, Try.ti44), (54, Try.ti54), (56, Try.ti56), (58, Try.ti58), (61, Try.ti61), (62, Try.ti62), (72, Try.ti72), (74, Try.ti74), (76, Try.ti76), (82, Try.ti82), (83, Try.ti83), (84, Try.ti84), (86, Try.ti86), (89, Try.ti89), (95, Try.ti95), (99, Try.ti99)], ⟨Try.tok3, Try.tok4, Try.tok22, Try.tok26, Try.tok31, Try.tok36, Try.tok37, Try.tok39, Try.tok42, Try.tok44, Try.tok54, Try.tok56, Try.tok58, Try.tok61, Try.tok62, Try.tok72, Try.tok74, Try.tok76, Try.tok82, Try.tok83, Try.tok84, Try.tok86, Try.tok89, Try.tok95, Try.tok99, trivial⟩⟩
instance Try.mixed : Mixed Go.Proofs.Try.prog := ⟨by kernel_rfl⟩
end Go.Bw
