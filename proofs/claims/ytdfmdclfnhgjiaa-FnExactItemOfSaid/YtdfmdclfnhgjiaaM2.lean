/- Functions in the short form, written by gen.lean: part 2.
 Conditions: none; each is what the given program's function comes to. -/
import Derived.Test.YtdfmdclfnhgjiaaChecked
import Derived.Test.YtdfmdclfnhgjiaaCanI
import Derived.KernelRfl
set_option linter.unusedVariables false
namespace Go.Proofs.Ytdfmdclfnhgjiaa.Can
open Go

/-- loop.example/g00099/spec.l01In -/
def m83 : MF := ⟨15,
 .seq (.reg [
 ⟨some 6, .mov, [.const (.bool false)], none⟩])
 (.seq (.reg [
 ⟨some 7, .mov, [.tmp 0], none⟩,
 ⟨some 8, .mov, [.tmp 1], none⟩,
 ⟨some 9, .bin .geq, [.tmp 7, .tmp 8], none⟩,
 ⟨some 10, .mov, [.tmp 9], none⟩,
 ⟨some 11, .mov, [.tmp 0], some (10, true)⟩,
 ⟨some 12, .mov, [.tmp 2], some (10, true)⟩,
 ⟨some 13, .bin .leq, [.tmp 11, .tmp 12], some (10, true)⟩,
 ⟨some 14, .pick, [.tmp 10, .tmp 13, .const (.bool false)], none⟩,
 ⟨some 6, .mov, [.tmp 14], none⟩])
 (.ret)),
 [.slot 6]⟩
theorem m83_ok : compF Try.prog Try.f83 = some m83 := by kernel_rfl

/-- loop.example/g00099/impl.within -/
def m94 : MF := ⟨15,
 .seq (.reg [
 ⟨some 6, .mov, [.const (.bool false)], none⟩])
 (.seq (.reg [
 ⟨some 7, .mov, [.tmp 0], none⟩,
 ⟨some 8, .mov, [.tmp 1], none⟩,
 ⟨some 9, .bin .geq, [.tmp 7, .tmp 8], none⟩,
 ⟨some 10, .mov, [.tmp 9], none⟩,
 ⟨some 11, .mov, [.tmp 0], some (10, true)⟩,
 ⟨some 12, .mov, [.tmp 2], some (10, true)⟩,
 ⟨some 13, .bin .leq, [.tmp 11, .tmp 12], some (10, true)⟩,
 ⟨some 14, .pick, [.tmp 10, .tmp 13, .const (.bool false)], none⟩,
 ⟨some 6, .mov, [.tmp 14], none⟩])
 (.ret)),
 [.slot 6]⟩
theorem m94_ok : compF Try.prog Try.f94 = some m94 := by kernel_rfl

/-- loop.example/g00099/spec.l21Plain -/
def m97 : MF := ⟨14,
 .seq (.reg [
 ⟨some 2, .mov, [.const (.bool false)], none⟩])
 (.seq (.reg [
 ⟨some 3, .mov, [.tmp 0], none⟩,
 ⟨some 4, .bin .geq, [.tmp 3, .const (.int .u8 33)], none⟩,
 ⟨some 5, .mov, [.tmp 4], none⟩,
 ⟨some 6, .mov, [.tmp 0], some (5, true)⟩,
 ⟨some 7, .bin .leq, [.tmp 6, .const (.int .u8 126)], some (5, true)⟩,
 ⟨some 8, .pick, [.tmp 5, .tmp 7, .const (.bool false)], none⟩,
 ⟨some 9, .mov, [.tmp 8], none⟩,
 ⟨some 10, .mov, [.tmp 0], some (9, true)⟩,
 ⟨some 11, .call 101, [.tmp 10], some (9, true)⟩,
 ⟨some 12, .un .not, [.tmp 11], some (9, true)⟩,
 ⟨some 13, .pick, [.tmp 9, .tmp 12, .const (.bool false)], none⟩,
 ⟨some 2, .mov, [.tmp 13], none⟩])
 (.ret)),
 [.slot 2]⟩
theorem m97_ok : compF Try.prog Try.f97 = some m97 := by kernel_rfl

/-- loop.example/g00099/spec.l21Mark -/
def m101 : MF := ⟨41,
 .seq (.reg [
 ⟨some 2, .mov, [.const (.bool false)], none⟩])
 (.seq (.reg [
 ⟨some 3, .mov, [.tmp 0], none⟩,
 ⟨some 4, .bin .eql, [.tmp 3, .const (.int .u8 40)], none⟩,
 ⟨some 5, .mov, [.tmp 4], none⟩,
 ⟨some 6, .mov, [.tmp 0], some (5, false)⟩,
 ⟨some 7, .bin .eql, [.tmp 6, .const (.int .u8 41)], some (5, false)⟩,
 ⟨some 8, .pick, [.tmp 5, .const (.bool true), .tmp 7], none⟩,
 ⟨some 9, .mov, [.tmp 8], none⟩,
 ⟨some 10, .mov, [.tmp 0], some (9, false)⟩,
 ⟨some 11, .bin .eql, [.tmp 10, .const (.int .u8 60)], some (9, false)⟩,
 ⟨some 12, .pick, [.tmp 9, .const (.bool true), .tmp 11], none⟩,
 ⟨some 13, .mov, [.tmp 12], none⟩,
 ⟨some 14, .mov, [.tmp 0], some (13, false)⟩,
 ⟨some 15, .bin .eql, [.tmp 14, .const (.int .u8 62)], some (13, false)⟩,
 ⟨some 16, .pick, [.tmp 13, .const (.bool true), .tmp 15], none⟩,
 ⟨some 17, .mov, [.tmp 16], none⟩,
 ⟨some 18, .mov, [.tmp 0], some (17, false)⟩,
 ⟨some 19, .bin .eql, [.tmp 18, .const (.int .u8 91)], some (17, false)⟩,
 ⟨some 20, .pick, [.tmp 17, .const (.bool true), .tmp 19], none⟩,
 ⟨some 21, .mov, [.tmp 20], none⟩,
 ⟨some 22, .mov, [.tmp 0], some (21, false)⟩,
 ⟨some 23, .bin .eql, [.tmp 22, .const (.int .u8 93)], some (21, false)⟩,
 ⟨some 24, .pick, [.tmp 21, .const (.bool true), .tmp 23], none⟩,
 ⟨some 25, .mov, [.tmp 24], none⟩,
 ⟨some 26, .mov, [.tmp 0], some (25, false)⟩,
 ⟨some 27, .bin .eql, [.tmp 26, .const (.int .u8 123)], some (25, false)⟩,
 ⟨some 28, .pick, [.tmp 25, .const (.bool true), .tmp 27], none⟩,
 ⟨some 29, .mov, [.tmp 28], none⟩,
 ⟨some 30, .mov, [.tmp 0], some (29, false)⟩,
 ⟨some 31, .bin .eql, [.tmp 30, .const (.int .u8 125)], some (29, false)⟩,
 ⟨some 32, .pick, [.tmp 29, .const (.bool true), .tmp 31], none⟩,
 ⟨some 33, .mov, [.tmp 32], none⟩,
 ⟨some 34, .mov, [.tmp 0], some (33, false)⟩,
 ⟨some 35, .bin .eql, [.tmp 34, .const (.int .u8 47)], some (33, false)⟩,
 ⟨some 36, .pick, [.tmp 33, .const (.bool true), .tmp 35], none⟩,
 ⟨some 37, .mov, [.tmp 36], none⟩,
 ⟨some 38, .mov, [.tmp 0], some (37, false)⟩,
 ⟨some 39, .bin .eql, [.tmp 38, .const (.int .u8 37)], some (37, false)⟩,
 ⟨some 40, .pick, [.tmp 37, .const (.bool true), .tmp 39], none⟩,
 ⟨some 2, .mov, [.tmp 40], none⟩])
 (.ret)),
 [.slot 2]⟩
theorem m101_ok : compF Try.prog Try.f101 = some m101 := by kernel_rfl

def m89_1 : MC := .reg [
 ⟨some 13, .mov, [.tmp 3], none⟩,
 ⟨some 14, .bin .add, [.tmp 13, .const (.int .i64 1)], none⟩,
 ⟨some 3, .mov, [.tmp 14], none⟩]
def m89_2 : MC := .seq (.block 1 (.seq (.reg [
 ⟨some 15, .mov, [.tmp 0], none⟩,
 ⟨some 16, .mov, [.tmp 3], none⟩,
 ⟨some 17, .idxS, [.tmp 15, .tmp 16], none⟩,
 ⟨some 18, .call 97, [.tmp 17], none⟩,
 ⟨some 19, .un .not, [.tmp 18], none⟩,
 ⟨some 20, .mov, [.tmp 19], none⟩,
 ⟨some 21, .mov, [.tmp 0], some (20, false)⟩,
 ⟨some 22, .mov, [.tmp 3], some (20, false)⟩,
 ⟨some 23, .idxS, [.tmp 21, .tmp 22], some (20, false)⟩,
 ⟨some 24, .bin .eql, [.tmp 23, .const (.int .u8 35)], some (20, false)⟩,
 ⟨some 25, .pick, [.tmp 20, .const (.bool true), .tmp 24], none⟩])
 (.cond (.tmp 25)
 (.seq (.reg [
 ⟨some 2, .mov, [.const (.bool false)], none⟩])
 (.ret))
 (.skip))))
 m89_1
def m89_3 : MC := .seq (.reg [
 ⟨some 26, .mov, [.tmp 0], none⟩,
 ⟨some 27, .lenS, [.tmp 26], none⟩,
 ⟨some 28, .call 83, [.tmp 27, .const (.int .i64 1), .const (.int .i64 40)], none⟩,
 ⟨some 2, .mov, [.tmp 28], none⟩])
 (.ret)
/-- loop.example/g00099/spec.WordOk -/
def m89 : MF := ⟨29,
 .seq (.reg [
 ⟨some 2, .mov, [.const (.bool false)], none⟩])
 (.seq (.seq (.reg [
 ⟨some 3, .mov, [.const (.int .i64 0)], none⟩])
 (.block 0 (.loop (.seq (.seq (.reg [
 ⟨some 4, .mov, [.tmp 3], none⟩,
 ⟨some 5, .mov, [.tmp 0], none⟩,
 ⟨some 6, .lenS, [.tmp 5], none⟩,
 ⟨some 7, .bin .lss, [.tmp 4, .tmp 6], none⟩,
 ⟨some 8, .mov, [.tmp 7], none⟩,
 ⟨some 9, .mov, [.tmp 0], some (8, true)⟩,
 ⟨some 10, .lenS, [.tmp 9], some (8, true)⟩,
 ⟨some 11, .bin .leq, [.tmp 10, .const (.int .i64 40)], some (8, true)⟩,
 ⟨some 12, .pick, [.tmp 8, .tmp 11, .const (.bool false)], none⟩])
 (.cond (.tmp 12)
 (.skip)
 (.exit 0)))
 m89_2))))
 m89_3),
 [.slot 2]⟩
theorem m89_ok : compF Try.prog Try.f89 = some m89 := by kernel_rfl

/-- loop.example/g00099/impl.isPlain -/
def m100 : MF := ⟨11,
 .seq (.reg [
 ⟨some 2, .mov, [.const (.bool false)], none⟩])
 (.seq (.reg [
 ⟨some 3, .mov, [.tmp 0], none⟩,
 ⟨some 4, .convI .i64, [.tmp 3], none⟩,
 ⟨some 5, .call 94, [.tmp 4, .const (.int .i64 33), .const (.int .i64 126)], none⟩,
 ⟨some 6, .mov, [.tmp 5], none⟩,
 ⟨some 7, .mov, [.tmp 0], some (6, true)⟩,
 ⟨some 8, .call 102, [.const (.string ⟨#[40, 41, 60, 62, 91, 93, 123, 125, 47, 37]⟩), .tmp 7], some (6, true)⟩,
 ⟨some 9, .bin .lss, [.tmp 8, .const (.int .i64 0)], some (6, true)⟩,
 ⟨some 10, .pick, [.tmp 6, .tmp 9, .const (.bool false)], none⟩,
 ⟨some 2, .mov, [.tmp 10], none⟩])
 (.ret)),
 [.slot 2]⟩
theorem m100_ok : compF Try.prog Try.f100 = some m100 := by kernel_rfl

/-- strings.IndexByte -/
def m102 : MF := ⟨8,
 .seq (.reg [
 ⟨some 4, .mov, [.const (.int .i64 0)], none⟩])
 (.seq (.reg [
 ⟨some 5, .mov, [.tmp 0], none⟩,
 ⟨some 6, .mov, [.tmp 1], none⟩,
 ⟨some 7, .call 103, [.tmp 5, .tmp 6], none⟩,
 ⟨some 4, .mov, [.tmp 7], none⟩])
 (.ret)),
 [.slot 4]⟩
theorem m102_ok : compF Try.prog Try.f102 = some m102 := by kernel_rfl

def m95_1 : MC := .reg [
 ⟨some 20, .bin .add, [.tmp 6, .const (.int .i64 1)], none⟩,
 ⟨some 6, .mov, [.tmp 20], none⟩]
def m95_2 : MC := .seq (.block 1 (.seq (.reg [
 ⟨some 8, .mov, [.tmp 6], none⟩,
 ⟨some 3, .mov, [.tmp 8], none⟩])
 (.seq (.reg [
 ⟨some 9, .mov, [.tmp 0], none⟩,
 ⟨some 10, .mov, [.tmp 3], none⟩,
 ⟨some 11, .idxS, [.tmp 9, .tmp 10], none⟩,
 ⟨some 12, .call 100, [.tmp 11], none⟩,
 ⟨some 13, .un .not, [.tmp 12], none⟩,
 ⟨some 14, .mov, [.tmp 13], none⟩,
 ⟨some 15, .mov, [.tmp 0], some (14, false)⟩,
 ⟨some 16, .mov, [.tmp 3], some (14, false)⟩,
 ⟨some 17, .idxS, [.tmp 15, .tmp 16], some (14, false)⟩,
 ⟨some 18, .bin .eql, [.tmp 17, .const (.int .u8 35)], some (14, false)⟩,
 ⟨some 19, .pick, [.tmp 14, .const (.bool true), .tmp 18], none⟩])
 (.cond (.tmp 19)
 (.seq (.reg [
 ⟨some 2, .mov, [.const (.bool false)], none⟩])
 (.ret))
 (.skip)))))
 m95_1
def m95_3 : MC := .seq (.reg [
 ⟨some 21, .mov, [.tmp 0], none⟩,
 ⟨some 22, .lenS, [.tmp 21], none⟩,
 ⟨some 23, .call 94, [.tmp 22, .const (.int .i64 1), .const (.int .i64 40)], none⟩,
 ⟨some 2, .mov, [.tmp 23], none⟩])
 (.ret)
/-- loop.example/g00099/impl.WordOk -/
def m95 : MF := ⟨24,
 .seq (.reg [
 ⟨some 2, .mov, [.const (.bool false)], none⟩])
 (.seq (.seq (.reg [
 ⟨some 4, .mov, [.tmp 0], none⟩,
 ⟨some 5, .lenS, [.tmp 4], none⟩,
 ⟨some 6, .mov, [.const (.int .i64 0)], none⟩])
 (.block 0 (.loop (.seq (.reg [
 ⟨some 7, .bin .lss, [.tmp 6, .tmp 5], none⟩])
 (.seq (.cond (.tmp 7)
 (.skip)
 (.exit 0))
 m95_2)))))
 m95_3),
 [.slot 2]⟩
theorem m95_ok : compF Try.prog Try.f95 = some m95 := by kernel_rfl

def m96_1 : MC := .reg [
 ⟨some 28, .bin .add, [.tmp 7, .const (.int .i64 1)], none⟩,
 ⟨some 7, .mov, [.tmp 28], none⟩]
def m96_2 : MC := .seq (.block 1 (.seq (.reg [
 ⟨some 9, .mov, [.tmp 7], none⟩,
 ⟨some 10, .iaddr 1, [.tmp 5, .tmp 7], none⟩,
 ⟨some 11, .load false 1, [.tmp 10], none⟩,
 ⟨some 3, .mov, [.tmp 9], none⟩,
 ⟨some 4, .mov, [.tmp 11], none⟩])
 (.seq (.reg [
 ⟨some 12, .mov, [.tmp 4], none⟩,
 ⟨some 13, .call 95, [.tmp 12], none⟩,
 ⟨some 14, .un .not, [.tmp 13], none⟩,
 ⟨some 15, .mov, [.tmp 14], none⟩,
 ⟨some 16, .mov, [.tmp 3], some (15, false)⟩,
 ⟨some 17, .bin .gtr, [.tmp 16, .const (.int .i64 0)], some (15, false)⟩,
 ⟨some 18, .mov, [.tmp 17], some (15, false)⟩,
 ⟨some 19, .mov, [.tmp 0], some (18, true)⟩,
 ⟨some 20, .mov, [.tmp 3], some (18, true)⟩,
 ⟨some 21, .bin .sub, [.tmp 20, .const (.int .i64 1)], some (18, true)⟩,
 ⟨some 22, .iaddr 1, [.tmp 19, .tmp 21], some (18, true)⟩,
 ⟨some 23, .load false 1, [.tmp 22], some (18, true)⟩,
 ⟨some 24, .mov, [.tmp 4], some (18, true)⟩,
 ⟨some 25, .bin .geq, [.tmp 23, .tmp 24], some (18, true)⟩,
 ⟨some 26, .pick, [.tmp 18, .tmp 25, .const (.bool false)], some (15, false)⟩,
 ⟨some 27, .pick, [.tmp 15, .const (.bool true), .tmp 26], none⟩])
 (.cond (.tmp 27)
 (.seq (.reg [
 ⟨some 2, .mov, [.const (.bool false)], none⟩])
 (.ret))
 (.skip)))))
 m96_1
def m96_3 : MC := .seq (.reg [
 ⟨some 2, .mov, [.const (.bool true)], none⟩])
 (.ret)
/-- loop.example/g00099/impl.keysOk -/
def m96 : MF := ⟨29,
 .seq (.reg [
 ⟨some 2, .mov, [.const (.bool false)], none⟩])
 (.seq (.seq (.reg [
 ⟨some 5, .mov, [.tmp 0], none⟩,
 ⟨some 6, .lenL, [.tmp 5], none⟩,
 ⟨some 7, .mov, [.const (.int .i64 0)], none⟩])
 (.block 0 (.loop (.seq (.reg [
 ⟨some 8, .bin .lss, [.tmp 7, .tmp 6], none⟩])
 (.seq (.cond (.tmp 8)
 (.skip)
 (.exit 0))
 m96_2)))))
 m96_3),
 [.slot 2]⟩
theorem m96_ok : compF Try.prog Try.f96 = some m96 := by kernel_rfl

def m81_1 : MC := .cond (.tmp 38)
 (.seq (.reg [
 ⟨some 43, .mov, [.tmp 3], none⟩,
 ⟨some 44, .mov, [.tmp 43], none⟩,
 ⟨some 45, .mov, [.tmp 4], some (44, true)⟩,
 ⟨some 46, .pick, [.tmp 44, .tmp 45, .const (.bool false)], none⟩,
 ⟨some 2, .mov, [.tmp 46], none⟩])
 (.ret))
 (.seq (.reg [
 ⟨some 48, .bin .eql, [.tmp 37, .const (.int .i64 4)], none⟩,
 ⟨some 47, .mov, [.tmp 48], none⟩])
 (.cond (.tmp 47)
 (.seq (.reg [
 ⟨some 49, .faddr 1, [.tmp 1], none⟩,
 ⟨some 50, .load false 1, [.tmp 49], none⟩,
 ⟨some 51, .call 94, [.tmp 50, .const (.int .i64 (-1000000000)), .const (.int .i64 1000000000)], none⟩,
 ⟨some 52, .mov, [.tmp 51], none⟩,
 ⟨some 53, .mov, [.tmp 4], some (52, true)⟩,
 ⟨some 54, .pick, [.tmp 52, .tmp 53, .const (.bool false)], none⟩,
 ⟨some 2, .mov, [.tmp 54], none⟩])
 (.ret))
 (.seq (.reg [
 ⟨some 56, .bin .eql, [.tmp 37, .const (.int .i64 5)], none⟩,
 ⟨some 55, .mov, [.tmp 56], none⟩])
 (.cond (.tmp 55)
 (.seq (.reg [
 ⟨some 57, .mov, [.tmp 3], none⟩,
 ⟨some 58, .mov, [.tmp 57], none⟩,
 ⟨some 59, .faddr 2, [.tmp 1], some (58, true)⟩,
 ⟨some 60, .load false 1, [.tmp 59], some (58, true)⟩,
 ⟨some 61, .call 95, [.tmp 60], some (58, true)⟩,
 ⟨some 62, .pick, [.tmp 58, .tmp 61, .const (.bool false)], none⟩,
 ⟨some 2, .mov, [.tmp 62], none⟩])
 (.ret))
 (.seq (.reg [
 ⟨some 64, .bin .eql, [.tmp 37, .const (.int .i64 6)], none⟩,
 ⟨some 63, .mov, [.tmp 64], none⟩])
 (.cond (.tmp 63)
 (.seq (.reg [
 ⟨some 65, .mov, [.tmp 3], none⟩,
 ⟨some 66, .mov, [.tmp 65], none⟩,
 ⟨some 67, .faddr 2, [.tmp 1], some (66, true)⟩,
 ⟨some 68, .load false 1, [.tmp 67], some (66, true)⟩,
 ⟨some 69, .lenS, [.tmp 68], some (66, true)⟩,
 ⟨some 70, .bin .leq, [.tmp 69, .const (.int .i64 200)], some (66, true)⟩,
 ⟨some 71, .pick, [.tmp 66, .tmp 70, .const (.bool false)], none⟩,
 ⟨some 2, .mov, [.tmp 71], none⟩])
 (.ret))
 (.seq (.reg [
 ⟨some 73, .bin .eql, [.tmp 37, .const (.int .i64 8)], none⟩,
 ⟨some 72, .mov, [.tmp 73], none⟩])
 (.cond (.tmp 72)
 (.seq (.reg [
 ⟨some 74, .mov, [.tmp 3], none⟩,
 ⟨some 75, .mov, [.tmp 74], none⟩,
 ⟨some 76, .mov, [.tmp 4], some (75, true)⟩,
 ⟨some 77, .pick, [.tmp 75, .tmp 76, .const (.bool false)], none⟩,
 ⟨some 78, .mov, [.tmp 77], none⟩,
 ⟨some 79, .faddr 3, [.tmp 1], some (78, true)⟩,
 ⟨some 80, .load false 1, [.tmp 79], some (78, true)⟩,
 ⟨some 81, .lenL, [.tmp 80], some (78, true)⟩,
 ⟨some 82, .faddr 4, [.tmp 1], some (78, true)⟩,
 ⟨some 83, .load false 1, [.tmp 82], some (78, true)⟩,
 ⟨some 84, .lenL, [.tmp 83], some (78, true)⟩,
 ⟨some 85, .bin .eql, [.tmp 81, .tmp 84], some (78, true)⟩,
 ⟨some 86, .pick, [.tmp 78, .tmp 85, .const (.bool false)], none⟩,
 ⟨some 87, .mov, [.tmp 86], none⟩,
 ⟨some 88, .faddr 3, [.tmp 1], some (87, true)⟩,
 ⟨some 89, .load false 1, [.tmp 88], some (87, true)⟩,
 ⟨some 90, .call 96, [.tmp 89], some (87, true)⟩,
 ⟨some 91, .pick, [.tmp 87, .tmp 90, .const (.bool false)], none⟩,
 ⟨some 2, .mov, [.tmp 91], none⟩])
 (.ret))
 (.skip)))))))))
def m81_2 : MC := .seq (.reg [
 ⟨some 92, .faddr 0, [.tmp 1], none⟩,
 ⟨some 93, .load false 1, [.tmp 92], none⟩,
 ⟨some 94, .bin .eql, [.tmp 93, .const (.int .i64 9)], none⟩,
 ⟨some 95, .mov, [.tmp 94], none⟩,
 ⟨some 96, .faddr 1, [.tmp 1], some (95, true)⟩,
 ⟨some 97, .load false 1, [.tmp 96], some (95, true)⟩,
 ⟨some 98, .call 94, [.tmp 97, .const (.int .i64 1), .const (.int .i64 1000000000)], some (95, true)⟩,
 ⟨some 99, .pick, [.tmp 95, .tmp 98, .const (.bool false)], none⟩,
 ⟨some 100, .mov, [.tmp 99], none⟩,
 ⟨some 101, .mov, [.tmp 4], some (100, true)⟩,
 ⟨some 102, .pick, [.tmp 100, .tmp 101, .const (.bool false)], none⟩,
 ⟨some 2, .mov, [.tmp 102], none⟩])
 (.ret)
def m81_3 : MC := .seq (.reg [
 ⟨some 30, .faddr 1, [.tmp 1], none⟩,
 ⟨some 31, .load false 1, [.tmp 30], none⟩,
 ⟨some 32, .bin .eql, [.tmp 31, .const (.int .i64 0)], none⟩,
 ⟨some 3, .mov, [.tmp 32], none⟩])
 (.seq (.reg [
 ⟨some 33, .faddr 2, [.tmp 1], none⟩,
 ⟨some 34, .load false 1, [.tmp 33], none⟩,
 ⟨some 35, .bin .eql, [.tmp 34, .const (.string ⟨#[]⟩)], none⟩,
 ⟨some 4, .mov, [.tmp 35], none⟩])
 (.seq (.seq (.reg [
 ⟨some 36, .faddr 0, [.tmp 1], none⟩,
 ⟨some 37, .load false 1, [.tmp 36], none⟩])
 (.block 0 (.seq (.seq (.reg [
 ⟨some 39, .bin .eql, [.tmp 37, .const (.int .i64 1)], none⟩,
 ⟨some 38, .mov, [.tmp 39], none⟩])
 (.cond (.tmp 38)
 (.skip)
 (.seq (.reg [
 ⟨some 40, .bin .eql, [.tmp 37, .const (.int .i64 2)], none⟩,
 ⟨some 38, .mov, [.tmp 40], none⟩])
 (.cond (.tmp 38)
 (.skip)
 (.seq (.reg [
 ⟨some 41, .bin .eql, [.tmp 37, .const (.int .i64 3)], none⟩,
 ⟨some 38, .mov, [.tmp 41], none⟩])
 (.cond (.tmp 38)
 (.skip)
 (.reg [
 ⟨some 42, .bin .eql, [.tmp 37, .const (.int .i64 7)], none⟩,
 ⟨some 38, .mov, [.tmp 42], none⟩])))))))
 m81_1)))
 m81_2))
/-- loop.example/g00099/impl.fieldsOk -/
def m81 : MF := ⟨103,
 .seq (.reg [
 ⟨some 1, .box 5, [.tmp 0], none⟩,
 ⟨some 2, .mov, [.const (.bool false)], none⟩])
 (.seq (.seq (.reg [
 ⟨some 5, .faddr 0, [.tmp 1], none⟩,
 ⟨some 6, .load false 1, [.tmp 5], none⟩,
 ⟨some 7, .bin .neq, [.tmp 6, .const (.int .i64 8)], none⟩,
 ⟨some 8, .mov, [.tmp 7], none⟩,
 ⟨some 9, .faddr 3, [.tmp 1], some (8, true)⟩,
 ⟨some 10, .load false 1, [.tmp 9], some (8, true)⟩,
 ⟨some 11, .lenL, [.tmp 10], some (8, true)⟩,
 ⟨some 12, .bin .gtr, [.tmp 11, .const (.int .i64 0)], some (8, true)⟩,
 ⟨some 13, .pick, [.tmp 8, .tmp 12, .const (.bool false)], none⟩,
 ⟨some 14, .mov, [.tmp 13], none⟩,
 ⟨some 15, .faddr 0, [.tmp 1], some (14, false)⟩,
 ⟨some 16, .load false 1, [.tmp 15], some (14, false)⟩,
 ⟨some 17, .bin .neq, [.tmp 16, .const (.int .i64 8)], some (14, false)⟩,
 ⟨some 18, .mov, [.tmp 17], some (14, false)⟩,
 ⟨some 19, .faddr 0, [.tmp 1], some (18, true)⟩,
 ⟨some 20, .load false 1, [.tmp 19], some (18, true)⟩,
 ⟨some 21, .bin .neq, [.tmp 20, .const (.int .i64 7)], some (18, true)⟩,
 ⟨some 22, .pick, [.tmp 18, .tmp 21, .const (.bool false)], some (14, false)⟩,
 ⟨some 23, .mov, [.tmp 22], some (14, false)⟩,
 ⟨some 24, .faddr 4, [.tmp 1], some (23, true)⟩,
 ⟨some 25, .load false 1, [.tmp 24], some (23, true)⟩,
 ⟨some 26, .lenL, [.tmp 25], some (23, true)⟩,
 ⟨some 27, .bin .gtr, [.tmp 26, .const (.int .i64 0)], some (23, true)⟩,
 ⟨some 28, .pick, [.tmp 23, .tmp 27, .const (.bool false)], some (14, false)⟩,
 ⟨some 29, .pick, [.tmp 14, .const (.bool true), .tmp 28], none⟩])
 (.cond (.tmp 29)
 (.seq (.reg [
 ⟨some 2, .mov, [.const (.bool false)], none⟩])
 (.ret))
 (.skip)))
 m81_3),
 [.slot 2]⟩
theorem m81_ok : compF Try.prog Try.f81 = some m81 := by kernel_rfl

def m56_1 : MC := .reg [
 ⟨some 30, .bin .add, [.tmp 18, .const (.int .i64 1)], none⟩,
 ⟨some 18, .mov, [.tmp 30], none⟩]
def m56_2 : MC := .seq (.block 1 (.seq (.reg [
 ⟨some 20, .iaddr 5, [.tmp 16, .tmp 18], none⟩,
 ⟨some 21, .load true 5, [.tmp 20], none⟩,
 ⟨some 7, .alloc [.int .i64 0, .int .i64 0, .string ⟨#[]⟩, .slice none 0 0, .slice none 0 0] 5, [], none⟩,
 ⟨none, .store 5, [.tmp 7, .tmp 21], none⟩])
 (.seq (.reg [
 ⟨some 22, .mov, [.tmp 5], none⟩,
 ⟨some 23, .load true 5, [.tmp 7], none⟩,
 ⟨some 24, .mov, [.tmp 1], none⟩,
 ⟨some 25, .bin .add, [.tmp 24, .const (.int .i64 1)], none⟩,
 ⟨some 26, .call 56, [.tmp 23, .tmp 25], none⟩,
 ⟨some 27, .bin .add, [.tmp 22, .tmp 26], none⟩,
 ⟨some 5, .mov, [.tmp 27], none⟩])
 (.seq (.reg [
 ⟨some 28, .mov, [.tmp 5], none⟩,
 ⟨some 29, .bin .gtr, [.tmp 28, .const (.int .i64 120)], none⟩])
 (.cond (.tmp 29)
 (.seq (.reg [
 ⟨some 4, .mov, [.const (.int .i64 121)], none⟩])
 (.ret))
 (.skip))))))
 m56_1
def m56_3 : MC := .seq (.reg [
 ⟨some 31, .mov, [.tmp 5], none⟩,
 ⟨some 4, .mov, [.tmp 31], none⟩])
 (.ret)
def m56_4 : MC := .seq (.reg [
 ⟨some 5, .mov, [.const (.int .i64 1)], none⟩])
 (.seq (.seq (.reg [
 ⟨some 15, .faddr 4, [.tmp 2], none⟩,
 ⟨some 16, .load false 1, [.tmp 15], none⟩,
 ⟨some 17, .lenL, [.tmp 16], none⟩,
 ⟨some 18, .mov, [.const (.int .i64 0)], none⟩])
 (.block 0 (.loop (.seq (.reg [
 ⟨some 19, .bin .lss, [.tmp 18, .tmp 17], none⟩])
 (.seq (.cond (.tmp 19)
 (.skip)
 (.exit 0))
 m56_2)))))
 m56_3)
/-- loop.example/g00099/impl.countOf -/
def m56 : MF := ⟨32,
 .seq (.reg [
 ⟨some 2, .box 5, [.tmp 0], none⟩,
 ⟨some 4, .mov, [.const (.int .i64 0)], none⟩])
 (.seq (.seq (.reg [
 ⟨some 8, .mov, [.tmp 1], none⟩,
 ⟨some 9, .bin .gtr, [.tmp 8, .const (.int .i64 6)], none⟩,
 ⟨some 10, .mov, [.tmp 9], none⟩,
 ⟨some 11, .load true 5, [.tmp 2], some (10, false)⟩,
 ⟨some 12, .call 81, [.tmp 11], some (10, false)⟩,
 ⟨some 13, .un .not, [.tmp 12], some (10, false)⟩,
 ⟨some 14, .pick, [.tmp 10, .const (.bool true), .tmp 13], none⟩])
 (.cond (.tmp 14)
 (.seq (.reg [
 ⟨some 4, .mov, [.const (.int .i64 121)], none⟩])
 (.ret))
 (.skip)))
 m56_4),
 [.slot 4]⟩
theorem m56_ok : compF Try.prog Try.f56 = some m56 := by kernel_rfl

/-- loop.example/g00099/impl.ObjOk -/
def m19 : MF := ⟨6,
 .seq (.reg [
 ⟨some 1, .box 5, [.tmp 0], none⟩,
 ⟨some 2, .mov, [.const (.bool false)], none⟩])
 (.seq (.reg [
 ⟨some 3, .load true 5, [.tmp 1], none⟩,
 ⟨some 4, .call 56, [.tmp 3, .const (.int .i64 0)], none⟩,
 ⟨some 5, .bin .leq, [.tmp 4, .const (.int .i64 120)], none⟩,
 ⟨some 2, .mov, [.tmp 5], none⟩])
 (.ret)),
 [.slot 2]⟩
theorem m19_ok : compF Try.prog Try.f19 = some m19 := by kernel_rfl

def m68_1 : MC := .cond (.tmp 29)
 (.skip)
 (.seq (.reg [
 ⟨some 34, .bin .eql, [.tmp 28, .const (.int .i64 4)], none⟩,
 ⟨some 33, .mov, [.tmp 34], none⟩])
 (.cond (.tmp 33)
 (.seq (.reg [
 ⟨some 7, .mov, [.const (.bool true)], none⟩])
 (.seq (.reg [
 ⟨some 35, .faddr 1, [.tmp 3], none⟩,
 ⟨some 36, .load false 1, [.tmp 35], none⟩,
 ⟨some 37, .call 83, [.tmp 36, .const (.int .i64 (-1000000000)), .const (.int .i64 1000000000)], none⟩,
 ⟨some 38, .un .not, [.tmp 37], none⟩])
 (.cond (.tmp 38)
 (.seq (.reg [
 ⟨some 6, .mov, [.const (.bool false)], none⟩])
 (.ret))
 (.skip))))
 (.seq (.reg [
 ⟨some 40, .bin .eql, [.tmp 28, .const (.int .i64 9)], none⟩,
 ⟨some 39, .mov, [.tmp 40], none⟩])
 (.cond (.tmp 39)
 (.seq (.reg [
 ⟨some 7, .mov, [.const (.bool true)], none⟩])
 (.seq (.reg [
 ⟨some 41, .faddr 1, [.tmp 3], none⟩,
 ⟨some 42, .load false 1, [.tmp 41], none⟩,
 ⟨some 43, .call 83, [.tmp 42, .const (.int .i64 1), .const (.int .i64 1000000000)], none⟩,
 ⟨some 44, .un .not, [.tmp 43], none⟩])
 (.cond (.tmp 44)
 (.seq (.reg [
 ⟨some 6, .mov, [.const (.bool false)], none⟩])
 (.ret))
 (.skip))))
 (.seq (.reg [
 ⟨some 46, .bin .eql, [.tmp 28, .const (.int .i64 5)], none⟩,
 ⟨some 45, .mov, [.tmp 46], none⟩])
 (.cond (.tmp 45)
 (.seq (.reg [
 ⟨some 8, .mov, [.const (.bool true)], none⟩])
 (.seq (.reg [
 ⟨some 47, .faddr 2, [.tmp 3], none⟩,
 ⟨some 48, .load false 1, [.tmp 47], none⟩,
 ⟨some 49, .call 89, [.tmp 48], none⟩,
 ⟨some 50, .un .not, [.tmp 49], none⟩])
 (.cond (.tmp 50)
 (.seq (.reg [
 ⟨some 6, .mov, [.const (.bool false)], none⟩])
 (.ret))
 (.skip))))
 (.seq (.reg [
 ⟨some 52, .bin .eql, [.tmp 28, .const (.int .i64 6)], none⟩,
 ⟨some 51, .mov, [.tmp 52], none⟩])
 (.cond (.tmp 51)
 (.seq (.reg [
 ⟨some 8, .mov, [.const (.bool true)], none⟩])
 (.seq (.reg [
 ⟨some 53, .faddr 2, [.tmp 3], none⟩,
 ⟨some 54, .load false 1, [.tmp 53], none⟩,
 ⟨some 55, .lenS, [.tmp 54], none⟩,
 ⟨some 56, .bin .gtr, [.tmp 55, .const (.int .i64 200)], none⟩])
 (.cond (.tmp 56)
 (.seq (.reg [
 ⟨some 6, .mov, [.const (.bool false)], none⟩])
 (.ret))
 (.skip))))
 (.seq (.reg [
 ⟨some 58, .bin .eql, [.tmp 28, .const (.int .i64 7)], none⟩,
 ⟨some 57, .mov, [.tmp 58], none⟩])
 (.cond (.tmp 57)
 (.reg [
 ⟨some 9, .mov, [.const (.bool true)], none⟩])
 (.seq (.reg [
 ⟨some 60, .bin .eql, [.tmp 28, .const (.int .i64 8)], none⟩,
 ⟨some 59, .mov, [.tmp 60], none⟩])
 (.cond (.tmp 59)
 (.seq (.reg [
 ⟨some 9, .mov, [.const (.bool true)], none⟩])
 (.seq (.reg [
 ⟨some 10, .mov, [.const (.bool true)], none⟩])
 (.seq (.reg [
 ⟨some 61, .faddr 3, [.tmp 3], none⟩,
 ⟨some 62, .load false 1, [.tmp 61], none⟩,
 ⟨some 63, .lenL, [.tmp 62], none⟩,
 ⟨some 64, .faddr 4, [.tmp 3], none⟩,
 ⟨some 65, .load false 1, [.tmp 64], none⟩,
 ⟨some 66, .lenL, [.tmp 65], none⟩,
 ⟨some 67, .bin .neq, [.tmp 63, .tmp 66], none⟩])
 (.cond (.tmp 67)
 (.seq (.reg [
 ⟨some 6, .mov, [.const (.bool false)], none⟩])
 (.ret))
 (.skip)))))
 (.seq (.reg [
 ⟨some 6, .mov, [.const (.bool false)], none⟩])
 (.ret))))))))))))))
def m68_2 : MC := .reg [
 ⟨some 109, .mov, [.tmp 11], none⟩,
 ⟨some 110, .bin .add, [.tmp 109, .const (.int .i64 1)], none⟩,
 ⟨some 11, .mov, [.tmp 110], none⟩]
def m68_3 : MC := .seq (.block 2 (.seq (.draw [
 (⟨some 111, .faddr 3, [.tmp 3], none⟩, []),
 (⟨some 113, .mov, [.tmp 11], none⟩, []),
 (⟨some 112, .load false 1, [.tmp 111], none⟩, []),
 (⟨some 114, .iaddr 1, [.tmp 112, .tmp 113], none⟩, []),
 (⟨some 115, .load false 1, [.tmp 114], none⟩, []),
 (⟨some 116, .call 89, [.tmp 115], none⟩, []),
 (⟨some 117, .un .not, [.tmp 116], none⟩, []),
 (⟨some 118, .mov, [.tmp 117], none⟩, []),
 (⟨some 119, .mov, [.tmp 11], some (118, false)⟩, []),
 (⟨some 120, .bin .gtr, [.tmp 119, .const (.int .i64 0)], some (118, false)⟩, []),
 (⟨some 121, .mov, [.tmp 120], some (118, false)⟩, []),
 (⟨some 122, .faddr 3, [.tmp 3], some (121, true)⟩, []),
 (⟨some 124, .mov, [.tmp 11], some (121, true)⟩, []),
 (⟨some 125, .bin .sub, [.tmp 124, .const (.int .i64 1)], some (121, true)⟩, []),
 (⟨some 128, .faddr 3, [.tmp 3], some (121, true)⟩, []),
 (⟨some 130, .mov, [.tmp 11], some (121, true)⟩, []),
 (⟨some 123, .load false 1, [.tmp 122], some (121, true)⟩, []),
 (⟨some 126, .iaddr 1, [.tmp 123, .tmp 125], some (121, true)⟩, []),
 (⟨some 127, .load false 1, [.tmp 126], some (121, true)⟩, []),
 (⟨some 129, .load false 1, [.tmp 128], some (121, true)⟩, []),
 (⟨some 131, .iaddr 1, [.tmp 129, .tmp 130], some (121, true)⟩, []),
 (⟨some 132, .load false 1, [.tmp 131], some (121, true)⟩, []),
 (⟨some 133, .bin .geq, [.tmp 127, .tmp 132], some (121, true)⟩, []),
 (⟨some 134, .pick, [.tmp 121, .tmp 133, .const (.bool false)], some (118, false)⟩, []),
 (⟨some 135, .pick, [.tmp 118, .const (.bool true), .tmp 134], none⟩, [])])
 (.cond (.tmp 135)
 (.seq (.reg [
 ⟨some 6, .mov, [.const (.bool false)], none⟩])
 (.ret))
 (.skip))))
 m68_2
def m68_4 : MC := .reg [
 ⟨some 141, .mov, [.tmp 12], none⟩,
 ⟨some 142, .bin .add, [.tmp 141, .const (.int .i64 1)], none⟩,
 ⟨some 12, .mov, [.tmp 142], none⟩]
def m68_5 : MC := .seq (.block 4 (.seq (.reg [
 ⟨some 143, .faddr 4, [.tmp 3], none⟩,
 ⟨some 144, .load false 1, [.tmp 143], none⟩,
 ⟨some 145, .mov, [.tmp 12], none⟩,
 ⟨some 146, .iaddr 5, [.tmp 144, .tmp 145], none⟩,
 ⟨some 147, .load true 5, [.tmp 146], none⟩,
 ⟨some 148, .mov, [.tmp 1], none⟩,
 ⟨some 149, .bin .add, [.tmp 148, .const (.int .i64 1)], none⟩,
 ⟨some 150, .mov, [.tmp 2], none⟩,
 ⟨some 151, .call 68, [.tmp 147, .tmp 149, .tmp 150], none⟩,
 ⟨some 152, .un .not, [.tmp 151], none⟩])
 (.cond (.tmp 152)
 (.seq (.reg [
 ⟨some 6, .mov, [.const (.bool false)], none⟩])
 (.ret))
 (.skip))))
 m68_4
def m68_6 : MC := .seq (.reg [
 ⟨some 6, .mov, [.const (.bool true)], none⟩])
 (.ret)
def m68_7 : MC := .seq (.seq (.reg [
 ⟨some 12, .mov, [.const (.int .i64 0)], none⟩])
 (.block 3 (.loop (.seq (.seq (.reg [
 ⟨some 136, .mov, [.tmp 12], none⟩,
 ⟨some 137, .faddr 4, [.tmp 3], none⟩,
 ⟨some 138, .load false 1, [.tmp 137], none⟩,
 ⟨some 139, .lenL, [.tmp 138], none⟩,
 ⟨some 140, .bin .lss, [.tmp 136, .tmp 139], none⟩])
 (.cond (.tmp 140)
 (.skip)
 (.exit 3)))
 m68_5))))
 m68_6
def m68_8 : MC := .seq (.seq (.reg [
 ⟨some 11, .mov, [.const (.int .i64 0)], none⟩])
 (.block 1 (.loop (.seq (.seq (.reg [
 ⟨some 104, .mov, [.tmp 11], none⟩,
 ⟨some 105, .faddr 3, [.tmp 3], none⟩,
 ⟨some 106, .load false 1, [.tmp 105], none⟩,
 ⟨some 107, .lenL, [.tmp 106], none⟩,
 ⟨some 108, .bin .lss, [.tmp 104, .tmp 107], none⟩])
 (.cond (.tmp 108)
 (.skip)
 (.exit 1)))
 m68_3))))
 m68_7
def m68_9 : MC := .seq (.seq (.reg [
 ⟨some 68, .mov, [.tmp 7], none⟩,
 ⟨some 69, .un .not, [.tmp 68], none⟩,
 ⟨some 70, .mov, [.tmp 69], none⟩,
 ⟨some 71, .faddr 1, [.tmp 3], some (70, true)⟩,
 ⟨some 72, .load false 1, [.tmp 71], some (70, true)⟩,
 ⟨some 73, .bin .neq, [.tmp 72, .const (.int .i64 0)], some (70, true)⟩,
 ⟨some 74, .pick, [.tmp 70, .tmp 73, .const (.bool false)], none⟩,
 ⟨some 75, .mov, [.tmp 74], none⟩,
 ⟨some 76, .mov, [.tmp 8], some (75, false)⟩,
 ⟨some 77, .un .not, [.tmp 76], some (75, false)⟩,
 ⟨some 78, .mov, [.tmp 77], some (75, false)⟩,
 ⟨some 79, .faddr 2, [.tmp 3], some (78, true)⟩,
 ⟨some 80, .load false 1, [.tmp 79], some (78, true)⟩,
 ⟨some 81, .bin .neq, [.tmp 80, .const (.string ⟨#[]⟩)], some (78, true)⟩,
 ⟨some 82, .pick, [.tmp 78, .tmp 81, .const (.bool false)], some (75, false)⟩,
 ⟨some 83, .pick, [.tmp 75, .const (.bool true), .tmp 82], none⟩,
 ⟨some 84, .mov, [.tmp 83], none⟩,
 ⟨some 85, .mov, [.tmp 9], some (84, false)⟩,
 ⟨some 86, .un .not, [.tmp 85], some (84, false)⟩,
 ⟨some 87, .mov, [.tmp 86], some (84, false)⟩,
 ⟨some 88, .faddr 4, [.tmp 3], some (87, true)⟩,
 ⟨some 89, .load false 1, [.tmp 88], some (87, true)⟩,
 ⟨some 90, .lenL, [.tmp 89], some (87, true)⟩,
 ⟨some 91, .bin .gtr, [.tmp 90, .const (.int .i64 0)], some (87, true)⟩,
 ⟨some 92, .pick, [.tmp 87, .tmp 91, .const (.bool false)], some (84, false)⟩,
 ⟨some 93, .pick, [.tmp 84, .const (.bool true), .tmp 92], none⟩,
 ⟨some 94, .mov, [.tmp 93], none⟩,
 ⟨some 95, .mov, [.tmp 10], some (94, false)⟩,
 ⟨some 96, .un .not, [.tmp 95], some (94, false)⟩,
 ⟨some 97, .mov, [.tmp 96], some (94, false)⟩,
 ⟨some 98, .faddr 3, [.tmp 3], some (97, true)⟩,
 ⟨some 99, .load false 1, [.tmp 98], some (97, true)⟩,
 ⟨some 100, .lenL, [.tmp 99], some (97, true)⟩,
 ⟨some 101, .bin .gtr, [.tmp 100, .const (.int .i64 0)], some (97, true)⟩,
 ⟨some 102, .pick, [.tmp 97, .tmp 101, .const (.bool false)], some (94, false)⟩,
 ⟨some 103, .pick, [.tmp 94, .const (.bool true), .tmp 102], none⟩])
 (.cond (.tmp 103)
 (.seq (.reg [
 ⟨some 6, .mov, [.const (.bool false)], none⟩])
 (.ret))
 (.skip)))
 m68_8
def m68_10 : MC := .seq (.reg [
 ⟨some 7, .mov, [.const (.bool false)], none⟩])
 (.seq (.reg [
 ⟨some 8, .mov, [.const (.bool false)], none⟩])
 (.seq (.reg [
 ⟨some 9, .mov, [.const (.bool false)], none⟩])
 (.seq (.reg [
 ⟨some 10, .mov, [.const (.bool false)], none⟩])
 (.seq (.seq (.reg [
 ⟨some 27, .faddr 0, [.tmp 3], none⟩,
 ⟨some 28, .load false 1, [.tmp 27], none⟩])
 (.block 0 (.seq (.seq (.reg [
 ⟨some 30, .bin .eql, [.tmp 28, .const (.int .i64 1)], none⟩,
 ⟨some 29, .mov, [.tmp 30], none⟩])
 (.cond (.tmp 29)
 (.skip)
 (.seq (.reg [
 ⟨some 31, .bin .eql, [.tmp 28, .const (.int .i64 2)], none⟩,
 ⟨some 29, .mov, [.tmp 31], none⟩])
 (.cond (.tmp 29)
 (.skip)
 (.reg [
 ⟨some 32, .bin .eql, [.tmp 28, .const (.int .i64 3)], none⟩,
 ⟨some 29, .mov, [.tmp 32], none⟩])))))
 m68_1)))
 m68_9))))
/-- loop.example/g00099/spec.l21Ok -/
def m68 : MF := ⟨153,
 .seq (.reg [
 ⟨some 3, .box 5, [.tmp 0], none⟩,
 ⟨some 6, .mov, [.const (.bool false)], none⟩])
 (.seq (.reg [
 ⟨some 13, .mov, [.tmp 2], none⟩,
 ⟨some 14, .mov, [.tmp 2], none⟩,
 ⟨some 15, .nilc, [.tmp 14], none⟩,
 ⟨some 16, .load false 1, [.tmp 15], none⟩,
 ⟨some 17, .bin .sub, [.tmp 16, .const (.int .i64 1)], none⟩,
 ⟨some 18, .nilc, [.tmp 13], none⟩,
 ⟨none, .store 1, [.tmp 18, .tmp 17], none⟩])
 (.seq (.seq (.reg [
 ⟨some 19, .mov, [.tmp 2], none⟩,
 ⟨some 20, .nilc, [.tmp 19], none⟩,
 ⟨some 21, .load false 1, [.tmp 20], none⟩,
 ⟨some 22, .bin .lss, [.tmp 21, .const (.int .i64 0)], none⟩,
 ⟨some 23, .mov, [.tmp 22], none⟩,
 ⟨some 24, .mov, [.tmp 1], some (23, false)⟩,
 ⟨some 25, .bin .gtr, [.tmp 24, .const (.int .i64 6)], some (23, false)⟩,
 ⟨some 26, .pick, [.tmp 23, .const (.bool true), .tmp 25], none⟩])
 (.cond (.tmp 26)
 (.seq (.reg [
 ⟨some 6, .mov, [.const (.bool false)], none⟩])
 (.ret))
 (.skip)))
 m68_10)),
 [.slot 6]⟩
theorem m68_ok : compF Try.prog Try.f68 = some m68 := by kernel_rfl

/-- loop.example/g00099/spec.ObjOk -/
def m43 : MF := ⟨6,
 .seq (.reg [
 ⟨some 1, .box 5, [.tmp 0], none⟩,
 ⟨some 2, .mov, [.const (.bool false)], none⟩])
 (.seq (.reg [
 ⟨some 3, .alloc [.int .i64 0] 1, [], none⟩,
 ⟨none, .store 1, [.tmp 3, .const (.int .i64 120)], none⟩])
 (.seq (.reg [
 ⟨some 4, .load true 5, [.tmp 1], none⟩,
 ⟨some 5, .call 68, [.tmp 4, .const (.int .i64 0), .tmp 3], none⟩,
 ⟨some 2, .mov, [.tmp 5], none⟩])
 (.ret))),
 [.slot 2]⟩
theorem m43_ok : compF Try.prog Try.f43 = some m43 := by kernel_rfl

end Go.Proofs.Ytdfmdclfnhgjiaa.Can
