/- Functions in the short form, written by gen.lean: part 3.
 Conditions: none; each is what the given program's function comes to. -/
import Derived.Test.YtdfmdclfnhgjiaaChecked
import Derived.Test.YtdfmdclfnhgjiaaCanI
import Derived.KernelRfl
set_option linter.unusedVariables false
namespace Go.Proofs.Ytdfmdclfnhgjiaa.Can
open Go

def m84_1 : MC := .seq (.reg [
 ⟨some 18, .faddr 1, [.tmp 3], none⟩,
 ⟨some 19, .load false 1, [.tmp 18], none⟩,
 ⟨some 2, .mov, [.tmp 19], none⟩])
 (.ret)
/-- loop.example/g00099/spec.l22Length -/
def m84 : MF := ⟨20,
 .seq (.reg [
 ⟨some 1, .box 8, [.tmp 0], none⟩,
 ⟨some 2, .mov, [.const (.int .i64 0)], none⟩])
 (.seq (.reg [
 ⟨some 6, .faddr 1, [.tmp 1], none⟩,
 ⟨some 7, .load true 5, [.tmp 6], none⟩,
 ⟨some 8, .call 8, [.tmp 7, .const (.string ⟨#[76, 101, 110, 103, 116, 104]⟩)], none⟩,
 ⟨some 5, .mov, [.tmp 8], none⟩,
 ⟨some 9, .ext 0, [.tmp 5], none⟩,
 ⟨some 10, .ext 1, [.tmp 5], none⟩,
 ⟨some 3, .alloc [.int .i64 0, .int .i64 0, .string ⟨#[]⟩, .slice none 0 0, .slice none 0 0] 5, [], none⟩,
 ⟨none, .store 5, [.tmp 3, .tmp 9], none⟩,
 ⟨some 4, .mov, [.tmp 10], none⟩])
 (.seq (.seq (.reg [
 ⟨some 11, .mov, [.tmp 4], none⟩,
 ⟨some 12, .un .not, [.tmp 11], none⟩,
 ⟨some 13, .mov, [.tmp 12], none⟩,
 ⟨some 14, .faddr 0, [.tmp 3], some (13, false)⟩,
 ⟨some 15, .load false 1, [.tmp 14], some (13, false)⟩,
 ⟨some 16, .bin .neq, [.tmp 15, .const (.int .i64 4)], some (13, false)⟩,
 ⟨some 17, .pick, [.tmp 13, .const (.bool true), .tmp 16], none⟩])
 (.cond (.tmp 17)
 (.seq (.reg [
 ⟨some 2, .mov, [.const (.int .i64 (-1))], none⟩])
 (.ret))
 (.skip)))
 m84_1)),
 [.slot 2]⟩
theorem m84_ok : compF Try.prog Try.f84 = some m84 := by kernel_rfl

def m58_1 : MC := .reg [
 ⟨some 11, .mov, [.tmp 5], none⟩,
 ⟨some 12, .bin .add, [.tmp 11, .const (.int .i64 1)], none⟩,
 ⟨some 5, .mov, [.tmp 12], none⟩]
def m58_2 : MC := .seq (.block 1 (.seq (.reg [
 ⟨some 13, .faddr 0, [.tmp 2], none⟩,
 ⟨some 14, .load false 1, [.tmp 13], none⟩,
 ⟨some 15, .mov, [.tmp 5], none⟩,
 ⟨some 16, .iaddr 8, [.tmp 14, .tmp 15], none⟩,
 ⟨some 17, .faddr 0, [.tmp 16], none⟩,
 ⟨some 18, .load false 1, [.tmp 17], none⟩,
 ⟨some 19, .mov, [.tmp 1], none⟩,
 ⟨some 20, .bin .eql, [.tmp 18, .tmp 19], none⟩])
 (.cond (.tmp 20)
 (.seq (.reg [
 ⟨some 21, .mov, [.tmp 5], none⟩,
 ⟨some 4, .mov, [.tmp 21], none⟩])
 (.ret))
 (.skip))))
 m58_1
def m58_3 : MC := .seq (.reg [
 ⟨some 4, .mov, [.const (.int .i64 (-1))], none⟩])
 (.ret)
/-- loop.example/g00099/spec.l22Find -/
def m58 : MF := ⟨22,
 .seq (.reg [
 ⟨some 2, .box 2, [.tmp 0], none⟩,
 ⟨some 4, .mov, [.const (.int .i64 0)], none⟩])
 (.seq (.seq (.reg [
 ⟨some 5, .mov, [.const (.int .i64 0)], none⟩])
 (.block 0 (.loop (.seq (.seq (.reg [
 ⟨some 6, .mov, [.tmp 5], none⟩,
 ⟨some 7, .faddr 0, [.tmp 2], none⟩,
 ⟨some 8, .load false 1, [.tmp 7], none⟩,
 ⟨some 9, .lenL, [.tmp 8], none⟩,
 ⟨some 10, .bin .lss, [.tmp 6, .tmp 9], none⟩])
 (.cond (.tmp 10)
 (.skip)
 (.exit 0)))
 m58_2))))
 m58_3),
 [.slot 4]⟩
theorem m58_ok : compF Try.prog Try.f58 = some m58 := by kernel_rfl

def m59_1 : MC := .seq (.draw [
 (⟨some 48, .faddr 6, [.tmp 4], none⟩, []),
 (⟨some 49, .load false 1, [.tmp 48], none⟩, []),
 (⟨some 50, .mov, [.tmp 49], none⟩, []),
 (⟨some 51, .faddr 1, [.tmp 4], some (50, true)⟩, []),
 (⟨some 52, .faddr 0, [.tmp 51], some (50, true)⟩, []),
 (⟨some 53, .load false 1, [.tmp 52], some (50, true)⟩, []),
 (⟨some 54, .bin .neq, [.tmp 53, .const (.int .i64 8)], some (50, true)⟩, []),
 (⟨some 55, .mov, [.tmp 54], some (50, true)⟩, []),
 (⟨some 58, .faddr 7, [.tmp 4], some (55, false)⟩, []),
 (⟨some 56, .load true 8, [.tmp 4], some (55, false)⟩, []),
 (⟨some 59, .load false 1, [.tmp 58], some (55, false)⟩, []),
 (⟨some 60, .lenS, [.tmp 59], some (55, false)⟩, []),
 (⟨some 57, .call 84, [.tmp 56], some (55, false)⟩, [⟨some 59, .load false 1, [.tmp 58], some (55, false)⟩]),
 (⟨some 61, .bin .neq, [.tmp 57, .tmp 60], some (55, false)⟩, []),
 (⟨some 62, .pick, [.tmp 55, .const (.bool true), .tmp 61], some (50, true)⟩, []),
 (⟨some 63, .pick, [.tmp 50, .tmp 62, .const (.bool false)], none⟩, []),
 (⟨some 64, .mov, [.tmp 63], none⟩, []),
 (⟨some 65, .faddr 6, [.tmp 4], some (64, false)⟩, []),
 (⟨some 66, .load false 1, [.tmp 65], some (64, false)⟩, []),
 (⟨some 67, .un .not, [.tmp 66], some (64, false)⟩, []),
 (⟨some 68, .mov, [.tmp 67], some (64, false)⟩, []),
 (⟨some 69, .faddr 7, [.tmp 4], some (68, true)⟩, []),
 (⟨some 70, .load false 1, [.tmp 69], some (68, true)⟩, []),
 (⟨some 71, .bin .neq, [.tmp 70, .const (.string ⟨#[]⟩)], some (68, true)⟩, []),
 (⟨some 72, .pick, [.tmp 68, .tmp 71, .const (.bool false)], some (64, false)⟩, []),
 (⟨some 73, .pick, [.tmp 64, .const (.bool true), .tmp 72], none⟩, [])])
 (.cond (.tmp 73)
 (.seq (.reg [
 ⟨some 2, .mov, [.const (.bool false)], none⟩])
 (.ret))
 (.skip))
def m59_2 : MC := .reg [
 ⟨some 15, .mov, [.tmp 3], none⟩,
 ⟨some 16, .bin .add, [.tmp 15, .const (.int .i64 1)], none⟩,
 ⟨some 3, .mov, [.tmp 16], none⟩]
def m59_3 : MC := .seq (.block 1 (.seq (.reg [
 ⟨some 17, .faddr 0, [.tmp 1], none⟩,
 ⟨some 18, .load false 1, [.tmp 17], none⟩,
 ⟨some 19, .mov, [.tmp 3], none⟩,
 ⟨some 20, .iaddr 8, [.tmp 18, .tmp 19], none⟩,
 ⟨some 21, .load true 8, [.tmp 20], none⟩,
 ⟨some 4, .alloc [.int .i64 0, .int .i64 0, .int .i64 0, .string ⟨#[]⟩, .slice none 0 0, .slice none 0 0, .bool false, .string ⟨#[]⟩] 8, [], none⟩,
 ⟨none, .store 8, [.tmp 4, .tmp 21], none⟩])
 (.seq (.seq (.draw [
 (⟨some 22, .faddr 0, [.tmp 4], none⟩, []),
 (⟨some 23, .load false 1, [.tmp 22], none⟩, []),
 (⟨some 24, .call 83, [.tmp 23, .const (.int .i64 1), .const (.int .i64 99)], none⟩, []),
 (⟨some 25, .un .not, [.tmp 24], none⟩, []),
 (⟨some 26, .mov, [.tmp 25], none⟩, []),
 (⟨some 27, .mov, [.tmp 3], some (26, false)⟩, []),
 (⟨some 28, .bin .gtr, [.tmp 27, .const (.int .i64 0)], some (26, false)⟩, []),
 (⟨some 29, .mov, [.tmp 28], some (26, false)⟩, []),
 (⟨some 30, .faddr 0, [.tmp 1], some (29, true)⟩, []),
 (⟨some 32, .mov, [.tmp 3], some (29, true)⟩, []),
 (⟨some 33, .bin .sub, [.tmp 32, .const (.int .i64 1)], some (29, true)⟩, []),
 (⟨some 37, .faddr 0, [.tmp 4], some (29, true)⟩, []),
 (⟨some 31, .load false 1, [.tmp 30], some (29, true)⟩, []),
 (⟨some 34, .iaddr 8, [.tmp 31, .tmp 33], some (29, true)⟩, []),
 (⟨some 35, .faddr 0, [.tmp 34], some (29, true)⟩, []),
 (⟨some 36, .load false 1, [.tmp 35], some (29, true)⟩, []),
 (⟨some 38, .load false 1, [.tmp 37], some (29, true)⟩, []),
 (⟨some 39, .bin .geq, [.tmp 36, .tmp 38], some (29, true)⟩, []),
 (⟨some 40, .pick, [.tmp 29, .tmp 39, .const (.bool false)], some (26, false)⟩, []),
 (⟨some 41, .pick, [.tmp 26, .const (.bool true), .tmp 40], none⟩, []),
 (⟨some 42, .mov, [.tmp 41], none⟩, []),
 (⟨some 43, .faddr 1, [.tmp 4], some (42, false)⟩, []),
 (⟨some 44, .load true 5, [.tmp 43], some (42, false)⟩, []),
 (⟨some 45, .call 43, [.tmp 44], some (42, false)⟩, []),
 (⟨some 46, .un .not, [.tmp 45], some (42, false)⟩, []),
 (⟨some 47, .pick, [.tmp 42, .const (.bool true), .tmp 46], none⟩, [])])
 (.cond (.tmp 47)
 (.seq (.reg [
 ⟨some 2, .mov, [.const (.bool false)], none⟩])
 (.ret))
 (.skip)))
 m59_1)))
 m59_2
def m59_4 : MC := .seq (.reg [
 ⟨some 74, .load true 2, [.tmp 1], none⟩,
 ⟨some 75, .faddr 1, [.tmp 1], none⟩,
 ⟨some 76, .load false 1, [.tmp 75], none⟩,
 ⟨some 77, .call 58, [.tmp 74, .tmp 76], none⟩,
 ⟨some 5, .mov, [.tmp 77], none⟩])
 (.seq (.reg [
 ⟨some 78, .mov, [.tmp 5], none⟩,
 ⟨some 79, .bin .geq, [.tmp 78, .const (.int .i64 0)], none⟩,
 ⟨some 80, .mov, [.tmp 79], none⟩,
 ⟨some 81, .faddr 0, [.tmp 1], some (80, true)⟩,
 ⟨some 82, .load false 1, [.tmp 81], some (80, true)⟩,
 ⟨some 83, .mov, [.tmp 5], some (80, true)⟩,
 ⟨some 84, .iaddr 8, [.tmp 82, .tmp 83], some (80, true)⟩,
 ⟨some 85, .faddr 1, [.tmp 84], some (80, true)⟩,
 ⟨some 86, .faddr 0, [.tmp 85], some (80, true)⟩,
 ⟨some 87, .load false 1, [.tmp 86], some (80, true)⟩,
 ⟨some 88, .bin .eql, [.tmp 87, .const (.int .i64 8)], some (80, true)⟩,
 ⟨some 89, .pick, [.tmp 80, .tmp 88, .const (.bool false)], none⟩,
 ⟨some 2, .mov, [.tmp 89], none⟩])
 (.ret))
def m59_5 : MC := .seq (.seq (.reg [
 ⟨some 3, .mov, [.const (.int .i64 0)], none⟩])
 (.block 0 (.loop (.seq (.seq (.reg [
 ⟨some 10, .mov, [.tmp 3], none⟩,
 ⟨some 11, .faddr 0, [.tmp 1], none⟩,
 ⟨some 12, .load false 1, [.tmp 11], none⟩,
 ⟨some 13, .lenL, [.tmp 12], none⟩,
 ⟨some 14, .bin .lss, [.tmp 10, .tmp 13], none⟩])
 (.cond (.tmp 14)
 (.skip)
 (.exit 0)))
 m59_3))))
 m59_4
/-- loop.example/g00099/spec.DocOk -/
def m59 : MF := ⟨90,
 .seq (.reg [
 ⟨some 1, .box 2, [.tmp 0], none⟩,
 ⟨some 2, .mov, [.const (.bool false)], none⟩])
 (.seq (.seq (.reg [
 ⟨some 6, .faddr 0, [.tmp 1], none⟩,
 ⟨some 7, .load false 1, [.tmp 6], none⟩,
 ⟨some 8, .lenL, [.tmp 7], none⟩,
 ⟨some 9, .bin .gtr, [.tmp 8, .const (.int .i64 30)], none⟩])
 (.cond (.tmp 9)
 (.seq (.reg [
 ⟨some 2, .mov, [.const (.bool false)], none⟩])
 (.ret))
 (.skip)))
 m59_5),
 [.slot 2]⟩
theorem m59_ok : compF Try.prog Try.f59 = some m59 := by kernel_rfl

/-- loop.example/g00099/spec.l22CopyItem -/
def m60 : MF := ⟨8,
 .seq (.reg [
 ⟨some 1, .box 8, [.tmp 0], none⟩,
 ⟨some 2, .alloc [.int .i64 0, .int .i64 0, .int .i64 0, .string ⟨#[]⟩, .slice none 0 0, .slice none 0 0, .bool false, .string ⟨#[]⟩] 8, [], none⟩])
 (.seq (.reg [
 ⟨some 3, .faddr 1, [.tmp 1], none⟩,
 ⟨some 4, .load true 5, [.tmp 3], none⟩,
 ⟨some 5, .call 32, [.tmp 4], none⟩,
 ⟨some 6, .faddr 1, [.tmp 1], none⟩,
 ⟨none, .store 5, [.tmp 6, .tmp 5], none⟩])
 (.seq (.reg [
 ⟨some 7, .load true 8, [.tmp 1], none⟩,
 ⟨none, .store 8, [.tmp 2, .tmp 7], none⟩])
 (.ret))),
 [.cell 2 true 8]⟩
theorem m60_ok : compF Try.prog Try.f60 = some m60 := by kernel_rfl

def m21_1 : MC := .seq (.reg [
 ⟨some 18, .faddr 0, [.tmp 2], none⟩,
 ⟨some 19, .load false 1, [.tmp 18], none⟩,
 ⟨some 20, .mov, [.tmp 6], none⟩,
 ⟨some 21, .iaddr 8, [.tmp 19, .tmp 20], none⟩,
 ⟨some 22, .load true 8, [.tmp 21], none⟩,
 ⟨some 23, .call 60, [.tmp 22], none⟩,
 ⟨none, .store 8, [.tmp 4, .tmp 23], none⟩,
 ⟨some 5, .mov, [.const (.bool true)], none⟩])
 (.ret)
/-- loop.example/g00099/spec.ItemOf -/
def m21 : MF := ⟨24,
 .seq (.reg [
 ⟨some 2, .box 2, [.tmp 0], none⟩,
 ⟨some 4, .alloc [.int .i64 0, .int .i64 0, .int .i64 0, .string ⟨#[]⟩, .slice none 0 0, .slice none 0 0, .bool false, .string ⟨#[]⟩] 8, [], none⟩,
 ⟨some 5, .mov, [.const (.bool false)], none⟩])
 (.seq (.reg [
 ⟨some 7, .load true 2, [.tmp 2], none⟩,
 ⟨some 8, .mov, [.tmp 1], none⟩,
 ⟨some 9, .call 58, [.tmp 7, .tmp 8], none⟩,
 ⟨some 6, .mov, [.tmp 9], none⟩])
 (.seq (.seq (.reg [
 ⟨some 10, .load true 2, [.tmp 2], none⟩,
 ⟨some 11, .call 59, [.tmp 10], none⟩,
 ⟨some 12, .un .not, [.tmp 11], none⟩,
 ⟨some 13, .mov, [.tmp 12], none⟩,
 ⟨some 14, .mov, [.tmp 6], some (13, false)⟩,
 ⟨some 15, .bin .lss, [.tmp 14, .const (.int .i64 0)], some (13, false)⟩,
 ⟨some 16, .pick, [.tmp 13, .const (.bool true), .tmp 15], none⟩])
 (.cond (.tmp 16)
 (.seq (.reg [
 ⟨some 17, .bld [.int .i64 0, .int .i64 0, .int .i64 0, .string ⟨#[]⟩, .slice none 0 0, .slice none 0 0, .bool false, .string ⟨#[]⟩] [], [], none⟩,
 ⟨none, .store 8, [.tmp 4, .tmp 17], none⟩,
 ⟨some 5, .mov, [.const (.bool false)], none⟩])
 (.ret))
 (.skip)))
 m21_1)),
 [.cell 4 true 8, .slot 5]⟩
theorem m21_ok : compF Try.prog Try.f21 = some m21 := by kernel_rfl

def m88_1 : MC := .seq (.reg [
 ⟨some 22, .faddr 1, [.tmp 1], none⟩,
 ⟨some 23, .load true 5, [.tmp 22], none⟩,
 ⟨some 24, .call 10, [.tmp 23, .const (.string ⟨#[76, 101, 110, 103, 116, 104]⟩)], none⟩,
 ⟨some 21, .mov, [.tmp 24], none⟩,
 ⟨some 25, .ext 0, [.tmp 21], none⟩,
 ⟨some 26, .ext 1, [.tmp 21], none⟩,
 ⟨some 3, .alloc [.int .i64 0, .int .i64 0, .string ⟨#[]⟩, .slice none 0 0, .slice none 0 0] 5, [], none⟩,
 ⟨none, .store 5, [.tmp 3, .tmp 25], none⟩,
 ⟨some 4, .mov, [.tmp 26], none⟩])
 (.seq (.reg [
 ⟨some 27, .mov, [.tmp 4], none⟩,
 ⟨some 28, .mov, [.tmp 27], none⟩,
 ⟨some 29, .faddr 0, [.tmp 3], some (28, true)⟩,
 ⟨some 30, .load false 1, [.tmp 29], some (28, true)⟩,
 ⟨some 31, .bin .eql, [.tmp 30, .const (.int .i64 4)], some (28, true)⟩,
 ⟨some 32, .pick, [.tmp 28, .tmp 31, .const (.bool false)], none⟩,
 ⟨some 33, .mov, [.tmp 32], none⟩,
 ⟨some 34, .faddr 1, [.tmp 3], some (33, true)⟩,
 ⟨some 35, .load false 1, [.tmp 34], some (33, true)⟩,
 ⟨some 36, .faddr 7, [.tmp 1], some (33, true)⟩,
 ⟨some 37, .load false 1, [.tmp 36], some (33, true)⟩,
 ⟨some 38, .lenS, [.tmp 37], some (33, true)⟩,
 ⟨some 39, .bin .eql, [.tmp 35, .tmp 38], some (33, true)⟩,
 ⟨some 40, .pick, [.tmp 33, .tmp 39, .const (.bool false)], none⟩,
 ⟨some 2, .mov, [.tmp 40], none⟩])
 (.ret))
def m88_2 : MC := .seq (.seq (.reg [
 ⟨some 15, .faddr 6, [.tmp 1], none⟩,
 ⟨some 16, .load false 1, [.tmp 15], none⟩,
 ⟨some 17, .un .not, [.tmp 16], none⟩])
 (.cond (.tmp 17)
 (.seq (.reg [
 ⟨some 18, .faddr 7, [.tmp 1], none⟩,
 ⟨some 19, .load false 1, [.tmp 18], none⟩,
 ⟨some 20, .bin .eql, [.tmp 19, .const (.string ⟨#[]⟩)], none⟩,
 ⟨some 2, .mov, [.tmp 20], none⟩])
 (.ret))
 (.skip)))
 m88_1
/-- loop.example/g00099/impl.itemOk -/
def m88 : MF := ⟨41,
 .seq (.reg [
 ⟨some 1, .box 8, [.tmp 0], none⟩,
 ⟨some 2, .mov, [.const (.bool false)], none⟩])
 (.seq (.seq (.reg [
 ⟨some 5, .faddr 0, [.tmp 1], none⟩,
 ⟨some 6, .load false 1, [.tmp 5], none⟩,
 ⟨some 7, .call 94, [.tmp 6, .const (.int .i64 1), .const (.int .i64 99)], none⟩,
 ⟨some 8, .un .not, [.tmp 7], none⟩,
 ⟨some 9, .mov, [.tmp 8], none⟩,
 ⟨some 10, .faddr 1, [.tmp 1], some (9, false)⟩,
 ⟨some 11, .load true 5, [.tmp 10], some (9, false)⟩,
 ⟨some 12, .call 19, [.tmp 11], some (9, false)⟩,
 ⟨some 13, .un .not, [.tmp 12], some (9, false)⟩,
 ⟨some 14, .pick, [.tmp 9, .const (.bool true), .tmp 13], none⟩])
 (.cond (.tmp 14)
 (.seq (.reg [
 ⟨some 2, .mov, [.const (.bool false)], none⟩])
 (.ret))
 (.skip)))
 m88_2),
 [.slot 2]⟩
theorem m88_ok : compF Try.prog Try.f88 = some m88 := by kernel_rfl

/-- loop.example/g00099/impl.itemAt -/
def m62 : MF := ⟨9,
 .seq (.reg [
 ⟨some 2, .box 2, [.tmp 0], none⟩,
 ⟨some 3, .box 1, [.tmp 1], none⟩,
 ⟨some 4, .mov, [.const (.int .i64 0)], none⟩])
 (.seq (.reg [
 ⟨some 5, .faddr 0, [.tmp 2], none⟩,
 ⟨some 6, .load false 1, [.tmp 5], none⟩,
 ⟨some 7, .mkF (.func 87) 0, [.tmp 3], none⟩,
 ⟨some 8, .call 86, [.tmp 6, .tmp 7], none⟩,
 ⟨some 4, .mov, [.tmp 8], none⟩])
 (.ret)),
 [.slot 4]⟩
theorem m62_ok : compF Try.prog Try.f62 = some m62 := by kernel_rfl

def m86_1 : MC := .reg [
 ⟨some 18, .bin .add, [.tmp 8, .const (.int .i64 1)], none⟩,
 ⟨some 8, .mov, [.tmp 18], none⟩]
def m86_2 : MC := .seq (.block 1 (.seq (.reg [
 ⟨some 10, .mov, [.tmp 8], none⟩,
 ⟨some 5, .mov, [.tmp 10], none⟩])
 (.seq (.reg [
 ⟨some 11, .mov, [.tmp 1], none⟩,
 ⟨some 12, .mov, [.tmp 0], none⟩,
 ⟨some 13, .mov, [.tmp 5], none⟩,
 ⟨some 14, .iaddr 8, [.tmp 12, .tmp 13], none⟩,
 ⟨some 15, .load true 8, [.tmp 14], none⟩,
 ⟨some 16, .callv, [.tmp 11, .tmp 15], none⟩])
 (.cond (.tmp 16)
 (.seq (.reg [
 ⟨some 17, .mov, [.tmp 5], none⟩,
 ⟨some 4, .mov, [.tmp 17], none⟩])
 (.ret))
 (.skip)))))
 m86_1
def m86_3 : MC := .seq (.reg [
 ⟨some 4, .mov, [.const (.int .i64 (-1))], none⟩])
 (.ret)
/-- slices.IndexFunc[[]loop.example/g00099/impl.Item,loop.example/g00099/impl.Item] -/
def m86 : MF := ⟨19,
 .seq (.reg [
 ⟨some 4, .mov, [.const (.int .i64 0)], none⟩])
 (.seq (.seq (.reg [
 ⟨some 6, .mov, [.tmp 0], none⟩,
 ⟨some 7, .lenL, [.tmp 6], none⟩,
 ⟨some 8, .mov, [.const (.int .i64 0)], none⟩])
 (.block 0 (.loop (.seq (.reg [
 ⟨some 9, .bin .lss, [.tmp 8, .tmp 7], none⟩])
 (.seq (.cond (.tmp 9)
 (.skip)
 (.exit 0))
 m86_2)))))
 m86_3),
 [.slot 4]⟩
theorem m86_ok : compF Try.prog Try.f86 = some m86 := by kernel_rfl

/-- loop.example/g00099/impl.itemAt$1 -/
def m87 : MF := ⟨8,
 .seq (.reg [
 ⟨some 2, .box 8, [.tmp 0], none⟩,
 ⟨some 3, .mov, [.const (.bool false)], none⟩])
 (.seq (.reg [
 ⟨some 4, .faddr 0, [.tmp 2], none⟩,
 ⟨some 5, .load false 1, [.tmp 4], none⟩,
 ⟨some 6, .load false 1, [.tmp 1], none⟩,
 ⟨some 7, .bin .eql, [.tmp 5, .tmp 6], none⟩,
 ⟨some 3, .mov, [.tmp 7], none⟩])
 (.ret)),
 [.slot 3]⟩
theorem m87_ok : compF Try.prog Try.f87 = some m87 := by kernel_rfl

def m63_1 : MC := .reg [
 ⟨some 33, .bin .add, [.tmp 9, .const (.int .i64 1)], none⟩,
 ⟨some 9, .mov, [.tmp 33], none⟩]
def m63_2 : MC := .seq (.block 1 (.seq (.reg [
 ⟨some 11, .mov, [.tmp 9], none⟩,
 ⟨some 12, .iaddr 8, [.tmp 7, .tmp 9], none⟩,
 ⟨some 13, .load true 8, [.tmp 12], none⟩,
 ⟨some 4, .alloc [.int .i64 0, .int .i64 0, .int .i64 0, .string ⟨#[]⟩, .slice none 0 0, .slice none 0 0, .bool false, .string ⟨#[]⟩] 8, [], none⟩,
 ⟨some 3, .mov, [.tmp 11], none⟩,
 ⟨none, .store 8, [.tmp 4, .tmp 13], none⟩])
 (.seq (.draw [
 (⟨some 14, .load true 8, [.tmp 4], none⟩, []),
 (⟨some 15, .call 88, [.tmp 14], none⟩, []),
 (⟨some 16, .un .not, [.tmp 15], none⟩, []),
 (⟨some 17, .mov, [.tmp 16], none⟩, []),
 (⟨some 18, .mov, [.tmp 3], some (17, false)⟩, []),
 (⟨some 19, .bin .gtr, [.tmp 18, .const (.int .i64 0)], some (17, false)⟩, []),
 (⟨some 20, .mov, [.tmp 19], some (17, false)⟩, []),
 (⟨some 21, .faddr 0, [.tmp 1], some (20, true)⟩, []),
 (⟨some 23, .mov, [.tmp 3], some (20, true)⟩, []),
 (⟨some 24, .bin .sub, [.tmp 23, .const (.int .i64 1)], some (20, true)⟩, []),
 (⟨some 28, .faddr 0, [.tmp 4], some (20, true)⟩, []),
 (⟨some 22, .load false 1, [.tmp 21], some (20, true)⟩, []),
 (⟨some 25, .iaddr 8, [.tmp 22, .tmp 24], some (20, true)⟩, []),
 (⟨some 26, .faddr 0, [.tmp 25], some (20, true)⟩, []),
 (⟨some 27, .load false 1, [.tmp 26], some (20, true)⟩, []),
 (⟨some 29, .load false 1, [.tmp 28], some (20, true)⟩, []),
 (⟨some 30, .bin .geq, [.tmp 27, .tmp 29], some (20, true)⟩, []),
 (⟨some 31, .pick, [.tmp 20, .tmp 30, .const (.bool false)], some (17, false)⟩, []),
 (⟨some 32, .pick, [.tmp 17, .const (.bool true), .tmp 31], none⟩, [])])
 (.cond (.tmp 32)
 (.seq (.reg [
 ⟨some 2, .mov, [.const (.bool false)], none⟩])
 (.ret))
 (.skip)))))
 m63_1
def m63_3 : MC := .seq (.reg [
 ⟨some 34, .load true 2, [.tmp 1], none⟩,
 ⟨some 35, .faddr 1, [.tmp 1], none⟩,
 ⟨some 36, .load false 1, [.tmp 35], none⟩,
 ⟨some 37, .call 62, [.tmp 34, .tmp 36], none⟩,
 ⟨some 5, .mov, [.tmp 37], none⟩])
 (.seq (.reg [
 ⟨some 38, .faddr 0, [.tmp 1], none⟩,
 ⟨some 39, .load false 1, [.tmp 38], none⟩,
 ⟨some 40, .lenL, [.tmp 39], none⟩,
 ⟨some 41, .bin .leq, [.tmp 40, .const (.int .i64 30)], none⟩,
 ⟨some 42, .mov, [.tmp 41], none⟩,
 ⟨some 43, .mov, [.tmp 5], some (42, true)⟩,
 ⟨some 44, .bin .geq, [.tmp 43, .const (.int .i64 0)], some (42, true)⟩,
 ⟨some 45, .pick, [.tmp 42, .tmp 44, .const (.bool false)], none⟩,
 ⟨some 46, .mov, [.tmp 45], none⟩,
 ⟨some 47, .faddr 0, [.tmp 1], some (46, true)⟩,
 ⟨some 48, .load false 1, [.tmp 47], some (46, true)⟩,
 ⟨some 49, .mov, [.tmp 5], some (46, true)⟩,
 ⟨some 50, .iaddr 8, [.tmp 48, .tmp 49], some (46, true)⟩,
 ⟨some 51, .faddr 1, [.tmp 50], some (46, true)⟩,
 ⟨some 52, .faddr 0, [.tmp 51], some (46, true)⟩,
 ⟨some 53, .load false 1, [.tmp 52], some (46, true)⟩,
 ⟨some 54, .bin .eql, [.tmp 53, .const (.int .i64 8)], some (46, true)⟩,
 ⟨some 55, .pick, [.tmp 46, .tmp 54, .const (.bool false)], none⟩,
 ⟨some 2, .mov, [.tmp 55], none⟩])
 (.ret))
/-- loop.example/g00099/impl.DocOk -/
def m63 : MF := ⟨56,
 .seq (.reg [
 ⟨some 1, .box 2, [.tmp 0], none⟩,
 ⟨some 2, .mov, [.const (.bool false)], none⟩])
 (.seq (.seq (.reg [
 ⟨some 6, .faddr 0, [.tmp 1], none⟩,
 ⟨some 7, .load false 1, [.tmp 6], none⟩,
 ⟨some 8, .lenL, [.tmp 7], none⟩,
 ⟨some 9, .mov, [.const (.int .i64 0)], none⟩])
 (.block 0 (.loop (.seq (.reg [
 ⟨some 10, .bin .lss, [.tmp 9, .tmp 8], none⟩])
 (.seq (.cond (.tmp 10)
 (.skip)
 (.exit 0))
 m63_2)))))
 m63_3),
 [.slot 2]⟩
theorem m63_ok : compF Try.prog Try.f63 = some m63 := by kernel_rfl

/-- loop.example/g00099/impl.copyItem -/
def m64 : MF := ⟨8,
 .seq (.reg [
 ⟨some 1, .box 8, [.tmp 0], none⟩,
 ⟨some 2, .alloc [.int .i64 0, .int .i64 0, .int .i64 0, .string ⟨#[]⟩, .slice none 0 0, .slice none 0 0, .bool false, .string ⟨#[]⟩] 8, [], none⟩])
 (.seq (.reg [
 ⟨some 3, .faddr 1, [.tmp 1], none⟩,
 ⟨some 4, .load true 5, [.tmp 3], none⟩,
 ⟨some 5, .call 36, [.tmp 4], none⟩,
 ⟨some 6, .faddr 1, [.tmp 1], none⟩,
 ⟨none, .store 5, [.tmp 6, .tmp 5], none⟩])
 (.seq (.reg [
 ⟨some 7, .load true 8, [.tmp 1], none⟩,
 ⟨none, .store 8, [.tmp 2, .tmp 7], none⟩])
 (.ret))),
 [.cell 2 true 8]⟩
theorem m64_ok : compF Try.prog Try.f64 = some m64 := by kernel_rfl

def m23_1 : MC := .seq (.reg [
 ⟨some 18, .faddr 0, [.tmp 2], none⟩,
 ⟨some 19, .load false 1, [.tmp 18], none⟩,
 ⟨some 20, .mov, [.tmp 6], none⟩,
 ⟨some 21, .iaddr 8, [.tmp 19, .tmp 20], none⟩,
 ⟨some 22, .load true 8, [.tmp 21], none⟩,
 ⟨some 23, .call 64, [.tmp 22], none⟩,
 ⟨none, .store 8, [.tmp 4, .tmp 23], none⟩,
 ⟨some 5, .mov, [.const (.bool true)], none⟩])
 (.ret)
/-- loop.example/g00099/impl.ItemOf -/
def m23 : MF := ⟨24,
 .seq (.reg [
 ⟨some 2, .box 2, [.tmp 0], none⟩,
 ⟨some 4, .alloc [.int .i64 0, .int .i64 0, .int .i64 0, .string ⟨#[]⟩, .slice none 0 0, .slice none 0 0, .bool false, .string ⟨#[]⟩] 8, [], none⟩,
 ⟨some 5, .mov, [.const (.bool false)], none⟩])
 (.seq (.reg [
 ⟨some 7, .load true 2, [.tmp 2], none⟩,
 ⟨some 8, .mov, [.tmp 1], none⟩,
 ⟨some 9, .call 62, [.tmp 7, .tmp 8], none⟩,
 ⟨some 6, .mov, [.tmp 9], none⟩])
 (.seq (.seq (.reg [
 ⟨some 10, .load true 2, [.tmp 2], none⟩,
 ⟨some 11, .call 63, [.tmp 10], none⟩,
 ⟨some 12, .un .not, [.tmp 11], none⟩,
 ⟨some 13, .mov, [.tmp 12], none⟩,
 ⟨some 14, .mov, [.tmp 6], some (13, false)⟩,
 ⟨some 15, .bin .lss, [.tmp 14, .const (.int .i64 0)], some (13, false)⟩,
 ⟨some 16, .pick, [.tmp 13, .const (.bool true), .tmp 15], none⟩])
 (.cond (.tmp 16)
 (.seq (.reg [
 ⟨some 17, .bld [.int .i64 0, .int .i64 0, .int .i64 0, .string ⟨#[]⟩, .slice none 0 0, .slice none 0 0, .bool false, .string ⟨#[]⟩] [], [], none⟩,
 ⟨none, .store 8, [.tmp 4, .tmp 17], none⟩,
 ⟨some 5, .mov, [.const (.bool false)], none⟩])
 (.ret))
 (.skip)))
 m23_1)),
 [.cell 4 true 8, .slot 5]⟩
theorem m23_ok : compF Try.prog Try.f23 = some m23 := by kernel_rfl

def m82_1 : MC := .seq (.reg [
 ⟨some 18, .mov, [.tmp 1], none⟩,
 ⟨some 4, .mov, [.tmp 18], none⟩])
 (.ret)
def m82_2 : MC := .seq (.reg [
 ⟨some 11, .mov, [.tmp 1], none⟩,
 ⟨some 12, .faddr 7, [.tmp 2], none⟩,
 ⟨some 13, .load false 1, [.tmp 12], none⟩,
 ⟨some 14, .lenS, [.tmp 13], none⟩,
 ⟨some 15, .bin .sub, [.tmp 11, .tmp 14], none⟩,
 ⟨some 1, .mov, [.tmp 15], none⟩])
 (.seq (.seq (.reg [
 ⟨some 16, .mov, [.tmp 1], none⟩,
 ⟨some 17, .bin .lss, [.tmp 16, .const (.int .i64 0)], none⟩])
 (.cond (.tmp 17)
 (.seq (.reg [
 ⟨some 4, .mov, [.const (.int .i64 (-1))], none⟩])
 (.ret))
 (.skip)))
 m82_1)
/-- loop.example/g00099/laws.szItem -/
def m82 : MF := ⟨19,
 .seq (.reg [
 ⟨some 2, .box 8, [.tmp 0], none⟩,
 ⟨some 4, .mov, [.const (.int .i64 0)], none⟩])
 (.seq (.reg [
 ⟨some 5, .faddr 1, [.tmp 2], none⟩,
 ⟨some 6, .load true 5, [.tmp 5], none⟩,
 ⟨some 7, .mov, [.tmp 1], none⟩,
 ⟨some 8, .call 7, [.tmp 6, .tmp 7], none⟩,
 ⟨some 1, .mov, [.tmp 8], none⟩])
 (.seq (.seq (.reg [
 ⟨some 9, .mov, [.tmp 1], none⟩,
 ⟨some 10, .bin .lss, [.tmp 9, .const (.int .i64 0)], none⟩])
 (.cond (.tmp 10)
 (.seq (.reg [
 ⟨some 4, .mov, [.const (.int .i64 (-1))], none⟩])
 (.ret))
 (.skip)))
 m82_2)),
 [.slot 4]⟩
theorem m82_ok : compF Try.prog Try.f82 = some m82 := by kernel_rfl

def m57_1 : MC := .reg [
 ⟨some 16, .mov, [.tmp 5], none⟩,
 ⟨some 17, .bin .add, [.tmp 16, .const (.int .i64 1)], none⟩,
 ⟨some 5, .mov, [.tmp 17], none⟩]
def m57_2 : MC := .seq (.block 1 (.seq (.reg [
 ⟨some 18, .mov, [.tmp 0], none⟩,
 ⟨some 19, .mov, [.tmp 5], none⟩,
 ⟨some 20, .iaddr 8, [.tmp 18, .tmp 19], none⟩,
 ⟨some 21, .load true 8, [.tmp 20], none⟩,
 ⟨some 22, .mov, [.tmp 1], none⟩,
 ⟨some 23, .call 82, [.tmp 21, .tmp 22], none⟩,
 ⟨some 1, .mov, [.tmp 23], none⟩])
 (.seq (.reg [
 ⟨some 24, .mov, [.tmp 1], none⟩,
 ⟨some 25, .bin .lss, [.tmp 24, .const (.int .i64 0)], none⟩])
 (.cond (.tmp 25)
 (.seq (.reg [
 ⟨some 4, .mov, [.const (.int .i64 (-1))], none⟩])
 (.ret))
 (.skip)))))
 m57_1
def m57_3 : MC := .seq (.reg [
 ⟨some 26, .mov, [.tmp 1], none⟩,
 ⟨some 4, .mov, [.tmp 26], none⟩])
 (.ret)
def m57_4 : MC := .seq (.seq (.reg [
 ⟨some 5, .mov, [.const (.int .i64 0)], none⟩])
 (.block 0 (.loop (.seq (.seq (.reg [
 ⟨some 12, .mov, [.tmp 5], none⟩,
 ⟨some 13, .mov, [.tmp 0], none⟩,
 ⟨some 14, .lenL, [.tmp 13], none⟩,
 ⟨some 15, .bin .lss, [.tmp 12, .tmp 14], none⟩])
 (.cond (.tmp 15)
 (.skip)
 (.exit 0)))
 m57_2))))
 m57_3
/-- loop.example/g00099/laws.szItemS -/
def m57 : MF := ⟨27,
 .seq (.reg [
 ⟨some 4, .mov, [.const (.int .i64 0)], none⟩])
 (.seq (.reg [
 ⟨some 6, .mov, [.tmp 1], none⟩,
 ⟨some 7, .mov, [.tmp 0], none⟩,
 ⟨some 8, .lenL, [.tmp 7], none⟩,
 ⟨some 9, .bin .sub, [.tmp 6, .tmp 8], none⟩,
 ⟨some 1, .mov, [.tmp 9], none⟩])
 (.seq (.seq (.reg [
 ⟨some 10, .mov, [.tmp 1], none⟩,
 ⟨some 11, .bin .lss, [.tmp 10, .const (.int .i64 0)], none⟩])
 (.cond (.tmp 11)
 (.seq (.reg [
 ⟨some 4, .mov, [.const (.int .i64 (-1))], none⟩])
 (.ret))
 (.skip)))
 m57_4)),
 [.slot 4]⟩
theorem m57_ok : compF Try.prog Try.f57 = some m57 := by kernel_rfl

def m20_1 : MC := .seq (.reg [
 ⟨some 11, .mov, [.tmp 1], none⟩,
 ⟨some 4, .mov, [.tmp 11], none⟩])
 (.ret)
/-- loop.example/g00099/laws.szDoc -/
def m20 : MF := ⟨12,
 .seq (.reg [
 ⟨some 2, .box 2, [.tmp 0], none⟩,
 ⟨some 4, .mov, [.const (.int .i64 0)], none⟩])
 (.seq (.reg [
 ⟨some 5, .faddr 0, [.tmp 2], none⟩,
 ⟨some 6, .load false 1, [.tmp 5], none⟩,
 ⟨some 7, .mov, [.tmp 1], none⟩,
 ⟨some 8, .call 57, [.tmp 6, .tmp 7], none⟩,
 ⟨some 1, .mov, [.tmp 8], none⟩])
 (.seq (.seq (.reg [
 ⟨some 9, .mov, [.tmp 1], none⟩,
 ⟨some 10, .bin .lss, [.tmp 9, .const (.int .i64 0)], none⟩])
 (.cond (.tmp 10)
 (.seq (.reg [
 ⟨some 4, .mov, [.const (.int .i64 (-1))], none⟩])
 (.ret))
 (.skip)))
 m20_1)),
 [.slot 4]⟩
theorem m20_ok : compF Try.prog Try.f20 = some m20 := by kernel_rfl

/-- loop.example/g00099/laws.toItem -/
def m85 : MF := ⟨18,
 .seq (.reg [
 ⟨some 1, .box 8, [.tmp 0], none⟩,
 ⟨some 2, .alloc [.int .i64 0, .int .i64 0, .int .i64 0, .string ⟨#[]⟩, .slice none 0 0, .slice none 0 0, .bool false, .string ⟨#[]⟩] 8, [], none⟩])
 (.seq (.reg [
 ⟨some 3, .alloc [.int .i64 0, .int .i64 0, .int .i64 0, .string ⟨#[]⟩, .slice none 0 0, .slice none 0 0, .bool false, .string ⟨#[]⟩] 8, [], none⟩])
 (.seq (.reg [
 ⟨some 4, .faddr 0, [.tmp 1], none⟩,
 ⟨some 5, .load false 1, [.tmp 4], none⟩,
 ⟨some 6, .faddr 0, [.tmp 3], none⟩,
 ⟨none, .store 1, [.tmp 6, .tmp 5], none⟩])
 (.seq (.reg [
 ⟨some 7, .faddr 1, [.tmp 1], none⟩,
 ⟨some 8, .load true 5, [.tmp 7], none⟩,
 ⟨some 9, .call 9, [.tmp 8], none⟩,
 ⟨some 10, .faddr 1, [.tmp 3], none⟩,
 ⟨none, .store 5, [.tmp 10, .tmp 9], none⟩])
 (.seq (.reg [
 ⟨some 11, .faddr 6, [.tmp 1], none⟩,
 ⟨some 12, .load false 1, [.tmp 11], none⟩,
 ⟨some 13, .faddr 6, [.tmp 3], none⟩,
 ⟨none, .store 1, [.tmp 13, .tmp 12], none⟩])
 (.seq (.reg [
 ⟨some 14, .faddr 7, [.tmp 1], none⟩,
 ⟨some 15, .load false 1, [.tmp 14], none⟩,
 ⟨some 16, .faddr 7, [.tmp 3], none⟩,
 ⟨none, .store 1, [.tmp 16, .tmp 15], none⟩])
 (.seq (.reg [
 ⟨some 17, .load true 8, [.tmp 3], none⟩,
 ⟨none, .store 8, [.tmp 2, .tmp 17], none⟩])
 (.ret))))))),
 [.cell 2 true 8]⟩
theorem m85_ok : compF Try.prog Try.f85 = some m85 := by kernel_rfl

def m61_1 : MC := .seq (.block 1 (.reg [
 ⟨some 14, .mov, [.tmp 3], none⟩,
 ⟨some 15, .mov, [.tmp 4], none⟩,
 ⟨some 16, .mov, [.tmp 0], none⟩,
 ⟨some 17, .mov, [.tmp 4], none⟩,
 ⟨some 18, .iaddr 8, [.tmp 16, .tmp 17], none⟩,
 ⟨some 19, .load true 8, [.tmp 18], none⟩,
 ⟨some 20, .call 85, [.tmp 19], none⟩,
 ⟨some 21, .iaddr 8, [.tmp 14, .tmp 15], none⟩,
 ⟨none, .store 8, [.tmp 21, .tmp 20], none⟩]))
 (.reg [
 ⟨some 12, .mov, [.tmp 4], none⟩,
 ⟨some 13, .bin .add, [.tmp 12, .const (.int .i64 1)], none⟩,
 ⟨some 4, .mov, [.tmp 13], none⟩])
def m61_2 : MC := .seq (.reg [
 ⟨some 22, .mov, [.tmp 3], none⟩,
 ⟨some 2, .mov, [.tmp 22], none⟩])
 (.ret)
/-- loop.example/g00099/laws.toItemS -/
def m61 : MF := ⟨23,
 .seq (.reg [
 ⟨some 2, .mov, [.const (.slice none 0 0)], none⟩])
 (.seq (.reg [
 ⟨some 5, .mov, [.tmp 0], none⟩,
 ⟨some 6, .lenL, [.tmp 5], none⟩,
 ⟨some 7, .mks 8 112 [.int .i64 0, .int .i64 0, .int .i64 0, .string ⟨#[]⟩, .slice none 0 0, .slice none 0 0, .bool false, .string ⟨#[]⟩], [.tmp 6, .tmp 6], none⟩,
 ⟨some 3, .mov, [.tmp 7], none⟩])
 (.seq (.seq (.reg [
 ⟨some 4, .mov, [.const (.int .i64 0)], none⟩])
 (.block 0 (.loop (.seq (.seq (.reg [
 ⟨some 8, .mov, [.tmp 4], none⟩,
 ⟨some 9, .mov, [.tmp 0], none⟩,
 ⟨some 10, .lenL, [.tmp 9], none⟩,
 ⟨some 11, .bin .lss, [.tmp 8, .tmp 10], none⟩])
 (.cond (.tmp 11)
 (.skip)
 (.exit 0)))
 m61_1))))
 m61_2)),
 [.slot 2]⟩
theorem m61_ok : compF Try.prog Try.f61 = some m61 := by kernel_rfl

/-- loop.example/g00099/laws.toDoc -/
def m22 : MF := ⟨12,
 .seq (.reg [
 ⟨some 1, .box 2, [.tmp 0], none⟩,
 ⟨some 2, .alloc [.slice none 0 0, .int .i64 0] 2, [], none⟩])
 (.seq (.reg [
 ⟨some 3, .alloc [.slice none 0 0, .int .i64 0] 2, [], none⟩])
 (.seq (.reg [
 ⟨some 4, .faddr 0, [.tmp 1], none⟩,
 ⟨some 5, .load false 1, [.tmp 4], none⟩,
 ⟨some 6, .call 61, [.tmp 5], none⟩,
 ⟨some 7, .faddr 0, [.tmp 3], none⟩,
 ⟨none, .store 1, [.tmp 7, .tmp 6], none⟩])
 (.seq (.reg [
 ⟨some 8, .faddr 1, [.tmp 1], none⟩,
 ⟨some 9, .load false 1, [.tmp 8], none⟩,
 ⟨some 10, .faddr 1, [.tmp 3], none⟩,
 ⟨none, .store 1, [.tmp 10, .tmp 9], none⟩])
 (.seq (.reg [
 ⟨some 11, .load true 2, [.tmp 3], none⟩,
 ⟨none, .store 2, [.tmp 2, .tmp 11], none⟩])
 (.ret))))),
 [.cell 2 true 2]⟩
theorem m22_ok : compF Try.prog Try.f22 = some m22 := by kernel_rfl

def m24_1 : MC := .seq (.reg [
 ⟨some 4, .mov, [.const (.bool true)], none⟩])
 (.ret)
def m24_2 : MC := .seq (.seq (.reg [
 ⟨some 21, .faddr 7, [.tmp 2], none⟩,
 ⟨some 22, .load false 1, [.tmp 21], none⟩,
 ⟨some 23, .faddr 7, [.tmp 3], none⟩,
 ⟨some 24, .load false 1, [.tmp 23], none⟩,
 ⟨some 25, .bin .neq, [.tmp 22, .tmp 24], none⟩])
 (.cond (.tmp 25)
 (.seq (.reg [
 ⟨some 4, .mov, [.const (.bool false)], none⟩])
 (.ret))
 (.skip)))
 m24_1
def m24_3 : MC := .seq (.seq (.reg [
 ⟨some 16, .faddr 6, [.tmp 2], none⟩,
 ⟨some 17, .load false 1, [.tmp 16], none⟩,
 ⟨some 18, .faddr 6, [.tmp 3], none⟩,
 ⟨some 19, .load false 1, [.tmp 18], none⟩,
 ⟨some 20, .eqB true, [.tmp 17, .tmp 19], none⟩])
 (.cond (.tmp 20)
 (.seq (.reg [
 ⟨some 4, .mov, [.const (.bool false)], none⟩])
 (.ret))
 (.skip)))
 m24_2
def m24_4 : MC := .seq (.seq (.reg [
 ⟨some 10, .faddr 1, [.tmp 2], none⟩,
 ⟨some 11, .load true 5, [.tmp 10], none⟩,
 ⟨some 12, .faddr 1, [.tmp 3], none⟩,
 ⟨some 13, .load true 5, [.tmp 12], none⟩,
 ⟨some 14, .call 11, [.tmp 11, .tmp 13], none⟩,
 ⟨some 15, .un .not, [.tmp 14], none⟩])
 (.cond (.tmp 15)
 (.seq (.reg [
 ⟨some 4, .mov, [.const (.bool false)], none⟩])
 (.ret))
 (.skip)))
 m24_3
/-- loop.example/g00099/laws.eqItem -/
def m24 : MF := ⟨26,
 .seq (.reg [
 ⟨some 2, .box 8, [.tmp 0], none⟩,
 ⟨some 3, .box 8, [.tmp 1], none⟩,
 ⟨some 4, .mov, [.const (.bool false)], none⟩])
 (.seq (.seq (.reg [
 ⟨some 5, .faddr 0, [.tmp 2], none⟩,
 ⟨some 6, .load false 1, [.tmp 5], none⟩,
 ⟨some 7, .faddr 0, [.tmp 3], none⟩,
 ⟨some 8, .load false 1, [.tmp 7], none⟩,
 ⟨some 9, .bin .neq, [.tmp 6, .tmp 8], none⟩])
 (.cond (.tmp 9)
 (.seq (.reg [
 ⟨some 4, .mov, [.const (.bool false)], none⟩])
 (.ret))
 (.skip)))
 m24_4),
 [.slot 4]⟩
theorem m24_ok : compF Try.prog Try.f24 = some m24 := by kernel_rfl

def m65_1 : MC := .reg [
 ⟨some 15, .mov, [.tmp 5], none⟩,
 ⟨some 16, .bin .add, [.tmp 15, .const (.int .i64 1)], none⟩,
 ⟨some 5, .mov, [.tmp 16], none⟩]
def m65_2 : MC := .seq (.block 1 (.seq (.draw [
 (⟨some 17, .mov, [.tmp 0], none⟩, []),
 (⟨some 18, .mov, [.tmp 5], none⟩, []),
 (⟨some 19, .iaddr 8, [.tmp 17, .tmp 18], none⟩, []),
 (⟨some 21, .mov, [.tmp 1], none⟩, []),
 (⟨some 22, .mov, [.tmp 5], none⟩, []),
 (⟨some 23, .iaddr 8, [.tmp 21, .tmp 22], none⟩, []),
 (⟨some 20, .load true 8, [.tmp 19], none⟩, []),
 (⟨some 24, .load true 8, [.tmp 23], none⟩, []),
 (⟨some 25, .call 24, [.tmp 20, .tmp 24], none⟩, []),
 (⟨some 26, .un .not, [.tmp 25], none⟩, [])])
 (.cond (.tmp 26)
 (.seq (.reg [
 ⟨some 4, .mov, [.const (.bool false)], none⟩])
 (.ret))
 (.skip))))
 m65_1
def m65_3 : MC := .seq (.reg [
 ⟨some 4, .mov, [.const (.bool true)], none⟩])
 (.ret)
def m65_4 : MC := .seq (.seq (.reg [
 ⟨some 5, .mov, [.const (.int .i64 0)], none⟩])
 (.block 0 (.loop (.seq (.seq (.reg [
 ⟨some 11, .mov, [.tmp 5], none⟩,
 ⟨some 12, .mov, [.tmp 0], none⟩,
 ⟨some 13, .lenL, [.tmp 12], none⟩,
 ⟨some 14, .bin .lss, [.tmp 11, .tmp 13], none⟩])
 (.cond (.tmp 14)
 (.skip)
 (.exit 0)))
 m65_2))))
 m65_3
/-- loop.example/g00099/laws.eqItemS -/
def m65 : MF := ⟨27,
 .seq (.reg [
 ⟨some 4, .mov, [.const (.bool false)], none⟩])
 (.seq (.seq (.reg [
 ⟨some 6, .mov, [.tmp 0], none⟩,
 ⟨some 7, .lenL, [.tmp 6], none⟩,
 ⟨some 8, .mov, [.tmp 1], none⟩,
 ⟨some 9, .lenL, [.tmp 8], none⟩,
 ⟨some 10, .bin .neq, [.tmp 7, .tmp 9], none⟩])
 (.cond (.tmp 10)
 (.seq (.reg [
 ⟨some 4, .mov, [.const (.bool false)], none⟩])
 (.ret))
 (.skip)))
 m65_4),
 [.slot 4]⟩
theorem m65_ok : compF Try.prog Try.f65 = some m65 := by kernel_rfl

def m25_1 : MC := .seq (.reg [
 ⟨some 4, .mov, [.const (.bool true)], none⟩])
 (.ret)
def m25_2 : MC := .seq (.seq (.reg [
 ⟨some 11, .faddr 1, [.tmp 2], none⟩,
 ⟨some 12, .load false 1, [.tmp 11], none⟩,
 ⟨some 13, .faddr 1, [.tmp 3], none⟩,
 ⟨some 14, .load false 1, [.tmp 13], none⟩,
 ⟨some 15, .bin .neq, [.tmp 12, .tmp 14], none⟩])
 (.cond (.tmp 15)
 (.seq (.reg [
 ⟨some 4, .mov, [.const (.bool false)], none⟩])
 (.ret))
 (.skip)))
 m25_1
/-- loop.example/g00099/laws.eqDoc -/
def m25 : MF := ⟨16,
 .seq (.reg [
 ⟨some 2, .box 2, [.tmp 0], none⟩,
 ⟨some 3, .box 2, [.tmp 1], none⟩,
 ⟨some 4, .mov, [.const (.bool false)], none⟩])
 (.seq (.seq (.reg [
 ⟨some 5, .faddr 0, [.tmp 2], none⟩,
 ⟨some 6, .load false 1, [.tmp 5], none⟩,
 ⟨some 7, .faddr 0, [.tmp 3], none⟩,
 ⟨some 8, .load false 1, [.tmp 7], none⟩,
 ⟨some 9, .call 65, [.tmp 6, .tmp 8], none⟩,
 ⟨some 10, .un .not, [.tmp 9], none⟩])
 (.cond (.tmp 10)
 (.seq (.reg [
 ⟨some 4, .mov, [.const (.bool false)], none⟩])
 (.ret))
 (.skip)))
 m25_2),
 [.slot 4]⟩
theorem m25_ok : compF Try.prog Try.f25 = some m25 := by kernel_rfl

def m66_1 : MC := .seq (.block 1 (.seq (.reg [
 ⟨some 12, .mov, [.tmp 0], none⟩,
 ⟨some 13, .mov, [.tmp 5], none⟩,
 ⟨some 14, .mov, [.tmp 1], none⟩,
 ⟨some 15, .iaddr 8, [.tmp 12, .tmp 13], none⟩,
 ⟨some 16, .faddr 0, [.tmp 15], none⟩,
 ⟨none, .store 1, [.tmp 16, .tmp 14], none⟩])
 (.seq (.reg [
 ⟨some 17, .mov, [.tmp 1], none⟩,
 ⟨some 18, .bin .add, [.tmp 17, .const (.int .i64 1)], none⟩,
 ⟨some 1, .mov, [.tmp 18], none⟩])
 (.seq (.reg [
 ⟨some 19, .mov, [.tmp 0], none⟩,
 ⟨some 20, .mov, [.tmp 5], none⟩,
 ⟨some 21, .mov, [.tmp 1], none⟩,
 ⟨some 22, .iaddr 8, [.tmp 19, .tmp 20], none⟩,
 ⟨some 23, .faddr 1, [.tmp 22], none⟩,
 ⟨some 24, .faddr 0, [.tmp 23], none⟩,
 ⟨none, .store 1, [.tmp 24, .tmp 21], none⟩])
 (.seq (.reg [
 ⟨some 25, .mov, [.tmp 1], none⟩,
 ⟨some 26, .bin .add, [.tmp 25, .const (.int .i64 1)], none⟩,
 ⟨some 1, .mov, [.tmp 26], none⟩])
 (.seq (.reg [
 ⟨some 27, .mov, [.tmp 0], none⟩,
 ⟨some 28, .mov, [.tmp 5], none⟩,
 ⟨some 29, .mov, [.tmp 1], none⟩,
 ⟨some 30, .iaddr 8, [.tmp 27, .tmp 28], none⟩,
 ⟨some 31, .faddr 1, [.tmp 30], none⟩,
 ⟨some 32, .faddr 1, [.tmp 31], none⟩,
 ⟨none, .store 1, [.tmp 32, .tmp 29], none⟩])
 (.seq (.reg [
 ⟨some 33, .mov, [.tmp 1], none⟩,
 ⟨some 34, .bin .add, [.tmp 33, .const (.int .i64 1)], none⟩,
 ⟨some 1, .mov, [.tmp 34], none⟩])
 (.seq (.reg [
 ⟨some 35, .mov, [.tmp 0], none⟩,
 ⟨some 36, .mov, [.tmp 5], none⟩,
 ⟨some 37, .mov, [.tmp 1], none⟩,
 ⟨some 38, .call 67, [.tmp 37], none⟩,
 ⟨some 39, .iaddr 8, [.tmp 35, .tmp 36], none⟩,
 ⟨some 40, .faddr 1, [.tmp 39], none⟩,
 ⟨some 41, .faddr 2, [.tmp 40], none⟩,
 ⟨none, .store 1, [.tmp 41, .tmp 38], none⟩])
 (.seq (.reg [
 ⟨some 42, .mov, [.tmp 1], none⟩,
 ⟨some 43, .bin .add, [.tmp 42, .const (.int .i64 1)], none⟩,
 ⟨some 1, .mov, [.tmp 43], none⟩])
 (.seq (.reg [
 ⟨some 44, .mov, [.tmp 0], none⟩,
 ⟨some 45, .mov, [.tmp 5], none⟩,
 ⟨some 46, .iaddr 8, [.tmp 44, .tmp 45], none⟩,
 ⟨some 47, .faddr 1, [.tmp 46], none⟩,
 ⟨some 48, .faddr 3, [.tmp 47], none⟩,
 ⟨some 49, .load false 1, [.tmp 48], none⟩,
 ⟨some 50, .mov, [.tmp 1], none⟩,
 ⟨some 51, .call 39, [.tmp 49, .tmp 50], none⟩,
 ⟨some 1, .mov, [.tmp 51], none⟩])
 (.seq (.reg [
 ⟨some 52, .mov, [.tmp 0], none⟩,
 ⟨some 53, .mov, [.tmp 5], none⟩,
 ⟨some 54, .iaddr 8, [.tmp 52, .tmp 53], none⟩,
 ⟨some 55, .faddr 1, [.tmp 54], none⟩,
 ⟨some 56, .faddr 4, [.tmp 55], none⟩,
 ⟨some 57, .load false 1, [.tmp 56], none⟩,
 ⟨some 58, .mov, [.tmp 1], none⟩,
 ⟨some 59, .call 40, [.tmp 57, .tmp 58], none⟩,
 ⟨some 1, .mov, [.tmp 59], none⟩])
 (.seq (.reg [
 ⟨some 60, .mov, [.tmp 0], none⟩,
 ⟨some 61, .mov, [.tmp 5], none⟩,
 ⟨some 62, .mov, [.tmp 1], none⟩,
 ⟨some 63, .bin .rem, [.tmp 62, .const (.int .i64 3)], none⟩,
 ⟨some 64, .bin .eql, [.tmp 63, .const (.int .i64 0)], none⟩,
 ⟨some 65, .iaddr 8, [.tmp 60, .tmp 61], none⟩,
 ⟨some 66, .faddr 6, [.tmp 65], none⟩,
 ⟨none, .store 1, [.tmp 66, .tmp 64], none⟩])
 (.seq (.reg [
 ⟨some 67, .mov, [.tmp 1], none⟩,
 ⟨some 68, .bin .add, [.tmp 67, .const (.int .i64 1)], none⟩,
 ⟨some 1, .mov, [.tmp 68], none⟩])
 (.seq (.reg [
 ⟨some 69, .mov, [.tmp 0], none⟩,
 ⟨some 70, .mov, [.tmp 5], none⟩,
 ⟨some 71, .mov, [.tmp 1], none⟩,
 ⟨some 72, .call 67, [.tmp 71], none⟩,
 ⟨some 73, .iaddr 8, [.tmp 69, .tmp 70], none⟩,
 ⟨some 74, .faddr 7, [.tmp 73], none⟩,
 ⟨none, .store 1, [.tmp 74, .tmp 72], none⟩])
 (.reg [
 ⟨some 75, .mov, [.tmp 1], none⟩,
 ⟨some 76, .bin .add, [.tmp 75, .const (.int .i64 1)], none⟩,
 ⟨some 1, .mov, [.tmp 76], none⟩])))))))))))))))
 (.reg [
 ⟨some 10, .mov, [.tmp 5], none⟩,
 ⟨some 11, .bin .add, [.tmp 10, .const (.int .i64 1)], none⟩,
 ⟨some 5, .mov, [.tmp 11], none⟩])
def m66_2 : MC := .seq (.reg [
 ⟨some 77, .mov, [.tmp 1], none⟩,
 ⟨some 4, .mov, [.tmp 77], none⟩])
 (.ret)
/-- loop.example/g00099/laws.markItemS -/
def m66 : MF := ⟨78,
 .seq (.reg [
 ⟨some 4, .mov, [.const (.int .i64 0)], none⟩])
 (.seq (.seq (.reg [
 ⟨some 5, .mov, [.const (.int .i64 0)], none⟩])
 (.block 0 (.loop (.seq (.seq (.reg [
 ⟨some 6, .mov, [.tmp 5], none⟩,
 ⟨some 7, .mov, [.tmp 0], none⟩,
 ⟨some 8, .lenL, [.tmp 7], none⟩,
 ⟨some 9, .bin .lss, [.tmp 6, .tmp 8], none⟩])
 (.cond (.tmp 9)
 (.skip)
 (.exit 0)))
 m66_1))))
 m66_2),
 [.slot 4]⟩
theorem m66_ok : compF Try.prog Try.f66 = some m66 := by kernel_rfl

/-- loop.example/g00099/laws.markDoc -/
def m26 : MF := ⟨10,
 .seq (.reg [
 ⟨some 2, .box 2, [.tmp 0], none⟩,
 ⟨some 4, .mov, [.const (.int .i64 0)], none⟩])
 (.seq (.reg [
 ⟨some 5, .faddr 0, [.tmp 2], none⟩,
 ⟨some 6, .load false 1, [.tmp 5], none⟩,
 ⟨some 7, .mov, [.tmp 1], none⟩,
 ⟨some 8, .call 66, [.tmp 6, .tmp 7], none⟩,
 ⟨some 1, .mov, [.tmp 8], none⟩])
 (.seq (.reg [
 ⟨some 9, .mov, [.tmp 1], none⟩,
 ⟨some 4, .mov, [.tmp 9], none⟩])
 (.ret))),
 [.slot 4]⟩
theorem m26_ok : compF Try.prog Try.f26 = some m26 := by kernel_rfl

/-- loop.example/g00099/laws.markItem -/
def m27 : MF := ⟨10,
 .seq (.reg [
 ⟨some 2, .box 8, [.tmp 0], none⟩,
 ⟨some 4, .mov, [.const (.int .i64 0)], none⟩])
 (.seq (.reg [
 ⟨some 5, .faddr 1, [.tmp 2], none⟩,
 ⟨some 6, .load true 5, [.tmp 5], none⟩,
 ⟨some 7, .mov, [.tmp 1], none⟩,
 ⟨some 8, .call 12, [.tmp 6, .tmp 7], none⟩,
 ⟨some 1, .mov, [.tmp 8], none⟩])
 (.seq (.reg [
 ⟨some 9, .mov, [.tmp 1], none⟩,
 ⟨some 4, .mov, [.tmp 9], none⟩])
 (.ret))),
 [.slot 4]⟩
theorem m27_ok : compF Try.prog Try.f27 = some m27 := by kernel_rfl

def m28_1 : MC := .seq (.reg [
 ⟨some 11, .mov, [.tmp 1], none⟩,
 ⟨some 4, .mov, [.tmp 11], none⟩])
 (.ret)
/-- loop.example/g00099/laws.heldItem -/
def m28 : MF := ⟨12,
 .seq (.reg [
 ⟨some 2, .box 8, [.tmp 0], none⟩,
 ⟨some 4, .mov, [.const (.int .i64 0)], none⟩])
 (.seq (.reg [
 ⟨some 5, .faddr 1, [.tmp 2], none⟩,
 ⟨some 6, .load true 5, [.tmp 5], none⟩,
 ⟨some 7, .mov, [.tmp 1], none⟩,
 ⟨some 8, .call 13, [.tmp 6, .tmp 7], none⟩,
 ⟨some 1, .mov, [.tmp 8], none⟩])
 (.seq (.seq (.reg [
 ⟨some 9, .mov, [.tmp 1], none⟩,
 ⟨some 10, .bin .lss, [.tmp 9, .const (.int .i64 0)], none⟩])
 (.cond (.tmp 10)
 (.seq (.reg [
 ⟨some 4, .mov, [.const (.int .i64 (-1))], none⟩])
 (.ret))
 (.skip)))
 m28_1)),
 [.slot 4]⟩
theorem m28_ok : compF Try.prog Try.f28 = some m28 := by kernel_rfl

def m6_1 : MC := .seq (.reg [
 ⟨some 4, .mov, [.const (.bool true)], none⟩])
 (.ret)
def m6_2 : MC := .seq (.seq (.reg [
 ⟨some 98, .mov, [.tmp 13], none⟩,
 ⟨some 99, .mov, [.tmp 12], none⟩,
 ⟨some 100, .bin .neq, [.tmp 98, .tmp 99], none⟩])
 (.cond (.tmp 100)
 (.seq (.reg [
 ⟨some 4, .mov, [.const (.bool false)], none⟩])
 (.ret))
 (.skip)))
 m6_1
def m6_3 : MC := .seq (.reg [
 ⟨some 13, .mov, [.const (.int .i64 1)], none⟩])
 (.seq (.reg [
 ⟨some 93, .load true 8, [.tmp 9], none⟩,
 ⟨some 94, .mov, [.tmp 13], none⟩,
 ⟨some 95, .call 28, [.tmp 93, .tmp 94], none⟩,
 ⟨some 13, .mov, [.tmp 95], none⟩])
 (.seq (.seq (.reg [
 ⟨some 96, .mov, [.tmp 13], none⟩,
 ⟨some 97, .bin .lss, [.tmp 96, .const (.int .i64 0)], none⟩])
 (.cond (.tmp 97)
 (.seq (.reg [
 ⟨some 4, .mov, [.const (.bool false)], none⟩])
 (.ret))
 (.skip)))
 m6_2))
def m6_4 : MC := .seq (.reg [
 ⟨some 78, .load true 2, [.tmp 2], none⟩,
 ⟨some 79, .call 22, [.tmp 78], none⟩,
 ⟨some 80, .mov, [.tmp 1], none⟩,
 ⟨some 81, .call 23, [.tmp 79, .tmp 80], none⟩,
 ⟨some 77, .mov, [.tmp 81], none⟩,
 ⟨some 82, .ext 0, [.tmp 77], none⟩,
 ⟨some 83, .ext 1, [.tmp 77], none⟩,
 ⟨some 14, .alloc [.int .i64 0, .int .i64 0, .int .i64 0, .string ⟨#[]⟩, .slice none 0 0, .slice none 0 0, .bool false, .string ⟨#[]⟩] 8, [], none⟩,
 ⟨none, .store 8, [.tmp 14, .tmp 82], none⟩,
 ⟨some 15, .mov, [.tmp 83], none⟩])
 (.seq (.seq (.reg [
 ⟨some 84, .load true 8, [.tmp 14], none⟩,
 ⟨some 85, .load true 8, [.tmp 6], none⟩,
 ⟨some 86, .call 24, [.tmp 84, .tmp 85], none⟩,
 ⟨some 87, .un .not, [.tmp 86], none⟩,
 ⟨some 88, .mov, [.tmp 87], none⟩,
 ⟨some 89, .mov, [.tmp 15], some (88, false)⟩,
 ⟨some 90, .mov, [.tmp 7], some (88, false)⟩,
 ⟨some 91, .eqB true, [.tmp 89, .tmp 90], some (88, false)⟩,
 ⟨some 92, .pick, [.tmp 88, .const (.bool true), .tmp 91], none⟩])
 (.cond (.tmp 92)
 (.seq (.reg [
 ⟨some 4, .mov, [.const (.bool false)], none⟩])
 (.ret))
 (.skip)))
 m6_3)
def m6_5 : MC := .seq (.seq (.reg [
 ⟨some 74, .mov, [.tmp 13], none⟩,
 ⟨some 75, .mov, [.tmp 12], none⟩,
 ⟨some 76, .bin .neq, [.tmp 74, .tmp 75], none⟩])
 (.cond (.tmp 76)
 (.seq (.reg [
 ⟨some 4, .mov, [.const (.bool false)], none⟩])
 (.ret))
 (.skip)))
 m6_4
def m6_6 : MC := .seq (.reg [
 ⟨some 12, .mov, [.const (.int .i64 1)], none⟩])
 (.seq (.reg [
 ⟨some 66, .load true 8, [.tmp 9], none⟩,
 ⟨some 67, .mov, [.tmp 12], none⟩,
 ⟨some 68, .call 27, [.tmp 66, .tmp 67], none⟩,
 ⟨some 12, .mov, [.tmp 68], none⟩])
 (.seq (.reg [
 ⟨some 13, .mov, [.const (.int .i64 1)], none⟩])
 (.seq (.reg [
 ⟨some 69, .load true 8, [.tmp 9], none⟩,
 ⟨some 70, .mov, [.tmp 13], none⟩,
 ⟨some 71, .call 28, [.tmp 69, .tmp 70], none⟩,
 ⟨some 13, .mov, [.tmp 71], none⟩])
 (.seq (.seq (.reg [
 ⟨some 72, .mov, [.tmp 13], none⟩,
 ⟨some 73, .bin .lss, [.tmp 72, .const (.int .i64 0)], none⟩])
 (.cond (.tmp 73)
 (.seq (.reg [
 ⟨some 4, .mov, [.const (.bool false)], none⟩])
 (.ret))
 (.skip)))
 m6_5))))
def m6_7 : MC := .seq (.reg [
 ⟨some 11, .mov, [.const (.int .i64 1)], none⟩])
 (.seq (.reg [
 ⟨some 50, .load true 2, [.tmp 8], none⟩,
 ⟨some 51, .mov, [.tmp 11], none⟩,
 ⟨some 52, .call 26, [.tmp 50, .tmp 51], none⟩,
 ⟨some 11, .mov, [.tmp 52], none⟩])
 (.seq (.seq (.reg [
 ⟨some 53, .mov, [.tmp 11], none⟩,
 ⟨some 54, .bin .lss, [.tmp 53, .const (.int .i64 0)], none⟩,
 ⟨some 55, .mov, [.tmp 54], none⟩,
 ⟨some 56, .load true 8, [.tmp 9], some (55, false)⟩,
 ⟨some 57, .load true 8, [.tmp 6], some (55, false)⟩,
 ⟨some 58, .call 24, [.tmp 56, .tmp 57], some (55, false)⟩,
 ⟨some 59, .un .not, [.tmp 58], some (55, false)⟩,
 ⟨some 60, .pick, [.tmp 55, .const (.bool true), .tmp 59], none⟩,
 ⟨some 61, .mov, [.tmp 60], none⟩,
 ⟨some 62, .mov, [.tmp 10], some (61, false)⟩,
 ⟨some 63, .mov, [.tmp 7], some (61, false)⟩,
 ⟨some 64, .eqB true, [.tmp 62, .tmp 63], some (61, false)⟩,
 ⟨some 65, .pick, [.tmp 61, .const (.bool true), .tmp 64], none⟩])
 (.cond (.tmp 65)
 (.seq (.reg [
 ⟨some 4, .mov, [.const (.bool false)], none⟩])
 (.ret))
 (.skip)))
 m6_6))
def m6_8 : MC := .seq (.seq (.draw [
 (⟨some 45, .load true 2, [.tmp 8], none⟩, []),
 (⟨some 46, .load true 2, [.tmp 2], none⟩, []),
 (⟨some 47, .call 22, [.tmp 46], none⟩, [⟨some 45, .load true 2, [.tmp 8], none⟩]),
 (⟨some 48, .call 25, [.tmp 45, .tmp 47], none⟩, []),
 (⟨some 49, .un .not, [.tmp 48], none⟩, [])])
 (.cond (.tmp 49)
 (.seq (.reg [
 ⟨some 4, .mov, [.const (.bool false)], none⟩])
 (.ret))
 (.skip)))
 m6_7
def m6_9 : MC := .seq (.reg [
 ⟨some 22, .load true 2, [.tmp 2], none⟩,
 ⟨some 23, .call 22, [.tmp 22], none⟩,
 ⟨some 24, .mov, [.tmp 1], none⟩,
 ⟨some 25, .call 21, [.tmp 23, .tmp 24], none⟩,
 ⟨some 21, .mov, [.tmp 25], none⟩,
 ⟨some 26, .ext 0, [.tmp 21], none⟩,
 ⟨some 27, .ext 1, [.tmp 21], none⟩,
 ⟨some 6, .alloc [.int .i64 0, .int .i64 0, .int .i64 0, .string ⟨#[]⟩, .slice none 0 0, .slice none 0 0, .bool false, .string ⟨#[]⟩] 8, [], none⟩,
 ⟨none, .store 8, [.tmp 6, .tmp 26], none⟩,
 ⟨some 7, .mov, [.tmp 27], none⟩])
 (.seq (.reg [
 ⟨some 28, .load true 2, [.tmp 2], none⟩,
 ⟨some 29, .call 22, [.tmp 28], none⟩,
 ⟨some 8, .alloc [.slice none 0 0, .int .i64 0] 2, [], none⟩,
 ⟨none, .store 2, [.tmp 8, .tmp 29], none⟩])
 (.seq (.reg [
 ⟨some 31, .load true 2, [.tmp 8], none⟩,
 ⟨some 32, .mov, [.tmp 1], none⟩,
 ⟨some 33, .call 23, [.tmp 31, .tmp 32], none⟩,
 ⟨some 30, .mov, [.tmp 33], none⟩,
 ⟨some 34, .ext 0, [.tmp 30], none⟩,
 ⟨some 35, .ext 1, [.tmp 30], none⟩,
 ⟨some 9, .alloc [.int .i64 0, .int .i64 0, .int .i64 0, .string ⟨#[]⟩, .slice none 0 0, .slice none 0 0, .bool false, .string ⟨#[]⟩] 8, [], none⟩,
 ⟨none, .store 8, [.tmp 9, .tmp 34], none⟩,
 ⟨some 10, .mov, [.tmp 35], none⟩])
 (.seq (.seq (.reg [
 ⟨some 36, .load true 8, [.tmp 9], none⟩,
 ⟨some 37, .load true 8, [.tmp 6], none⟩,
 ⟨some 38, .call 24, [.tmp 36, .tmp 37], none⟩,
 ⟨some 39, .un .not, [.tmp 38], none⟩,
 ⟨some 40, .mov, [.tmp 39], none⟩,
 ⟨some 41, .mov, [.tmp 10], some (40, false)⟩,
 ⟨some 42, .mov, [.tmp 7], some (40, false)⟩,
 ⟨some 43, .eqB true, [.tmp 41, .tmp 42], some (40, false)⟩,
 ⟨some 44, .pick, [.tmp 40, .const (.bool true), .tmp 43], none⟩])
 (.cond (.tmp 44)
 (.seq (.reg [
 ⟨some 4, .mov, [.const (.bool false)], none⟩])
 (.ret))
 (.skip)))
 m6_8)))
/-- loop.example/g00099/laws.FnExactItemOf -/
def m6 : MF := ⟨101,
 .seq (.reg [
 ⟨some 2, .box 2, [.tmp 0], none⟩,
 ⟨some 4, .mov, [.const (.bool false)], none⟩])
 (.seq (.reg [
 ⟨some 5, .mov, [.const (.int .i64 1048576)], none⟩])
 (.seq (.reg [
 ⟨some 16, .load true 2, [.tmp 2], none⟩,
 ⟨some 17, .mov, [.tmp 5], none⟩,
 ⟨some 18, .call 20, [.tmp 16, .tmp 17], none⟩,
 ⟨some 5, .mov, [.tmp 18], none⟩])
 (.seq (.seq (.reg [
 ⟨some 19, .mov, [.tmp 5], none⟩,
 ⟨some 20, .bin .lss, [.tmp 19, .const (.int .i64 0)], none⟩])
 (.cond (.tmp 20)
 (.seq (.reg [
 ⟨some 4, .mov, [.const (.bool true)], none⟩])
 (.ret))
 (.skip)))
 m6_9))),
 [.slot 4]⟩
theorem m6_ok : compF Try.prog Try.f6 = some m6 := by kernel_rfl

end Go.Proofs.Ytdfmdclfnhgjiaa.Can
