/- Functions in the short form, written by gen.lean: part 1.
 Conditions: none; each is what the given program's function comes to. -/
import Derived.Test.YtdfmdclfnhgjiaaChecked
import Derived.Test.YtdfmdclfnhgjiaaCanI
import Derived.KernelRfl
set_option linter.unusedVariables false
namespace Go.Proofs.Ytdfmdclfnhgjiaa.Can
open Go

/-- loop.example/g00099/laws.szObj -/
def m7 : MF := ⟨25,
 .seq (.reg [
 ⟨some 2, .box 5, [.tmp 0], none⟩,
 ⟨some 4, .mov, [.const (.int .i64 0)], none⟩])
 (.seq (.reg [
 ⟨some 5, .mov, [.tmp 1], none⟩,
 ⟨some 6, .faddr 2, [.tmp 2], none⟩,
 ⟨some 7, .load false 1, [.tmp 6], none⟩,
 ⟨some 8, .lenS, [.tmp 7], none⟩,
 ⟨some 9, .bin .sub, [.tmp 5, .tmp 8], none⟩,
 ⟨some 1, .mov, [.tmp 9], none⟩])
 (.seq (.seq (.reg [
 ⟨some 10, .mov, [.tmp 1], none⟩,
 ⟨some 11, .bin .lss, [.tmp 10, .const (.int .i64 0)], none⟩])
 (.cond (.tmp 11)
 (.seq (.reg [
 ⟨some 4, .mov, [.const (.int .i64 (-1))], none⟩])
 (.ret))
 (.skip)))
 (.seq (.reg [
 ⟨some 12, .faddr 3, [.tmp 2], none⟩,
 ⟨some 13, .load false 1, [.tmp 12], none⟩,
 ⟨some 14, .mov, [.tmp 1], none⟩,
 ⟨some 15, .call 29, [.tmp 13, .tmp 14], none⟩,
 ⟨some 1, .mov, [.tmp 15], none⟩])
 (.seq (.seq (.reg [
 ⟨some 16, .mov, [.tmp 1], none⟩,
 ⟨some 17, .bin .lss, [.tmp 16, .const (.int .i64 0)], none⟩])
 (.cond (.tmp 17)
 (.seq (.reg [
 ⟨some 4, .mov, [.const (.int .i64 (-1))], none⟩])
 (.ret))
 (.skip)))
 (.seq (.reg [
 ⟨some 18, .faddr 4, [.tmp 2], none⟩,
 ⟨some 19, .load false 1, [.tmp 18], none⟩,
 ⟨some 20, .mov, [.tmp 1], none⟩,
 ⟨some 21, .call 30, [.tmp 19, .tmp 20], none⟩,
 ⟨some 1, .mov, [.tmp 21], none⟩])
 (.seq (.seq (.reg [
 ⟨some 22, .mov, [.tmp 1], none⟩,
 ⟨some 23, .bin .lss, [.tmp 22, .const (.int .i64 0)], none⟩])
 (.cond (.tmp 23)
 (.seq (.reg [
 ⟨some 4, .mov, [.const (.int .i64 (-1))], none⟩])
 (.ret))
 (.skip)))
 (.seq (.reg [
 ⟨some 24, .mov, [.tmp 1], none⟩,
 ⟨some 4, .mov, [.tmp 24], none⟩])
 (.ret)))))))),
 [.slot 4]⟩
theorem m7_ok : compF Try.prog Try.f7 = some m7 := by kernel_rfl

/-- loop.example/g00099/spec.Entry -/
def m8 : MF := ⟨19,
 .seq (.reg [
 ⟨some 2, .box 5, [.tmp 0], none⟩,
 ⟨some 4, .alloc [.int .i64 0, .int .i64 0, .string ⟨#[]⟩, .slice none 0 0, .slice none 0 0] 5, [], none⟩,
 ⟨some 5, .mov, [.const (.bool false)], none⟩])
 (.seq (.reg [
 ⟨some 7, .load true 5, [.tmp 2], none⟩,
 ⟨some 8, .mov, [.tmp 1], none⟩,
 ⟨some 9, .call 31, [.tmp 7, .tmp 8], none⟩,
 ⟨some 6, .mov, [.tmp 9], none⟩])
 (.seq (.seq (.reg [
 ⟨some 10, .mov, [.tmp 6], none⟩,
 ⟨some 11, .bin .lss, [.tmp 10, .const (.int .i64 0)], none⟩])
 (.cond (.tmp 11)
 (.seq (.reg [
 ⟨some 12, .bld [.int .i64 0, .int .i64 0, .string ⟨#[]⟩, .slice none 0 0, .slice none 0 0] [], [], none⟩,
 ⟨none, .store 5, [.tmp 4, .tmp 12], none⟩,
 ⟨some 5, .mov, [.const (.bool false)], none⟩])
 (.ret))
 (.skip)))
 (.seq (.reg [
 ⟨some 13, .faddr 4, [.tmp 2], none⟩,
 ⟨some 14, .load false 1, [.tmp 13], none⟩,
 ⟨some 15, .mov, [.tmp 6], none⟩,
 ⟨some 16, .iaddr 5, [.tmp 14, .tmp 15], none⟩,
 ⟨some 17, .load true 5, [.tmp 16], none⟩,
 ⟨some 18, .call 32, [.tmp 17], none⟩,
 ⟨none, .store 5, [.tmp 4, .tmp 18], none⟩,
 ⟨some 5, .mov, [.const (.bool true)], none⟩])
 (.ret)))),
 [.cell 4 true 5, .slot 5]⟩
theorem m8_ok : compF Try.prog Try.f8 = some m8 := by kernel_rfl

/-- loop.example/g00099/laws.toObj -/
def m9 : MF := ⟨22,
 .seq (.reg [
 ⟨some 1, .box 5, [.tmp 0], none⟩,
 ⟨some 2, .alloc [.int .i64 0, .int .i64 0, .string ⟨#[]⟩, .slice none 0 0, .slice none 0 0] 5, [], none⟩])
 (.seq (.reg [
 ⟨some 3, .alloc [.int .i64 0, .int .i64 0, .string ⟨#[]⟩, .slice none 0 0, .slice none 0 0] 5, [], none⟩])
 (.seq (.reg [
 ⟨some 4, .faddr 0, [.tmp 1], none⟩,
 ⟨some 5, .load false 1, [.tmp 4], none⟩,
 ⟨some 6, .faddr 0, [.tmp 3], none⟩,
 ⟨none, .store 1, [.tmp 6, .tmp 5], none⟩])
 (.seq (.reg [
 ⟨some 7, .faddr 1, [.tmp 1], none⟩,
 ⟨some 8, .load false 1, [.tmp 7], none⟩,
 ⟨some 9, .faddr 1, [.tmp 3], none⟩,
 ⟨none, .store 1, [.tmp 9, .tmp 8], none⟩])
 (.seq (.reg [
 ⟨some 10, .faddr 2, [.tmp 1], none⟩,
 ⟨some 11, .load false 1, [.tmp 10], none⟩,
 ⟨some 12, .faddr 2, [.tmp 3], none⟩,
 ⟨none, .store 1, [.tmp 12, .tmp 11], none⟩])
 (.seq (.reg [
 ⟨some 13, .faddr 3, [.tmp 1], none⟩,
 ⟨some 14, .load false 1, [.tmp 13], none⟩,
 ⟨some 15, .call 33, [.tmp 14], none⟩,
 ⟨some 16, .faddr 3, [.tmp 3], none⟩,
 ⟨none, .store 1, [.tmp 16, .tmp 15], none⟩])
 (.seq (.reg [
 ⟨some 17, .faddr 4, [.tmp 1], none⟩,
 ⟨some 18, .load false 1, [.tmp 17], none⟩,
 ⟨some 19, .call 34, [.tmp 18], none⟩,
 ⟨some 20, .faddr 4, [.tmp 3], none⟩,
 ⟨none, .store 1, [.tmp 20, .tmp 19], none⟩])
 (.seq (.reg [
 ⟨some 21, .load true 5, [.tmp 3], none⟩,
 ⟨none, .store 5, [.tmp 2, .tmp 21], none⟩])
 (.ret)))))))),
 [.cell 2 true 5]⟩
theorem m9_ok : compF Try.prog Try.f9 = some m9 := by kernel_rfl

/-- loop.example/g00099/impl.Entry -/
def m10 : MF := ⟨34,
 .seq (.reg [
 ⟨some 2, .box 5, [.tmp 0], none⟩,
 ⟨some 4, .alloc [.int .i64 0, .int .i64 0, .string ⟨#[]⟩, .slice none 0 0, .slice none 0 0] 5, [], none⟩,
 ⟨some 5, .mov, [.const (.bool false)], none⟩])
 (.seq (.reg [
 ⟨some 7, .faddr 3, [.tmp 2], none⟩,
 ⟨some 8, .load false 1, [.tmp 7], none⟩,
 ⟨some 9, .mov, [.tmp 1], none⟩,
 ⟨some 10, .call 35, [.tmp 8, .tmp 9], none⟩,
 ⟨some 6, .mov, [.tmp 10], none⟩])
 (.seq (.seq (.reg [
 ⟨some 11, .faddr 0, [.tmp 2], none⟩,
 ⟨some 12, .load false 1, [.tmp 11], none⟩,
 ⟨some 13, .bin .neq, [.tmp 12, .const (.int .i64 8)], none⟩,
 ⟨some 14, .mov, [.tmp 13], none⟩,
 ⟨some 15, .faddr 4, [.tmp 2], some (14, false)⟩,
 ⟨some 16, .load false 1, [.tmp 15], some (14, false)⟩,
 ⟨some 17, .lenL, [.tmp 16], some (14, false)⟩,
 ⟨some 18, .faddr 3, [.tmp 2], some (14, false)⟩,
 ⟨some 19, .load false 1, [.tmp 18], some (14, false)⟩,
 ⟨some 20, .lenL, [.tmp 19], some (14, false)⟩,
 ⟨some 21, .bin .neq, [.tmp 17, .tmp 20], some (14, false)⟩,
 ⟨some 22, .pick, [.tmp 14, .const (.bool true), .tmp 21], none⟩,
 ⟨some 23, .mov, [.tmp 22], none⟩,
 ⟨some 24, .mov, [.tmp 6], some (23, false)⟩,
 ⟨some 25, .bin .lss, [.tmp 24, .const (.int .i64 0)], some (23, false)⟩,
 ⟨some 26, .pick, [.tmp 23, .const (.bool true), .tmp 25], none⟩])
 (.cond (.tmp 26)
 (.seq (.reg [
 ⟨some 27, .bld [.int .i64 0, .int .i64 0, .string ⟨#[]⟩, .slice none 0 0, .slice none 0 0] [], [], none⟩,
 ⟨none, .store 5, [.tmp 4, .tmp 27], none⟩,
 ⟨some 5, .mov, [.const (.bool false)], none⟩])
 (.ret))
 (.skip)))
 (.seq (.reg [
 ⟨some 28, .faddr 4, [.tmp 2], none⟩,
 ⟨some 29, .load false 1, [.tmp 28], none⟩,
 ⟨some 30, .mov, [.tmp 6], none⟩,
 ⟨some 31, .iaddr 5, [.tmp 29, .tmp 30], none⟩,
 ⟨some 32, .load true 5, [.tmp 31], none⟩,
 ⟨some 33, .call 36, [.tmp 32], none⟩,
 ⟨none, .store 5, [.tmp 4, .tmp 33], none⟩,
 ⟨some 5, .mov, [.const (.bool true)], none⟩])
 (.ret)))),
 [.cell 4 true 5, .slot 5]⟩
theorem m10_ok : compF Try.prog Try.f10 = some m10 := by kernel_rfl

/-- loop.example/g00099/laws.eqObj -/
def m11 : MF := ⟨32,
 .seq (.reg [
 ⟨some 2, .box 5, [.tmp 0], none⟩,
 ⟨some 3, .box 5, [.tmp 1], none⟩,
 ⟨some 4, .mov, [.const (.bool false)], none⟩])
 (.seq (.seq (.reg [
 ⟨some 5, .faddr 0, [.tmp 2], none⟩,
 ⟨some 6, .load false 1, [.tmp 5], none⟩,
 ⟨some 7, .faddr 0, [.tmp 3], none⟩,
 ⟨some 8, .load false 1, [.tmp 7], none⟩,
 ⟨some 9, .bin .neq, [.tmp 6, .tmp 8], none⟩])
 (.cond (.tmp 9)
 (.seq (.reg [
 ⟨some 4, .mov, [.const (.bool false)], none⟩])
 (.ret))
 (.skip)))
 (.seq (.seq (.reg [
 ⟨some 10, .faddr 1, [.tmp 2], none⟩,
 ⟨some 11, .load false 1, [.tmp 10], none⟩,
 ⟨some 12, .faddr 1, [.tmp 3], none⟩,
 ⟨some 13, .load false 1, [.tmp 12], none⟩,
 ⟨some 14, .bin .neq, [.tmp 11, .tmp 13], none⟩])
 (.cond (.tmp 14)
 (.seq (.reg [
 ⟨some 4, .mov, [.const (.bool false)], none⟩])
 (.ret))
 (.skip)))
 (.seq (.seq (.reg [
 ⟨some 15, .faddr 2, [.tmp 2], none⟩,
 ⟨some 16, .load false 1, [.tmp 15], none⟩,
 ⟨some 17, .faddr 2, [.tmp 3], none⟩,
 ⟨some 18, .load false 1, [.tmp 17], none⟩,
 ⟨some 19, .bin .neq, [.tmp 16, .tmp 18], none⟩])
 (.cond (.tmp 19)
 (.seq (.reg [
 ⟨some 4, .mov, [.const (.bool false)], none⟩])
 (.ret))
 (.skip)))
 (.seq (.seq (.reg [
 ⟨some 20, .faddr 3, [.tmp 2], none⟩,
 ⟨some 21, .load false 1, [.tmp 20], none⟩,
 ⟨some 22, .faddr 3, [.tmp 3], none⟩,
 ⟨some 23, .load false 1, [.tmp 22], none⟩,
 ⟨some 24, .call 37, [.tmp 21, .tmp 23], none⟩,
 ⟨some 25, .un .not, [.tmp 24], none⟩])
 (.cond (.tmp 25)
 (.seq (.reg [
 ⟨some 4, .mov, [.const (.bool false)], none⟩])
 (.ret))
 (.skip)))
 (.seq (.seq (.reg [
 ⟨some 26, .faddr 4, [.tmp 2], none⟩,
 ⟨some 27, .load false 1, [.tmp 26], none⟩,
 ⟨some 28, .faddr 4, [.tmp 3], none⟩,
 ⟨some 29, .load false 1, [.tmp 28], none⟩,
 ⟨some 30, .call 38, [.tmp 27, .tmp 29], none⟩,
 ⟨some 31, .un .not, [.tmp 30], none⟩])
 (.cond (.tmp 31)
 (.seq (.reg [
 ⟨some 4, .mov, [.const (.bool false)], none⟩])
 (.ret))
 (.skip)))
 (.seq (.reg [
 ⟨some 4, .mov, [.const (.bool true)], none⟩])
 (.ret))))))),
 [.slot 4]⟩
theorem m11_ok : compF Try.prog Try.f11 = some m11 := by kernel_rfl

/-- loop.example/g00099/laws.markObj -/
def m12 : MF := ⟨14,
 .seq (.reg [
 ⟨some 2, .box 5, [.tmp 0], none⟩,
 ⟨some 4, .mov, [.const (.int .i64 0)], none⟩])
 (.seq (.reg [
 ⟨some 5, .faddr 3, [.tmp 2], none⟩,
 ⟨some 6, .load false 1, [.tmp 5], none⟩,
 ⟨some 7, .mov, [.tmp 1], none⟩,
 ⟨some 8, .call 39, [.tmp 6, .tmp 7], none⟩,
 ⟨some 1, .mov, [.tmp 8], none⟩])
 (.seq (.reg [
 ⟨some 9, .faddr 4, [.tmp 2], none⟩,
 ⟨some 10, .load false 1, [.tmp 9], none⟩,
 ⟨some 11, .mov, [.tmp 1], none⟩,
 ⟨some 12, .call 40, [.tmp 10, .tmp 11], none⟩,
 ⟨some 1, .mov, [.tmp 12], none⟩])
 (.seq (.reg [
 ⟨some 13, .mov, [.tmp 1], none⟩,
 ⟨some 4, .mov, [.tmp 13], none⟩])
 (.ret)))),
 [.slot 4]⟩
theorem m12_ok : compF Try.prog Try.f12 = some m12 := by kernel_rfl

/-- loop.example/g00099/laws.heldObj -/
def m13 : MF := ⟨18,
 .seq (.reg [
 ⟨some 2, .box 5, [.tmp 0], none⟩,
 ⟨some 4, .mov, [.const (.int .i64 0)], none⟩])
 (.seq (.reg [
 ⟨some 5, .faddr 3, [.tmp 2], none⟩,
 ⟨some 6, .load false 1, [.tmp 5], none⟩,
 ⟨some 7, .mov, [.tmp 1], none⟩,
 ⟨some 8, .call 41, [.tmp 6, .tmp 7], none⟩,
 ⟨some 1, .mov, [.tmp 8], none⟩])
 (.seq (.seq (.reg [
 ⟨some 9, .mov, [.tmp 1], none⟩,
 ⟨some 10, .bin .lss, [.tmp 9, .const (.int .i64 0)], none⟩])
 (.cond (.tmp 10)
 (.seq (.reg [
 ⟨some 4, .mov, [.const (.int .i64 (-1))], none⟩])
 (.ret))
 (.skip)))
 (.seq (.reg [
 ⟨some 11, .faddr 4, [.tmp 2], none⟩,
 ⟨some 12, .load false 1, [.tmp 11], none⟩,
 ⟨some 13, .mov, [.tmp 1], none⟩,
 ⟨some 14, .call 42, [.tmp 12, .tmp 13], none⟩,
 ⟨some 1, .mov, [.tmp 14], none⟩])
 (.seq (.seq (.reg [
 ⟨some 15, .mov, [.tmp 1], none⟩,
 ⟨some 16, .bin .lss, [.tmp 15, .const (.int .i64 0)], none⟩])
 (.cond (.tmp 16)
 (.seq (.reg [
 ⟨some 4, .mov, [.const (.int .i64 (-1))], none⟩])
 (.ret))
 (.skip)))
 (.seq (.reg [
 ⟨some 17, .mov, [.tmp 1], none⟩,
 ⟨some 4, .mov, [.tmp 17], none⟩])
 (.ret)))))),
 [.slot 4]⟩
theorem m13_ok : compF Try.prog Try.f13 = some m13 := by kernel_rfl

/-- loop.example/g00099/laws.szStringS -/
def m29 : MF := ⟨28,
 .seq (.reg [
 ⟨some 4, .mov, [.const (.int .i64 0)], none⟩])
 (.seq (.reg [
 ⟨some 6, .mov, [.tmp 1], none⟩,
 ⟨some 7, .mov, [.tmp 0], none⟩,
 ⟨some 8, .lenL, [.tmp 7], none⟩,
 ⟨some 9, .bin .sub, [.tmp 6, .tmp 8], none⟩,
 ⟨some 1, .mov, [.tmp 9], none⟩])
 (.seq (.seq (.reg [
 ⟨some 10, .mov, [.tmp 1], none⟩,
 ⟨some 11, .bin .lss, [.tmp 10, .const (.int .i64 0)], none⟩])
 (.cond (.tmp 11)
 (.seq (.reg [
 ⟨some 4, .mov, [.const (.int .i64 (-1))], none⟩])
 (.ret))
 (.skip)))
 (.seq (.seq (.reg [
 ⟨some 5, .mov, [.const (.int .i64 0)], none⟩])
 (.block 0 (.loop (.seq (.seq (.reg [
 ⟨some 12, .mov, [.tmp 5], none⟩,
 ⟨some 13, .mov, [.tmp 0], none⟩,
 ⟨some 14, .lenL, [.tmp 13], none⟩,
 ⟨some 15, .bin .lss, [.tmp 12, .tmp 14], none⟩])
 (.cond (.tmp 15)
 (.skip)
 (.exit 0)))
 (.seq (.block 1 (.seq (.reg [
 ⟨some 18, .mov, [.tmp 1], none⟩,
 ⟨some 19, .mov, [.tmp 0], none⟩,
 ⟨some 20, .mov, [.tmp 5], none⟩,
 ⟨some 21, .iaddr 1, [.tmp 19, .tmp 20], none⟩,
 ⟨some 22, .load false 1, [.tmp 21], none⟩,
 ⟨some 23, .lenS, [.tmp 22], none⟩,
 ⟨some 24, .bin .sub, [.tmp 18, .tmp 23], none⟩,
 ⟨some 1, .mov, [.tmp 24], none⟩])
 (.seq (.reg [
 ⟨some 25, .mov, [.tmp 1], none⟩,
 ⟨some 26, .bin .lss, [.tmp 25, .const (.int .i64 0)], none⟩])
 (.cond (.tmp 26)
 (.seq (.reg [
 ⟨some 4, .mov, [.const (.int .i64 (-1))], none⟩])
 (.ret))
 (.skip)))))
 (.reg [
 ⟨some 16, .mov, [.tmp 5], none⟩,
 ⟨some 17, .bin .add, [.tmp 16, .const (.int .i64 1)], none⟩,
 ⟨some 5, .mov, [.tmp 17], none⟩]))))))
 (.seq (.reg [
 ⟨some 27, .mov, [.tmp 1], none⟩,
 ⟨some 4, .mov, [.tmp 27], none⟩])
 (.ret))))),
 [.slot 4]⟩
theorem m29_ok : compF Try.prog Try.f29 = some m29 := by kernel_rfl

/-- loop.example/g00099/laws.szObjS -/
def m30 : MF := ⟨27,
 .seq (.reg [
 ⟨some 4, .mov, [.const (.int .i64 0)], none⟩])
 (.seq (.reg [
 ⟨some 6, .mov, [.tmp 1], none⟩,
 ⟨some 7, .mov, [.tmp 0], none⟩,
 ⟨some 8, .lenL, [.tmp 7], none⟩,
 ⟨some 9, .bin .sub, [.tmp 6, .tmp 8], none⟩,
 ⟨some 1, .mov, [.tmp 9], none⟩])
 (.seq (.seq (.reg [
 ⟨some 10, .mov, [.tmp 1], none⟩,
 ⟨some 11, .bin .lss, [.tmp 10, .const (.int .i64 0)], none⟩])
 (.cond (.tmp 11)
 (.seq (.reg [
 ⟨some 4, .mov, [.const (.int .i64 (-1))], none⟩])
 (.ret))
 (.skip)))
 (.seq (.seq (.reg [
 ⟨some 5, .mov, [.const (.int .i64 0)], none⟩])
 (.block 0 (.loop (.seq (.seq (.reg [
 ⟨some 12, .mov, [.tmp 5], none⟩,
 ⟨some 13, .mov, [.tmp 0], none⟩,
 ⟨some 14, .lenL, [.tmp 13], none⟩,
 ⟨some 15, .bin .lss, [.tmp 12, .tmp 14], none⟩])
 (.cond (.tmp 15)
 (.skip)
 (.exit 0)))
 (.seq (.block 1 (.seq (.reg [
 ⟨some 18, .mov, [.tmp 0], none⟩,
 ⟨some 19, .mov, [.tmp 5], none⟩,
 ⟨some 20, .iaddr 5, [.tmp 18, .tmp 19], none⟩,
 ⟨some 21, .load true 5, [.tmp 20], none⟩,
 ⟨some 22, .mov, [.tmp 1], none⟩,
 ⟨some 23, .call 7, [.tmp 21, .tmp 22], none⟩,
 ⟨some 1, .mov, [.tmp 23], none⟩])
 (.seq (.reg [
 ⟨some 24, .mov, [.tmp 1], none⟩,
 ⟨some 25, .bin .lss, [.tmp 24, .const (.int .i64 0)], none⟩])
 (.cond (.tmp 25)
 (.seq (.reg [
 ⟨some 4, .mov, [.const (.int .i64 (-1))], none⟩])
 (.ret))
 (.skip)))))
 (.reg [
 ⟨some 16, .mov, [.tmp 5], none⟩,
 ⟨some 17, .bin .add, [.tmp 16, .const (.int .i64 1)], none⟩,
 ⟨some 5, .mov, [.tmp 17], none⟩]))))))
 (.seq (.reg [
 ⟨some 26, .mov, [.tmp 1], none⟩,
 ⟨some 4, .mov, [.tmp 26], none⟩])
 (.ret))))),
 [.slot 4]⟩
theorem m30_ok : compF Try.prog Try.f30 = some m30 := by kernel_rfl

/-- loop.example/g00099/spec.l21At -/
def m31 : MF := ⟨33,
 .seq (.reg [
 ⟨some 2, .box 5, [.tmp 0], none⟩,
 ⟨some 4, .mov, [.const (.int .i64 0)], none⟩])
 (.seq (.seq (.reg [
 ⟨some 6, .faddr 0, [.tmp 2], none⟩,
 ⟨some 7, .load false 1, [.tmp 6], none⟩,
 ⟨some 8, .bin .neq, [.tmp 7, .const (.int .i64 8)], none⟩,
 ⟨some 9, .mov, [.tmp 8], none⟩,
 ⟨some 10, .faddr 3, [.tmp 2], some (9, false)⟩,
 ⟨some 11, .load false 1, [.tmp 10], some (9, false)⟩,
 ⟨some 12, .lenL, [.tmp 11], some (9, false)⟩,
 ⟨some 13, .faddr 4, [.tmp 2], some (9, false)⟩,
 ⟨some 14, .load false 1, [.tmp 13], some (9, false)⟩,
 ⟨some 15, .lenL, [.tmp 14], some (9, false)⟩,
 ⟨some 16, .bin .neq, [.tmp 12, .tmp 15], some (9, false)⟩,
 ⟨some 17, .pick, [.tmp 9, .const (.bool true), .tmp 16], none⟩])
 (.cond (.tmp 17)
 (.seq (.reg [
 ⟨some 4, .mov, [.const (.int .i64 (-1))], none⟩])
 (.ret))
 (.skip)))
 (.seq (.seq (.reg [
 ⟨some 5, .mov, [.const (.int .i64 0)], none⟩])
 (.block 0 (.loop (.seq (.seq (.reg [
 ⟨some 18, .mov, [.tmp 5], none⟩,
 ⟨some 19, .faddr 3, [.tmp 2], none⟩,
 ⟨some 20, .load false 1, [.tmp 19], none⟩,
 ⟨some 21, .lenL, [.tmp 20], none⟩,
 ⟨some 22, .bin .lss, [.tmp 18, .tmp 21], none⟩])
 (.cond (.tmp 22)
 (.skip)
 (.exit 0)))
 (.seq (.block 1 (.seq (.reg [
 ⟨some 25, .faddr 3, [.tmp 2], none⟩,
 ⟨some 26, .load false 1, [.tmp 25], none⟩,
 ⟨some 27, .mov, [.tmp 5], none⟩,
 ⟨some 28, .iaddr 1, [.tmp 26, .tmp 27], none⟩,
 ⟨some 29, .load false 1, [.tmp 28], none⟩,
 ⟨some 30, .mov, [.tmp 1], none⟩,
 ⟨some 31, .bin .eql, [.tmp 29, .tmp 30], none⟩])
 (.cond (.tmp 31)
 (.seq (.reg [
 ⟨some 32, .mov, [.tmp 5], none⟩,
 ⟨some 4, .mov, [.tmp 32], none⟩])
 (.ret))
 (.skip))))
 (.reg [
 ⟨some 23, .mov, [.tmp 5], none⟩,
 ⟨some 24, .bin .add, [.tmp 23, .const (.int .i64 1)], none⟩,
 ⟨some 5, .mov, [.tmp 24], none⟩]))))))
 (.seq (.reg [
 ⟨some 4, .mov, [.const (.int .i64 (-1))], none⟩])
 (.ret)))),
 [.slot 4]⟩
theorem m31_ok : compF Try.prog Try.f31 = some m31 := by kernel_rfl

/-- loop.example/g00099/spec.l21Copy -/
def m32 : MF := ⟨30,
 .seq (.reg [
 ⟨some 1, .box 5, [.tmp 0], none⟩,
 ⟨some 2, .alloc [.int .i64 0, .int .i64 0, .string ⟨#[]⟩, .slice none 0 0, .slice none 0 0] 5, [], none⟩])
 (.seq (.reg [
 ⟨some 5, .blds 1 0 [] [], [], none⟩,
 ⟨some 6, .faddr 3, [.tmp 1], none⟩,
 ⟨some 7, .load false 1, [.tmp 6], none⟩,
 ⟨some 8, .app 1 16, [.tmp 5, .tmp 7], none⟩,
 ⟨some 9, .faddr 3, [.tmp 1], none⟩,
 ⟨none, .store 1, [.tmp 9, .tmp 8], none⟩])
 (.seq (.reg [
 ⟨some 10, .blds 5 0 [] [], [], none⟩,
 ⟨some 3, .mov, [.tmp 10], none⟩])
 (.seq (.seq (.reg [
 ⟨some 4, .mov, [.const (.int .i64 0)], none⟩])
 (.block 0 (.loop (.seq (.seq (.reg [
 ⟨some 11, .mov, [.tmp 4], none⟩,
 ⟨some 12, .faddr 4, [.tmp 1], none⟩,
 ⟨some 13, .load false 1, [.tmp 12], none⟩,
 ⟨some 14, .lenL, [.tmp 13], none⟩,
 ⟨some 15, .bin .lss, [.tmp 11, .tmp 14], none⟩])
 (.cond (.tmp 15)
 (.skip)
 (.exit 0)))
 (.seq (.block 1 (.reg [
 ⟨some 18, .mov, [.tmp 3], none⟩,
 ⟨some 19, .faddr 4, [.tmp 1], none⟩,
 ⟨some 20, .load false 1, [.tmp 19], none⟩,
 ⟨some 21, .mov, [.tmp 4], none⟩,
 ⟨some 22, .iaddr 5, [.tmp 20, .tmp 21], none⟩,
 ⟨some 23, .load true 5, [.tmp 22], none⟩,
 ⟨some 24, .call 32, [.tmp 23], none⟩,
 ⟨some 25, .blds 5 1 [.int .i64 0, .int .i64 0, .string ⟨#[]⟩, .slice none 0 0, .slice none 0 0] [(0, 5)], [.tmp 24], none⟩,
 ⟨some 26, .app 5 80, [.tmp 18, .tmp 25], none⟩,
 ⟨some 3, .mov, [.tmp 26], none⟩]))
 (.reg [
 ⟨some 16, .mov, [.tmp 4], none⟩,
 ⟨some 17, .bin .add, [.tmp 16, .const (.int .i64 1)], none⟩,
 ⟨some 4, .mov, [.tmp 17], none⟩]))))))
 (.seq (.reg [
 ⟨some 27, .mov, [.tmp 3], none⟩,
 ⟨some 28, .faddr 4, [.tmp 1], none⟩,
 ⟨none, .store 1, [.tmp 28, .tmp 27], none⟩])
 (.seq (.reg [
 ⟨some 29, .load true 5, [.tmp 1], none⟩,
 ⟨none, .store 5, [.tmp 2, .tmp 29], none⟩])
 (.ret)))))),
 [.cell 2 true 5]⟩
theorem m32_ok : compF Try.prog Try.f32 = some m32 := by kernel_rfl

/-- loop.example/g00099/laws.toStringS -/
def m33 : MF := ⟨22,
 .seq (.reg [
 ⟨some 2, .mov, [.const (.slice none 0 0)], none⟩])
 (.seq (.reg [
 ⟨some 5, .mov, [.tmp 0], none⟩,
 ⟨some 6, .lenL, [.tmp 5], none⟩,
 ⟨some 7, .mks 1 16 [.string ⟨#[]⟩], [.tmp 6, .tmp 6], none⟩,
 ⟨some 3, .mov, [.tmp 7], none⟩])
 (.seq (.seq (.reg [
 ⟨some 4, .mov, [.const (.int .i64 0)], none⟩])
 (.block 0 (.loop (.seq (.seq (.reg [
 ⟨some 8, .mov, [.tmp 4], none⟩,
 ⟨some 9, .mov, [.tmp 0], none⟩,
 ⟨some 10, .lenL, [.tmp 9], none⟩,
 ⟨some 11, .bin .lss, [.tmp 8, .tmp 10], none⟩])
 (.cond (.tmp 11)
 (.skip)
 (.exit 0)))
 (.seq (.block 1 (.reg [
 ⟨some 14, .mov, [.tmp 3], none⟩,
 ⟨some 15, .mov, [.tmp 4], none⟩,
 ⟨some 16, .mov, [.tmp 0], none⟩,
 ⟨some 17, .mov, [.tmp 4], none⟩,
 ⟨some 18, .iaddr 1, [.tmp 16, .tmp 17], none⟩,
 ⟨some 19, .load false 1, [.tmp 18], none⟩,
 ⟨some 20, .iaddr 1, [.tmp 14, .tmp 15], none⟩,
 ⟨none, .store 1, [.tmp 20, .tmp 19], none⟩]))
 (.reg [
 ⟨some 12, .mov, [.tmp 4], none⟩,
 ⟨some 13, .bin .add, [.tmp 12, .const (.int .i64 1)], none⟩,
 ⟨some 4, .mov, [.tmp 13], none⟩]))))))
 (.seq (.reg [
 ⟨some 21, .mov, [.tmp 3], none⟩,
 ⟨some 2, .mov, [.tmp 21], none⟩])
 (.ret)))),
 [.slot 2]⟩
theorem m33_ok : compF Try.prog Try.f33 = some m33 := by kernel_rfl

/-- loop.example/g00099/laws.toObjS -/
def m34 : MF := ⟨23,
 .seq (.reg [
 ⟨some 2, .mov, [.const (.slice none 0 0)], none⟩])
 (.seq (.reg [
 ⟨some 5, .mov, [.tmp 0], none⟩,
 ⟨some 6, .lenL, [.tmp 5], none⟩,
 ⟨some 7, .mks 5 80 [.int .i64 0, .int .i64 0, .string ⟨#[]⟩, .slice none 0 0, .slice none 0 0], [.tmp 6, .tmp 6], none⟩,
 ⟨some 3, .mov, [.tmp 7], none⟩])
 (.seq (.seq (.reg [
 ⟨some 4, .mov, [.const (.int .i64 0)], none⟩])
 (.block 0 (.loop (.seq (.seq (.reg [
 ⟨some 8, .mov, [.tmp 4], none⟩,
 ⟨some 9, .mov, [.tmp 0], none⟩,
 ⟨some 10, .lenL, [.tmp 9], none⟩,
 ⟨some 11, .bin .lss, [.tmp 8, .tmp 10], none⟩])
 (.cond (.tmp 11)
 (.skip)
 (.exit 0)))
 (.seq (.block 1 (.reg [
 ⟨some 14, .mov, [.tmp 3], none⟩,
 ⟨some 15, .mov, [.tmp 4], none⟩,
 ⟨some 16, .mov, [.tmp 0], none⟩,
 ⟨some 17, .mov, [.tmp 4], none⟩,
 ⟨some 18, .iaddr 5, [.tmp 16, .tmp 17], none⟩,
 ⟨some 19, .load true 5, [.tmp 18], none⟩,
 ⟨some 20, .call 9, [.tmp 19], none⟩,
 ⟨some 21, .iaddr 5, [.tmp 14, .tmp 15], none⟩,
 ⟨none, .store 5, [.tmp 21, .tmp 20], none⟩]))
 (.reg [
 ⟨some 12, .mov, [.tmp 4], none⟩,
 ⟨some 13, .bin .add, [.tmp 12, .const (.int .i64 1)], none⟩,
 ⟨some 4, .mov, [.tmp 13], none⟩]))))))
 (.seq (.reg [
 ⟨some 22, .mov, [.tmp 3], none⟩,
 ⟨some 2, .mov, [.tmp 22], none⟩])
 (.ret)))),
 [.slot 2]⟩
theorem m34_ok : compF Try.prog Try.f34 = some m34 := by kernel_rfl

/-- slices.Index[[]string,string] -/
def m35 : MF := ⟨19,
 .seq (.reg [
 ⟨some 4, .mov, [.const (.int .i64 0)], none⟩])
 (.seq (.seq (.reg [
 ⟨some 6, .mov, [.tmp 0], none⟩,
 ⟨some 7, .lenL, [.tmp 6], none⟩,
 ⟨some 8, .mov, [.const (.int .i64 0)], none⟩])
 (.block 0 (.loop (.seq (.reg [
 ⟨some 9, .bin .lss, [.tmp 8, .tmp 7], none⟩])
 (.seq (.cond (.tmp 9)
 (.skip)
 (.exit 0))
 (.seq (.block 1 (.seq (.reg [
 ⟨some 10, .mov, [.tmp 8], none⟩,
 ⟨some 5, .mov, [.tmp 10], none⟩])
 (.seq (.reg [
 ⟨some 11, .mov, [.tmp 1], none⟩,
 ⟨some 12, .mov, [.tmp 0], none⟩,
 ⟨some 13, .mov, [.tmp 5], none⟩,
 ⟨some 14, .iaddr 1, [.tmp 12, .tmp 13], none⟩,
 ⟨some 15, .load false 1, [.tmp 14], none⟩,
 ⟨some 16, .bin .eql, [.tmp 11, .tmp 15], none⟩])
 (.cond (.tmp 16)
 (.seq (.reg [
 ⟨some 17, .mov, [.tmp 5], none⟩,
 ⟨some 4, .mov, [.tmp 17], none⟩])
 (.ret))
 (.skip)))))
 (.reg [
 ⟨some 18, .bin .add, [.tmp 8, .const (.int .i64 1)], none⟩,
 ⟨some 8, .mov, [.tmp 18], none⟩])))))))
 (.seq (.reg [
 ⟨some 4, .mov, [.const (.int .i64 (-1))], none⟩])
 (.ret))),
 [.slot 4]⟩
theorem m35_ok : compF Try.prog Try.f35 = some m35 := by kernel_rfl

/-- loop.example/g00099/impl.copyObj -/
def m36 : MF := ⟨33,
 .seq (.reg [
 ⟨some 1, .box 5, [.tmp 0], none⟩,
 ⟨some 2, .alloc [.int .i64 0, .int .i64 0, .string ⟨#[]⟩, .slice none 0 0, .slice none 0 0] 5, [], none⟩])
 (.seq (.draw [
 (⟨some 6, .faddr 0, [.tmp 1], none⟩, []),
 (⟨some 8, .faddr 1, [.tmp 1], none⟩, []),
 (⟨some 10, .faddr 2, [.tmp 1], none⟩, []),
 (⟨some 13, .faddr 3, [.tmp 1], none⟩, []),
 (⟨some 7, .load false 1, [.tmp 6], none⟩, []),
 (⟨some 9, .load false 1, [.tmp 8], none⟩, []),
 (⟨some 11, .load false 1, [.tmp 10], none⟩, []),
 (⟨some 14, .load false 1, [.tmp 13], none⟩, []),
 (⟨some 12, .blds 1 0 [] [], [], none⟩, []),
 (⟨some 15, .app 1 16, [.tmp 12, .tmp 14], none⟩, [⟨some 7, .load false 1, [.tmp 6], none⟩, ⟨some 9, .load false 1, [.tmp 8], none⟩, ⟨some 11, .load false 1, [.tmp 10], none⟩]),
 (⟨some 16, .bld [.int .i64 0, .int .i64 0, .string ⟨#[]⟩, .slice none 0 0, .slice none 0 0] [(0, 1), (1, 1), (2, 1), (3, 1)], [.tmp 7, .tmp 9, .tmp 11, .tmp 15], none⟩, []),
 (⟨some 3, .alloc [.int .i64 0, .int .i64 0, .string ⟨#[]⟩, .slice none 0 0, .slice none 0 0] 5, [], none⟩, []),
 (⟨none, .store 5, [.tmp 3, .tmp 16], none⟩, [])])
 (.seq (.seq (.reg [
 ⟨some 17, .faddr 4, [.tmp 1], none⟩,
 ⟨some 18, .load false 1, [.tmp 17], none⟩,
 ⟨some 19, .lenL, [.tmp 18], none⟩,
 ⟨some 20, .mov, [.const (.int .i64 0)], none⟩])
 (.block 0 (.loop (.seq (.reg [
 ⟨some 21, .bin .lss, [.tmp 20, .tmp 19], none⟩])
 (.seq (.cond (.tmp 21)
 (.skip)
 (.exit 0))
 (.seq (.block 1 (.seq (.reg [
 ⟨some 22, .iaddr 5, [.tmp 18, .tmp 20], none⟩,
 ⟨some 23, .load true 5, [.tmp 22], none⟩,
 ⟨some 5, .alloc [.int .i64 0, .int .i64 0, .string ⟨#[]⟩, .slice none 0 0, .slice none 0 0] 5, [], none⟩,
 ⟨none, .store 5, [.tmp 5, .tmp 23], none⟩])
 (.draw [
 (⟨some 24, .faddr 4, [.tmp 3], none⟩, []),
 (⟨some 25, .load false 1, [.tmp 24], none⟩, []),
 (⟨some 26, .load true 5, [.tmp 5], none⟩, []),
 (⟨some 27, .call 36, [.tmp 26], none⟩, [⟨some 25, .load false 1, [.tmp 24], none⟩]),
 (⟨some 28, .blds 5 1 [.int .i64 0, .int .i64 0, .string ⟨#[]⟩, .slice none 0 0, .slice none 0 0] [(0, 5)], [.tmp 27], none⟩, []),
 (⟨some 29, .app 5 80, [.tmp 25, .tmp 28], none⟩, []),
 (⟨some 30, .faddr 4, [.tmp 3], none⟩, []),
 (⟨none, .store 1, [.tmp 30, .tmp 29], none⟩, [])])))
 (.reg [
 ⟨some 31, .bin .add, [.tmp 20, .const (.int .i64 1)], none⟩,
 ⟨some 20, .mov, [.tmp 31], none⟩])))))))
 (.seq (.reg [
 ⟨some 32, .load true 5, [.tmp 3], none⟩,
 ⟨none, .store 5, [.tmp 2, .tmp 32], none⟩])
 (.ret)))),
 [.cell 2 true 5]⟩
theorem m36_ok : compF Try.prog Try.f36 = some m36 := by kernel_rfl

/-- loop.example/g00099/laws.eqStringS -/
def m37 : MF := ⟨26,
 .seq (.reg [
 ⟨some 4, .mov, [.const (.bool false)], none⟩])
 (.seq (.seq (.reg [
 ⟨some 6, .mov, [.tmp 0], none⟩,
 ⟨some 7, .lenL, [.tmp 6], none⟩,
 ⟨some 8, .mov, [.tmp 1], none⟩,
 ⟨some 9, .lenL, [.tmp 8], none⟩,
 ⟨some 10, .bin .neq, [.tmp 7, .tmp 9], none⟩])
 (.cond (.tmp 10)
 (.seq (.reg [
 ⟨some 4, .mov, [.const (.bool false)], none⟩])
 (.ret))
 (.skip)))
 (.seq (.seq (.reg [
 ⟨some 5, .mov, [.const (.int .i64 0)], none⟩])
 (.block 0 (.loop (.seq (.seq (.reg [
 ⟨some 11, .mov, [.tmp 5], none⟩,
 ⟨some 12, .mov, [.tmp 0], none⟩,
 ⟨some 13, .lenL, [.tmp 12], none⟩,
 ⟨some 14, .bin .lss, [.tmp 11, .tmp 13], none⟩])
 (.cond (.tmp 14)
 (.skip)
 (.exit 0)))
 (.seq (.block 1 (.seq (.draw [
 (⟨some 17, .mov, [.tmp 0], none⟩, []),
 (⟨some 18, .mov, [.tmp 5], none⟩, []),
 (⟨some 19, .iaddr 1, [.tmp 17, .tmp 18], none⟩, []),
 (⟨some 21, .mov, [.tmp 1], none⟩, []),
 (⟨some 22, .mov, [.tmp 5], none⟩, []),
 (⟨some 23, .iaddr 1, [.tmp 21, .tmp 22], none⟩, []),
 (⟨some 20, .load false 1, [.tmp 19], none⟩, []),
 (⟨some 24, .load false 1, [.tmp 23], none⟩, []),
 (⟨some 25, .bin .neq, [.tmp 20, .tmp 24], none⟩, [])])
 (.cond (.tmp 25)
 (.seq (.reg [
 ⟨some 4, .mov, [.const (.bool false)], none⟩])
 (.ret))
 (.skip))))
 (.reg [
 ⟨some 15, .mov, [.tmp 5], none⟩,
 ⟨some 16, .bin .add, [.tmp 15, .const (.int .i64 1)], none⟩,
 ⟨some 5, .mov, [.tmp 16], none⟩]))))))
 (.seq (.reg [
 ⟨some 4, .mov, [.const (.bool true)], none⟩])
 (.ret)))),
 [.slot 4]⟩
theorem m37_ok : compF Try.prog Try.f37 = some m37 := by kernel_rfl

/-- loop.example/g00099/laws.eqObjS -/
def m38 : MF := ⟨27,
 .seq (.reg [
 ⟨some 4, .mov, [.const (.bool false)], none⟩])
 (.seq (.seq (.reg [
 ⟨some 6, .mov, [.tmp 0], none⟩,
 ⟨some 7, .lenL, [.tmp 6], none⟩,
 ⟨some 8, .mov, [.tmp 1], none⟩,
 ⟨some 9, .lenL, [.tmp 8], none⟩,
 ⟨some 10, .bin .neq, [.tmp 7, .tmp 9], none⟩])
 (.cond (.tmp 10)
 (.seq (.reg [
 ⟨some 4, .mov, [.const (.bool false)], none⟩])
 (.ret))
 (.skip)))
 (.seq (.seq (.reg [
 ⟨some 5, .mov, [.const (.int .i64 0)], none⟩])
 (.block 0 (.loop (.seq (.seq (.reg [
 ⟨some 11, .mov, [.tmp 5], none⟩,
 ⟨some 12, .mov, [.tmp 0], none⟩,
 ⟨some 13, .lenL, [.tmp 12], none⟩,
 ⟨some 14, .bin .lss, [.tmp 11, .tmp 13], none⟩])
 (.cond (.tmp 14)
 (.skip)
 (.exit 0)))
 (.seq (.block 1 (.seq (.draw [
 (⟨some 17, .mov, [.tmp 0], none⟩, []),
 (⟨some 18, .mov, [.tmp 5], none⟩, []),
 (⟨some 19, .iaddr 5, [.tmp 17, .tmp 18], none⟩, []),
 (⟨some 21, .mov, [.tmp 1], none⟩, []),
 (⟨some 22, .mov, [.tmp 5], none⟩, []),
 (⟨some 23, .iaddr 5, [.tmp 21, .tmp 22], none⟩, []),
 (⟨some 20, .load true 5, [.tmp 19], none⟩, []),
 (⟨some 24, .load true 5, [.tmp 23], none⟩, []),
 (⟨some 25, .call 11, [.tmp 20, .tmp 24], none⟩, []),
 (⟨some 26, .un .not, [.tmp 25], none⟩, [])])
 (.cond (.tmp 26)
 (.seq (.reg [
 ⟨some 4, .mov, [.const (.bool false)], none⟩])
 (.ret))
 (.skip))))
 (.reg [
 ⟨some 15, .mov, [.tmp 5], none⟩,
 ⟨some 16, .bin .add, [.tmp 15, .const (.int .i64 1)], none⟩,
 ⟨some 5, .mov, [.tmp 16], none⟩]))))))
 (.seq (.reg [
 ⟨some 4, .mov, [.const (.bool true)], none⟩])
 (.ret)))),
 [.slot 4]⟩
theorem m38_ok : compF Try.prog Try.f38 = some m38 := by kernel_rfl

/-- loop.example/g00099/laws.markStringS -/
def m39 : MF := ⟨20,
 .seq (.reg [
 ⟨some 4, .mov, [.const (.int .i64 0)], none⟩])
 (.seq (.seq (.reg [
 ⟨some 5, .mov, [.const (.int .i64 0)], none⟩])
 (.block 0 (.loop (.seq (.seq (.reg [
 ⟨some 6, .mov, [.tmp 5], none⟩,
 ⟨some 7, .mov, [.tmp 0], none⟩,
 ⟨some 8, .lenL, [.tmp 7], none⟩,
 ⟨some 9, .bin .lss, [.tmp 6, .tmp 8], none⟩])
 (.cond (.tmp 9)
 (.skip)
 (.exit 0)))
 (.seq (.block 1 (.seq (.reg [
 ⟨some 12, .mov, [.tmp 0], none⟩,
 ⟨some 13, .mov, [.tmp 5], none⟩,
 ⟨some 14, .mov, [.tmp 1], none⟩,
 ⟨some 15, .call 67, [.tmp 14], none⟩,
 ⟨some 16, .iaddr 1, [.tmp 12, .tmp 13], none⟩,
 ⟨none, .store 1, [.tmp 16, .tmp 15], none⟩])
 (.reg [
 ⟨some 17, .mov, [.tmp 1], none⟩,
 ⟨some 18, .bin .add, [.tmp 17, .const (.int .i64 1)], none⟩,
 ⟨some 1, .mov, [.tmp 18], none⟩])))
 (.reg [
 ⟨some 10, .mov, [.tmp 5], none⟩,
 ⟨some 11, .bin .add, [.tmp 10, .const (.int .i64 1)], none⟩,
 ⟨some 5, .mov, [.tmp 11], none⟩]))))))
 (.seq (.reg [
 ⟨some 19, .mov, [.tmp 1], none⟩,
 ⟨some 4, .mov, [.tmp 19], none⟩])
 (.ret))),
 [.slot 4]⟩
theorem m39_ok : compF Try.prog Try.f39 = some m39 := by kernel_rfl

/-- loop.example/g00099/laws.markObjS -/
def m40 : MF := ⟨49,
 .seq (.reg [
 ⟨some 4, .mov, [.const (.int .i64 0)], none⟩])
 (.seq (.seq (.reg [
 ⟨some 5, .mov, [.const (.int .i64 0)], none⟩])
 (.block 0 (.loop (.seq (.seq (.reg [
 ⟨some 6, .mov, [.tmp 5], none⟩,
 ⟨some 7, .mov, [.tmp 0], none⟩,
 ⟨some 8, .lenL, [.tmp 7], none⟩,
 ⟨some 9, .bin .lss, [.tmp 6, .tmp 8], none⟩])
 (.cond (.tmp 9)
 (.skip)
 (.exit 0)))
 (.seq (.block 1 (.seq (.reg [
 ⟨some 12, .mov, [.tmp 0], none⟩,
 ⟨some 13, .mov, [.tmp 5], none⟩,
 ⟨some 14, .mov, [.tmp 1], none⟩,
 ⟨some 15, .iaddr 5, [.tmp 12, .tmp 13], none⟩,
 ⟨some 16, .faddr 0, [.tmp 15], none⟩,
 ⟨none, .store 1, [.tmp 16, .tmp 14], none⟩])
 (.seq (.reg [
 ⟨some 17, .mov, [.tmp 1], none⟩,
 ⟨some 18, .bin .add, [.tmp 17, .const (.int .i64 1)], none⟩,
 ⟨some 1, .mov, [.tmp 18], none⟩])
 (.seq (.reg [
 ⟨some 19, .mov, [.tmp 0], none⟩,
 ⟨some 20, .mov, [.tmp 5], none⟩,
 ⟨some 21, .mov, [.tmp 1], none⟩,
 ⟨some 22, .iaddr 5, [.tmp 19, .tmp 20], none⟩,
 ⟨some 23, .faddr 1, [.tmp 22], none⟩,
 ⟨none, .store 1, [.tmp 23, .tmp 21], none⟩])
 (.seq (.reg [
 ⟨some 24, .mov, [.tmp 1], none⟩,
 ⟨some 25, .bin .add, [.tmp 24, .const (.int .i64 1)], none⟩,
 ⟨some 1, .mov, [.tmp 25], none⟩])
 (.seq (.reg [
 ⟨some 26, .mov, [.tmp 0], none⟩,
 ⟨some 27, .mov, [.tmp 5], none⟩,
 ⟨some 28, .mov, [.tmp 1], none⟩,
 ⟨some 29, .call 67, [.tmp 28], none⟩,
 ⟨some 30, .iaddr 5, [.tmp 26, .tmp 27], none⟩,
 ⟨some 31, .faddr 2, [.tmp 30], none⟩,
 ⟨none, .store 1, [.tmp 31, .tmp 29], none⟩])
 (.seq (.reg [
 ⟨some 32, .mov, [.tmp 1], none⟩,
 ⟨some 33, .bin .add, [.tmp 32, .const (.int .i64 1)], none⟩,
 ⟨some 1, .mov, [.tmp 33], none⟩])
 (.seq (.reg [
 ⟨some 34, .mov, [.tmp 0], none⟩,
 ⟨some 35, .mov, [.tmp 5], none⟩,
 ⟨some 36, .iaddr 5, [.tmp 34, .tmp 35], none⟩,
 ⟨some 37, .faddr 3, [.tmp 36], none⟩,
 ⟨some 38, .load false 1, [.tmp 37], none⟩,
 ⟨some 39, .mov, [.tmp 1], none⟩,
 ⟨some 40, .call 39, [.tmp 38, .tmp 39], none⟩,
 ⟨some 1, .mov, [.tmp 40], none⟩])
 (.reg [
 ⟨some 41, .mov, [.tmp 0], none⟩,
 ⟨some 42, .mov, [.tmp 5], none⟩,
 ⟨some 43, .iaddr 5, [.tmp 41, .tmp 42], none⟩,
 ⟨some 44, .faddr 4, [.tmp 43], none⟩,
 ⟨some 45, .load false 1, [.tmp 44], none⟩,
 ⟨some 46, .mov, [.tmp 1], none⟩,
 ⟨some 47, .call 40, [.tmp 45, .tmp 46], none⟩,
 ⟨some 1, .mov, [.tmp 47], none⟩])))))))))
 (.reg [
 ⟨some 10, .mov, [.tmp 5], none⟩,
 ⟨some 11, .bin .add, [.tmp 10, .const (.int .i64 1)], none⟩,
 ⟨some 5, .mov, [.tmp 11], none⟩]))))))
 (.seq (.reg [
 ⟨some 48, .mov, [.tmp 1], none⟩,
 ⟨some 4, .mov, [.tmp 48], none⟩])
 (.ret))),
 [.slot 4]⟩
theorem m40_ok : compF Try.prog Try.f40 = some m40 := by kernel_rfl

/-- loop.example/g00099/laws.heldStringS -/
def m41 : MF := ⟨22,
 .seq (.reg [
 ⟨some 4, .mov, [.const (.int .i64 0)], none⟩])
 (.seq (.seq (.reg [
 ⟨some 5, .mov, [.const (.int .i64 0)], none⟩])
 (.block 0 (.loop (.seq (.seq (.reg [
 ⟨some 6, .mov, [.tmp 5], none⟩,
 ⟨some 7, .mov, [.tmp 0], none⟩,
 ⟨some 8, .lenL, [.tmp 7], none⟩,
 ⟨some 9, .bin .lss, [.tmp 6, .tmp 8], none⟩])
 (.cond (.tmp 9)
 (.skip)
 (.exit 0)))
 (.seq (.block 1 (.seq (.seq (.draw [
 (⟨some 12, .mov, [.tmp 0], none⟩, []),
 (⟨some 13, .mov, [.tmp 5], none⟩, []),
 (⟨some 14, .iaddr 1, [.tmp 12, .tmp 13], none⟩, []),
 (⟨some 16, .mov, [.tmp 1], none⟩, []),
 (⟨some 15, .load false 1, [.tmp 14], none⟩, []),
 (⟨some 17, .call 67, [.tmp 16], none⟩, [⟨some 15, .load false 1, [.tmp 14], none⟩]),
 (⟨some 18, .bin .neq, [.tmp 15, .tmp 17], none⟩, [])])
 (.cond (.tmp 18)
 (.seq (.reg [
 ⟨some 4, .mov, [.const (.int .i64 (-1))], none⟩])
 (.ret))
 (.skip)))
 (.reg [
 ⟨some 19, .mov, [.tmp 1], none⟩,
 ⟨some 20, .bin .add, [.tmp 19, .const (.int .i64 1)], none⟩,
 ⟨some 1, .mov, [.tmp 20], none⟩])))
 (.reg [
 ⟨some 10, .mov, [.tmp 5], none⟩,
 ⟨some 11, .bin .add, [.tmp 10, .const (.int .i64 1)], none⟩,
 ⟨some 5, .mov, [.tmp 11], none⟩]))))))
 (.seq (.reg [
 ⟨some 21, .mov, [.tmp 1], none⟩,
 ⟨some 4, .mov, [.tmp 21], none⟩])
 (.ret))),
 [.slot 4]⟩
theorem m41_ok : compF Try.prog Try.f41 = some m41 := by kernel_rfl

/-- loop.example/g00099/laws.heldObjS -/
def m42 : MF := ⟨59,
 .seq (.reg [
 ⟨some 4, .mov, [.const (.int .i64 0)], none⟩])
 (.seq (.seq (.reg [
 ⟨some 5, .mov, [.const (.int .i64 0)], none⟩])
 (.block 0 (.loop (.seq (.seq (.reg [
 ⟨some 6, .mov, [.tmp 5], none⟩,
 ⟨some 7, .mov, [.tmp 0], none⟩,
 ⟨some 8, .lenL, [.tmp 7], none⟩,
 ⟨some 9, .bin .lss, [.tmp 6, .tmp 8], none⟩])
 (.cond (.tmp 9)
 (.skip)
 (.exit 0)))
 (.seq (.block 1 (.seq (.seq (.reg [
 ⟨some 12, .mov, [.tmp 0], none⟩,
 ⟨some 13, .mov, [.tmp 5], none⟩,
 ⟨some 14, .iaddr 5, [.tmp 12, .tmp 13], none⟩,
 ⟨some 15, .faddr 0, [.tmp 14], none⟩,
 ⟨some 16, .load false 1, [.tmp 15], none⟩,
 ⟨some 17, .mov, [.tmp 1], none⟩,
 ⟨some 18, .bin .neq, [.tmp 16, .tmp 17], none⟩])
 (.cond (.tmp 18)
 (.seq (.reg [
 ⟨some 4, .mov, [.const (.int .i64 (-1))], none⟩])
 (.ret))
 (.skip)))
 (.seq (.reg [
 ⟨some 19, .mov, [.tmp 1], none⟩,
 ⟨some 20, .bin .add, [.tmp 19, .const (.int .i64 1)], none⟩,
 ⟨some 1, .mov, [.tmp 20], none⟩])
 (.seq (.seq (.reg [
 ⟨some 21, .mov, [.tmp 0], none⟩,
 ⟨some 22, .mov, [.tmp 5], none⟩,
 ⟨some 23, .iaddr 5, [.tmp 21, .tmp 22], none⟩,
 ⟨some 24, .faddr 1, [.tmp 23], none⟩,
 ⟨some 25, .load false 1, [.tmp 24], none⟩,
 ⟨some 26, .mov, [.tmp 1], none⟩,
 ⟨some 27, .bin .neq, [.tmp 25, .tmp 26], none⟩])
 (.cond (.tmp 27)
 (.seq (.reg [
 ⟨some 4, .mov, [.const (.int .i64 (-1))], none⟩])
 (.ret))
 (.skip)))
 (.seq (.reg [
 ⟨some 28, .mov, [.tmp 1], none⟩,
 ⟨some 29, .bin .add, [.tmp 28, .const (.int .i64 1)], none⟩,
 ⟨some 1, .mov, [.tmp 29], none⟩])
 (.seq (.seq (.draw [
 (⟨some 30, .mov, [.tmp 0], none⟩, []),
 (⟨some 31, .mov, [.tmp 5], none⟩, []),
 (⟨some 32, .iaddr 5, [.tmp 30, .tmp 31], none⟩, []),
 (⟨some 33, .faddr 2, [.tmp 32], none⟩, []),
 (⟨some 35, .mov, [.tmp 1], none⟩, []),
 (⟨some 34, .load false 1, [.tmp 33], none⟩, []),
 (⟨some 36, .call 67, [.tmp 35], none⟩, [⟨some 34, .load false 1, [.tmp 33], none⟩]),
 (⟨some 37, .bin .neq, [.tmp 34, .tmp 36], none⟩, [])])
 (.cond (.tmp 37)
 (.seq (.reg [
 ⟨some 4, .mov, [.const (.int .i64 (-1))], none⟩])
 (.ret))
 (.skip)))
 (.seq (.reg [
 ⟨some 38, .mov, [.tmp 1], none⟩,
 ⟨some 39, .bin .add, [.tmp 38, .const (.int .i64 1)], none⟩,
 ⟨some 1, .mov, [.tmp 39], none⟩])
 (.seq (.reg [
 ⟨some 40, .mov, [.tmp 0], none⟩,
 ⟨some 41, .mov, [.tmp 5], none⟩,
 ⟨some 42, .iaddr 5, [.tmp 40, .tmp 41], none⟩,
 ⟨some 43, .faddr 3, [.tmp 42], none⟩,
 ⟨some 44, .load false 1, [.tmp 43], none⟩,
 ⟨some 45, .mov, [.tmp 1], none⟩,
 ⟨some 46, .call 41, [.tmp 44, .tmp 45], none⟩,
 ⟨some 1, .mov, [.tmp 46], none⟩])
 (.seq (.seq (.reg [
 ⟨some 47, .mov, [.tmp 1], none⟩,
 ⟨some 48, .bin .lss, [.tmp 47, .const (.int .i64 0)], none⟩])
 (.cond (.tmp 48)
 (.seq (.reg [
 ⟨some 4, .mov, [.const (.int .i64 (-1))], none⟩])
 (.ret))
 (.skip)))
 (.seq (.reg [
 ⟨some 49, .mov, [.tmp 0], none⟩,
 ⟨some 50, .mov, [.tmp 5], none⟩,
 ⟨some 51, .iaddr 5, [.tmp 49, .tmp 50], none⟩,
 ⟨some 52, .faddr 4, [.tmp 51], none⟩,
 ⟨some 53, .load false 1, [.tmp 52], none⟩,
 ⟨some 54, .mov, [.tmp 1], none⟩,
 ⟨some 55, .call 42, [.tmp 53, .tmp 54], none⟩,
 ⟨some 1, .mov, [.tmp 55], none⟩])
 (.seq (.reg [
 ⟨some 56, .mov, [.tmp 1], none⟩,
 ⟨some 57, .bin .lss, [.tmp 56, .const (.int .i64 0)], none⟩])
 (.cond (.tmp 57)
 (.seq (.reg [
 ⟨some 4, .mov, [.const (.int .i64 (-1))], none⟩])
 (.ret))
 (.skip)))))))))))))
 (.reg [
 ⟨some 10, .mov, [.tmp 5], none⟩,
 ⟨some 11, .bin .add, [.tmp 10, .const (.int .i64 1)], none⟩,
 ⟨some 5, .mov, [.tmp 11], none⟩]))))))
 (.seq (.reg [
 ⟨some 58, .mov, [.tmp 1], none⟩,
 ⟨some 4, .mov, [.tmp 58], none⟩])
 (.ret))),
 [.slot 4]⟩
theorem m42_ok : compF Try.prog Try.f42 = some m42 := by kernel_rfl

/-- loop.example/g00099/laws.markText -/
def m67 : MF := ⟨20,
 .seq (.reg [
 ⟨some 2, .mov, [.const (.string ⟨#[]⟩)], none⟩])
 (.seq (.seq (.reg [
 ⟨some 4, .mov, [.tmp 0], none⟩,
 ⟨some 5, .bin .leq, [.tmp 4, .const (.int .i64 0)], none⟩])
 (.cond (.tmp 5)
 (.seq (.reg [
 ⟨some 2, .mov, [.const (.string ⟨#[109, 48]⟩)], none⟩])
 (.ret))
 (.skip)))
 (.seq (.reg [
 ⟨some 3, .mov, [.const (.string ⟨#[]⟩)], none⟩])
 (.seq (.block 0 (.loop (.seq (.seq (.reg [
 ⟨some 6, .mov, [.tmp 0], none⟩,
 ⟨some 7, .bin .gtr, [.tmp 6, .const (.int .i64 0)], none⟩])
 (.cond (.tmp 7)
 (.skip)
 (.exit 0)))
 (.block 1 (.seq (.reg [
 ⟨some 8, .mov, [.tmp 0], none⟩,
 ⟨some 9, .bin .rem, [.tmp 8, .const (.int .i64 10)], none⟩,
 ⟨some 10, .bin .add, [.const (.int .i64 48), .tmp 9], none⟩,
 ⟨some 11, .convI .u8, [.tmp 10], none⟩,
 ⟨some 12, .blds 1 1 [.int .u8 0] [(0, 1)], [.tmp 11], none⟩,
 ⟨some 13, .b2s, [.tmp 12], none⟩,
 ⟨some 14, .mov, [.tmp 3], none⟩,
 ⟨some 15, .bin .add, [.tmp 13, .tmp 14], none⟩,
 ⟨some 3, .mov, [.tmp 15], none⟩])
 (.reg [
 ⟨some 16, .mov, [.tmp 0], none⟩,
 ⟨some 17, .bin .quo, [.tmp 16, .const (.int .i64 10)], none⟩,
 ⟨some 0, .mov, [.tmp 17], none⟩]))))))
 (.seq (.reg [
 ⟨some 18, .mov, [.tmp 3], none⟩,
 ⟨some 19, .bin .add, [.const (.string ⟨#[109]⟩), .tmp 18], none⟩,
 ⟨some 2, .mov, [.tmp 19], none⟩])
 (.ret))))),
 [.slot 2]⟩
theorem m67_ok : compF Try.prog Try.f67 = some m67 := by kernel_rfl

/-- loop.example/g00099/laws.FnExactEntry -/
def m3 : MF := ⟨104,
 .seq (.reg [
 ⟨some 2, .box 5, [.tmp 0], none⟩,
 ⟨some 4, .mov, [.const (.bool false)], none⟩])
 (.seq (.seq (.reg [
 ⟨some 16, .mov, [.tmp 1], none⟩,
 ⟨some 17, .lenS, [.tmp 16], none⟩,
 ⟨some 18, .bin .gtr, [.tmp 17, .const (.int .i64 1048576)], none⟩])
 (.cond (.tmp 18)
 (.seq (.reg [
 ⟨some 4, .mov, [.const (.bool true)], none⟩])
 (.ret))
 (.skip)))
 (.seq (.reg [
 ⟨some 5, .mov, [.const (.int .i64 1048576)], none⟩])
 (.seq (.reg [
 ⟨some 19, .load true 5, [.tmp 2], none⟩,
 ⟨some 20, .mov, [.tmp 5], none⟩,
 ⟨some 21, .call 7, [.tmp 19, .tmp 20], none⟩,
 ⟨some 5, .mov, [.tmp 21], none⟩])
 (.seq (.seq (.reg [
 ⟨some 22, .mov, [.tmp 5], none⟩,
 ⟨some 23, .bin .lss, [.tmp 22, .const (.int .i64 0)], none⟩])
 (.cond (.tmp 23)
 (.seq (.reg [
 ⟨some 4, .mov, [.const (.bool true)], none⟩])
 (.ret))
 (.skip)))
 (.seq (.reg [
 ⟨some 25, .load true 5, [.tmp 2], none⟩,
 ⟨some 26, .call 9, [.tmp 25], none⟩,
 ⟨some 27, .mov, [.tmp 1], none⟩,
 ⟨some 28, .call 8, [.tmp 26, .tmp 27], none⟩,
 ⟨some 24, .mov, [.tmp 28], none⟩,
 ⟨some 29, .ext 0, [.tmp 24], none⟩,
 ⟨some 30, .ext 1, [.tmp 24], none⟩,
 ⟨some 6, .alloc [.int .i64 0, .int .i64 0, .string ⟨#[]⟩, .slice none 0 0, .slice none 0 0] 5, [], none⟩,
 ⟨none, .store 5, [.tmp 6, .tmp 29], none⟩,
 ⟨some 7, .mov, [.tmp 30], none⟩])
 (.seq (.reg [
 ⟨some 31, .load true 5, [.tmp 2], none⟩,
 ⟨some 32, .call 9, [.tmp 31], none⟩,
 ⟨some 8, .alloc [.int .i64 0, .int .i64 0, .string ⟨#[]⟩, .slice none 0 0, .slice none 0 0] 5, [], none⟩,
 ⟨none, .store 5, [.tmp 8, .tmp 32], none⟩])
 (.seq (.reg [
 ⟨some 34, .load true 5, [.tmp 8], none⟩,
 ⟨some 35, .mov, [.tmp 1], none⟩,
 ⟨some 36, .call 10, [.tmp 34, .tmp 35], none⟩,
 ⟨some 33, .mov, [.tmp 36], none⟩,
 ⟨some 37, .ext 0, [.tmp 33], none⟩,
 ⟨some 38, .ext 1, [.tmp 33], none⟩,
 ⟨some 9, .alloc [.int .i64 0, .int .i64 0, .string ⟨#[]⟩, .slice none 0 0, .slice none 0 0] 5, [], none⟩,
 ⟨none, .store 5, [.tmp 9, .tmp 37], none⟩,
 ⟨some 10, .mov, [.tmp 38], none⟩])
 (.seq (.seq (.reg [
 ⟨some 39, .load true 5, [.tmp 9], none⟩,
 ⟨some 40, .load true 5, [.tmp 6], none⟩,
 ⟨some 41, .call 11, [.tmp 39, .tmp 40], none⟩,
 ⟨some 42, .un .not, [.tmp 41], none⟩,
 ⟨some 43, .mov, [.tmp 42], none⟩,
 ⟨some 44, .mov, [.tmp 10], some (43, false)⟩,
 ⟨some 45, .mov, [.tmp 7], some (43, false)⟩,
 ⟨some 46, .eqB true, [.tmp 44, .tmp 45], some (43, false)⟩,
 ⟨some 47, .pick, [.tmp 43, .const (.bool true), .tmp 46], none⟩])
 (.cond (.tmp 47)
 (.seq (.reg [
 ⟨some 4, .mov, [.const (.bool false)], none⟩])
 (.ret))
 (.skip)))
 (.seq (.seq (.draw [
 (⟨some 48, .load true 5, [.tmp 8], none⟩, []),
 (⟨some 49, .load true 5, [.tmp 2], none⟩, []),
 (⟨some 50, .call 9, [.tmp 49], none⟩, [⟨some 48, .load true 5, [.tmp 8], none⟩]),
 (⟨some 51, .call 11, [.tmp 48, .tmp 50], none⟩, []),
 (⟨some 52, .un .not, [.tmp 51], none⟩, [])])
 (.cond (.tmp 52)
 (.seq (.reg [
 ⟨some 4, .mov, [.const (.bool false)], none⟩])
 (.ret))
 (.skip)))
 (.seq (.reg [
 ⟨some 11, .mov, [.const (.int .i64 1)], none⟩])
 (.seq (.reg [
 ⟨some 53, .load true 5, [.tmp 8], none⟩,
 ⟨some 54, .mov, [.tmp 11], none⟩,
 ⟨some 55, .call 12, [.tmp 53, .tmp 54], none⟩,
 ⟨some 11, .mov, [.tmp 55], none⟩])
 (.seq (.seq (.reg [
 ⟨some 56, .mov, [.tmp 11], none⟩,
 ⟨some 57, .bin .lss, [.tmp 56, .const (.int .i64 0)], none⟩,
 ⟨some 58, .mov, [.tmp 57], none⟩,
 ⟨some 59, .load true 5, [.tmp 9], some (58, false)⟩,
 ⟨some 60, .load true 5, [.tmp 6], some (58, false)⟩,
 ⟨some 61, .call 11, [.tmp 59, .tmp 60], some (58, false)⟩,
 ⟨some 62, .un .not, [.tmp 61], some (58, false)⟩,
 ⟨some 63, .pick, [.tmp 58, .const (.bool true), .tmp 62], none⟩,
 ⟨some 64, .mov, [.tmp 63], none⟩,
 ⟨some 65, .mov, [.tmp 10], some (64, false)⟩,
 ⟨some 66, .mov, [.tmp 7], some (64, false)⟩,
 ⟨some 67, .eqB true, [.tmp 65, .tmp 66], some (64, false)⟩,
 ⟨some 68, .pick, [.tmp 64, .const (.bool true), .tmp 67], none⟩])
 (.cond (.tmp 68)
 (.seq (.reg [
 ⟨some 4, .mov, [.const (.bool false)], none⟩])
 (.ret))
 (.skip)))
 (.seq (.reg [
 ⟨some 12, .mov, [.const (.int .i64 1)], none⟩])
 (.seq (.reg [
 ⟨some 69, .load true 5, [.tmp 9], none⟩,
 ⟨some 70, .mov, [.tmp 12], none⟩,
 ⟨some 71, .call 12, [.tmp 69, .tmp 70], none⟩,
 ⟨some 12, .mov, [.tmp 71], none⟩])
 (.seq (.reg [
 ⟨some 13, .mov, [.const (.int .i64 1)], none⟩])
 (.seq (.reg [
 ⟨some 72, .load true 5, [.tmp 9], none⟩,
 ⟨some 73, .mov, [.tmp 13], none⟩,
 ⟨some 74, .call 13, [.tmp 72, .tmp 73], none⟩,
 ⟨some 13, .mov, [.tmp 74], none⟩])
 (.seq (.seq (.reg [
 ⟨some 75, .mov, [.tmp 13], none⟩,
 ⟨some 76, .bin .lss, [.tmp 75, .const (.int .i64 0)], none⟩])
 (.cond (.tmp 76)
 (.seq (.reg [
 ⟨some 4, .mov, [.const (.bool false)], none⟩])
 (.ret))
 (.skip)))
 (.seq (.seq (.reg [
 ⟨some 77, .mov, [.tmp 13], none⟩,
 ⟨some 78, .mov, [.tmp 12], none⟩,
 ⟨some 79, .bin .neq, [.tmp 77, .tmp 78], none⟩])
 (.cond (.tmp 79)
 (.seq (.reg [
 ⟨some 4, .mov, [.const (.bool false)], none⟩])
 (.ret))
 (.skip)))
 (.seq (.reg [
 ⟨some 81, .load true 5, [.tmp 2], none⟩,
 ⟨some 82, .call 9, [.tmp 81], none⟩,
 ⟨some 83, .mov, [.tmp 1], none⟩,
 ⟨some 84, .call 10, [.tmp 82, .tmp 83], none⟩,
 ⟨some 80, .mov, [.tmp 84], none⟩,
 ⟨some 85, .ext 0, [.tmp 80], none⟩,
 ⟨some 86, .ext 1, [.tmp 80], none⟩,
 ⟨some 14, .alloc [.int .i64 0, .int .i64 0, .string ⟨#[]⟩, .slice none 0 0, .slice none 0 0] 5, [], none⟩,
 ⟨none, .store 5, [.tmp 14, .tmp 85], none⟩,
 ⟨some 15, .mov, [.tmp 86], none⟩])
 (.seq (.seq (.reg [
 ⟨some 87, .load true 5, [.tmp 14], none⟩,
 ⟨some 88, .load true 5, [.tmp 6], none⟩,
 ⟨some 89, .call 11, [.tmp 87, .tmp 88], none⟩,
 ⟨some 90, .un .not, [.tmp 89], none⟩,
 ⟨some 91, .mov, [.tmp 90], none⟩,
 ⟨some 92, .mov, [.tmp 15], some (91, false)⟩,
 ⟨some 93, .mov, [.tmp 7], some (91, false)⟩,
 ⟨some 94, .eqB true, [.tmp 92, .tmp 93], some (91, false)⟩,
 ⟨some 95, .pick, [.tmp 91, .const (.bool true), .tmp 94], none⟩])
 (.cond (.tmp 95)
 (.seq (.reg [
 ⟨some 4, .mov, [.const (.bool false)], none⟩])
 (.ret))
 (.skip)))
 (.seq (.reg [
 ⟨some 13, .mov, [.const (.int .i64 1)], none⟩])
 (.seq (.reg [
 ⟨some 96, .load true 5, [.tmp 9], none⟩,
 ⟨some 97, .mov, [.tmp 13], none⟩,
 ⟨some 98, .call 13, [.tmp 96, .tmp 97], none⟩,
 ⟨some 13, .mov, [.tmp 98], none⟩])
 (.seq (.seq (.reg [
 ⟨some 99, .mov, [.tmp 13], none⟩,
 ⟨some 100, .bin .lss, [.tmp 99, .const (.int .i64 0)], none⟩])
 (.cond (.tmp 100)
 (.seq (.reg [
 ⟨some 4, .mov, [.const (.bool false)], none⟩])
 (.ret))
 (.skip)))
 (.seq (.seq (.reg [
 ⟨some 101, .mov, [.tmp 13], none⟩,
 ⟨some 102, .mov, [.tmp 12], none⟩,
 ⟨some 103, .bin .neq, [.tmp 101, .tmp 102], none⟩])
 (.cond (.tmp 103)
 (.seq (.reg [
 ⟨some 4, .mov, [.const (.bool false)], none⟩])
 (.ret))
 (.skip)))
 (.seq (.reg [
 ⟨some 4, .mov, [.const (.bool true)], none⟩])
 (.ret)))))))))))))))))))))))))),
 [.slot 4]⟩
theorem m3_ok : compF Try.prog Try.f3 = some m3 := by kernel_rfl

end Go.Proofs.Ytdfmdclfnhgjiaa.Can
