/- What several laws of this seat need, part 3: an abstract machine for the program's code, that it is sound, and what it tells of the layer's functions. -/
import Derived.Test.YtaejgmokgliceaaJ2
/- The sets' layer: the functions' code as the abstract machine looks at it. MADE BY A PROGRAM of this claim (gen.py). -/

namespace Go.Proofs
open Go.Vam
/-- pontoon/pontoonlaw07.SetsTells -/
noncomputable def K3 : AC := .seq (.reg [⟨some 2, none, .assign (.const (.bool false))⟩])
 (.seq (.seq (.reg [⟨some 4, none, .move (.tmp 0)⟩,
  ⟨some 5, none, .call { callee := .value (.func 8), args := #[.tmp 4], argTypes := #[22] }⟩,
  ⟨some 6, none, .unOp .not 4 (.tmp 5)⟩])
 (.cond (.tmp 6) (.seq (.reg [⟨some 7, none, .call { callee := .value (.func 9), args := #[], argTypes := #[] }⟩,
  ⟨some 2, none, .assign (.tmp 7)⟩])
 (.ret)) (.skip)))
 (.seq (.reg [⟨some 8, none, .buildSlice 22 0 #[]⟩,
  ⟨some 9, none, .move (.tmp 0)⟩,
  ⟨some 10, none, .call { callee := .builtin .append, args := #[.tmp 8, .tmp 9], argTypes := #[22, 22] }⟩,
  ⟨some 3, none, .assign (.tmp 10)⟩])
 (.seq (.reg [⟨some 11, none, .move (.tmp 3)⟩,
  ⟨some 12, none, .call { callee := .value (.func 11), args := #[.tmp 11], argTypes := #[22] }⟩,
  ⟨some 13, none, .move (.tmp 0)⟩,
  ⟨some 14, none, .call { callee := .value (.func 12), args := #[.tmp 13], argTypes := #[22] }⟩,
  ⟨some 15, none, .call { callee := .value (.func 10), args := #[.tmp 12, .tmp 14], argTypes := #[26, 26] }⟩,
  ⟨some 16, none, .move (.tmp 15)⟩,
  ⟨some 17, some (16, true), .move (.tmp 3)⟩,
  ⟨some 18, some (16, true), .call { callee := .value (.func 13), args := #[.tmp 17], argTypes := #[22] }⟩,
  ⟨some 19, some (16, true), .move (.tmp 0)⟩,
  ⟨some 20, some (16, true), .call { callee := .value (.func 14), args := #[.tmp 19], argTypes := #[22] }⟩,
  ⟨some 21, some (16, true), .call { callee := .value (.func 10), args := #[.tmp 18, .tmp 20], argTypes := #[26, 26] }⟩,
  ⟨some 22, none, .pick (.tmp 16) (.tmp 21) (.const (.bool false))⟩,
  ⟨some 23, none, .move (.tmp 22)⟩,
  ⟨some 24, some (23, true), .move (.tmp 3)⟩,
  ⟨some 25, some (23, true), .call { callee := .value (.func 16), args := #[.tmp 24], argTypes := #[22] }⟩,
  ⟨some 26, some (23, true), .move (.tmp 0)⟩,
  ⟨some 27, some (23, true), .call { callee := .value (.func 17), args := #[.tmp 26], argTypes := #[22] }⟩,
  ⟨some 28, some (23, true), .call { callee := .value (.func 15), args := #[.tmp 25, .tmp 27], argTypes := #[30, 30] }⟩,
  ⟨some 29, none, .pick (.tmp 23) (.tmp 28) (.const (.bool false))⟩,
  ⟨some 30, none, .move (.tmp 29)⟩,
  ⟨some 31, some (30, true), .move (.tmp 3)⟩,
  ⟨some 32, some (30, true), .move (.tmp 0)⟩,
  ⟨some 33, some (30, true), .call { callee := .value (.func 18), args := #[.tmp 31, .tmp 32, .const (.bool true)], argTypes := #[22, 22, 4] }⟩,
  ⟨some 34, none, .pick (.tmp 30) (.tmp 33) (.const (.bool false))⟩,
  ⟨some 35, none, .move (.tmp 34)⟩,
  ⟨some 36, some (35, true), .call { callee := .value (.func 9), args := #[], argTypes := #[] }⟩,
  ⟨some 37, none, .pick (.tmp 35) (.tmp 36) (.const (.bool false))⟩,
  ⟨some 2, none, .assign (.tmp 37)⟩])
 (.ret))))
theorem k3 : codeAt Try.prog 3 = some (K3, #[.tmp 2], 38) := by kernel_rfl
/-- pontoon/pontoonlaw07.SetsParses -/
noncomputable def K4 : AC := .seq (.reg [⟨some 6, none, .assign (.const (.bool false))⟩])
 (.seq (.seq (.reg [⟨some 11, none, .move (.tmp 0)⟩,
  ⟨some 12, none, .call { callee := .builtin .len, args := #[.tmp 11], argTypes := #[9] }⟩,
  ⟨some 13, none, .binOp .gtr 3 (.tmp 12) (.const (.int .i64 2100)) 3⟩,
  ⟨some 14, none, .move (.tmp 13)⟩,
  ⟨some 15, some (14, false), .move (.tmp 1)⟩,
  ⟨some 16, some (14, false), .call { callee := .builtin .len, args := #[.tmp 15], argTypes := #[26] }⟩,
  ⟨some 17, some (14, false), .binOp .gtr 3 (.tmp 16) (.const (.int .i64 60)) 3⟩,
  ⟨some 18, none, .pick (.tmp 14) (.const (.bool true)) (.tmp 17)⟩,
  ⟨some 19, none, .move (.tmp 18)⟩,
  ⟨some 20, some (19, false), .move (.tmp 2)⟩,
  ⟨some 21, some (19, false), .call { callee := .builtin .len, args := #[.tmp 20], argTypes := #[26] }⟩,
  ⟨some 22, some (19, false), .binOp .gtr 3 (.tmp 21) (.const (.int .i64 60)) 3⟩,
  ⟨some 23, none, .pick (.tmp 19) (.const (.bool true)) (.tmp 22)⟩])
 (.cond (.tmp 23) (.seq (.reg [⟨some 24, none, .call { callee := .value (.func 9), args := #[], argTypes := #[] }⟩,
  ⟨some 6, none, .assign (.tmp 24)⟩])
 (.ret)) (.skip)))
 (.seq (.reg [⟨some 26, none, .move (.tmp 0)⟩,
  ⟨some 27, none, .call { callee := .value (.func 19), args := #[.tmp 26], argTypes := #[9] }⟩,
  ⟨some 25, none, .move (.tmp 27)⟩,
  ⟨some 28, none, .extract (.tmp 25) 0⟩,
  ⟨some 29, none, .extract (.tmp 25) 1⟩,
  ⟨some 7, none, .alloc 30⟩,
  ⟨none, none, .store 30 (.tmp 7) (.tmp 28)⟩,
  ⟨some 8, none, .assign (.tmp 29)⟩])
 (.seq (.reg [⟨some 31, none, .move (.tmp 0)⟩,
  ⟨some 32, none, .call { callee := .value (.func 20), args := #[.tmp 31], argTypes := #[9] }⟩,
  ⟨some 30, none, .move (.tmp 32)⟩,
  ⟨some 33, none, .extract (.tmp 30) 0⟩,
  ⟨some 34, none, .extract (.tmp 30) 1⟩,
  ⟨some 9, none, .alloc 30⟩,
  ⟨none, none, .store 30 (.tmp 9) (.tmp 33)⟩,
  ⟨some 10, none, .assign (.tmp 34)⟩])
 (.seq (.reg [⟨some 35, none, .load 30 (.tmp 7)⟩,
  ⟨some 36, none, .load 30 (.tmp 9)⟩,
  ⟨some 37, none, .call { callee := .value (.func 15), args := #[.tmp 35, .tmp 36], argTypes := #[30, 30] }⟩,
  ⟨some 38, none, .move (.tmp 37)⟩,
  ⟨some 39, some (38, true), .move (.tmp 8)⟩,
  ⟨some 40, some (38, true), .move (.tmp 10)⟩,
  ⟨some 41, some (38, true), .binOp .eql 33 (.tmp 39) (.tmp 40) 33⟩,
  ⟨some 42, none, .pick (.tmp 38) (.tmp 41) (.const (.bool false))⟩,
  ⟨some 43, none, .move (.tmp 42)⟩,
  ⟨some 44, some (43, true), .move (.tmp 1)⟩,
  ⟨some 45, some (43, true), .move (.tmp 2)⟩,
  ⟨some 46, some (43, true), .call { callee := .value (.func 21), args := #[.tmp 44, .tmp 45], argTypes := #[26, 26] }⟩,
  ⟨some 47, some (43, true), .move (.tmp 1)⟩,
  ⟨some 48, some (43, true), .move (.tmp 2)⟩,
  ⟨some 49, some (43, true), .call { callee := .value (.func 22), args := #[.tmp 47, .tmp 48], argTypes := #[26, 26] }⟩,
  ⟨some 50, some (43, true), .binOp .eql 4 (.tmp 46) (.tmp 49) 4⟩,
  ⟨some 51, none, .pick (.tmp 43) (.tmp 50) (.const (.bool false))⟩,
  ⟨some 52, none, .move (.tmp 51)⟩,
  ⟨some 53, some (52, true), .move (.tmp 1)⟩,
  ⟨some 54, some (52, true), .move (.tmp 2)⟩,
  ⟨some 55, some (52, true), .call { callee := .value (.func 21), args := #[.tmp 53, .tmp 54], argTypes := #[26, 26] }⟩,
  ⟨some 56, some (52, true), .move (.tmp 2)⟩,
  ⟨some 57, some (52, true), .move (.tmp 1)⟩,
  ⟨some 58, some (52, true), .call { callee := .value (.func 21), args := #[.tmp 56, .tmp 57], argTypes := #[26, 26] }⟩,
  ⟨some 59, some (52, true), .binOp .eql 4 (.tmp 55) (.tmp 58) 4⟩,
  ⟨some 60, none, .pick (.tmp 52) (.tmp 59) (.const (.bool false))⟩,
  ⟨some 61, none, .move (.tmp 60)⟩,
  ⟨some 62, some (61, true), .call { callee := .value (.func 9), args := #[], argTypes := #[] }⟩,
  ⟨some 63, none, .pick (.tmp 61) (.tmp 62) (.const (.bool false))⟩,
  ⟨some 6, none, .assign (.tmp 63)⟩])
 (.ret)))))
theorem k4 : codeAt Try.prog 4 = some (K4, #[.tmp 6], 64) := by kernel_rfl
/-- pontoon/pontoonlaw07.SetsReads -/
def D5_9 : List (Bool × AOp) := [(false, ⟨some 47, none, .fieldAddr 30 (.tmp 3) 1⟩),
  (false, ⟨some 48, none, .load 26 (.tmp 47)⟩),
  (false, ⟨some 49, none, .move (.tmp 5)⟩),
  (false, ⟨some 50, none, .binOp .sub 3 (.tmp 49) (.const (.int .i64 1)) 3⟩),
  (false, ⟨some 51, none, .indexAddr 26 (.tmp 48) (.tmp 50)⟩),
  (false, ⟨some 52, none, .load 9 (.tmp 51)⟩),
  (false, ⟨some 53, none, .fieldAddr 30 (.tmp 3) 1⟩),
  (false, ⟨some 54, none, .load 26 (.tmp 53)⟩),
  (false, ⟨some 55, none, .move (.tmp 5)⟩),
  (false, ⟨some 56, none, .indexAddr 26 (.tmp 54) (.tmp 55)⟩),
  (false, ⟨some 57, none, .load 9 (.tmp 56)⟩),
  (false, ⟨some 58, none, .call { callee := .value (.func 23), args := #[.tmp 52, .tmp 57], argTypes := #[9, 9] }⟩),
  (false, ⟨some 59, none, .unOp .not 4 (.tmp 58)⟩)]
theorem d5_9 : drawList E.pure 118 (regionOf Try.f5 9) = some D5_9 := by kernel_rfl
@[go_sem] theorem e5_9 (s : Slots) (H : AHeap) (Q : QT) : C (cxV E) (.draw 118 (regionOf Try.f5 9)) s H Q = XD (cxV E) D5_9 s H (Qr Q) := C_draw_eq d5_9 s H Q
noncomputable def L5_0 : AC := .seq (.seq (.reg [⟨some 40, none, .move (.tmp 5)⟩,
  ⟨some 41, none, .fieldAddr 30 (.tmp 3) 1⟩,
  ⟨some 42, none, .load 26 (.tmp 41)⟩,
  ⟨some 43, none, .call { callee := .builtin .len, args := #[.tmp 42], argTypes := #[26] }⟩,
  ⟨some 44, none, .binOp .lss 3 (.tmp 40) (.tmp 43) 3⟩])
 (.cond (.tmp 44) (.skip) (.exit 0)))
 (.seq (.block 1 (.seq (.draw 118 (regionOf Try.f5 9))
 (.cond (.tmp 59) (.seq (.reg [⟨some 2, none, .assign (.const (.bool false))⟩])
 (.ret)) (.skip))))
 (.reg [⟨some 45, none, .move (.tmp 5)⟩,
  ⟨some 46, none, .binOp .add 3 (.tmp 45) (.const (.int .i64 1)) 3⟩,
  ⟨some 5, none, .assign (.tmp 46)⟩]))
def D5_14 : List (Bool × AOp) := [(false, ⟨some 67, none, .fieldAddr 30 (.tmp 3) 2⟩),
  (false, ⟨some 68, none, .load 26 (.tmp 67)⟩),
  (false, ⟨some 69, none, .move (.tmp 6)⟩),
  (false, ⟨some 70, none, .binOp .sub 3 (.tmp 69) (.const (.int .i64 1)) 3⟩),
  (false, ⟨some 71, none, .indexAddr 26 (.tmp 68) (.tmp 70)⟩),
  (false, ⟨some 72, none, .load 9 (.tmp 71)⟩),
  (false, ⟨some 73, none, .fieldAddr 30 (.tmp 3) 2⟩),
  (false, ⟨some 74, none, .load 26 (.tmp 73)⟩),
  (false, ⟨some 75, none, .move (.tmp 6)⟩),
  (false, ⟨some 76, none, .indexAddr 26 (.tmp 74) (.tmp 75)⟩),
  (false, ⟨some 77, none, .load 9 (.tmp 76)⟩),
  (false, ⟨some 78, none, .call { callee := .value (.func 23), args := #[.tmp 72, .tmp 77], argTypes := #[9, 9] }⟩),
  (false, ⟨some 79, none, .unOp .not 4 (.tmp 78)⟩)]
theorem d5_14 : drawList E.pure 118 (regionOf Try.f5 14) = some D5_14 := by kernel_rfl
@[go_sem] theorem e5_14 (s : Slots) (H : AHeap) (Q : QT) : C (cxV E) (.draw 118 (regionOf Try.f5 14)) s H Q = XD (cxV E) D5_14 s H (Qr Q) := C_draw_eq d5_14 s H Q
noncomputable def L5_1 : AC := .seq (.seq (.reg [⟨some 60, none, .move (.tmp 6)⟩,
  ⟨some 61, none, .fieldAddr 30 (.tmp 3) 2⟩,
  ⟨some 62, none, .load 26 (.tmp 61)⟩,
  ⟨some 63, none, .call { callee := .builtin .len, args := #[.tmp 62], argTypes := #[26] }⟩,
  ⟨some 64, none, .binOp .lss 3 (.tmp 60) (.tmp 63) 3⟩])
 (.cond (.tmp 64) (.skip) (.exit 2)))
 (.seq (.block 3 (.seq (.draw 118 (regionOf Try.f5 14))
 (.cond (.tmp 79) (.seq (.reg [⟨some 2, none, .assign (.const (.bool false))⟩])
 (.ret)) (.skip))))
 (.reg [⟨some 65, none, .move (.tmp 6)⟩,
  ⟨some 66, none, .binOp .add 3 (.tmp 65) (.const (.int .i64 1)) 3⟩,
  ⟨some 6, none, .assign (.tmp 66)⟩]))
noncomputable def K5 : AC := .seq (.reg [⟨some 2, none, .assign (.const (.bool false))⟩])
 (.seq (.seq (.reg [⟨some 8, none, .move (.tmp 0)⟩,
  ⟨some 9, none, .call { callee := .builtin .len, args := #[.tmp 8], argTypes := #[9] }⟩,
  ⟨some 10, none, .binOp .gtr 3 (.tmp 9) (.const (.int .i64 2100)) 3⟩])
 (.cond (.tmp 10) (.seq (.reg [⟨some 11, none, .call { callee := .value (.func 9), args := #[], argTypes := #[] }⟩,
  ⟨some 2, none, .assign (.tmp 11)⟩])
 (.ret)) (.skip)))
 (.seq (.reg [⟨some 13, none, .move (.tmp 0)⟩,
  ⟨some 14, none, .call { callee := .value (.func 19), args := #[.tmp 13], argTypes := #[9] }⟩,
  ⟨some 12, none, .move (.tmp 14)⟩,
  ⟨some 15, none, .extract (.tmp 12) 0⟩,
  ⟨some 16, none, .extract (.tmp 12) 1⟩,
  ⟨some 3, none, .alloc 30⟩,
  ⟨none, none, .store 30 (.tmp 3) (.tmp 15)⟩,
  ⟨some 4, none, .assign (.tmp 16)⟩])
 (.seq (.seq (.reg [⟨some 17, none, .move (.tmp 4)⟩,
  ⟨some 18, none, .binOp .neq 33 (.tmp 17) (.const (.int .i64 0)) 33⟩])
 (.cond (.tmp 18) (.seq (.reg [⟨some 19, none, .fieldAddr 30 (.tmp 3) 0⟩,
  ⟨some 20, none, .load 3 (.tmp 19)⟩,
  ⟨some 21, none, .binOp .eql 3 (.tmp 20) (.const (.int .i64 0)) 3⟩,
  ⟨some 22, none, .move (.tmp 21)⟩,
  ⟨some 23, some (22, true), .fieldAddr 30 (.tmp 3) 3⟩,
  ⟨some 24, some (22, true), .load 9 (.tmp 23)⟩,
  ⟨some 25, some (22, true), .binOp .eql 9 (.tmp 24) (.const (.string ⟨⟨[]⟩⟩)) 9⟩,
  ⟨some 26, none, .pick (.tmp 22) (.tmp 25) (.const (.bool false))⟩,
  ⟨some 27, none, .move (.tmp 26)⟩,
  ⟨some 28, some (27, true), .fieldAddr 30 (.tmp 3) 1⟩,
  ⟨some 29, some (27, true), .load 26 (.tmp 28)⟩,
  ⟨some 30, some (27, true), .call { callee := .builtin .len, args := #[.tmp 29], argTypes := #[26] }⟩,
  ⟨some 31, some (27, true), .fieldAddr 30 (.tmp 3) 2⟩,
  ⟨some 32, some (27, true), .load 26 (.tmp 31)⟩,
  ⟨some 33, some (27, true), .call { callee := .builtin .len, args := #[.tmp 32], argTypes := #[26] }⟩,
  ⟨some 34, some (27, true), .binOp .add 3 (.tmp 30) (.tmp 33) 3⟩,
  ⟨some 35, some (27, true), .binOp .eql 3 (.tmp 34) (.const (.int .i64 0)) 3⟩,
  ⟨some 36, none, .pick (.tmp 27) (.tmp 35) (.const (.bool false))⟩,
  ⟨some 37, none, .move (.tmp 36)⟩,
  ⟨some 38, some (37, true), .call { callee := .value (.func 9), args := #[], argTypes := #[] }⟩,
  ⟨some 39, none, .pick (.tmp 37) (.tmp 38) (.const (.bool false))⟩,
  ⟨some 2, none, .assign (.tmp 39)⟩])
 (.ret)) (.skip)))
 (.seq (.seq (.reg [⟨some 5, none, .assign (.const (.int .i64 1))⟩])
 (.block 0 (.loop L5_0)))
 (.seq (.seq (.reg [⟨some 6, none, .assign (.const (.int .i64 1))⟩])
 (.block 2 (.loop L5_1)))
 (.seq (.reg [⟨some 80, none, .fieldAddr 30 (.tmp 3) 0⟩,
  ⟨some 81, none, .load 3 (.tmp 80)⟩,
  ⟨some 82, none, .binOp .eql 3 (.tmp 81) (.const (.int .i64 1)) 3⟩,
  ⟨some 83, none, .move (.tmp 82)⟩,
  ⟨some 84, some (83, false), .fieldAddr 30 (.tmp 3) 0⟩,
  ⟨some 85, some (83, false), .load 3 (.tmp 84)⟩,
  ⟨some 86, some (83, false), .binOp .eql 3 (.tmp 85) (.const (.int .i64 2)) 3⟩,
  ⟨some 87, none, .pick (.tmp 83) (.const (.bool true)) (.tmp 86)⟩,
  ⟨some 88, none, .move (.tmp 87)⟩,
  ⟨some 89, some (88, false), .fieldAddr 30 (.tmp 3) 0⟩,
  ⟨some 90, some (88, false), .load 3 (.tmp 89)⟩,
  ⟨some 91, some (88, false), .binOp .eql 3 (.tmp 90) (.const (.int .i64 7)) 3⟩,
  ⟨some 92, none, .pick (.tmp 88) (.const (.bool true)) (.tmp 91)⟩,
  ⟨some 7, none, .assign (.tmp 92)⟩])
 (.seq (.reg [⟨some 93, none, .fieldAddr 30 (.tmp 3) 0⟩,
  ⟨some 94, none, .load 3 (.tmp 93)⟩,
  ⟨some 95, none, .binOp .neq 3 (.tmp 94) (.const (.int .i64 1)) 3⟩,
  ⟨some 96, none, .move (.tmp 95)⟩,
  ⟨some 97, some (96, false), .fieldAddr 30 (.tmp 3) 2⟩,
  ⟨some 98, some (96, false), .load 26 (.tmp 97)⟩,
  ⟨some 99, some (96, false), .call { callee := .builtin .len, args := #[.tmp 98], argTypes := #[26] }⟩,
  ⟨some 100, some (96, false), .binOp .eql 3 (.tmp 99) (.const (.int .i64 0)) 3⟩,
  ⟨some 101, none, .pick (.tmp 96) (.const (.bool true)) (.tmp 100)⟩,
  ⟨some 102, none, .move (.tmp 101)⟩,
  ⟨some 103, some (102, true), .move (.tmp 7)⟩,
  ⟨some 104, some (102, true), .move (.tmp 103)⟩,
  ⟨some 105, some (104, false), .fieldAddr 30 (.tmp 3) 1⟩,
  ⟨some 106, some (104, false), .load 26 (.tmp 105)⟩,
  ⟨some 107, some (104, false), .call { callee := .builtin .len, args := #[.tmp 106], argTypes := #[26] }⟩,
  ⟨some 108, some (104, false), .fieldAddr 30 (.tmp 3) 2⟩,
  ⟨some 109, some (104, false), .load 26 (.tmp 108)⟩,
  ⟨some 110, some (104, false), .call { callee := .builtin .len, args := #[.tmp 109], argTypes := #[26] }⟩,
  ⟨some 111, some (104, false), .binOp .add 3 (.tmp 107) (.tmp 110) 3⟩,
  ⟨some 112, some (104, false), .binOp .eql 3 (.tmp 111) (.const (.int .i64 0)) 3⟩,
  ⟨some 113, some (102, true), .pick (.tmp 104) (.const (.bool true)) (.tmp 112)⟩,
  ⟨some 114, none, .pick (.tmp 102) (.tmp 113) (.const (.bool false))⟩,
  ⟨some 115, none, .move (.tmp 114)⟩,
  ⟨some 116, some (115, true), .call { callee := .value (.func 9), args := #[], argTypes := #[] }⟩,
  ⟨some 117, none, .pick (.tmp 115) (.tmp 116) (.const (.bool false))⟩,
  ⟨some 2, none, .assign (.tmp 117)⟩])
 (.ret))))))))
theorem k5 : codeAt Try.prog 5 = some (K5, #[.tmp 2], 118) := by kernel_rfl
/-- pontoon/pontoonlaw07.SetsNorm -/
noncomputable def K6 : AC := .seq (.reg [⟨some 2, none, .assign (.const (.bool false))⟩])
 (.seq (.seq (.reg [⟨some 9, none, .move (.tmp 0)⟩,
  ⟨some 10, none, .call { callee := .builtin .len, args := #[.tmp 9], argTypes := #[9] }⟩,
  ⟨some 11, none, .binOp .gtr 3 (.tmp 10) (.const (.int .i64 900)) 3⟩])
 (.cond (.tmp 11) (.seq (.reg [⟨some 12, none, .call { callee := .value (.func 9), args := #[], argTypes := #[] }⟩,
  ⟨some 2, none, .assign (.tmp 12)⟩])
 (.ret)) (.skip)))
 (.seq (.reg [⟨some 14, none, .move (.tmp 0)⟩,
  ⟨some 15, none, .call { callee := .value (.func 19), args := #[.tmp 14], argTypes := #[9] }⟩,
  ⟨some 13, none, .move (.tmp 15)⟩,
  ⟨some 16, none, .extract (.tmp 13) 0⟩,
  ⟨some 17, none, .extract (.tmp 13) 1⟩,
  ⟨some 3, none, .alloc 30⟩,
  ⟨none, none, .store 30 (.tmp 3) (.tmp 16)⟩,
  ⟨some 4, none, .assign (.tmp 17)⟩])
 (.seq (.seq (.reg [⟨some 18, none, .move (.tmp 4)⟩,
  ⟨some 19, none, .binOp .neq 33 (.tmp 18) (.const (.int .i64 0)) 33⟩,
  ⟨some 20, none, .move (.tmp 19)⟩,
  ⟨some 21, some (20, false), .fieldAddr 30 (.tmp 3) 3⟩,
  ⟨some 22, some (20, false), .load 9 (.tmp 21)⟩,
  ⟨some 23, some (20, false), .call { callee := .builtin .len, args := #[.tmp 22], argTypes := #[9] }⟩,
  ⟨some 24, some (20, false), .binOp .gtr 3 (.tmp 23) (.const (.int .i64 2000)) 3⟩,
  ⟨some 25, none, .pick (.tmp 20) (.const (.bool true)) (.tmp 24)⟩])
 (.cond (.tmp 25) (.seq (.reg [⟨some 26, none, .call { callee := .value (.func 9), args := #[], argTypes := #[] }⟩,
  ⟨some 2, none, .assign (.tmp 26)⟩])
 (.ret)) (.skip)))
 (.seq (.reg [⟨some 28, none, .fieldAddr 30 (.tmp 3) 3⟩,
  ⟨some 29, none, .load 9 (.tmp 28)⟩,
  ⟨some 30, none, .call { callee := .value (.func 19), args := #[.tmp 29], argTypes := #[9] }⟩,
  ⟨some 27, none, .move (.tmp 30)⟩,
  ⟨some 31, none, .extract (.tmp 27) 0⟩,
  ⟨some 32, none, .extract (.tmp 27) 1⟩,
  ⟨some 5, none, .alloc 30⟩,
  ⟨none, none, .store 30 (.tmp 5) (.tmp 31)⟩,
  ⟨some 6, none, .assign (.tmp 32)⟩])
 (.seq (.reg [⟨some 34, none, .move (.tmp 0)⟩,
  ⟨some 35, none, .binOp .add 9 (.const (.string ⟨⟨[32, 59, 32]⟩⟩)) (.tmp 34) 9⟩,
  ⟨some 36, none, .binOp .add 9 (.tmp 35) (.const (.string ⟨⟨[10, 32, 59, 32]⟩⟩)) 9⟩,
  ⟨some 37, none, .call { callee := .value (.func 19), args := #[.tmp 36], argTypes := #[9] }⟩,
  ⟨some 33, none, .move (.tmp 37)⟩,
  ⟨some 38, none, .extract (.tmp 33) 0⟩,
  ⟨some 39, none, .extract (.tmp 33) 1⟩,
  ⟨some 7, none, .alloc 30⟩,
  ⟨none, none, .store 30 (.tmp 7) (.tmp 38)⟩,
  ⟨some 8, none, .assign (.tmp 39)⟩])
 (.seq (.reg [⟨some 40, none, .move (.tmp 6)⟩,
  ⟨some 41, none, .binOp .eql 33 (.tmp 40) (.const (.int .i64 0)) 33⟩,
  ⟨some 42, none, .move (.tmp 41)⟩,
  ⟨some 43, some (42, true), .load 30 (.tmp 3)⟩,
  ⟨some 44, some (42, true), .load 30 (.tmp 5)⟩,
  ⟨some 45, some (42, true), .call { callee := .value (.func 15), args := #[.tmp 43, .tmp 44], argTypes := #[30, 30] }⟩,
  ⟨some 46, none, .pick (.tmp 42) (.tmp 45) (.const (.bool false))⟩,
  ⟨some 47, none, .move (.tmp 46)⟩,
  ⟨some 48, some (47, true), .move (.tmp 8)⟩,
  ⟨some 49, some (47, true), .binOp .eql 33 (.tmp 48) (.const (.int .i64 0)) 33⟩,
  ⟨some 50, none, .pick (.tmp 47) (.tmp 49) (.const (.bool false))⟩,
  ⟨some 51, none, .move (.tmp 50)⟩,
  ⟨some 52, some (51, true), .load 30 (.tmp 3)⟩,
  ⟨some 53, some (51, true), .load 30 (.tmp 7)⟩,
  ⟨some 54, some (51, true), .call { callee := .value (.func 15), args := #[.tmp 52, .tmp 53], argTypes := #[30, 30] }⟩,
  ⟨some 55, none, .pick (.tmp 51) (.tmp 54) (.const (.bool false))⟩,
  ⟨some 56, none, .move (.tmp 55)⟩,
  ⟨some 57, some (56, true), .call { callee := .value (.func 9), args := #[], argTypes := #[] }⟩,
  ⟨some 58, none, .pick (.tmp 56) (.tmp 57) (.const (.bool false))⟩,
  ⟨some 2, none, .assign (.tmp 58)⟩])
 (.ret)))))))
theorem k6 : codeAt Try.prog 6 = some (K6, #[.tmp 2], 59) := by kernel_rfl
/-- pontoon/pontoonlaw07.SetsQuoted -/
noncomputable def K7 : AC := .seq (.reg [⟨some 2, none, .assign (.const (.bool false))⟩])
 (.seq (.seq (.reg [⟨some 7, none, .move (.tmp 0)⟩,
  ⟨some 8, none, .call { callee := .builtin .len, args := #[.tmp 7], argTypes := #[9] }⟩,
  ⟨some 9, none, .binOp .gtr 3 (.tmp 8) (.const (.int .i64 300)) 3⟩])
 (.cond (.tmp 9) (.seq (.reg [⟨some 10, none, .call { callee := .value (.func 9), args := #[], argTypes := #[] }⟩,
  ⟨some 2, none, .assign (.tmp 10)⟩])
 (.ret)) (.skip)))
 (.seq (.reg [⟨some 11, none, .move (.tmp 0)⟩,
  ⟨some 12, none, .build 40 #[(0, .const (.int .i64 2)), (1, .tmp 11)]⟩,
  ⟨some 3, none, .alloc 40⟩,
  ⟨none, none, .store 40 (.tmp 3) (.tmp 12)⟩])
 (.seq (.reg [⟨some 13, none, .build 40 #[(0, .const (.int .i64 1)), (1, .const (.string ⟨⟨[102, 114, 111, 109]⟩⟩))]⟩,
  ⟨some 14, none, .load 40 (.tmp 3)⟩,
  ⟨some 15, none, .buildSlice 22 2 #[(0, .tmp 13), (1, .tmp 14)]⟩,
  ⟨some 16, none, .call { callee := .value (.func 11), args := #[.tmp 15], argTypes := #[22] }⟩,
  ⟨some 4, none, .assign (.tmp 16)⟩])
 (.seq (.reg [⟨some 17, none, .build 40 #[(0, .const (.int .i64 1)), (1, .const (.string ⟨⟨[105, 110, 116, 111]⟩⟩))]⟩,
  ⟨some 18, none, .load 40 (.tmp 3)⟩,
  ⟨some 19, none, .buildSlice 22 2 #[(0, .tmp 17), (1, .tmp 18)]⟩,
  ⟨some 20, none, .call { callee := .value (.func 13), args := #[.tmp 19], argTypes := #[22] }⟩,
  ⟨some 5, none, .assign (.tmp 20)⟩])
 (.seq (.reg [⟨some 21, none, .build 40 #[(0, .const (.int .i64 1)), (1, .const (.string ⟨⟨[100, 101, 108, 101, 116, 101]⟩⟩))]⟩,
  ⟨some 22, none, .build 40 #[(0, .const (.int .i64 1)), (1, .const (.string ⟨⟨[102, 114, 111, 109]⟩⟩))]⟩,
  ⟨some 23, none, .load 40 (.tmp 3)⟩,
  ⟨some 24, none, .buildSlice 22 3 #[(0, .tmp 21), (1, .tmp 22), (2, .tmp 23)]⟩,
  ⟨some 6, none, .assign (.tmp 24)⟩])
 (.seq (.reg [⟨some 25, none, .move (.tmp 4)⟩,
  ⟨some 26, none, .move (.tmp 0)⟩,
  ⟨some 27, none, .buildSlice 26 1 #[(0, .tmp 26)]⟩,
  ⟨some 28, none, .call { callee := .value (.func 10), args := #[.tmp 25, .tmp 27], argTypes := #[26, 26] }⟩,
  ⟨some 29, none, .move (.tmp 28)⟩,
  ⟨some 30, some (29, true), .move (.tmp 5)⟩,
  ⟨some 31, some (29, true), .move (.tmp 4)⟩,
  ⟨some 32, some (29, true), .call { callee := .value (.func 10), args := #[.tmp 30, .tmp 31], argTypes := #[26, 26] }⟩,
  ⟨some 33, none, .pick (.tmp 29) (.tmp 32) (.const (.bool false))⟩,
  ⟨some 34, none, .move (.tmp 33)⟩,
  ⟨some 35, some (34, true), .move (.tmp 6)⟩,
  ⟨some 36, some (34, true), .call { callee := .value (.func 13), args := #[.tmp 35], argTypes := #[22] }⟩,
  ⟨some 37, some (34, true), .move (.tmp 4)⟩,
  ⟨some 38, some (34, true), .call { callee := .value (.func 10), args := #[.tmp 36, .tmp 37], argTypes := #[26, 26] }⟩,
  ⟨some 39, none, .pick (.tmp 34) (.tmp 38) (.const (.bool false))⟩,
  ⟨some 40, none, .move (.tmp 39)⟩,
  ⟨some 41, some (40, true), .move (.tmp 6)⟩,
  ⟨some 42, some (40, true), .call { callee := .value (.func 11), args := #[.tmp 41], argTypes := #[22] }⟩,
  ⟨some 43, some (40, true), .call { callee := .builtin .len, args := #[.tmp 42], argTypes := #[26] }⟩,
  ⟨some 44, some (40, true), .binOp .eql 3 (.tmp 43) (.const (.int .i64 0)) 3⟩,
  ⟨some 45, none, .pick (.tmp 40) (.tmp 44) (.const (.bool false))⟩,
  ⟨some 46, none, .move (.tmp 45)⟩,
  ⟨some 47, some (46, true), .call { callee := .value (.func 9), args := #[], argTypes := #[] }⟩,
  ⟨some 48, none, .pick (.tmp 46) (.tmp 47) (.const (.bool false))⟩,
  ⟨some 2, none, .assign (.tmp 48)⟩])
 (.ret)))))))
theorem k7 : codeAt Try.prog 7 = some (K7, #[.tmp 2], 49) := by kernel_rfl
/-- pontoon/pontoonlaw07.light -/
noncomputable def L8_0 : AC := .seq (.seq (.reg [⟨some 7, none, .move (.tmp 3)⟩,
  ⟨some 8, none, .move (.tmp 0)⟩,
  ⟨some 9, none, .call { callee := .builtin .len, args := #[.tmp 8], argTypes := #[22] }⟩,
  ⟨some 10, none, .binOp .lss 3 (.tmp 7) (.tmp 9) 3⟩])
 (.cond (.tmp 10) (.skip) (.exit 0)))
 (.seq (.block 1 (.seq (.reg [⟨some 13, none, .move (.tmp 0)⟩,
  ⟨some 14, none, .move (.tmp 3)⟩,
  ⟨some 15, none, .indexAddr 22 (.tmp 13) (.tmp 14)⟩,
  ⟨some 16, none, .fieldAddr 40 (.tmp 15) 1⟩,
  ⟨some 17, none, .load 9 (.tmp 16)⟩,
  ⟨some 18, none, .call { callee := .builtin .len, args := #[.tmp 17], argTypes := #[9] }⟩,
  ⟨some 19, none, .binOp .gtr 3 (.tmp 18) (.const (.int .i64 100)) 3⟩])
 (.cond (.tmp 19) (.seq (.reg [⟨some 2, none, .assign (.const (.bool false))⟩])
 (.ret)) (.skip))))
 (.reg [⟨some 11, none, .move (.tmp 3)⟩,
  ⟨some 12, none, .binOp .add 3 (.tmp 11) (.const (.int .i64 1)) 3⟩,
  ⟨some 3, none, .assign (.tmp 12)⟩]))
noncomputable def K8 : AC := .seq (.reg [⟨some 2, none, .assign (.const (.bool false))⟩])
 (.seq (.seq (.reg [⟨some 4, none, .move (.tmp 0)⟩,
  ⟨some 5, none, .call { callee := .builtin .len, args := #[.tmp 4], argTypes := #[22] }⟩,
  ⟨some 6, none, .binOp .gtr 3 (.tmp 5) (.const (.int .i64 100)) 3⟩])
 (.cond (.tmp 6) (.seq (.reg [⟨some 2, none, .assign (.const (.bool false))⟩])
 (.ret)) (.skip)))
 (.seq (.seq (.reg [⟨some 3, none, .assign (.const (.int .i64 0))⟩])
 (.block 0 (.loop L8_0)))
 (.seq (.reg [⟨some 2, none, .assign (.const (.bool true))⟩])
 (.ret))))
theorem k8 : codeAt Try.prog 8 = some (K8, #[.tmp 2], 20) := by kernel_rfl
/-- pontoon/pontoonlaw07.known -/
noncomputable def K9 : AC := .seq (.reg [⟨some 0, none, .assign (.const (.bool false))⟩])
 (.seq (.reg [⟨some 12, none, .call { callee := .value (.func 19), args := #[.const (.string ⟨⟨[115, 101, 108, 101, 99, 116, 32, 42, 32, 102, 114, 111, 109, 32, 97, 44, 32, 98, 32, 120, 32, 106, 111, 105, 110, 32, 34, 67, 34, 32, 117, 115, 105, 110, 103, 32, 40, 107, 41, 59]⟩⟩)], argTypes := #[9] }⟩,
  ⟨some 11, none, .move (.tmp 12)⟩,
  ⟨some 13, none, .extract (.tmp 11) 0⟩,
  ⟨some 14, none, .extract (.tmp 11) 1⟩,
  ⟨some 1, none, .alloc 30⟩,
  ⟨none, none, .store 30 (.tmp 1) (.tmp 13)⟩,
  ⟨some 2, none, .assign (.tmp 14)⟩])
 (.seq (.reg [⟨some 16, none, .call { callee := .value (.func 19), args := #[.const (.string ⟨⟨[105, 110, 115, 101, 114, 116, 32, 105, 110, 116, 111, 32, 115, 46, 116, 32, 115, 101, 108, 101, 99, 116, 32, 49, 32, 102, 114, 111, 109, 32, 117]⟩⟩)], argTypes := #[9] }⟩,
  ⟨some 15, none, .move (.tmp 16)⟩,
  ⟨some 17, none, .extract (.tmp 15) 0⟩,
  ⟨some 18, none, .extract (.tmp 15) 1⟩,
  ⟨some 3, none, .alloc 30⟩,
  ⟨none, none, .store 30 (.tmp 3) (.tmp 17)⟩,
  ⟨some 4, none, .assign (.tmp 18)⟩])
 (.seq (.reg [⟨some 20, none, .call { callee := .value (.func 19), args := #[.const (.string ⟨⟨[115, 101, 108, 101, 99, 116, 32, 49, 59, 32, 115, 101, 108, 101, 99, 116, 32, 50]⟩⟩)], argTypes := #[9] }⟩,
  ⟨some 19, none, .move (.tmp 20)⟩,
  ⟨some 21, none, .extract (.tmp 19) 0⟩,
  ⟨some 22, none, .extract (.tmp 19) 1⟩,
  ⟨some 5, none, .alloc 30⟩,
  ⟨none, none, .store 30 (.tmp 5) (.tmp 21)⟩,
  ⟨some 6, none, .assign (.tmp 22)⟩])
 (.seq (.reg [⟨some 24, none, .call { callee := .value (.func 19), args := #[.const (.string ⟨⟨[39]⟩⟩)], argTypes := #[9] }⟩,
  ⟨some 23, none, .move (.tmp 24)⟩,
  ⟨some 25, none, .extract (.tmp 23) 0⟩,
  ⟨some 26, none, .extract (.tmp 23) 1⟩,
  ⟨some 7, none, .alloc 30⟩,
  ⟨none, none, .store 30 (.tmp 7) (.tmp 25)⟩,
  ⟨some 8, none, .assign (.tmp 26)⟩])
 (.seq (.reg [⟨some 28, none, .call { callee := .value (.func 19), args := #[.const (.string ⟨⟨[98, 101, 103, 105, 110]⟩⟩)], argTypes := #[9] }⟩,
  ⟨some 27, none, .move (.tmp 28)⟩,
  ⟨some 29, none, .extract (.tmp 27) 0⟩,
  ⟨some 30, none, .extract (.tmp 27) 1⟩,
  ⟨some 9, none, .alloc 30⟩,
  ⟨none, none, .store 30 (.tmp 9) (.tmp 29)⟩,
  ⟨some 10, none, .assign (.tmp 30)⟩])
 (.seq (.reg [⟨some 31, none, .move (.tmp 2)⟩,
  ⟨some 32, none, .binOp .eql 33 (.tmp 31) (.const (.int .i64 0)) 33⟩,
  ⟨some 33, none, .move (.tmp 32)⟩,
  ⟨some 34, some (33, true), .load 30 (.tmp 1)⟩,
  ⟨some 35, some (33, true), .buildSlice 26 3 #[(0, .const (.string ⟨⟨[67]⟩⟩)), (1, .const (.string ⟨⟨[97]⟩⟩)), (2, .const (.string ⟨⟨[98]⟩⟩))]⟩,
  ⟨some 36, some (33, true), .build 30 #[(0, .const (.int .i64 1)), (1, .tmp 35), (3, .const (.string ⟨⟨[115, 101, 108, 101, 99, 116, 32, 42, 32, 102, 114, 111, 109, 32, 97, 32, 44, 32, 98, 32, 120, 32, 106, 111, 105, 110, 32, 34, 67, 34, 32, 117, 115, 105, 110, 103, 32, 40, 32, 107, 32, 41]⟩⟩))]⟩,
  ⟨some 37, some (33, true), .call { callee := .value (.func 15), args := #[.tmp 34, .tmp 36], argTypes := #[30, 30] }⟩,
  ⟨some 38, none, .pick (.tmp 33) (.tmp 37) (.const (.bool false))⟩,
  ⟨some 39, none, .move (.tmp 38)⟩,
  ⟨some 40, some (39, true), .move (.tmp 4)⟩,
  ⟨some 41, some (39, true), .binOp .eql 33 (.tmp 40) (.const (.int .i64 0)) 33⟩,
  ⟨some 42, none, .pick (.tmp 39) (.tmp 41) (.const (.bool false))⟩,
  ⟨some 43, none, .move (.tmp 42)⟩,
  ⟨some 44, some (43, true), .fieldAddr 30 (.tmp 3) 1⟩,
  ⟨some 45, some (43, true), .load 26 (.tmp 44)⟩,
  ⟨some 46, some (43, true), .buildSlice 26 1 #[(0, .const (.string ⟨⟨[117]⟩⟩))]⟩,
  ⟨some 47, some (43, true), .call { callee := .value (.func 10), args := #[.tmp 45, .tmp 46], argTypes := #[26, 26] }⟩,
  ⟨some 48, none, .pick (.tmp 43) (.tmp 47) (.const (.bool false))⟩,
  ⟨some 49, none, .move (.tmp 48)⟩,
  ⟨some 50, some (49, true), .fieldAddr 30 (.tmp 3) 2⟩,
  ⟨some 51, some (49, true), .load 26 (.tmp 50)⟩,
  ⟨some 52, some (49, true), .buildSlice 26 1 #[(0, .const (.string ⟨⟨[115, 46, 116]⟩⟩))]⟩,
  ⟨some 53, some (49, true), .call { callee := .value (.func 10), args := #[.tmp 51, .tmp 52], argTypes := #[26, 26] }⟩,
  ⟨some 54, none, .pick (.tmp 49) (.tmp 53) (.const (.bool false))⟩,
  ⟨some 55, none, .move (.tmp 54)⟩,
  ⟨some 56, some (55, true), .move (.tmp 6)⟩,
  ⟨some 57, some (55, true), .binOp .eql 33 (.tmp 56) (.const (.int .i64 4)) 33⟩,
  ⟨some 58, none, .pick (.tmp 55) (.tmp 57) (.const (.bool false))⟩,
  ⟨some 59, none, .move (.tmp 58)⟩,
  ⟨some 60, some (59, true), .move (.tmp 8)⟩,
  ⟨some 61, some (59, true), .binOp .eql 33 (.tmp 60) (.const (.int .i64 6)) 33⟩,
  ⟨some 62, none, .pick (.tmp 59) (.tmp 61) (.const (.bool false))⟩,
  ⟨some 63, none, .move (.tmp 62)⟩,
  ⟨some 64, some (63, true), .move (.tmp 10)⟩,
  ⟨some 65, some (63, true), .binOp .eql 33 (.tmp 64) (.const (.int .i64 0)) 33⟩,
  ⟨some 66, none, .pick (.tmp 63) (.tmp 65) (.const (.bool false))⟩,
  ⟨some 67, none, .move (.tmp 66)⟩,
  ⟨some 68, some (67, true), .fieldAddr 30 (.tmp 9) 0⟩,
  ⟨some 69, some (67, true), .load 3 (.tmp 68)⟩,
  ⟨some 70, some (67, true), .binOp .eql 3 (.tmp 69) (.const (.int .i64 3)) 3⟩,
  ⟨some 71, none, .pick (.tmp 67) (.tmp 70) (.const (.bool false))⟩,
  ⟨some 72, none, .move (.tmp 71)⟩,
  ⟨some 73, some (72, true), .buildSlice 26 1 #[(0, .const (.string ⟨⟨[97]⟩⟩))]⟩,
  ⟨some 74, some (72, true), .buildSlice 26 2 #[(0, .const (.string ⟨⟨[98]⟩⟩)), (1, .const (.string ⟨⟨[97]⟩⟩))]⟩,
  ⟨some 75, some (72, true), .call { callee := .value (.func 21), args := #[.tmp 73, .tmp 74], argTypes := #[26, 26] }⟩,
  ⟨some 76, none, .pick (.tmp 72) (.tmp 75) (.const (.bool false))⟩,
  ⟨some 77, none, .move (.tmp 76)⟩,
  ⟨some 78, some (77, true), .buildSlice 26 1 #[(0, .const (.string ⟨⟨[97]⟩⟩))]⟩,
  ⟨some 79, some (77, true), .call { callee := .value (.func 21), args := #[.const (.slice none 0 0), .tmp 78], argTypes := #[26, 26] }⟩,
  ⟨some 80, some (77, true), .unOp .not 4 (.tmp 79)⟩,
  ⟨some 81, none, .pick (.tmp 77) (.tmp 80) (.const (.bool false))⟩,
  ⟨some 82, none, .move (.tmp 81)⟩,
  ⟨some 83, some (82, true), .call { callee := .value (.func 24), args := #[.const (.string ⟨⟨[100, 101, 108, 101, 116, 101, 32, 102, 114, 111, 109, 32, 120]⟩⟩)], argTypes := #[9] }⟩,
  ⟨some 84, some (82, true), .call { callee := .value (.func 11), args := #[.tmp 83], argTypes := #[22] }⟩,
  ⟨some 85, some (82, true), .call { callee := .value (.func 10), args := #[.tmp 84, .const (.slice none 0 0)], argTypes := #[26, 26] }⟩,
  ⟨some 86, none, .pick (.tmp 82) (.tmp 85) (.const (.bool false))⟩,
  ⟨some 87, none, .move (.tmp 86)⟩,
  ⟨some 88, some (87, true), .call { callee := .value (.func 24), args := #[.const (.string ⟨⟨[100, 101, 108, 101, 116, 101, 32, 102, 114, 111, 109, 32, 120]⟩⟩)], argTypes := #[9] }⟩,
  ⟨some 89, some (87, true), .call { callee := .value (.func 13), args := #[.tmp 88], argTypes := #[22] }⟩,
  ⟨some 90, some (87, true), .buildSlice 26 1 #[(0, .const (.string ⟨⟨[120]⟩⟩))]⟩,
  ⟨some 91, some (87, true), .call { callee := .value (.func 10), args := #[.tmp 89, .tmp 90], argTypes := #[26, 26] }⟩,
  ⟨some 92, none, .pick (.tmp 87) (.tmp 91) (.const (.bool false))⟩,
  ⟨some 0, none, .assign (.tmp 92)⟩])
 (.ret)))))))
theorem k9 : codeAt Try.prog 9 = some (K9, #[.tmp 0], 93) := by kernel_rfl
/-- pontoon/pontoonref07.Texts -/
def D10_6 : List (Bool × AOp) := [(false, ⟨some 17, none, .move (.tmp 0)⟩),
  (false, ⟨some 18, none, .move (.tmp 5)⟩),
  (false, ⟨some 19, none, .indexAddr 26 (.tmp 17) (.tmp 18)⟩),
  (false, ⟨some 20, none, .load 9 (.tmp 19)⟩),
  (false, ⟨some 21, none, .move (.tmp 1)⟩),
  (false, ⟨some 22, none, .move (.tmp 5)⟩),
  (false, ⟨some 23, none, .indexAddr 26 (.tmp 21) (.tmp 22)⟩),
  (false, ⟨some 24, none, .load 9 (.tmp 23)⟩),
  (false, ⟨some 25, none, .binOp .neq 9 (.tmp 20) (.tmp 24) 9⟩)]
theorem d10_6 : drawList E.pure 26 (regionOf Try.f10 6) = some D10_6 := by kernel_rfl
@[go_sem] theorem e10_6 (s : Slots) (H : AHeap) (Q : QT) : C (cxV E) (.draw 26 (regionOf Try.f10 6)) s H Q = XD (cxV E) D10_6 s H (Qr Q) := C_draw_eq d10_6 s H Q
noncomputable def L10_0 : AC := .seq (.seq (.reg [⟨some 11, none, .move (.tmp 5)⟩,
  ⟨some 12, none, .move (.tmp 0)⟩,
  ⟨some 13, none, .call { callee := .builtin .len, args := #[.tmp 12], argTypes := #[26] }⟩,
  ⟨some 14, none, .binOp .lss 3 (.tmp 11) (.tmp 13) 3⟩])
 (.cond (.tmp 14) (.skip) (.exit 0)))
 (.seq (.block 1 (.seq (.draw 26 (regionOf Try.f10 6))
 (.cond (.tmp 25) (.seq (.reg [⟨some 4, none, .assign (.const (.bool false))⟩])
 (.ret)) (.skip))))
 (.reg [⟨some 15, none, .move (.tmp 5)⟩,
  ⟨some 16, none, .binOp .add 3 (.tmp 15) (.const (.int .i64 1)) 3⟩,
  ⟨some 5, none, .assign (.tmp 16)⟩]))
noncomputable def K10 : AC := .seq (.reg [⟨some 4, none, .assign (.const (.bool false))⟩])
 (.seq (.seq (.reg [⟨some 6, none, .move (.tmp 0)⟩,
  ⟨some 7, none, .call { callee := .builtin .len, args := #[.tmp 6], argTypes := #[26] }⟩,
  ⟨some 8, none, .move (.tmp 1)⟩,
  ⟨some 9, none, .call { callee := .builtin .len, args := #[.tmp 8], argTypes := #[26] }⟩,
  ⟨some 10, none, .binOp .neq 3 (.tmp 7) (.tmp 9) 3⟩])
 (.cond (.tmp 10) (.seq (.reg [⟨some 4, none, .assign (.const (.bool false))⟩])
 (.ret)) (.skip)))
 (.seq (.seq (.reg [⟨some 5, none, .assign (.const (.int .i64 0))⟩])
 (.block 0 (.loop L10_0)))
 (.seq (.reg [⟨some 4, none, .assign (.const (.bool true))⟩])
 (.ret))))
theorem k10 : codeAt Try.prog 10 = some (K10, #[.tmp 4], 26) := by kernel_rfl
/-- pontoon/sets.Reads -/
noncomputable def L11_0 : AC := .seq (.reg [⟨some 14, none, .binOp .lss 3 (.tmp 13) (.tmp 12) 3⟩])
 (.seq (.cond (.tmp 14) (.skip) (.exit 0))
 (.seq (.block 1 (.seq (.reg [⟨some 15, none, .move (.tmp 13)⟩,
  ⟨some 6, none, .assign (.tmp 15)⟩])
 (.seq (.reg [⟨some 16, none, .move (.tmp 3)⟩,
  ⟨some 17, none, .move (.tmp 6)⟩,
  ⟨some 18, none, .buildSlice 26 1 #[(0, .const (.string ⟨⟨[102, 114, 111, 109]⟩⟩))]⟩,
  ⟨some 19, none, .call { callee := .value (.func 26), args := #[.tmp 16, .tmp 17, .tmp 18], argTypes := #[42, 3, 26] }⟩,
  ⟨some 20, none, .move (.tmp 19)⟩,
  ⟨some 21, some (20, true), .move (.tmp 3)⟩,
  ⟨some 22, some (20, true), .move (.tmp 6)⟩,
  ⟨some 23, some (20, true), .binOp .sub 3 (.tmp 22) (.const (.int .i64 1)) 3⟩,
  ⟨some 24, some (20, true), .buildSlice 26 1 #[(0, .const (.string ⟨⟨[100, 101, 108, 101, 116, 101]⟩⟩))]⟩,
  ⟨some 25, some (20, true), .call { callee := .value (.func 26), args := #[.tmp 21, .tmp 23, .tmp 24], argTypes := #[42, 3, 26] }⟩,
  ⟨some 26, none, .pick (.tmp 20) (.tmp 25) (.const (.bool false))⟩,
  ⟨some 7, none, .assign (.tmp 26)⟩])
 (.seq (.reg [⟨some 27, none, .move (.tmp 3)⟩,
  ⟨some 28, none, .move (.tmp 6)⟩,
  ⟨some 29, none, .buildSlice 26 3 #[(0, .const (.string ⟨⟨[102, 114, 111, 109]⟩⟩)), (1, .const (.string ⟨⟨[106, 111, 105, 110]⟩⟩)), (2, .const (.string ⟨⟨[117, 115, 105, 110, 103]⟩⟩))]⟩,
  ⟨some 30, none, .call { callee := .value (.func 26), args := #[.tmp 27, .tmp 28, .tmp 29], argTypes := #[42, 3, 26] }⟩,
  ⟨some 31, none, .move (.tmp 30)⟩,
  ⟨some 32, some (31, true), .move (.tmp 7)⟩,
  ⟨some 33, some (31, true), .unOp .not 4 (.tmp 32)⟩,
  ⟨some 34, none, .pick (.tmp 31) (.tmp 33) (.const (.bool false))⟩,
  ⟨some 35, none, .move (.tmp 34)⟩,
  ⟨some 36, some (35, false), .move (.tmp 6)⟩,
  ⟨some 37, some (35, false), .binOp .eql 3 (.tmp 36) (.const (.int .i64 0)) 3⟩,
  ⟨some 38, some (35, false), .move (.tmp 37)⟩,
  ⟨some 39, some (38, true), .move (.tmp 3)⟩,
  ⟨some 40, some (38, true), .move (.tmp 6)⟩,
  ⟨some 41, some (38, true), .buildSlice 26 1 #[(0, .const (.string ⟨⟨[116, 97, 98, 108, 101]⟩⟩))]⟩,
  ⟨some 42, some (38, true), .call { callee := .value (.func 26), args := #[.tmp 39, .tmp 40, .tmp 41], argTypes := #[42, 3, 26] }⟩,
  ⟨some 43, some (35, false), .pick (.tmp 38) (.tmp 42) (.const (.bool false))⟩,
  ⟨some 44, none, .pick (.tmp 35) (.const (.bool true)) (.tmp 43)⟩])
 (.cond (.tmp 44) (.reg [⟨some 45, none, .move (.tmp 3)⟩,
  ⟨some 46, none, .move (.tmp 6)⟩,
  ⟨some 47, none, .binOp .add 3 (.tmp 46) (.const (.int .i64 1)) 3⟩,
  ⟨some 48, none, .move (.tmp 5)⟩,
  ⟨some 49, none, .call { callee := .value (.func 27), args := #[.tmp 45, .tmp 47, .tmp 48], argTypes := #[42, 3, 38] }⟩]) (.skip))))))
 (.reg [⟨some 50, none, .binOp .add 3 (.tmp 13) (.const (.int .i64 1)) 3⟩,
  ⟨some 13, none, .move (.tmp 50)⟩])))
noncomputable def K11 : AC := .seq (.reg [⟨some 2, none, .assign (.const (.slice none 0 0))⟩])
 (.seq (.reg [⟨some 8, none, .move (.tmp 0)⟩,
  ⟨some 3, none, .assign (.tmp 8)⟩])
 (.seq (.reg [⟨some 9, none, .makeMap 43 none⟩,
  ⟨some 4, none, .alloc 43⟩,
  ⟨none, none, .store 43 (.tmp 4) (.tmp 9)⟩])
 (.seq (.reg [⟨some 10, none, .makeFunc (.func 25) #[] #[.tmp 4]⟩,
  ⟨some 5, none, .assign (.tmp 10)⟩])
 (.seq (.seq (.reg [⟨some 11, none, .move (.tmp 3)⟩,
  ⟨some 12, none, .call { callee := .builtin .len, args := #[.tmp 11], argTypes := #[42] }⟩,
  ⟨some 13, none, .move (.const (.int .i64 0))⟩])
 (.block 0 (.loop L11_0)))
 (.seq (.reg [⟨some 51, none, .load 43 (.tmp 4)⟩,
  ⟨some 52, none, .call { callee := .value (.func 28), args := #[.tmp 51], argTypes := #[43] }⟩,
  ⟨some 2, none, .assign (.tmp 52)⟩])
 (.ret))))))
theorem k11 : codeAt Try.prog 11 = some (K11, #[.tmp 2], 53) := by kernel_rfl
/-- pontoon/pontoonref07.Reads -/
noncomputable def L12_0 : AC := .seq (.seq (.reg [⟨some 5, none, .move (.tmp 4)⟩,
  ⟨some 6, none, .move (.tmp 0)⟩,
  ⟨some 7, none, .call { callee := .builtin .len, args := #[.tmp 6], argTypes := #[22] }⟩,
  ⟨some 8, none, .binOp .lss 3 (.tmp 5) (.tmp 7) 3⟩])
 (.cond (.tmp 8) (.skip) (.exit 0)))
 (.seq (.block 1 (.seq (.reg [⟨some 11, none, .move (.tmp 0)⟩,
  ⟨some 12, none, .move (.tmp 4)⟩,
  ⟨some 13, none, .call { callee := .value (.func 29), args := #[.tmp 11, .tmp 12, .const (.string ⟨⟨[102, 114, 111, 109]⟩⟩)], argTypes := #[22, 3, 9] }⟩,
  ⟨some 14, none, .move (.tmp 13)⟩,
  ⟨some 15, some (14, true), .move (.tmp 0)⟩,
  ⟨some 16, some (14, true), .move (.tmp 4)⟩,
  ⟨some 17, some (14, true), .binOp .sub 3 (.tmp 16) (.const (.int .i64 1)) 3⟩,
  ⟨some 18, some (14, true), .call { callee := .value (.func 29), args := #[.tmp 15, .tmp 17, .const (.string ⟨⟨[100, 101, 108, 101, 116, 101]⟩⟩)], argTypes := #[22, 3, 9] }⟩,
  ⟨some 19, some (14, true), .unOp .not 4 (.tmp 18)⟩,
  ⟨some 20, none, .pick (.tmp 14) (.tmp 19) (.const (.bool false))⟩,
  ⟨some 21, none, .move (.tmp 20)⟩,
  ⟨some 22, some (21, false), .move (.tmp 0)⟩,
  ⟨some 23, some (21, false), .move (.tmp 4)⟩,
  ⟨some 24, some (21, false), .call { callee := .value (.func 29), args := #[.tmp 22, .tmp 23, .const (.string ⟨⟨[106, 111, 105, 110]⟩⟩)], argTypes := #[22, 3, 9] }⟩,
  ⟨some 25, none, .pick (.tmp 21) (.const (.bool true)) (.tmp 24)⟩,
  ⟨some 26, none, .move (.tmp 25)⟩,
  ⟨some 27, some (26, false), .move (.tmp 0)⟩,
  ⟨some 28, some (26, false), .move (.tmp 4)⟩,
  ⟨some 29, some (26, false), .call { callee := .value (.func 29), args := #[.tmp 27, .tmp 28, .const (.string ⟨⟨[117, 115, 105, 110, 103]⟩⟩)], argTypes := #[22, 3, 9] }⟩,
  ⟨some 30, none, .pick (.tmp 26) (.const (.bool true)) (.tmp 29)⟩,
  ⟨some 31, none, .move (.tmp 30)⟩,
  ⟨some 32, some (31, false), .move (.tmp 4)⟩,
  ⟨some 33, some (31, false), .binOp .eql 3 (.tmp 32) (.const (.int .i64 0)) 3⟩,
  ⟨some 34, some (31, false), .move (.tmp 33)⟩,
  ⟨some 35, some (34, true), .move (.tmp 0)⟩,
  ⟨some 36, some (34, true), .move (.tmp 4)⟩,
  ⟨some 37, some (34, true), .call { callee := .value (.func 29), args := #[.tmp 35, .tmp 36, .const (.string ⟨⟨[116, 97, 98, 108, 101]⟩⟩)], argTypes := #[22, 3, 9] }⟩,
  ⟨some 38, some (31, false), .pick (.tmp 34) (.tmp 37) (.const (.bool false))⟩,
  ⟨some 39, none, .pick (.tmp 31) (.const (.bool true)) (.tmp 38)⟩])
 (.cond (.tmp 39) (.reg [⟨some 40, none, .move (.tmp 3)⟩,
  ⟨some 41, none, .move (.tmp 0)⟩,
  ⟨some 42, none, .move (.tmp 4)⟩,
  ⟨some 43, none, .binOp .add 3 (.tmp 42) (.const (.int .i64 1)) 3⟩,
  ⟨some 44, none, .call { callee := .value (.func 31), args := #[.tmp 41, .tmp 43], argTypes := #[22, 3] }⟩,
  ⟨some 45, none, .call { callee := .value (.func 30), args := #[.tmp 40, .tmp 44], argTypes := #[26, 26] }⟩,
  ⟨some 3, none, .assign (.tmp 45)⟩]) (.skip))))
 (.reg [⟨some 9, none, .move (.tmp 4)⟩,
  ⟨some 10, none, .binOp .add 3 (.tmp 9) (.const (.int .i64 1)) 3⟩,
  ⟨some 4, none, .assign (.tmp 10)⟩]))
noncomputable def K12 : AC := .seq (.reg [⟨some 2, none, .assign (.const (.slice none 0 0))⟩])
 (.seq (.reg [⟨some 3, none, .assign (.const (.slice none 0 0))⟩])
 (.seq (.seq (.reg [⟨some 4, none, .assign (.const (.int .i64 0))⟩])
 (.block 0 (.loop L12_0)))
 (.seq (.reg [⟨some 46, none, .move (.tmp 3)⟩,
  ⟨some 2, none, .assign (.tmp 46)⟩])
 (.ret))))
theorem k12 : codeAt Try.prog 12 = some (K12, #[.tmp 2], 47) := by kernel_rfl
/-- pontoon/sets.Writes -/
noncomputable def L13_0 : AC := .seq (.reg [⟨some 13, none, .binOp .lss 3 (.tmp 12) (.tmp 11) 3⟩])
 (.seq (.cond (.tmp 13) (.skip) (.exit 0))
 (.seq (.block 1 (.seq (.reg [⟨some 14, none, .move (.tmp 12)⟩,
  ⟨some 5, none, .assign (.tmp 14)⟩])
 (.seq (.reg [⟨some 15, none, .move (.tmp 3)⟩,
  ⟨some 16, none, .move (.tmp 5)⟩,
  ⟨some 17, none, .buildSlice 26 1 #[(0, .const (.string ⟨⟨[116, 114, 117, 110, 99, 97, 116, 101]⟩⟩))]⟩,
  ⟨some 18, none, .call { callee := .value (.func 26), args := #[.tmp 15, .tmp 16, .tmp 17], argTypes := #[42, 3, 26] }⟩,
  ⟨some 6, none, .alloc 4⟩,
  ⟨none, none, .store 4 (.tmp 6) (.tmp 18)⟩])
 (.seq (.reg [⟨some 19, none, .move (.tmp 3)⟩,
  ⟨some 20, none, .move (.tmp 5)⟩,
  ⟨some 21, none, .buildSlice 26 1 #[(0, .const (.string ⟨⟨[105, 110, 116, 111]⟩⟩))]⟩,
  ⟨some 22, none, .call { callee := .value (.func 26), args := #[.tmp 19, .tmp 20, .tmp 21], argTypes := #[42, 3, 26] }⟩,
  ⟨some 23, none, .move (.tmp 22)⟩,
  ⟨some 24, some (23, false), .move (.tmp 3)⟩,
  ⟨some 25, some (23, false), .move (.tmp 5)⟩,
  ⟨some 26, some (23, false), .buildSlice 26 1 #[(0, .const (.string ⟨⟨[117, 112, 100, 97, 116, 101]⟩⟩))]⟩,
  ⟨some 27, some (23, false), .call { callee := .value (.func 26), args := #[.tmp 24, .tmp 25, .tmp 26], argTypes := #[42, 3, 26] }⟩,
  ⟨some 28, some (23, false), .move (.tmp 27)⟩,
  ⟨some 29, some (28, true), .move (.tmp 3)⟩,
  ⟨some 30, some (28, true), .move (.tmp 5)⟩,
  ⟨some 31, some (28, true), .binOp .sub 3 (.tmp 30) (.const (.int .i64 1)) 3⟩,
  ⟨some 32, some (28, true), .buildSlice 26 1 #[(0, .const (.string ⟨⟨[102, 111, 114]⟩⟩))]⟩,
  ⟨some 33, some (28, true), .call { callee := .value (.func 26), args := #[.tmp 29, .tmp 31, .tmp 32], argTypes := #[42, 3, 26] }⟩,
  ⟨some 34, some (28, true), .unOp .not 4 (.tmp 33)⟩,
  ⟨some 35, some (23, false), .pick (.tmp 28) (.tmp 34) (.const (.bool false))⟩,
  ⟨some 36, none, .pick (.tmp 23) (.const (.bool true)) (.tmp 35)⟩,
  ⟨some 37, none, .move (.tmp 36)⟩,
  ⟨some 38, some (37, false), .move (.tmp 3)⟩,
  ⟨some 39, some (37, false), .move (.tmp 5)⟩,
  ⟨some 40, some (37, false), .buildSlice 26 1 #[(0, .const (.string ⟨⟨[102, 114, 111, 109]⟩⟩))]⟩,
  ⟨some 41, some (37, false), .call { callee := .value (.func 26), args := #[.tmp 38, .tmp 39, .tmp 40], argTypes := #[42, 3, 26] }⟩,
  ⟨some 42, some (37, false), .move (.tmp 41)⟩,
  ⟨some 43, some (42, true), .move (.tmp 3)⟩,
  ⟨some 44, some (42, true), .move (.tmp 5)⟩,
  ⟨some 45, some (42, true), .binOp .sub 3 (.tmp 44) (.const (.int .i64 1)) 3⟩,
  ⟨some 46, some (42, true), .buildSlice 26 1 #[(0, .const (.string ⟨⟨[100, 101, 108, 101, 116, 101]⟩⟩))]⟩,
  ⟨some 47, some (42, true), .call { callee := .value (.func 26), args := #[.tmp 43, .tmp 45, .tmp 46], argTypes := #[42, 3, 26] }⟩,
  ⟨some 48, some (37, false), .pick (.tmp 42) (.tmp 47) (.const (.bool false))⟩,
  ⟨some 49, none, .pick (.tmp 37) (.const (.bool true)) (.tmp 48)⟩,
  ⟨some 7, none, .assign (.tmp 49)⟩])
 (.seq (.seq (.reg [⟨some 50, none, .load 4 (.tmp 6)⟩,
  ⟨some 51, none, .unOp .not 4 (.tmp 50)⟩,
  ⟨some 52, none, .move (.tmp 51)⟩,
  ⟨some 53, some (52, true), .move (.tmp 7)⟩,
  ⟨some 54, some (52, true), .unOp .not 4 (.tmp 53)⟩,
  ⟨some 55, none, .pick (.tmp 52) (.tmp 54) (.const (.bool false))⟩])
 (.cond (.tmp 55) (.exit 1) (.skip)))
 (.reg [⟨some 56, none, .move (.tmp 3)⟩,
  ⟨some 57, none, .move (.tmp 5)⟩,
  ⟨some 58, none, .binOp .add 3 (.tmp 57) (.const (.int .i64 1)) 3⟩,
  ⟨some 59, none, .makeFunc (.func 32) #[] #[.tmp 4, .tmp 6]⟩,
  ⟨some 60, none, .call { callee := .value (.func 27), args := #[.tmp 56, .tmp 58, .tmp 59], argTypes := #[42, 3, 38] }⟩]))))))
 (.reg [⟨some 61, none, .binOp .add 3 (.tmp 12) (.const (.int .i64 1)) 3⟩,
  ⟨some 12, none, .move (.tmp 61)⟩])))
noncomputable def K13 : AC := .seq (.reg [⟨some 2, none, .assign (.const (.slice none 0 0))⟩])
 (.seq (.reg [⟨some 8, none, .move (.tmp 0)⟩,
  ⟨some 3, none, .assign (.tmp 8)⟩])
 (.seq (.reg [⟨some 9, none, .makeMap 43 none⟩,
  ⟨some 4, none, .alloc 43⟩,
  ⟨none, none, .store 43 (.tmp 4) (.tmp 9)⟩])
 (.seq (.seq (.reg [⟨some 10, none, .move (.tmp 3)⟩,
  ⟨some 11, none, .call { callee := .builtin .len, args := #[.tmp 10], argTypes := #[42] }⟩,
  ⟨some 12, none, .move (.const (.int .i64 0))⟩])
 (.block 0 (.loop L13_0)))
 (.seq (.reg [⟨some 62, none, .load 43 (.tmp 4)⟩,
  ⟨some 63, none, .call { callee := .value (.func 28), args := #[.tmp 62], argTypes := #[43] }⟩,
  ⟨some 2, none, .assign (.tmp 63)⟩])
 (.ret)))))
theorem k13 : codeAt Try.prog 13 = some (K13, #[.tmp 2], 64) := by kernel_rfl
/-- pontoon/pontoonref07.Writes -/
noncomputable def L14_0 : AC := .seq (.seq (.reg [⟨some 6, none, .move (.tmp 4)⟩,
  ⟨some 7, none, .move (.tmp 0)⟩,
  ⟨some 8, none, .call { callee := .builtin .len, args := #[.tmp 7], argTypes := #[22] }⟩,
  ⟨some 9, none, .binOp .lss 3 (.tmp 6) (.tmp 8) 3⟩])
 (.cond (.tmp 9) (.skip) (.exit 0)))
 (.seq (.block 1 (.seq (.seq (.reg [⟨some 12, none, .move (.tmp 0)⟩,
  ⟨some 13, none, .move (.tmp 4)⟩,
  ⟨some 14, none, .call { callee := .value (.func 29), args := #[.tmp 12, .tmp 13, .const (.string ⟨⟨[116, 114, 117, 110, 99, 97, 116, 101]⟩⟩)], argTypes := #[22, 3, 9] }⟩])
 (.cond (.tmp 14) (.reg [⟨some 15, none, .move (.tmp 3)⟩,
  ⟨some 16, none, .move (.tmp 0)⟩,
  ⟨some 17, none, .move (.tmp 4)⟩,
  ⟨some 18, none, .binOp .add 3 (.tmp 17) (.const (.int .i64 1)) 3⟩,
  ⟨some 19, none, .call { callee := .value (.func 31), args := #[.tmp 16, .tmp 18], argTypes := #[22, 3] }⟩,
  ⟨some 20, none, .call { callee := .value (.func 30), args := #[.tmp 15, .tmp 19], argTypes := #[26, 26] }⟩,
  ⟨some 3, none, .assign (.tmp 20)⟩]) (.skip)))
 (.seq (.reg [⟨some 21, none, .move (.tmp 0)⟩,
  ⟨some 22, none, .move (.tmp 4)⟩,
  ⟨some 23, none, .call { callee := .value (.func 29), args := #[.tmp 21, .tmp 22, .const (.string ⟨⟨[105, 110, 116, 111]⟩⟩)], argTypes := #[22, 3, 9] }⟩,
  ⟨some 24, none, .move (.tmp 23)⟩,
  ⟨some 25, some (24, false), .move (.tmp 0)⟩,
  ⟨some 26, some (24, false), .move (.tmp 4)⟩,
  ⟨some 27, some (24, false), .call { callee := .value (.func 29), args := #[.tmp 25, .tmp 26, .const (.string ⟨⟨[117, 112, 100, 97, 116, 101]⟩⟩)], argTypes := #[22, 3, 9] }⟩,
  ⟨some 28, some (24, false), .move (.tmp 27)⟩,
  ⟨some 29, some (28, true), .move (.tmp 0)⟩,
  ⟨some 30, some (28, true), .move (.tmp 4)⟩,
  ⟨some 31, some (28, true), .binOp .sub 3 (.tmp 30) (.const (.int .i64 1)) 3⟩,
  ⟨some 32, some (28, true), .call { callee := .value (.func 29), args := #[.tmp 29, .tmp 31, .const (.string ⟨⟨[102, 111, 114]⟩⟩)], argTypes := #[22, 3, 9] }⟩,
  ⟨some 33, some (28, true), .unOp .not 4 (.tmp 32)⟩,
  ⟨some 34, some (24, false), .pick (.tmp 28) (.tmp 33) (.const (.bool false))⟩,
  ⟨some 35, none, .pick (.tmp 24) (.const (.bool true)) (.tmp 34)⟩,
  ⟨some 36, none, .move (.tmp 35)⟩,
  ⟨some 37, some (36, false), .move (.tmp 0)⟩,
  ⟨some 38, some (36, false), .move (.tmp 4)⟩,
  ⟨some 39, some (36, false), .call { callee := .value (.func 29), args := #[.tmp 37, .tmp 38, .const (.string ⟨⟨[102, 114, 111, 109]⟩⟩)], argTypes := #[22, 3, 9] }⟩,
  ⟨some 40, some (36, false), .move (.tmp 39)⟩,
  ⟨some 41, some (40, true), .move (.tmp 0)⟩,
  ⟨some 42, some (40, true), .move (.tmp 4)⟩,
  ⟨some 43, some (40, true), .binOp .sub 3 (.tmp 42) (.const (.int .i64 1)) 3⟩,
  ⟨some 44, some (40, true), .call { callee := .value (.func 29), args := #[.tmp 41, .tmp 43, .const (.string ⟨⟨[100, 101, 108, 101, 116, 101]⟩⟩)], argTypes := #[22, 3, 9] }⟩,
  ⟨some 45, some (36, false), .pick (.tmp 40) (.tmp 44) (.const (.bool false))⟩,
  ⟨some 46, none, .pick (.tmp 36) (.const (.bool true)) (.tmp 45)⟩])
 (.cond (.tmp 46) (.seq (.reg [⟨some 47, none, .move (.tmp 0)⟩,
  ⟨some 48, none, .move (.tmp 4)⟩,
  ⟨some 49, none, .binOp .add 3 (.tmp 48) (.const (.int .i64 1)) 3⟩,
  ⟨some 50, none, .call { callee := .value (.func 31), args := #[.tmp 47, .tmp 49], argTypes := #[22, 3] }⟩,
  ⟨some 5, none, .assign (.tmp 50)⟩])
 (.reg [⟨some 51, none, .move (.tmp 3)⟩,
  ⟨some 52, none, .move (.tmp 5)⟩,
  ⟨some 53, none, .move (.tmp 5)⟩,
  ⟨some 54, none, .call { callee := .builtin .len, args := #[.tmp 53], argTypes := #[26] }⟩,
  ⟨some 55, none, .call { callee := .builtin .min, args := #[.tmp 54, .const (.int .i64 1)], argTypes := #[3, 3] }⟩,
  ⟨some 56, none, .slice 26 (.tmp 52) none (some (.tmp 55)) none⟩,
  ⟨some 57, none, .call { callee := .value (.func 30), args := #[.tmp 51, .tmp 56], argTypes := #[26, 26] }⟩,
  ⟨some 3, none, .assign (.tmp 57)⟩])) (.skip)))))
 (.reg [⟨some 10, none, .move (.tmp 4)⟩,
  ⟨some 11, none, .binOp .add 3 (.tmp 10) (.const (.int .i64 1)) 3⟩,
  ⟨some 4, none, .assign (.tmp 11)⟩]))
noncomputable def K14 : AC := .seq (.reg [⟨some 2, none, .assign (.const (.slice none 0 0))⟩])
 (.seq (.reg [⟨some 3, none, .assign (.const (.slice none 0 0))⟩])
 (.seq (.seq (.reg [⟨some 4, none, .assign (.const (.int .i64 0))⟩])
 (.block 0 (.loop L14_0)))
 (.seq (.reg [⟨some 58, none, .move (.tmp 3)⟩,
  ⟨some 2, none, .assign (.tmp 58)⟩])
 (.ret))))
theorem k14 : codeAt Try.prog 14 = some (K14, #[.tmp 2], 59) := by kernel_rfl
/-- pontoon/pontoonref07.Same -/
noncomputable def K15 : AC := .seq (.reg [⟨some 2, none, .box 30 (.tmp 0)⟩,
  ⟨some 3, none, .box 30 (.tmp 1)⟩,
  ⟨some 4, none, .assign (.const (.bool false))⟩])
 (.seq (.reg [⟨some 5, none, .fieldAddr 30 (.tmp 2) 0⟩,
  ⟨some 6, none, .load 3 (.tmp 5)⟩,
  ⟨some 7, none, .fieldAddr 30 (.tmp 3) 0⟩,
  ⟨some 8, none, .load 3 (.tmp 7)⟩,
  ⟨some 9, none, .binOp .eql 3 (.tmp 6) (.tmp 8) 3⟩,
  ⟨some 10, none, .move (.tmp 9)⟩,
  ⟨some 11, some (10, true), .fieldAddr 30 (.tmp 2) 1⟩,
  ⟨some 12, some (10, true), .load 26 (.tmp 11)⟩,
  ⟨some 13, some (10, true), .fieldAddr 30 (.tmp 3) 1⟩,
  ⟨some 14, some (10, true), .load 26 (.tmp 13)⟩,
  ⟨some 15, some (10, true), .call { callee := .value (.func 10), args := #[.tmp 12, .tmp 14], argTypes := #[26, 26] }⟩,
  ⟨some 16, none, .pick (.tmp 10) (.tmp 15) (.const (.bool false))⟩,
  ⟨some 17, none, .move (.tmp 16)⟩,
  ⟨some 18, some (17, true), .fieldAddr 30 (.tmp 2) 2⟩,
  ⟨some 19, some (17, true), .load 26 (.tmp 18)⟩,
  ⟨some 20, some (17, true), .fieldAddr 30 (.tmp 3) 2⟩,
  ⟨some 21, some (17, true), .load 26 (.tmp 20)⟩,
  ⟨some 22, some (17, true), .call { callee := .value (.func 10), args := #[.tmp 19, .tmp 21], argTypes := #[26, 26] }⟩,
  ⟨some 23, none, .pick (.tmp 17) (.tmp 22) (.const (.bool false))⟩,
  ⟨some 24, none, .move (.tmp 23)⟩,
  ⟨some 25, some (24, true), .fieldAddr 30 (.tmp 2) 3⟩,
  ⟨some 26, some (24, true), .load 9 (.tmp 25)⟩,
  ⟨some 27, some (24, true), .fieldAddr 30 (.tmp 3) 3⟩,
  ⟨some 28, some (24, true), .load 9 (.tmp 27)⟩,
  ⟨some 29, some (24, true), .binOp .eql 9 (.tmp 26) (.tmp 28) 9⟩,
  ⟨some 30, none, .pick (.tmp 24) (.tmp 29) (.const (.bool false))⟩,
  ⟨some 4, none, .assign (.tmp 30)⟩])
 (.ret))
theorem k15 : codeAt Try.prog 15 = some (K15, #[.tmp 4], 31) := by kernel_rfl
/-- pontoon/sets.Of -/
noncomputable def K16 : AC := .seq (.reg [⟨some 2, none, .alloc 30⟩])
 (.seq (.reg [⟨some 4, none, .move (.tmp 0)⟩,
  ⟨some 5, none, .call { callee := .value (.func 33), args := #[.tmp 4], argTypes := #[22] }⟩,
  ⟨some 6, none, .move (.tmp 0)⟩,
  ⟨some 7, none, .call { callee := .value (.func 34), args := #[.tmp 6], argTypes := #[22] }⟩,
  ⟨some 8, none, .build 30 #[(0, .tmp 5), (3, .tmp 7)]⟩,
  ⟨some 3, none, .alloc 30⟩,
  ⟨none, none, .store 30 (.tmp 3) (.tmp 8)⟩])
 (.seq (.seq (.reg [⟨some 9, none, .fieldAddr 30 (.tmp 3) 0⟩,
  ⟨some 10, none, .load 3 (.tmp 9)⟩])
 (.block 0 (.seq (.reg [⟨some 12, none, .binOp .eql 3 (.tmp 10) (.const (.int .i64 2)) 3⟩,
  ⟨some 11, none, .assign (.tmp 12)⟩])
 (.cond (.tmp 11) (.reg [⟨some 13, none, .move (.tmp 0)⟩,
  ⟨some 14, none, .call { callee := .value (.func 11), args := #[.tmp 13], argTypes := #[22] }⟩,
  ⟨some 15, none, .move (.tmp 0)⟩,
  ⟨some 16, none, .call { callee := .value (.func 13), args := #[.tmp 15], argTypes := #[22] }⟩,
  ⟨some 17, none, .fieldAddr 30 (.tmp 3) 1⟩,
  ⟨none, none, .store 26 (.tmp 17) (.tmp 14)⟩,
  ⟨some 18, none, .fieldAddr 30 (.tmp 3) 2⟩,
  ⟨none, none, .store 26 (.tmp 18) (.tmp 16)⟩]) (.seq (.seq (.reg [⟨some 20, none, .binOp .eql 3 (.tmp 10) (.const (.int .i64 1)) 3⟩,
  ⟨some 19, none, .assign (.tmp 20)⟩])
 (.cond (.tmp 19) (.skip) (.reg [⟨some 21, none, .binOp .eql 3 (.tmp 10) (.const (.int .i64 7)) 3⟩,
  ⟨some 19, none, .assign (.tmp 21)⟩])))
 (.cond (.tmp 19) (.reg [⟨some 22, none, .move (.tmp 0)⟩,
  ⟨some 23, none, .call { callee := .value (.func 11), args := #[.tmp 22], argTypes := #[22] }⟩,
  ⟨some 24, none, .fieldAddr 30 (.tmp 3) 1⟩,
  ⟨none, none, .store 26 (.tmp 24) (.tmp 23)⟩]) (.skip)))))))
 (.seq (.reg [⟨some 25, none, .load 30 (.tmp 3)⟩,
  ⟨none, none, .store 30 (.tmp 2) (.tmp 25)⟩])
 (.ret))))
theorem k16 : codeAt Try.prog 16 = some (K16, #[.cell 2 30], 26) := by kernel_rfl
/-- pontoon/pontoonref07.Of -/
noncomputable def K17 : AC := .seq (.reg [⟨some 2, none, .alloc 30⟩])
 (.seq (.reg [⟨some 4, none, .move (.tmp 0)⟩,
  ⟨some 5, none, .call { callee := .value (.func 35), args := #[.tmp 4], argTypes := #[22] }⟩,
  ⟨some 6, none, .move (.tmp 0)⟩,
  ⟨some 7, none, .call { callee := .value (.func 36), args := #[.tmp 6], argTypes := #[22] }⟩,
  ⟨some 8, none, .build 30 #[(0, .tmp 5), (3, .tmp 7)]⟩,
  ⟨some 3, none, .alloc 30⟩,
  ⟨none, none, .store 30 (.tmp 3) (.tmp 8)⟩])
 (.seq (.seq (.reg [⟨some 9, none, .fieldAddr 30 (.tmp 3) 0⟩,
  ⟨some 10, none, .load 3 (.tmp 9)⟩,
  ⟨some 11, none, .binOp .eql 3 (.tmp 10) (.const (.int .i64 1)) 3⟩,
  ⟨some 12, none, .move (.tmp 11)⟩,
  ⟨some 13, some (12, false), .fieldAddr 30 (.tmp 3) 0⟩,
  ⟨some 14, some (12, false), .load 3 (.tmp 13)⟩,
  ⟨some 15, some (12, false), .binOp .eql 3 (.tmp 14) (.const (.int .i64 2)) 3⟩,
  ⟨some 16, none, .pick (.tmp 12) (.const (.bool true)) (.tmp 15)⟩,
  ⟨some 17, none, .move (.tmp 16)⟩,
  ⟨some 18, some (17, false), .fieldAddr 30 (.tmp 3) 0⟩,
  ⟨some 19, some (17, false), .load 3 (.tmp 18)⟩,
  ⟨some 20, some (17, false), .binOp .eql 3 (.tmp 19) (.const (.int .i64 7)) 3⟩,
  ⟨some 21, none, .pick (.tmp 17) (.const (.bool true)) (.tmp 20)⟩])
 (.cond (.tmp 21) (.reg [⟨some 22, none, .move (.tmp 0)⟩,
  ⟨some 23, none, .call { callee := .value (.func 12), args := #[.tmp 22], argTypes := #[22] }⟩,
  ⟨some 24, none, .fieldAddr 30 (.tmp 3) 1⟩,
  ⟨none, none, .store 26 (.tmp 24) (.tmp 23)⟩]) (.skip)))
 (.seq (.seq (.reg [⟨some 25, none, .fieldAddr 30 (.tmp 3) 0⟩,
  ⟨some 26, none, .load 3 (.tmp 25)⟩,
  ⟨some 27, none, .binOp .eql 3 (.tmp 26) (.const (.int .i64 2)) 3⟩])
 (.cond (.tmp 27) (.reg [⟨some 28, none, .move (.tmp 0)⟩,
  ⟨some 29, none, .call { callee := .value (.func 14), args := #[.tmp 28], argTypes := #[22] }⟩,
  ⟨some 30, none, .fieldAddr 30 (.tmp 3) 2⟩,
  ⟨none, none, .store 26 (.tmp 30) (.tmp 29)⟩]) (.skip)))
 (.seq (.reg [⟨some 31, none, .load 30 (.tmp 3)⟩,
  ⟨none, none, .store 30 (.tmp 2) (.tmp 31)⟩])
 (.ret)))))
theorem k17 : codeAt Try.prog 17 = some (K17, #[.cell 2 30], 32) := by kernel_rfl
/-- pontoon/pontoonref04.Same -/
def D18_6 : List (Bool × AOp) := [(false, ⟨some 19, none, .move (.tmp 0)⟩),
  (false, ⟨some 20, none, .move (.tmp 7)⟩),
  (false, ⟨some 21, none, .indexAddr 22 (.tmp 19) (.tmp 20)⟩),
  (false, ⟨some 22, none, .fieldAddr 40 (.tmp 21) 0⟩),
  (false, ⟨some 23, none, .load 3 (.tmp 22)⟩),
  (false, ⟨some 24, none, .move (.tmp 1)⟩),
  (false, ⟨some 25, none, .move (.tmp 7)⟩),
  (false, ⟨some 26, none, .indexAddr 22 (.tmp 24) (.tmp 25)⟩),
  (false, ⟨some 27, none, .fieldAddr 40 (.tmp 26) 0⟩),
  (false, ⟨some 28, none, .load 3 (.tmp 27)⟩),
  (false, ⟨some 29, none, .binOp .neq 3 (.tmp 23) (.tmp 28) 3⟩),
  (false, ⟨some 30, none, .move (.tmp 29)⟩),
  (false, ⟨some 31, some (30, false), .move (.tmp 0)⟩),
  (false, ⟨some 32, some (30, false), .move (.tmp 7)⟩),
  (false, ⟨some 33, some (30, false), .indexAddr 22 (.tmp 31) (.tmp 32)⟩),
  (false, ⟨some 34, some (30, false), .fieldAddr 40 (.tmp 33) 1⟩),
  (false, ⟨some 35, some (30, false), .load 9 (.tmp 34)⟩),
  (false, ⟨some 36, some (30, false), .move (.tmp 1)⟩),
  (false, ⟨some 37, some (30, false), .move (.tmp 7)⟩),
  (false, ⟨some 38, some (30, false), .indexAddr 22 (.tmp 36) (.tmp 37)⟩),
  (false, ⟨some 39, some (30, false), .fieldAddr 40 (.tmp 38) 1⟩),
  (false, ⟨some 40, some (30, false), .load 9 (.tmp 39)⟩),
  (false, ⟨some 41, some (30, false), .binOp .neq 9 (.tmp 35) (.tmp 40) 9⟩),
  (false, ⟨some 42, none, .pick (.tmp 30) (.const (.bool true)) (.tmp 41)⟩),
  (false, ⟨some 43, none, .move (.tmp 42)⟩),
  (false, ⟨some 44, some (43, false), .move (.tmp 2)⟩),
  (false, ⟨some 45, some (43, false), .move (.tmp 44)⟩),
  (false, ⟨some 46, some (45, true), .move (.tmp 0)⟩),
  (false, ⟨some 47, some (45, true), .move (.tmp 7)⟩),
  (false, ⟨some 48, some (45, true), .indexAddr 22 (.tmp 46) (.tmp 47)⟩),
  (false, ⟨some 49, some (45, true), .fieldAddr 40 (.tmp 48) 2⟩),
  (false, ⟨some 50, some (45, true), .load 3 (.tmp 49)⟩),
  (false, ⟨some 51, some (45, true), .move (.tmp 1)⟩),
  (false, ⟨some 52, some (45, true), .move (.tmp 7)⟩),
  (false, ⟨some 53, some (45, true), .indexAddr 22 (.tmp 51) (.tmp 52)⟩),
  (false, ⟨some 54, some (45, true), .fieldAddr 40 (.tmp 53) 2⟩),
  (false, ⟨some 55, some (45, true), .load 3 (.tmp 54)⟩),
  (false, ⟨some 56, some (45, true), .binOp .neq 3 (.tmp 50) (.tmp 55) 3⟩),
  (false, ⟨some 57, some (43, false), .pick (.tmp 45) (.tmp 56) (.const (.bool false))⟩),
  (false, ⟨some 58, none, .pick (.tmp 43) (.const (.bool true)) (.tmp 57)⟩)]
theorem d18_6 : drawList E.pure 59 (regionOf Try.f18 6) = some D18_6 := by kernel_rfl
@[go_sem] theorem e18_6 (s : Slots) (H : AHeap) (Q : QT) : C (cxV E) (.draw 59 (regionOf Try.f18 6)) s H Q = XD (cxV E) D18_6 s H (Qr Q) := C_draw_eq d18_6 s H Q
noncomputable def L18_0 : AC := .seq (.seq (.reg [⟨some 13, none, .move (.tmp 7)⟩,
  ⟨some 14, none, .move (.tmp 0)⟩,
  ⟨some 15, none, .call { callee := .builtin .len, args := #[.tmp 14], argTypes := #[22] }⟩,
  ⟨some 16, none, .binOp .lss 3 (.tmp 13) (.tmp 15) 3⟩])
 (.cond (.tmp 16) (.skip) (.exit 0)))
 (.seq (.block 1 (.seq (.draw 59 (regionOf Try.f18 6))
 (.cond (.tmp 58) (.seq (.reg [⟨some 6, none, .assign (.const (.bool false))⟩])
 (.ret)) (.skip))))
 (.reg [⟨some 17, none, .move (.tmp 7)⟩,
  ⟨some 18, none, .binOp .add 3 (.tmp 17) (.const (.int .i64 1)) 3⟩,
  ⟨some 7, none, .assign (.tmp 18)⟩]))
noncomputable def K18 : AC := .seq (.reg [⟨some 6, none, .assign (.const (.bool false))⟩])
 (.seq (.seq (.reg [⟨some 8, none, .move (.tmp 0)⟩,
  ⟨some 9, none, .call { callee := .builtin .len, args := #[.tmp 8], argTypes := #[22] }⟩,
  ⟨some 10, none, .move (.tmp 1)⟩,
  ⟨some 11, none, .call { callee := .builtin .len, args := #[.tmp 10], argTypes := #[22] }⟩,
  ⟨some 12, none, .binOp .neq 3 (.tmp 9) (.tmp 11) 3⟩])
 (.cond (.tmp 12) (.seq (.reg [⟨some 6, none, .assign (.const (.bool false))⟩])
 (.ret)) (.skip)))
 (.seq (.seq (.reg [⟨some 7, none, .assign (.const (.int .i64 0))⟩])
 (.block 0 (.loop L18_0)))
 (.seq (.reg [⟨some 6, none, .assign (.const (.bool true))⟩])
 (.ret))))
theorem k18 : codeAt Try.prog 18 = some (K18, #[.tmp 6], 59) := by kernel_rfl
/-- pontoon/sets.Parse -/
noncomputable def K19 : AC := .seq (.reg [⟨some 2, none, .alloc 30⟩,
  ⟨some 3, none, .assign (.const (.int .i64 0))⟩])
 (.seq (.reg [⟨some 9, none, .move (.tmp 0)⟩,
  ⟨some 10, none, .call { callee := .value (.func 37), args := #[.tmp 9], argTypes := #[9] }⟩,
  ⟨some 8, none, .move (.tmp 10)⟩,
  ⟨some 11, none, .extract (.tmp 8) 0⟩,
  ⟨some 12, none, .extract (.tmp 8) 1⟩,
  ⟨some 13, none, .extract (.tmp 8) 2⟩,
  ⟨some 4, none, .assign (.tmp 11)⟩,
  ⟨some 5, none, .assign (.tmp 12)⟩,
  ⟨some 6, none, .assign (.tmp 13)⟩])
 (.seq (.seq (.reg [⟨some 14, none, .move (.tmp 5)⟩,
  ⟨some 15, none, .binOp .neq 33 (.tmp 14) (.const (.int .i64 0)) 33⟩])
 (.cond (.tmp 15) (.seq (.reg [⟨some 16, none, .build 30 #[]⟩,
  ⟨some 17, none, .move (.tmp 5)⟩,
  ⟨none, none, .store 30 (.tmp 2) (.tmp 16)⟩,
  ⟨some 3, none, .assign (.tmp 17)⟩])
 (.ret)) (.skip)))
 (.seq (.seq (.reg [⟨some 18, none, .move (.tmp 4)⟩,
  ⟨some 19, none, .call { callee := .value (.func 38), args := #[.tmp 18], argTypes := #[22] }⟩,
  ⟨some 7, none, .assign (.tmp 19)⟩])
 (.seq (.reg [⟨some 20, none, .move (.tmp 7)⟩,
  ⟨some 21, none, .call { callee := .builtin .len, args := #[.tmp 20], argTypes := #[54] }⟩])
 (.block 0 (.seq (.reg [⟨some 23, none, .binOp .eql 3 (.tmp 21) (.const (.int .i64 0)) 3⟩,
  ⟨some 22, none, .assign (.tmp 23)⟩])
 (.cond (.tmp 22) (.seq (.reg [⟨some 24, none, .call { callee := .value (.func 16), args := #[.const (.slice none 0 0)], argTypes := #[22] }⟩,
  ⟨none, none, .store 30 (.tmp 2) (.tmp 24)⟩,
  ⟨some 3, none, .assign (.const (.int .i64 0))⟩])
 (.ret)) (.seq (.reg [⟨some 26, none, .binOp .eql 3 (.tmp 21) (.const (.int .i64 1)) 3⟩,
  ⟨some 25, none, .assign (.tmp 26)⟩])
 (.cond (.tmp 25) (.seq (.reg [⟨some 27, none, .move (.tmp 7)⟩,
  ⟨some 28, none, .indexAddr 54 (.tmp 27) (.const (.int .i64 0))⟩,
  ⟨some 29, none, .load 22 (.tmp 28)⟩,
  ⟨some 30, none, .call { callee := .value (.func 16), args := #[.tmp 29], argTypes := #[22] }⟩,
  ⟨none, none, .store 30 (.tmp 2) (.tmp 30)⟩,
  ⟨some 3, none, .assign (.const (.int .i64 0))⟩])
 (.ret)) (.skip))))))))
 (.seq (.reg [⟨some 31, none, .build 30 #[]⟩,
  ⟨none, none, .store 30 (.tmp 2) (.tmp 31)⟩,
  ⟨some 3, none, .assign (.const (.int .i64 4))⟩])
 (.ret)))))
theorem k19 : codeAt Try.prog 19 = some (K19, #[.cell 2 30, .tmp 3], 32) := by kernel_rfl
/-- pontoon/pontoonref07.Parse -/
noncomputable def K20 : AC := .seq (.reg [⟨some 2, none, .alloc 30⟩,
  ⟨some 3, none, .assign (.const (.int .i64 0))⟩])
 (.seq (.reg [⟨some 9, none, .move (.tmp 0)⟩,
  ⟨some 10, none, .call { callee := .value (.func 39), args := #[.tmp 9], argTypes := #[9] }⟩,
  ⟨some 8, none, .move (.tmp 10)⟩,
  ⟨some 11, none, .extract (.tmp 8) 0⟩,
  ⟨some 12, none, .extract (.tmp 8) 1⟩,
  ⟨some 13, none, .extract (.tmp 8) 2⟩,
  ⟨some 4, none, .assign (.tmp 11)⟩,
  ⟨some 5, none, .assign (.tmp 12)⟩,
  ⟨some 6, none, .assign (.tmp 13)⟩])
 (.seq (.seq (.reg [⟨some 14, none, .move (.tmp 5)⟩,
  ⟨some 15, none, .binOp .neq 33 (.tmp 14) (.const (.int .i64 0)) 33⟩])
 (.cond (.tmp 15) (.seq (.reg [⟨some 16, none, .build 30 #[]⟩,
  ⟨some 17, none, .move (.tmp 5)⟩,
  ⟨none, none, .store 30 (.tmp 2) (.tmp 16)⟩,
  ⟨some 3, none, .assign (.tmp 17)⟩])
 (.ret)) (.skip)))
 (.seq (.reg [⟨some 18, none, .move (.tmp 4)⟩,
  ⟨some 19, none, .call { callee := .value (.func 40), args := #[.tmp 18], argTypes := #[22] }⟩,
  ⟨some 7, none, .assign (.tmp 19)⟩])
 (.seq (.seq (.reg [⟨some 20, none, .move (.tmp 7)⟩,
  ⟨some 21, none, .call { callee := .builtin .len, args := #[.tmp 20], argTypes := #[54] }⟩,
  ⟨some 22, none, .binOp .gtr 3 (.tmp 21) (.const (.int .i64 1)) 3⟩])
 (.cond (.tmp 22) (.seq (.reg [⟨some 23, none, .build 30 #[]⟩,
  ⟨none, none, .store 30 (.tmp 2) (.tmp 23)⟩,
  ⟨some 3, none, .assign (.const (.int .i64 4))⟩])
 (.ret)) (.skip)))
 (.seq (.seq (.reg [⟨some 24, none, .move (.tmp 7)⟩,
  ⟨some 25, none, .call { callee := .builtin .len, args := #[.tmp 24], argTypes := #[54] }⟩,
  ⟨some 26, none, .binOp .eql 3 (.tmp 25) (.const (.int .i64 0)) 3⟩])
 (.cond (.tmp 26) (.seq (.reg [⟨some 27, none, .call { callee := .value (.func 17), args := #[.const (.slice none 0 0)], argTypes := #[22] }⟩,
  ⟨none, none, .store 30 (.tmp 2) (.tmp 27)⟩,
  ⟨some 3, none, .assign (.const (.int .i64 0))⟩])
 (.ret)) (.skip)))
 (.seq (.reg [⟨some 28, none, .move (.tmp 7)⟩,
  ⟨some 29, none, .indexAddr 54 (.tmp 28) (.const (.int .i64 0))⟩,
  ⟨some 30, none, .load 22 (.tmp 29)⟩,
  ⟨some 31, none, .call { callee := .value (.func 17), args := #[.tmp 30], argTypes := #[22] }⟩,
  ⟨none, none, .store 30 (.tmp 2) (.tmp 31)⟩,
  ⟨some 3, none, .assign (.const (.int .i64 0))⟩])
 (.ret)))))))
theorem k20 : codeAt Try.prog 20 = some (K20, #[.cell 2 30, .tmp 3], 32) := by kernel_rfl
/-- pontoon/sets.Meets -/
noncomputable def L21_0 : AC := .seq (.reg [⟨some 14, none, .binOp .lss 3 (.tmp 13) (.tmp 12) 3⟩])
 (.seq (.cond (.tmp 14) (.skip) (.exit 0))
 (.seq (.block 1 (.seq (.reg [⟨some 15, none, .indexAddr 26 (.tmp 11) (.tmp 13)⟩,
  ⟨some 16, none, .load 9 (.tmp 15)⟩,
  ⟨some 7, none, .assign (.tmp 16)⟩])
 (.reg [⟨some 17, none, .move (.tmp 5)⟩,
  ⟨some 18, none, .move (.tmp 7)⟩,
  ⟨some 19, none, .lookup 43 (.tmp 17) (.tmp 18) false⟩,
  ⟨some 20, none, .binOp .add 3 (.tmp 19) (.const (.int .i64 1)) 3⟩,
  ⟨none, none, .mapUpdate 43 (.tmp 17) (.tmp 18) (.tmp 20)⟩])))
 (.reg [⟨some 21, none, .binOp .add 3 (.tmp 13) (.const (.int .i64 1)) 3⟩,
  ⟨some 13, none, .move (.tmp 21)⟩])))
noncomputable def L21_1 : AC := .seq (.reg [⟨some 25, none, .binOp .lss 3 (.tmp 24) (.tmp 23) 3⟩])
 (.seq (.cond (.tmp 25) (.skip) (.exit 2))
 (.seq (.block 3 (.seq (.reg [⟨some 26, none, .indexAddr 26 (.tmp 22) (.tmp 24)⟩,
  ⟨some 27, none, .load 9 (.tmp 26)⟩,
  ⟨some 9, none, .assign (.tmp 27)⟩])
 (.seq (.reg [⟨some 28, none, .move (.tmp 5)⟩,
  ⟨some 29, none, .move (.tmp 9)⟩,
  ⟨some 30, none, .lookup 43 (.tmp 28) (.tmp 29) false⟩,
  ⟨some 31, none, .binOp .gtr 3 (.tmp 30) (.const (.int .i64 0)) 3⟩])
 (.cond (.tmp 31) (.seq (.reg [⟨some 4, none, .assign (.const (.bool true))⟩])
 (.ret)) (.skip)))))
 (.reg [⟨some 32, none, .binOp .add 3 (.tmp 24) (.const (.int .i64 1)) 3⟩,
  ⟨some 24, none, .move (.tmp 32)⟩])))
noncomputable def K21 : AC := .seq (.reg [⟨some 4, none, .assign (.const (.bool false))⟩])
 (.seq (.reg [⟨some 10, none, .makeMap 43 none⟩,
  ⟨some 5, none, .assign (.tmp 10)⟩])
 (.seq (.seq (.reg [⟨some 11, none, .move (.tmp 0)⟩,
  ⟨some 12, none, .call { callee := .builtin .len, args := #[.tmp 11], argTypes := #[26] }⟩,
  ⟨some 13, none, .move (.const (.int .i64 0))⟩])
 (.block 0 (.loop L21_0)))
 (.seq (.seq (.reg [⟨some 22, none, .move (.tmp 1)⟩,
  ⟨some 23, none, .call { callee := .builtin .len, args := #[.tmp 22], argTypes := #[26] }⟩,
  ⟨some 24, none, .move (.const (.int .i64 0))⟩])
 (.block 2 (.loop L21_1)))
 (.seq (.reg [⟨some 4, none, .assign (.const (.bool false))⟩])
 (.ret)))))
theorem k21 : codeAt Try.prog 21 = some (K21, #[.tmp 4], 33) := by kernel_rfl
/-- pontoon/pontoonref07.Meets -/
noncomputable def L22_0 : AC := .seq (.seq (.reg [⟨some 6, none, .move (.tmp 5)⟩,
  ⟨some 7, none, .move (.tmp 0)⟩,
  ⟨some 8, none, .call { callee := .builtin .len, args := #[.tmp 7], argTypes := #[26] }⟩,
  ⟨some 9, none, .binOp .lss 3 (.tmp 6) (.tmp 8) 3⟩])
 (.cond (.tmp 9) (.skip) (.exit 0)))
 (.seq (.block 1 (.seq (.reg [⟨some 12, none, .move (.tmp 1)⟩,
  ⟨some 13, none, .move (.tmp 0)⟩,
  ⟨some 14, none, .move (.tmp 5)⟩,
  ⟨some 15, none, .indexAddr 26 (.tmp 13) (.tmp 14)⟩,
  ⟨some 16, none, .load 9 (.tmp 15)⟩,
  ⟨some 17, none, .call { callee := .value (.func 41), args := #[.tmp 12, .tmp 16], argTypes := #[26, 9] }⟩])
 (.cond (.tmp 17) (.seq (.reg [⟨some 4, none, .assign (.const (.bool true))⟩])
 (.ret)) (.skip))))
 (.reg [⟨some 10, none, .move (.tmp 5)⟩,
  ⟨some 11, none, .binOp .add 3 (.tmp 10) (.const (.int .i64 1)) 3⟩,
  ⟨some 5, none, .assign (.tmp 11)⟩]))
noncomputable def K22 : AC := .seq (.reg [⟨some 4, none, .assign (.const (.bool false))⟩])
 (.seq (.seq (.reg [⟨some 5, none, .assign (.const (.int .i64 0))⟩])
 (.block 0 (.loop L22_0)))
 (.seq (.reg [⟨some 4, none, .assign (.const (.bool false))⟩])
 (.ret)))
theorem k22 : codeAt Try.prog 22 = some (K22, #[.tmp 4], 18) := by kernel_rfl
/-- pontoon/pontoonref07.Less -/
def D23_4 : List (Bool × AOp) := [(false, ⟨some 18, none, .move (.tmp 0)⟩),
  (false, ⟨some 19, none, .move (.tmp 5)⟩),
  (false, ⟨some 20, none, .index 9 (.tmp 18) (.tmp 19)⟩),
  (false, ⟨some 21, none, .move (.tmp 1)⟩),
  (false, ⟨some 22, none, .move (.tmp 5)⟩),
  (false, ⟨some 23, none, .index 9 (.tmp 21) (.tmp 22)⟩),
  (false, ⟨some 24, none, .binOp .neq 5 (.tmp 20) (.tmp 23) 5⟩)]
theorem d23_4 : drawList E.pure 37 (regionOf Try.f23 4) = some D23_4 := by kernel_rfl
@[go_sem] theorem e23_4 (s : Slots) (H : AHeap) (Q : QT) : C (cxV E) (.draw 37 (regionOf Try.f23 4)) s H Q = XD (cxV E) D23_4 s H (Qr Q) := C_draw_eq d23_4 s H Q
def D23_5 : List (Bool × AOp) := [(false, ⟨some 25, none, .move (.tmp 0)⟩),
  (false, ⟨some 26, none, .move (.tmp 5)⟩),
  (false, ⟨some 27, none, .index 9 (.tmp 25) (.tmp 26)⟩),
  (false, ⟨some 28, none, .move (.tmp 1)⟩),
  (false, ⟨some 29, none, .move (.tmp 5)⟩),
  (false, ⟨some 30, none, .index 9 (.tmp 28) (.tmp 29)⟩),
  (false, ⟨some 31, none, .binOp .lss 5 (.tmp 27) (.tmp 30) 5⟩),
  (false, ⟨some 4, none, .assign (.tmp 31)⟩)]
theorem d23_5 : drawList E.pure 37 (regionOf Try.f23 5) = some D23_5 := by kernel_rfl
@[go_sem] theorem e23_5 (s : Slots) (H : AHeap) (Q : QT) : C (cxV E) (.draw 37 (regionOf Try.f23 5)) s H Q = XD (cxV E) D23_5 s H (Qr Q) := C_draw_eq d23_5 s H Q
noncomputable def L23_0 : AC := .seq (.seq (.reg [⟨some 6, none, .move (.tmp 5)⟩,
  ⟨some 7, none, .move (.tmp 0)⟩,
  ⟨some 8, none, .call { callee := .builtin .len, args := #[.tmp 7], argTypes := #[9] }⟩,
  ⟨some 9, none, .binOp .lss 3 (.tmp 6) (.tmp 8) 3⟩,
  ⟨some 10, none, .move (.tmp 9)⟩,
  ⟨some 11, some (10, true), .move (.tmp 5)⟩,
  ⟨some 12, some (10, true), .move (.tmp 1)⟩,
  ⟨some 13, some (10, true), .call { callee := .builtin .len, args := #[.tmp 12], argTypes := #[9] }⟩,
  ⟨some 14, some (10, true), .binOp .lss 3 (.tmp 11) (.tmp 13) 3⟩,
  ⟨some 15, none, .pick (.tmp 10) (.tmp 14) (.const (.bool false))⟩])
 (.cond (.tmp 15) (.skip) (.exit 0)))
 (.seq (.block 1 (.seq (.draw 37 (regionOf Try.f23 4))
 (.cond (.tmp 24) (.seq (.draw 37 (regionOf Try.f23 5))
 (.ret)) (.skip))))
 (.reg [⟨some 16, none, .move (.tmp 5)⟩,
  ⟨some 17, none, .binOp .add 3 (.tmp 16) (.const (.int .i64 1)) 3⟩,
  ⟨some 5, none, .assign (.tmp 17)⟩]))
noncomputable def K23 : AC := .seq (.reg [⟨some 4, none, .assign (.const (.bool false))⟩])
 (.seq (.seq (.reg [⟨some 5, none, .assign (.const (.int .i64 0))⟩])
 (.block 0 (.loop L23_0)))
 (.seq (.reg [⟨some 32, none, .move (.tmp 0)⟩,
  ⟨some 33, none, .call { callee := .builtin .len, args := #[.tmp 32], argTypes := #[9] }⟩,
  ⟨some 34, none, .move (.tmp 1)⟩,
  ⟨some 35, none, .call { callee := .builtin .len, args := #[.tmp 34], argTypes := #[9] }⟩,
  ⟨some 36, none, .binOp .lss 3 (.tmp 33) (.tmp 35) 3⟩,
  ⟨some 4, none, .assign (.tmp 36)⟩])
 (.ret)))
theorem k23 : codeAt Try.prog 23 = some (K23, #[.tmp 4], 37) := by kernel_rfl
/-- pontoon/pontoonlaw07.tokens -/
noncomputable def K24 : AC := .seq (.reg [⟨some 2, none, .assign (.const (.slice none 0 0))⟩])
 (.seq (.reg [⟨some 7, none, .move (.tmp 0)⟩,
  ⟨some 8, none, .call { callee := .value (.func 39), args := #[.tmp 7], argTypes := #[9] }⟩,
  ⟨some 6, none, .move (.tmp 8)⟩,
  ⟨some 9, none, .extract (.tmp 6) 0⟩,
  ⟨some 10, none, .extract (.tmp 6) 1⟩,
  ⟨some 11, none, .extract (.tmp 6) 2⟩,
  ⟨some 3, none, .assign (.tmp 9)⟩,
  ⟨some 4, none, .assign (.tmp 10)⟩,
  ⟨some 5, none, .assign (.tmp 11)⟩])
 (.seq (.reg [⟨some 12, none, .move (.tmp 3)⟩,
  ⟨some 2, none, .assign (.tmp 12)⟩])
 (.ret)))
theorem k24 : codeAt Try.prog 24 = some (K24, #[.tmp 2], 13) := by kernel_rfl
/-- pontoon/sets.Reads$1 -/
noncomputable def K25 : AC := .seq (.reg [⟨some 3, none, .assign (.const (.bool false))⟩])
 (.seq (.reg [⟨some 4, none, .load 43 (.tmp 1)⟩,
  ⟨some 5, none, .move (.tmp 0)⟩,
  ⟨some 6, none, .lookup 43 (.tmp 4) (.tmp 5) false⟩,
  ⟨some 7, none, .binOp .add 3 (.tmp 6) (.const (.int .i64 1)) 3⟩,
  ⟨none, none, .mapUpdate 43 (.tmp 4) (.tmp 5) (.tmp 7)⟩])
 (.seq (.reg [⟨some 3, none, .assign (.const (.bool true))⟩])
 (.ret)))
theorem k25 : codeAt Try.prog 25 = some (K25, #[.tmp 3], 8) := by kernel_rfl
/-- (pontoon/sets.text).word -/
noncomputable def L26_0 : AC := .seq (.reg [⟨some 12, none, .binOp .lss 3 (.tmp 11) (.tmp 10) 3⟩])
 (.seq (.cond (.tmp 12) (.skip) (.exit 0))
 (.seq (.block 1 (.seq (.reg [⟨some 13, none, .indexAddr 26 (.tmp 9) (.tmp 11)⟩,
  ⟨some 14, none, .load 9 (.tmp 13)⟩,
  ⟨some 8, none, .assign (.tmp 14)⟩])
 (.seq (.reg [⟨some 15, none, .move (.tmp 0)⟩,
  ⟨some 16, none, .move (.tmp 1)⟩,
  ⟨some 17, none, .move (.tmp 8)⟩,
  ⟨some 18, none, .call { callee := .value (.func 42), args := #[.tmp 15, .tmp 16, .const (.int .i64 1), .tmp 17], argTypes := #[42, 3, 3, 9] }⟩])
 (.cond (.tmp 18) (.seq (.reg [⟨some 6, none, .assign (.const (.bool true))⟩])
 (.ret)) (.skip)))))
 (.reg [⟨some 19, none, .binOp .add 3 (.tmp 11) (.const (.int .i64 1)) 3⟩,
  ⟨some 11, none, .move (.tmp 19)⟩])))
noncomputable def K26 : AC := .seq (.reg [⟨some 6, none, .assign (.const (.bool false))⟩])
 (.seq (.seq (.reg [⟨some 9, none, .move (.tmp 2)⟩,
  ⟨some 10, none, .call { callee := .builtin .len, args := #[.tmp 9], argTypes := #[26] }⟩,
  ⟨some 11, none, .move (.const (.int .i64 0))⟩])
 (.block 0 (.loop L26_0)))
 (.seq (.reg [⟨some 6, none, .assign (.const (.bool false))⟩])
 (.ret)))
theorem k26 : codeAt Try.prog 26 = some (K26, #[.tmp 6], 20) := by kernel_rfl
/-- (pontoon/sets.text).names -/
noncomputable def L27_0 : AC := .block 1 (.seq (.seq (.reg [⟨some 7, none, .move (.tmp 0)⟩,
  ⟨some 8, none, .move (.tmp 1)⟩,
  ⟨some 9, none, .buildSlice 26 2 #[(0, .const (.string ⟨⟨[111, 110, 108, 121]⟩⟩)), (1, .const (.string ⟨⟨[116, 97, 98, 108, 101]⟩⟩))]⟩,
  ⟨some 10, none, .call { callee := .value (.func 26), args := #[.tmp 7, .tmp 8, .tmp 9], argTypes := #[42, 3, 26] }⟩])
 (.cond (.tmp 10) (.reg [⟨some 11, none, .move (.tmp 1)⟩,
  ⟨some 12, none, .binOp .add 3 (.tmp 11) (.const (.int .i64 1)) 3⟩,
  ⟨some 1, none, .assign (.tmp 12)⟩]) (.skip)))
 (.seq (.seq (.reg [⟨some 13, none, .move (.tmp 0)⟩,
  ⟨some 14, none, .move (.tmp 1)⟩,
  ⟨some 15, none, .call { callee := .value (.func 43), args := #[.tmp 13, .tmp 14], argTypes := #[42, 3] }⟩,
  ⟨some 16, none, .unOp .not 4 (.tmp 15)⟩])
 (.cond (.tmp 16) (.ret) (.skip)))
 (.seq (.reg [⟨some 17, none, .move (.tmp 0)⟩,
  ⟨some 18, none, .move (.tmp 1)⟩,
  ⟨some 19, none, .indexAddr 42 (.tmp 17) (.tmp 18)⟩,
  ⟨some 20, none, .fieldAddr 40 (.tmp 19) 1⟩,
  ⟨some 21, none, .load 9 (.tmp 20)⟩,
  ⟨some 6, none, .assign (.tmp 21)⟩])
 (.seq (.reg [⟨some 22, none, .move (.tmp 1)⟩,
  ⟨some 23, none, .binOp .add 3 (.tmp 22) (.const (.int .i64 1)) 3⟩,
  ⟨some 1, none, .assign (.tmp 23)⟩])
 (.seq (.seq (.reg [⟨some 24, none, .move (.tmp 0)⟩,
  ⟨some 25, none, .move (.tmp 1)⟩,
  ⟨some 26, none, .call { callee := .value (.func 42), args := #[.tmp 24, .tmp 25, .const (.int .i64 5), .const (.string ⟨⟨[46]⟩⟩)], argTypes := #[42, 3, 3, 9] }⟩,
  ⟨some 27, none, .move (.tmp 26)⟩,
  ⟨some 28, some (27, true), .move (.tmp 0)⟩,
  ⟨some 29, some (27, true), .move (.tmp 1)⟩,
  ⟨some 30, some (27, true), .binOp .add 3 (.tmp 29) (.const (.int .i64 1)) 3⟩,
  ⟨some 31, some (27, true), .call { callee := .value (.func 43), args := #[.tmp 28, .tmp 30], argTypes := #[42, 3] }⟩,
  ⟨some 32, none, .pick (.tmp 27) (.tmp 31) (.const (.bool false))⟩])
 (.cond (.tmp 32) (.seq (.reg [⟨some 33, none, .move (.tmp 6)⟩,
  ⟨some 34, none, .move (.tmp 0)⟩,
  ⟨some 35, none, .move (.tmp 1)⟩,
  ⟨some 36, none, .binOp .add 3 (.tmp 35) (.const (.int .i64 1)) 3⟩,
  ⟨some 37, none, .indexAddr 42 (.tmp 34) (.tmp 36)⟩,
  ⟨some 38, none, .fieldAddr 40 (.tmp 37) 1⟩,
  ⟨some 39, none, .load 9 (.tmp 38)⟩,
  ⟨some 40, none, .binOp .add 9 (.const (.string ⟨⟨[46]⟩⟩)) (.tmp 39) 9⟩,
  ⟨some 41, none, .binOp .add 9 (.tmp 33) (.tmp 40) 9⟩,
  ⟨some 6, none, .assign (.tmp 41)⟩])
 (.reg [⟨some 42, none, .move (.tmp 1)⟩,
  ⟨some 43, none, .binOp .add 3 (.tmp 42) (.const (.int .i64 2)) 3⟩,
  ⟨some 1, none, .assign (.tmp 43)⟩])) (.skip)))
 (.seq (.seq (.reg [⟨some 44, none, .move (.tmp 2)⟩,
  ⟨some 45, none, .move (.tmp 6)⟩,
  ⟨some 46, none, .call { callee := .value (.tmp 44), args := #[.tmp 45], argTypes := #[9] }⟩,
  ⟨some 47, none, .unOp .not 4 (.tmp 46)⟩])
 (.cond (.tmp 47) (.ret) (.skip)))
 (.seq (.seq (.reg [⟨some 48, none, .move (.tmp 0)⟩,
  ⟨some 49, none, .move (.tmp 1)⟩,
  ⟨some 50, none, .buildSlice 26 1 #[(0, .const (.string ⟨⟨[97, 115]⟩⟩))]⟩,
  ⟨some 51, none, .call { callee := .value (.func 26), args := #[.tmp 48, .tmp 49, .tmp 50], argTypes := #[42, 3, 26] }⟩])
 (.cond (.tmp 51) (.reg [⟨some 52, none, .move (.tmp 1)⟩,
  ⟨some 53, none, .binOp .add 3 (.tmp 52) (.const (.int .i64 1)) 3⟩,
  ⟨some 1, none, .assign (.tmp 53)⟩]) (.skip)))
 (.seq (.seq (.reg [⟨some 54, none, .move (.tmp 0)⟩,
  ⟨some 55, none, .move (.tmp 1)⟩,
  ⟨some 56, none, .call { callee := .value (.func 43), args := #[.tmp 54, .tmp 55], argTypes := #[42, 3] }⟩])
 (.cond (.tmp 56) (.reg [⟨some 57, none, .move (.tmp 1)⟩,
  ⟨some 58, none, .binOp .add 3 (.tmp 57) (.const (.int .i64 1)) 3⟩,
  ⟨some 1, none, .assign (.tmp 58)⟩]) (.skip)))
 (.seq (.seq (.reg [⟨some 59, none, .move (.tmp 0)⟩,
  ⟨some 60, none, .move (.tmp 1)⟩,
  ⟨some 61, none, .call { callee := .value (.func 42), args := #[.tmp 59, .tmp 60, .const (.int .i64 5), .const (.string ⟨⟨[44]⟩⟩)], argTypes := #[42, 3, 3, 9] }⟩,
  ⟨some 62, none, .unOp .not 4 (.tmp 61)⟩])
 (.cond (.tmp 62) (.ret) (.skip)))
 (.reg [⟨some 63, none, .move (.tmp 1)⟩,
  ⟨some 64, none, .binOp .add 3 (.tmp 63) (.const (.int .i64 1)) 3⟩,
  ⟨some 1, none, .assign (.tmp 64)⟩]))))))))))
noncomputable def K27 : AC := .block 0 (.loop L27_0)
theorem k27 : codeAt Try.prog 27 = some (K27, #[], 65) := by kernel_rfl
/-- pontoon/sets.sorted -/
noncomputable def L28_1 : AC := .seq (.reg [⟨some 12, none, .next (.tmp 11) false⟩,
  ⟨some 13, none, .extract (.tmp 12) 0⟩])
 (.seq (.cond (.tmp 13) (.skip) (.exit 2))
 (.block 3 (.seq (.reg [⟨some 14, none, .entry (.tmp 11)⟩,
  ⟨some 15, none, .extract (.tmp 14) 0⟩,
  ⟨some 6, none, .assign (.tmp 15)⟩])
 (.seq (.reg [⟨some 16, none, .move (.tmp 5)⟩,
  ⟨some 17, none, .unOp .not 4 (.tmp 16)⟩,
  ⟨some 18, none, .move (.tmp 17)⟩,
  ⟨some 19, some (18, false), .move (.tmp 6)⟩,
  ⟨some 20, some (18, false), .move (.tmp 4)⟩,
  ⟨some 21, some (18, false), .binOp .lss 9 (.tmp 19) (.tmp 20) 9⟩,
  ⟨some 22, none, .pick (.tmp 18) (.const (.bool true)) (.tmp 21)⟩])
 (.cond (.tmp 22) (.reg [⟨some 23, none, .move (.tmp 6)⟩,
  ⟨some 4, none, .assign (.tmp 23)⟩,
  ⟨some 5, none, .assign (.const (.bool true))⟩]) (.skip))))))
noncomputable def L28_0 : AC := .seq (.seq (.reg [⟨some 7, none, .move (.tmp 0)⟩,
  ⟨some 8, none, .call { callee := .builtin .len, args := #[.tmp 7], argTypes := #[43] }⟩,
  ⟨some 9, none, .binOp .gtr 3 (.tmp 8) (.const (.int .i64 0)) 3⟩])
 (.cond (.tmp 9) (.skip) (.exit 0)))
 (.block 1 (.seq (.reg [⟨some 4, none, .assign (.const (.string ⟨⟨[]⟩⟩))⟩,
  ⟨some 5, none, .assign (.const (.bool false))⟩])
 (.seq (.seq (.reg [⟨some 10, none, .move (.tmp 0)⟩,
  ⟨some 11, none, .range 43 (.tmp 10)⟩])
 (.block 2 (.loop L28_1)))
 (.seq (.reg [⟨some 24, none, .move (.tmp 0)⟩,
  ⟨some 25, none, .move (.tmp 4)⟩,
  ⟨none, none, .call { callee := .builtin .delete, args := #[.tmp 24, .tmp 25], argTypes := #[43, 9] }⟩])
 (.reg [⟨some 26, none, .move (.tmp 3)⟩,
  ⟨some 27, none, .move (.tmp 4)⟩,
  ⟨some 28, none, .buildSlice 26 1 #[(0, .tmp 27)]⟩,
  ⟨some 29, none, .call { callee := .builtin .append, args := #[.tmp 26, .tmp 28], argTypes := #[26, 26] }⟩,
  ⟨some 3, none, .assign (.tmp 29)⟩])))))
noncomputable def K28 : AC := .seq (.reg [⟨some 2, none, .assign (.const (.slice none 0 0))⟩])
 (.seq (.reg [⟨some 3, none, .assign (.const (.slice none 0 0))⟩])
 (.seq (.block 0 (.loop L28_0))
 (.seq (.reg [⟨some 30, none, .move (.tmp 3)⟩,
  ⟨some 2, none, .assign (.tmp 30)⟩])
 (.ret))))
theorem k28 : codeAt Try.prog 28 = some (K28, #[.tmp 2], 31) := by kernel_rfl
/-- pontoon/pontoonref07.word -/
noncomputable def K29 : AC := .seq (.reg [⟨some 6, none, .assign (.const (.bool false))⟩])
 (.seq (.reg [⟨some 7, none, .move (.tmp 1)⟩,
  ⟨some 8, none, .binOp .geq 3 (.tmp 7) (.const (.int .i64 0)) 3⟩,
  ⟨some 9, none, .move (.tmp 8)⟩,
  ⟨some 10, some (9, true), .move (.tmp 1)⟩,
  ⟨some 11, some (9, true), .move (.tmp 0)⟩,
  ⟨some 12, some (9, true), .call { callee := .builtin .len, args := #[.tmp 11], argTypes := #[22] }⟩,
  ⟨some 13, some (9, true), .binOp .lss 3 (.tmp 10) (.tmp 12) 3⟩,
  ⟨some 14, none, .pick (.tmp 9) (.tmp 13) (.const (.bool false))⟩,
  ⟨some 15, none, .move (.tmp 14)⟩,
  ⟨some 16, some (15, true), .move (.tmp 0)⟩,
  ⟨some 17, some (15, true), .move (.tmp 1)⟩,
  ⟨some 18, some (15, true), .indexAddr 22 (.tmp 16) (.tmp 17)⟩,
  ⟨some 19, some (15, true), .fieldAddr 40 (.tmp 18) 0⟩,
  ⟨some 20, some (15, true), .load 3 (.tmp 19)⟩,
  ⟨some 21, some (15, true), .binOp .eql 3 (.tmp 20) (.const (.int .i64 1)) 3⟩,
  ⟨some 22, none, .pick (.tmp 15) (.tmp 21) (.const (.bool false))⟩,
  ⟨some 23, none, .move (.tmp 22)⟩,
  ⟨some 24, some (23, true), .move (.tmp 0)⟩,
  ⟨some 25, some (23, true), .move (.tmp 1)⟩,
  ⟨some 26, some (23, true), .indexAddr 22 (.tmp 24) (.tmp 25)⟩,
  ⟨some 27, some (23, true), .fieldAddr 40 (.tmp 26) 1⟩,
  ⟨some 28, some (23, true), .load 9 (.tmp 27)⟩,
  ⟨some 29, some (23, true), .move (.tmp 2)⟩,
  ⟨some 30, some (23, true), .binOp .eql 9 (.tmp 28) (.tmp 29) 9⟩,
  ⟨some 31, none, .pick (.tmp 23) (.tmp 30) (.const (.bool false))⟩,
  ⟨some 6, none, .assign (.tmp 31)⟩])
 (.ret))
theorem k29 : codeAt Try.prog 29 = some (K29, #[.tmp 6], 32) := by kernel_rfl
/-- pontoon/pontoonref07.put -/
noncomputable def L30_1 : AC := .seq (.seq (.reg [⟨some 22, none, .move (.tmp 8)⟩,
  ⟨some 23, none, .move (.tmp 0)⟩,
  ⟨some 24, none, .call { callee := .builtin .len, args := #[.tmp 23], argTypes := #[26] }⟩,
  ⟨some 25, none, .binOp .lss 3 (.tmp 22) (.tmp 24) 3⟩,
  ⟨some 26, none, .move (.tmp 25)⟩,
  ⟨some 27, some (26, true), .move (.tmp 0)⟩,
  ⟨some 28, some (26, true), .move (.tmp 8)⟩,
  ⟨some 29, some (26, true), .indexAddr 26 (.tmp 27) (.tmp 28)⟩,
  ⟨some 30, some (26, true), .load 9 (.tmp 29)⟩,
  ⟨some 31, some (26, true), .move (.tmp 6)⟩,
  ⟨some 32, some (26, true), .call { callee := .value (.func 23), args := #[.tmp 30, .tmp 31], argTypes := #[9, 9] }⟩,
  ⟨some 33, none, .pick (.tmp 26) (.tmp 32) (.const (.bool false))⟩])
 (.cond (.tmp 33) (.skip) (.exit 2)))
 (.block 3 (.seq (.reg [⟨some 34, none, .move (.tmp 7)⟩,
  ⟨some 35, none, .move (.tmp 0)⟩,
  ⟨some 36, none, .move (.tmp 8)⟩,
  ⟨some 37, none, .indexAddr 26 (.tmp 35) (.tmp 36)⟩,
  ⟨some 38, none, .load 9 (.tmp 37)⟩,
  ⟨some 39, none, .buildSlice 26 1 #[(0, .tmp 38)]⟩,
  ⟨some 40, none, .call { callee := .builtin .append, args := #[.tmp 34, .tmp 39], argTypes := #[26, 26] }⟩,
  ⟨some 7, none, .assign (.tmp 40)⟩])
 (.reg [⟨some 41, none, .move (.tmp 8)⟩,
  ⟨some 42, none, .binOp .add 3 (.tmp 41) (.const (.int .i64 1)) 3⟩,
  ⟨some 8, none, .assign (.tmp 42)⟩])))
noncomputable def L30_0 : AC := .seq (.seq (.reg [⟨some 9, none, .move (.tmp 5)⟩,
  ⟨some 10, none, .move (.tmp 1)⟩,
  ⟨some 11, none, .call { callee := .builtin .len, args := #[.tmp 10], argTypes := #[26] }⟩,
  ⟨some 12, none, .binOp .lss 3 (.tmp 9) (.tmp 11) 3⟩])
 (.cond (.tmp 12) (.skip) (.exit 0)))
 (.seq (.block 1 (.seq (.reg [⟨some 15, none, .move (.tmp 1)⟩,
  ⟨some 16, none, .move (.tmp 5)⟩,
  ⟨some 17, none, .indexAddr 26 (.tmp 15) (.tmp 16)⟩,
  ⟨some 18, none, .load 9 (.tmp 17)⟩,
  ⟨some 6, none, .assign (.tmp 18)⟩])
 (.seq (.seq (.reg [⟨some 19, none, .move (.tmp 0)⟩,
  ⟨some 20, none, .move (.tmp 6)⟩,
  ⟨some 21, none, .call { callee := .value (.func 41), args := #[.tmp 19, .tmp 20], argTypes := #[26, 9] }⟩])
 (.cond (.tmp 21) (.exit 1) (.skip)))
 (.seq (.reg [⟨some 7, none, .assign (.const (.slice none 0 0))⟩])
 (.seq (.reg [⟨some 8, none, .assign (.const (.int .i64 0))⟩])
 (.seq (.block 2 (.loop L30_1))
 (.seq (.reg [⟨some 43, none, .move (.tmp 7)⟩,
  ⟨some 44, none, .move (.tmp 6)⟩,
  ⟨some 45, none, .buildSlice 26 1 #[(0, .tmp 44)]⟩,
  ⟨some 46, none, .call { callee := .builtin .append, args := #[.tmp 43, .tmp 45], argTypes := #[26, 26] }⟩,
  ⟨some 7, none, .assign (.tmp 46)⟩])
 (.seq (.reg [⟨some 47, none, .move (.tmp 7)⟩,
  ⟨some 48, none, .move (.tmp 0)⟩,
  ⟨some 49, none, .move (.tmp 8)⟩,
  ⟨some 50, none, .slice 26 (.tmp 48) (some (.tmp 49)) none none⟩,
  ⟨some 51, none, .call { callee := .builtin .append, args := #[.tmp 47, .tmp 50], argTypes := #[26, 26] }⟩,
  ⟨some 7, none, .assign (.tmp 51)⟩])
 (.reg [⟨some 52, none, .move (.tmp 7)⟩,
  ⟨some 0, none, .assign (.tmp 52)⟩])))))))))
 (.reg [⟨some 13, none, .move (.tmp 5)⟩,
  ⟨some 14, none, .binOp .add 3 (.tmp 13) (.const (.int .i64 1)) 3⟩,
  ⟨some 5, none, .assign (.tmp 14)⟩]))
noncomputable def K30 : AC := .seq (.reg [⟨some 4, none, .assign (.const (.slice none 0 0))⟩])
 (.seq (.seq (.reg [⟨some 5, none, .assign (.const (.int .i64 0))⟩])
 (.block 0 (.loop L30_0)))
 (.seq (.reg [⟨some 53, none, .move (.tmp 0)⟩,
  ⟨some 4, none, .assign (.tmp 53)⟩])
 (.ret)))
theorem k30 : codeAt Try.prog 30 = some (K30, #[.tmp 4], 54) := by kernel_rfl
/-- pontoon/pontoonref07.from -/
noncomputable def L31_0 : AC := .block 1 (.seq (.seq (.reg [⟨some 8, none, .move (.tmp 0)⟩,
  ⟨some 9, none, .move (.tmp 1)⟩,
  ⟨some 10, none, .call { callee := .value (.func 29), args := #[.tmp 8, .tmp 9, .const (.string ⟨⟨[111, 110, 108, 121]⟩⟩)], argTypes := #[22, 3, 9] }⟩,
  ⟨some 11, none, .move (.tmp 10)⟩,
  ⟨some 12, some (11, false), .move (.tmp 0)⟩,
  ⟨some 13, some (11, false), .move (.tmp 1)⟩,
  ⟨some 14, some (11, false), .call { callee := .value (.func 29), args := #[.tmp 12, .tmp 13, .const (.string ⟨⟨[116, 97, 98, 108, 101]⟩⟩)], argTypes := #[22, 3, 9] }⟩,
  ⟨some 15, none, .pick (.tmp 11) (.const (.bool true)) (.tmp 14)⟩])
 (.cond (.tmp 15) (.reg [⟨some 16, none, .move (.tmp 1)⟩,
  ⟨some 17, none, .binOp .add 3 (.tmp 16) (.const (.int .i64 1)) 3⟩,
  ⟨some 1, none, .assign (.tmp 17)⟩]) (.skip)))
 (.seq (.reg [⟨some 19, none, .move (.tmp 0)⟩,
  ⟨some 20, none, .move (.tmp 1)⟩,
  ⟨some 21, none, .call { callee := .value (.func 44), args := #[.tmp 19, .tmp 20], argTypes := #[22, 3] }⟩,
  ⟨some 18, none, .move (.tmp 21)⟩,
  ⟨some 22, none, .extract (.tmp 18) 0⟩,
  ⟨some 23, none, .extract (.tmp 18) 1⟩,
  ⟨some 6, none, .assign (.tmp 22)⟩,
  ⟨some 7, none, .assign (.tmp 23)⟩])
 (.seq (.seq (.reg [⟨some 24, none, .move (.tmp 7)⟩,
  ⟨some 25, none, .move (.tmp 1)⟩,
  ⟨some 26, none, .binOp .eql 3 (.tmp 24) (.tmp 25) 3⟩])
 (.cond (.tmp 26) (.seq (.reg [⟨some 27, none, .move (.tmp 5)⟩,
  ⟨some 4, none, .assign (.tmp 27)⟩])
 (.ret)) (.skip)))
 (.seq (.reg [⟨some 28, none, .move (.tmp 5)⟩,
  ⟨some 29, none, .move (.tmp 6)⟩,
  ⟨some 30, none, .buildSlice 26 1 #[(0, .tmp 29)]⟩,
  ⟨some 31, none, .call { callee := .builtin .append, args := #[.tmp 28, .tmp 30], argTypes := #[26, 26] }⟩,
  ⟨some 5, none, .assign (.tmp 31)⟩])
 (.seq (.seq (.reg [⟨some 32, none, .move (.tmp 0)⟩,
  ⟨some 33, none, .move (.tmp 7)⟩,
  ⟨some 34, none, .call { callee := .value (.func 29), args := #[.tmp 32, .tmp 33, .const (.string ⟨⟨[97, 115]⟩⟩)], argTypes := #[22, 3, 9] }⟩])
 (.cond (.tmp 34) (.reg [⟨some 35, none, .move (.tmp 7)⟩,
  ⟨some 36, none, .binOp .add 3 (.tmp 35) (.const (.int .i64 1)) 3⟩,
  ⟨some 7, none, .assign (.tmp 36)⟩]) (.skip)))
 (.seq (.seq (.reg [⟨some 37, none, .move (.tmp 0)⟩,
  ⟨some 38, none, .move (.tmp 7)⟩,
  ⟨some 39, none, .call { callee := .value (.func 45), args := #[.tmp 37, .tmp 38], argTypes := #[22, 3] }⟩])
 (.cond (.tmp 39) (.reg [⟨some 40, none, .move (.tmp 7)⟩,
  ⟨some 41, none, .binOp .add 3 (.tmp 40) (.const (.int .i64 1)) 3⟩,
  ⟨some 7, none, .assign (.tmp 41)⟩]) (.skip)))
 (.seq (.seq (.reg [⟨some 42, none, .move (.tmp 0)⟩,
  ⟨some 43, none, .move (.tmp 7)⟩,
  ⟨some 44, none, .call { callee := .value (.func 46), args := #[.tmp 42, .tmp 43, .const (.string ⟨⟨[44]⟩⟩)], argTypes := #[22, 3, 9] }⟩,
  ⟨some 45, none, .unOp .not 4 (.tmp 44)⟩])
 (.cond (.tmp 45) (.seq (.reg [⟨some 46, none, .move (.tmp 5)⟩,
  ⟨some 4, none, .assign (.tmp 46)⟩])
 (.ret)) (.skip)))
 (.reg [⟨some 47, none, .move (.tmp 7)⟩,
  ⟨some 48, none, .binOp .add 3 (.tmp 47) (.const (.int .i64 1)) 3⟩,
  ⟨some 1, none, .assign (.tmp 48)⟩]))))))))
noncomputable def K31 : AC := .seq (.reg [⟨some 4, none, .assign (.const (.slice none 0 0))⟩])
 (.seq (.reg [⟨some 5, none, .assign (.const (.slice none 0 0))⟩])
 (.block 0 (.loop L31_0)))
theorem k31 : codeAt Try.prog 31 = some (K31, #[.tmp 4], 49) := by kernel_rfl
/-- pontoon/sets.Writes$1 -/
noncomputable def K32 : AC := .seq (.reg [⟨some 4, none, .assign (.const (.bool false))⟩])
 (.seq (.reg [⟨some 5, none, .load 43 (.tmp 1)⟩,
  ⟨some 6, none, .move (.tmp 0)⟩,
  ⟨some 7, none, .lookup 43 (.tmp 5) (.tmp 6) false⟩,
  ⟨some 8, none, .binOp .add 3 (.tmp 7) (.const (.int .i64 1)) 3⟩,
  ⟨none, none, .mapUpdate 43 (.tmp 5) (.tmp 6) (.tmp 8)⟩])
 (.seq (.reg [⟨some 9, none, .load 4 (.tmp 2)⟩,
  ⟨some 4, none, .assign (.tmp 9)⟩])
 (.ret)))
theorem k32 : codeAt Try.prog 32 = some (K32, #[.tmp 4], 10) := by kernel_rfl
/-- pontoon/class.Of -/
def W33_0 : List (Nat × List UInt8) := [(15, [115, 101, 108, 101, 99, 116]), (16, [118, 97, 108, 117, 101, 115]), (17, [116, 97, 98, 108, 101]), (18, [119, 105, 116, 104])]
@[go_sem] theorem w33_0 (s : Slots) (H : AHeap) (Q : QT) (h : isStr (s 13) = true) : C (cxV E) (sw 13 14 W33_0) s H Q = Q .nrm (swS 14 (strOf (s 13)) W33_0 s) H := C_sw _ _ _ _ rfl h
@[go_sem] theorem w33_0d (v : List UInt8) (s : Slots) : swS 14 v W33_0 s 14 = .bool ((W33_0.map (·.2)).contains v) := swS_d _ _ (by unfold W33_0; exact List.cons_ne_nil _ _)
@[go_sem] theorem w33_0o (v : List UInt8) (s : Slots) (t : Nat) (h : t < 14 ∨ 19 ≤ t) : swS 14 v W33_0 s t = s t := swS_out (lo := 14) (hi := 19) rfl ⟨Nat.le_of_ble_eq_true rfl, Nat.le_of_ble_eq_true rfl⟩ s h
def W33_1 : List (Nat × List UInt8) := [(33, [114, 111, 108, 108, 98, 97, 99, 107]), (34, [97, 98, 111, 114, 116])]
@[go_sem] theorem w33_1 (s : Slots) (H : AHeap) (Q : QT) (h : isStr (s 13) = true) : C (cxV E) (sw 13 32 W33_1) s H Q = Q .nrm (swS 32 (strOf (s 13)) W33_1 s) H := C_sw _ _ _ _ rfl h
@[go_sem] theorem w33_1d (v : List UInt8) (s : Slots) : swS 32 v W33_1 s 32 = .bool ((W33_1.map (·.2)).contains v) := swS_d _ _ (by unfold W33_1; exact List.cons_ne_nil _ _)
@[go_sem] theorem w33_1o (v : List UInt8) (s : Slots) (t : Nat) (h : t < 32 ∨ 35 ≤ t) : swS 32 v W33_1 s t = s t := swS_out (lo := 32) (hi := 35) rfl ⟨Nat.le_of_ble_eq_true rfl, Nat.le_of_ble_eq_true rfl⟩ s h
def D33_17 : List (Bool × AOp) := [(false, ⟨some 39, none, .call { callee := .value (.func 50), args := #[], argTypes := #[] }⟩),
  (false, ⟨some 40, none, .move (.tmp 3)⟩),
  (false, ⟨some 41, none, .indexAddr 26 (.tmp 40) (.const (.int .i64 0))⟩),
  (false, ⟨some 42, none, .load 9 (.tmp 41)⟩),
  (false, ⟨some 43, none, .lookup 43 (.tmp 39) (.tmp 42) true⟩),
  (false, ⟨some 38, none, .move (.tmp 43)⟩),
  (false, ⟨some 44, none, .extract (.tmp 38) 0⟩),
  (false, ⟨some 45, none, .extract (.tmp 38) 1⟩),
  (false, ⟨some 4, none, .assign (.tmp 44)⟩),
  (false, ⟨some 5, none, .assign (.tmp 45)⟩)]
theorem d33_17 : drawList E.pure 48 (regionOf Try.f33 17) = some D33_17 := by kernel_rfl
@[go_sem] theorem e33_17 (s : Slots) (H : AHeap) (Q : QT) : C (cxV E) (.draw 48 (regionOf Try.f33 17)) s H Q = XD (cxV E) D33_17 s H (Qr Q) := C_draw_eq d33_17 s H Q
noncomputable def K33 : AC := .seq (.reg [⟨some 2, none, .assign (.const (.int .i64 0))⟩])
 (.seq (.seq (.reg [⟨some 6, none, .move (.tmp 0)⟩,
  ⟨some 7, none, .call { callee := .builtin .len, args := #[.tmp 6], argTypes := #[22] }⟩,
  ⟨some 8, none, .binOp .eql 3 (.tmp 7) (.const (.int .i64 0)) 3⟩])
 (.cond (.tmp 8) (.seq (.reg [⟨some 2, none, .assign (.const (.int .i64 0))⟩])
 (.ret)) (.skip)))
 (.seq (.reg [⟨some 9, none, .move (.tmp 0)⟩,
  ⟨some 10, none, .call { callee := .value (.func 47), args := #[.tmp 9], argTypes := #[22] }⟩,
  ⟨some 3, none, .assign (.tmp 10)⟩])
 (.seq (.seq (.reg [⟨some 11, none, .move (.tmp 3)⟩,
  ⟨some 12, none, .indexAddr 26 (.tmp 11) (.const (.int .i64 0))⟩,
  ⟨some 13, none, .load 9 (.tmp 12)⟩])
 (.block 0 (.seq (sw 13 14 W33_0)
 (.cond (.tmp 14) (.seq (.reg [⟨some 19, none, .move (.tmp 0)⟩,
  ⟨some 20, none, .call { callee := .value (.func 48), args := #[.tmp 19], argTypes := #[22] }⟩,
  ⟨some 2, none, .assign (.tmp 20)⟩])
 (.ret)) (.seq (.reg [⟨some 22, none, .binOp .eql 9 (.tmp 13) (.const (.string ⟨⟨[115, 116, 97, 114, 116]⟩⟩)) 9⟩,
  ⟨some 21, none, .assign (.tmp 22)⟩])
 (.cond (.tmp 21) (.seq (.reg [⟨some 23, none, .move (.tmp 3)⟩,
  ⟨some 24, none, .call { callee := .builtin .len, args := #[.tmp 23], argTypes := #[26] }⟩,
  ⟨some 25, none, .binOp .gtr 3 (.tmp 24) (.const (.int .i64 1)) 3⟩,
  ⟨some 26, none, .move (.tmp 25)⟩,
  ⟨some 27, some (26, true), .move (.tmp 3)⟩,
  ⟨some 28, some (26, true), .indexAddr 26 (.tmp 27) (.const (.int .i64 1))⟩,
  ⟨some 29, some (26, true), .load 9 (.tmp 28)⟩,
  ⟨some 30, some (26, true), .binOp .eql 9 (.tmp 29) (.const (.string ⟨⟨[116, 114, 97, 110, 115, 97, 99, 116, 105, 111, 110]⟩⟩)) 9⟩,
  ⟨some 31, none, .pick (.tmp 26) (.tmp 30) (.const (.bool false))⟩])
 (.cond (.tmp 31) (.seq (.reg [⟨some 2, none, .assign (.const (.int .i64 3))⟩])
 (.ret)) (.skip))) (.seq (sw 13 32 W33_1)
 (.cond (.tmp 32) (.seq (.reg [⟨some 35, none, .move (.tmp 3)⟩,
  ⟨some 36, none, .call { callee := .value (.func 49), args := #[.const (.string ⟨⟨[116, 111]⟩⟩), .tmp 35], argTypes := #[9, 26] }⟩,
  ⟨some 37, none, .unOp .not 4 (.tmp 36)⟩])
 (.cond (.tmp 37) (.seq (.reg [⟨some 2, none, .assign (.const (.int .i64 5))⟩])
 (.ret)) (.skip))) (.skip)))))))))
 (.seq (.seq (.draw 48 (regionOf Try.f33 17))
 (.seq (.reg [⟨some 46, none, .move (.tmp 5)⟩])
 (.cond (.tmp 46) (.seq (.reg [⟨some 47, none, .move (.tmp 4)⟩,
  ⟨some 2, none, .assign (.tmp 47)⟩])
 (.ret)) (.skip))))
 (.seq (.reg [⟨some 2, none, .assign (.const (.int .i64 8))⟩])
 (.ret))))))
theorem k33 : codeAt Try.prog 33 = some (K33, #[.tmp 2], 48) := by kernel_rfl
/-- pontoon/norm.Tokens -/
noncomputable def L34_0 : AC := .seq (.seq (.reg [⟨some 6, none, .move (.tmp 0)⟩,
  ⟨some 7, none, .call { callee := .builtin .len, args := #[.tmp 6], argTypes := #[22] }⟩,
  ⟨some 8, none, .binOp .gtr 3 (.tmp 7) (.const (.int .i64 0)) 3⟩,
  ⟨some 9, none, .move (.tmp 8)⟩,
  ⟨some 10, some (9, true), .move (.tmp 0)⟩,
  ⟨some 11, some (9, true), .move (.tmp 0)⟩,
  ⟨some 12, some (9, true), .call { callee := .builtin .len, args := #[.tmp 11], argTypes := #[22] }⟩,
  ⟨some 13, some (9, true), .binOp .sub 3 (.tmp 12) (.const (.int .i64 1)) 3⟩,
  ⟨some 14, some (9, true), .indexAddr 22 (.tmp 10) (.tmp 13)⟩,
  ⟨some 15, some (9, true), .fieldAddr 40 (.tmp 14) 0⟩,
  ⟨some 16, some (9, true), .load 3 (.tmp 15)⟩,
  ⟨some 17, some (9, true), .binOp .eql 3 (.tmp 16) (.const (.int .i64 5)) 3⟩,
  ⟨some 18, none, .pick (.tmp 9) (.tmp 17) (.const (.bool false))⟩,
  ⟨some 19, none, .move (.tmp 18)⟩,
  ⟨some 20, some (19, true), .move (.tmp 0)⟩,
  ⟨some 21, some (19, true), .move (.tmp 0)⟩,
  ⟨some 22, some (19, true), .call { callee := .builtin .len, args := #[.tmp 21], argTypes := #[22] }⟩,
  ⟨some 23, some (19, true), .binOp .sub 3 (.tmp 22) (.const (.int .i64 1)) 3⟩,
  ⟨some 24, some (19, true), .indexAddr 22 (.tmp 20) (.tmp 23)⟩,
  ⟨some 25, some (19, true), .fieldAddr 40 (.tmp 24) 1⟩,
  ⟨some 26, some (19, true), .load 9 (.tmp 25)⟩,
  ⟨some 27, some (19, true), .binOp .eql 9 (.tmp 26) (.const (.string ⟨⟨[59]⟩⟩)) 9⟩,
  ⟨some 28, none, .pick (.tmp 19) (.tmp 27) (.const (.bool false))⟩])
 (.cond (.tmp 28) (.skip) (.exit 0)))
 (.block 1 (.reg [⟨some 29, none, .move (.tmp 0)⟩,
  ⟨some 30, none, .move (.tmp 0)⟩,
  ⟨some 31, none, .call { callee := .builtin .len, args := #[.tmp 30], argTypes := #[22] }⟩,
  ⟨some 32, none, .binOp .sub 3 (.tmp 31) (.const (.int .i64 1)) 3⟩,
  ⟨some 33, none, .slice 22 (.tmp 29) none (some (.tmp 32)) none⟩,
  ⟨some 0, none, .assign (.tmp 33)⟩]))
noncomputable def L34_1 : AC := .seq (.reg [⟨some 37, none, .binOp .lss 3 (.tmp 36) (.tmp 35) 3⟩])
 (.seq (.cond (.tmp 37) (.skip) (.exit 2))
 (.seq (.block 3 (.seq (.reg [⟨some 38, none, .indexAddr 22 (.tmp 34) (.tmp 36)⟩,
  ⟨some 39, none, .load 40 (.tmp 38)⟩,
  ⟨some 5, none, .alloc 40⟩,
  ⟨none, none, .store 40 (.tmp 5) (.tmp 39)⟩])
 (.seq (.seq (.reg [⟨some 40, none, .fieldAddr 40 (.tmp 5) 0⟩,
  ⟨some 41, none, .load 3 (.tmp 40)⟩,
  ⟨some 42, none, .binOp .eql 3 (.tmp 41) (.const (.int .i64 4)) 3⟩,
  ⟨some 43, none, .move (.tmp 42)⟩,
  ⟨some 44, some (43, true), .fieldAddr 40 (.tmp 5) 1⟩,
  ⟨some 45, some (43, true), .load 9 (.tmp 44)⟩,
  ⟨some 46, some (43, true), .binOp .neq 9 (.tmp 45) (.const (.string ⟨⟨[]⟩⟩)) 9⟩,
  ⟨some 47, none, .pick (.tmp 43) (.tmp 46) (.const (.bool false))⟩])
 (.cond (.tmp 47) (.reg [⟨some 48, none, .fieldAddr 40 (.tmp 5) 1⟩,
  ⟨some 49, none, .load 9 (.tmp 48)⟩,
  ⟨some 50, none, .call { callee := .value (.func 51), args := #[.tmp 49], argTypes := #[9] }⟩,
  ⟨some 51, none, .fieldAddr 40 (.tmp 5) 1⟩,
  ⟨none, none, .store 9 (.tmp 51) (.tmp 50)⟩]) (.skip)))
 (.reg [⟨some 52, none, .move (.tmp 3)⟩,
  ⟨some 53, none, .load 40 (.tmp 5)⟩,
  ⟨some 54, none, .buildSlice 22 1 #[(0, .tmp 53)]⟩,
  ⟨some 55, none, .call { callee := .builtin .append, args := #[.tmp 52, .tmp 54], argTypes := #[22, 22] }⟩,
  ⟨some 3, none, .assign (.tmp 55)⟩]))))
 (.reg [⟨some 56, none, .binOp .add 3 (.tmp 36) (.const (.int .i64 1)) 3⟩,
  ⟨some 36, none, .move (.tmp 56)⟩])))
noncomputable def K34 : AC := .seq (.reg [⟨some 2, none, .assign (.const (.string ⟨⟨[]⟩⟩))⟩])
 (.seq (.block 0 (.loop L34_0))
 (.seq (.reg [⟨some 3, none, .assign (.const (.slice none 0 0))⟩])
 (.seq (.seq (.reg [⟨some 34, none, .move (.tmp 0)⟩,
  ⟨some 35, none, .call { callee := .builtin .len, args := #[.tmp 34], argTypes := #[22] }⟩,
  ⟨some 36, none, .move (.const (.int .i64 0))⟩])
 (.block 2 (.loop L34_1)))
 (.seq (.reg [⟨some 57, none, .move (.tmp 3)⟩,
  ⟨some 58, none, .call { callee := .value (.func 52), args := #[.tmp 57], argTypes := #[22] }⟩,
  ⟨some 2, none, .assign (.tmp 58)⟩])
 (.ret)))))
theorem k34 : codeAt Try.prog 34 = some (K34, #[.tmp 2], 59) := by kernel_rfl
/-- pontoon/pontoonref06.Of -/
def W35_0 : List (Nat × List UInt8) := [(9, [115, 101, 108, 101, 99, 116]), (10, [118, 97, 108, 117, 101, 115]), (11, [116, 97, 98, 108, 101]), (12, [119, 105, 116, 104])]
@[go_sem] theorem w35_0 (s : Slots) (H : AHeap) (Q : QT) (h : isStr (s 7) = true) : C (cxV E) (sw 7 8 W35_0) s H Q = Q .nrm (swS 8 (strOf (s 7)) W35_0 s) H := C_sw _ _ _ _ rfl h
@[go_sem] theorem w35_0d (v : List UInt8) (s : Slots) : swS 8 v W35_0 s 8 = .bool ((W35_0.map (·.2)).contains v) := swS_d _ _ (by unfold W35_0; exact List.cons_ne_nil _ _)
@[go_sem] theorem w35_0o (v : List UInt8) (s : Slots) (t : Nat) (h : t < 8 ∨ 13 ≤ t) : swS 8 v W35_0 s t = s t := swS_out (lo := 8) (hi := 13) rfl ⟨Nat.le_of_ble_eq_true rfl, Nat.le_of_ble_eq_true rfl⟩ s h
def W35_1 : List (Nat × List UInt8) := [(27, [105, 110, 115, 101, 114, 116]), (28, [117, 112, 100, 97, 116, 101]), (29, [100, 101, 108, 101, 116, 101]), (30, [116, 114, 117, 110, 99, 97, 116, 101]), (31, [109, 101, 114, 103, 101])]
@[go_sem] theorem w35_1 (s : Slots) (H : AHeap) (Q : QT) (h : isStr (s 7) = true) : C (cxV E) (sw 7 26 W35_1) s H Q = Q .nrm (swS 26 (strOf (s 7)) W35_1 s) H := C_sw _ _ _ _ rfl h
@[go_sem] theorem w35_1d (v : List UInt8) (s : Slots) : swS 26 v W35_1 s 26 = .bool ((W35_1.map (·.2)).contains v) := swS_d _ _ (by unfold W35_1; exact List.cons_ne_nil _ _)
@[go_sem] theorem w35_1o (v : List UInt8) (s : Slots) (t : Nat) (h : t < 26 ∨ 32 ≤ t) : swS 26 v W35_1 s t = s t := swS_out (lo := 26) (hi := 32) rfl ⟨Nat.le_of_ble_eq_true rfl, Nat.le_of_ble_eq_true rfl⟩ s h
def W35_2 : List (Nat × List UInt8) := [(40, [99, 111, 109, 109, 105, 116]), (41, [101, 110, 100])]
@[go_sem] theorem w35_2 (s : Slots) (H : AHeap) (Q : QT) (h : isStr (s 7) = true) : C (cxV E) (sw 7 39 W35_2) s H Q = Q .nrm (swS 39 (strOf (s 7)) W35_2 s) H := C_sw _ _ _ _ rfl h
@[go_sem] theorem w35_2d (v : List UInt8) (s : Slots) : swS 39 v W35_2 s 39 = .bool ((W35_2.map (·.2)).contains v) := swS_d _ _ (by unfold W35_2; exact List.cons_ne_nil _ _)
@[go_sem] theorem w35_2o (v : List UInt8) (s : Slots) (t : Nat) (h : t < 39 ∨ 42 ≤ t) : swS 39 v W35_2 s t = s t := swS_out (lo := 39) (hi := 42) rfl ⟨Nat.le_of_ble_eq_true rfl, Nat.le_of_ble_eq_true rfl⟩ s h
def W35_3 : List (Nat × List UInt8) := [(43, [114, 111, 108, 108, 98, 97, 99, 107]), (44, [97, 98, 111, 114, 116])]
@[go_sem] theorem w35_3 (s : Slots) (H : AHeap) (Q : QT) (h : isStr (s 7) = true) : C (cxV E) (sw 7 42 W35_3) s H Q = Q .nrm (swS 42 (strOf (s 7)) W35_3 s) H := C_sw _ _ _ _ rfl h
@[go_sem] theorem w35_3d (v : List UInt8) (s : Slots) : swS 42 v W35_3 s 42 = .bool ((W35_3.map (·.2)).contains v) := swS_d _ _ (by unfold W35_3; exact List.cons_ne_nil _ _)
@[go_sem] theorem w35_3o (v : List UInt8) (s : Slots) (t : Nat) (h : t < 42 ∨ 45 ≤ t) : swS 42 v W35_3 s t = s t := swS_out (lo := 42) (hi := 45) rfl ⟨Nat.le_of_ble_eq_true rfl, Nat.le_of_ble_eq_true rfl⟩ s h
def W35_4 : List (Nat × List UInt8) := [(50, [115, 101, 116]), (51, [114, 101, 115, 101, 116]), (52, [100, 105, 115, 99, 97, 114, 100]), (53, [108, 105, 115, 116, 101, 110]), (54, [117, 110, 108, 105, 115, 116, 101, 110]), (55, [112, 114, 101, 112, 97, 114, 101]), (56, [100, 101, 97, 108, 108, 111, 99, 97, 116, 101]), (57, [100, 101, 99, 108, 97, 114, 101]), (58, [108, 111, 97, 100])]
@[go_sem] theorem w35_4 (s : Slots) (H : AHeap) (Q : QT) (h : isStr (s 7) = true) : C (cxV E) (sw 7 49 W35_4) s H Q = Q .nrm (swS 49 (strOf (s 7)) W35_4 s) H := C_sw _ _ _ _ rfl h
@[go_sem] theorem w35_4d (v : List UInt8) (s : Slots) : swS 49 v W35_4 s 49 = .bool ((W35_4.map (·.2)).contains v) := swS_d _ _ (by unfold W35_4; exact List.cons_ne_nil _ _)
@[go_sem] theorem w35_4o (v : List UInt8) (s : Slots) (t : Nat) (h : t < 49 ∨ 59 ≤ t) : swS 49 v W35_4 s t = s t := swS_out (lo := 49) (hi := 59) rfl ⟨Nat.le_of_ble_eq_true rfl, Nat.le_of_ble_eq_true rfl⟩ s h
noncomputable def K35 : AC := .seq (.reg [⟨some 2, none, .assign (.const (.int .i64 0))⟩])
 (.seq (.seq (.reg [⟨some 3, none, .move (.tmp 0)⟩,
  ⟨some 4, none, .call { callee := .builtin .len, args := #[.tmp 3], argTypes := #[22] }⟩,
  ⟨some 5, none, .binOp .eql 3 (.tmp 4) (.const (.int .i64 0)) 3⟩])
 (.cond (.tmp 5) (.seq (.reg [⟨some 2, none, .assign (.const (.int .i64 0))⟩])
 (.ret)) (.skip)))
 (.seq (.seq (.reg [⟨some 6, none, .move (.tmp 0)⟩,
  ⟨some 7, none, .call { callee := .value (.func 53), args := #[.tmp 6, .const (.int .i64 0)], argTypes := #[22, 3] }⟩])
 (.block 0 (.seq (sw 7 8 W35_0)
 (.cond (.tmp 8) (.seq (.seq (.reg [⟨some 13, none, .move (.tmp 0)⟩,
  ⟨some 14, none, .call { callee := .value (.func 54), args := #[.tmp 13], argTypes := #[22] }⟩])
 (.cond (.tmp 14) (.seq (.reg [⟨some 2, none, .assign (.const (.int .i64 2))⟩])
 (.ret)) (.skip)))
 (.seq (.seq (.reg [⟨some 15, none, .move (.tmp 0)⟩,
  ⟨some 16, none, .call { callee := .value (.func 55), args := #[.tmp 15], argTypes := #[22] }⟩,
  ⟨some 17, none, .move (.tmp 16)⟩,
  ⟨some 18, some (17, false), .move (.tmp 0)⟩,
  ⟨some 19, some (17, false), .call { callee := .value (.func 56), args := #[.tmp 18], argTypes := #[22] }⟩,
  ⟨some 20, none, .pick (.tmp 17) (.const (.bool true)) (.tmp 19)⟩,
  ⟨some 21, none, .move (.tmp 20)⟩,
  ⟨some 22, some (21, false), .move (.tmp 0)⟩,
  ⟨some 23, some (21, false), .buildSlice 26 8 #[(0, .const (.string ⟨⟨[110, 111, 119]⟩⟩)), (1, .const (.string ⟨⟨[114, 97, 110, 100, 111, 109]⟩⟩)), (2, .const (.string ⟨⟨[110, 101, 120, 116, 118, 97, 108]⟩⟩)), (3, .const (.string ⟨⟨[99, 117, 114, 114, 118, 97, 108]⟩⟩)), (4, .const (.string ⟨⟨[115, 101, 116, 118, 97, 108]⟩⟩)), (5, .const (.string ⟨⟨[108, 97, 115, 116, 118, 97, 108]⟩⟩)), (6, .const (.string ⟨⟨[99, 108, 111, 99, 107, 95, 116, 105, 109, 101, 115, 116, 97, 109, 112]⟩⟩)), (7, .const (.string ⟨⟨[116, 120, 105, 100, 95, 99, 117, 114, 114, 101, 110, 116]⟩⟩))]⟩,
  ⟨some 24, some (21, false), .call { callee := .value (.func 57), args := #[.tmp 22, .tmp 23], argTypes := #[22, 26] }⟩,
  ⟨some 25, none, .pick (.tmp 21) (.const (.bool true)) (.tmp 24)⟩])
 (.cond (.tmp 25) (.seq (.reg [⟨some 2, none, .assign (.const (.int .i64 7))⟩])
 (.ret)) (.skip)))
 (.seq (.reg [⟨some 2, none, .assign (.const (.int .i64 1))⟩])
 (.ret)))) (.seq (sw 7 26 W35_1)
 (.cond (.tmp 26) (.seq (.reg [⟨some 2, none, .assign (.const (.int .i64 2))⟩])
 (.ret)) (.seq (.reg [⟨some 33, none, .binOp .eql 9 (.tmp 7) (.const (.string ⟨⟨[98, 101, 103, 105, 110]⟩⟩)) 9⟩,
  ⟨some 32, none, .assign (.tmp 33)⟩])
 (.cond (.tmp 32) (.seq (.reg [⟨some 2, none, .assign (.const (.int .i64 3))⟩])
 (.ret)) (.seq (.reg [⟨some 35, none, .binOp .eql 9 (.tmp 7) (.const (.string ⟨⟨[115, 116, 97, 114, 116]⟩⟩)) 9⟩,
  ⟨some 34, none, .assign (.tmp 35)⟩])
 (.cond (.tmp 34) (.seq (.reg [⟨some 36, none, .move (.tmp 0)⟩,
  ⟨some 37, none, .call { callee := .value (.func 53), args := #[.tmp 36, .const (.int .i64 1)], argTypes := #[22, 3] }⟩,
  ⟨some 38, none, .binOp .eql 9 (.tmp 37) (.const (.string ⟨⟨[116, 114, 97, 110, 115, 97, 99, 116, 105, 111, 110]⟩⟩)) 9⟩])
 (.cond (.tmp 38) (.seq (.reg [⟨some 2, none, .assign (.const (.int .i64 3))⟩])
 (.ret)) (.skip))) (.seq (sw 7 39 W35_2)
 (.cond (.tmp 39) (.seq (.reg [⟨some 2, none, .assign (.const (.int .i64 4))⟩])
 (.ret)) (.seq (sw 7 42 W35_3)
 (.cond (.tmp 42) (.seq (.reg [⟨some 45, none, .move (.tmp 0)⟩,
  ⟨some 46, none, .buildSlice 26 1 #[(0, .const (.string ⟨⟨[116, 111]⟩⟩))]⟩,
  ⟨some 47, none, .call { callee := .value (.func 58), args := #[.tmp 45, .tmp 46], argTypes := #[22, 26] }⟩,
  ⟨some 48, none, .unOp .not 4 (.tmp 47)⟩])
 (.cond (.tmp 48) (.seq (.reg [⟨some 2, none, .assign (.const (.int .i64 5))⟩])
 (.ret)) (.skip))) (.seq (sw 7 49 W35_4)
 (.cond (.tmp 49) (.seq (.reg [⟨some 2, none, .assign (.const (.int .i64 6))⟩])
 (.ret)) (.skip)))))))))))))))))
 (.seq (.reg [⟨some 2, none, .assign (.const (.int .i64 8))⟩])
 (.ret))))
theorem k35 : codeAt Try.prog 35 = some (K35, #[.tmp 2], 59) := by kernel_rfl
/-- pontoon/pontoonref05.Tokens -/
noncomputable def L36_0 : AC := .seq (.seq (.reg [⟨some 9, none, .move (.tmp 3)⟩,
  ⟨some 10, none, .binOp .gtr 3 (.tmp 9) (.const (.int .i64 0)) 3⟩,
  ⟨some 11, none, .move (.tmp 10)⟩,
  ⟨some 12, some (11, true), .move (.tmp 0)⟩,
  ⟨some 13, some (11, true), .move (.tmp 3)⟩,
  ⟨some 14, some (11, true), .binOp .sub 3 (.tmp 13) (.const (.int .i64 1)) 3⟩,
  ⟨some 15, some (11, true), .indexAddr 22 (.tmp 12) (.tmp 14)⟩,
  ⟨some 16, some (11, true), .fieldAddr 40 (.tmp 15) 0⟩,
  ⟨some 17, some (11, true), .load 3 (.tmp 16)⟩,
  ⟨some 18, some (11, true), .binOp .eql 3 (.tmp 17) (.const (.int .i64 5)) 3⟩,
  ⟨some 19, none, .pick (.tmp 11) (.tmp 18) (.const (.bool false))⟩,
  ⟨some 20, none, .move (.tmp 19)⟩,
  ⟨some 21, some (20, true), .move (.tmp 0)⟩,
  ⟨some 22, some (20, true), .move (.tmp 3)⟩,
  ⟨some 23, some (20, true), .binOp .sub 3 (.tmp 22) (.const (.int .i64 1)) 3⟩,
  ⟨some 24, some (20, true), .indexAddr 22 (.tmp 21) (.tmp 23)⟩,
  ⟨some 25, some (20, true), .fieldAddr 40 (.tmp 24) 1⟩,
  ⟨some 26, some (20, true), .load 9 (.tmp 25)⟩,
  ⟨some 27, some (20, true), .binOp .eql 9 (.tmp 26) (.const (.string ⟨⟨[59]⟩⟩)) 9⟩,
  ⟨some 28, none, .pick (.tmp 20) (.tmp 27) (.const (.bool false))⟩])
 (.cond (.tmp 28) (.skip) (.exit 0)))
 (.block 1 (.reg [⟨some 29, none, .move (.tmp 3)⟩,
  ⟨some 30, none, .binOp .sub 3 (.tmp 29) (.const (.int .i64 1)) 3⟩,
  ⟨some 3, none, .assign (.tmp 30)⟩]))
noncomputable def L36_1 : AC := .seq (.seq (.reg [⟨some 31, none, .move (.tmp 5)⟩,
  ⟨some 32, none, .move (.tmp 3)⟩,
  ⟨some 33, none, .binOp .lss 3 (.tmp 31) (.tmp 32) 3⟩])
 (.cond (.tmp 33) (.skip) (.exit 2)))
 (.seq (.block 3 (.seq (.reg [⟨some 36, none, .move (.tmp 0)⟩,
  ⟨some 37, none, .move (.tmp 5)⟩,
  ⟨some 38, none, .indexAddr 22 (.tmp 36) (.tmp 37)⟩,
  ⟨some 39, none, .load 40 (.tmp 38)⟩,
  ⟨some 6, none, .alloc 40⟩,
  ⟨none, none, .store 40 (.tmp 6) (.tmp 39)⟩])
 (.seq (.seq (.reg [⟨some 40, none, .fieldAddr 40 (.tmp 6) 0⟩,
  ⟨some 41, none, .load 3 (.tmp 40)⟩,
  ⟨some 42, none, .binOp .eql 3 (.tmp 41) (.const (.int .i64 4)) 3⟩,
  ⟨some 43, none, .move (.tmp 42)⟩,
  ⟨some 44, some (43, true), .fieldAddr 40 (.tmp 6) 1⟩,
  ⟨some 45, some (43, true), .load 9 (.tmp 44)⟩,
  ⟨some 46, some (43, true), .binOp .neq 9 (.tmp 45) (.const (.string ⟨⟨[]⟩⟩)) 9⟩,
  ⟨some 47, none, .pick (.tmp 43) (.tmp 46) (.const (.bool false))⟩])
 (.cond (.tmp 47) (.reg [⟨some 48, none, .fieldAddr 40 (.tmp 6) 1⟩,
  ⟨some 49, none, .load 9 (.tmp 48)⟩,
  ⟨some 50, none, .call { callee := .value (.func 59), args := #[.tmp 49], argTypes := #[9] }⟩,
  ⟨some 51, none, .fieldAddr 40 (.tmp 6) 1⟩,
  ⟨none, none, .store 9 (.tmp 51) (.tmp 50)⟩]) (.skip)))
 (.reg [⟨some 52, none, .move (.tmp 4)⟩,
  ⟨some 53, none, .load 40 (.tmp 6)⟩,
  ⟨some 54, none, .buildSlice 22 1 #[(0, .tmp 53)]⟩,
  ⟨some 55, none, .call { callee := .builtin .append, args := #[.tmp 52, .tmp 54], argTypes := #[22, 22] }⟩,
  ⟨some 4, none, .assign (.tmp 55)⟩]))))
 (.reg [⟨some 34, none, .move (.tmp 5)⟩,
  ⟨some 35, none, .binOp .add 3 (.tmp 34) (.const (.int .i64 1)) 3⟩,
  ⟨some 5, none, .assign (.tmp 35)⟩]))
noncomputable def K36 : AC := .seq (.reg [⟨some 2, none, .assign (.const (.string ⟨⟨[]⟩⟩))⟩])
 (.seq (.reg [⟨some 7, none, .move (.tmp 0)⟩,
  ⟨some 8, none, .call { callee := .builtin .len, args := #[.tmp 7], argTypes := #[22] }⟩,
  ⟨some 3, none, .assign (.tmp 8)⟩])
 (.seq (.block 0 (.loop L36_0))
 (.seq (.reg [⟨some 4, none, .assign (.const (.slice none 0 0))⟩])
 (.seq (.seq (.reg [⟨some 5, none, .assign (.const (.int .i64 0))⟩])
 (.block 2 (.loop L36_1)))
 (.seq (.reg [⟨some 56, none, .move (.tmp 4)⟩,
  ⟨some 57, none, .call { callee := .value (.func 60), args := #[.tmp 56], argTypes := #[22] }⟩,
  ⟨some 2, none, .assign (.tmp 57)⟩])
 (.ret))))))
theorem k36 : codeAt Try.prog 36 = some (K36, #[.tmp 2], 58) := by kernel_rfl
/-- pontoon/lexer.Scan -/
noncomputable def L37_0 : AC := .seq (.seq (.reg [⟨some 15, none, .move (.tmp 6)⟩,
  ⟨some 16, none, .move (.tmp 0)⟩,
  ⟨some 17, none, .call { callee := .builtin .len, args := #[.tmp 16], argTypes := #[9] }⟩,
  ⟨some 18, none, .binOp .lss 3 (.tmp 15) (.tmp 17) 3⟩])
 (.cond (.tmp 18) (.skip) (.exit 0)))
 (.block 1 (.seq (.reg [⟨some 19, none, .move (.tmp 0)⟩,
  ⟨some 20, none, .move (.tmp 6)⟩,
  ⟨some 21, none, .slice 9 (.tmp 19) (some (.tmp 20)) none none⟩,
  ⟨some 7, none, .assign (.tmp 21)⟩])
 (.seq (.seq (.reg [⟨some 22, none, .move (.tmp 0)⟩,
  ⟨some 23, none, .move (.tmp 6)⟩,
  ⟨some 24, none, .index 9 (.tmp 22) (.tmp 23)⟩,
  ⟨some 8, none, .assign (.tmp 24)⟩])
 (.block 2 (.seq (.reg [⟨some 26, none, .move (.tmp 8)⟩,
  ⟨some 27, none, .binOp .eql 5 (.tmp 26) (.const (.int .u8 32)) 5⟩,
  ⟨some 28, none, .move (.tmp 27)⟩,
  ⟨some 29, some (28, false), .move (.tmp 8)⟩,
  ⟨some 30, some (28, false), .binOp .eql 5 (.tmp 29) (.const (.int .u8 9)) 5⟩,
  ⟨some 31, none, .pick (.tmp 28) (.const (.bool true)) (.tmp 30)⟩,
  ⟨some 32, none, .move (.tmp 31)⟩,
  ⟨some 33, some (32, false), .move (.tmp 8)⟩,
  ⟨some 34, some (32, false), .binOp .eql 5 (.tmp 33) (.const (.int .u8 10)) 5⟩,
  ⟨some 35, none, .pick (.tmp 32) (.const (.bool true)) (.tmp 34)⟩,
  ⟨some 36, none, .move (.tmp 35)⟩,
  ⟨some 37, some (36, false), .move (.tmp 8)⟩,
  ⟨some 38, some (36, false), .binOp .eql 5 (.tmp 37) (.const (.int .u8 12)) 5⟩,
  ⟨some 39, none, .pick (.tmp 36) (.const (.bool true)) (.tmp 38)⟩,
  ⟨some 40, none, .move (.tmp 39)⟩,
  ⟨some 41, some (40, false), .move (.tmp 8)⟩,
  ⟨some 42, some (40, false), .binOp .eql 5 (.tmp 41) (.const (.int .u8 13)) 5⟩,
  ⟨some 43, none, .pick (.tmp 40) (.const (.bool true)) (.tmp 42)⟩,
  ⟨some 25, none, .assign (.tmp 43)⟩])
 (.cond (.tmp 25) (.seq (.reg [⟨some 44, none, .move (.tmp 6)⟩,
  ⟨some 45, none, .binOp .add 3 (.tmp 44) (.const (.int .i64 1)) 3⟩,
  ⟨some 6, none, .assign (.tmp 45)⟩])
 (.exit 1)) (.seq (.reg [⟨some 47, none, .move (.tmp 7)⟩,
  ⟨some 48, none, .call { callee := .value (.func 61), args := #[.tmp 47, .const (.string ⟨⟨[45, 45]⟩⟩)], argTypes := #[9, 9] }⟩,
  ⟨some 46, none, .assign (.tmp 48)⟩])
 (.cond (.tmp 46) (.seq (.reg [⟨some 49, none, .move (.tmp 6)⟩,
  ⟨some 50, none, .move (.tmp 7)⟩,
  ⟨some 51, none, .call { callee := .value (.func 62), args := #[.tmp 50, .func 63], argTypes := #[9, 69] }⟩,
  ⟨some 52, none, .binOp .add 3 (.tmp 49) (.tmp 51) 3⟩,
  ⟨some 6, none, .assign (.tmp 52)⟩])
 (.exit 1)) (.seq (.reg [⟨some 54, none, .move (.tmp 7)⟩,
  ⟨some 55, none, .call { callee := .value (.func 61), args := #[.tmp 54, .const (.string ⟨⟨[47, 42]⟩⟩)], argTypes := #[9, 9] }⟩,
  ⟨some 53, none, .assign (.tmp 55)⟩])
 (.cond (.tmp 53) (.seq (.reg [⟨some 56, none, .move (.tmp 7)⟩,
  ⟨some 57, none, .call { callee := .value (.func 64), args := #[.tmp 56], argTypes := #[9] }⟩,
  ⟨some 9, none, .assign (.tmp 57)⟩])
 (.seq (.seq (.reg [⟨some 58, none, .move (.tmp 9)⟩,
  ⟨some 59, none, .binOp .eql 3 (.tmp 58) (.const (.int .i64 (-1))) 3⟩])
 (.cond (.tmp 59) (.seq (.reg [⟨some 60, none, .move (.tmp 6)⟩,
  ⟨some 2, none, .assign (.const (.slice none 0 0))⟩,
  ⟨some 3, none, .assign (.const (.int .i64 6))⟩,
  ⟨some 4, none, .assign (.tmp 60)⟩])
 (.ret)) (.skip)))
 (.seq (.reg [⟨some 61, none, .move (.tmp 6)⟩,
  ⟨some 62, none, .move (.tmp 9)⟩,
  ⟨some 63, none, .binOp .add 3 (.tmp 61) (.tmp 62) 3⟩,
  ⟨some 6, none, .assign (.tmp 63)⟩])
 (.exit 1)))) (.skip)))))))))
 (.seq (.reg [⟨some 65, none, .move (.tmp 7)⟩,
  ⟨some 66, none, .call { callee := .value (.func 65), args := #[.tmp 65], argTypes := #[9] }⟩,
  ⟨some 64, none, .move (.tmp 66)⟩,
  ⟨some 67, none, .extract (.tmp 64) 0⟩,
  ⟨some 68, none, .extract (.tmp 64) 1⟩,
  ⟨some 10, none, .alloc 40⟩,
  ⟨none, none, .store 40 (.tmp 10) (.tmp 67)⟩,
  ⟨some 11, none, .assign (.tmp 68)⟩])
 (.seq (.seq (.reg [⟨some 69, none, .move (.tmp 11)⟩])
 (.block 3 (.seq (.reg [⟨some 71, none, .binOp .eql 3 (.tmp 69) (.const (.int .i64 (-1))) 3⟩,
  ⟨some 70, none, .assign (.tmp 71)⟩])
 (.cond (.tmp 70) (.seq (.reg [⟨some 72, none, .move (.tmp 6)⟩,
  ⟨some 2, none, .assign (.const (.slice none 0 0))⟩,
  ⟨some 3, none, .assign (.const (.int .i64 6))⟩,
  ⟨some 4, none, .assign (.tmp 72)⟩])
 (.ret)) (.seq (.reg [⟨some 74, none, .binOp .eql 3 (.tmp 69) (.const (.int .i64 0)) 3⟩,
  ⟨some 73, none, .assign (.tmp 74)⟩])
 (.cond (.tmp 73) (.seq (.reg [⟨some 75, none, .move (.tmp 6)⟩,
  ⟨some 2, none, .assign (.const (.slice none 0 0))⟩,
  ⟨some 3, none, .assign (.const (.int .i64 7))⟩,
  ⟨some 4, none, .assign (.tmp 75)⟩])
 (.ret)) (.skip)))))))
 (.seq (.reg [⟨some 76, none, .move (.tmp 6)⟩,
  ⟨some 77, none, .fieldAddr 40 (.tmp 10) 2⟩,
  ⟨none, none, .store 3 (.tmp 77) (.tmp 76)⟩])
 (.seq (.reg [⟨some 78, none, .move (.tmp 5)⟩,
  ⟨some 79, none, .load 40 (.tmp 10)⟩,
  ⟨some 80, none, .buildSlice 22 1 #[(0, .tmp 79)]⟩,
  ⟨some 81, none, .call { callee := .builtin .append, args := #[.tmp 78, .tmp 80], argTypes := #[22, 22] }⟩,
  ⟨some 5, none, .assign (.tmp 81)⟩])
 (.reg [⟨some 82, none, .move (.tmp 6)⟩,
  ⟨some 83, none, .move (.tmp 11)⟩,
  ⟨some 84, none, .binOp .add 3 (.tmp 82) (.tmp 83) 3⟩,
  ⟨some 6, none, .assign (.tmp 84)⟩]))))))))
noncomputable def K37 : AC := .seq (.reg [⟨some 2, none, .assign (.const (.slice none 0 0))⟩,
  ⟨some 3, none, .assign (.const (.int .i64 0))⟩,
  ⟨some 4, none, .assign (.const (.int .i64 0))⟩])
 (.seq (.seq (.reg [⟨some 12, none, .move (.tmp 0)⟩,
  ⟨some 13, none, .call { callee := .builtin .len, args := #[.tmp 12], argTypes := #[9] }⟩,
  ⟨some 14, none, .binOp .gtr 3 (.tmp 13) (.const (.int .i64 2000)) 3⟩])
 (.cond (.tmp 14) (.seq (.reg [⟨some 2, none, .assign (.const (.slice none 0 0))⟩,
  ⟨some 3, none, .assign (.const (.int .i64 2))⟩,
  ⟨some 4, none, .assign (.const (.int .i64 2000))⟩])
 (.ret)) (.skip)))
 (.seq (.reg [⟨some 5, none, .assign (.const (.slice none 0 0))⟩])
 (.seq (.reg [⟨some 6, none, .assign (.const (.int .i64 0))⟩])
 (.seq (.skip)
 (.seq (.block 0 (.loop L37_0))
 (.seq (.reg [⟨some 85, none, .move (.tmp 5)⟩,
  ⟨some 2, none, .assign (.tmp 85)⟩,
  ⟨some 3, none, .assign (.const (.int .i64 0))⟩,
  ⟨some 4, none, .assign (.const (.int .i64 0))⟩])
 (.ret)))))))
theorem k37 : codeAt Try.prog 37 = some (K37, #[.tmp 2, .tmp 3, .tmp 4], 86) := by kernel_rfl
/-- pontoon/lexer.Split -/
noncomputable def L38_0 : AC := .seq (.reg [⟨some 12, none, .binOp .lss 3 (.tmp 11) (.tmp 10) 3⟩])
 (.seq (.cond (.tmp 12) (.skip) (.exit 0))
 (.seq (.block 1 (.seq (.reg [⟨some 13, none, .indexAddr 22 (.tmp 9) (.tmp 11)⟩,
  ⟨some 14, none, .load 40 (.tmp 13)⟩,
  ⟨some 7, none, .alloc 40⟩,
  ⟨none, none, .store 40 (.tmp 7) (.tmp 14)⟩])
 (.seq (.seq (.reg [⟨some 15, none, .fieldAddr 40 (.tmp 7) 0⟩,
  ⟨some 16, none, .load 3 (.tmp 15)⟩,
  ⟨some 17, none, .binOp .eql 3 (.tmp 16) (.const (.int .i64 5)) 3⟩,
  ⟨some 18, none, .move (.tmp 17)⟩,
  ⟨some 19, some (18, true), .fieldAddr 40 (.tmp 7) 1⟩,
  ⟨some 20, some (18, true), .load 9 (.tmp 19)⟩,
  ⟨some 21, some (18, true), .binOp .eql 9 (.tmp 20) (.const (.string ⟨⟨[59]⟩⟩)) 9⟩,
  ⟨some 22, none, .pick (.tmp 18) (.tmp 21) (.const (.bool false))⟩])
 (.cond (.tmp 22) (.seq (.reg [⟨some 23, none, .move (.tmp 5)⟩,
  ⟨some 24, none, .call { callee := .value (.tmp 23), args := #[], argTypes := #[] }⟩])
 (.exit 1)) (.skip)))
 (.reg [⟨some 25, none, .load 22 (.tmp 4)⟩,
  ⟨some 26, none, .load 40 (.tmp 7)⟩,
  ⟨some 27, none, .buildSlice 22 1 #[(0, .tmp 26)]⟩,
  ⟨some 28, none, .call { callee := .builtin .append, args := #[.tmp 25, .tmp 27], argTypes := #[22, 22] }⟩,
  ⟨none, none, .store 22 (.tmp 4) (.tmp 28)⟩]))))
 (.reg [⟨some 29, none, .binOp .add 3 (.tmp 11) (.const (.int .i64 1)) 3⟩,
  ⟨some 11, none, .move (.tmp 29)⟩])))
noncomputable def K38 : AC := .seq (.reg [⟨some 2, none, .assign (.const (.slice none 0 0))⟩])
 (.seq (.reg [⟨some 3, none, .alloc 54⟩])
 (.seq (.reg [⟨some 4, none, .alloc 22⟩])
 (.seq (.reg [⟨some 8, none, .makeFunc (.func 66) #[] #[.tmp 4, .tmp 3]⟩,
  ⟨some 5, none, .assign (.tmp 8)⟩])
 (.seq (.seq (.reg [⟨some 9, none, .move (.tmp 0)⟩,
  ⟨some 10, none, .call { callee := .builtin .len, args := #[.tmp 9], argTypes := #[22] }⟩,
  ⟨some 11, none, .move (.const (.int .i64 0))⟩])
 (.block 0 (.loop L38_0)))
 (.seq (.reg [⟨some 30, none, .move (.tmp 5)⟩,
  ⟨some 31, none, .call { callee := .value (.tmp 30), args := #[], argTypes := #[] }⟩])
 (.seq (.reg [⟨some 32, none, .load 54 (.tmp 3)⟩,
  ⟨some 2, none, .assign (.tmp 32)⟩])
 (.ret)))))))
theorem k38 : codeAt Try.prog 38 = some (K38, #[.tmp 2], 33) := by kernel_rfl
/-- pontoon/pontoonref04.Scan -/
noncomputable def L39_0 : AC := .seq (.seq (.reg [⟨some 21, none, .move (.tmp 6)⟩,
  ⟨some 22, none, .move (.tmp 0)⟩,
  ⟨some 23, none, .call { callee := .builtin .len, args := #[.tmp 22], argTypes := #[9] }⟩,
  ⟨some 24, none, .binOp .lss 3 (.tmp 21) (.tmp 23) 3⟩,
  ⟨some 25, none, .move (.tmp 24)⟩,
  ⟨some 26, some (25, true), .move (.tmp 7)⟩,
  ⟨some 27, some (25, true), .unOp .not 4 (.tmp 26)⟩,
  ⟨some 28, none, .pick (.tmp 25) (.tmp 27) (.const (.bool false))⟩])
 (.cond (.tmp 28) (.skip) (.exit 0)))
 (.block 1 (.seq (.reg [⟨some 30, none, .move (.tmp 0)⟩,
  ⟨some 31, none, .move (.tmp 6)⟩,
  ⟨some 32, none, .call { callee := .value (.func 68), args := #[.tmp 30, .tmp 31], argTypes := #[9, 3] }⟩,
  ⟨some 29, none, .move (.tmp 32)⟩,
  ⟨some 33, none, .extract (.tmp 29) 0⟩,
  ⟨some 34, none, .extract (.tmp 29) 1⟩,
  ⟨some 35, none, .extract (.tmp 29) 2⟩,
  ⟨some 8, none, .alloc 40⟩,
  ⟨none, none, .store 40 (.tmp 8) (.tmp 33)⟩,
  ⟨some 9, none, .assign (.tmp 34)⟩,
  ⟨some 10, none, .assign (.tmp 35)⟩])
 (.seq (.seq (.reg [⟨some 36, none, .move (.tmp 10)⟩,
  ⟨some 37, none, .binOp .neq 33 (.tmp 36) (.const (.int .i64 0)) 33⟩])
 (.cond (.tmp 37) (.seq (.reg [⟨some 38, none, .move (.tmp 10)⟩,
  ⟨some 39, none, .move (.tmp 6)⟩,
  ⟨some 2, none, .assign (.const (.slice none 0 0))⟩,
  ⟨some 3, none, .assign (.tmp 38)⟩,
  ⟨some 4, none, .assign (.tmp 39)⟩])
 (.ret)) (.skip)))
 (.seq (.reg [⟨some 40, none, .move (.tmp 5)⟩,
  ⟨some 41, none, .load 40 (.tmp 8)⟩,
  ⟨some 42, none, .buildSlice 22 1 #[(0, .tmp 41)]⟩,
  ⟨some 43, none, .call { callee := .builtin .append, args := #[.tmp 40, .tmp 42], argTypes := #[22, 22] }⟩,
  ⟨some 5, none, .assign (.tmp 43)⟩])
 (.seq (.reg [⟨some 45, none, .move (.tmp 0)⟩,
  ⟨some 46, none, .move (.tmp 9)⟩,
  ⟨some 47, none, .call { callee := .value (.func 67), args := #[.tmp 45, .tmp 46], argTypes := #[9, 3] }⟩,
  ⟨some 44, none, .move (.tmp 47)⟩,
  ⟨some 48, none, .extract (.tmp 44) 0⟩,
  ⟨some 49, none, .extract (.tmp 44) 1⟩,
  ⟨some 11, none, .assign (.tmp 48)⟩,
  ⟨some 12, none, .assign (.tmp 49)⟩])
 (.seq (.reg [⟨some 50, none, .move (.tmp 11)⟩,
  ⟨some 6, none, .assign (.tmp 50)⟩])
 (.reg [⟨some 51, none, .move (.tmp 12)⟩,
  ⟨some 7, none, .assign (.tmp 51)⟩])))))))
noncomputable def K39 : AC := .seq (.reg [⟨some 2, none, .assign (.const (.slice none 0 0))⟩,
  ⟨some 3, none, .assign (.const (.int .i64 0))⟩,
  ⟨some 4, none, .assign (.const (.int .i64 0))⟩])
 (.seq (.seq (.reg [⟨some 13, none, .move (.tmp 0)⟩,
  ⟨some 14, none, .call { callee := .builtin .len, args := #[.tmp 13], argTypes := #[9] }⟩,
  ⟨some 15, none, .binOp .gtr 3 (.tmp 14) (.const (.int .i64 2000)) 3⟩])
 (.cond (.tmp 15) (.seq (.reg [⟨some 2, none, .assign (.const (.slice none 0 0))⟩,
  ⟨some 3, none, .assign (.const (.int .i64 2))⟩,
  ⟨some 4, none, .assign (.const (.int .i64 2000))⟩])
 (.ret)) (.skip)))
 (.seq (.reg [⟨some 5, none, .assign (.const (.slice none 0 0))⟩])
 (.seq (.reg [⟨some 17, none, .move (.tmp 0)⟩,
  ⟨some 18, none, .call { callee := .value (.func 67), args := #[.tmp 17, .const (.int .i64 0)], argTypes := #[9, 3] }⟩,
  ⟨some 16, none, .move (.tmp 18)⟩,
  ⟨some 19, none, .extract (.tmp 16) 0⟩,
  ⟨some 20, none, .extract (.tmp 16) 1⟩,
  ⟨some 6, none, .assign (.tmp 19)⟩,
  ⟨some 7, none, .assign (.tmp 20)⟩])
 (.seq (.block 0 (.loop L39_0))
 (.seq (.seq (.reg [⟨some 52, none, .move (.tmp 7)⟩])
 (.cond (.tmp 52) (.seq (.reg [⟨some 53, none, .move (.tmp 6)⟩,
  ⟨some 2, none, .assign (.const (.slice none 0 0))⟩,
  ⟨some 3, none, .assign (.const (.int .i64 6))⟩,
  ⟨some 4, none, .assign (.tmp 53)⟩])
 (.ret)) (.skip)))
 (.seq (.reg [⟨some 54, none, .move (.tmp 5)⟩,
  ⟨some 2, none, .assign (.tmp 54)⟩,
  ⟨some 3, none, .assign (.const (.int .i64 0))⟩,
  ⟨some 4, none, .assign (.const (.int .i64 0))⟩])
 (.ret)))))))
theorem k39 : codeAt Try.prog 39 = some (K39, #[.tmp 2, .tmp 3, .tmp 4], 55) := by kernel_rfl
/-- pontoon/pontoonref04.Split -/
noncomputable def L40_0 : AC := .seq (.seq (.reg [⟨some 6, none, .move (.tmp 5)⟩,
  ⟨some 7, none, .move (.tmp 0)⟩,
  ⟨some 8, none, .call { callee := .builtin .len, args := #[.tmp 7], argTypes := #[22] }⟩,
  ⟨some 9, none, .binOp .leq 3 (.tmp 6) (.tmp 8) 3⟩])
 (.cond (.tmp 9) (.skip) (.exit 0)))
 (.seq (.block 1 (.seq (.seq (.reg [⟨some 12, none, .move (.tmp 5)⟩,
  ⟨some 13, none, .move (.tmp 0)⟩,
  ⟨some 14, none, .call { callee := .builtin .len, args := #[.tmp 13], argTypes := #[22] }⟩,
  ⟨some 15, none, .binOp .lss 3 (.tmp 12) (.tmp 14) 3⟩,
  ⟨some 16, none, .move (.tmp 15)⟩,
  ⟨some 17, some (16, true), .move (.tmp 0)⟩,
  ⟨some 18, some (16, true), .move (.tmp 5)⟩,
  ⟨some 19, some (16, true), .indexAddr 22 (.tmp 17) (.tmp 18)⟩,
  ⟨some 20, some (16, true), .fieldAddr 40 (.tmp 19) 0⟩,
  ⟨some 21, some (16, true), .load 3 (.tmp 20)⟩,
  ⟨some 22, some (16, true), .binOp .neq 3 (.tmp 21) (.const (.int .i64 5)) 3⟩,
  ⟨some 23, some (16, true), .move (.tmp 22)⟩,
  ⟨some 24, some (23, false), .move (.tmp 0)⟩,
  ⟨some 25, some (23, false), .move (.tmp 5)⟩,
  ⟨some 26, some (23, false), .indexAddr 22 (.tmp 24) (.tmp 25)⟩,
  ⟨some 27, some (23, false), .fieldAddr 40 (.tmp 26) 1⟩,
  ⟨some 28, some (23, false), .load 9 (.tmp 27)⟩,
  ⟨some 29, some (23, false), .binOp .neq 9 (.tmp 28) (.const (.string ⟨⟨[59]⟩⟩)) 9⟩,
  ⟨some 30, some (16, true), .pick (.tmp 23) (.const (.bool true)) (.tmp 29)⟩,
  ⟨some 31, none, .pick (.tmp 16) (.tmp 30) (.const (.bool false))⟩])
 (.cond (.tmp 31) (.seq (.reg [⟨some 32, none, .move (.tmp 4)⟩,
  ⟨some 33, none, .move (.tmp 0)⟩,
  ⟨some 34, none, .move (.tmp 5)⟩,
  ⟨some 35, none, .indexAddr 22 (.tmp 33) (.tmp 34)⟩,
  ⟨some 36, none, .load 40 (.tmp 35)⟩,
  ⟨some 37, none, .buildSlice 22 1 #[(0, .tmp 36)]⟩,
  ⟨some 38, none, .call { callee := .builtin .append, args := #[.tmp 32, .tmp 37], argTypes := #[22, 22] }⟩,
  ⟨some 4, none, .assign (.tmp 38)⟩])
 (.exit 1)) (.skip)))
 (.seq (.seq (.reg [⟨some 39, none, .move (.tmp 4)⟩,
  ⟨some 40, none, .call { callee := .builtin .len, args := #[.tmp 39], argTypes := #[22] }⟩,
  ⟨some 41, none, .binOp .gtr 3 (.tmp 40) (.const (.int .i64 0)) 3⟩])
 (.cond (.tmp 41) (.reg [⟨some 42, none, .move (.tmp 3)⟩,
  ⟨some 43, none, .move (.tmp 4)⟩,
  ⟨some 44, none, .buildSlice 54 1 #[(0, .tmp 43)]⟩,
  ⟨some 45, none, .call { callee := .builtin .append, args := #[.tmp 42, .tmp 44], argTypes := #[54, 54] }⟩,
  ⟨some 3, none, .assign (.tmp 45)⟩]) (.skip)))
 (.reg [⟨some 4, none, .assign (.const (.slice none 0 0))⟩]))))
 (.reg [⟨some 10, none, .move (.tmp 5)⟩,
  ⟨some 11, none, .binOp .add 3 (.tmp 10) (.const (.int .i64 1)) 3⟩,
  ⟨some 5, none, .assign (.tmp 11)⟩]))
noncomputable def K40 : AC := .seq (.reg [⟨some 2, none, .assign (.const (.slice none 0 0))⟩])
 (.seq (.reg [⟨some 3, none, .assign (.const (.slice none 0 0))⟩])
 (.seq (.reg [⟨some 4, none, .assign (.const (.slice none 0 0))⟩])
 (.seq (.seq (.reg [⟨some 5, none, .assign (.const (.int .i64 0))⟩])
 (.block 0 (.loop L40_0)))
 (.seq (.reg [⟨some 46, none, .move (.tmp 3)⟩,
  ⟨some 2, none, .assign (.tmp 46)⟩])
 (.ret)))))
theorem k40 : codeAt Try.prog 40 = some (K40, #[.tmp 2], 47) := by kernel_rfl
/-- pontoon/pontoonref07.in -/
noncomputable def L41_0 : AC := .seq (.seq (.reg [⟨some 6, none, .move (.tmp 5)⟩,
  ⟨some 7, none, .move (.tmp 0)⟩,
  ⟨some 8, none, .call { callee := .builtin .len, args := #[.tmp 7], argTypes := #[26] }⟩,
  ⟨some 9, none, .binOp .lss 3 (.tmp 6) (.tmp 8) 3⟩])
 (.cond (.tmp 9) (.skip) (.exit 0)))
 (.seq (.block 1 (.seq (.reg [⟨some 12, none, .move (.tmp 0)⟩,
  ⟨some 13, none, .move (.tmp 5)⟩,
  ⟨some 14, none, .indexAddr 26 (.tmp 12) (.tmp 13)⟩,
  ⟨some 15, none, .load 9 (.tmp 14)⟩,
  ⟨some 16, none, .move (.tmp 1)⟩,
  ⟨some 17, none, .binOp .eql 9 (.tmp 15) (.tmp 16) 9⟩])
 (.cond (.tmp 17) (.seq (.reg [⟨some 4, none, .assign (.const (.bool true))⟩])
 (.ret)) (.skip))))
 (.reg [⟨some 10, none, .move (.tmp 5)⟩,
  ⟨some 11, none, .binOp .add 3 (.tmp 10) (.const (.int .i64 1)) 3⟩,
  ⟨some 5, none, .assign (.tmp 11)⟩]))
noncomputable def K41 : AC := .seq (.reg [⟨some 4, none, .assign (.const (.bool false))⟩])
 (.seq (.seq (.reg [⟨some 5, none, .assign (.const (.int .i64 0))⟩])
 (.block 0 (.loop L41_0)))
 (.seq (.reg [⟨some 4, none, .assign (.const (.bool false))⟩])
 (.ret)))
theorem k41 : codeAt Try.prog 41 = some (K41, #[.tmp 4], 18) := by kernel_rfl
/-- (pontoon/sets.text).is -/
noncomputable def K42 : AC := .seq (.reg [⟨some 8, none, .assign (.const (.bool false))⟩])
 (.seq (.reg [⟨some 9, none, .move (.tmp 1)⟩,
  ⟨some 10, none, .binOp .geq 3 (.tmp 9) (.const (.int .i64 0)) 3⟩,
  ⟨some 11, none, .move (.tmp 10)⟩,
  ⟨some 12, some (11, true), .move (.tmp 1)⟩,
  ⟨some 13, some (11, true), .move (.tmp 0)⟩,
  ⟨some 14, some (11, true), .call { callee := .builtin .len, args := #[.tmp 13], argTypes := #[42] }⟩,
  ⟨some 15, some (11, true), .binOp .lss 3 (.tmp 12) (.tmp 14) 3⟩,
  ⟨some 16, none, .pick (.tmp 11) (.tmp 15) (.const (.bool false))⟩,
  ⟨some 17, none, .move (.tmp 16)⟩,
  ⟨some 18, some (17, true), .move (.tmp 0)⟩,
  ⟨some 19, some (17, true), .move (.tmp 1)⟩,
  ⟨some 20, some (17, true), .indexAddr 42 (.tmp 18) (.tmp 19)⟩,
  ⟨some 21, some (17, true), .fieldAddr 40 (.tmp 20) 0⟩,
  ⟨some 22, some (17, true), .load 3 (.tmp 21)⟩,
  ⟨some 23, some (17, true), .move (.tmp 2)⟩,
  ⟨some 24, some (17, true), .binOp .eql 3 (.tmp 22) (.tmp 23) 3⟩,
  ⟨some 25, none, .pick (.tmp 17) (.tmp 24) (.const (.bool false))⟩,
  ⟨some 26, none, .move (.tmp 25)⟩,
  ⟨some 27, some (26, true), .move (.tmp 0)⟩,
  ⟨some 28, some (26, true), .move (.tmp 1)⟩,
  ⟨some 29, some (26, true), .indexAddr 42 (.tmp 27) (.tmp 28)⟩,
  ⟨some 30, some (26, true), .fieldAddr 40 (.tmp 29) 1⟩,
  ⟨some 31, some (26, true), .load 9 (.tmp 30)⟩,
  ⟨some 32, some (26, true), .move (.tmp 3)⟩,
  ⟨some 33, some (26, true), .binOp .eql 9 (.tmp 31) (.tmp 32) 9⟩,
  ⟨some 34, none, .pick (.tmp 26) (.tmp 33) (.const (.bool false))⟩,
  ⟨some 8, none, .assign (.tmp 34)⟩])
 (.ret))
theorem k42 : codeAt Try.prog 42 = some (K42, #[.tmp 8], 35) := by kernel_rfl
/-- (pontoon/sets.text).part -/
noncomputable def K43 : AC := .seq (.reg [⟨some 4, none, .assign (.const (.bool false))⟩])
 (.seq (.reg [⟨some 5, none, .move (.tmp 1)⟩,
  ⟨some 6, none, .move (.tmp 0)⟩,
  ⟨some 7, none, .call { callee := .builtin .len, args := #[.tmp 6], argTypes := #[42] }⟩,
  ⟨some 8, none, .binOp .lss 3 (.tmp 5) (.tmp 7) 3⟩,
  ⟨some 9, none, .move (.tmp 8)⟩,
  ⟨some 10, some (9, true), .move (.tmp 0)⟩,
  ⟨some 11, some (9, true), .move (.tmp 1)⟩,
  ⟨some 12, some (9, true), .indexAddr 42 (.tmp 10) (.tmp 11)⟩,
  ⟨some 13, some (9, true), .fieldAddr 40 (.tmp 12) 0⟩,
  ⟨some 14, some (9, true), .load 3 (.tmp 13)⟩,
  ⟨some 15, some (9, true), .binOp .eql 3 (.tmp 14) (.const (.int .i64 2)) 3⟩,
  ⟨some 16, some (9, true), .move (.tmp 15)⟩,
  ⟨some 17, some (16, false), .move (.tmp 0)⟩,
  ⟨some 18, some (16, false), .move (.tmp 1)⟩,
  ⟨some 19, some (16, false), .indexAddr 42 (.tmp 17) (.tmp 18)⟩,
  ⟨some 20, some (16, false), .fieldAddr 40 (.tmp 19) 0⟩,
  ⟨some 21, some (16, false), .load 3 (.tmp 20)⟩,
  ⟨some 22, some (16, false), .binOp .eql 3 (.tmp 21) (.const (.int .i64 1)) 3⟩,
  ⟨some 23, some (16, false), .move (.tmp 22)⟩,
  ⟨some 24, some (23, true), .move (.tmp 0)⟩,
  ⟨some 25, some (23, true), .move (.tmp 1)⟩,
  ⟨some 26, some (23, true), .indexAddr 42 (.tmp 24) (.tmp 25)⟩,
  ⟨some 27, some (23, true), .fieldAddr 40 (.tmp 26) 1⟩,
  ⟨some 28, some (23, true), .load 9 (.tmp 27)⟩,
  ⟨some 29, some (23, true), .call { callee := .value (.func 69), args := #[.tmp 28], argTypes := #[9] }⟩,
  ⟨some 30, some (23, true), .unOp .not 4 (.tmp 29)⟩,
  ⟨some 31, some (16, false), .pick (.tmp 23) (.tmp 30) (.const (.bool false))⟩,
  ⟨some 32, some (9, true), .pick (.tmp 16) (.const (.bool true)) (.tmp 31)⟩,
  ⟨some 33, none, .pick (.tmp 9) (.tmp 32) (.const (.bool false))⟩,
  ⟨some 4, none, .assign (.tmp 33)⟩])
 (.ret))
theorem k43 : codeAt Try.prog 43 = some (K43, #[.tmp 4], 34) := by kernel_rfl
/-- pontoon/pontoonref07.name -/
def D44_4 : List (Bool × AOp) := [(false, ⟨some 21, none, .move (.tmp 0)⟩),
  (false, ⟨some 22, none, .move (.tmp 1)⟩),
  (false, ⟨some 23, none, .indexAddr 22 (.tmp 21) (.tmp 22)⟩),
  (false, ⟨some 24, none, .fieldAddr 40 (.tmp 23) 1⟩),
  (false, ⟨some 25, none, .load 9 (.tmp 24)⟩),
  (false, ⟨some 26, none, .binOp .add 9 (.tmp 25) (.const (.string ⟨⟨[46]⟩⟩)) 9⟩),
  (false, ⟨some 27, none, .move (.tmp 0)⟩),
  (false, ⟨some 28, none, .move (.tmp 1)⟩),
  (false, ⟨some 29, none, .binOp .add 3 (.tmp 28) (.const (.int .i64 2)) 3⟩),
  (false, ⟨some 30, none, .indexAddr 22 (.tmp 27) (.tmp 29)⟩),
  (false, ⟨some 31, none, .fieldAddr 40 (.tmp 30) 1⟩),
  (false, ⟨some 32, none, .load 9 (.tmp 31)⟩),
  (false, ⟨some 33, none, .binOp .add 9 (.tmp 26) (.tmp 32) 9⟩),
  (false, ⟨some 34, none, .move (.tmp 1)⟩),
  (false, ⟨some 35, none, .binOp .add 3 (.tmp 34) (.const (.int .i64 3)) 3⟩),
  (false, ⟨some 4, none, .assign (.tmp 33)⟩),
  (false, ⟨some 5, none, .assign (.tmp 35)⟩)]
theorem d44_4 : drawList E.pure 43 (regionOf Try.f44 4) = some D44_4 := by kernel_rfl
@[go_sem] theorem e44_4 (s : Slots) (H : AHeap) (Q : QT) : C (cxV E) (.draw 43 (regionOf Try.f44 4)) s H Q = XD (cxV E) D44_4 s H (Qr Q) := C_draw_eq d44_4 s H Q
noncomputable def K44 : AC := .seq (.reg [⟨some 4, none, .assign (.const (.string ⟨⟨[]⟩⟩))⟩,
  ⟨some 5, none, .assign (.const (.int .i64 0))⟩])
 (.seq (.seq (.reg [⟨some 6, none, .move (.tmp 0)⟩,
  ⟨some 7, none, .move (.tmp 1)⟩,
  ⟨some 8, none, .call { callee := .value (.func 45), args := #[.tmp 6, .tmp 7], argTypes := #[22, 3] }⟩,
  ⟨some 9, none, .unOp .not 4 (.tmp 8)⟩])
 (.cond (.tmp 9) (.seq (.reg [⟨some 10, none, .move (.tmp 1)⟩,
  ⟨some 4, none, .assign (.const (.string ⟨⟨[]⟩⟩))⟩,
  ⟨some 5, none, .assign (.tmp 10)⟩])
 (.ret)) (.skip)))
 (.seq (.seq (.reg [⟨some 11, none, .move (.tmp 0)⟩,
  ⟨some 12, none, .move (.tmp 1)⟩,
  ⟨some 13, none, .binOp .add 3 (.tmp 12) (.const (.int .i64 1)) 3⟩,
  ⟨some 14, none, .call { callee := .value (.func 46), args := #[.tmp 11, .tmp 13, .const (.string ⟨⟨[46]⟩⟩)], argTypes := #[22, 3, 9] }⟩,
  ⟨some 15, none, .move (.tmp 14)⟩,
  ⟨some 16, some (15, true), .move (.tmp 0)⟩,
  ⟨some 17, some (15, true), .move (.tmp 1)⟩,
  ⟨some 18, some (15, true), .binOp .add 3 (.tmp 17) (.const (.int .i64 2)) 3⟩,
  ⟨some 19, some (15, true), .call { callee := .value (.func 45), args := #[.tmp 16, .tmp 18], argTypes := #[22, 3] }⟩,
  ⟨some 20, none, .pick (.tmp 15) (.tmp 19) (.const (.bool false))⟩])
 (.cond (.tmp 20) (.seq (.draw 43 (regionOf Try.f44 4))
 (.ret)) (.skip)))
 (.seq (.reg [⟨some 36, none, .move (.tmp 0)⟩,
  ⟨some 37, none, .move (.tmp 1)⟩,
  ⟨some 38, none, .indexAddr 22 (.tmp 36) (.tmp 37)⟩,
  ⟨some 39, none, .fieldAddr 40 (.tmp 38) 1⟩,
  ⟨some 40, none, .load 9 (.tmp 39)⟩,
  ⟨some 41, none, .move (.tmp 1)⟩,
  ⟨some 42, none, .binOp .add 3 (.tmp 41) (.const (.int .i64 1)) 3⟩,
  ⟨some 4, none, .assign (.tmp 40)⟩,
  ⟨some 5, none, .assign (.tmp 42)⟩])
 (.ret))))
theorem k44 : codeAt Try.prog 44 = some (K44, #[.tmp 4, .tmp 5], 43) := by kernel_rfl
/-- pontoon/pontoonref07.part -/
def D45_1 : List (Bool × AOp) := [(false, ⟨some 5, none, .move (.tmp 1)⟩),
  (false, ⟨some 6, none, .move (.tmp 0)⟩),
  (false, ⟨some 7, none, .call { callee := .builtin .len, args := #[.tmp 6], argTypes := #[22] }⟩),
  (false, ⟨some 8, none, .binOp .lss 3 (.tmp 5) (.tmp 7) 3⟩),
  (false, ⟨some 9, none, .move (.tmp 8)⟩),
  (false, ⟨some 10, some (9, true), .move (.tmp 0)⟩),
  (false, ⟨some 11, some (9, true), .move (.tmp 1)⟩),
  (false, ⟨some 12, some (9, true), .indexAddr 22 (.tmp 10) (.tmp 11)⟩),
  (false, ⟨some 13, some (9, true), .fieldAddr 40 (.tmp 12) 0⟩),
  (false, ⟨some 14, some (9, true), .load 3 (.tmp 13)⟩),
  (false, ⟨some 15, some (9, true), .binOp .eql 3 (.tmp 14) (.const (.int .i64 2)) 3⟩),
  (false, ⟨some 16, some (9, true), .move (.tmp 15)⟩),
  (false, ⟨some 17, some (16, false), .move (.tmp 0)⟩),
  (false, ⟨some 18, some (16, false), .move (.tmp 1)⟩),
  (false, ⟨some 19, some (16, false), .indexAddr 22 (.tmp 17) (.tmp 18)⟩),
  (false, ⟨some 20, some (16, false), .fieldAddr 40 (.tmp 19) 0⟩),
  (false, ⟨some 21, some (16, false), .load 3 (.tmp 20)⟩),
  (false, ⟨some 22, some (16, false), .binOp .eql 3 (.tmp 21) (.const (.int .i64 1)) 3⟩),
  (false, ⟨some 23, some (16, false), .move (.tmp 22)⟩),
  (false, ⟨some 24, some (23, true), .call { callee := .value (.func 70), args := #[], argTypes := #[] }⟩),
  (false, ⟨some 25, some (23, true), .move (.tmp 0)⟩),
  (false, ⟨some 26, some (23, true), .move (.tmp 1)⟩),
  (false, ⟨some 27, some (23, true), .indexAddr 22 (.tmp 25) (.tmp 26)⟩),
  (false, ⟨some 28, some (23, true), .fieldAddr 40 (.tmp 27) 1⟩),
  (false, ⟨some 29, some (23, true), .load 9 (.tmp 28)⟩),
  (false, ⟨some 30, some (23, true), .call { callee := .value (.func 41), args := #[.tmp 24, .tmp 29], argTypes := #[26, 9] }⟩),
  (false, ⟨some 31, some (23, true), .unOp .not 4 (.tmp 30)⟩),
  (false, ⟨some 32, some (16, false), .pick (.tmp 23) (.tmp 31) (.const (.bool false))⟩),
  (false, ⟨some 33, some (9, true), .pick (.tmp 16) (.const (.bool true)) (.tmp 32)⟩),
  (false, ⟨some 34, none, .pick (.tmp 9) (.tmp 33) (.const (.bool false))⟩),
  (false, ⟨some 4, none, .assign (.tmp 34)⟩)]
theorem d45_1 : drawList E.pure 35 (regionOf Try.f45 1) = some D45_1 := by kernel_rfl
@[go_sem] theorem e45_1 (s : Slots) (H : AHeap) (Q : QT) : C (cxV E) (.draw 35 (regionOf Try.f45 1)) s H Q = XD (cxV E) D45_1 s H (Qr Q) := C_draw_eq d45_1 s H Q
noncomputable def K45 : AC := .seq (.reg [⟨some 4, none, .assign (.const (.bool false))⟩])
 (.seq (.draw 35 (regionOf Try.f45 1))
 (.ret))
theorem k45 : codeAt Try.prog 45 = some (K45, #[.tmp 4], 35) := by kernel_rfl
/-- pontoon/pontoonref07.sign -/
noncomputable def K46 : AC := .seq (.reg [⟨some 6, none, .assign (.const (.bool false))⟩])
 (.seq (.reg [⟨some 7, none, .move (.tmp 1)⟩,
  ⟨some 8, none, .move (.tmp 0)⟩,
  ⟨some 9, none, .call { callee := .builtin .len, args := #[.tmp 8], argTypes := #[22] }⟩,
  ⟨some 10, none, .binOp .lss 3 (.tmp 7) (.tmp 9) 3⟩,
  ⟨some 11, none, .move (.tmp 10)⟩,
  ⟨some 12, some (11, true), .move (.tmp 0)⟩,
  ⟨some 13, some (11, true), .move (.tmp 1)⟩,
  ⟨some 14, some (11, true), .indexAddr 22 (.tmp 12) (.tmp 13)⟩,
  ⟨some 15, some (11, true), .fieldAddr 40 (.tmp 14) 0⟩,
  ⟨some 16, some (11, true), .load 3 (.tmp 15)⟩,
  ⟨some 17, some (11, true), .binOp .eql 3 (.tmp 16) (.const (.int .i64 5)) 3⟩,
  ⟨some 18, none, .pick (.tmp 11) (.tmp 17) (.const (.bool false))⟩,
  ⟨some 19, none, .move (.tmp 18)⟩,
  ⟨some 20, some (19, true), .move (.tmp 0)⟩,
  ⟨some 21, some (19, true), .move (.tmp 1)⟩,
  ⟨some 22, some (19, true), .indexAddr 22 (.tmp 20) (.tmp 21)⟩,
  ⟨some 23, some (19, true), .fieldAddr 40 (.tmp 22) 1⟩,
  ⟨some 24, some (19, true), .load 9 (.tmp 23)⟩,
  ⟨some 25, some (19, true), .move (.tmp 2)⟩,
  ⟨some 26, some (19, true), .binOp .eql 9 (.tmp 24) (.tmp 25) 9⟩,
  ⟨some 27, none, .pick (.tmp 19) (.tmp 26) (.const (.bool false))⟩,
  ⟨some 6, none, .assign (.tmp 27)⟩])
 (.ret))
theorem k46 : codeAt Try.prog 46 = some (K46, #[.tmp 6], 28) := by kernel_rfl
/-- pontoon/class.words -/
noncomputable def L47_0 : AC := .seq (.reg [⟨some 12, none, .binOp .lss 3 (.tmp 11) (.tmp 10) 3⟩])
 (.seq (.cond (.tmp 12) (.skip) (.exit 0))
 (.seq (.block 1 (.seq (.reg [⟨some 13, none, .move (.tmp 11)⟩,
  ⟨some 14, none, .indexAddr 22 (.tmp 9) (.tmp 11)⟩,
  ⟨some 15, none, .load 40 (.tmp 14)⟩,
  ⟨some 5, none, .alloc 40⟩,
  ⟨some 4, none, .assign (.tmp 13)⟩,
  ⟨none, none, .store 40 (.tmp 5) (.tmp 15)⟩])
 (.seq (.reg [⟨some 16, none, .fieldAddr 40 (.tmp 5) 0⟩,
  ⟨some 17, none, .load 3 (.tmp 16)⟩,
  ⟨some 18, none, .binOp .eql 3 (.tmp 17) (.const (.int .i64 1)) 3⟩])
 (.cond (.tmp 18) (.reg [⟨some 19, none, .move (.tmp 3)⟩,
  ⟨some 20, none, .move (.tmp 4)⟩,
  ⟨some 21, none, .fieldAddr 40 (.tmp 5) 1⟩,
  ⟨some 22, none, .load 9 (.tmp 21)⟩,
  ⟨some 23, none, .indexAddr 26 (.tmp 19) (.tmp 20)⟩,
  ⟨none, none, .store 9 (.tmp 23) (.tmp 22)⟩]) (.skip)))))
 (.reg [⟨some 24, none, .binOp .add 3 (.tmp 11) (.const (.int .i64 1)) 3⟩,
  ⟨some 11, none, .move (.tmp 24)⟩])))
noncomputable def K47 : AC := .seq (.reg [⟨some 2, none, .assign (.const (.slice none 0 0))⟩])
 (.seq (.reg [⟨some 6, none, .move (.tmp 0)⟩,
  ⟨some 7, none, .call { callee := .builtin .len, args := #[.tmp 6], argTypes := #[22] }⟩,
  ⟨some 8, none, .makeSlice 26 (.tmp 7) (.tmp 7)⟩,
  ⟨some 3, none, .assign (.tmp 8)⟩])
 (.seq (.seq (.reg [⟨some 9, none, .move (.tmp 0)⟩,
  ⟨some 10, none, .call { callee := .builtin .len, args := #[.tmp 9], argTypes := #[22] }⟩,
  ⟨some 11, none, .move (.const (.int .i64 0))⟩])
 (.block 0 (.loop L47_0)))
 (.seq (.reg [⟨some 25, none, .move (.tmp 3)⟩,
  ⟨some 2, none, .assign (.tmp 25)⟩])
 (.ret))))
theorem k47 : codeAt Try.prog 47 = some (K47, #[.tmp 2], 26) := by kernel_rfl
/-- pontoon/class.query -/
noncomputable def K48 : AC := .seq (.reg [⟨some 2, none, .assign (.const (.int .i64 0))⟩])
 (.seq (.block 0 (.seq (.reg [⟨some 4, none, .move (.tmp 0)⟩,
  ⟨some 5, none, .call { callee := .value (.func 71), args := #[.tmp 4], argTypes := #[22] }⟩,
  ⟨some 3, none, .assign (.tmp 5)⟩])
 (.cond (.tmp 3) (.seq (.reg [⟨some 2, none, .assign (.const (.int .i64 2))⟩])
 (.ret)) (.seq (.reg [⟨some 7, none, .move (.tmp 0)⟩,
  ⟨some 8, none, .call { callee := .value (.func 72), args := #[.tmp 7], argTypes := #[22] }⟩,
  ⟨some 9, none, .move (.tmp 8)⟩,
  ⟨some 10, some (9, false), .move (.tmp 0)⟩,
  ⟨some 11, some (9, false), .call { callee := .value (.func 73), args := #[.tmp 10, .func 74], argTypes := #[22, 38] }⟩,
  ⟨some 12, none, .pick (.tmp 9) (.const (.bool true)) (.tmp 11)⟩,
  ⟨some 6, none, .assign (.tmp 12)⟩])
 (.cond (.tmp 6) (.seq (.reg [⟨some 2, none, .assign (.const (.int .i64 7))⟩])
 (.ret)) (.skip))))))
 (.seq (.reg [⟨some 2, none, .assign (.const (.int .i64 1))⟩])
 (.ret)))
theorem k48 : codeAt Try.prog 48 = some (K48, #[.tmp 2], 13) := by kernel_rfl
/-- pontoon/class.in -/
noncomputable def L49_0 : AC := .seq (.reg [⟨some 10, none, .binOp .lss 3 (.tmp 9) (.tmp 8) 3⟩])
 (.seq (.cond (.tmp 10) (.skip) (.exit 0))
 (.seq (.block 1 (.seq (.reg [⟨some 11, none, .indexAddr 26 (.tmp 7) (.tmp 9)⟩,
  ⟨some 12, none, .load 9 (.tmp 11)⟩,
  ⟨some 6, none, .assign (.tmp 12)⟩])
 (.seq (.reg [⟨some 13, none, .move (.tmp 6)⟩,
  ⟨some 14, none, .move (.tmp 0)⟩,
  ⟨some 15, none, .binOp .eql 9 (.tmp 13) (.tmp 14) 9⟩])
 (.cond (.tmp 15) (.seq (.reg [⟨some 4, none, .assign (.const (.bool true))⟩])
 (.ret)) (.skip)))))
 (.reg [⟨some 16, none, .binOp .add 3 (.tmp 9) (.const (.int .i64 1)) 3⟩,
  ⟨some 9, none, .move (.tmp 16)⟩])))
noncomputable def K49 : AC := .seq (.reg [⟨some 4, none, .assign (.const (.bool false))⟩])
 (.seq (.seq (.reg [⟨some 7, none, .move (.tmp 1)⟩,
  ⟨some 8, none, .call { callee := .builtin .len, args := #[.tmp 7], argTypes := #[26] }⟩,
  ⟨some 9, none, .move (.const (.int .i64 0))⟩])
 (.block 0 (.loop L49_0)))
 (.seq (.reg [⟨some 4, none, .assign (.const (.bool false))⟩])
 (.ret)))
theorem k49 : codeAt Try.prog 49 = some (K49, #[.tmp 4], 17) := by kernel_rfl
/-- pontoon/class.firsts -/
noncomputable def L50_0 : AC := .seq (.reg [⟨some 11, none, .binOp .lss 3 (.tmp 10) (.tmp 9) 3⟩])
 (.seq (.cond (.tmp 11) (.skip) (.exit 0))
 (.seq (.block 1 (.seq (.reg [⟨some 12, none, .indexAddr 26 (.tmp 8) (.tmp 10)⟩,
  ⟨some 13, none, .load 9 (.tmp 12)⟩,
  ⟨some 3, none, .assign (.tmp 13)⟩])
 (.reg [⟨some 14, none, .move (.tmp 1)⟩,
  ⟨some 15, none, .move (.tmp 3)⟩,
  ⟨none, none, .mapUpdate 43 (.tmp 14) (.tmp 15) (.const (.int .i64 2))⟩])))
 (.reg [⟨some 16, none, .binOp .add 3 (.tmp 10) (.const (.int .i64 1)) 3⟩,
  ⟨some 10, none, .move (.tmp 16)⟩])))
noncomputable def L50_1 : AC := .seq (.reg [⟨some 20, none, .binOp .lss 3 (.tmp 19) (.tmp 18) 3⟩])
 (.seq (.cond (.tmp 20) (.skip) (.exit 2))
 (.seq (.block 3 (.seq (.reg [⟨some 21, none, .indexAddr 26 (.tmp 17) (.tmp 19)⟩,
  ⟨some 22, none, .load 9 (.tmp 21)⟩,
  ⟨some 5, none, .assign (.tmp 22)⟩])
 (.reg [⟨some 23, none, .move (.tmp 1)⟩,
  ⟨some 24, none, .move (.tmp 5)⟩,
  ⟨none, none, .mapUpdate 43 (.tmp 23) (.tmp 24) (.const (.int .i64 6))⟩])))
 (.reg [⟨some 25, none, .binOp .add 3 (.tmp 19) (.const (.int .i64 1)) 3⟩,
  ⟨some 19, none, .move (.tmp 25)⟩])))
noncomputable def K50 : AC := .seq (.reg [⟨some 0, none, .assign (.const (.map none))⟩])
 (.seq (.reg [⟨some 6, none, .makeMap 43 none⟩,
  ⟨none, none, .insert 43 (.tmp 6) (.const (.string ⟨⟨[98, 101, 103, 105, 110]⟩⟩)) (.const (.int .i64 3))⟩,
  ⟨none, none, .insert 43 (.tmp 6) (.const (.string ⟨⟨[99, 111, 109, 109, 105, 116]⟩⟩)) (.const (.int .i64 4))⟩,
  ⟨none, none, .insert 43 (.tmp 6) (.const (.string ⟨⟨[101, 110, 100]⟩⟩)) (.const (.int .i64 4))⟩,
  ⟨some 7, none, .move (.tmp 6)⟩,
  ⟨some 1, none, .assign (.tmp 7)⟩])
 (.seq (.seq (.reg [⟨some 8, none, .buildSlice 26 5 #[(0, .const (.string ⟨⟨[105, 110, 115, 101, 114, 116]⟩⟩)), (1, .const (.string ⟨⟨[117, 112, 100, 97, 116, 101]⟩⟩)), (2, .const (.string ⟨⟨[100, 101, 108, 101, 116, 101]⟩⟩)), (3, .const (.string ⟨⟨[116, 114, 117, 110, 99, 97, 116, 101]⟩⟩)), (4, .const (.string ⟨⟨[109, 101, 114, 103, 101]⟩⟩))]⟩,
  ⟨some 9, none, .call { callee := .builtin .len, args := #[.tmp 8], argTypes := #[26] }⟩,
  ⟨some 10, none, .move (.const (.int .i64 0))⟩])
 (.block 0 (.loop L50_0)))
 (.seq (.seq (.reg [⟨some 17, none, .buildSlice 26 9 #[(0, .const (.string ⟨⟨[115, 101, 116]⟩⟩)), (1, .const (.string ⟨⟨[114, 101, 115, 101, 116]⟩⟩)), (2, .const (.string ⟨⟨[100, 105, 115, 99, 97, 114, 100]⟩⟩)), (3, .const (.string ⟨⟨[108, 105, 115, 116, 101, 110]⟩⟩)), (4, .const (.string ⟨⟨[117, 110, 108, 105, 115, 116, 101, 110]⟩⟩)), (5, .const (.string ⟨⟨[112, 114, 101, 112, 97, 114, 101]⟩⟩)), (6, .const (.string ⟨⟨[100, 101, 97, 108, 108, 111, 99, 97, 116, 101]⟩⟩)), (7, .const (.string ⟨⟨[100, 101, 99, 108, 97, 114, 101]⟩⟩)), (8, .const (.string ⟨⟨[108, 111, 97, 100]⟩⟩))]⟩,
  ⟨some 18, none, .call { callee := .builtin .len, args := #[.tmp 17], argTypes := #[26] }⟩,
  ⟨some 19, none, .move (.const (.int .i64 0))⟩])
 (.block 2 (.loop L50_1)))
 (.seq (.reg [⟨some 26, none, .move (.tmp 1)⟩,
  ⟨some 0, none, .assign (.tmp 26)⟩])
 (.ret)))))
theorem k50 : codeAt Try.prog 50 = some (K50, #[.tmp 0], 27) := by kernel_rfl
/-- pontoon/norm.number -/
noncomputable def L51_0 : AC := .seq (.reg [⟨some 14, none, .next (.tmp 13) true⟩,
  ⟨some 15, none, .extract (.tmp 14) 0⟩])
 (.seq (.cond (.tmp 15) (.skip) (.exit 0))
 (.block 1 (.seq (.reg [⟨some 16, none, .extract (.tmp 14) 2⟩,
  ⟨some 6, none, .assign (.tmp 16)⟩])
 (.seq (.reg [⟨some 17, none, .move (.tmp 6)⟩,
  ⟨some 18, none, .binOp .eql 21 (.tmp 17) (.const (.int .i32 46)) 21⟩])
 (.cond (.tmp 18) (.reg [⟨some 19, none, .move (.tmp 4)⟩,
  ⟨some 20, none, .binOp .add 3 (.tmp 19) (.const (.int .i64 1)) 3⟩,
  ⟨some 4, none, .assign (.tmp 20)⟩]) (.skip))))))
noncomputable def K51 : AC := .seq (.reg [⟨some 1, none, .box 9 (.tmp 0)⟩,
  ⟨some 2, none, .assign (.const (.string ⟨⟨[]⟩⟩))⟩])
 (.seq (.reg [⟨some 3, none, .assign (.func 75)⟩])
 (.seq (.reg [⟨some 8, none, .move (.tmp 3)⟩,
  ⟨some 9, none, .makeFunc (.func 76) #[] #[.tmp 1]⟩,
  ⟨some 10, none, .makeFunc (.func 77) #[] #[.tmp 1]⟩,
  ⟨some 11, none, .call { callee := .value (.tmp 8), args := #[.tmp 9, .tmp 10], argTypes := #[24, 1] }⟩])
 (.seq (.reg [⟨some 4, none, .assign (.const (.int .i64 0))⟩])
 (.seq (.seq (.reg [⟨some 12, none, .load 9 (.tmp 1)⟩,
  ⟨some 13, none, .range 9 (.tmp 12)⟩])
 (.block 0 (.loop L51_0)))
 (.seq (.seq (.reg [⟨some 21, none, .move (.tmp 4)⟩,
  ⟨some 22, none, .binOp .neq 3 (.tmp 21) (.const (.int .i64 1)) 3⟩])
 (.cond (.tmp 22) (.seq (.reg [⟨some 23, none, .load 9 (.tmp 1)⟩,
  ⟨some 2, none, .assign (.tmp 23)⟩])
 (.ret)) (.skip)))
 (.seq (.reg [⟨some 24, none, .makeFunc (.func 78) #[] #[.tmp 1]⟩,
  ⟨some 7, none, .assign (.tmp 24)⟩])
 (.seq (.reg [⟨some 25, none, .move (.tmp 3)⟩,
  ⟨some 26, none, .makeFunc (.func 79) #[] #[.tmp 1]⟩,
  ⟨some 27, none, .move (.tmp 7)⟩,
  ⟨some 28, none, .call { callee := .value (.tmp 25), args := #[.tmp 26, .tmp 27], argTypes := #[24, 1] }⟩])
 (.seq (.seq (.reg [⟨some 29, none, .load 9 (.tmp 1)⟩,
  ⟨some 30, none, .load 9 (.tmp 1)⟩,
  ⟨some 31, none, .call { callee := .builtin .len, args := #[.tmp 30], argTypes := #[9] }⟩,
  ⟨some 32, none, .binOp .sub 3 (.tmp 31) (.const (.int .i64 1)) 3⟩,
  ⟨some 33, none, .index 9 (.tmp 29) (.tmp 32)⟩,
  ⟨some 34, none, .binOp .eql 5 (.tmp 33) (.const (.int .u8 46)) 5⟩])
 (.cond (.tmp 34) (.reg [⟨some 35, none, .move (.tmp 7)⟩,
  ⟨some 36, none, .call { callee := .value (.tmp 35), args := #[], argTypes := #[] }⟩]) (.skip)))
 (.seq (.reg [⟨some 37, none, .load 9 (.tmp 1)⟩,
  ⟨some 2, none, .assign (.tmp 37)⟩])
 (.ret))))))))))
theorem k51 : codeAt Try.prog 51 = some (K51, #[.tmp 2], 38) := by kernel_rfl
/-- pontoon/lexer.Show -/
noncomputable def L52_0 : AC := .seq (.reg [⟨some 9, none, .binOp .lss 3 (.tmp 8) (.tmp 7) 3⟩])
 (.seq (.cond (.tmp 9) (.skip) (.exit 0))
 (.seq (.block 1 (.seq (.reg [⟨some 10, none, .move (.tmp 8)⟩,
  ⟨some 11, none, .indexAddr 22 (.tmp 6) (.tmp 8)⟩,
  ⟨some 12, none, .load 40 (.tmp 11)⟩,
  ⟨some 5, none, .alloc 40⟩,
  ⟨some 4, none, .assign (.tmp 10)⟩,
  ⟨none, none, .store 40 (.tmp 5) (.tmp 12)⟩])
 (.seq (.seq (.reg [⟨some 13, none, .move (.tmp 4)⟩,
  ⟨some 14, none, .binOp .gtr 3 (.tmp 13) (.const (.int .i64 0)) 3⟩])
 (.cond (.tmp 14) (.reg [⟨some 15, none, .move (.tmp 3)⟩,
  ⟨some 16, none, .binOp .add 9 (.tmp 15) (.const (.string ⟨⟨[32]⟩⟩)) 9⟩,
  ⟨some 3, none, .assign (.tmp 16)⟩]) (.skip)))
 (.seq (.reg [⟨some 17, none, .fieldAddr 40 (.tmp 5) 0⟩,
  ⟨some 18, none, .load 3 (.tmp 17)⟩])
 (.block 2 (.seq (.reg [⟨some 24, none, .binOp .eql 3 (.tmp 18) (.const (.int .i64 2)) 3⟩,
  ⟨some 23, none, .assign (.tmp 24)⟩])
 (.cond (.tmp 23) (.reg [⟨some 25, none, .move (.tmp 3)⟩,
  ⟨some 26, none, .fieldAddr 40 (.tmp 5) 1⟩,
  ⟨some 27, none, .load 9 (.tmp 26)⟩,
  ⟨some 28, none, .call { callee := .value (.func 80), args := #[.tmp 27, .const (.int .u8 34)], argTypes := #[9, 5] }⟩,
  ⟨some 29, none, .binOp .add 9 (.tmp 25) (.tmp 28) 9⟩,
  ⟨some 3, none, .assign (.tmp 29)⟩]) (.seq (.reg [⟨some 31, none, .binOp .eql 3 (.tmp 18) (.const (.int .i64 3)) 3⟩,
  ⟨some 30, none, .assign (.tmp 31)⟩])
 (.cond (.tmp 30) (.reg [⟨some 32, none, .move (.tmp 3)⟩,
  ⟨some 33, none, .fieldAddr 40 (.tmp 5) 1⟩,
  ⟨some 34, none, .load 9 (.tmp 33)⟩,
  ⟨some 35, none, .call { callee := .value (.func 80), args := #[.tmp 34, .const (.int .u8 39)], argTypes := #[9, 5] }⟩,
  ⟨some 36, none, .binOp .add 9 (.tmp 32) (.tmp 35) 9⟩,
  ⟨some 3, none, .assign (.tmp 36)⟩]) (.reg [⟨some 19, none, .move (.tmp 3)⟩,
  ⟨some 20, none, .fieldAddr 40 (.tmp 5) 1⟩,
  ⟨some 21, none, .load 9 (.tmp 20)⟩,
  ⟨some 22, none, .binOp .add 9 (.tmp 19) (.tmp 21) 9⟩,
  ⟨some 3, none, .assign (.tmp 22)⟩]))))))))))
 (.reg [⟨some 37, none, .binOp .add 3 (.tmp 8) (.const (.int .i64 1)) 3⟩,
  ⟨some 8, none, .move (.tmp 37)⟩])))
noncomputable def K52 : AC := .seq (.reg [⟨some 2, none, .assign (.const (.string ⟨⟨[]⟩⟩))⟩])
 (.seq (.reg [⟨some 3, none, .assign (.const (.string ⟨⟨[]⟩⟩))⟩])
 (.seq (.seq (.reg [⟨some 6, none, .move (.tmp 0)⟩,
  ⟨some 7, none, .call { callee := .builtin .len, args := #[.tmp 6], argTypes := #[22] }⟩,
  ⟨some 8, none, .move (.const (.int .i64 0))⟩])
 (.block 0 (.loop L52_0)))
 (.seq (.reg [⟨some 38, none, .move (.tmp 3)⟩,
  ⟨some 2, none, .assign (.tmp 38)⟩])
 (.ret))))
theorem k52 : codeAt Try.prog 52 = some (K52, #[.tmp 2], 39) := by kernel_rfl
/-- pontoon/pontoonref06.word -/
noncomputable def K53 : AC := .seq (.reg [⟨some 4, none, .assign (.const (.string ⟨⟨[]⟩⟩))⟩])
 (.seq (.seq (.reg [⟨some 5, none, .move (.tmp 1)⟩,
  ⟨some 6, none, .binOp .lss 3 (.tmp 5) (.const (.int .i64 0)) 3⟩,
  ⟨some 7, none, .move (.tmp 6)⟩,
  ⟨some 8, some (7, false), .move (.tmp 1)⟩,
  ⟨some 9, some (7, false), .move (.tmp 0)⟩,
  ⟨some 10, some (7, false), .call { callee := .builtin .len, args := #[.tmp 9], argTypes := #[22] }⟩,
  ⟨some 11, some (7, false), .binOp .geq 3 (.tmp 8) (.tmp 10) 3⟩,
  ⟨some 12, none, .pick (.tmp 7) (.const (.bool true)) (.tmp 11)⟩,
  ⟨some 13, none, .move (.tmp 12)⟩,
  ⟨some 14, some (13, false), .move (.tmp 0)⟩,
  ⟨some 15, some (13, false), .move (.tmp 1)⟩,
  ⟨some 16, some (13, false), .indexAddr 22 (.tmp 14) (.tmp 15)⟩,
  ⟨some 17, some (13, false), .fieldAddr 40 (.tmp 16) 0⟩,
  ⟨some 18, some (13, false), .load 3 (.tmp 17)⟩,
  ⟨some 19, some (13, false), .binOp .neq 3 (.tmp 18) (.const (.int .i64 1)) 3⟩,
  ⟨some 20, none, .pick (.tmp 13) (.const (.bool true)) (.tmp 19)⟩])
 (.cond (.tmp 20) (.seq (.reg [⟨some 4, none, .assign (.const (.string ⟨⟨[]⟩⟩))⟩])
 (.ret)) (.skip)))
 (.seq (.reg [⟨some 21, none, .move (.tmp 0)⟩,
  ⟨some 22, none, .move (.tmp 1)⟩,
  ⟨some 23, none, .indexAddr 22 (.tmp 21) (.tmp 22)⟩,
  ⟨some 24, none, .fieldAddr 40 (.tmp 23) 1⟩,
  ⟨some 25, none, .load 9 (.tmp 24)⟩,
  ⟨some 4, none, .assign (.tmp 25)⟩])
 (.ret)))
theorem k53 : codeAt Try.prog 53 = some (K53, #[.tmp 4], 26) := by kernel_rfl
/-- pontoon/pontoonref06.writes -/
noncomputable def L54_0 : AC := .seq (.seq (.reg [⟨some 4, none, .move (.tmp 3)⟩,
  ⟨some 5, none, .move (.tmp 0)⟩,
  ⟨some 6, none, .call { callee := .builtin .len, args := #[.tmp 5], argTypes := #[22] }⟩,
  ⟨some 7, none, .binOp .lss 3 (.tmp 4) (.tmp 6) 3⟩])
 (.cond (.tmp 7) (.skip) (.exit 0)))
 (.seq (.block 1 (.seq (.reg [⟨some 10, none, .move (.tmp 0)⟩,
  ⟨some 11, none, .move (.tmp 3)⟩,
  ⟨some 12, none, .call { callee := .value (.func 53), args := #[.tmp 10, .tmp 11], argTypes := #[22, 3] }⟩,
  ⟨some 13, none, .binOp .eql 9 (.tmp 12) (.const (.string ⟨⟨[117, 112, 100, 97, 116, 101]⟩⟩)) 9⟩,
  ⟨some 14, none, .move (.tmp 13)⟩,
  ⟨some 15, some (14, true), .move (.tmp 0)⟩,
  ⟨some 16, some (14, true), .move (.tmp 3)⟩,
  ⟨some 17, some (14, true), .binOp .sub 3 (.tmp 16) (.const (.int .i64 1)) 3⟩,
  ⟨some 18, some (14, true), .call { callee := .value (.func 53), args := #[.tmp 15, .tmp 17], argTypes := #[22, 3] }⟩,
  ⟨some 19, some (14, true), .binOp .neq 9 (.tmp 18) (.const (.string ⟨⟨[102, 111, 114]⟩⟩)) 9⟩,
  ⟨some 20, none, .pick (.tmp 14) (.tmp 19) (.const (.bool false))⟩,
  ⟨some 21, none, .move (.tmp 20)⟩,
  ⟨some 22, some (21, false), .buildSlice 26 4 #[(0, .const (.string ⟨⟨[105, 110, 115, 101, 114, 116]⟩⟩)), (1, .const (.string ⟨⟨[100, 101, 108, 101, 116, 101]⟩⟩)), (2, .const (.string ⟨⟨[109, 101, 114, 103, 101]⟩⟩)), (3, .const (.string ⟨⟨[105, 110, 116, 111]⟩⟩))]⟩,
  ⟨some 23, some (21, false), .move (.tmp 0)⟩,
  ⟨some 24, some (21, false), .move (.tmp 3)⟩,
  ⟨some 25, some (21, false), .call { callee := .value (.func 53), args := #[.tmp 23, .tmp 24], argTypes := #[22, 3] }⟩,
  ⟨some 26, some (21, false), .call { callee := .value (.func 81), args := #[.tmp 22, .tmp 25], argTypes := #[26, 9] }⟩,
  ⟨some 27, none, .pick (.tmp 21) (.const (.bool true)) (.tmp 26)⟩])
 (.cond (.tmp 27) (.seq (.reg [⟨some 2, none, .assign (.const (.bool true))⟩])
 (.ret)) (.skip))))
 (.reg [⟨some 8, none, .move (.tmp 3)⟩,
  ⟨some 9, none, .binOp .add 3 (.tmp 8) (.const (.int .i64 1)) 3⟩,
  ⟨some 3, none, .assign (.tmp 9)⟩]))
noncomputable def K54 : AC := .seq (.reg [⟨some 2, none, .assign (.const (.bool false))⟩])
 (.seq (.seq (.reg [⟨some 3, none, .assign (.const (.int .i64 0))⟩])
 (.block 0 (.loop L54_0)))
 (.seq (.reg [⟨some 2, none, .assign (.const (.bool false))⟩])
 (.ret)))
theorem k54 : codeAt Try.prog 54 = some (K54, #[.tmp 2], 28) := by kernel_rfl
/-- pontoon/pontoonref06.Locks -/
noncomputable def L55_0 : AC := .seq (.seq (.reg [⟨some 4, none, .move (.tmp 3)⟩,
  ⟨some 5, none, .move (.tmp 0)⟩,
  ⟨some 6, none, .call { callee := .builtin .len, args := #[.tmp 5], argTypes := #[22] }⟩,
  ⟨some 7, none, .binOp .lss 3 (.tmp 4) (.tmp 6) 3⟩])
 (.cond (.tmp 7) (.skip) (.exit 0)))
 (.seq (.block 1 (.seq (.reg [⟨some 10, none, .move (.tmp 0)⟩,
  ⟨some 11, none, .move (.tmp 3)⟩,
  ⟨some 12, none, .call { callee := .value (.func 53), args := #[.tmp 10, .tmp 11], argTypes := #[22, 3] }⟩,
  ⟨some 13, none, .binOp .eql 9 (.tmp 12) (.const (.string ⟨⟨[102, 111, 114]⟩⟩)) 9⟩,
  ⟨some 14, none, .move (.tmp 13)⟩,
  ⟨some 15, some (14, true), .buildSlice 26 4 #[(0, .const (.string ⟨⟨[117, 112, 100, 97, 116, 101]⟩⟩)), (1, .const (.string ⟨⟨[115, 104, 97, 114, 101]⟩⟩)), (2, .const (.string ⟨⟨[110, 111]⟩⟩)), (3, .const (.string ⟨⟨[107, 101, 121]⟩⟩))]⟩,
  ⟨some 16, some (14, true), .move (.tmp 0)⟩,
  ⟨some 17, some (14, true), .move (.tmp 3)⟩,
  ⟨some 18, some (14, true), .binOp .add 3 (.tmp 17) (.const (.int .i64 1)) 3⟩,
  ⟨some 19, some (14, true), .call { callee := .value (.func 53), args := #[.tmp 16, .tmp 18], argTypes := #[22, 3] }⟩,
  ⟨some 20, some (14, true), .call { callee := .value (.func 81), args := #[.tmp 15, .tmp 19], argTypes := #[26, 9] }⟩,
  ⟨some 21, none, .pick (.tmp 14) (.tmp 20) (.const (.bool false))⟩])
 (.cond (.tmp 21) (.seq (.reg [⟨some 2, none, .assign (.const (.bool true))⟩])
 (.ret)) (.skip))))
 (.reg [⟨some 8, none, .move (.tmp 3)⟩,
  ⟨some 9, none, .binOp .add 3 (.tmp 8) (.const (.int .i64 1)) 3⟩,
  ⟨some 3, none, .assign (.tmp 9)⟩]))
noncomputable def K55 : AC := .seq (.reg [⟨some 2, none, .assign (.const (.bool false))⟩])
 (.seq (.seq (.reg [⟨some 3, none, .assign (.const (.int .i64 0))⟩])
 (.block 0 (.loop L55_0)))
 (.seq (.reg [⟨some 2, none, .assign (.const (.bool false))⟩])
 (.ret)))
theorem k55 : codeAt Try.prog 55 = some (K55, #[.tmp 2], 22) := by kernel_rfl
/-- pontoon/pontoonref06.system -/
noncomputable def L56_0 : AC := .seq (.seq (.reg [⟨some 4, none, .move (.tmp 3)⟩,
  ⟨some 5, none, .move (.tmp 0)⟩,
  ⟨some 6, none, .call { callee := .builtin .len, args := #[.tmp 5], argTypes := #[22] }⟩,
  ⟨some 7, none, .binOp .lss 3 (.tmp 4) (.tmp 6) 3⟩])
 (.cond (.tmp 7) (.skip) (.exit 0)))
 (.seq (.block 1 (.seq (.reg [⟨some 10, none, .move (.tmp 0)⟩,
  ⟨some 11, none, .move (.tmp 3)⟩,
  ⟨some 12, none, .call { callee := .value (.func 82), args := #[.tmp 10, .tmp 11], argTypes := #[22, 3] }⟩,
  ⟨some 13, none, .move (.tmp 12)⟩,
  ⟨some 14, some (13, true), .move (.tmp 0)⟩,
  ⟨some 15, some (13, true), .move (.tmp 3)⟩,
  ⟨some 16, some (13, true), .indexAddr 22 (.tmp 14) (.tmp 15)⟩,
  ⟨some 17, some (13, true), .fieldAddr 40 (.tmp 16) 1⟩,
  ⟨some 18, some (13, true), .load 9 (.tmp 17)⟩,
  ⟨some 19, some (13, true), .call { callee := .builtin .len, args := #[.tmp 18], argTypes := #[9] }⟩,
  ⟨some 20, some (13, true), .binOp .geq 3 (.tmp 19) (.const (.int .i64 3)) 3⟩,
  ⟨some 21, none, .pick (.tmp 13) (.tmp 20) (.const (.bool false))⟩,
  ⟨some 22, none, .move (.tmp 21)⟩,
  ⟨some 23, some (22, true), .move (.tmp 0)⟩,
  ⟨some 24, some (22, true), .move (.tmp 3)⟩,
  ⟨some 25, some (22, true), .indexAddr 22 (.tmp 23) (.tmp 24)⟩,
  ⟨some 26, some (22, true), .fieldAddr 40 (.tmp 25) 1⟩,
  ⟨some 27, some (22, true), .load 9 (.tmp 26)⟩,
  ⟨some 28, some (22, true), .slice 9 (.tmp 27) none (some (.const (.int .i64 3))) none⟩,
  ⟨some 29, some (22, true), .binOp .eql 9 (.tmp 28) (.const (.string ⟨⟨[112, 103, 95]⟩⟩)) 9⟩,
  ⟨some 30, none, .pick (.tmp 22) (.tmp 29) (.const (.bool false))⟩])
 (.cond (.tmp 30) (.seq (.reg [⟨some 2, none, .assign (.const (.bool true))⟩])
 (.ret)) (.skip))))
 (.reg [⟨some 8, none, .move (.tmp 3)⟩,
  ⟨some 9, none, .binOp .add 3 (.tmp 8) (.const (.int .i64 1)) 3⟩,
  ⟨some 3, none, .assign (.tmp 9)⟩]))
noncomputable def K56 : AC := .seq (.reg [⟨some 2, none, .assign (.const (.bool false))⟩])
 (.seq (.seq (.reg [⟨some 3, none, .assign (.const (.int .i64 0))⟩])
 (.block 0 (.loop L56_0)))
 (.seq (.reg [⟨some 2, none, .assign (.const (.bool false))⟩])
 (.ret)))
theorem k56 : codeAt Try.prog 56 = some (K56, #[.tmp 2], 31) := by kernel_rfl
/-- pontoon/pontoonref06.Calls -/
noncomputable def L57_0 : AC := .seq (.seq (.reg [⟨some 6, none, .move (.tmp 5)⟩,
  ⟨some 7, none, .move (.tmp 0)⟩,
  ⟨some 8, none, .call { callee := .builtin .len, args := #[.tmp 7], argTypes := #[22] }⟩,
  ⟨some 9, none, .binOp .lss 3 (.tmp 6) (.tmp 8) 3⟩])
 (.cond (.tmp 9) (.skip) (.exit 0)))
 (.seq (.block 1 (.seq (.reg [⟨some 12, none, .move (.tmp 0)⟩,
  ⟨some 13, none, .move (.tmp 5)⟩,
  ⟨some 14, none, .call { callee := .value (.func 82), args := #[.tmp 12, .tmp 13], argTypes := #[22, 3] }⟩,
  ⟨some 15, none, .move (.tmp 14)⟩,
  ⟨some 16, some (15, true), .move (.tmp 1)⟩,
  ⟨some 17, some (15, true), .move (.tmp 0)⟩,
  ⟨some 18, some (15, true), .move (.tmp 5)⟩,
  ⟨some 19, some (15, true), .indexAddr 22 (.tmp 17) (.tmp 18)⟩,
  ⟨some 20, some (15, true), .fieldAddr 40 (.tmp 19) 1⟩,
  ⟨some 21, some (15, true), .load 9 (.tmp 20)⟩,
  ⟨some 22, some (15, true), .call { callee := .value (.func 81), args := #[.tmp 16, .tmp 21], argTypes := #[26, 9] }⟩,
  ⟨some 23, none, .pick (.tmp 15) (.tmp 22) (.const (.bool false))⟩])
 (.cond (.tmp 23) (.seq (.reg [⟨some 4, none, .assign (.const (.bool true))⟩])
 (.ret)) (.skip))))
 (.reg [⟨some 10, none, .move (.tmp 5)⟩,
  ⟨some 11, none, .binOp .add 3 (.tmp 10) (.const (.int .i64 1)) 3⟩,
  ⟨some 5, none, .assign (.tmp 11)⟩]))
noncomputable def K57 : AC := .seq (.reg [⟨some 4, none, .assign (.const (.bool false))⟩])
 (.seq (.seq (.reg [⟨some 5, none, .assign (.const (.int .i64 0))⟩])
 (.block 0 (.loop L57_0)))
 (.seq (.reg [⟨some 4, none, .assign (.const (.bool false))⟩])
 (.ret)))
theorem k57 : codeAt Try.prog 57 = some (K57, #[.tmp 4], 24) := by kernel_rfl
/-- pontoon/pontoonref06.Has -/
noncomputable def L58_0 : AC := .seq (.seq (.reg [⟨some 6, none, .move (.tmp 5)⟩,
  ⟨some 7, none, .move (.tmp 0)⟩,
  ⟨some 8, none, .call { callee := .builtin .len, args := #[.tmp 7], argTypes := #[22] }⟩,
  ⟨some 9, none, .binOp .lss 3 (.tmp 6) (.tmp 8) 3⟩])
 (.cond (.tmp 9) (.skip) (.exit 0)))
 (.seq (.block 1 (.seq (.reg [⟨some 12, none, .move (.tmp 0)⟩,
  ⟨some 13, none, .move (.tmp 5)⟩,
  ⟨some 14, none, .indexAddr 22 (.tmp 12) (.tmp 13)⟩,
  ⟨some 15, none, .fieldAddr 40 (.tmp 14) 0⟩,
  ⟨some 16, none, .load 3 (.tmp 15)⟩,
  ⟨some 17, none, .binOp .eql 3 (.tmp 16) (.const (.int .i64 1)) 3⟩,
  ⟨some 18, none, .move (.tmp 17)⟩,
  ⟨some 19, some (18, true), .move (.tmp 1)⟩,
  ⟨some 20, some (18, true), .move (.tmp 0)⟩,
  ⟨some 21, some (18, true), .move (.tmp 5)⟩,
  ⟨some 22, some (18, true), .indexAddr 22 (.tmp 20) (.tmp 21)⟩,
  ⟨some 23, some (18, true), .fieldAddr 40 (.tmp 22) 1⟩,
  ⟨some 24, some (18, true), .load 9 (.tmp 23)⟩,
  ⟨some 25, some (18, true), .call { callee := .value (.func 81), args := #[.tmp 19, .tmp 24], argTypes := #[26, 9] }⟩,
  ⟨some 26, none, .pick (.tmp 18) (.tmp 25) (.const (.bool false))⟩])
 (.cond (.tmp 26) (.seq (.reg [⟨some 4, none, .assign (.const (.bool true))⟩])
 (.ret)) (.skip))))
 (.reg [⟨some 10, none, .move (.tmp 5)⟩,
  ⟨some 11, none, .binOp .add 3 (.tmp 10) (.const (.int .i64 1)) 3⟩,
  ⟨some 5, none, .assign (.tmp 11)⟩]))
noncomputable def K58 : AC := .seq (.reg [⟨some 4, none, .assign (.const (.bool false))⟩])
 (.seq (.seq (.reg [⟨some 5, none, .assign (.const (.int .i64 0))⟩])
 (.block 0 (.loop L58_0)))
 (.seq (.reg [⟨some 4, none, .assign (.const (.bool false))⟩])
 (.ret)))
theorem k58 : codeAt Try.prog 58 = some (K58, #[.tmp 4], 27) := by kernel_rfl
/-- pontoon/pontoonref05.Number -/
noncomputable def L59_0 : AC := .seq (.seq (.reg [⟨some 3, none, .move (.tmp 0)⟩,
  ⟨some 4, none, .call { callee := .builtin .len, args := #[.tmp 3], argTypes := #[9] }⟩,
  ⟨some 5, none, .binOp .gtr 3 (.tmp 4) (.const (.int .i64 1)) 3⟩,
  ⟨some 6, none, .move (.tmp 5)⟩,
  ⟨some 7, some (6, true), .move (.tmp 0)⟩,
  ⟨some 8, some (6, true), .index 9 (.tmp 7) (.const (.int .i64 0))⟩,
  ⟨some 9, some (6, true), .binOp .eql 5 (.tmp 8) (.const (.int .u8 48)) 5⟩,
  ⟨some 10, none, .pick (.tmp 6) (.tmp 9) (.const (.bool false))⟩,
  ⟨some 11, none, .move (.tmp 10)⟩,
  ⟨some 12, some (11, true), .move (.tmp 0)⟩,
  ⟨some 13, some (11, true), .index 9 (.tmp 12) (.const (.int .i64 1))⟩,
  ⟨some 14, some (11, true), .binOp .neq 5 (.tmp 13) (.const (.int .u8 46)) 5⟩,
  ⟨some 15, none, .pick (.tmp 11) (.tmp 14) (.const (.bool false))⟩])
 (.cond (.tmp 15) (.skip) (.exit 0)))
 (.block 1 (.reg [⟨some 16, none, .move (.tmp 0)⟩,
  ⟨some 17, none, .slice 9 (.tmp 16) (some (.const (.int .i64 1))) none none⟩,
  ⟨some 0, none, .assign (.tmp 17)⟩]))
noncomputable def L59_1 : AC := .seq (.seq (.reg [⟨some 22, none, .move (.tmp 0)⟩,
  ⟨some 23, none, .move (.tmp 0)⟩,
  ⟨some 24, none, .call { callee := .builtin .len, args := #[.tmp 23], argTypes := #[9] }⟩,
  ⟨some 25, none, .binOp .sub 3 (.tmp 24) (.const (.int .i64 1)) 3⟩,
  ⟨some 26, none, .index 9 (.tmp 22) (.tmp 25)⟩,
  ⟨some 27, none, .binOp .eql 5 (.tmp 26) (.const (.int .u8 48)) 5⟩])
 (.cond (.tmp 27) (.skip) (.exit 2)))
 (.block 3 (.reg [⟨some 28, none, .move (.tmp 0)⟩,
  ⟨some 29, none, .move (.tmp 0)⟩,
  ⟨some 30, none, .call { callee := .builtin .len, args := #[.tmp 29], argTypes := #[9] }⟩,
  ⟨some 31, none, .binOp .sub 3 (.tmp 30) (.const (.int .i64 1)) 3⟩,
  ⟨some 32, none, .slice 9 (.tmp 28) none (some (.tmp 31)) none⟩,
  ⟨some 0, none, .assign (.tmp 32)⟩]))
noncomputable def K59 : AC := .seq (.reg [⟨some 2, none, .assign (.const (.string ⟨⟨[]⟩⟩))⟩])
 (.seq (.block 0 (.loop L59_0))
 (.seq (.seq (.reg [⟨some 18, none, .move (.tmp 0)⟩,
  ⟨some 19, none, .call { callee := .value (.func 83), args := #[.tmp 18], argTypes := #[9] }⟩,
  ⟨some 20, none, .binOp .neq 3 (.tmp 19) (.const (.int .i64 1)) 3⟩])
 (.cond (.tmp 20) (.seq (.reg [⟨some 21, none, .move (.tmp 0)⟩,
  ⟨some 2, none, .assign (.tmp 21)⟩])
 (.ret)) (.skip)))
 (.seq (.block 2 (.loop L59_1))
 (.seq (.seq (.reg [⟨some 33, none, .move (.tmp 0)⟩,
  ⟨some 34, none, .move (.tmp 0)⟩,
  ⟨some 35, none, .call { callee := .builtin .len, args := #[.tmp 34], argTypes := #[9] }⟩,
  ⟨some 36, none, .binOp .sub 3 (.tmp 35) (.const (.int .i64 1)) 3⟩,
  ⟨some 37, none, .index 9 (.tmp 33) (.tmp 36)⟩,
  ⟨some 38, none, .binOp .eql 5 (.tmp 37) (.const (.int .u8 46)) 5⟩])
 (.cond (.tmp 38) (.reg [⟨some 39, none, .move (.tmp 0)⟩,
  ⟨some 40, none, .move (.tmp 0)⟩,
  ⟨some 41, none, .call { callee := .builtin .len, args := #[.tmp 40], argTypes := #[9] }⟩,
  ⟨some 42, none, .binOp .sub 3 (.tmp 41) (.const (.int .i64 1)) 3⟩,
  ⟨some 43, none, .slice 9 (.tmp 39) none (some (.tmp 42)) none⟩,
  ⟨some 0, none, .assign (.tmp 43)⟩]) (.skip)))
 (.seq (.reg [⟨some 44, none, .move (.tmp 0)⟩,
  ⟨some 2, none, .assign (.tmp 44)⟩])
 (.ret))))))
theorem k59 : codeAt Try.prog 59 = some (K59, #[.tmp 2], 45) := by kernel_rfl
/-- pontoon/pontoonref04.Show -/
noncomputable def L60_0 : AC := .seq (.seq (.reg [⟨some 5, none, .move (.tmp 4)⟩,
  ⟨some 6, none, .move (.tmp 0)⟩,
  ⟨some 7, none, .call { callee := .builtin .len, args := #[.tmp 6], argTypes := #[22] }⟩,
  ⟨some 8, none, .binOp .lss 3 (.tmp 5) (.tmp 7) 3⟩])
 (.cond (.tmp 8) (.skip) (.exit 0)))
 (.seq (.block 1 (.seq (.seq (.reg [⟨some 11, none, .move (.tmp 4)⟩,
  ⟨some 12, none, .binOp .gtr 3 (.tmp 11) (.const (.int .i64 0)) 3⟩])
 (.cond (.tmp 12) (.reg [⟨some 13, none, .move (.tmp 3)⟩,
  ⟨some 14, none, .binOp .add 9 (.tmp 13) (.const (.string ⟨⟨[32]⟩⟩)) 9⟩,
  ⟨some 3, none, .assign (.tmp 14)⟩]) (.skip)))
 (.seq (.reg [⟨some 15, none, .move (.tmp 0)⟩,
  ⟨some 16, none, .move (.tmp 4)⟩,
  ⟨some 17, none, .indexAddr 22 (.tmp 15) (.tmp 16)⟩,
  ⟨some 18, none, .fieldAddr 40 (.tmp 17) 0⟩,
  ⟨some 19, none, .load 3 (.tmp 18)⟩])
 (.block 2 (.seq (.reg [⟨some 28, none, .binOp .eql 3 (.tmp 19) (.const (.int .i64 2)) 3⟩,
  ⟨some 27, none, .assign (.tmp 28)⟩])
 (.cond (.tmp 27) (.reg [⟨some 29, none, .move (.tmp 3)⟩,
  ⟨some 30, none, .move (.tmp 0)⟩,
  ⟨some 31, none, .move (.tmp 4)⟩,
  ⟨some 32, none, .indexAddr 22 (.tmp 30) (.tmp 31)⟩,
  ⟨some 33, none, .fieldAddr 40 (.tmp 32) 1⟩,
  ⟨some 34, none, .load 9 (.tmp 33)⟩,
  ⟨some 35, none, .call { callee := .value (.func 84), args := #[.tmp 34, .const (.string ⟨⟨[34]⟩⟩)], argTypes := #[9, 9] }⟩,
  ⟨some 36, none, .binOp .add 9 (.tmp 29) (.tmp 35) 9⟩,
  ⟨some 3, none, .assign (.tmp 36)⟩]) (.seq (.reg [⟨some 38, none, .binOp .eql 3 (.tmp 19) (.const (.int .i64 3)) 3⟩,
  ⟨some 37, none, .assign (.tmp 38)⟩])
 (.cond (.tmp 37) (.reg [⟨some 39, none, .move (.tmp 3)⟩,
  ⟨some 40, none, .move (.tmp 0)⟩,
  ⟨some 41, none, .move (.tmp 4)⟩,
  ⟨some 42, none, .indexAddr 22 (.tmp 40) (.tmp 41)⟩,
  ⟨some 43, none, .fieldAddr 40 (.tmp 42) 1⟩,
  ⟨some 44, none, .load 9 (.tmp 43)⟩,
  ⟨some 45, none, .call { callee := .value (.func 84), args := #[.tmp 44, .const (.string ⟨⟨[39]⟩⟩)], argTypes := #[9, 9] }⟩,
  ⟨some 46, none, .binOp .add 9 (.tmp 39) (.tmp 45) 9⟩,
  ⟨some 3, none, .assign (.tmp 46)⟩]) (.reg [⟨some 20, none, .move (.tmp 3)⟩,
  ⟨some 21, none, .move (.tmp 0)⟩,
  ⟨some 22, none, .move (.tmp 4)⟩,
  ⟨some 23, none, .indexAddr 22 (.tmp 21) (.tmp 22)⟩,
  ⟨some 24, none, .fieldAddr 40 (.tmp 23) 1⟩,
  ⟨some 25, none, .load 9 (.tmp 24)⟩,
  ⟨some 26, none, .binOp .add 9 (.tmp 20) (.tmp 25) 9⟩,
  ⟨some 3, none, .assign (.tmp 26)⟩])))))))))
 (.reg [⟨some 9, none, .move (.tmp 4)⟩,
  ⟨some 10, none, .binOp .add 3 (.tmp 9) (.const (.int .i64 1)) 3⟩,
  ⟨some 4, none, .assign (.tmp 10)⟩]))
noncomputable def K60 : AC := .seq (.reg [⟨some 2, none, .assign (.const (.string ⟨⟨[]⟩⟩))⟩])
 (.seq (.reg [⟨some 3, none, .assign (.const (.string ⟨⟨[]⟩⟩))⟩])
 (.seq (.seq (.reg [⟨some 4, none, .assign (.const (.int .i64 0))⟩])
 (.block 0 (.loop L60_0)))
 (.seq (.reg [⟨some 47, none, .move (.tmp 3)⟩,
  ⟨some 2, none, .assign (.tmp 47)⟩])
 (.ret))))
theorem k60 : codeAt Try.prog 60 = some (K60, #[.tmp 2], 48) := by kernel_rfl
/-- pontoon/lexer.begins -/
noncomputable def K61 : AC := .seq (.reg [⟨some 4, none, .assign (.const (.bool false))⟩])
 (.seq (.reg [⟨some 5, none, .move (.tmp 0)⟩,
  ⟨some 6, none, .call { callee := .builtin .len, args := #[.tmp 5], argTypes := #[9] }⟩,
  ⟨some 7, none, .move (.tmp 1)⟩,
  ⟨some 8, none, .call { callee := .builtin .len, args := #[.tmp 7], argTypes := #[9] }⟩,
  ⟨some 9, none, .binOp .geq 3 (.tmp 6) (.tmp 8) 3⟩,
  ⟨some 10, none, .move (.tmp 9)⟩,
  ⟨some 11, some (10, true), .move (.tmp 0)⟩,
  ⟨some 12, some (10, true), .move (.tmp 1)⟩,
  ⟨some 13, some (10, true), .call { callee := .builtin .len, args := #[.tmp 12], argTypes := #[9] }⟩,
  ⟨some 14, some (10, true), .slice 9 (.tmp 11) none (some (.tmp 13)) none⟩,
  ⟨some 15, some (10, true), .move (.tmp 1)⟩,
  ⟨some 16, some (10, true), .binOp .eql 9 (.tmp 14) (.tmp 15) 9⟩,
  ⟨some 17, none, .pick (.tmp 10) (.tmp 16) (.const (.bool false))⟩,
  ⟨some 4, none, .assign (.tmp 17)⟩])
 (.ret))
theorem k61 : codeAt Try.prog 61 = some (K61, #[.tmp 4], 18) := by kernel_rfl
/-- pontoon/lexer.run -/
noncomputable def L62_0 : AC := .seq (.reg [⟨some 9, none, .binOp .lss 3 (.tmp 8) (.tmp 7) 3⟩])
 (.seq (.cond (.tmp 9) (.skip) (.exit 0))
 (.seq (.block 1 (.seq (.reg [⟨some 10, none, .move (.tmp 8)⟩,
  ⟨some 5, none, .assign (.tmp 10)⟩])
 (.seq (.reg [⟨some 11, none, .move (.tmp 1)⟩,
  ⟨some 12, none, .move (.tmp 0)⟩,
  ⟨some 13, none, .move (.tmp 5)⟩,
  ⟨some 14, none, .index 9 (.tmp 12) (.tmp 13)⟩,
  ⟨some 15, none, .convert 5 21 (.tmp 14)⟩,
  ⟨some 16, none, .call { callee := .value (.tmp 11), args := #[.tmp 15], argTypes := #[21] }⟩,
  ⟨some 17, none, .unOp .not 4 (.tmp 16)⟩])
 (.cond (.tmp 17) (.seq (.reg [⟨some 18, none, .move (.tmp 5)⟩,
  ⟨some 4, none, .assign (.tmp 18)⟩])
 (.ret)) (.skip)))))
 (.reg [⟨some 19, none, .binOp .add 3 (.tmp 8) (.const (.int .i64 1)) 3⟩,
  ⟨some 8, none, .move (.tmp 19)⟩])))
noncomputable def K62 : AC := .seq (.reg [⟨some 4, none, .assign (.const (.int .i64 0))⟩])
 (.seq (.seq (.reg [⟨some 6, none, .move (.tmp 0)⟩,
  ⟨some 7, none, .call { callee := .builtin .len, args := #[.tmp 6], argTypes := #[9] }⟩,
  ⟨some 8, none, .move (.const (.int .i64 0))⟩])
 (.block 0 (.loop L62_0)))
 (.seq (.reg [⟨some 20, none, .move (.tmp 0)⟩,
  ⟨some 21, none, .call { callee := .builtin .len, args := #[.tmp 20], argTypes := #[9] }⟩,
  ⟨some 4, none, .assign (.tmp 21)⟩])
 (.ret)))
theorem k62 : codeAt Try.prog 62 = some (K62, #[.tmp 4], 22) := by kernel_rfl
/-- pontoon/lexer.Scan$1 -/
noncomputable def K63 : AC := .seq (.reg [⟨some 2, none, .assign (.const (.bool false))⟩])
 (.seq (.reg [⟨some 3, none, .move (.tmp 0)⟩,
  ⟨some 4, none, .binOp .neq 21 (.tmp 3) (.const (.int .i32 10)) 21⟩,
  ⟨some 2, none, .assign (.tmp 4)⟩])
 (.ret))
theorem k63 : codeAt Try.prog 63 = some (K63, #[.tmp 2], 5) := by kernel_rfl
/-- pontoon/lexer.remark -/
noncomputable def L64_0 : AC := .seq (.seq (.reg [⟨some 5, none, .move (.tmp 4)⟩,
  ⟨some 6, none, .move (.tmp 0)⟩,
  ⟨some 7, none, .call { callee := .builtin .len, args := #[.tmp 6], argTypes := #[9] }⟩,
  ⟨some 8, none, .binOp .lss 3 (.tmp 5) (.tmp 7) 3⟩])
 (.cond (.tmp 8) (.skip) (.exit 0)))
 (.seq (.block 1 (.block 2 (.seq (.reg [⟨some 12, none, .move (.tmp 0)⟩,
  ⟨some 13, none, .move (.tmp 4)⟩,
  ⟨some 14, none, .slice 9 (.tmp 12) (some (.tmp 13)) none none⟩,
  ⟨some 15, none, .call { callee := .value (.func 61), args := #[.tmp 14, .const (.string ⟨⟨[47, 42]⟩⟩)], argTypes := #[9, 9] }⟩,
  ⟨some 11, none, .assign (.tmp 15)⟩])
 (.cond (.tmp 11) (.seq (.reg [⟨some 16, none, .move (.tmp 3)⟩,
  ⟨some 17, none, .binOp .add 3 (.tmp 16) (.const (.int .i64 1)) 3⟩,
  ⟨some 3, none, .assign (.tmp 17)⟩])
 (.reg [⟨some 18, none, .move (.tmp 4)⟩,
  ⟨some 19, none, .binOp .add 3 (.tmp 18) (.const (.int .i64 1)) 3⟩,
  ⟨some 4, none, .assign (.tmp 19)⟩])) (.seq (.reg [⟨some 21, none, .move (.tmp 0)⟩,
  ⟨some 22, none, .move (.tmp 4)⟩,
  ⟨some 23, none, .slice 9 (.tmp 21) (some (.tmp 22)) none none⟩,
  ⟨some 24, none, .call { callee := .value (.func 61), args := #[.tmp 23, .const (.string ⟨⟨[42, 47]⟩⟩)], argTypes := #[9, 9] }⟩,
  ⟨some 20, none, .assign (.tmp 24)⟩])
 (.cond (.tmp 20) (.seq (.reg [⟨some 25, none, .move (.tmp 4)⟩,
  ⟨some 26, none, .binOp .add 3 (.tmp 25) (.const (.int .i64 1)) 3⟩,
  ⟨some 4, none, .assign (.tmp 26)⟩])
 (.seq (.reg [⟨some 27, none, .move (.tmp 3)⟩,
  ⟨some 28, none, .binOp .sub 3 (.tmp 27) (.const (.int .i64 1)) 3⟩,
  ⟨some 3, none, .assign (.tmp 28)⟩])
 (.seq (.reg [⟨some 29, none, .move (.tmp 3)⟩,
  ⟨some 30, none, .binOp .eql 3 (.tmp 29) (.const (.int .i64 0)) 3⟩])
 (.cond (.tmp 30) (.seq (.reg [⟨some 31, none, .move (.tmp 4)⟩,
  ⟨some 32, none, .binOp .add 3 (.tmp 31) (.const (.int .i64 1)) 3⟩,
  ⟨some 2, none, .assign (.tmp 32)⟩])
 (.ret)) (.skip))))) (.skip)))))))
 (.reg [⟨some 9, none, .move (.tmp 4)⟩,
  ⟨some 10, none, .binOp .add 3 (.tmp 9) (.const (.int .i64 1)) 3⟩,
  ⟨some 4, none, .assign (.tmp 10)⟩]))
noncomputable def K64 : AC := .seq (.reg [⟨some 2, none, .assign (.const (.int .i64 0))⟩])
 (.seq (.reg [⟨some 3, none, .assign (.const (.int .i64 0))⟩])
 (.seq (.seq (.reg [⟨some 4, none, .assign (.const (.int .i64 0))⟩])
 (.block 0 (.loop L64_0)))
 (.seq (.reg [⟨some 2, none, .assign (.const (.int .i64 (-1)))⟩])
 (.ret))))
theorem k64 : codeAt Try.prog 64 = some (K64, #[.tmp 2], 33) := by kernel_rfl
/-- pontoon/lexer.one -/
noncomputable def K65 : AC := .seq (.reg [⟨some 2, none, .alloc 40⟩,
  ⟨some 3, none, .assign (.const (.int .i64 0))⟩])
 (.seq (.reg [⟨some 14, none, .move (.tmp 0)⟩,
  ⟨some 15, none, .index 9 (.tmp 14) (.const (.int .i64 0))⟩,
  ⟨some 16, none, .convert 5 21 (.tmp 15)⟩,
  ⟨some 4, none, .assign (.tmp 16)⟩])
 (.seq (.block 0 (.seq (.reg [⟨some 18, none, .move (.tmp 4)⟩,
  ⟨some 19, none, .call { callee := .value (.func 85), args := #[.tmp 18], argTypes := #[21] }⟩,
  ⟨some 17, none, .assign (.tmp 19)⟩])
 (.cond (.tmp 17) (.seq (.reg [⟨some 20, none, .move (.tmp 0)⟩,
  ⟨some 21, none, .call { callee := .value (.func 62), args := #[.tmp 20, .func 86], argTypes := #[9, 69] }⟩,
  ⟨some 5, none, .assign (.tmp 21)⟩])
 (.seq (.reg [⟨some 22, none, .move (.tmp 0)⟩,
  ⟨some 23, none, .move (.tmp 5)⟩,
  ⟨some 24, none, .slice 9 (.tmp 22) none (some (.tmp 23)) none⟩,
  ⟨some 25, none, .call { callee := .value (.func 88), args := #[.tmp 24], argTypes := #[9] }⟩,
  ⟨some 26, none, .build 40 #[(0, .const (.int .i64 1)), (1, .tmp 25)]⟩,
  ⟨some 27, none, .move (.tmp 5)⟩,
  ⟨none, none, .store 40 (.tmp 2) (.tmp 26)⟩,
  ⟨some 3, none, .assign (.tmp 27)⟩])
 (.ret))) (.seq (.reg [⟨some 29, none, .move (.tmp 4)⟩,
  ⟨some 30, none, .call { callee := .value (.func 87), args := #[.tmp 29], argTypes := #[21] }⟩,
  ⟨some 28, none, .assign (.tmp 30)⟩])
 (.cond (.tmp 28) (.seq (.reg [⟨some 31, none, .move (.tmp 0)⟩,
  ⟨some 32, none, .call { callee := .value (.func 62), args := #[.tmp 31, .func 89], argTypes := #[9, 69] }⟩,
  ⟨some 6, none, .assign (.tmp 32)⟩])
 (.seq (.reg [⟨some 33, none, .move (.tmp 0)⟩,
  ⟨some 34, none, .move (.tmp 6)⟩,
  ⟨some 35, none, .slice 9 (.tmp 33) none (some (.tmp 34)) none⟩,
  ⟨some 36, none, .build 40 #[(0, .const (.int .i64 4)), (1, .tmp 35)]⟩,
  ⟨some 37, none, .move (.tmp 6)⟩,
  ⟨none, none, .store 40 (.tmp 2) (.tmp 36)⟩,
  ⟨some 3, none, .assign (.tmp 37)⟩])
 (.ret))) (.seq (.reg [⟨some 39, none, .move (.tmp 4)⟩,
  ⟨some 40, none, .binOp .eql 21 (.tmp 39) (.const (.int .i32 34)) 21⟩,
  ⟨some 38, none, .assign (.tmp 40)⟩])
 (.cond (.tmp 38) (.seq (.reg [⟨some 42, none, .move (.tmp 0)⟩,
  ⟨some 43, none, .call { callee := .value (.func 90), args := #[.tmp 42], argTypes := #[9] }⟩,
  ⟨some 41, none, .move (.tmp 43)⟩,
  ⟨some 44, none, .extract (.tmp 41) 0⟩,
  ⟨some 45, none, .extract (.tmp 41) 1⟩,
  ⟨some 7, none, .assign (.tmp 44)⟩,
  ⟨some 8, none, .assign (.tmp 45)⟩])
 (.seq (.reg [⟨some 46, none, .move (.tmp 7)⟩,
  ⟨some 47, none, .build 40 #[(0, .const (.int .i64 2)), (1, .tmp 46)]⟩,
  ⟨some 48, none, .move (.tmp 8)⟩,
  ⟨none, none, .store 40 (.tmp 2) (.tmp 47)⟩,
  ⟨some 3, none, .assign (.tmp 48)⟩])
 (.ret))) (.seq (.reg [⟨some 50, none, .move (.tmp 4)⟩,
  ⟨some 51, none, .binOp .eql 21 (.tmp 50) (.const (.int .i32 39)) 21⟩,
  ⟨some 49, none, .assign (.tmp 51)⟩])
 (.cond (.tmp 49) (.seq (.reg [⟨some 53, none, .move (.tmp 0)⟩,
  ⟨some 54, none, .call { callee := .value (.func 90), args := #[.tmp 53], argTypes := #[9] }⟩,
  ⟨some 52, none, .move (.tmp 54)⟩,
  ⟨some 55, none, .extract (.tmp 52) 0⟩,
  ⟨some 56, none, .extract (.tmp 52) 1⟩,
  ⟨some 9, none, .assign (.tmp 55)⟩,
  ⟨some 10, none, .assign (.tmp 56)⟩])
 (.seq (.reg [⟨some 57, none, .move (.tmp 9)⟩,
  ⟨some 58, none, .build 40 #[(0, .const (.int .i64 3)), (1, .tmp 57)]⟩,
  ⟨some 59, none, .move (.tmp 10)⟩,
  ⟨none, none, .store 40 (.tmp 2) (.tmp 58)⟩,
  ⟨some 3, none, .assign (.tmp 59)⟩])
 (.ret))) (.seq (.reg [⟨some 61, none, .move (.tmp 4)⟩,
  ⟨some 62, none, .binOp .eql 21 (.tmp 61) (.const (.int .i32 36)) 21⟩,
  ⟨some 63, none, .move (.tmp 62)⟩,
  ⟨some 64, some (63, true), .move (.tmp 0)⟩,
  ⟨some 65, some (63, true), .call { callee := .value (.func 91), args := #[.tmp 64], argTypes := #[9] }⟩,
  ⟨some 66, some (63, true), .binOp .neq 3 (.tmp 65) (.const (.int .i64 (-1))) 3⟩,
  ⟨some 67, none, .pick (.tmp 63) (.tmp 66) (.const (.bool false))⟩,
  ⟨some 60, none, .assign (.tmp 67)⟩])
 (.cond (.tmp 60) (.seq (.reg [⟨some 69, none, .move (.tmp 0)⟩,
  ⟨some 70, none, .move (.tmp 0)⟩,
  ⟨some 71, none, .call { callee := .value (.func 91), args := #[.tmp 70], argTypes := #[9] }⟩,
  ⟨some 72, none, .call { callee := .value (.func 92), args := #[.tmp 69, .tmp 71], argTypes := #[9, 3] }⟩,
  ⟨some 68, none, .move (.tmp 72)⟩,
  ⟨some 73, none, .extract (.tmp 68) 0⟩,
  ⟨some 74, none, .extract (.tmp 68) 1⟩,
  ⟨some 11, none, .assign (.tmp 73)⟩,
  ⟨some 12, none, .assign (.tmp 74)⟩])
 (.seq (.reg [⟨some 75, none, .move (.tmp 11)⟩,
  ⟨some 76, none, .build 40 #[(0, .const (.int .i64 3)), (1, .tmp 75)]⟩,
  ⟨some 77, none, .move (.tmp 12)⟩,
  ⟨none, none, .store 40 (.tmp 2) (.tmp 76)⟩,
  ⟨some 3, none, .assign (.tmp 77)⟩])
 (.ret))) (.skip))))))))))))
 (.seq (.reg [⟨some 78, none, .move (.tmp 0)⟩,
  ⟨some 79, none, .call { callee := .value (.func 93), args := #[.tmp 78], argTypes := #[9] }⟩,
  ⟨some 13, none, .assign (.tmp 79)⟩])
 (.seq (.reg [⟨some 80, none, .move (.tmp 0)⟩,
  ⟨some 81, none, .move (.tmp 13)⟩,
  ⟨some 82, none, .slice 9 (.tmp 80) none (some (.tmp 81)) none⟩,
  ⟨some 83, none, .build 40 #[(0, .const (.int .i64 5)), (1, .tmp 82)]⟩,
  ⟨some 84, none, .move (.tmp 13)⟩,
  ⟨none, none, .store 40 (.tmp 2) (.tmp 83)⟩,
  ⟨some 3, none, .assign (.tmp 84)⟩])
 (.ret)))))
theorem k65 : codeAt Try.prog 65 = some (K65, #[.cell 2 40, .tmp 3], 85) := by kernel_rfl
/-- pontoon/lexer.Split$1 -/
noncomputable def K66 : AC := .seq (.seq (.reg [⟨some 2, none, .load 22 (.tmp 0)⟩,
  ⟨some 3, none, .call { callee := .builtin .len, args := #[.tmp 2], argTypes := #[22] }⟩,
  ⟨some 4, none, .binOp .gtr 3 (.tmp 3) (.const (.int .i64 0)) 3⟩])
 (.cond (.tmp 4) (.reg [⟨some 5, none, .load 54 (.tmp 1)⟩,
  ⟨some 6, none, .load 22 (.tmp 0)⟩,
  ⟨some 7, none, .buildSlice 54 1 #[(0, .tmp 6)]⟩,
  ⟨some 8, none, .call { callee := .builtin .append, args := #[.tmp 5, .tmp 7], argTypes := #[54, 54] }⟩,
  ⟨none, none, .store 54 (.tmp 1) (.tmp 8)⟩]) (.skip)))
 (.reg [⟨none, none, .store 22 (.tmp 0) (.const (.slice none 0 0))⟩])
theorem k66 : codeAt Try.prog 66 = some (K66, #[], 9) := by kernel_rfl
/-- pontoon/pontoonref04.gap -/
noncomputable def L67_1 : AC := .seq (.seq (.reg [⟨some 41, none, .move (.tmp 1)⟩,
  ⟨some 42, none, .move (.tmp 0)⟩,
  ⟨some 43, none, .call { callee := .builtin .len, args := #[.tmp 42], argTypes := #[9] }⟩,
  ⟨some 44, none, .binOp .lss 3 (.tmp 41) (.tmp 43) 3⟩,
  ⟨some 45, none, .move (.tmp 44)⟩,
  ⟨some 46, some (45, true), .move (.tmp 0)⟩,
  ⟨some 47, some (45, true), .move (.tmp 1)⟩,
  ⟨some 48, some (45, true), .index 9 (.tmp 46) (.tmp 47)⟩,
  ⟨some 49, some (45, true), .binOp .neq 5 (.tmp 48) (.const (.int .u8 10)) 5⟩,
  ⟨some 50, none, .pick (.tmp 45) (.tmp 49) (.const (.bool false))⟩])
 (.cond (.tmp 50) (.skip) (.exit 3)))
 (.block 4 (.reg [⟨some 51, none, .move (.tmp 1)⟩,
  ⟨some 52, none, .binOp .add 3 (.tmp 51) (.const (.int .i64 1)) 3⟩,
  ⟨some 1, none, .assign (.tmp 52)⟩]))
noncomputable def L67_0 : AC := .seq (.seq (.reg [⟨some 8, none, .move (.tmp 1)⟩,
  ⟨some 9, none, .move (.tmp 0)⟩,
  ⟨some 10, none, .call { callee := .builtin .len, args := #[.tmp 9], argTypes := #[9] }⟩,
  ⟨some 11, none, .binOp .lss 3 (.tmp 8) (.tmp 10) 3⟩])
 (.cond (.tmp 11) (.skip) (.exit 0)))
 (.block 1 (.seq (.reg [⟨some 12, none, .move (.tmp 0)⟩,
  ⟨some 13, none, .move (.tmp 1)⟩,
  ⟨some 14, none, .index 9 (.tmp 12) (.tmp 13)⟩,
  ⟨some 6, none, .assign (.tmp 14)⟩])
 (.block 2 (.seq (.reg [⟨some 17, none, .move (.tmp 6)⟩,
  ⟨some 18, none, .binOp .eql 5 (.tmp 17) (.const (.int .u8 32)) 5⟩,
  ⟨some 19, none, .move (.tmp 18)⟩,
  ⟨some 20, some (19, false), .move (.tmp 6)⟩,
  ⟨some 21, some (19, false), .binOp .eql 5 (.tmp 20) (.const (.int .u8 9)) 5⟩,
  ⟨some 22, none, .pick (.tmp 19) (.const (.bool true)) (.tmp 21)⟩,
  ⟨some 23, none, .move (.tmp 22)⟩,
  ⟨some 24, some (23, false), .move (.tmp 6)⟩,
  ⟨some 25, some (23, false), .binOp .eql 5 (.tmp 24) (.const (.int .u8 10)) 5⟩,
  ⟨some 26, none, .pick (.tmp 23) (.const (.bool true)) (.tmp 25)⟩,
  ⟨some 27, none, .move (.tmp 26)⟩,
  ⟨some 28, some (27, false), .move (.tmp 6)⟩,
  ⟨some 29, some (27, false), .binOp .eql 5 (.tmp 28) (.const (.int .u8 12)) 5⟩,
  ⟨some 30, none, .pick (.tmp 27) (.const (.bool true)) (.tmp 29)⟩,
  ⟨some 31, none, .move (.tmp 30)⟩,
  ⟨some 32, some (31, false), .move (.tmp 6)⟩,
  ⟨some 33, some (31, false), .binOp .eql 5 (.tmp 32) (.const (.int .u8 13)) 5⟩,
  ⟨some 34, none, .pick (.tmp 31) (.const (.bool true)) (.tmp 33)⟩,
  ⟨some 16, none, .assign (.tmp 34)⟩])
 (.cond (.tmp 16) (.reg [⟨some 35, none, .move (.tmp 1)⟩,
  ⟨some 36, none, .binOp .add 3 (.tmp 35) (.const (.int .i64 1)) 3⟩,
  ⟨some 1, none, .assign (.tmp 36)⟩]) (.seq (.reg [⟨some 38, none, .move (.tmp 0)⟩,
  ⟨some 39, none, .move (.tmp 1)⟩,
  ⟨some 40, none, .call { callee := .value (.func 94), args := #[.tmp 38, .tmp 39, .const (.string ⟨⟨[45, 45]⟩⟩)], argTypes := #[9, 3, 9] }⟩,
  ⟨some 37, none, .assign (.tmp 40)⟩])
 (.cond (.tmp 37) (.block 3 (.loop L67_1)) (.seq (.reg [⟨some 54, none, .move (.tmp 0)⟩,
  ⟨some 55, none, .move (.tmp 1)⟩,
  ⟨some 56, none, .call { callee := .value (.func 94), args := #[.tmp 54, .tmp 55, .const (.string ⟨⟨[47, 42]⟩⟩)], argTypes := #[9, 3, 9] }⟩,
  ⟨some 53, none, .assign (.tmp 56)⟩])
 (.cond (.tmp 53) (.seq (.reg [⟨some 57, none, .move (.tmp 0)⟩,
  ⟨some 58, none, .move (.tmp 1)⟩,
  ⟨some 59, none, .call { callee := .value (.func 95), args := #[.tmp 57, .tmp 58], argTypes := #[9, 3] }⟩,
  ⟨some 7, none, .assign (.tmp 59)⟩])
 (.seq (.seq (.reg [⟨some 60, none, .move (.tmp 7)⟩,
  ⟨some 61, none, .binOp .lss 3 (.tmp 60) (.const (.int .i64 0)) 3⟩])
 (.cond (.tmp 61) (.seq (.reg [⟨some 62, none, .move (.tmp 1)⟩,
  ⟨some 4, none, .assign (.tmp 62)⟩,
  ⟨some 5, none, .assign (.const (.bool true))⟩])
 (.ret)) (.skip)))
 (.reg [⟨some 63, none, .move (.tmp 7)⟩,
  ⟨some 1, none, .assign (.tmp 63)⟩]))) (.seq (.reg [⟨some 15, none, .move (.tmp 1)⟩,
  ⟨some 4, none, .assign (.tmp 15)⟩,
  ⟨some 5, none, .assign (.const (.bool false))⟩])
 (.ret)))))))))))
noncomputable def K67 : AC := .seq (.reg [⟨some 4, none, .assign (.const (.int .i64 0))⟩,
  ⟨some 5, none, .assign (.const (.bool false))⟩])
 (.seq (.block 0 (.loop L67_0))
 (.seq (.reg [⟨some 64, none, .move (.tmp 1)⟩,
  ⟨some 4, none, .assign (.tmp 64)⟩,
  ⟨some 5, none, .assign (.const (.bool false))⟩])
 (.ret)))
theorem k67 : codeAt Try.prog 67 = some (K67, #[.tmp 4, .tmp 5], 65) := by kernel_rfl
/-- pontoon/pontoonref04.one -/
noncomputable def K68 : AC := .seq (.reg [⟨some 4, none, .alloc 40⟩,
  ⟨some 5, none, .assign (.const (.int .i64 0))⟩,
  ⟨some 6, none, .assign (.const (.int .i64 0))⟩])
 (.seq (.reg [⟨some 15, none, .move (.tmp 0)⟩,
  ⟨some 16, none, .move (.tmp 1)⟩,
  ⟨some 17, none, .index 9 (.tmp 15) (.tmp 16)⟩,
  ⟨some 7, none, .assign (.tmp 17)⟩])
 (.seq (.block 0 (.seq (.reg [⟨some 19, none, .move (.tmp 7)⟩,
  ⟨some 20, none, .call { callee := .value (.func 96), args := #[.tmp 19], argTypes := #[5] }⟩,
  ⟨some 18, none, .assign (.tmp 20)⟩])
 (.cond (.tmp 18) (.seq (.reg [⟨some 21, none, .move (.tmp 0)⟩,
  ⟨some 22, none, .move (.tmp 1)⟩,
  ⟨some 23, none, .call { callee := .value (.func 97), args := #[.tmp 21, .tmp 22, .const (.int .i64 1)], argTypes := #[9, 3, 3] }⟩,
  ⟨some 8, none, .assign (.tmp 23)⟩])
 (.seq (.reg [⟨some 24, none, .move (.tmp 0)⟩,
  ⟨some 25, none, .move (.tmp 1)⟩,
  ⟨some 26, none, .move (.tmp 8)⟩,
  ⟨some 27, none, .slice 9 (.tmp 24) (some (.tmp 25)) (some (.tmp 26)) none⟩,
  ⟨some 28, none, .call { callee := .value (.func 98), args := #[.tmp 27], argTypes := #[9] }⟩,
  ⟨some 29, none, .move (.tmp 1)⟩,
  ⟨some 30, none, .build 40 #[(0, .const (.int .i64 1)), (1, .tmp 28), (2, .tmp 29)]⟩,
  ⟨some 31, none, .move (.tmp 8)⟩,
  ⟨none, none, .store 40 (.tmp 4) (.tmp 30)⟩,
  ⟨some 5, none, .assign (.tmp 31)⟩,
  ⟨some 6, none, .assign (.const (.int .i64 0))⟩])
 (.ret))) (.seq (.reg [⟨some 33, none, .move (.tmp 7)⟩,
  ⟨some 34, none, .call { callee := .value (.func 99), args := #[.tmp 33], argTypes := #[5] }⟩,
  ⟨some 32, none, .assign (.tmp 34)⟩])
 (.cond (.tmp 32) (.seq (.reg [⟨some 35, none, .move (.tmp 0)⟩,
  ⟨some 36, none, .move (.tmp 1)⟩,
  ⟨some 37, none, .call { callee := .value (.func 97), args := #[.tmp 35, .tmp 36, .const (.int .i64 4)], argTypes := #[9, 3, 3] }⟩,
  ⟨some 9, none, .assign (.tmp 37)⟩])
 (.seq (.reg [⟨some 38, none, .move (.tmp 0)⟩,
  ⟨some 39, none, .move (.tmp 1)⟩,
  ⟨some 40, none, .move (.tmp 9)⟩,
  ⟨some 41, none, .slice 9 (.tmp 38) (some (.tmp 39)) (some (.tmp 40)) none⟩,
  ⟨some 42, none, .move (.tmp 1)⟩,
  ⟨some 43, none, .build 40 #[(0, .const (.int .i64 4)), (1, .tmp 41), (2, .tmp 42)]⟩,
  ⟨some 44, none, .move (.tmp 9)⟩,
  ⟨none, none, .store 40 (.tmp 4) (.tmp 43)⟩,
  ⟨some 5, none, .assign (.tmp 44)⟩,
  ⟨some 6, none, .assign (.const (.int .i64 0))⟩])
 (.ret))) (.seq (.reg [⟨some 46, none, .move (.tmp 7)⟩,
  ⟨some 47, none, .binOp .eql 5 (.tmp 46) (.const (.int .u8 34)) 5⟩,
  ⟨some 48, none, .move (.tmp 47)⟩,
  ⟨some 49, some (48, false), .move (.tmp 7)⟩,
  ⟨some 50, some (48, false), .binOp .eql 5 (.tmp 49) (.const (.int .u8 39)) 5⟩,
  ⟨some 51, none, .pick (.tmp 48) (.const (.bool true)) (.tmp 50)⟩,
  ⟨some 45, none, .assign (.tmp 51)⟩])
 (.cond (.tmp 45) (.seq (.reg [⟨some 53, none, .move (.tmp 0)⟩,
  ⟨some 54, none, .move (.tmp 1)⟩,
  ⟨some 55, none, .call { callee := .value (.func 100), args := #[.tmp 53, .tmp 54], argTypes := #[9, 3] }⟩,
  ⟨some 52, none, .move (.tmp 55)⟩,
  ⟨some 56, none, .extract (.tmp 52) 0⟩,
  ⟨some 57, none, .extract (.tmp 52) 1⟩,
  ⟨some 10, none, .assign (.tmp 56)⟩,
  ⟨some 11, none, .assign (.tmp 57)⟩])
 (.seq (.seq (.reg [⟨some 58, none, .move (.tmp 11)⟩,
  ⟨some 59, none, .binOp .lss 3 (.tmp 58) (.const (.int .i64 0)) 3⟩])
 (.cond (.tmp 59) (.seq (.reg [⟨some 60, none, .build 40 #[]⟩,
  ⟨none, none, .store 40 (.tmp 4) (.tmp 60)⟩,
  ⟨some 5, none, .assign (.const (.int .i64 0))⟩,
  ⟨some 6, none, .assign (.const (.int .i64 6))⟩])
 (.ret)) (.skip)))
 (.seq (.seq (.reg [⟨some 61, none, .move (.tmp 7)⟩,
  ⟨some 62, none, .binOp .eql 5 (.tmp 61) (.const (.int .u8 34)) 5⟩])
 (.cond (.tmp 62) (.seq (.reg [⟨some 63, none, .move (.tmp 10)⟩,
  ⟨some 64, none, .move (.tmp 1)⟩,
  ⟨some 65, none, .build 40 #[(0, .const (.int .i64 2)), (1, .tmp 63), (2, .tmp 64)]⟩,
  ⟨some 66, none, .move (.tmp 11)⟩,
  ⟨none, none, .store 40 (.tmp 4) (.tmp 65)⟩,
  ⟨some 5, none, .assign (.tmp 66)⟩,
  ⟨some 6, none, .assign (.const (.int .i64 0))⟩])
 (.ret)) (.skip)))
 (.seq (.reg [⟨some 67, none, .move (.tmp 10)⟩,
  ⟨some 68, none, .move (.tmp 1)⟩,
  ⟨some 69, none, .build 40 #[(0, .const (.int .i64 3)), (1, .tmp 67), (2, .tmp 68)]⟩,
  ⟨some 70, none, .move (.tmp 11)⟩,
  ⟨none, none, .store 40 (.tmp 4) (.tmp 69)⟩,
  ⟨some 5, none, .assign (.tmp 70)⟩,
  ⟨some 6, none, .assign (.const (.int .i64 0))⟩])
 (.ret))))) (.seq (.reg [⟨some 72, none, .move (.tmp 7)⟩,
  ⟨some 73, none, .binOp .eql 5 (.tmp 72) (.const (.int .u8 36)) 5⟩,
  ⟨some 74, none, .move (.tmp 73)⟩,
  ⟨some 75, some (74, true), .move (.tmp 0)⟩,
  ⟨some 76, some (74, true), .move (.tmp 1)⟩,
  ⟨some 77, some (74, true), .call { callee := .value (.func 101), args := #[.tmp 75, .tmp 76], argTypes := #[9, 3] }⟩,
  ⟨some 78, some (74, true), .binOp .gtr 3 (.tmp 77) (.const (.int .i64 0)) 3⟩,
  ⟨some 79, none, .pick (.tmp 74) (.tmp 78) (.const (.bool false))⟩,
  ⟨some 71, none, .assign (.tmp 79)⟩])
 (.cond (.tmp 71) (.seq (.reg [⟨some 81, none, .move (.tmp 0)⟩,
  ⟨some 82, none, .move (.tmp 1)⟩,
  ⟨some 83, none, .move (.tmp 0)⟩,
  ⟨some 84, none, .move (.tmp 1)⟩,
  ⟨some 85, none, .call { callee := .value (.func 101), args := #[.tmp 83, .tmp 84], argTypes := #[9, 3] }⟩,
  ⟨some 86, none, .call { callee := .value (.func 102), args := #[.tmp 81, .tmp 82, .tmp 85], argTypes := #[9, 3, 3] }⟩,
  ⟨some 80, none, .move (.tmp 86)⟩,
  ⟨some 87, none, .extract (.tmp 80) 0⟩,
  ⟨some 88, none, .extract (.tmp 80) 1⟩,
  ⟨some 12, none, .assign (.tmp 87)⟩,
  ⟨some 13, none, .assign (.tmp 88)⟩])
 (.seq (.seq (.reg [⟨some 89, none, .move (.tmp 13)⟩,
  ⟨some 90, none, .binOp .lss 3 (.tmp 89) (.const (.int .i64 0)) 3⟩])
 (.cond (.tmp 90) (.seq (.reg [⟨some 91, none, .build 40 #[]⟩,
  ⟨none, none, .store 40 (.tmp 4) (.tmp 91)⟩,
  ⟨some 5, none, .assign (.const (.int .i64 0))⟩,
  ⟨some 6, none, .assign (.const (.int .i64 6))⟩])
 (.ret)) (.skip)))
 (.seq (.reg [⟨some 92, none, .move (.tmp 12)⟩,
  ⟨some 93, none, .move (.tmp 1)⟩,
  ⟨some 94, none, .build 40 #[(0, .const (.int .i64 3)), (1, .tmp 92), (2, .tmp 93)]⟩,
  ⟨some 95, none, .move (.tmp 13)⟩,
  ⟨none, none, .store 40 (.tmp 4) (.tmp 94)⟩,
  ⟨some 5, none, .assign (.tmp 95)⟩,
  ⟨some 6, none, .assign (.const (.int .i64 0))⟩])
 (.ret)))) (.seq (.reg [⟨some 97, none, .move (.tmp 7)⟩,
  ⟨some 98, none, .binOp .eql 5 (.tmp 97) (.const (.int .u8 36)) 5⟩,
  ⟨some 99, none, .move (.tmp 98)⟩,
  ⟨some 100, some (99, true), .move (.tmp 0)⟩,
  ⟨some 101, some (99, true), .move (.tmp 1)⟩,
  ⟨some 102, some (99, true), .binOp .add 3 (.tmp 101) (.const (.int .i64 1)) 3⟩,
  ⟨some 103, some (99, true), .call { callee := .value (.func 97), args := #[.tmp 100, .tmp 102, .const (.int .i64 0)], argTypes := #[9, 3, 3] }⟩,
  ⟨some 104, some (99, true), .move (.tmp 1)⟩,
  ⟨some 105, some (99, true), .binOp .add 3 (.tmp 104) (.const (.int .i64 1)) 3⟩,
  ⟨some 106, some (99, true), .binOp .gtr 3 (.tmp 103) (.tmp 105) 3⟩,
  ⟨some 107, none, .pick (.tmp 99) (.tmp 106) (.const (.bool false))⟩,
  ⟨some 96, none, .assign (.tmp 107)⟩])
 (.cond (.tmp 96) (.seq (.reg [⟨some 108, none, .move (.tmp 0)⟩,
  ⟨some 109, none, .move (.tmp 1)⟩,
  ⟨some 110, none, .binOp .add 3 (.tmp 109) (.const (.int .i64 1)) 3⟩,
  ⟨some 111, none, .call { callee := .value (.func 97), args := #[.tmp 108, .tmp 110, .const (.int .i64 0)], argTypes := #[9, 3, 3] }⟩,
  ⟨some 14, none, .assign (.tmp 111)⟩])
 (.seq (.reg [⟨some 112, none, .move (.tmp 0)⟩,
  ⟨some 113, none, .move (.tmp 1)⟩,
  ⟨some 114, none, .move (.tmp 14)⟩,
  ⟨some 115, none, .slice 9 (.tmp 112) (some (.tmp 113)) (some (.tmp 114)) none⟩,
  ⟨some 116, none, .move (.tmp 1)⟩,
  ⟨some 117, none, .build 40 #[(0, .const (.int .i64 5)), (1, .tmp 115), (2, .tmp 116)]⟩,
  ⟨some 118, none, .move (.tmp 14)⟩,
  ⟨none, none, .store 40 (.tmp 4) (.tmp 117)⟩,
  ⟨some 5, none, .assign (.tmp 118)⟩,
  ⟨some 6, none, .assign (.const (.int .i64 0))⟩])
 (.ret))) (.seq (.reg [⟨some 120, none, .move (.tmp 7)⟩,
  ⟨some 121, none, .call { callee := .value (.func 103), args := #[.tmp 120], argTypes := #[5] }⟩,
  ⟨some 119, none, .assign (.tmp 121)⟩])
 (.cond (.tmp 119) (.seq (.reg [⟨some 122, none, .move (.tmp 0)⟩,
  ⟨some 123, none, .move (.tmp 1)⟩,
  ⟨some 124, none, .move (.tmp 1)⟩,
  ⟨some 125, none, .binOp .add 3 (.tmp 124) (.const (.int .i64 1)) 3⟩,
  ⟨some 126, none, .slice 9 (.tmp 122) (some (.tmp 123)) (some (.tmp 125)) none⟩,
  ⟨some 127, none, .move (.tmp 1)⟩,
  ⟨some 128, none, .build 40 #[(0, .const (.int .i64 5)), (1, .tmp 126), (2, .tmp 127)]⟩,
  ⟨some 129, none, .move (.tmp 1)⟩,
  ⟨some 130, none, .binOp .add 3 (.tmp 129) (.const (.int .i64 1)) 3⟩,
  ⟨none, none, .store 40 (.tmp 4) (.tmp 128)⟩,
  ⟨some 5, none, .assign (.tmp 130)⟩,
  ⟨some 6, none, .assign (.const (.int .i64 0))⟩])
 (.ret)) (.skip))))))))))))))
 (.seq (.reg [⟨some 131, none, .build 40 #[]⟩,
  ⟨none, none, .store 40 (.tmp 4) (.tmp 131)⟩,
  ⟨some 5, none, .assign (.const (.int .i64 0))⟩,
  ⟨some 6, none, .assign (.const (.int .i64 7))⟩])
 (.ret))))
theorem k68 : codeAt Try.prog 68 = some (K68, #[.cell 4 40, .tmp 5, .tmp 6], 132) := by kernel_rfl
/-- pontoon/sets.key -/
def W69_0 : List (Nat × List UInt8) := [(5, [115, 101, 108, 101, 99, 116]), (6, [102, 114, 111, 109]), (7, [119, 104, 101, 114, 101]), (8, [106, 111, 105, 110]), (9, [111, 110]), (10, [117, 115, 105, 110, 103]), (11, [103, 114, 111, 117, 112]), (12, [111, 114, 100, 101, 114]), (13, [104, 97, 118, 105, 110, 103]), (14, [108, 105, 109, 105, 116]), (15, [111, 102, 102, 115, 101, 116]), (16, [117, 110, 105, 111, 110]), (17, [101, 120, 99, 101, 112, 116]), (18, [105, 110, 116, 101, 114, 115, 101, 99, 116])]
@[go_sem] theorem w69_0 (s : Slots) (H : AHeap) (Q : QT) (h : isStr (s 3) = true) : C (cxV E) (sw 3 4 W69_0) s H Q = Q .nrm (swS 4 (strOf (s 3)) W69_0 s) H := C_sw _ _ _ _ rfl h
@[go_sem] theorem w69_0d (v : List UInt8) (s : Slots) : swS 4 v W69_0 s 4 = .bool ((W69_0.map (·.2)).contains v) := swS_d _ _ (by unfold W69_0; exact List.cons_ne_nil _ _)
@[go_sem] theorem w69_0o (v : List UInt8) (s : Slots) (t : Nat) (h : t < 4 ∨ 19 ≤ t) : swS 4 v W69_0 s t = s t := swS_out (lo := 4) (hi := 19) rfl ⟨Nat.le_of_ble_eq_true rfl, Nat.le_of_ble_eq_true rfl⟩ s h
def W69_1 : List (Nat × List UInt8) := [(20, [97, 115]), (21, [97, 110, 100]), (22, [111, 114]), (23, [110, 111, 116]), (24, [105, 110]), (25, [105, 115]), (26, [110, 117, 108, 108]), (27, [118, 97, 108, 117, 101, 115]), (28, [115, 101, 116]), (29, [105, 110, 116, 111]), (30, [105, 110, 110, 101, 114]), (31, [108, 101, 102, 116]), (32, [114, 105, 103, 104, 116]), (33, [102, 117, 108, 108]), (34, [111, 117, 116, 101, 114]), (35, [99, 114, 111, 115, 115]), (36, [110, 97, 116, 117, 114, 97, 108]), (37, [108, 97, 116, 101, 114, 97, 108])]
@[go_sem] theorem w69_1 (s : Slots) (H : AHeap) (Q : QT) (h : isStr (s 3) = true) : C (cxV E) (sw 3 19 W69_1) s H Q = Q .nrm (swS 19 (strOf (s 3)) W69_1 s) H := C_sw _ _ _ _ rfl h
@[go_sem] theorem w69_1d (v : List UInt8) (s : Slots) : swS 19 v W69_1 s 19 = .bool ((W69_1.map (·.2)).contains v) := swS_d _ _ (by unfold W69_1; exact List.cons_ne_nil _ _)
@[go_sem] theorem w69_1o (v : List UInt8) (s : Slots) (t : Nat) (h : t < 19 ∨ 38 ≤ t) : swS 19 v W69_1 s t = s t := swS_out (lo := 19) (hi := 38) rfl ⟨Nat.le_of_ble_eq_true rfl, Nat.le_of_ble_eq_true rfl⟩ s h
def W69_2 : List (Nat × List UInt8) := [(39, [111, 110, 108, 121]), (40, [114, 101, 116, 117, 114, 110, 105, 110, 103]), (41, [119, 105, 110, 100, 111, 119]), (42, [102, 111, 114]), (43, [102, 101, 116, 99, 104]), (44, [119, 104, 101, 110]), (45, [116, 104, 101, 110]), (46, [119, 105, 116, 104]), (47, [116, 97, 98, 108, 101])]
@[go_sem] theorem w69_2 (s : Slots) (H : AHeap) (Q : QT) (h : isStr (s 3) = true) : C (cxV E) (sw 3 38 W69_2) s H Q = Q .nrm (swS 38 (strOf (s 3)) W69_2 s) H := C_sw _ _ _ _ rfl h
@[go_sem] theorem w69_2d (v : List UInt8) (s : Slots) : swS 38 v W69_2 s 38 = .bool ((W69_2.map (·.2)).contains v) := swS_d _ _ (by unfold W69_2; exact List.cons_ne_nil _ _)
@[go_sem] theorem w69_2o (v : List UInt8) (s : Slots) (t : Nat) (h : t < 38 ∨ 48 ≤ t) : swS 38 v W69_2 s t = s t := swS_out (lo := 38) (hi := 48) rfl ⟨Nat.le_of_ble_eq_true rfl, Nat.le_of_ble_eq_true rfl⟩ s h
noncomputable def K69 : AC := .seq (.reg [⟨some 2, none, .assign (.const (.bool false))⟩])
 (.seq (.seq (.reg [⟨some 3, none, .move (.tmp 0)⟩])
 (.block 0 (.seq (sw 3 4 W69_0)
 (.cond (.tmp 4) (.seq (.reg [⟨some 2, none, .assign (.const (.bool true))⟩])
 (.ret)) (.seq (sw 3 19 W69_1)
 (.cond (.tmp 19) (.seq (.reg [⟨some 2, none, .assign (.const (.bool true))⟩])
 (.ret)) (.seq (sw 3 38 W69_2)
 (.cond (.tmp 38) (.seq (.reg [⟨some 2, none, .assign (.const (.bool true))⟩])
 (.ret)) (.skip)))))))))
 (.seq (.reg [⟨some 2, none, .assign (.const (.bool false))⟩])
 (.ret)))
theorem k69 : codeAt Try.prog 69 = some (K69, #[.tmp 2], 48) := by kernel_rfl
/-- pontoon/pontoonref07.keys -/
noncomputable def K70 : AC := .seq (.reg [⟨some 0, none, .assign (.const (.slice none 0 0))⟩])
 (.seq (.reg [⟨some 1, none, .buildSlice 26 41 #[(0, .const (.string ⟨⟨[115, 101, 108, 101, 99, 116]⟩⟩)), (1, .const (.string ⟨⟨[102, 114, 111, 109]⟩⟩)), (2, .const (.string ⟨⟨[119, 104, 101, 114, 101]⟩⟩)), (3, .const (.string ⟨⟨[106, 111, 105, 110]⟩⟩)), (4, .const (.string ⟨⟨[111, 110]⟩⟩)), (5, .const (.string ⟨⟨[117, 115, 105, 110, 103]⟩⟩)), (6, .const (.string ⟨⟨[103, 114, 111, 117, 112]⟩⟩)), (7, .const (.string ⟨⟨[111, 114, 100, 101, 114]⟩⟩)), (8, .const (.string ⟨⟨[104, 97, 118, 105, 110, 103]⟩⟩)), (9, .const (.string ⟨⟨[108, 105, 109, 105, 116]⟩⟩)), (10, .const (.string ⟨⟨[111, 102, 102, 115, 101, 116]⟩⟩)), (11, .const (.string ⟨⟨[117, 110, 105, 111, 110]⟩⟩)), (12, .const (.string ⟨⟨[101, 120, 99, 101, 112, 116]⟩⟩)), (13, .const (.string ⟨⟨[105, 110, 116, 101, 114, 115, 101, 99, 116]⟩⟩)), (14, .const (.string ⟨⟨[97, 115]⟩⟩)), (15, .const (.string ⟨⟨[97, 110, 100]⟩⟩)), (16, .const (.string ⟨⟨[111, 114]⟩⟩)), (17, .const (.string ⟨⟨[110, 111, 116]⟩⟩)), (18, .const (.string ⟨⟨[105, 110]⟩⟩)), (19, .const (.string ⟨⟨[105, 115]⟩⟩)), (20, .const (.string ⟨⟨[110, 117, 108, 108]⟩⟩)), (21, .const (.string ⟨⟨[118, 97, 108, 117, 101, 115]⟩⟩)), (22, .const (.string ⟨⟨[115, 101, 116]⟩⟩)), (23, .const (.string ⟨⟨[105, 110, 116, 111]⟩⟩)), (24, .const (.string ⟨⟨[105, 110, 110, 101, 114]⟩⟩)), (25, .const (.string ⟨⟨[108, 101, 102, 116]⟩⟩)), (26, .const (.string ⟨⟨[114, 105, 103, 104, 116]⟩⟩)), (27, .const (.string ⟨⟨[102, 117, 108, 108]⟩⟩)), (28, .const (.string ⟨⟨[111, 117, 116, 101, 114]⟩⟩)), (29, .const (.string ⟨⟨[99, 114, 111, 115, 115]⟩⟩)), (30, .const (.string ⟨⟨[110, 97, 116, 117, 114, 97, 108]⟩⟩)), (31, .const (.string ⟨⟨[108, 97, 116, 101, 114, 97, 108]⟩⟩)), (32, .const (.string ⟨⟨[111, 110, 108, 121]⟩⟩)), (33, .const (.string ⟨⟨[114, 101, 116, 117, 114, 110, 105, 110, 103]⟩⟩)), (34, .const (.string ⟨⟨[119, 105, 110, 100, 111, 119]⟩⟩)), (35, .const (.string ⟨⟨[102, 111, 114]⟩⟩)), (36, .const (.string ⟨⟨[102, 101, 116, 99, 104]⟩⟩)), (37, .const (.string ⟨⟨[119, 104, 101, 110]⟩⟩)), (38, .const (.string ⟨⟨[116, 104, 101, 110]⟩⟩)), (39, .const (.string ⟨⟨[119, 105, 116, 104]⟩⟩)), (40, .const (.string ⟨⟨[116, 97, 98, 108, 101]⟩⟩))]⟩,
  ⟨some 0, none, .assign (.tmp 1)⟩])
 (.ret))
theorem k70 : codeAt Try.prog 70 = some (K70, #[.tmp 0], 2) := by kernel_rfl
/-- pontoon/class.writes -/
def W71_0 : List (Nat × List UInt8) := [(19, [105, 110, 115, 101, 114, 116]), (20, [100, 101, 108, 101, 116, 101]), (21, [109, 101, 114, 103, 101]), (22, [105, 110, 116, 111])]
@[go_sem] theorem w71_0 (s : Slots) (H : AHeap) (Q : QT) (h : isStr (s 15) = true) : C (cxV E) (sw 15 18 W71_0) s H Q = Q .nrm (swS 18 (strOf (s 15)) W71_0 s) H := C_sw _ _ _ _ rfl h
@[go_sem] theorem w71_0d (v : List UInt8) (s : Slots) : swS 18 v W71_0 s 18 = .bool ((W71_0.map (·.2)).contains v) := swS_d _ _ (by unfold W71_0; exact List.cons_ne_nil _ _)
@[go_sem] theorem w71_0o (v : List UInt8) (s : Slots) (t : Nat) (h : t < 18 ∨ 23 ≤ t) : swS 18 v W71_0 s t = s t := swS_out (lo := 18) (hi := 23) rfl ⟨Nat.le_of_ble_eq_true rfl, Nat.le_of_ble_eq_true rfl⟩ s h
noncomputable def L71_0 : AC := .seq (.reg [⟨some 11, none, .binOp .lss 3 (.tmp 10) (.tmp 9) 3⟩])
 (.seq (.cond (.tmp 11) (.skip) (.exit 0))
 (.seq (.block 1 (.seq (.reg [⟨some 12, none, .move (.tmp 10)⟩,
  ⟨some 13, none, .indexAddr 26 (.tmp 8) (.tmp 10)⟩,
  ⟨some 14, none, .load 9 (.tmp 13)⟩,
  ⟨some 4, none, .assign (.tmp 12)⟩,
  ⟨some 5, none, .assign (.tmp 14)⟩])
 (.seq (.reg [⟨some 15, none, .move (.tmp 5)⟩])
 (.block 2 (.seq (.block 4 (.seq (.block 3 (.seq (.seq (.seq (.reg [⟨some 17, none, .binOp .eql 9 (.tmp 15) (.const (.string ⟨⟨[117, 112, 100, 97, 116, 101]⟩⟩)) 9⟩,
  ⟨some 16, none, .assign (.tmp 17)⟩])
 (.cond (.tmp 16) (.exit 3) (.skip)))
 (.seq (sw 15 18 W71_0)
 (.cond (.tmp 18) (.exit 4) (.skip))))
 (.exit 2)))
 (.seq (.reg [⟨some 23, none, .move (.tmp 4)⟩,
  ⟨some 24, none, .binOp .gtr 3 (.tmp 23) (.const (.int .i64 0)) 3⟩,
  ⟨some 25, none, .move (.tmp 24)⟩,
  ⟨some 26, some (25, true), .move (.tmp 3)⟩,
  ⟨some 27, some (25, true), .move (.tmp 4)⟩,
  ⟨some 28, some (25, true), .binOp .sub 3 (.tmp 27) (.const (.int .i64 1)) 3⟩,
  ⟨some 29, some (25, true), .indexAddr 26 (.tmp 26) (.tmp 28)⟩,
  ⟨some 30, some (25, true), .load 9 (.tmp 29)⟩,
  ⟨some 31, some (25, true), .binOp .eql 9 (.tmp 30) (.const (.string ⟨⟨[102, 111, 114]⟩⟩)) 9⟩,
  ⟨some 32, none, .pick (.tmp 25) (.tmp 31) (.const (.bool false))⟩])
 (.cond (.tmp 32) (.exit 1) (.skip)))))
 (.seq (.seq (.reg [⟨some 2, none, .assign (.const (.bool true))⟩])
 (.ret))
 (.exit 2)))))))
 (.reg [⟨some 33, none, .binOp .add 3 (.tmp 10) (.const (.int .i64 1)) 3⟩,
  ⟨some 10, none, .move (.tmp 33)⟩])))
noncomputable def K71 : AC := .seq (.reg [⟨some 2, none, .assign (.const (.bool false))⟩])
 (.seq (.reg [⟨some 6, none, .move (.tmp 0)⟩,
  ⟨some 7, none, .call { callee := .value (.func 47), args := #[.tmp 6], argTypes := #[22] }⟩,
  ⟨some 3, none, .assign (.tmp 7)⟩])
 (.seq (.seq (.reg [⟨some 8, none, .move (.tmp 3)⟩,
  ⟨some 9, none, .call { callee := .builtin .len, args := #[.tmp 8], argTypes := #[26] }⟩,
  ⟨some 10, none, .move (.const (.int .i64 0))⟩])
 (.block 0 (.loop L71_0)))
 (.seq (.reg [⟨some 2, none, .assign (.const (.bool false))⟩])
 (.ret))))
theorem k71 : codeAt Try.prog 71 = some (K71, #[.tmp 2], 34) := by kernel_rfl
/-- pontoon/class.Locks -/
noncomputable def L72_0 : AC := .seq (.seq (.reg [⟨some 7, none, .move (.tmp 4)⟩,
  ⟨some 8, none, .move (.tmp 3)⟩,
  ⟨some 9, none, .call { callee := .builtin .len, args := #[.tmp 8], argTypes := #[26] }⟩,
  ⟨some 10, none, .binOp .lss 3 (.tmp 7) (.tmp 9) 3⟩])
 (.cond (.tmp 10) (.skip) (.exit 0)))
 (.seq (.block 1 (.seq (.reg [⟨some 13, none, .move (.tmp 3)⟩,
  ⟨some 14, none, .move (.tmp 4)⟩,
  ⟨some 15, none, .binOp .sub 3 (.tmp 14) (.const (.int .i64 1)) 3⟩,
  ⟨some 16, none, .indexAddr 26 (.tmp 13) (.tmp 15)⟩,
  ⟨some 17, none, .load 9 (.tmp 16)⟩,
  ⟨some 18, none, .binOp .eql 9 (.tmp 17) (.const (.string ⟨⟨[102, 111, 114]⟩⟩)) 9⟩,
  ⟨some 19, none, .move (.tmp 18)⟩,
  ⟨some 20, some (19, true), .move (.tmp 3)⟩,
  ⟨some 21, some (19, true), .move (.tmp 4)⟩,
  ⟨some 22, some (19, true), .indexAddr 26 (.tmp 20) (.tmp 21)⟩,
  ⟨some 23, some (19, true), .load 9 (.tmp 22)⟩,
  ⟨some 24, some (19, true), .buildSlice 26 4 #[(0, .const (.string ⟨⟨[117, 112, 100, 97, 116, 101]⟩⟩)), (1, .const (.string ⟨⟨[115, 104, 97, 114, 101]⟩⟩)), (2, .const (.string ⟨⟨[110, 111]⟩⟩)), (3, .const (.string ⟨⟨[107, 101, 121]⟩⟩))]⟩,
  ⟨some 25, some (19, true), .call { callee := .value (.func 49), args := #[.tmp 23, .tmp 24], argTypes := #[9, 26] }⟩,
  ⟨some 26, none, .pick (.tmp 19) (.tmp 25) (.const (.bool false))⟩])
 (.cond (.tmp 26) (.seq (.reg [⟨some 2, none, .assign (.const (.bool true))⟩])
 (.ret)) (.skip))))
 (.reg [⟨some 11, none, .move (.tmp 4)⟩,
  ⟨some 12, none, .binOp .add 3 (.tmp 11) (.const (.int .i64 1)) 3⟩,
  ⟨some 4, none, .assign (.tmp 12)⟩]))
noncomputable def K72 : AC := .seq (.reg [⟨some 2, none, .assign (.const (.bool false))⟩])
 (.seq (.reg [⟨some 5, none, .move (.tmp 0)⟩,
  ⟨some 6, none, .call { callee := .value (.func 47), args := #[.tmp 5], argTypes := #[22] }⟩,
  ⟨some 3, none, .assign (.tmp 6)⟩])
 (.seq (.seq (.reg [⟨some 4, none, .assign (.const (.int .i64 1))⟩])
 (.block 0 (.loop L72_0)))
 (.seq (.reg [⟨some 2, none, .assign (.const (.bool false))⟩])
 (.ret))))
theorem k72 : codeAt Try.prog 72 = some (K72, #[.tmp 2], 27) := by kernel_rfl
/-- pontoon/class.calls -/
noncomputable def L73_0 : AC := .seq (.seq (.reg [⟨some 6, none, .move (.tmp 5)⟩,
  ⟨some 7, none, .move (.tmp 0)⟩,
  ⟨some 8, none, .call { callee := .builtin .len, args := #[.tmp 7], argTypes := #[22] }⟩,
  ⟨some 9, none, .binOp .lss 3 (.tmp 6) (.tmp 8) 3⟩])
 (.cond (.tmp 9) (.skip) (.exit 0)))
 (.seq (.block 1 (.seq (.reg [⟨some 12, none, .move (.tmp 0)⟩,
  ⟨some 13, none, .move (.tmp 5)⟩,
  ⟨some 14, none, .indexAddr 22 (.tmp 12) (.tmp 13)⟩,
  ⟨some 15, none, .fieldAddr 40 (.tmp 14) 0⟩,
  ⟨some 16, none, .load 3 (.tmp 15)⟩,
  ⟨some 17, none, .binOp .eql 3 (.tmp 16) (.const (.int .i64 5)) 3⟩,
  ⟨some 18, none, .move (.tmp 17)⟩,
  ⟨some 19, some (18, true), .move (.tmp 0)⟩,
  ⟨some 20, some (18, true), .move (.tmp 5)⟩,
  ⟨some 21, some (18, true), .indexAddr 22 (.tmp 19) (.tmp 20)⟩,
  ⟨some 22, some (18, true), .fieldAddr 40 (.tmp 21) 1⟩,
  ⟨some 23, some (18, true), .load 9 (.tmp 22)⟩,
  ⟨some 24, some (18, true), .binOp .eql 9 (.tmp 23) (.const (.string ⟨⟨[40]⟩⟩)) 9⟩,
  ⟨some 25, none, .pick (.tmp 18) (.tmp 24) (.const (.bool false))⟩,
  ⟨some 26, none, .move (.tmp 25)⟩,
  ⟨some 27, some (26, true), .move (.tmp 0)⟩,
  ⟨some 28, some (26, true), .move (.tmp 5)⟩,
  ⟨some 29, some (26, true), .binOp .sub 3 (.tmp 28) (.const (.int .i64 1)) 3⟩,
  ⟨some 30, some (26, true), .indexAddr 22 (.tmp 27) (.tmp 29)⟩,
  ⟨some 31, some (26, true), .fieldAddr 40 (.tmp 30) 0⟩,
  ⟨some 32, some (26, true), .load 3 (.tmp 31)⟩,
  ⟨some 33, some (26, true), .binOp .eql 3 (.tmp 32) (.const (.int .i64 1)) 3⟩,
  ⟨some 34, none, .pick (.tmp 26) (.tmp 33) (.const (.bool false))⟩,
  ⟨some 35, none, .move (.tmp 34)⟩,
  ⟨some 36, some (35, true), .move (.tmp 1)⟩,
  ⟨some 37, some (35, true), .move (.tmp 0)⟩,
  ⟨some 38, some (35, true), .move (.tmp 5)⟩,
  ⟨some 39, some (35, true), .binOp .sub 3 (.tmp 38) (.const (.int .i64 1)) 3⟩,
  ⟨some 40, some (35, true), .indexAddr 22 (.tmp 37) (.tmp 39)⟩,
  ⟨some 41, some (35, true), .fieldAddr 40 (.tmp 40) 1⟩,
  ⟨some 42, some (35, true), .load 9 (.tmp 41)⟩,
  ⟨some 43, some (35, true), .call { callee := .value (.tmp 36), args := #[.tmp 42], argTypes := #[9] }⟩,
  ⟨some 44, none, .pick (.tmp 35) (.tmp 43) (.const (.bool false))⟩])
 (.cond (.tmp 44) (.seq (.reg [⟨some 4, none, .assign (.const (.bool true))⟩])
 (.ret)) (.skip))))
 (.reg [⟨some 10, none, .move (.tmp 5)⟩,
  ⟨some 11, none, .binOp .add 3 (.tmp 10) (.const (.int .i64 1)) 3⟩,
  ⟨some 5, none, .assign (.tmp 11)⟩]))
noncomputable def K73 : AC := .seq (.reg [⟨some 4, none, .assign (.const (.bool false))⟩])
 (.seq (.seq (.reg [⟨some 5, none, .assign (.const (.int .i64 1))⟩])
 (.block 0 (.loop L73_0)))
 (.seq (.reg [⟨some 4, none, .assign (.const (.bool false))⟩])
 (.ret)))
theorem k73 : codeAt Try.prog 73 = some (K73, #[.tmp 4], 45) := by kernel_rfl
/-- pontoon/class.changing -/
noncomputable def K74 : AC := .seq (.reg [⟨some 2, none, .assign (.const (.bool false))⟩])
 (.seq (.seq (.reg [⟨some 3, none, .move (.tmp 0)⟩,
  ⟨some 4, none, .call { callee := .builtin .len, args := #[.tmp 3], argTypes := #[9] }⟩,
  ⟨some 5, none, .binOp .geq 3 (.tmp 4) (.const (.int .i64 3)) 3⟩,
  ⟨some 6, none, .move (.tmp 5)⟩,
  ⟨some 7, some (6, true), .move (.tmp 0)⟩,
  ⟨some 8, some (6, true), .slice 9 (.tmp 7) none (some (.const (.int .i64 3))) none⟩,
  ⟨some 9, some (6, true), .binOp .eql 9 (.tmp 8) (.const (.string ⟨⟨[112, 103, 95]⟩⟩)) 9⟩,
  ⟨some 10, none, .pick (.tmp 6) (.tmp 9) (.const (.bool false))⟩])
 (.cond (.tmp 10) (.seq (.reg [⟨some 2, none, .assign (.const (.bool true))⟩])
 (.ret)) (.skip)))
 (.seq (.reg [⟨some 11, none, .move (.tmp 0)⟩,
  ⟨some 12, none, .buildSlice 26 8 #[(0, .const (.string ⟨⟨[110, 111, 119]⟩⟩)), (1, .const (.string ⟨⟨[114, 97, 110, 100, 111, 109]⟩⟩)), (2, .const (.string ⟨⟨[110, 101, 120, 116, 118, 97, 108]⟩⟩)), (3, .const (.string ⟨⟨[99, 117, 114, 114, 118, 97, 108]⟩⟩)), (4, .const (.string ⟨⟨[115, 101, 116, 118, 97, 108]⟩⟩)), (5, .const (.string ⟨⟨[108, 97, 115, 116, 118, 97, 108]⟩⟩)), (6, .const (.string ⟨⟨[99, 108, 111, 99, 107, 95, 116, 105, 109, 101, 115, 116, 97, 109, 112]⟩⟩)), (7, .const (.string ⟨⟨[116, 120, 105, 100, 95, 99, 117, 114, 114, 101, 110, 116]⟩⟩))]⟩,
  ⟨some 13, none, .call { callee := .value (.func 49), args := #[.tmp 11, .tmp 12], argTypes := #[9, 26] }⟩,
  ⟨some 2, none, .assign (.tmp 13)⟩])
 (.ret)))
theorem k74 : codeAt Try.prog 74 = some (K74, #[.tmp 2], 14) := by kernel_rfl
/-- pontoon/norm.number$1 -/
noncomputable def L75_0 : AC := .seq (.seq (.reg [⟨some 4, none, .move (.tmp 0)⟩,
  ⟨some 5, none, .call { callee := .value (.tmp 4), args := #[], argTypes := #[] }⟩])
 (.cond (.tmp 5) (.skip) (.exit 0)))
 (.block 1 (.reg [⟨some 6, none, .move (.tmp 1)⟩,
  ⟨some 7, none, .call { callee := .value (.tmp 6), args := #[], argTypes := #[] }⟩]))
noncomputable def K75 : AC := .block 0 (.loop L75_0)
theorem k75 : codeAt Try.prog 75 = some (K75, #[], 8) := by kernel_rfl
/-- pontoon/norm.number$2 -/
noncomputable def K76 : AC := .seq (.reg [⟨some 1, none, .assign (.const (.bool false))⟩])
 (.seq (.reg [⟨some 2, none, .load 9 (.tmp 0)⟩,
  ⟨some 3, none, .call { callee := .builtin .len, args := #[.tmp 2], argTypes := #[9] }⟩,
  ⟨some 4, none, .binOp .gtr 3 (.tmp 3) (.const (.int .i64 1)) 3⟩,
  ⟨some 5, none, .move (.tmp 4)⟩,
  ⟨some 6, some (5, true), .load 9 (.tmp 0)⟩,
  ⟨some 7, some (5, true), .index 9 (.tmp 6) (.const (.int .i64 0))⟩,
  ⟨some 8, some (5, true), .binOp .eql 5 (.tmp 7) (.const (.int .u8 48)) 5⟩,
  ⟨some 9, none, .pick (.tmp 5) (.tmp 8) (.const (.bool false))⟩,
  ⟨some 10, none, .move (.tmp 9)⟩,
  ⟨some 11, some (10, true), .load 9 (.tmp 0)⟩,
  ⟨some 12, some (10, true), .index 9 (.tmp 11) (.const (.int .i64 1))⟩,
  ⟨some 13, some (10, true), .binOp .neq 5 (.tmp 12) (.const (.int .u8 46)) 5⟩,
  ⟨some 14, none, .pick (.tmp 10) (.tmp 13) (.const (.bool false))⟩,
  ⟨some 1, none, .assign (.tmp 14)⟩])
 (.ret))
theorem k76 : codeAt Try.prog 76 = some (K76, #[.tmp 1], 15) := by kernel_rfl
/-- pontoon/norm.number$3 -/
noncomputable def K77 : AC := .reg [⟨some 1, none, .load 9 (.tmp 0)⟩,
  ⟨some 2, none, .slice 9 (.tmp 1) (some (.const (.int .i64 1))) none none⟩,
  ⟨none, none, .store 9 (.tmp 0) (.tmp 2)⟩]
theorem k77 : codeAt Try.prog 77 = some (K77, #[], 3) := by kernel_rfl
/-- pontoon/norm.number$4 -/
noncomputable def K78 : AC := .reg [⟨some 1, none, .load 9 (.tmp 0)⟩,
  ⟨some 2, none, .load 9 (.tmp 0)⟩,
  ⟨some 3, none, .call { callee := .builtin .len, args := #[.tmp 2], argTypes := #[9] }⟩,
  ⟨some 4, none, .binOp .sub 3 (.tmp 3) (.const (.int .i64 1)) 3⟩,
  ⟨some 5, none, .slice 9 (.tmp 1) none (some (.tmp 4)) none⟩,
  ⟨none, none, .store 9 (.tmp 0) (.tmp 5)⟩]
theorem k78 : codeAt Try.prog 78 = some (K78, #[], 6) := by kernel_rfl
/-- pontoon/norm.number$5 -/
noncomputable def K79 : AC := .seq (.reg [⟨some 1, none, .assign (.const (.bool false))⟩])
 (.seq (.reg [⟨some 2, none, .load 9 (.tmp 0)⟩,
  ⟨some 3, none, .load 9 (.tmp 0)⟩,
  ⟨some 4, none, .call { callee := .builtin .len, args := #[.tmp 3], argTypes := #[9] }⟩,
  ⟨some 5, none, .binOp .sub 3 (.tmp 4) (.const (.int .i64 1)) 3⟩,
  ⟨some 6, none, .index 9 (.tmp 2) (.tmp 5)⟩,
  ⟨some 7, none, .binOp .eql 5 (.tmp 6) (.const (.int .u8 48)) 5⟩,
  ⟨some 1, none, .assign (.tmp 7)⟩])
 (.ret))
theorem k79 : codeAt Try.prog 79 = some (K79, #[.tmp 1], 8) := by kernel_rfl
/-- pontoon/lexer.double -/
noncomputable def L80_0 : AC := .seq (.reg [⟨some 12, none, .binOp .lss 3 (.tmp 11) (.tmp 10) 3⟩])
 (.seq (.cond (.tmp 12) (.skip) (.exit 0))
 (.seq (.block 1 (.seq (.reg [⟨some 13, none, .move (.tmp 11)⟩,
  ⟨some 6, none, .assign (.tmp 13)⟩])
 (.seq (.seq (.reg [⟨some 14, none, .move (.tmp 0)⟩,
  ⟨some 15, none, .move (.tmp 6)⟩,
  ⟨some 16, none, .index 9 (.tmp 14) (.tmp 15)⟩,
  ⟨some 17, none, .move (.tmp 1)⟩,
  ⟨some 18, none, .binOp .eql 5 (.tmp 16) (.tmp 17) 5⟩])
 (.cond (.tmp 18) (.reg [⟨some 19, none, .move (.tmp 5)⟩,
  ⟨some 20, none, .move (.tmp 1)⟩,
  ⟨some 21, none, .buildSlice 88 1 #[(0, .tmp 20)]⟩,
  ⟨some 22, none, .call { callee := .builtin .append, args := #[.tmp 19, .tmp 21], argTypes := #[88, 88] }⟩,
  ⟨some 5, none, .assign (.tmp 22)⟩]) (.skip)))
 (.reg [⟨some 23, none, .move (.tmp 5)⟩,
  ⟨some 24, none, .move (.tmp 0)⟩,
  ⟨some 25, none, .move (.tmp 6)⟩,
  ⟨some 26, none, .index 9 (.tmp 24) (.tmp 25)⟩,
  ⟨some 27, none, .buildSlice 88 1 #[(0, .tmp 26)]⟩,
  ⟨some 28, none, .call { callee := .builtin .append, args := #[.tmp 23, .tmp 27], argTypes := #[88, 88] }⟩,
  ⟨some 5, none, .assign (.tmp 28)⟩]))))
 (.reg [⟨some 29, none, .binOp .add 3 (.tmp 11) (.const (.int .i64 1)) 3⟩,
  ⟨some 11, none, .move (.tmp 29)⟩])))
noncomputable def K80 : AC := .seq (.reg [⟨some 4, none, .assign (.const (.string ⟨⟨[]⟩⟩))⟩])
 (.seq (.reg [⟨some 7, none, .move (.tmp 1)⟩,
  ⟨some 8, none, .buildSlice 88 1 #[(0, .tmp 7)]⟩,
  ⟨some 5, none, .assign (.tmp 8)⟩])
 (.seq (.seq (.reg [⟨some 9, none, .move (.tmp 0)⟩,
  ⟨some 10, none, .call { callee := .builtin .len, args := #[.tmp 9], argTypes := #[9] }⟩,
  ⟨some 11, none, .move (.const (.int .i64 0))⟩])
 (.block 0 (.loop L80_0)))
 (.seq (.reg [⟨some 30, none, .move (.tmp 5)⟩,
  ⟨some 31, none, .move (.tmp 1)⟩,
  ⟨some 32, none, .buildSlice 88 1 #[(0, .tmp 31)]⟩,
  ⟨some 33, none, .call { callee := .builtin .append, args := #[.tmp 30, .tmp 32], argTypes := #[88, 88] }⟩,
  ⟨some 34, none, .convert 88 9 (.tmp 33)⟩,
  ⟨some 4, none, .assign (.tmp 34)⟩])
 (.ret))))
theorem k80 : codeAt Try.prog 80 = some (K80, #[.tmp 4], 35) := by kernel_rfl
/-- pontoon/pontoonref06.in -/
noncomputable def L81_0 : AC := .seq (.seq (.reg [⟨some 6, none, .move (.tmp 5)⟩,
  ⟨some 7, none, .move (.tmp 0)⟩,
  ⟨some 8, none, .call { callee := .builtin .len, args := #[.tmp 7], argTypes := #[26] }⟩,
  ⟨some 9, none, .binOp .lss 3 (.tmp 6) (.tmp 8) 3⟩])
 (.cond (.tmp 9) (.skip) (.exit 0)))
 (.seq (.block 1 (.seq (.reg [⟨some 12, none, .move (.tmp 0)⟩,
  ⟨some 13, none, .move (.tmp 5)⟩,
  ⟨some 14, none, .indexAddr 26 (.tmp 12) (.tmp 13)⟩,
  ⟨some 15, none, .load 9 (.tmp 14)⟩,
  ⟨some 16, none, .move (.tmp 1)⟩,
  ⟨some 17, none, .binOp .eql 9 (.tmp 15) (.tmp 16) 9⟩])
 (.cond (.tmp 17) (.seq (.reg [⟨some 4, none, .assign (.const (.bool true))⟩])
 (.ret)) (.skip))))
 (.reg [⟨some 10, none, .move (.tmp 5)⟩,
  ⟨some 11, none, .binOp .add 3 (.tmp 10) (.const (.int .i64 1)) 3⟩,
  ⟨some 5, none, .assign (.tmp 11)⟩]))
noncomputable def K81 : AC := .seq (.reg [⟨some 4, none, .assign (.const (.bool false))⟩])
 (.seq (.seq (.reg [⟨some 5, none, .assign (.const (.int .i64 0))⟩])
 (.block 0 (.loop L81_0)))
 (.seq (.reg [⟨some 4, none, .assign (.const (.bool false))⟩])
 (.ret)))
theorem k81 : codeAt Try.prog 81 = some (K81, #[.tmp 4], 18) := by kernel_rfl
/-- pontoon/pontoonref06.called -/
noncomputable def K82 : AC := .seq (.reg [⟨some 4, none, .assign (.const (.bool false))⟩])
 (.seq (.reg [⟨some 5, none, .move (.tmp 0)⟩,
  ⟨some 6, none, .move (.tmp 1)⟩,
  ⟨some 7, none, .indexAddr 22 (.tmp 5) (.tmp 6)⟩,
  ⟨some 8, none, .fieldAddr 40 (.tmp 7) 0⟩,
  ⟨some 9, none, .load 3 (.tmp 8)⟩,
  ⟨some 10, none, .binOp .eql 3 (.tmp 9) (.const (.int .i64 1)) 3⟩,
  ⟨some 11, none, .move (.tmp 10)⟩,
  ⟨some 12, some (11, true), .move (.tmp 1)⟩,
  ⟨some 13, some (11, true), .binOp .add 3 (.tmp 12) (.const (.int .i64 1)) 3⟩,
  ⟨some 14, some (11, true), .move (.tmp 0)⟩,
  ⟨some 15, some (11, true), .call { callee := .builtin .len, args := #[.tmp 14], argTypes := #[22] }⟩,
  ⟨some 16, some (11, true), .binOp .lss 3 (.tmp 13) (.tmp 15) 3⟩,
  ⟨some 17, none, .pick (.tmp 11) (.tmp 16) (.const (.bool false))⟩,
  ⟨some 18, none, .move (.tmp 17)⟩,
  ⟨some 19, some (18, true), .move (.tmp 0)⟩,
  ⟨some 20, some (18, true), .move (.tmp 1)⟩,
  ⟨some 21, some (18, true), .binOp .add 3 (.tmp 20) (.const (.int .i64 1)) 3⟩,
  ⟨some 22, some (18, true), .indexAddr 22 (.tmp 19) (.tmp 21)⟩,
  ⟨some 23, some (18, true), .fieldAddr 40 (.tmp 22) 0⟩,
  ⟨some 24, some (18, true), .load 3 (.tmp 23)⟩,
  ⟨some 25, some (18, true), .binOp .eql 3 (.tmp 24) (.const (.int .i64 5)) 3⟩,
  ⟨some 26, none, .pick (.tmp 18) (.tmp 25) (.const (.bool false))⟩,
  ⟨some 27, none, .move (.tmp 26)⟩,
  ⟨some 28, some (27, true), .move (.tmp 0)⟩,
  ⟨some 29, some (27, true), .move (.tmp 1)⟩,
  ⟨some 30, some (27, true), .binOp .add 3 (.tmp 29) (.const (.int .i64 1)) 3⟩,
  ⟨some 31, some (27, true), .indexAddr 22 (.tmp 28) (.tmp 30)⟩,
  ⟨some 32, some (27, true), .fieldAddr 40 (.tmp 31) 1⟩,
  ⟨some 33, some (27, true), .load 9 (.tmp 32)⟩,
  ⟨some 34, some (27, true), .binOp .eql 9 (.tmp 33) (.const (.string ⟨⟨[40]⟩⟩)) 9⟩,
  ⟨some 35, none, .pick (.tmp 27) (.tmp 34) (.const (.bool false))⟩,
  ⟨some 4, none, .assign (.tmp 35)⟩])
 (.ret))
theorem k82 : codeAt Try.prog 82 = some (K82, #[.tmp 4], 36) := by kernel_rfl
/-- pontoon/pontoonref05.points -/
noncomputable def L83_0 : AC := .seq (.seq (.reg [⟨some 5, none, .move (.tmp 4)⟩,
  ⟨some 6, none, .move (.tmp 0)⟩,
  ⟨some 7, none, .call { callee := .builtin .len, args := #[.tmp 6], argTypes := #[9] }⟩,
  ⟨some 8, none, .binOp .lss 3 (.tmp 5) (.tmp 7) 3⟩])
 (.cond (.tmp 8) (.skip) (.exit 0)))
 (.seq (.block 1 (.seq (.reg [⟨some 11, none, .move (.tmp 0)⟩,
  ⟨some 12, none, .move (.tmp 4)⟩,
  ⟨some 13, none, .index 9 (.tmp 11) (.tmp 12)⟩,
  ⟨some 14, none, .binOp .eql 5 (.tmp 13) (.const (.int .u8 46)) 5⟩])
 (.cond (.tmp 14) (.reg [⟨some 15, none, .move (.tmp 3)⟩,
  ⟨some 16, none, .binOp .add 3 (.tmp 15) (.const (.int .i64 1)) 3⟩,
  ⟨some 3, none, .assign (.tmp 16)⟩]) (.skip))))
 (.reg [⟨some 9, none, .move (.tmp 4)⟩,
  ⟨some 10, none, .binOp .add 3 (.tmp 9) (.const (.int .i64 1)) 3⟩,
  ⟨some 4, none, .assign (.tmp 10)⟩]))
noncomputable def K83 : AC := .seq (.reg [⟨some 2, none, .assign (.const (.int .i64 0))⟩])
 (.seq (.reg [⟨some 3, none, .assign (.const (.int .i64 0))⟩])
 (.seq (.seq (.reg [⟨some 4, none, .assign (.const (.int .i64 0))⟩])
 (.block 0 (.loop L83_0)))
 (.seq (.reg [⟨some 17, none, .move (.tmp 3)⟩,
  ⟨some 2, none, .assign (.tmp 17)⟩])
 (.ret))))
theorem k83 : codeAt Try.prog 83 = some (K83, #[.tmp 2], 18) := by kernel_rfl
/-- pontoon/pontoonref04.double -/
noncomputable def L84_0 : AC := .seq (.seq (.reg [⟨some 8, none, .move (.tmp 6)⟩,
  ⟨some 9, none, .move (.tmp 0)⟩,
  ⟨some 10, none, .call { callee := .builtin .len, args := #[.tmp 9], argTypes := #[9] }⟩,
  ⟨some 11, none, .binOp .lss 3 (.tmp 8) (.tmp 10) 3⟩])
 (.cond (.tmp 11) (.skip) (.exit 0)))
 (.seq (.block 1 (.seq (.seq (.reg [⟨some 14, none, .move (.tmp 0)⟩,
  ⟨some 15, none, .move (.tmp 6)⟩,
  ⟨some 16, none, .move (.tmp 6)⟩,
  ⟨some 17, none, .binOp .add 3 (.tmp 16) (.const (.int .i64 1)) 3⟩,
  ⟨some 18, none, .slice 9 (.tmp 14) (some (.tmp 15)) (some (.tmp 17)) none⟩,
  ⟨some 19, none, .move (.tmp 1)⟩,
  ⟨some 20, none, .binOp .eql 9 (.tmp 18) (.tmp 19) 9⟩])
 (.cond (.tmp 20) (.reg [⟨some 21, none, .move (.tmp 5)⟩,
  ⟨some 22, none, .move (.tmp 1)⟩,
  ⟨some 23, none, .binOp .add 9 (.tmp 21) (.tmp 22) 9⟩,
  ⟨some 5, none, .assign (.tmp 23)⟩]) (.skip)))
 (.reg [⟨some 24, none, .move (.tmp 5)⟩,
  ⟨some 25, none, .move (.tmp 0)⟩,
  ⟨some 26, none, .move (.tmp 6)⟩,
  ⟨some 27, none, .move (.tmp 6)⟩,
  ⟨some 28, none, .binOp .add 3 (.tmp 27) (.const (.int .i64 1)) 3⟩,
  ⟨some 29, none, .slice 9 (.tmp 25) (some (.tmp 26)) (some (.tmp 28)) none⟩,
  ⟨some 30, none, .binOp .add 9 (.tmp 24) (.tmp 29) 9⟩,
  ⟨some 5, none, .assign (.tmp 30)⟩])))
 (.reg [⟨some 12, none, .move (.tmp 6)⟩,
  ⟨some 13, none, .binOp .add 3 (.tmp 12) (.const (.int .i64 1)) 3⟩,
  ⟨some 6, none, .assign (.tmp 13)⟩]))
noncomputable def K84 : AC := .seq (.reg [⟨some 4, none, .assign (.const (.string ⟨⟨[]⟩⟩))⟩])
 (.seq (.reg [⟨some 7, none, .move (.tmp 1)⟩,
  ⟨some 5, none, .assign (.tmp 7)⟩])
 (.seq (.seq (.reg [⟨some 6, none, .assign (.const (.int .i64 0))⟩])
 (.block 0 (.loop L84_0)))
 (.seq (.reg [⟨some 31, none, .move (.tmp 5)⟩,
  ⟨some 32, none, .move (.tmp 1)⟩,
  ⟨some 33, none, .binOp .add 9 (.tmp 31) (.tmp 32) 9⟩,
  ⟨some 4, none, .assign (.tmp 33)⟩])
 (.ret))))
theorem k84 : codeAt Try.prog 84 = some (K84, #[.tmp 4], 34) := by kernel_rfl
/-- pontoon/lexer.letter -/
noncomputable def K85 : AC := .seq (.reg [⟨some 2, none, .assign (.const (.bool false))⟩])
 (.seq (.reg [⟨some 3, none, .move (.tmp 0)⟩,
  ⟨some 4, none, .binOp .geq 21 (.tmp 3) (.const (.int .i32 97)) 21⟩,
  ⟨some 5, none, .move (.tmp 4)⟩,
  ⟨some 6, some (5, true), .move (.tmp 0)⟩,
  ⟨some 7, some (5, true), .binOp .leq 21 (.tmp 6) (.const (.int .i32 122)) 21⟩,
  ⟨some 8, none, .pick (.tmp 5) (.tmp 7) (.const (.bool false))⟩,
  ⟨some 9, none, .move (.tmp 8)⟩,
  ⟨some 10, some (9, false), .move (.tmp 0)⟩,
  ⟨some 11, some (9, false), .binOp .geq 21 (.tmp 10) (.const (.int .i32 65)) 21⟩,
  ⟨some 12, some (9, false), .move (.tmp 11)⟩,
  ⟨some 13, some (12, true), .move (.tmp 0)⟩,
  ⟨some 14, some (12, true), .binOp .leq 21 (.tmp 13) (.const (.int .i32 90)) 21⟩,
  ⟨some 15, some (9, false), .pick (.tmp 12) (.tmp 14) (.const (.bool false))⟩,
  ⟨some 16, none, .pick (.tmp 9) (.const (.bool true)) (.tmp 15)⟩,
  ⟨some 17, none, .move (.tmp 16)⟩,
  ⟨some 18, some (17, false), .move (.tmp 0)⟩,
  ⟨some 19, some (17, false), .binOp .eql 21 (.tmp 18) (.const (.int .i32 95)) 21⟩,
  ⟨some 20, none, .pick (.tmp 17) (.const (.bool true)) (.tmp 19)⟩,
  ⟨some 21, none, .move (.tmp 20)⟩,
  ⟨some 22, some (21, false), .move (.tmp 0)⟩,
  ⟨some 23, some (21, false), .binOp .gtr 21 (.tmp 22) (.const (.int .i32 127)) 21⟩,
  ⟨some 24, none, .pick (.tmp 21) (.const (.bool true)) (.tmp 23)⟩,
  ⟨some 2, none, .assign (.tmp 24)⟩])
 (.ret))
theorem k85 : codeAt Try.prog 85 = some (K85, #[.tmp 2], 25) := by kernel_rfl
/-- pontoon/lexer.one$1 -/
noncomputable def K86 : AC := .seq (.reg [⟨some 2, none, .assign (.const (.bool false))⟩])
 (.seq (.reg [⟨some 3, none, .move (.tmp 0)⟩,
  ⟨some 4, none, .call { callee := .value (.func 85), args := #[.tmp 3], argTypes := #[21] }⟩,
  ⟨some 5, none, .move (.tmp 4)⟩,
  ⟨some 6, some (5, false), .move (.tmp 0)⟩,
  ⟨some 7, some (5, false), .call { callee := .value (.func 87), args := #[.tmp 6], argTypes := #[21] }⟩,
  ⟨some 8, none, .pick (.tmp 5) (.const (.bool true)) (.tmp 7)⟩,
  ⟨some 9, none, .move (.tmp 8)⟩,
  ⟨some 10, some (9, false), .move (.tmp 0)⟩,
  ⟨some 11, some (9, false), .binOp .eql 21 (.tmp 10) (.const (.int .i32 36)) 21⟩,
  ⟨some 12, none, .pick (.tmp 9) (.const (.bool true)) (.tmp 11)⟩,
  ⟨some 2, none, .assign (.tmp 12)⟩])
 (.ret))
theorem k86 : codeAt Try.prog 86 = some (K86, #[.tmp 2], 13) := by kernel_rfl
/-- pontoon/lexer.digit -/
noncomputable def K87 : AC := .seq (.reg [⟨some 2, none, .assign (.const (.bool false))⟩])
 (.seq (.reg [⟨some 3, none, .move (.tmp 0)⟩,
  ⟨some 4, none, .binOp .geq 21 (.tmp 3) (.const (.int .i32 48)) 21⟩,
  ⟨some 5, none, .move (.tmp 4)⟩,
  ⟨some 6, some (5, true), .move (.tmp 0)⟩,
  ⟨some 7, some (5, true), .binOp .leq 21 (.tmp 6) (.const (.int .i32 57)) 21⟩,
  ⟨some 8, none, .pick (.tmp 5) (.tmp 7) (.const (.bool false))⟩,
  ⟨some 2, none, .assign (.tmp 8)⟩])
 (.ret))
theorem k87 : codeAt Try.prog 87 = some (K87, #[.tmp 2], 9) := by kernel_rfl
/-- pontoon/lexer.small -/
noncomputable def L88_0 : AC := .seq (.reg [⟨some 11, none, .binOp .lss 3 (.tmp 10) (.tmp 9) 3⟩])
 (.seq (.cond (.tmp 11) (.skip) (.exit 0))
 (.seq (.block 1 (.seq (.reg [⟨some 12, none, .move (.tmp 10)⟩,
  ⟨some 13, none, .indexAddr 88 (.tmp 8) (.tmp 10)⟩,
  ⟨some 14, none, .load 5 (.tmp 13)⟩,
  ⟨some 4, none, .assign (.tmp 12)⟩,
  ⟨some 5, none, .assign (.tmp 14)⟩])
 (.seq (.reg [⟨some 15, none, .move (.tmp 5)⟩,
  ⟨some 16, none, .binOp .geq 5 (.tmp 15) (.const (.int .u8 65)) 5⟩,
  ⟨some 17, none, .move (.tmp 16)⟩,
  ⟨some 18, some (17, true), .move (.tmp 5)⟩,
  ⟨some 19, some (17, true), .binOp .leq 5 (.tmp 18) (.const (.int .u8 90)) 5⟩,
  ⟨some 20, none, .pick (.tmp 17) (.tmp 19) (.const (.bool false))⟩])
 (.cond (.tmp 20) (.reg [⟨some 21, none, .move (.tmp 3)⟩,
  ⟨some 22, none, .move (.tmp 4)⟩,
  ⟨some 23, none, .move (.tmp 5)⟩,
  ⟨some 24, none, .binOp .add 5 (.tmp 23) (.const (.int .u8 97)) 5⟩,
  ⟨some 25, none, .binOp .sub 5 (.tmp 24) (.const (.int .u8 65)) 5⟩,
  ⟨some 26, none, .indexAddr 88 (.tmp 21) (.tmp 22)⟩,
  ⟨none, none, .store 5 (.tmp 26) (.tmp 25)⟩]) (.skip)))))
 (.reg [⟨some 27, none, .binOp .add 3 (.tmp 10) (.const (.int .i64 1)) 3⟩,
  ⟨some 10, none, .move (.tmp 27)⟩])))
noncomputable def K88 : AC := .seq (.reg [⟨some 2, none, .assign (.const (.string ⟨⟨[]⟩⟩))⟩])
 (.seq (.reg [⟨some 6, none, .move (.tmp 0)⟩,
  ⟨some 7, none, .convert 9 88 (.tmp 6)⟩,
  ⟨some 3, none, .assign (.tmp 7)⟩])
 (.seq (.seq (.reg [⟨some 8, none, .move (.tmp 3)⟩,
  ⟨some 9, none, .call { callee := .builtin .len, args := #[.tmp 8], argTypes := #[88] }⟩,
  ⟨some 10, none, .move (.const (.int .i64 0))⟩])
 (.block 0 (.loop L88_0)))
 (.seq (.reg [⟨some 28, none, .move (.tmp 3)⟩,
  ⟨some 29, none, .convert 88 9 (.tmp 28)⟩,
  ⟨some 2, none, .assign (.tmp 29)⟩])
 (.ret))))
theorem k88 : codeAt Try.prog 88 = some (K88, #[.tmp 2], 30) := by kernel_rfl
/-- pontoon/lexer.one$2 -/
noncomputable def K89 : AC := .seq (.reg [⟨some 2, none, .assign (.const (.bool false))⟩])
 (.seq (.reg [⟨some 3, none, .move (.tmp 0)⟩,
  ⟨some 4, none, .call { callee := .value (.func 87), args := #[.tmp 3], argTypes := #[21] }⟩,
  ⟨some 5, none, .move (.tmp 4)⟩,
  ⟨some 6, some (5, false), .move (.tmp 0)⟩,
  ⟨some 7, some (5, false), .binOp .eql 21 (.tmp 6) (.const (.int .i32 46)) 21⟩,
  ⟨some 8, none, .pick (.tmp 5) (.const (.bool true)) (.tmp 7)⟩,
  ⟨some 2, none, .assign (.tmp 8)⟩])
 (.ret))
theorem k89 : codeAt Try.prog 89 = some (K89, #[.tmp 2], 9) := by kernel_rfl
/-- pontoon/lexer.quoted -/
def D90_5 : List (Bool × AOp) := [(false, ⟨some 12, none, .move (.tmp 0)⟩),
  (false, ⟨some 13, none, .move (.tmp 5)⟩),
  (false, ⟨some 14, none, .index 9 (.tmp 12) (.tmp 13)⟩),
  (false, ⟨some 15, none, .move (.tmp 0)⟩),
  (false, ⟨some 16, none, .index 9 (.tmp 15) (.const (.int .i64 0))⟩),
  (false, ⟨some 17, none, .binOp .eql 5 (.tmp 14) (.tmp 16) 5⟩)]
theorem d90_5 : drawList E.pure 44 (regionOf Try.f90 5) = some D90_5 := by kernel_rfl
@[go_sem] theorem e90_5 (s : Slots) (H : AHeap) (Q : QT) : C (cxV E) (.draw 44 (regionOf Try.f90 5)) s H Q = XD (cxV E) D90_5 s H (Qr Q) := C_draw_eq d90_5 s H Q
def D90_6 : List (Bool × AOp) := [(false, ⟨some 18, none, .move (.tmp 5)⟩),
  (false, ⟨some 19, none, .binOp .add 3 (.tmp 18) (.const (.int .i64 1)) 3⟩),
  (false, ⟨some 20, none, .move (.tmp 0)⟩),
  (false, ⟨some 21, none, .call { callee := .builtin .len, args := #[.tmp 20], argTypes := #[9] }⟩),
  (false, ⟨some 22, none, .binOp .eql 3 (.tmp 19) (.tmp 21) 3⟩),
  (false, ⟨some 23, none, .move (.tmp 22)⟩),
  (false, ⟨some 24, some (23, false), .move (.tmp 0)⟩),
  (false, ⟨some 25, some (23, false), .move (.tmp 5)⟩),
  (false, ⟨some 26, some (23, false), .binOp .add 3 (.tmp 25) (.const (.int .i64 1)) 3⟩),
  (false, ⟨some 27, some (23, false), .index 9 (.tmp 24) (.tmp 26)⟩),
  (false, ⟨some 28, some (23, false), .move (.tmp 0)⟩),
  (false, ⟨some 29, some (23, false), .index 9 (.tmp 28) (.const (.int .i64 0))⟩),
  (false, ⟨some 30, some (23, false), .binOp .neq 5 (.tmp 27) (.tmp 29) 5⟩),
  (false, ⟨some 31, none, .pick (.tmp 23) (.const (.bool true)) (.tmp 30)⟩)]
theorem d90_6 : drawList E.pure 44 (regionOf Try.f90 6) = some D90_6 := by kernel_rfl
@[go_sem] theorem e90_6 (s : Slots) (H : AHeap) (Q : QT) : C (cxV E) (.draw 44 (regionOf Try.f90 6)) s H Q = XD (cxV E) D90_6 s H (Qr Q) := C_draw_eq d90_6 s H Q
noncomputable def L90_0 : AC := .seq (.seq (.reg [⟨some 6, none, .move (.tmp 5)⟩,
  ⟨some 7, none, .move (.tmp 0)⟩,
  ⟨some 8, none, .call { callee := .builtin .len, args := #[.tmp 7], argTypes := #[9] }⟩,
  ⟨some 9, none, .binOp .lss 3 (.tmp 6) (.tmp 8) 3⟩])
 (.cond (.tmp 9) (.skip) (.exit 0)))
 (.seq (.block 1 (.seq (.seq (.draw 44 (regionOf Try.f90 5))
 (.cond (.tmp 17) (.seq (.seq (.draw 44 (regionOf Try.f90 6))
 (.cond (.tmp 31) (.seq (.reg [⟨some 32, none, .move (.tmp 4)⟩,
  ⟨some 33, none, .convert 88 9 (.tmp 32)⟩,
  ⟨some 34, none, .move (.tmp 5)⟩,
  ⟨some 35, none, .binOp .add 3 (.tmp 34) (.const (.int .i64 1)) 3⟩,
  ⟨some 2, none, .assign (.tmp 33)⟩,
  ⟨some 3, none, .assign (.tmp 35)⟩])
 (.ret)) (.skip)))
 (.reg [⟨some 36, none, .move (.tmp 5)⟩,
  ⟨some 37, none, .binOp .add 3 (.tmp 36) (.const (.int .i64 1)) 3⟩,
  ⟨some 5, none, .assign (.tmp 37)⟩])) (.skip)))
 (.reg [⟨some 38, none, .move (.tmp 4)⟩,
  ⟨some 39, none, .move (.tmp 0)⟩,
  ⟨some 40, none, .move (.tmp 5)⟩,
  ⟨some 41, none, .index 9 (.tmp 39) (.tmp 40)⟩,
  ⟨some 42, none, .buildSlice 88 1 #[(0, .tmp 41)]⟩,
  ⟨some 43, none, .call { callee := .builtin .append, args := #[.tmp 38, .tmp 42], argTypes := #[88, 88] }⟩,
  ⟨some 4, none, .assign (.tmp 43)⟩])))
 (.reg [⟨some 10, none, .move (.tmp 5)⟩,
  ⟨some 11, none, .binOp .add 3 (.tmp 10) (.const (.int .i64 1)) 3⟩,
  ⟨some 5, none, .assign (.tmp 11)⟩]))
noncomputable def K90 : AC := .seq (.reg [⟨some 2, none, .assign (.const (.string ⟨⟨[]⟩⟩))⟩,
  ⟨some 3, none, .assign (.const (.int .i64 0))⟩])
 (.seq (.reg [⟨some 4, none, .assign (.const (.slice none 0 0))⟩])
 (.seq (.seq (.reg [⟨some 5, none, .assign (.const (.int .i64 1))⟩])
 (.block 0 (.loop L90_0)))
 (.seq (.reg [⟨some 2, none, .assign (.const (.string ⟨⟨[]⟩⟩))⟩,
  ⟨some 3, none, .assign (.const (.int .i64 (-1)))⟩])
 (.ret))))
theorem k90 : codeAt Try.prog 90 = some (K90, #[.tmp 2, .tmp 3], 44) := by kernel_rfl
/-- pontoon/lexer.tag -/
noncomputable def K91 : AC := .seq (.reg [⟨some 2, none, .assign (.const (.int .i64 0))⟩])
 (.seq (.reg [⟨some 3, none, .assign (.const (.int .i64 1))⟩])
 (.seq (.seq (.reg [⟨some 4, none, .move (.tmp 3)⟩,
  ⟨some 5, none, .move (.tmp 0)⟩,
  ⟨some 6, none, .call { callee := .builtin .len, args := #[.tmp 5], argTypes := #[9] }⟩,
  ⟨some 7, none, .binOp .lss 3 (.tmp 4) (.tmp 6) 3⟩,
  ⟨some 8, none, .move (.tmp 7)⟩,
  ⟨some 9, some (8, true), .move (.tmp 0)⟩,
  ⟨some 10, some (8, true), .move (.tmp 3)⟩,
  ⟨some 11, some (8, true), .index 9 (.tmp 9) (.tmp 10)⟩,
  ⟨some 12, some (8, true), .convert 5 21 (.tmp 11)⟩,
  ⟨some 13, some (8, true), .call { callee := .value (.func 85), args := #[.tmp 12], argTypes := #[21] }⟩,
  ⟨some 14, none, .pick (.tmp 8) (.tmp 13) (.const (.bool false))⟩])
 (.cond (.tmp 14) (.reg [⟨some 15, none, .move (.tmp 3)⟩,
  ⟨some 16, none, .move (.tmp 0)⟩,
  ⟨some 17, none, .move (.tmp 3)⟩,
  ⟨some 18, none, .slice 9 (.tmp 16) (some (.tmp 17)) none none⟩,
  ⟨some 19, none, .call { callee := .value (.func 62), args := #[.tmp 18, .func 104], argTypes := #[9, 69] }⟩,
  ⟨some 20, none, .binOp .add 3 (.tmp 15) (.tmp 19) 3⟩,
  ⟨some 3, none, .assign (.tmp 20)⟩]) (.skip)))
 (.seq (.seq (.reg [⟨some 21, none, .move (.tmp 3)⟩,
  ⟨some 22, none, .move (.tmp 0)⟩,
  ⟨some 23, none, .call { callee := .builtin .len, args := #[.tmp 22], argTypes := #[9] }⟩,
  ⟨some 24, none, .binOp .lss 3 (.tmp 21) (.tmp 23) 3⟩,
  ⟨some 25, none, .move (.tmp 24)⟩,
  ⟨some 26, some (25, true), .move (.tmp 0)⟩,
  ⟨some 27, some (25, true), .move (.tmp 3)⟩,
  ⟨some 28, some (25, true), .index 9 (.tmp 26) (.tmp 27)⟩,
  ⟨some 29, some (25, true), .binOp .eql 5 (.tmp 28) (.const (.int .u8 36)) 5⟩,
  ⟨some 30, none, .pick (.tmp 25) (.tmp 29) (.const (.bool false))⟩])
 (.cond (.tmp 30) (.seq (.reg [⟨some 31, none, .move (.tmp 3)⟩,
  ⟨some 32, none, .binOp .add 3 (.tmp 31) (.const (.int .i64 1)) 3⟩,
  ⟨some 2, none, .assign (.tmp 32)⟩])
 (.ret)) (.skip)))
 (.seq (.reg [⟨some 2, none, .assign (.const (.int .i64 (-1)))⟩])
 (.ret)))))
theorem k91 : codeAt Try.prog 91 = some (K91, #[.tmp 2], 33) := by kernel_rfl
/-- pontoon/lexer.dollar -/
def D92_4 : List (Bool × AOp) := [(false, ⟨some 16, none, .move (.tmp 0)⟩),
  (false, ⟨some 17, none, .move (.tmp 6)⟩),
  (false, ⟨some 18, none, .move (.tmp 6)⟩),
  (false, ⟨some 19, none, .move (.tmp 1)⟩),
  (false, ⟨some 20, none, .binOp .add 3 (.tmp 18) (.tmp 19) 3⟩),
  (false, ⟨some 21, none, .slice 9 (.tmp 16) (some (.tmp 17)) (some (.tmp 20)) none⟩),
  (false, ⟨some 22, none, .move (.tmp 0)⟩),
  (false, ⟨some 23, none, .move (.tmp 1)⟩),
  (false, ⟨some 24, none, .slice 9 (.tmp 22) none (some (.tmp 23)) none⟩),
  (false, ⟨some 25, none, .binOp .eql 9 (.tmp 21) (.tmp 24) 9⟩)]
theorem d92_4 : drawList E.pure 33 (regionOf Try.f92 4) = some D92_4 := by kernel_rfl
@[go_sem] theorem e92_4 (s : Slots) (H : AHeap) (Q : QT) : C (cxV E) (.draw 33 (regionOf Try.f92 4)) s H Q = XD (cxV E) D92_4 s H (Qr Q) := C_draw_eq d92_4 s H Q
noncomputable def L92_0 : AC := .seq (.seq (.reg [⟨some 8, none, .move (.tmp 6)⟩,
  ⟨some 9, none, .move (.tmp 1)⟩,
  ⟨some 10, none, .binOp .add 3 (.tmp 8) (.tmp 9) 3⟩,
  ⟨some 11, none, .move (.tmp 0)⟩,
  ⟨some 12, none, .call { callee := .builtin .len, args := #[.tmp 11], argTypes := #[9] }⟩,
  ⟨some 13, none, .binOp .leq 3 (.tmp 10) (.tmp 12) 3⟩])
 (.cond (.tmp 13) (.skip) (.exit 0)))
 (.seq (.block 1 (.seq (.draw 33 (regionOf Try.f92 4))
 (.cond (.tmp 25) (.seq (.reg [⟨some 26, none, .move (.tmp 0)⟩,
  ⟨some 27, none, .move (.tmp 1)⟩,
  ⟨some 28, none, .move (.tmp 6)⟩,
  ⟨some 29, none, .slice 9 (.tmp 26) (some (.tmp 27)) (some (.tmp 28)) none⟩,
  ⟨some 30, none, .move (.tmp 6)⟩,
  ⟨some 31, none, .move (.tmp 1)⟩,
  ⟨some 32, none, .binOp .add 3 (.tmp 30) (.tmp 31) 3⟩,
  ⟨some 4, none, .assign (.tmp 29)⟩,
  ⟨some 5, none, .assign (.tmp 32)⟩])
 (.ret)) (.skip))))
 (.reg [⟨some 14, none, .move (.tmp 6)⟩,
  ⟨some 15, none, .binOp .add 3 (.tmp 14) (.const (.int .i64 1)) 3⟩,
  ⟨some 6, none, .assign (.tmp 15)⟩]))
noncomputable def K92 : AC := .seq (.reg [⟨some 4, none, .assign (.const (.string ⟨⟨[]⟩⟩))⟩,
  ⟨some 5, none, .assign (.const (.int .i64 0))⟩])
 (.seq (.seq (.reg [⟨some 7, none, .move (.tmp 1)⟩,
  ⟨some 6, none, .assign (.tmp 7)⟩])
 (.block 0 (.loop L92_0)))
 (.seq (.reg [⟨some 4, none, .assign (.const (.string ⟨⟨[]⟩⟩))⟩,
  ⟨some 5, none, .assign (.const (.int .i64 (-1)))⟩])
 (.ret)))
theorem k92 : codeAt Try.prog 92 = some (K92, #[.tmp 4, .tmp 5], 33) := by kernel_rfl
/-- pontoon/lexer.sign -/
noncomputable def L93_0 : AC := .seq (.reg [⟨some 17, none, .next (.tmp 16) true⟩,
  ⟨some 18, none, .extract (.tmp 17) 0⟩])
 (.seq (.cond (.tmp 18) (.skip) (.exit 0))
 (.block 1 (.seq (.reg [⟨some 19, none, .extract (.tmp 17) 2⟩,
  ⟨some 5, none, .assign (.tmp 19)⟩])
 (.seq (.reg [⟨some 20, none, .move (.tmp 0)⟩,
  ⟨some 21, none, .index 9 (.tmp 20) (.const (.int .i64 0))⟩,
  ⟨some 22, none, .convert 5 21 (.tmp 21)⟩,
  ⟨some 23, none, .move (.tmp 5)⟩,
  ⟨some 24, none, .binOp .eql 21 (.tmp 22) (.tmp 23) 21⟩])
 (.cond (.tmp 24) (.seq (.reg [⟨some 2, none, .assign (.const (.int .i64 1))⟩])
 (.ret)) (.skip))))))
noncomputable def K93 : AC := .seq (.reg [⟨some 2, none, .assign (.const (.int .i64 0))⟩])
 (.seq (.seq (.reg [⟨some 6, none, .move (.tmp 0)⟩,
  ⟨some 7, none, .index 9 (.tmp 6) (.const (.int .i64 0))⟩,
  ⟨some 8, none, .binOp .eql 5 (.tmp 7) (.const (.int .u8 36)) 5⟩])
 (.cond (.tmp 8) (.seq (.seq (.reg [⟨some 9, none, .move (.tmp 0)⟩,
  ⟨some 10, none, .slice 9 (.tmp 9) (some (.const (.int .i64 1))) none none⟩,
  ⟨some 11, none, .call { callee := .value (.func 62), args := #[.tmp 10, .func 87], argTypes := #[9, 69] }⟩,
  ⟨some 3, none, .assign (.tmp 11)⟩])
 (.seq (.reg [⟨some 12, none, .move (.tmp 3)⟩,
  ⟨some 13, none, .binOp .gtr 3 (.tmp 12) (.const (.int .i64 0)) 3⟩])
 (.cond (.tmp 13) (.seq (.reg [⟨some 14, none, .move (.tmp 3)⟩,
  ⟨some 15, none, .binOp .add 3 (.tmp 14) (.const (.int .i64 1)) 3⟩,
  ⟨some 2, none, .assign (.tmp 15)⟩])
 (.ret)) (.skip))))
 (.seq (.reg [⟨some 2, none, .assign (.const (.int .i64 0))⟩])
 (.ret))) (.skip)))
 (.seq (.seq (.reg [⟨some 16, none, .range 9 (.const (.string ⟨⟨[40, 41, 44, 59, 46, 61, 60, 62, 43, 45, 42, 47, 37, 38, 124, 94, 126, 33, 64, 35, 63, 58, 91, 93]⟩⟩))⟩])
 (.block 0 (.loop L93_0)))
 (.seq (.reg [⟨some 2, none, .assign (.const (.int .i64 0))⟩])
 (.ret))))
theorem k93 : codeAt Try.prog 93 = some (K93, #[.tmp 2], 25) := by kernel_rfl
/-- pontoon/pontoonref04.starts -/
noncomputable def K94 : AC := .seq (.reg [⟨some 6, none, .assign (.const (.bool false))⟩])
 (.seq (.reg [⟨some 7, none, .move (.tmp 1)⟩,
  ⟨some 8, none, .move (.tmp 2)⟩,
  ⟨some 9, none, .call { callee := .builtin .len, args := #[.tmp 8], argTypes := #[9] }⟩,
  ⟨some 10, none, .binOp .add 3 (.tmp 7) (.tmp 9) 3⟩,
  ⟨some 11, none, .move (.tmp 0)⟩,
  ⟨some 12, none, .call { callee := .builtin .len, args := #[.tmp 11], argTypes := #[9] }⟩,
  ⟨some 13, none, .binOp .leq 3 (.tmp 10) (.tmp 12) 3⟩,
  ⟨some 14, none, .move (.tmp 13)⟩,
  ⟨some 15, some (14, true), .move (.tmp 0)⟩,
  ⟨some 16, some (14, true), .move (.tmp 1)⟩,
  ⟨some 17, some (14, true), .move (.tmp 1)⟩,
  ⟨some 18, some (14, true), .move (.tmp 2)⟩,
  ⟨some 19, some (14, true), .call { callee := .builtin .len, args := #[.tmp 18], argTypes := #[9] }⟩,
  ⟨some 20, some (14, true), .binOp .add 3 (.tmp 17) (.tmp 19) 3⟩,
  ⟨some 21, some (14, true), .slice 9 (.tmp 15) (some (.tmp 16)) (some (.tmp 20)) none⟩,
  ⟨some 22, some (14, true), .move (.tmp 2)⟩,
  ⟨some 23, some (14, true), .binOp .eql 9 (.tmp 21) (.tmp 22) 9⟩,
  ⟨some 24, none, .pick (.tmp 14) (.tmp 23) (.const (.bool false))⟩,
  ⟨some 6, none, .assign (.tmp 24)⟩])
 (.ret))
theorem k94 : codeAt Try.prog 94 = some (K94, #[.tmp 6], 25) := by kernel_rfl
/-- pontoon/pontoonref04.remark -/
noncomputable def L95_0 : AC := .seq (.seq (.reg [⟨some 6, none, .move (.tmp 1)⟩,
  ⟨some 7, none, .move (.tmp 0)⟩,
  ⟨some 8, none, .call { callee := .builtin .len, args := #[.tmp 7], argTypes := #[9] }⟩,
  ⟨some 9, none, .binOp .lss 3 (.tmp 6) (.tmp 8) 3⟩])
 (.cond (.tmp 9) (.skip) (.exit 0)))
 (.block 1 (.block 2 (.seq (.reg [⟨some 13, none, .move (.tmp 0)⟩,
  ⟨some 14, none, .move (.tmp 1)⟩,
  ⟨some 15, none, .call { callee := .value (.func 94), args := #[.tmp 13, .tmp 14, .const (.string ⟨⟨[47, 42]⟩⟩)], argTypes := #[9, 3, 9] }⟩,
  ⟨some 12, none, .assign (.tmp 15)⟩])
 (.cond (.tmp 12) (.seq (.reg [⟨some 16, none, .move (.tmp 5)⟩,
  ⟨some 17, none, .binOp .add 3 (.tmp 16) (.const (.int .i64 1)) 3⟩,
  ⟨some 5, none, .assign (.tmp 17)⟩])
 (.reg [⟨some 18, none, .move (.tmp 1)⟩,
  ⟨some 19, none, .binOp .add 3 (.tmp 18) (.const (.int .i64 2)) 3⟩,
  ⟨some 1, none, .assign (.tmp 19)⟩])) (.seq (.reg [⟨some 21, none, .move (.tmp 0)⟩,
  ⟨some 22, none, .move (.tmp 1)⟩,
  ⟨some 23, none, .call { callee := .value (.func 94), args := #[.tmp 21, .tmp 22, .const (.string ⟨⟨[42, 47]⟩⟩)], argTypes := #[9, 3, 9] }⟩,
  ⟨some 20, none, .assign (.tmp 23)⟩])
 (.cond (.tmp 20) (.seq (.reg [⟨some 24, none, .move (.tmp 5)⟩,
  ⟨some 25, none, .binOp .sub 3 (.tmp 24) (.const (.int .i64 1)) 3⟩,
  ⟨some 5, none, .assign (.tmp 25)⟩])
 (.seq (.reg [⟨some 26, none, .move (.tmp 1)⟩,
  ⟨some 27, none, .binOp .add 3 (.tmp 26) (.const (.int .i64 2)) 3⟩,
  ⟨some 1, none, .assign (.tmp 27)⟩])
 (.seq (.reg [⟨some 28, none, .move (.tmp 5)⟩,
  ⟨some 29, none, .binOp .eql 3 (.tmp 28) (.const (.int .i64 0)) 3⟩])
 (.cond (.tmp 29) (.seq (.reg [⟨some 30, none, .move (.tmp 1)⟩,
  ⟨some 4, none, .assign (.tmp 30)⟩])
 (.ret)) (.skip))))) (.reg [⟨some 10, none, .move (.tmp 1)⟩,
  ⟨some 11, none, .binOp .add 3 (.tmp 10) (.const (.int .i64 1)) 3⟩,
  ⟨some 1, none, .assign (.tmp 11)⟩])))))))
noncomputable def K95 : AC := .seq (.reg [⟨some 4, none, .assign (.const (.int .i64 0))⟩])
 (.seq (.reg [⟨some 5, none, .assign (.const (.int .i64 0))⟩])
 (.seq (.block 0 (.loop L95_0))
 (.seq (.reg [⟨some 4, none, .assign (.const (.int .i64 (-1)))⟩])
 (.ret))))
theorem k95 : codeAt Try.prog 95 = some (K95, #[.tmp 4], 31) := by kernel_rfl
/-- pontoon/pontoonref04.letter -/
noncomputable def K96 : AC := .seq (.reg [⟨some 2, none, .assign (.const (.bool false))⟩])
 (.seq (.reg [⟨some 3, none, .move (.tmp 0)⟩,
  ⟨some 4, none, .binOp .geq 5 (.tmp 3) (.const (.int .u8 97)) 5⟩,
  ⟨some 5, none, .move (.tmp 4)⟩,
  ⟨some 6, some (5, true), .move (.tmp 0)⟩,
  ⟨some 7, some (5, true), .binOp .leq 5 (.tmp 6) (.const (.int .u8 122)) 5⟩,
  ⟨some 8, none, .pick (.tmp 5) (.tmp 7) (.const (.bool false))⟩,
  ⟨some 9, none, .move (.tmp 8)⟩,
  ⟨some 10, some (9, false), .move (.tmp 0)⟩,
  ⟨some 11, some (9, false), .binOp .geq 5 (.tmp 10) (.const (.int .u8 65)) 5⟩,
  ⟨some 12, some (9, false), .move (.tmp 11)⟩,
  ⟨some 13, some (12, true), .move (.tmp 0)⟩,
  ⟨some 14, some (12, true), .binOp .leq 5 (.tmp 13) (.const (.int .u8 90)) 5⟩,
  ⟨some 15, some (9, false), .pick (.tmp 12) (.tmp 14) (.const (.bool false))⟩,
  ⟨some 16, none, .pick (.tmp 9) (.const (.bool true)) (.tmp 15)⟩,
  ⟨some 17, none, .move (.tmp 16)⟩,
  ⟨some 18, some (17, false), .move (.tmp 0)⟩,
  ⟨some 19, some (17, false), .binOp .eql 5 (.tmp 18) (.const (.int .u8 95)) 5⟩,
  ⟨some 20, none, .pick (.tmp 17) (.const (.bool true)) (.tmp 19)⟩,
  ⟨some 21, none, .move (.tmp 20)⟩,
  ⟨some 22, some (21, false), .move (.tmp 0)⟩,
  ⟨some 23, some (21, false), .binOp .gtr 5 (.tmp 22) (.const (.int .u8 127)) 5⟩,
  ⟨some 24, none, .pick (.tmp 21) (.const (.bool true)) (.tmp 23)⟩,
  ⟨some 2, none, .assign (.tmp 24)⟩])
 (.ret))
theorem k96 : codeAt Try.prog 96 = some (K96, #[.tmp 2], 25) := by kernel_rfl
/-- pontoon/pontoonref04.row -/
noncomputable def L97_0 : AC := .seq (.seq (.reg [⟨some 7, none, .move (.tmp 1)⟩,
  ⟨some 8, none, .move (.tmp 0)⟩,
  ⟨some 9, none, .call { callee := .builtin .len, args := #[.tmp 8], argTypes := #[9] }⟩,
  ⟨some 10, none, .binOp .lss 3 (.tmp 7) (.tmp 9) 3⟩,
  ⟨some 11, none, .move (.tmp 10)⟩,
  ⟨some 12, some (11, true), .move (.tmp 0)⟩,
  ⟨some 13, some (11, true), .move (.tmp 1)⟩,
  ⟨some 14, some (11, true), .index 9 (.tmp 12) (.tmp 13)⟩,
  ⟨some 15, some (11, true), .call { callee := .value (.func 99), args := #[.tmp 14], argTypes := #[5] }⟩,
  ⟨some 16, some (11, true), .move (.tmp 15)⟩,
  ⟨some 17, some (16, false), .move (.tmp 2)⟩,
  ⟨some 18, some (16, false), .binOp .eql 3 (.tmp 17) (.const (.int .i64 1)) 3⟩,
  ⟨some 19, some (16, false), .move (.tmp 18)⟩,
  ⟨some 20, some (19, true), .move (.tmp 0)⟩,
  ⟨some 21, some (19, true), .move (.tmp 1)⟩,
  ⟨some 22, some (19, true), .index 9 (.tmp 20) (.tmp 21)⟩,
  ⟨some 23, some (19, true), .call { callee := .value (.func 96), args := #[.tmp 22], argTypes := #[5] }⟩,
  ⟨some 24, some (19, true), .move (.tmp 23)⟩,
  ⟨some 25, some (24, false), .move (.tmp 0)⟩,
  ⟨some 26, some (24, false), .move (.tmp 1)⟩,
  ⟨some 27, some (24, false), .index 9 (.tmp 25) (.tmp 26)⟩,
  ⟨some 28, some (24, false), .binOp .eql 5 (.tmp 27) (.const (.int .u8 36)) 5⟩,
  ⟨some 29, some (19, true), .pick (.tmp 24) (.const (.bool true)) (.tmp 28)⟩,
  ⟨some 30, some (16, false), .pick (.tmp 19) (.tmp 29) (.const (.bool false))⟩,
  ⟨some 31, some (11, true), .pick (.tmp 16) (.const (.bool true)) (.tmp 30)⟩,
  ⟨some 32, some (11, true), .move (.tmp 31)⟩,
  ⟨some 33, some (32, false), .move (.tmp 2)⟩,
  ⟨some 34, some (32, false), .binOp .eql 3 (.tmp 33) (.const (.int .i64 4)) 3⟩,
  ⟨some 35, some (32, false), .move (.tmp 34)⟩,
  ⟨some 36, some (35, true), .move (.tmp 0)⟩,
  ⟨some 37, some (35, true), .move (.tmp 1)⟩,
  ⟨some 38, some (35, true), .index 9 (.tmp 36) (.tmp 37)⟩,
  ⟨some 39, some (35, true), .binOp .eql 5 (.tmp 38) (.const (.int .u8 46)) 5⟩,
  ⟨some 40, some (32, false), .pick (.tmp 35) (.tmp 39) (.const (.bool false))⟩,
  ⟨some 41, some (11, true), .pick (.tmp 32) (.const (.bool true)) (.tmp 40)⟩,
  ⟨some 42, none, .pick (.tmp 11) (.tmp 41) (.const (.bool false))⟩])
 (.cond (.tmp 42) (.skip) (.exit 0)))
 (.block 1 (.reg [⟨some 43, none, .move (.tmp 1)⟩,
  ⟨some 44, none, .binOp .add 3 (.tmp 43) (.const (.int .i64 1)) 3⟩,
  ⟨some 1, none, .assign (.tmp 44)⟩]))
noncomputable def K97 : AC := .seq (.reg [⟨some 6, none, .assign (.const (.int .i64 0))⟩])
 (.seq (.block 0 (.loop L97_0))
 (.seq (.reg [⟨some 45, none, .move (.tmp 1)⟩,
  ⟨some 6, none, .assign (.tmp 45)⟩])
 (.ret)))
theorem k97 : codeAt Try.prog 97 = some (K97, #[.tmp 6], 46) := by kernel_rfl
/-- pontoon/pontoonref04.small -/
noncomputable def L98_0 : AC := .seq (.seq (.reg [⟨some 7, none, .move (.tmp 4)⟩,
  ⟨some 8, none, .move (.tmp 3)⟩,
  ⟨some 9, none, .call { callee := .builtin .len, args := #[.tmp 8], argTypes := #[88] }⟩,
  ⟨some 10, none, .binOp .lss 3 (.tmp 7) (.tmp 9) 3⟩])
 (.cond (.tmp 10) (.skip) (.exit 0)))
 (.seq (.block 1 (.seq (.reg [⟨some 13, none, .move (.tmp 3)⟩,
  ⟨some 14, none, .move (.tmp 4)⟩,
  ⟨some 15, none, .indexAddr 88 (.tmp 13) (.tmp 14)⟩,
  ⟨some 16, none, .load 5 (.tmp 15)⟩,
  ⟨some 17, none, .binOp .geq 5 (.tmp 16) (.const (.int .u8 65)) 5⟩,
  ⟨some 18, none, .move (.tmp 17)⟩,
  ⟨some 19, some (18, true), .move (.tmp 3)⟩,
  ⟨some 20, some (18, true), .move (.tmp 4)⟩,
  ⟨some 21, some (18, true), .indexAddr 88 (.tmp 19) (.tmp 20)⟩,
  ⟨some 22, some (18, true), .load 5 (.tmp 21)⟩,
  ⟨some 23, some (18, true), .binOp .leq 5 (.tmp 22) (.const (.int .u8 90)) 5⟩,
  ⟨some 24, none, .pick (.tmp 18) (.tmp 23) (.const (.bool false))⟩])
 (.cond (.tmp 24) (.reg [⟨some 25, none, .move (.tmp 3)⟩,
  ⟨some 26, none, .move (.tmp 4)⟩,
  ⟨some 27, none, .move (.tmp 3)⟩,
  ⟨some 28, none, .move (.tmp 4)⟩,
  ⟨some 29, none, .indexAddr 88 (.tmp 27) (.tmp 28)⟩,
  ⟨some 30, none, .load 5 (.tmp 29)⟩,
  ⟨some 31, none, .binOp .add 5 (.tmp 30) (.const (.int .u8 32)) 5⟩,
  ⟨some 32, none, .indexAddr 88 (.tmp 25) (.tmp 26)⟩,
  ⟨none, none, .store 5 (.tmp 32) (.tmp 31)⟩]) (.skip))))
 (.reg [⟨some 11, none, .move (.tmp 4)⟩,
  ⟨some 12, none, .binOp .add 3 (.tmp 11) (.const (.int .i64 1)) 3⟩,
  ⟨some 4, none, .assign (.tmp 12)⟩]))
noncomputable def K98 : AC := .seq (.reg [⟨some 2, none, .assign (.const (.string ⟨⟨[]⟩⟩))⟩])
 (.seq (.reg [⟨some 5, none, .move (.tmp 0)⟩,
  ⟨some 6, none, .convert 9 88 (.tmp 5)⟩,
  ⟨some 3, none, .assign (.tmp 6)⟩])
 (.seq (.seq (.reg [⟨some 4, none, .assign (.const (.int .i64 0))⟩])
 (.block 0 (.loop L98_0)))
 (.seq (.reg [⟨some 33, none, .move (.tmp 3)⟩,
  ⟨some 34, none, .convert 88 9 (.tmp 33)⟩,
  ⟨some 2, none, .assign (.tmp 34)⟩])
 (.ret))))
theorem k98 : codeAt Try.prog 98 = some (K98, #[.tmp 2], 35) := by kernel_rfl
/-- pontoon/pontoonref04.digit -/
noncomputable def K99 : AC := .seq (.reg [⟨some 2, none, .assign (.const (.bool false))⟩])
 (.seq (.reg [⟨some 3, none, .move (.tmp 0)⟩,
  ⟨some 4, none, .binOp .geq 5 (.tmp 3) (.const (.int .u8 48)) 5⟩,
  ⟨some 5, none, .move (.tmp 4)⟩,
  ⟨some 6, some (5, true), .move (.tmp 0)⟩,
  ⟨some 7, some (5, true), .binOp .leq 5 (.tmp 6) (.const (.int .u8 57)) 5⟩,
  ⟨some 8, none, .pick (.tmp 5) (.tmp 7) (.const (.bool false))⟩,
  ⟨some 2, none, .assign (.tmp 8)⟩])
 (.ret))
theorem k99 : codeAt Try.prog 99 = some (K99, #[.tmp 2], 9) := by kernel_rfl
/-- pontoon/pontoonref04.quoted -/
noncomputable def L100_0 : AC := .seq (.seq (.reg [⟨some 14, none, .move (.tmp 8)⟩,
  ⟨some 15, none, .move (.tmp 0)⟩,
  ⟨some 16, none, .call { callee := .builtin .len, args := #[.tmp 15], argTypes := #[9] }⟩,
  ⟨some 17, none, .binOp .lss 3 (.tmp 14) (.tmp 16) 3⟩])
 (.cond (.tmp 17) (.skip) (.exit 0)))
 (.seq (.block 1 (.seq (.seq (.reg [⟨some 20, none, .move (.tmp 0)⟩,
  ⟨some 21, none, .move (.tmp 8)⟩,
  ⟨some 22, none, .index 9 (.tmp 20) (.tmp 21)⟩,
  ⟨some 23, none, .move (.tmp 6)⟩,
  ⟨some 24, none, .binOp .neq 5 (.tmp 22) (.tmp 23) 5⟩])
 (.cond (.tmp 24) (.seq (.reg [⟨some 25, none, .move (.tmp 7)⟩,
  ⟨some 26, none, .move (.tmp 0)⟩,
  ⟨some 27, none, .move (.tmp 8)⟩,
  ⟨some 28, none, .move (.tmp 8)⟩,
  ⟨some 29, none, .binOp .add 3 (.tmp 28) (.const (.int .i64 1)) 3⟩,
  ⟨some 30, none, .slice 9 (.tmp 26) (some (.tmp 27)) (some (.tmp 29)) none⟩,
  ⟨some 31, none, .binOp .add 9 (.tmp 25) (.tmp 30) 9⟩,
  ⟨some 7, none, .assign (.tmp 31)⟩])
 (.exit 1)) (.skip)))
 (.seq (.seq (.reg [⟨some 32, none, .move (.tmp 8)⟩,
  ⟨some 33, none, .binOp .add 3 (.tmp 32) (.const (.int .i64 1)) 3⟩,
  ⟨some 34, none, .move (.tmp 0)⟩,
  ⟨some 35, none, .call { callee := .builtin .len, args := #[.tmp 34], argTypes := #[9] }⟩,
  ⟨some 36, none, .binOp .lss 3 (.tmp 33) (.tmp 35) 3⟩,
  ⟨some 37, none, .move (.tmp 36)⟩,
  ⟨some 38, some (37, true), .move (.tmp 0)⟩,
  ⟨some 39, some (37, true), .move (.tmp 8)⟩,
  ⟨some 40, some (37, true), .binOp .add 3 (.tmp 39) (.const (.int .i64 1)) 3⟩,
  ⟨some 41, some (37, true), .index 9 (.tmp 38) (.tmp 40)⟩,
  ⟨some 42, some (37, true), .move (.tmp 6)⟩,
  ⟨some 43, some (37, true), .binOp .eql 5 (.tmp 41) (.tmp 42) 5⟩,
  ⟨some 44, none, .pick (.tmp 37) (.tmp 43) (.const (.bool false))⟩])
 (.cond (.tmp 44) (.seq (.reg [⟨some 45, none, .move (.tmp 7)⟩,
  ⟨some 46, none, .move (.tmp 0)⟩,
  ⟨some 47, none, .move (.tmp 8)⟩,
  ⟨some 48, none, .move (.tmp 8)⟩,
  ⟨some 49, none, .binOp .add 3 (.tmp 48) (.const (.int .i64 1)) 3⟩,
  ⟨some 50, none, .slice 9 (.tmp 46) (some (.tmp 47)) (some (.tmp 49)) none⟩,
  ⟨some 51, none, .binOp .add 9 (.tmp 45) (.tmp 50) 9⟩,
  ⟨some 7, none, .assign (.tmp 51)⟩])
 (.seq (.reg [⟨some 52, none, .move (.tmp 8)⟩,
  ⟨some 53, none, .binOp .add 3 (.tmp 52) (.const (.int .i64 1)) 3⟩,
  ⟨some 8, none, .assign (.tmp 53)⟩])
 (.exit 1))) (.skip)))
 (.seq (.reg [⟨some 54, none, .move (.tmp 7)⟩,
  ⟨some 55, none, .move (.tmp 8)⟩,
  ⟨some 56, none, .binOp .add 3 (.tmp 55) (.const (.int .i64 1)) 3⟩,
  ⟨some 4, none, .assign (.tmp 54)⟩,
  ⟨some 5, none, .assign (.tmp 56)⟩])
 (.ret)))))
 (.reg [⟨some 18, none, .move (.tmp 8)⟩,
  ⟨some 19, none, .binOp .add 3 (.tmp 18) (.const (.int .i64 1)) 3⟩,
  ⟨some 8, none, .assign (.tmp 19)⟩]))
noncomputable def K100 : AC := .seq (.reg [⟨some 4, none, .assign (.const (.string ⟨⟨[]⟩⟩))⟩,
  ⟨some 5, none, .assign (.const (.int .i64 0))⟩])
 (.seq (.reg [⟨some 9, none, .move (.tmp 0)⟩,
  ⟨some 10, none, .move (.tmp 1)⟩,
  ⟨some 11, none, .index 9 (.tmp 9) (.tmp 10)⟩,
  ⟨some 6, none, .assign (.tmp 11)⟩])
 (.seq (.reg [⟨some 7, none, .assign (.const (.string ⟨⟨[]⟩⟩))⟩])
 (.seq (.seq (.reg [⟨some 12, none, .move (.tmp 1)⟩,
  ⟨some 13, none, .binOp .add 3 (.tmp 12) (.const (.int .i64 1)) 3⟩,
  ⟨some 8, none, .assign (.tmp 13)⟩])
 (.block 0 (.loop L100_0)))
 (.seq (.reg [⟨some 4, none, .assign (.const (.string ⟨⟨[]⟩⟩))⟩,
  ⟨some 5, none, .assign (.const (.int .i64 (-1)))⟩])
 (.ret)))))
theorem k100 : codeAt Try.prog 100 = some (K100, #[.tmp 4, .tmp 5], 57) := by kernel_rfl
/-- pontoon/pontoonref04.tag -/
noncomputable def L101_0 : AC := .seq (.seq (.reg [⟨some 8, none, .move (.tmp 5)⟩,
  ⟨some 9, none, .move (.tmp 0)⟩,
  ⟨some 10, none, .call { callee := .builtin .len, args := #[.tmp 9], argTypes := #[9] }⟩,
  ⟨some 11, none, .binOp .lss 3 (.tmp 8) (.tmp 10) 3⟩,
  ⟨some 12, none, .move (.tmp 11)⟩,
  ⟨some 13, some (12, true), .move (.tmp 0)⟩,
  ⟨some 14, some (12, true), .move (.tmp 5)⟩,
  ⟨some 15, some (12, true), .index 9 (.tmp 13) (.tmp 14)⟩,
  ⟨some 16, some (12, true), .call { callee := .value (.func 96), args := #[.tmp 15], argTypes := #[5] }⟩,
  ⟨some 17, some (12, true), .move (.tmp 16)⟩,
  ⟨some 18, some (17, false), .move (.tmp 5)⟩,
  ⟨some 19, some (17, false), .move (.tmp 1)⟩,
  ⟨some 20, some (17, false), .binOp .add 3 (.tmp 19) (.const (.int .i64 1)) 3⟩,
  ⟨some 21, some (17, false), .binOp .gtr 3 (.tmp 18) (.tmp 20) 3⟩,
  ⟨some 22, some (17, false), .move (.tmp 21)⟩,
  ⟨some 23, some (22, true), .move (.tmp 0)⟩,
  ⟨some 24, some (22, true), .move (.tmp 5)⟩,
  ⟨some 25, some (22, true), .index 9 (.tmp 23) (.tmp 24)⟩,
  ⟨some 26, some (22, true), .call { callee := .value (.func 99), args := #[.tmp 25], argTypes := #[5] }⟩,
  ⟨some 27, some (17, false), .pick (.tmp 22) (.tmp 26) (.const (.bool false))⟩,
  ⟨some 28, some (12, true), .pick (.tmp 17) (.const (.bool true)) (.tmp 27)⟩,
  ⟨some 29, none, .pick (.tmp 12) (.tmp 28) (.const (.bool false))⟩])
 (.cond (.tmp 29) (.skip) (.exit 0)))
 (.block 1 (.reg [⟨some 30, none, .move (.tmp 5)⟩,
  ⟨some 31, none, .binOp .add 3 (.tmp 30) (.const (.int .i64 1)) 3⟩,
  ⟨some 5, none, .assign (.tmp 31)⟩]))
noncomputable def K101 : AC := .seq (.reg [⟨some 4, none, .assign (.const (.int .i64 0))⟩])
 (.seq (.reg [⟨some 6, none, .move (.tmp 1)⟩,
  ⟨some 7, none, .binOp .add 3 (.tmp 6) (.const (.int .i64 1)) 3⟩,
  ⟨some 5, none, .assign (.tmp 7)⟩])
 (.seq (.block 0 (.loop L101_0))
 (.seq (.seq (.reg [⟨some 32, none, .move (.tmp 5)⟩,
  ⟨some 33, none, .move (.tmp 0)⟩,
  ⟨some 34, none, .call { callee := .builtin .len, args := #[.tmp 33], argTypes := #[9] }⟩,
  ⟨some 35, none, .binOp .lss 3 (.tmp 32) (.tmp 34) 3⟩,
  ⟨some 36, none, .move (.tmp 35)⟩,
  ⟨some 37, some (36, true), .move (.tmp 0)⟩,
  ⟨some 38, some (36, true), .move (.tmp 5)⟩,
  ⟨some 39, some (36, true), .index 9 (.tmp 37) (.tmp 38)⟩,
  ⟨some 40, some (36, true), .binOp .eql 5 (.tmp 39) (.const (.int .u8 36)) 5⟩,
  ⟨some 41, none, .pick (.tmp 36) (.tmp 40) (.const (.bool false))⟩])
 (.cond (.tmp 41) (.seq (.reg [⟨some 42, none, .move (.tmp 5)⟩,
  ⟨some 43, none, .binOp .add 3 (.tmp 42) (.const (.int .i64 1)) 3⟩,
  ⟨some 4, none, .assign (.tmp 43)⟩])
 (.ret)) (.skip)))
 (.seq (.reg [⟨some 4, none, .assign (.const (.int .i64 (-1)))⟩])
 (.ret)))))
theorem k101 : codeAt Try.prog 101 = some (K101, #[.tmp 4], 44) := by kernel_rfl
/-- pontoon/pontoonref04.dollar -/
noncomputable def L102_0 : AC := .seq (.seq (.reg [⟨some 10, none, .move (.tmp 8)⟩,
  ⟨some 11, none, .move (.tmp 0)⟩,
  ⟨some 12, none, .call { callee := .builtin .len, args := #[.tmp 11], argTypes := #[9] }⟩,
  ⟨some 13, none, .binOp .leq 3 (.tmp 10) (.tmp 12) 3⟩])
 (.cond (.tmp 13) (.skip) (.exit 0)))
 (.seq (.block 1 (.seq (.reg [⟨some 16, none, .move (.tmp 0)⟩,
  ⟨some 17, none, .move (.tmp 8)⟩,
  ⟨some 18, none, .move (.tmp 0)⟩,
  ⟨some 19, none, .move (.tmp 1)⟩,
  ⟨some 20, none, .move (.tmp 2)⟩,
  ⟨some 21, none, .slice 9 (.tmp 18) (some (.tmp 19)) (some (.tmp 20)) none⟩,
  ⟨some 22, none, .call { callee := .value (.func 94), args := #[.tmp 16, .tmp 17, .tmp 21], argTypes := #[9, 3, 9] }⟩])
 (.cond (.tmp 22) (.seq (.reg [⟨some 23, none, .move (.tmp 0)⟩,
  ⟨some 24, none, .move (.tmp 2)⟩,
  ⟨some 25, none, .move (.tmp 8)⟩,
  ⟨some 26, none, .slice 9 (.tmp 23) (some (.tmp 24)) (some (.tmp 25)) none⟩,
  ⟨some 27, none, .move (.tmp 8)⟩,
  ⟨some 28, none, .move (.tmp 2)⟩,
  ⟨some 29, none, .binOp .add 3 (.tmp 27) (.tmp 28) 3⟩,
  ⟨some 30, none, .move (.tmp 1)⟩,
  ⟨some 31, none, .binOp .sub 3 (.tmp 29) (.tmp 30) 3⟩,
  ⟨some 6, none, .assign (.tmp 26)⟩,
  ⟨some 7, none, .assign (.tmp 31)⟩])
 (.ret)) (.skip))))
 (.reg [⟨some 14, none, .move (.tmp 8)⟩,
  ⟨some 15, none, .binOp .add 3 (.tmp 14) (.const (.int .i64 1)) 3⟩,
  ⟨some 8, none, .assign (.tmp 15)⟩]))
noncomputable def K102 : AC := .seq (.reg [⟨some 6, none, .assign (.const (.string ⟨⟨[]⟩⟩))⟩,
  ⟨some 7, none, .assign (.const (.int .i64 0))⟩])
 (.seq (.seq (.reg [⟨some 9, none, .move (.tmp 2)⟩,
  ⟨some 8, none, .assign (.tmp 9)⟩])
 (.block 0 (.loop L102_0)))
 (.seq (.reg [⟨some 6, none, .assign (.const (.string ⟨⟨[]⟩⟩))⟩,
  ⟨some 7, none, .assign (.const (.int .i64 (-1)))⟩])
 (.ret)))
theorem k102 : codeAt Try.prog 102 = some (K102, #[.tmp 6, .tmp 7], 32) := by kernel_rfl
/-- pontoon/pontoonref04.sign -/
noncomputable def L103_0 : AC := .seq (.seq (.reg [⟨some 5, none, .move (.tmp 4)⟩,
  ⟨some 6, none, .move (.tmp 3)⟩,
  ⟨some 7, none, .call { callee := .builtin .len, args := #[.tmp 6], argTypes := #[9] }⟩,
  ⟨some 8, none, .binOp .lss 3 (.tmp 5) (.tmp 7) 3⟩])
 (.cond (.tmp 8) (.skip) (.exit 0)))
 (.seq (.block 1 (.seq (.reg [⟨some 11, none, .move (.tmp 3)⟩,
  ⟨some 12, none, .move (.tmp 4)⟩,
  ⟨some 13, none, .index 9 (.tmp 11) (.tmp 12)⟩,
  ⟨some 14, none, .move (.tmp 0)⟩,
  ⟨some 15, none, .binOp .eql 5 (.tmp 13) (.tmp 14) 5⟩])
 (.cond (.tmp 15) (.seq (.reg [⟨some 2, none, .assign (.const (.bool true))⟩])
 (.ret)) (.skip))))
 (.reg [⟨some 9, none, .move (.tmp 4)⟩,
  ⟨some 10, none, .binOp .add 3 (.tmp 9) (.const (.int .i64 1)) 3⟩,
  ⟨some 4, none, .assign (.tmp 10)⟩]))
noncomputable def K103 : AC := .seq (.reg [⟨some 2, none, .assign (.const (.bool false))⟩])
 (.seq (.reg [⟨some 3, none, .assign (.const (.string ⟨⟨[40, 41, 44, 59, 46, 61, 60, 62, 43, 45, 42, 47, 37, 38, 124, 94, 126, 33, 64, 35, 63, 58, 91, 93]⟩⟩))⟩])
 (.seq (.seq (.reg [⟨some 4, none, .assign (.const (.int .i64 0))⟩])
 (.block 0 (.loop L103_0)))
 (.seq (.reg [⟨some 2, none, .assign (.const (.bool false))⟩])
 (.ret))))
theorem k103 : codeAt Try.prog 103 = some (K103, #[.tmp 2], 16) := by kernel_rfl
/-- pontoon/lexer.tag$1 -/
noncomputable def K104 : AC := .seq (.reg [⟨some 2, none, .assign (.const (.bool false))⟩])
 (.seq (.reg [⟨some 3, none, .move (.tmp 0)⟩,
  ⟨some 4, none, .call { callee := .value (.func 85), args := #[.tmp 3], argTypes := #[21] }⟩,
  ⟨some 5, none, .move (.tmp 4)⟩,
  ⟨some 6, some (5, false), .move (.tmp 0)⟩,
  ⟨some 7, some (5, false), .call { callee := .value (.func 87), args := #[.tmp 6], argTypes := #[21] }⟩,
  ⟨some 8, none, .pick (.tmp 5) (.const (.bool true)) (.tmp 7)⟩,
  ⟨some 2, none, .assign (.tmp 8)⟩])
 (.ret))
theorem k104 : codeAt Try.prog 104 = some (K104, #[.tmp 2], 9) := by kernel_rfl
end Go.Proofs
