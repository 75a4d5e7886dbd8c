/-
  The functions of this seat, made small by the program: each is what the engine makes of the function of that number. No condition.
-/
import Derived.Test.YtkbhfokbhkmfgaaUS
import Derived.Test.YtkbhfokbhkmfgaaRows
import Derived.KernelRfl
set_option linter.unusedVariables false
set_option linter.unusedSimpArgs false
namespace Go.Proofs.Ytkbhfokbhkmfgaa
open Go.V
def c_sclaw29_ChooseLive : VC :=
 (.seq
 (.ops [
 ⟨some 2,none,.box 24 (.tmp 0)⟩,
⟨some 4,none,.mv (.const (.bool false))⟩])
 (.seq
 (.seq
 (.ops [
 ⟨some 12,none,.call (.func 9) []⟩,
⟨some 13,none,.un .not (.tmp 12)⟩])
 (.cond (.tmp 13)
 (.seq
 (.ops [
 ⟨some 4,none,.mv (.const (.bool false))⟩])
 .ret)
 .skip))
 (.seq
 (.seq
 (.ops [
 ⟨some 14,none,.ld true 2 (.tmp 2)⟩,
⟨some 15,none,.mv (.tmp 1)⟩,
⟨some 16,none,.call (.func 10) [.tmp 14,.tmp 15]⟩,
⟨some 17,none,.un .not (.tmp 16)⟩])
 (.cond (.tmp 17)
 (.seq
 (.ops [
 ⟨some 4,none,.mv (.const (.bool true))⟩])
 .ret)
 .skip))
 (.seq
 (.seq
 (.ops [
 ⟨some 5,none,.mv (.const (.int .i64 0))⟩])
 (.block 0
 (.loop
 (.seq
 (.seq
 (.ops [
 ⟨some 18,none,.mv (.tmp 5)⟩,
⟨some 19,none,.fad 1 false 1 (.tmp 2)⟩,
⟨some 20,none,.ld false 1 (.tmp 19)⟩,
⟨some 21,none,.len (.tmp 20)⟩,
⟨some 22,none,.bin .lss (.tmp 18) (.tmp 21)⟩])
 (.cond (.tmp 22)
 .skip
 (.exit 0)))
 (.seq
 (.block 1
 (.seq
 (.ops [
 ⟨some 25,none,.fad 1 false 1 (.tmp 2)⟩,
⟨some 26,none,.ld false 1 (.tmp 25)⟩,
⟨some 27,none,.mv (.tmp 5)⟩,
⟨some 28,none,.idx 2 (.tmp 26) (.tmp 27)⟩,
⟨some 29,none,.ld true 2 (.tmp 28)⟩,
⟨some 6,none,.alc 52 [.int .i64 0,.slice none 0 0]⟩,
⟨none,none,.sto true 2 (.tmp 6) (.tmp 29)⟩])
 (.seq
 (.ops [
 ⟨some 30,none,.ld true 2 (.tmp 6)⟩,
⟨some 31,none,.call (.func 22) [.tmp 30]⟩,
⟨some 7,none,.alc 63 [.slice none 0 0,.slice none 0 0]⟩,
⟨none,none,.sto true 2 (.tmp 7) (.tmp 31)⟩])
 (.seq
 (.seq
 (.par false (.one ⟨some 32,none,.ld true 2 (.tmp 7)⟩ (.one ⟨some 33,none,.ld true 2 (.tmp 6)⟩ (.one ⟨some 34,none,.call (.func 24) [.tmp 33]⟩ (.one ⟨some 35,none,.call (.func 23) [.tmp 32,.tmp 34]⟩ (.one ⟨some 36,none,.un .not (.tmp 35)⟩ .done))))))
 (.cond (.tmp 36)
 (.seq
 (.ops [
 ⟨some 4,none,.mv (.const (.bool false))⟩])
 .ret)
 .skip))
 (.seq
 (.ops [
 ⟨some 8,none,.mv (.const (.int .i64 0))⟩])
 (.block 2
 (.loop
 (.seq
 (.seq
 (.ops [
 ⟨some 37,none,.mv (.tmp 8)⟩,
⟨some 38,none,.fad 1 false 1 (.tmp 6)⟩,
⟨some 39,none,.ld false 1 (.tmp 38)⟩,
⟨some 40,none,.len (.tmp 39)⟩,
⟨some 41,none,.bin .lss (.tmp 37) (.tmp 40)⟩])
 (.cond (.tmp 41)
 .skip
 (.exit 2)))
 (.seq
 (.block 3
 (.seq
 (.ops [
 ⟨some 44,none,.ld true 2 (.tmp 6)⟩,
⟨some 45,none,.ld true 2 (.tmp 7)⟩,
⟨some 46,none,.mv (.tmp 8)⟩,
⟨some 47,none,.call (.func 25) [.tmp 44,.tmp 45,.tmp 46]⟩,
⟨some 9,none,.mv (.tmp 47)⟩])
 (.seq
 (.ops [
 ⟨some 10,none,.mv (.const (.int .i64 0))⟩])
 (.block 4
 (.loop
 (.seq
 (.seq
 (.ops [
 ⟨some 48,none,.mv (.tmp 10)⟩,
⟨some 49,none,.fad 1 false 1 (.tmp 6)⟩,
⟨some 50,none,.ld false 1 (.tmp 49)⟩,
⟨some 51,none,.mv (.tmp 8)⟩,
⟨some 52,none,.idx 5 (.tmp 50) (.tmp 51)⟩,
⟨some 53,none,.fad 0 false 1 (.tmp 52)⟩,
⟨some 54,none,.ld false 1 (.tmp 53)⟩,
⟨some 55,none,.len (.tmp 54)⟩,
⟨some 56,none,.bin .lss (.tmp 48) (.tmp 55)⟩])
 (.cond (.tmp 56)
 .skip
 (.exit 4)))
 (.seq
 (.block 5
 (.seq
 (.seq
 (.ops [
 ⟨some 59,none,.fad 1 false 1 (.tmp 6)⟩,
⟨some 60,none,.ld false 1 (.tmp 59)⟩,
⟨some 61,none,.mv (.tmp 8)⟩,
⟨some 62,none,.idx 5 (.tmp 60) (.tmp 61)⟩,
⟨some 63,none,.fad 0 false 1 (.tmp 62)⟩,
⟨some 64,none,.ld false 1 (.tmp 63)⟩,
⟨some 65,none,.mv (.tmp 10)⟩,
⟨some 66,none,.idx 8 (.tmp 64) (.tmp 65)⟩,
⟨some 67,none,.fad 0 false 1 (.tmp 66)⟩,
⟨some 68,none,.ld false 1 (.tmp 67)⟩,
⟨some 69,none,.bin .neq (.tmp 68) (.const (.int .i64 10))⟩])
 (.cond (.tmp 69)
 (.exit 5)
 .skip))
 (.seq
 (.ops [
 ⟨some 11,none,.mv (.const (.int .i64 0))⟩])
 (.block 6
 (.loop
 (.seq
 (.seq
 (.ops [
 ⟨some 70,none,.mv (.tmp 11)⟩,
⟨some 71,none,.fad 0 false 1 (.tmp 6)⟩,
⟨some 72,none,.ld false 1 (.tmp 71)⟩,
⟨some 73,none,.bin .lss (.tmp 70) (.tmp 72)⟩])
 (.cond (.tmp 73)
 .skip
 (.exit 6)))
 (.seq
 (.block 7
 (.seq
 (.ops [
 ⟨some 76,none,.mv (.tmp 9)⟩,
⟨some 77,none,.mv (.tmp 10)⟩,
⟨some 78,none,.idx 1 (.tmp 76) (.tmp 77)⟩,
⟨some 79,none,.ld false 1 (.tmp 78)⟩,
⟨some 80,none,.mv (.tmp 11)⟩,
⟨some 81,none,.idx 1 (.tmp 79) (.tmp 80)⟩,
⟨some 82,none,.ld false 1 (.tmp 81)⟩,
⟨some 83,none,.mv (.tmp 82)⟩,
⟨some 84,some (83,true),.mv (.tmp 1)⟩,
⟨some 85,some (83,true),.mv (.tmp 5)⟩,
⟨some 86,some (83,true),.idx 1 (.tmp 84) (.tmp 85)⟩,
⟨some 87,some (83,true),.fad 0 false 1 (.tmp 86)⟩,
⟨some 88,some (83,true),.ld false 1 (.tmp 87)⟩,
⟨some 89,some (83,true),.mv (.tmp 11)⟩,
⟨some 90,some (83,true),.idx 1 (.tmp 88) (.tmp 89)⟩,
⟨some 91,some (83,true),.ld false 1 (.tmp 90)⟩,
⟨some 92,some (83,true),.bin .gtr (.tmp 91) (.const (.int .i64 0))⟩,
⟨some 93,none,.pick (.tmp 83) (.tmp 92) (.const (.bool false))⟩])
 (.cond (.tmp 93)
 (.seq
 (.ops [
 ⟨some 4,none,.mv (.const (.bool false))⟩])
 .ret)
 .skip)))
 (.ops [
 ⟨some 74,none,.mv (.tmp 11)⟩,
⟨some 75,none,.bin .add (.tmp 74) (.const (.int .i64 1))⟩,
⟨some 11,none,.mv (.tmp 75)⟩]))))))))
 (.ops [
 ⟨some 57,none,.mv (.tmp 10)⟩,
⟨some 58,none,.bin .add (.tmp 57) (.const (.int .i64 1))⟩,
⟨some 10,none,.mv (.tmp 58)⟩]))))))))
 (.ops [
 ⟨some 42,none,.mv (.tmp 8)⟩,
⟨some 43,none,.bin .add (.tmp 42) (.const (.int .i64 1))⟩,
⟨some 8,none,.mv (.tmp 43)⟩]))))))))))
 (.ops [
 ⟨some 23,none,.mv (.tmp 5)⟩,
⟨some 24,none,.bin .add (.tmp 23) (.const (.int .i64 1))⟩,
⟨some 5,none,.mv (.tmp 24)⟩]))))))
 (.seq
 (.ops [
 ⟨some 4,none,.mv (.const (.bool true))⟩])
 .ret)))))
theorem f_sclaw29_ChooseLive : compF Try.prog 7 = some (94, c_sclaw29_ChooseLive, [.tmp 4]) := by kernel_rfl
def c_sclaw29_ChooseNeeds : VC :=
 (.seq
 (.ops [
 ⟨some 2,none,.box 24 (.tmp 0)⟩,
⟨some 4,none,.mv (.const (.bool false))⟩])
 (.seq
 (.seq
 (.ops [
 ⟨some 9,none,.call (.func 9) []⟩,
⟨some 10,none,.un .not (.tmp 9)⟩])
 (.cond (.tmp 10)
 (.seq
 (.ops [
 ⟨some 4,none,.mv (.const (.bool false))⟩])
 .ret)
 .skip))
 (.seq
 (.seq
 (.ops [
 ⟨some 11,none,.ld true 2 (.tmp 2)⟩,
⟨some 12,none,.mv (.tmp 1)⟩,
⟨some 13,none,.call (.func 10) [.tmp 11,.tmp 12]⟩,
⟨some 14,none,.un .not (.tmp 13)⟩])
 (.cond (.tmp 14)
 (.seq
 (.ops [
 ⟨some 4,none,.mv (.const (.bool true))⟩])
 .ret)
 .skip))
 (.seq
 (.ops [
 ⟨some 16,none,.ld true 2 (.tmp 2)⟩,
⟨some 17,none,.mv (.tmp 1)⟩,
⟨some 18,none,.call (.func 11) [.tmp 16,.tmp 17]⟩,
⟨some 15,none,.mv (.tmp 18)⟩,
⟨some 19,none,.ext (.tmp 15) 0⟩,
⟨some 20,none,.ext (.tmp 15) 1⟩,
⟨some 5,none,.alc 30 [.slice none 0 0,.int .i64 0]⟩,
⟨none,none,.sto true 2 (.tmp 5) (.tmp 19)⟩,
⟨some 6,none,.mv (.tmp 20)⟩])
 (.seq
 (.ops [
 ⟨some 22,none,.ld true 2 (.tmp 2)⟩,
⟨some 23,none,.mv (.tmp 1)⟩,
⟨some 24,none,.call (.func 11) [.tmp 22,.tmp 23]⟩,
⟨some 21,none,.mv (.tmp 24)⟩,
⟨some 25,none,.ext (.tmp 21) 0⟩,
⟨some 26,none,.ext (.tmp 21) 1⟩,
⟨some 7,none,.alc 30 [.slice none 0 0,.int .i64 0]⟩,
⟨none,none,.sto true 2 (.tmp 7) (.tmp 25)⟩,
⟨some 8,none,.mv (.tmp 26)⟩])
 (.seq
 (.par false (.one ⟨some 27,none,.mv (.tmp 6)⟩ (.one ⟨some 28,none,.bin .eql (.tmp 27) (.const (.int .i64 0))⟩ (.one ⟨some 29,none,.mv (.tmp 28)⟩ (.one ⟨some 30,some (29,true),.mv (.tmp 8)⟩ (.one ⟨some 31,some (29,true),.bin .eql (.tmp 30) (.const (.int .i64 0))⟩ (.one ⟨some 32,none,.pick (.tmp 29) (.tmp 31) (.const (.bool false))⟩ (.one ⟨some 33,none,.mv (.tmp 32)⟩ (.one ⟨some 34,some (33,true),.ld true 2 (.tmp 2)⟩ (.one ⟨some 35,some (33,true),.mv (.tmp 1)⟩ (.one ⟨some 36,some (33,true),.call (.func 26) [.tmp 34,.tmp 35]⟩ (.one ⟨some 37,some (33,true),.fad 1 false 1 (.tmp 5)⟩ (.one ⟨some 38,some (33,true),.ld false 1 (.tmp 37)⟩ (.one ⟨some 39,some (33,true),.bin .eql (.tmp 36) (.tmp 38)⟩ (.one ⟨some 40,none,.pick (.tmp 33) (.tmp 39) (.const (.bool false))⟩ (.one ⟨some 41,none,.mv (.tmp 40)⟩ (.one ⟨some 42,some (41,true),.ld true 2 (.tmp 5)⟩ (.one ⟨some 43,some (41,true),.ld true 2 (.tmp 7)⟩ (.one ⟨some 44,some (41,true),.call (.func 27) [.tmp 42,.tmp 43]⟩ (.one ⟨some 45,none,.pick (.tmp 41) (.tmp 44) (.const (.bool false))⟩ (.one ⟨some 4,none,.mv (.tmp 45)⟩ .done)))))))))))))))))))))
 .ret))))))
theorem f_sclaw29_ChooseNeeds : compF Try.prog 8 = some (46, c_sclaw29_ChooseNeeds, [.tmp 4]) := by kernel_rfl
def c_sclaw29_alive : VC :=
 (.seq
 (.ops [
 ⟨some 0,none,.mv (.const (.bool false))⟩])
 (.seq
 (.ops [
 ⟨(some 6), none, (.bld [(.int .i64 0), (.string ⟨#[]⟩), (.int .i64 0)] [(0, (1, (.const (.int .i64 1)))), (1, (1, (.const (.string ⟨#[65]⟩))))])⟩,
⟨(some 1), none, (.alc 36 [(.int .i64 0), (.string ⟨#[]⟩), (.int .i64 0)])⟩,
⟨none,none,.sto true 3 (.tmp 1) (.tmp 6)⟩])
 (.seq
 (.ops [
 ⟨some 8,none,.call (.func 28) []⟩,
⟨some 9,none,.bsl 3 1 1 [.int .i64 0] [(0, (1, (.const (.int .i64 1))))]⟩,
⟨some 10,none,.bld [.slice none 0 0] [(0, (1, (.tmp 9)))]⟩,
⟨some 11,none,.bsl 55 1 1 [.slice none 0 0] [(0, (1, (.tmp 10)))]⟩,
⟨some 12,none,.call (.func 11) [.tmp 8,.tmp 11]⟩,
⟨some 7,none,.mv (.tmp 12)⟩,
⟨some 13,none,.ext (.tmp 7) 0⟩,
⟨some 14,none,.ext (.tmp 7) 1⟩,
⟨some 2,none,.alc 30 [.slice none 0 0,.int .i64 0]⟩,
⟨none,none,.sto true 2 (.tmp 2) (.tmp 13)⟩,
⟨some 3,none,.mv (.tmp 14)⟩])
 (.seq
 (.ops [
 ⟨some 16,none,.call (.func 28) []⟩,
⟨some 17,none,.bsl 3 1 1 [.int .i64 0] [(0, (1, (.const (.int .i64 (-1)))))]⟩,
⟨some 18,none,.bld [.slice none 0 0] [(0, (1, (.tmp 17)))]⟩,
⟨some 19,none,.bsl 55 1 1 [.slice none 0 0] [(0, (1, (.tmp 18)))]⟩,
⟨some 20,none,.call (.func 11) [.tmp 16,.tmp 19]⟩,
⟨some 15,none,.mv (.tmp 20)⟩,
⟨some 21,none,.ext (.tmp 15) 0⟩,
⟨some 22,none,.ext (.tmp 15) 1⟩,
⟨some 4,none,.alc 30 [.slice none 0 0,.int .i64 0]⟩,
⟨none,none,.sto true 2 (.tmp 4) (.tmp 21)⟩,
⟨some 5,none,.mv (.tmp 22)⟩])
 (.seq
 (.par false (.one ⟨some 23,none,.mv (.tmp 3)⟩ (.one ⟨some 24,none,.bin .eql (.tmp 23) (.const (.int .i64 0))⟩ (.one ⟨some 25,none,.mv (.tmp 24)⟩ (.one ⟨some 26,some (25,true),.mv (.tmp 5)⟩ (.one ⟨some 27,some (25,true),.bin .eql (.tmp 26) (.const (.int .i64 0))⟩ (.one ⟨some 28,none,.pick (.tmp 25) (.tmp 27) (.const (.bool false))⟩ (.one ⟨some 29,none,.mv (.tmp 28)⟩ (.one ⟨some 30,some (29,true),.ld true 2 (.tmp 2)⟩ (.one ⟨(some 31), (some (29, true)), (.call (.func 15) [(.tmp 30), (.const (.string ⟨#[]⟩)), (.const (.int .i64 300))])⟩ (.one ⟨some 32,some (29,true),.ld true 3 (.tmp 1)⟩ (.one ⟨some 33,some (29,true),.call (.func 14) [.tmp 31,.tmp 32]⟩ (.one ⟨some 34,none,.pick (.tmp 29) (.tmp 33) (.const (.bool false))⟩ (.one ⟨some 35,none,.mv (.tmp 34)⟩ (.one ⟨some 36,some (35,true),.ld true 2 (.tmp 4)⟩ (.one ⟨(some 37), (some (35, true)), (.call (.func 15) [(.tmp 36), (.const (.string ⟨#[]⟩)), (.const (.int .i64 300))])⟩ (.one ⟨some 38,some (35,true),.ld true 3 (.tmp 1)⟩ (.one ⟨some 39,some (35,true),.call (.func 14) [.tmp 37,.tmp 38]⟩ (.one ⟨some 40,none,.pick (.tmp 35) (.tmp 39) (.const (.bool false))⟩ (.one ⟨some 0,none,.mv (.tmp 40)⟩ .done))))))))))))))))))))
 .ret)))))
theorem f_sclaw29_alive : compF Try.prog 9 = some (41, c_sclaw29_alive, [.tmp 0]) := by kernel_rfl
def c_sclaw29_fair : VC :=
 (.seq
 (.ops [
 ⟨some 2,none,.box 24 (.tmp 0)⟩,
⟨some 4,none,.mv (.const (.bool false))⟩])
 (.seq
 (.ops [
 ⟨some 5,none,.ld true 2 (.tmp 2)⟩,
⟨some 6,none,.call (.func 29) [.tmp 5]⟩,
⟨some 7,none,.mv (.tmp 6)⟩,
⟨some 8,some (7,true),.mv (.tmp 1)⟩,
⟨some 9,some (7,true),.len (.tmp 8)⟩,
⟨some 10,some (7,true),.bin .leq (.tmp 9) (.const (.int .i64 20))⟩,
⟨some 11,none,.pick (.tmp 7) (.tmp 10) (.const (.bool false))⟩,
⟨some 12,none,.mv (.tmp 11)⟩,
⟨some 13,some (12,true),.ld true 2 (.tmp 2)⟩,
⟨some 14,some (12,true),.mv (.tmp 1)⟩,
⟨some 15,some (12,true),.call (.func 20) [.tmp 13,.tmp 14]⟩,
⟨some 16,none,.pick (.tmp 12) (.tmp 15) (.const (.bool false))⟩,
⟨some 17,none,.mv (.tmp 16)⟩,
⟨some 18,some (17,true),.mv (.tmp 1)⟩,
⟨some 19,some (17,true),.call (.func 18) [.tmp 18]⟩,
⟨some 20,some (17,true),.bin .leq (.tmp 19) (.const (.int .i64 600))⟩,
⟨some 21,none,.pick (.tmp 17) (.tmp 20) (.const (.bool false))⟩,
⟨some 4,none,.mv (.tmp 21)⟩])
 .ret))
theorem f_sclaw29_fair : compF Try.prog 10 = some (22, c_sclaw29_fair, [.tmp 4]) := by kernel_rfl
def c_choose_Of : VC :=
 (.seq
 (.ops [
 ⟨some 2,none,.box 24 (.tmp 0)⟩,
⟨some 4,none,.alc 30 [.slice none 0 0,.int .i64 0]⟩,
⟨some 5,none,.mv (.const (.int .i64 0))⟩])
 (.seq
 (.par true (.one ⟨some 13,none,.ld true 2 (.tmp 2)⟩ (.one ⟨some 14,none,.fad 1 false 1 (.tmp 2)⟩ (.one ⟨some 15,none,.ld false 1 (.tmp 14)⟩ (.one ⟨some 16,none,.len (.tmp 15)⟩ (.one ⟨some 18,none,.fad 1 false 1 (.tmp 2)⟩ (.one ⟨some 19,none,.ld false 1 (.tmp 18)⟩ (.one ⟨some 20,none,.len (.tmp 19)⟩ (.one ⟨some 22,none,.fad 1 false 1 (.tmp 2)⟩ (.one ⟨some 23,none,.ld false 1 (.tmp 22)⟩ (.one ⟨some 24,none,.len (.tmp 23)⟩ (.both (.one ⟨some 17,none,.mk 3 1 8 [.int .i64 0] (.tmp 16) (.tmp 16)⟩ (.both (.one ⟨some 21,none,.mk 53 1 24 [.slice none 0 0] (.tmp 20) (.tmp 20)⟩ (.both (.one ⟨some 25,none,.mk 3 1 8 [.int .i64 0] (.tmp 24) (.tmp 24)⟩ (.one ⟨some 26,none,.bld [.int .i64 0,.slice none 0 0,.slice none 0 0,.slice none 0 0,.slice none 0 0,.slice none 0 0,.slice none 0 0,.int .i64 0,.int .i64 0,.slice none 0 0] [(0, (2, (.tmp 13))), (4, (1, (.tmp 17))), (5, (1, (.tmp 21))), (6, (1, (.tmp 25)))]⟩ (.one ⟨some 6,none,.alc 75 [.int .i64 0,.slice none 0 0,.slice none 0 0,.slice none 0 0,.slice none 0 0,.slice none 0 0,.slice none 0 0,.int .i64 0,.int .i64 0,.slice none 0 0]⟩ (.one ⟨none,none,.sto true 10 (.tmp 6) (.tmp 26)⟩ .done)))) (.one ⟨some 6,none,.alc 75 [.int .i64 0,.slice none 0 0,.slice none 0 0,.slice none 0 0,.slice none 0 0,.slice none 0 0,.slice none 0 0,.int .i64 0,.int .i64 0,.slice none 0 0]⟩ (.one ⟨some 25,none,.mk 3 1 8 [.int .i64 0] (.tmp 24) (.tmp 24)⟩ (.one ⟨some 26,none,.bld [.int .i64 0,.slice none 0 0,.slice none 0 0,.slice none 0 0,.slice none 0 0,.slice none 0 0,.slice none 0 0,.int .i64 0,.int .i64 0,.slice none 0 0] [(0, (2, (.tmp 13))), (4, (1, (.tmp 17))), (5, (1, (.tmp 21))), (6, (1, (.tmp 25)))]⟩ (.one ⟨none,none,.sto true 10 (.tmp 6) (.tmp 26)⟩ .done)))))) (.both (.one ⟨some 25,none,.mk 3 1 8 [.int .i64 0] (.tmp 24) (.tmp 24)⟩ (.both (.one ⟨some 21,none,.mk 53 1 24 [.slice none 0 0] (.tmp 20) (.tmp 20)⟩ (.one ⟨some 26,none,.bld [.int .i64 0,.slice none 0 0,.slice none 0 0,.slice none 0 0,.slice none 0 0,.slice none 0 0,.slice none 0 0,.int .i64 0,.int .i64 0,.slice none 0 0] [(0, (2, (.tmp 13))), (4, (1, (.tmp 17))), (5, (1, (.tmp 21))), (6, (1, (.tmp 25)))]⟩ (.one ⟨some 6,none,.alc 75 [.int .i64 0,.slice none 0 0,.slice none 0 0,.slice none 0 0,.slice none 0 0,.slice none 0 0,.slice none 0 0,.int .i64 0,.int .i64 0,.slice none 0 0]⟩ (.one ⟨none,none,.sto true 10 (.tmp 6) (.tmp 26)⟩ .done)))) (.one ⟨some 6,none,.alc 75 [.int .i64 0,.slice none 0 0,.slice none 0 0,.slice none 0 0,.slice none 0 0,.slice none 0 0,.slice none 0 0,.int .i64 0,.int .i64 0,.slice none 0 0]⟩ (.one ⟨some 21,none,.mk 53 1 24 [.slice none 0 0] (.tmp 20) (.tmp 20)⟩ (.one ⟨some 26,none,.bld [.int .i64 0,.slice none 0 0,.slice none 0 0,.slice none 0 0,.slice none 0 0,.slice none 0 0,.slice none 0 0,.int .i64 0,.int .i64 0,.slice none 0 0] [(0, (2, (.tmp 13))), (4, (1, (.tmp 17))), (5, (1, (.tmp 21))), (6, (1, (.tmp 25)))]⟩ (.one ⟨none,none,.sto true 10 (.tmp 6) (.tmp 26)⟩ .done)))))) (.one ⟨some 6,none,.alc 75 [.int .i64 0,.slice none 0 0,.slice none 0 0,.slice none 0 0,.slice none 0 0,.slice none 0 0,.slice none 0 0,.int .i64 0,.int .i64 0,.slice none 0 0]⟩ (.both (.one ⟨some 21,none,.mk 53 1 24 [.slice none 0 0] (.tmp 20) (.tmp 20)⟩ (.one ⟨some 25,none,.mk 3 1 8 [.int .i64 0] (.tmp 24) (.tmp 24)⟩ (.one ⟨some 26,none,.bld [.int .i64 0,.slice none 0 0,.slice none 0 0,.slice none 0 0,.slice none 0 0,.slice none 0 0,.slice none 0 0,.int .i64 0,.int .i64 0,.slice none 0 0] [(0, (2, (.tmp 13))), (4, (1, (.tmp 17))), (5, (1, (.tmp 21))), (6, (1, (.tmp 25)))]⟩ (.one ⟨none,none,.sto true 10 (.tmp 6) (.tmp 26)⟩ .done)))) (.one ⟨some 25,none,.mk 3 1 8 [.int .i64 0] (.tmp 24) (.tmp 24)⟩ (.one ⟨some 21,none,.mk 53 1 24 [.slice none 0 0] (.tmp 20) (.tmp 20)⟩ (.one ⟨some 26,none,.bld [.int .i64 0,.slice none 0 0,.slice none 0 0,.slice none 0 0,.slice none 0 0,.slice none 0 0,.slice none 0 0,.int .i64 0,.int .i64 0,.slice none 0 0] [(0, (2, (.tmp 13))), (4, (1, (.tmp 17))), (5, (1, (.tmp 21))), (6, (1, (.tmp 25)))]⟩ (.one ⟨none,none,.sto true 10 (.tmp 6) (.tmp 26)⟩ .done))))))))) (.both (.one ⟨some 21,none,.mk 53 1 24 [.slice none 0 0] (.tmp 20) (.tmp 20)⟩ (.both (.one ⟨some 17,none,.mk 3 1 8 [.int .i64 0] (.tmp 16) (.tmp 16)⟩ (.both (.one ⟨some 25,none,.mk 3 1 8 [.int .i64 0] (.tmp 24) (.tmp 24)⟩ (.one ⟨some 26,none,.bld [.int .i64 0,.slice none 0 0,.slice none 0 0,.slice none 0 0,.slice none 0 0,.slice none 0 0,.slice none 0 0,.int .i64 0,.int .i64 0,.slice none 0 0] [(0, (2, (.tmp 13))), (4, (1, (.tmp 17))), (5, (1, (.tmp 21))), (6, (1, (.tmp 25)))]⟩ (.one ⟨some 6,none,.alc 75 [.int .i64 0,.slice none 0 0,.slice none 0 0,.slice none 0 0,.slice none 0 0,.slice none 0 0,.slice none 0 0,.int .i64 0,.int .i64 0,.slice none 0 0]⟩ (.one ⟨none,none,.sto true 10 (.tmp 6) (.tmp 26)⟩ .done)))) (.one ⟨some 6,none,.alc 75 [.int .i64 0,.slice none 0 0,.slice none 0 0,.slice none 0 0,.slice none 0 0,.slice none 0 0,.slice none 0 0,.int .i64 0,.int .i64 0,.slice none 0 0]⟩ (.one ⟨some 25,none,.mk 3 1 8 [.int .i64 0] (.tmp 24) (.tmp 24)⟩ (.one ⟨some 26,none,.bld [.int .i64 0,.slice none 0 0,.slice none 0 0,.slice none 0 0,.slice none 0 0,.slice none 0 0,.slice none 0 0,.int .i64 0,.int .i64 0,.slice none 0 0] [(0, (2, (.tmp 13))), (4, (1, (.tmp 17))), (5, (1, (.tmp 21))), (6, (1, (.tmp 25)))]⟩ (.one ⟨none,none,.sto true 10 (.tmp 6) (.tmp 26)⟩ .done)))))) (.both (.one ⟨some 25,none,.mk 3 1 8 [.int .i64 0] (.tmp 24) (.tmp 24)⟩ (.both (.one ⟨some 17,none,.mk 3 1 8 [.int .i64 0] (.tmp 16) (.tmp 16)⟩ (.one ⟨some 26,none,.bld [.int .i64 0,.slice none 0 0,.slice none 0 0,.slice none 0 0,.slice none 0 0,.slice none 0 0,.slice none 0 0,.int .i64 0,.int .i64 0,.slice none 0 0] [(0, (2, (.tmp 13))), (4, (1, (.tmp 17))), (5, (1, (.tmp 21))), (6, (1, (.tmp 25)))]⟩ (.one ⟨some 6,none,.alc 75 [.int .i64 0,.slice none 0 0,.slice none 0 0,.slice none 0 0,.slice none 0 0,.slice none 0 0,.slice none 0 0,.int .i64 0,.int .i64 0,.slice none 0 0]⟩ (.one ⟨none,none,.sto true 10 (.tmp 6) (.tmp 26)⟩ .done)))) (.one ⟨some 6,none,.alc 75 [.int .i64 0,.slice none 0 0,.slice none 0 0,.slice none 0 0,.slice none 0 0,.slice none 0 0,.slice none 0 0,.int .i64 0,.int .i64 0,.slice none 0 0]⟩ (.one ⟨some 17,none,.mk 3 1 8 [.int .i64 0] (.tmp 16) (.tmp 16)⟩ (.one ⟨some 26,none,.bld [.int .i64 0,.slice none 0 0,.slice none 0 0,.slice none 0 0,.slice none 0 0,.slice none 0 0,.slice none 0 0,.int .i64 0,.int .i64 0,.slice none 0 0] [(0, (2, (.tmp 13))), (4, (1, (.tmp 17))), (5, (1, (.tmp 21))), (6, (1, (.tmp 25)))]⟩ (.one ⟨none,none,.sto true 10 (.tmp 6) (.tmp 26)⟩ .done)))))) (.one ⟨some 6,none,.alc 75 [.int .i64 0,.slice none 0 0,.slice none 0 0,.slice none 0 0,.slice none 0 0,.slice none 0 0,.slice none 0 0,.int .i64 0,.int .i64 0,.slice none 0 0]⟩ (.both (.one ⟨some 17,none,.mk 3 1 8 [.int .i64 0] (.tmp 16) (.tmp 16)⟩ (.one ⟨some 25,none,.mk 3 1 8 [.int .i64 0] (.tmp 24) (.tmp 24)⟩ (.one ⟨some 26,none,.bld [.int .i64 0,.slice none 0 0,.slice none 0 0,.slice none 0 0,.slice none 0 0,.slice none 0 0,.slice none 0 0,.int .i64 0,.int .i64 0,.slice none 0 0] [(0, (2, (.tmp 13))), (4, (1, (.tmp 17))), (5, (1, (.tmp 21))), (6, (1, (.tmp 25)))]⟩ (.one ⟨none,none,.sto true 10 (.tmp 6) (.tmp 26)⟩ .done)))) (.one ⟨some 25,none,.mk 3 1 8 [.int .i64 0] (.tmp 24) (.tmp 24)⟩ (.one ⟨some 17,none,.mk 3 1 8 [.int .i64 0] (.tmp 16) (.tmp 16)⟩ (.one ⟨some 26,none,.bld [.int .i64 0,.slice none 0 0,.slice none 0 0,.slice none 0 0,.slice none 0 0,.slice none 0 0,.slice none 0 0,.int .i64 0,.int .i64 0,.slice none 0 0] [(0, (2, (.tmp 13))), (4, (1, (.tmp 17))), (5, (1, (.tmp 21))), (6, (1, (.tmp 25)))]⟩ (.one ⟨none,none,.sto true 10 (.tmp 6) (.tmp 26)⟩ .done))))))))) (.both (.one ⟨some 25,none,.mk 3 1 8 [.int .i64 0] (.tmp 24) (.tmp 24)⟩ (.both (.one ⟨some 17,none,.mk 3 1 8 [.int .i64 0] (.tmp 16) (.tmp 16)⟩ (.both (.one ⟨some 21,none,.mk 53 1 24 [.slice none 0 0] (.tmp 20) (.tmp 20)⟩ (.one ⟨some 26,none,.bld [.int .i64 0,.slice none 0 0,.slice none 0 0,.slice none 0 0,.slice none 0 0,.slice none 0 0,.slice none 0 0,.int .i64 0,.int .i64 0,.slice none 0 0] [(0, (2, (.tmp 13))), (4, (1, (.tmp 17))), (5, (1, (.tmp 21))), (6, (1, (.tmp 25)))]⟩ (.one ⟨some 6,none,.alc 75 [.int .i64 0,.slice none 0 0,.slice none 0 0,.slice none 0 0,.slice none 0 0,.slice none 0 0,.slice none 0 0,.int .i64 0,.int .i64 0,.slice none 0 0]⟩ (.one ⟨none,none,.sto true 10 (.tmp 6) (.tmp 26)⟩ .done)))) (.one ⟨some 6,none,.alc 75 [.int .i64 0,.slice none 0 0,.slice none 0 0,.slice none 0 0,.slice none 0 0,.slice none 0 0,.slice none 0 0,.int .i64 0,.int .i64 0,.slice none 0 0]⟩ (.one ⟨some 21,none,.mk 53 1 24 [.slice none 0 0] (.tmp 20) (.tmp 20)⟩ (.one ⟨some 26,none,.bld [.int .i64 0,.slice none 0 0,.slice none 0 0,.slice none 0 0,.slice none 0 0,.slice none 0 0,.slice none 0 0,.int .i64 0,.int .i64 0,.slice none 0 0] [(0, (2, (.tmp 13))), (4, (1, (.tmp 17))), (5, (1, (.tmp 21))), (6, (1, (.tmp 25)))]⟩ (.one ⟨none,none,.sto true 10 (.tmp 6) (.tmp 26)⟩ .done)))))) (.both (.one ⟨some 21,none,.mk 53 1 24 [.slice none 0 0] (.tmp 20) (.tmp 20)⟩ (.both (.one ⟨some 17,none,.mk 3 1 8 [.int .i64 0] (.tmp 16) (.tmp 16)⟩ (.one ⟨some 26,none,.bld [.int .i64 0,.slice none 0 0,.slice none 0 0,.slice none 0 0,.slice none 0 0,.slice none 0 0,.slice none 0 0,.int .i64 0,.int .i64 0,.slice none 0 0] [(0, (2, (.tmp 13))), (4, (1, (.tmp 17))), (5, (1, (.tmp 21))), (6, (1, (.tmp 25)))]⟩ (.one ⟨some 6,none,.alc 75 [.int .i64 0,.slice none 0 0,.slice none 0 0,.slice none 0 0,.slice none 0 0,.slice none 0 0,.slice none 0 0,.int .i64 0,.int .i64 0,.slice none 0 0]⟩ (.one ⟨none,none,.sto true 10 (.tmp 6) (.tmp 26)⟩ .done)))) (.one ⟨some 6,none,.alc 75 [.int .i64 0,.slice none 0 0,.slice none 0 0,.slice none 0 0,.slice none 0 0,.slice none 0 0,.slice none 0 0,.int .i64 0,.int .i64 0,.slice none 0 0]⟩ (.one ⟨some 17,none,.mk 3 1 8 [.int .i64 0] (.tmp 16) (.tmp 16)⟩ (.one ⟨some 26,none,.bld [.int .i64 0,.slice none 0 0,.slice none 0 0,.slice none 0 0,.slice none 0 0,.slice none 0 0,.slice none 0 0,.int .i64 0,.int .i64 0,.slice none 0 0] [(0, (2, (.tmp 13))), (4, (1, (.tmp 17))), (5, (1, (.tmp 21))), (6, (1, (.tmp 25)))]⟩ (.one ⟨none,none,.sto true 10 (.tmp 6) (.tmp 26)⟩ .done)))))) (.one ⟨some 6,none,.alc 75 [.int .i64 0,.slice none 0 0,.slice none 0 0,.slice none 0 0,.slice none 0 0,.slice none 0 0,.slice none 0 0,.int .i64 0,.int .i64 0,.slice none 0 0]⟩ (.both (.one ⟨some 17,none,.mk 3 1 8 [.int .i64 0] (.tmp 16) (.tmp 16)⟩ (.one ⟨some 21,none,.mk 53 1 24 [.slice none 0 0] (.tmp 20) (.tmp 20)⟩ (.one ⟨some 26,none,.bld [.int .i64 0,.slice none 0 0,.slice none 0 0,.slice none 0 0,.slice none 0 0,.slice none 0 0,.slice none 0 0,.int .i64 0,.int .i64 0,.slice none 0 0] [(0, (2, (.tmp 13))), (4, (1, (.tmp 17))), (5, (1, (.tmp 21))), (6, (1, (.tmp 25)))]⟩ (.one ⟨none,none,.sto true 10 (.tmp 6) (.tmp 26)⟩ .done)))) (.one ⟨some 21,none,.mk 53 1 24 [.slice none 0 0] (.tmp 20) (.tmp 20)⟩ (.one ⟨some 17,none,.mk 3 1 8 [.int .i64 0] (.tmp 16) (.tmp 16)⟩ (.one ⟨some 26,none,.bld [.int .i64 0,.slice none 0 0,.slice none 0 0,.slice none 0 0,.slice none 0 0,.slice none 0 0,.slice none 0 0,.int .i64 0,.int .i64 0,.slice none 0 0] [(0, (2, (.tmp 13))), (4, (1, (.tmp 17))), (5, (1, (.tmp 21))), (6, (1, (.tmp 25)))]⟩ (.one ⟨none,none,.sto true 10 (.tmp 6) (.tmp 26)⟩ .done))))))))) (.one ⟨some 6,none,.alc 75 [.int .i64 0,.slice none 0 0,.slice none 0 0,.slice none 0 0,.slice none 0 0,.slice none 0 0,.slice none 0 0,.int .i64 0,.int .i64 0,.slice none 0 0]⟩ (.both (.one ⟨some 17,none,.mk 3 1 8 [.int .i64 0] (.tmp 16) (.tmp 16)⟩ (.both (.one ⟨some 21,none,.mk 53 1 24 [.slice none 0 0] (.tmp 20) (.tmp 20)⟩ (.one ⟨some 25,none,.mk 3 1 8 [.int .i64 0] (.tmp 24) (.tmp 24)⟩ (.one ⟨some 26,none,.bld [.int .i64 0,.slice none 0 0,.slice none 0 0,.slice none 0 0,.slice none 0 0,.slice none 0 0,.slice none 0 0,.int .i64 0,.int .i64 0,.slice none 0 0] [(0, (2, (.tmp 13))), (4, (1, (.tmp 17))), (5, (1, (.tmp 21))), (6, (1, (.tmp 25)))]⟩ (.one ⟨none,none,.sto true 10 (.tmp 6) (.tmp 26)⟩ .done)))) (.one ⟨some 25,none,.mk 3 1 8 [.int .i64 0] (.tmp 24) (.tmp 24)⟩ (.one ⟨some 21,none,.mk 53 1 24 [.slice none 0 0] (.tmp 20) (.tmp 20)⟩ (.one ⟨some 26,none,.bld [.int .i64 0,.slice none 0 0,.slice none 0 0,.slice none 0 0,.slice none 0 0,.slice none 0 0,.slice none 0 0,.int .i64 0,.int .i64 0,.slice none 0 0] [(0, (2, (.tmp 13))), (4, (1, (.tmp 17))), (5, (1, (.tmp 21))), (6, (1, (.tmp 25)))]⟩ (.one ⟨none,none,.sto true 10 (.tmp 6) (.tmp 26)⟩ .done)))))) (.both (.one ⟨some 21,none,.mk 53 1 24 [.slice none 0 0] (.tmp 20) (.tmp 20)⟩ (.both (.one ⟨some 17,none,.mk 3 1 8 [.int .i64 0] (.tmp 16) (.tmp 16)⟩ (.one ⟨some 25,none,.mk 3 1 8 [.int .i64 0] (.tmp 24) (.tmp 24)⟩ (.one ⟨some 26,none,.bld [.int .i64 0,.slice none 0 0,.slice none 0 0,.slice none 0 0,.slice none 0 0,.slice none 0 0,.slice none 0 0,.int .i64 0,.int .i64 0,.slice none 0 0] [(0, (2, (.tmp 13))), (4, (1, (.tmp 17))), (5, (1, (.tmp 21))), (6, (1, (.tmp 25)))]⟩ (.one ⟨none,none,.sto true 10 (.tmp 6) (.tmp 26)⟩ .done)))) (.one ⟨some 25,none,.mk 3 1 8 [.int .i64 0] (.tmp 24) (.tmp 24)⟩ (.one ⟨some 17,none,.mk 3 1 8 [.int .i64 0] (.tmp 16) (.tmp 16)⟩ (.one ⟨some 26,none,.bld [.int .i64 0,.slice none 0 0,.slice none 0 0,.slice none 0 0,.slice none 0 0,.slice none 0 0,.slice none 0 0,.int .i64 0,.int .i64 0,.slice none 0 0] [(0, (2, (.tmp 13))), (4, (1, (.tmp 17))), (5, (1, (.tmp 21))), (6, (1, (.tmp 25)))]⟩ (.one ⟨none,none,.sto true 10 (.tmp 6) (.tmp 26)⟩ .done)))))) (.one ⟨some 25,none,.mk 3 1 8 [.int .i64 0] (.tmp 24) (.tmp 24)⟩ (.both (.one ⟨some 17,none,.mk 3 1 8 [.int .i64 0] (.tmp 16) (.tmp 16)⟩ (.one ⟨some 21,none,.mk 53 1 24 [.slice none 0 0] (.tmp 20) (.tmp 20)⟩ (.one ⟨some 26,none,.bld [.int .i64 0,.slice none 0 0,.slice none 0 0,.slice none 0 0,.slice none 0 0,.slice none 0 0,.slice none 0 0,.int .i64 0,.int .i64 0,.slice none 0 0] [(0, (2, (.tmp 13))), (4, (1, (.tmp 17))), (5, (1, (.tmp 21))), (6, (1, (.tmp 25)))]⟩ (.one ⟨none,none,.sto true 10 (.tmp 6) (.tmp 26)⟩ .done)))) (.one ⟨some 21,none,.mk 53 1 24 [.slice none 0 0] (.tmp 20) (.tmp 20)⟩ (.one ⟨some 17,none,.mk 3 1 8 [.int .i64 0] (.tmp 16) (.tmp 16)⟩ (.one ⟨some 26,none,.bld [.int .i64 0,.slice none 0 0,.slice none 0 0,.slice none 0 0,.slice none 0 0,.slice none 0 0,.slice none 0 0,.int .i64 0,.int .i64 0,.slice none 0 0] [(0, (2, (.tmp 13))), (4, (1, (.tmp 17))), (5, (1, (.tmp 21))), (6, (1, (.tmp 25)))]⟩ (.one ⟨none,none,.sto true 10 (.tmp 6) (.tmp 26)⟩ .done)))))))))))))))))))))))
 (.seq
 (.ops [
 ⟨some 27,none,.fad 0 false 1 (.tmp 2)⟩,
⟨some 28,none,.ld false 1 (.tmp 27)⟩,
⟨some 7,none,.mv (.tmp 28)⟩])
 (.seq
 (.seq
 (.ops [
 ⟨some 29,none,.fad 1 false 1 (.tmp 2)⟩,
⟨some 30,none,.ld false 1 (.tmp 29)⟩,
⟨some 31,none,.len (.tmp 30)⟩,
⟨some 32,none,.mv (.const (.int .i64 0))⟩])
 (.block 0
 (.loop
 (.seq
 (.ops [
 ⟨some 33,none,.bin .lss (.tmp 32) (.tmp 31)⟩])
 (.seq
 (.cond (.tmp 33)
 .skip
 (.exit 0))
 (.seq
 (.block 1
 (.seq
 (.ops [
 ⟨some 34,none,.mv (.tmp 32)⟩,
⟨some 8,none,.mv (.tmp 34)⟩])
 (.seq
 (.ops [
 ⟨some 35,none,.fad 6 false 1 (.tmp 6)⟩,
⟨some 36,none,.ld false 1 (.tmp 35)⟩,
⟨some 37,none,.mv (.tmp 8)⟩,
⟨some 38,none,.mv (.tmp 7)⟩,
⟨some 39,none,.idx 1 (.tmp 36) (.tmp 37)⟩,
⟨none,none,.sto false 1 (.tmp 39) (.tmp 38)⟩])
 (.ops [
 ⟨some 40,none,.mv (.tmp 7)⟩,
⟨some 41,none,.mv (.tmp 1)⟩,
⟨some 42,none,.mv (.tmp 8)⟩,
⟨some 43,none,.idx 1 (.tmp 41) (.tmp 42)⟩,
⟨some 44,none,.ld true 1 (.tmp 43)⟩,
⟨some 45,none,.call (.func 30) [.tmp 44]⟩,
⟨some 46,none,.bin .add (.tmp 40) (.tmp 45)⟩,
⟨some 7,none,.mv (.tmp 46)⟩]))))
 (.ops [
 ⟨some 47,none,.bin .add (.tmp 32) (.const (.int .i64 1))⟩,
⟨some 32,none,.mv (.tmp 47)⟩])))))))
 (.seq
 (.ops [
 ⟨some 48,none,.mv (.tmp 7)⟩,
⟨some 49,none,.fad 7 false 1 (.tmp 6)⟩,
⟨none,none,.sto false 1 (.tmp 49) (.tmp 48)⟩])
 (.seq
 (.ops [
 ⟨some 50,none,.mv (.tmp 7)⟩,
⟨some 51,none,.fad 1 false 1 (.tmp 2)⟩,
⟨some 52,none,.ld false 1 (.tmp 51)⟩,
⟨some 53,none,.len (.tmp 52)⟩,
⟨some 54,none,.bin .sub (.tmp 53) (.const (.int .i64 1))⟩,
⟨some 55,none,.bin .add (.tmp 50) (.tmp 54)⟩,
⟨some 7,none,.mv (.tmp 55)⟩])
 (.seq
 (.seq
 (.ops [
 ⟨some 56,none,.mv (.tmp 7)⟩,
⟨some 57,none,.bin .gtr (.tmp 56) (.const (.int .i64 32768))⟩])
 (.cond (.tmp 57)
 (.seq
 (.ops [
 ⟨some 58,none,.bld [.slice none 0 0,.int .i64 0] []⟩,
⟨none,none,.sto true 2 (.tmp 4) (.tmp 58)⟩,
⟨some 5,none,.mv (.const (.int .i64 2))⟩])
 .ret)
 .skip))
 (.seq
 (.ops [
 ⟨some 59,none,.fad 1 false 1 (.tmp 2)⟩,
⟨some 60,none,.ld false 1 (.tmp 59)⟩,
⟨some 61,none,.len (.tmp 60)⟩,
⟨some 62,none,.bin .sub (.tmp 61) (.const (.int .i64 1))⟩,
⟨some 9,none,.mv (.tmp 62)⟩])
 (.seq
 (.ops [
 ⟨some 63,none,.mv (.tmp 9)⟩,
⟨some 64,none,.mv (.tmp 1)⟩,
⟨some 65,none,.mv (.tmp 9)⟩,
⟨some 66,none,.idx 1 (.tmp 64) (.tmp 65)⟩,
⟨some 67,none,.ld true 1 (.tmp 66)⟩,
⟨some 68,none,.call (.func 31) [.tmp 6,.tmp 63,.tmp 67]⟩])
 (.seq
 (.seq
 (.ops [
 ⟨some 10,none,.mv (.const (.int .i64 0))⟩])
 (.block 2
 (.loop
 (.seq
 (.seq
 (.ops [
 ⟨some 69,none,.mv (.tmp 10)⟩,
⟨some 70,none,.mv (.tmp 9)⟩,
⟨some 71,none,.bin .lss (.tmp 69) (.tmp 70)⟩])
 (.cond (.tmp 71)
 .skip
 (.exit 2)))
 (.seq
 (.block 3
 (.seq
 (.ops [
 ⟨some 74,none,.mv (.tmp 10)⟩,
⟨some 75,none,.mv (.tmp 1)⟩,
⟨some 76,none,.mv (.tmp 10)⟩,
⟨some 77,none,.idx 1 (.tmp 75) (.tmp 76)⟩,
⟨some 78,none,.ld true 1 (.tmp 77)⟩,
⟨some 79,none,.call (.func 31) [.tmp 6,.tmp 74,.tmp 78]⟩])
 (.seq
 (.ops [
 ⟨some 80,none,.fad 2 false 1 (.tmp 6)⟩,
⟨some 81,none,.ld false 1 (.tmp 80)⟩,
⟨some 82,none,.len (.tmp 81)⟩,
⟨some 83,none,.bin .gtr (.tmp 82) (.const (.int .i64 16384))⟩])
 (.cond (.tmp 83)
 (.seq
 (.ops [
 ⟨some 84,none,.bld [.slice none 0 0,.int .i64 0] []⟩,
⟨none,none,.sto true 2 (.tmp 4) (.tmp 84)⟩,
⟨some 5,none,.mv (.const (.int .i64 2))⟩])
 .ret)
 .skip))))
 (.ops [
 ⟨some 72,none,.mv (.tmp 10)⟩,
⟨some 73,none,.bin .add (.tmp 72) (.const (.int .i64 1))⟩,
⟨some 10,none,.mv (.tmp 73)⟩]))))))
 (.seq
 (.seq
 (.ops [
 ⟨some 85,none,.fad 2 false 1 (.tmp 6)⟩,
⟨some 86,none,.ld false 1 (.tmp 85)⟩,
⟨some 87,none,.len (.tmp 86)⟩,
⟨some 88,none,.bin .gtr (.tmp 87) (.const (.int .i64 16384))⟩])
 (.cond (.tmp 88)
 (.seq
 (.ops [
 ⟨some 89,none,.bld [.slice none 0 0,.int .i64 0] []⟩,
⟨none,none,.sto true 2 (.tmp 4) (.tmp 89)⟩,
⟨some 5,none,.mv (.const (.int .i64 2))⟩])
 .ret)
 .skip))
 (.seq
 (.ops [
 ⟨some 91,none,.call (.func 32) [.tmp 6]⟩,
⟨some 90,none,.mv (.tmp 91)⟩,
⟨some 92,none,.ext (.tmp 90) 0⟩,
⟨some 93,none,.ext (.tmp 90) 1⟩,
⟨some 11,none,.mv (.tmp 92)⟩,
⟨some 12,none,.mv (.tmp 93)⟩])
 (.seq
 (.seq
 (.ops [
 ⟨some 94,none,.mv (.tmp 12)⟩,
⟨some 95,none,.bin .neq (.tmp 94) (.const (.int .i64 0))⟩])
 (.cond (.tmp 95)
 (.seq
 (.ops [
 ⟨some 96,none,.bld [.slice none 0 0,.int .i64 0] []⟩,
⟨none,none,.sto true 2 (.tmp 4) (.tmp 96)⟩,
⟨some 5,none,.mv (.const (.int .i64 2))⟩])
 .ret)
 .skip))
 (.seq
 (.ops [
 ⟨some 97,none,.mv (.tmp 11)⟩,
⟨some 98,none,.mv (.tmp 7)⟩,
⟨some 99,none,.bld [.slice none 0 0,.int .i64 0] [(0, (1, (.tmp 97))), (1, (1, (.tmp 98)))]⟩,
⟨none,none,.sto true 2 (.tmp 4) (.tmp 99)⟩,
⟨some 5,none,.mv (.const (.int .i64 0))⟩])
 .ret))))))))))))))
theorem f_choose_Of : compF Try.prog 11 = some (100, c_choose_Of, [(.cell 4 true 2), (.tmp 5)]) := by kernel_rfl
def c_scref10_Ends : VC :=
 (.seq
 (.ops [
 ⟨some 2,none,.box 36 (.tmp 0)⟩,
⟨some 3,none,.box 36 (.tmp 1)⟩,
⟨some 4,none,.mv (.const (.bool false))⟩])
 (.seq
 (.ops [
 ⟨some 5,none,.fad 0 false 1 (.tmp 2)⟩,
⟨some 6,none,.ld false 1 (.tmp 5)⟩,
⟨some 7,none,.fad 0 false 1 (.tmp 3)⟩,
⟨some 8,none,.ld false 1 (.tmp 7)⟩,
⟨some 9,none,.bin .eql (.tmp 6) (.tmp 8)⟩,
⟨some 10,none,.mv (.tmp 9)⟩,
⟨some 11,some (10,true),.fad 1 false 1 (.tmp 2)⟩,
⟨some 12,some (10,true),.ld false 1 (.tmp 11)⟩,
⟨some 13,some (10,true),.fad 1 false 1 (.tmp 3)⟩,
⟨some 14,some (10,true),.ld false 1 (.tmp 13)⟩,
⟨some 15,some (10,true),.bin .eql (.tmp 12) (.tmp 14)⟩,
⟨some 16,none,.pick (.tmp 10) (.tmp 15) (.const (.bool false))⟩,
⟨some 4,none,.mv (.tmp 16)⟩])
 .ret))
theorem f_scref10_Ends : compF Try.prog 14 = some (17, c_scref10_Ends, [.tmp 4]) := by kernel_rfl
def c_scref10_Run : VC :=
 (.seq
 (.ops [
 ⟨some 3,none,.box 30 (.tmp 0)⟩,
⟨(some 6), none, (.alc 36 [(.int .i64 0), (.string ⟨#[]⟩), (.int .i64 0)])⟩])
 (.seq
 (.par true (.one ⟨some 9,none,.mv (.tmp 1)⟩ (.one ⟨some 10,none,.ld true 2 (.tmp 3)⟩ (.one ⟨some 12,none,.mv (.tmp 2)⟩ (.both (.one ⟨some 8,none,.ld true 2 (.tmp 3)⟩ (.both (.one ⟨some 11,none,.callM true (.func 35) [.tmp 10]⟩ (.both (.one ⟨some 13,none,.callM true (.func 34) [.tmp 8,.tmp 9,.tmp 11,.tmp 12]⟩ (.one ⟨(some 7), none, (.alc 87 [(.int .i64 0), (.int .u32 0), (.int .u32 0), (.int .u32 0), (.int .u32 0), (.int .u32 0), (.int .u32 0), (.int .u32 0), (.int .u32 0), (.int .u32 0), (.int .u32 0), (.int .u32 0), (.int .u32 0), (.int .u32 0), (.int .u32 0), (.int .u32 0), (.int .u32 0), (.slice none 0 0), (.int .i64 0), (.string ⟨#[]⟩), (.int .i64 0), (.int .i64 0)])⟩ (.one ⟨none,none,.sto true 22 (.tmp 7) (.tmp 13)⟩ .done))) (.one ⟨(some 7), none, (.alc 87 [(.int .i64 0), (.int .u32 0), (.int .u32 0), (.int .u32 0), (.int .u32 0), (.int .u32 0), (.int .u32 0), (.int .u32 0), (.int .u32 0), (.int .u32 0), (.int .u32 0), (.int .u32 0), (.int .u32 0), (.int .u32 0), (.int .u32 0), (.int .u32 0), (.int .u32 0), (.slice none 0 0), (.int .i64 0), (.string ⟨#[]⟩), (.int .i64 0), (.int .i64 0)])⟩ (.one ⟨some 13,none,.callM true (.func 34) [.tmp 8,.tmp 9,.tmp 11,.tmp 12]⟩ (.one ⟨none,none,.sto true 22 (.tmp 7) (.tmp 13)⟩ .done))))) (.one ⟨(some 7), none, (.alc 87 [(.int .i64 0), (.int .u32 0), (.int .u32 0), (.int .u32 0), (.int .u32 0), (.int .u32 0), (.int .u32 0), (.int .u32 0), (.int .u32 0), (.int .u32 0), (.int .u32 0), (.int .u32 0), (.int .u32 0), (.int .u32 0), (.int .u32 0), (.int .u32 0), (.int .u32 0), (.slice none 0 0), (.int .i64 0), (.string ⟨#[]⟩), (.int .i64 0), (.int .i64 0)])⟩ (.one ⟨some 11,none,.callM true (.func 35) [.tmp 10]⟩ (.one ⟨some 13,none,.callM true (.func 34) [.tmp 8,.tmp 9,.tmp 11,.tmp 12]⟩ (.one ⟨none,none,.sto true 22 (.tmp 7) (.tmp 13)⟩ .done)))))) (.both (.one ⟨some 11,none,.callM true (.func 35) [.tmp 10]⟩ (.one ⟨some 8,none,.ld true 2 (.tmp 3)⟩ (.both (.one ⟨some 13,none,.callM true (.func 34) [.tmp 8,.tmp 9,.tmp 11,.tmp 12]⟩ (.one ⟨(some 7), none, (.alc 87 [(.int .i64 0), (.int .u32 0), (.int .u32 0), (.int .u32 0), (.int .u32 0), (.int .u32 0), (.int .u32 0), (.int .u32 0), (.int .u32 0), (.int .u32 0), (.int .u32 0), (.int .u32 0), (.int .u32 0), (.int .u32 0), (.int .u32 0), (.int .u32 0), (.int .u32 0), (.slice none 0 0), (.int .i64 0), (.string ⟨#[]⟩), (.int .i64 0), (.int .i64 0)])⟩ (.one ⟨none,none,.sto true 22 (.tmp 7) (.tmp 13)⟩ .done))) (.one ⟨(some 7), none, (.alc 87 [(.int .i64 0), (.int .u32 0), (.int .u32 0), (.int .u32 0), (.int .u32 0), (.int .u32 0), (.int .u32 0), (.int .u32 0), (.int .u32 0), (.int .u32 0), (.int .u32 0), (.int .u32 0), (.int .u32 0), (.int .u32 0), (.int .u32 0), (.int .u32 0), (.int .u32 0), (.slice none 0 0), (.int .i64 0), (.string ⟨#[]⟩), (.int .i64 0), (.int .i64 0)])⟩ (.one ⟨some 13,none,.callM true (.func 34) [.tmp 8,.tmp 9,.tmp 11,.tmp 12]⟩ (.one ⟨none,none,.sto true 22 (.tmp 7) (.tmp 13)⟩ .done)))))) (.one ⟨(some 7), none, (.alc 87 [(.int .i64 0), (.int .u32 0), (.int .u32 0), (.int .u32 0), (.int .u32 0), (.int .u32 0), (.int .u32 0), (.int .u32 0), (.int .u32 0), (.int .u32 0), (.int .u32 0), (.int .u32 0), (.int .u32 0), (.int .u32 0), (.int .u32 0), (.int .u32 0), (.int .u32 0), (.slice none 0 0), (.int .i64 0), (.string ⟨#[]⟩), (.int .i64 0), (.int .i64 0)])⟩ (.both (.one ⟨some 8,none,.ld true 2 (.tmp 3)⟩ (.one ⟨some 11,none,.callM true (.func 35) [.tmp 10]⟩ (.one ⟨some 13,none,.callM true (.func 34) [.tmp 8,.tmp 9,.tmp 11,.tmp 12]⟩ (.one ⟨none,none,.sto true 22 (.tmp 7) (.tmp 13)⟩ .done)))) (.one ⟨some 11,none,.callM true (.func 35) [.tmp 10]⟩ (.one ⟨some 8,none,.ld true 2 (.tmp 3)⟩ (.one ⟨some 13,none,.callM true (.func 34) [.tmp 8,.tmp 9,.tmp 11,.tmp 12]⟩ (.one ⟨none,none,.sto true 22 (.tmp 7) (.tmp 13)⟩ .done))))))))))))
 (.seq
 (.seq
 (.ops [
 ⟨some 14,none,.fad 21 false 1 (.tmp 7)⟩,
⟨some 15,none,.ld false 1 (.tmp 14)⟩,
⟨some 16,none,.bin .eql (.tmp 15) (.const (.int .i64 0))⟩])
 (.cond (.tmp 16)
 (.ops [
 ⟨some 17,none,.fad 21 false 1 (.tmp 7)⟩,
⟨none,none,.sto false 1 (.tmp 17) (.const (.int .i64 5))⟩])
 .skip))
 (.seq
 (.ops [
 ⟨some 18,none,.fad 21 false 1 (.tmp 7)⟩,
⟨some 19,none,.ld false 1 (.tmp 18)⟩,
⟨some 20,none,.fad 19 false 1 (.tmp 7)⟩,
⟨some 21,none,.ld false 1 (.tmp 20)⟩,
⟨some 22,none,.fad 20 false 1 (.tmp 7)⟩,
⟨some 23,none,.ld false 1 (.tmp 22)⟩,
⟨(some 24), none, (.bld [(.int .i64 0), (.string ⟨#[]⟩), (.int .i64 0)] [(0, (1, (.tmp 19))), (1, (1, (.tmp 21))), (2, (1, (.tmp 23)))])⟩,
⟨none,none,.sto true 3 (.tmp 6) (.tmp 24)⟩])
 .ret))))
theorem f_scref10_Run : compF Try.prog 15 = some (25, c_scref10_Run, [(.cell 6 true 3)]) := by kernel_rfl
def c_scref29_Words : VC :=
 (.seq
 (.ops [
 ⟨some 2,none,.mv (.const (.int .i64 0))⟩])
 (.seq
 (.ops [
 ⟨some 3,none,.mv (.const (.int .i64 0))⟩])
 (.seq
 (.seq
 (.ops [
 ⟨some 4,none,.mv (.const (.int .i64 0))⟩])
 (.block 0
 (.loop
 (.seq
 (.seq
 (.ops [
 ⟨some 5,none,.mv (.tmp 4)⟩,
⟨some 6,none,.mv (.tmp 0)⟩,
⟨some 7,none,.len (.tmp 6)⟩,
⟨some 8,none,.bin .lss (.tmp 5) (.tmp 7)⟩])
 (.cond (.tmp 8)
 .skip
 (.exit 0)))
 (.seq
 (.block 1
 (.ops [
 ⟨some 11,none,.mv (.tmp 3)⟩,
⟨some 12,none,.mv (.tmp 0)⟩,
⟨some 13,none,.mv (.tmp 4)⟩,
⟨some 14,none,.idx 1 (.tmp 12) (.tmp 13)⟩,
⟨some 15,none,.ld true 1 (.tmp 14)⟩,
⟨some 16,none,.call (.func 36) [.tmp 15]⟩,
⟨some 17,none,.bin .add (.tmp 11) (.tmp 16)⟩,
⟨some 3,none,.mv (.tmp 17)⟩]))
 (.ops [
 ⟨some 9,none,.mv (.tmp 4)⟩,
⟨some 10,none,.bin .add (.tmp 9) (.const (.int .i64 1))⟩,
⟨some 4,none,.mv (.tmp 10)⟩]))))))
 (.seq
 (.ops [
 ⟨some 18,none,.mv (.tmp 3)⟩,
⟨some 2,none,.mv (.tmp 18)⟩])
 .ret))))
theorem f_scref29_Words : compF Try.prog 18 = some (19, c_scref29_Words, [.tmp 2]) := by kernel_rfl
def c_scref24_Right : VC :=
 (.seq
 (.ops [
 ⟨some 1,none,.box 24 (.tmp 0)⟩,
⟨some 2,none,.mv (.const (.bool false))⟩])
 (.seq
 (.seq
 (.ops [
 ⟨some 4,none,.fad 0 false 1 (.tmp 1)⟩,
⟨some 5,none,.ld false 1 (.tmp 4)⟩,
⟨some 6,none,.bin .lss (.tmp 5) (.const (.int .i64 0))⟩,
⟨some 7,none,.mv (.tmp 6)⟩,
⟨some 8,some (7,false),.fad 0 false 1 (.tmp 1)⟩,
⟨some 9,some (7,false),.ld false 1 (.tmp 8)⟩,
⟨some 10,some (7,false),.bin .gtr (.tmp 9) (.const (.int .i64 1048576))⟩,
⟨some 11,none,.pick (.tmp 7) (.const (.bool true)) (.tmp 10)⟩,
⟨some 12,none,.mv (.tmp 11)⟩,
⟨some 13,some (12,false),.fad 1 false 1 (.tmp 1)⟩,
⟨some 14,some (12,false),.ld false 1 (.tmp 13)⟩,
⟨some 15,some (12,false),.len (.tmp 14)⟩,
⟨some 16,some (12,false),.bin .eql (.tmp 15) (.const (.int .i64 0))⟩,
⟨some 17,none,.pick (.tmp 12) (.const (.bool true)) (.tmp 16)⟩])
 (.cond (.tmp 17)
 (.seq
 (.ops [
 ⟨some 2,none,.mv (.const (.bool false))⟩])
 .ret)
 .skip))
 (.seq
 (.seq
 (.ops [
 ⟨some 3,none,.mv (.const (.int .i64 0))⟩])
 (.block 0
 (.loop
 (.seq
 (.seq
 (.ops [
 ⟨some 18,none,.mv (.tmp 3)⟩,
⟨some 19,none,.fad 1 false 1 (.tmp 1)⟩,
⟨some 20,none,.ld false 1 (.tmp 19)⟩,
⟨some 21,none,.len (.tmp 20)⟩,
⟨some 22,none,.bin .lss (.tmp 18) (.tmp 21)⟩])
 (.cond (.tmp 22)
 .skip
 (.exit 0)))
 (.seq
 (.block 1
 (.seq
 (.ops [
 ⟨some 25,none,.fad 1 false 1 (.tmp 1)⟩,
⟨some 26,none,.ld false 1 (.tmp 25)⟩,
⟨some 27,none,.mv (.tmp 3)⟩,
⟨some 28,none,.idx 2 (.tmp 26) (.tmp 27)⟩,
⟨some 29,none,.ld true 2 (.tmp 28)⟩,
⟨some 30,none,.mv (.tmp 3)⟩,
⟨some 31,none,.fad 0 false 1 (.tmp 1)⟩,
⟨some 32,none,.ld false 1 (.tmp 31)⟩,
⟨some 33,none,.call (.func 37) [.tmp 29,.tmp 30,.tmp 32]⟩,
⟨some 34,none,.un .not (.tmp 33)⟩])
 (.cond (.tmp 34)
 (.seq
 (.ops [
 ⟨some 2,none,.mv (.const (.bool false))⟩])
 .ret)
 .skip)))
 (.ops [
 ⟨some 23,none,.mv (.tmp 3)⟩,
⟨some 24,none,.bin .add (.tmp 23) (.const (.int .i64 1))⟩,
⟨some 3,none,.mv (.tmp 24)⟩]))))))
 (.seq
 (.ops [
 ⟨some 2,none,.mv (.const (.bool true))⟩])
 .ret))))
theorem f_scref24_Right : compF Try.prog 19 = some (35, c_scref24_Right, [.tmp 2]) := by kernel_rfl
def c_scref29_Hold : VC :=
 (.seq
 (.ops [
 ⟨some 2,none,.box 24 (.tmp 0)⟩,
⟨some 4,none,.mv (.const (.bool false))⟩])
 (.seq
 (.seq
 (.ops [
 ⟨some 6,none,.mv (.tmp 1)⟩,
⟨some 7,none,.len (.tmp 6)⟩,
⟨some 8,none,.fad 1 false 1 (.tmp 2)⟩,
⟨some 9,none,.ld false 1 (.tmp 8)⟩,
⟨some 10,none,.len (.tmp 9)⟩,
⟨some 11,none,.bin .neq (.tmp 7) (.tmp 10)⟩])
 (.cond (.tmp 11)
 (.seq
 (.ops [
 ⟨some 4,none,.mv (.const (.bool false))⟩])
 .ret)
 .skip))
 (.seq
 (.seq
 (.ops [
 ⟨some 5,none,.mv (.const (.int .i64 0))⟩])
 (.block 0
 (.loop
 (.seq
 (.seq
 (.ops [
 ⟨some 12,none,.mv (.tmp 5)⟩,
⟨some 13,none,.mv (.tmp 1)⟩,
⟨some 14,none,.len (.tmp 13)⟩,
⟨some 15,none,.bin .lss (.tmp 12) (.tmp 14)⟩])
 (.cond (.tmp 15)
 .skip
 (.exit 0)))
 (.seq
 (.block 1
 (.seq
 (.par false (.one ⟨some 18,none,.fad 1 false 1 (.tmp 2)⟩ (.one ⟨some 19,none,.ld false 1 (.tmp 18)⟩ (.one ⟨some 20,none,.mv (.tmp 5)⟩ (.one ⟨some 21,none,.idx 2 (.tmp 19) (.tmp 20)⟩ (.one ⟨some 22,none,.ld true 2 (.tmp 21)⟩ (.one ⟨some 23,none,.fad 1 false 1 (.tmp 2)⟩ (.one ⟨some 24,none,.ld false 1 (.tmp 23)⟩ (.one ⟨some 25,none,.mv (.tmp 5)⟩ (.one ⟨some 26,none,.idx 2 (.tmp 24) (.tmp 25)⟩ (.one ⟨some 27,none,.ld true 2 (.tmp 26)⟩ (.one ⟨some 28,none,.call (.func 24) [.tmp 27]⟩ (.one ⟨some 29,none,.mv (.tmp 1)⟩ (.one ⟨some 30,none,.mv (.tmp 5)⟩ (.one ⟨some 31,none,.idx 1 (.tmp 29) (.tmp 30)⟩ (.one ⟨some 32,none,.ld true 1 (.tmp 31)⟩ (.one ⟨some 33,none,.call (.func 38) [(.tmp 22), (.tmp 28), (.tmp 32), (.const (.int .i64 8))]⟩ (.one ⟨some 34,none,.un .not (.tmp 33)⟩ .done))))))))))))))))))
 (.cond (.tmp 34)
 (.seq
 (.ops [
 ⟨some 4,none,.mv (.const (.bool false))⟩])
 .ret)
 .skip)))
 (.ops [
 ⟨some 16,none,.mv (.tmp 5)⟩,
⟨some 17,none,.bin .add (.tmp 16) (.const (.int .i64 1))⟩,
⟨some 5,none,.mv (.tmp 17)⟩]))))))
 (.seq
 (.ops [
 ⟨some 4,none,.mv (.const (.bool true))⟩])
 .ret))))
theorem f_scref29_Hold : compF Try.prog 20 = some (35, c_scref29_Hold, [.tmp 4]) := by kernel_rfl
def c_live_Of : VC :=
 (.seq
 (.ops [
 ⟨some 1,none,.box 52 (.tmp 0)⟩,
⟨some 2,none,.alc 63 [.slice none 0 0,.slice none 0 0]⟩])
 (.seq
 (.ops [
 ⟨some 10,none,.ld true 2 (.tmp 1)⟩,
⟨some 11,none,.callA (.func 40) [.tmp 10]⟩,
⟨some 3,none,.mv (.tmp 11)⟩])
 (.seq
 (.block 0
 (.loop
 (.seq
 (.seq
 (.ops [
 ⟨some 12,none,.mv (.tmp 3)⟩,
⟨some 13,none,.nck (.tmp 12)⟩,
⟨some 14,none,.fad 6 false 1 (.tmp 13)⟩,
⟨some 15,none,.ld false 1 (.tmp 14)⟩,
⟨some 16,none,.len (.tmp 15)⟩,
⟨some 17,none,.bin .gtr (.tmp 16) (.const (.int .i64 0))⟩])
 (.cond (.tmp 17)
 .skip
 (.exit 0)))
 (.block 1
 (.seq
 (.ops [
 ⟨some 18,none,.mv (.tmp 3)⟩,
⟨some 19,none,.nck (.tmp 18)⟩,
⟨some 20,none,.fad 6 false 1 (.tmp 19)⟩,
⟨some 21,none,.ld false 1 (.tmp 20)⟩,
⟨some 22,none,.len (.tmp 21)⟩,
⟨some 23,none,.bin .sub (.tmp 22) (.const (.int .i64 1))⟩,
⟨some 4,none,.mv (.tmp 23)⟩])
 (.seq
 (.ops [
 ⟨some 24,none,.mv (.tmp 3)⟩,
⟨some 25,none,.nck (.tmp 24)⟩,
⟨some 26,none,.fad 6 false 1 (.tmp 25)⟩,
⟨some 27,none,.ld false 1 (.tmp 26)⟩,
⟨some 28,none,.mv (.tmp 4)⟩,
⟨some 29,none,.idx 1 (.tmp 27) (.tmp 28)⟩,
⟨some 30,none,.ld false 1 (.tmp 29)⟩,
⟨some 5,none,.mv (.tmp 30)⟩])
 (.seq
 (.ops [
 ⟨some 31,none,.mv (.tmp 3)⟩,
⟨some 32,none,.mv (.tmp 3)⟩,
⟨some 33,none,.nck (.tmp 32)⟩,
⟨some 34,none,.fad 6 false 1 (.tmp 33)⟩,
⟨some 35,none,.ld false 1 (.tmp 34)⟩,
⟨some 36,none,.mv (.tmp 4)⟩,
⟨some 37,none,.sl 1 (.tmp 35) none (some (.tmp 36))⟩,
⟨some 38,none,.nck (.tmp 31)⟩,
⟨some 39,none,.fad 6 false 1 (.tmp 38)⟩,
⟨none,none,.sto false 1 (.tmp 39) (.tmp 37)⟩])
 (.seq
 (.ops [
 ⟨some 40,none,.mv (.tmp 3)⟩,
⟨some 41,none,.nck (.tmp 40)⟩,
⟨some 42,none,.fad 7 false 1 (.tmp 41)⟩,
⟨some 43,none,.ld false 1 (.tmp 42)⟩,
⟨some 44,none,.mv (.tmp 5)⟩,
⟨some 45,none,.idx 1 (.tmp 43) (.tmp 44)⟩,
⟨none,none,.sto false 1 (.tmp 45) (.const (.bool false))⟩])
 (.seq
 (.ops [
 ⟨some 46,none,.mv (.tmp 3)⟩,
⟨some 47,none,.mv (.tmp 5)⟩,
⟨some 48,none,.call (.func 41) [.tmp 46,.tmp 47]⟩])
 (.cond (.tmp 48)
 (.seq
 (.ops [
 ⟨some 49,none,.mv (.tmp 3)⟩,
⟨some 50,none,.nck (.tmp 49)⟩,
⟨some 51,none,.fad 1 false 1 (.tmp 50)⟩,
⟨some 52,none,.ld false 1 (.tmp 51)⟩,
⟨some 53,none,.mv (.tmp 5)⟩,
⟨some 54,none,.idx 1 (.tmp 52) (.tmp 53)⟩,
⟨some 55,none,.ld false 1 (.tmp 54)⟩,
⟨some 56,none,.len (.tmp 55)⟩,
⟨some 57,none,.mv (.const (.int .i64 0))⟩])
 (.block 2
 (.loop
 (.seq
 (.ops [
 ⟨some 58,none,.bin .lss (.tmp 57) (.tmp 56)⟩])
 (.seq
 (.cond (.tmp 58)
 .skip
 (.exit 2))
 (.seq
 (.block 3
 (.seq
 (.ops [
 ⟨some 59,none,.idx 1 (.tmp 55) (.tmp 57)⟩,
⟨some 60,none,.ld false 1 (.tmp 59)⟩,
⟨some 7,none,.mv (.tmp 60)⟩])
 (.ops [
 ⟨some 61,none,.mv (.tmp 3)⟩,
⟨some 62,none,.mv (.tmp 7)⟩,
⟨some 63,none,.call (.func 42) [.tmp 61,.tmp 62]⟩])))
 (.ops [
 ⟨some 64,none,.bin .add (.tmp 57) (.const (.int .i64 1))⟩,
⟨some 57,none,.mv (.tmp 64)⟩])))))))
 .skip))))))))))
 (.seq
 (.ops [
 ⟨some 8,none,.alc 63 [.slice none 0 0,.slice none 0 0]⟩])
 (.seq
 (.seq
 (.ops [
 ⟨some 65,none,.fad 1 false 1 (.tmp 1)⟩,
⟨some 66,none,.ld false 1 (.tmp 65)⟩,
⟨some 67,none,.len (.tmp 66)⟩,
⟨some 68,none,.mv (.const (.int .i64 0))⟩])
 (.block 4
 (.loop
 (.seq
 (.ops [
 ⟨some 69,none,.bin .lss (.tmp 68) (.tmp 67)⟩])
 (.seq
 (.cond (.tmp 69)
 .skip
 (.exit 4))
 (.seq
 (.block 5
 (.seq
 (.ops [
 ⟨some 70,none,.mv (.tmp 68)⟩,
⟨some 9,none,.mv (.tmp 70)⟩])
 (.seq
 (.par false (.one ⟨some 71,none,.fad 0 false 1 (.tmp 8)⟩ (.one ⟨some 73,none,.mv (.tmp 3)⟩ (.one ⟨some 74,none,.nck (.tmp 73)⟩ (.one ⟨some 75,none,.fad 4 false 1 (.tmp 74)⟩ (.one ⟨some 76,none,.ld false 1 (.tmp 75)⟩ (.one ⟨some 77,none,.mv (.tmp 9)⟩ (.one ⟨some 78,none,.idx 1 (.tmp 76) (.tmp 77)⟩ (.one ⟨some 79,none,.ld false 1 (.tmp 78)⟩ (.one ⟨some 80,none,.fad 0 false 1 (.tmp 1)⟩ (.one ⟨some 81,none,.ld false 1 (.tmp 80)⟩ (.both (.one ⟨some 72,none,.ld false 1 (.tmp 71)⟩ (.one ⟨some 82,none,.callM true (.func 43) [.tmp 79,.tmp 81]⟩ (.one ⟨some 83,none,.bsl 67 1 1 [.slice none 0 0] [(0, (1, (.tmp 82)))]⟩ (.one ⟨some 84,none,.app 67 1 24 (.tmp 72) (.tmp 83)⟩ (.one ⟨some 85,none,.fad 0 false 1 (.tmp 8)⟩ (.one ⟨none,none,.sto false 1 (.tmp 85) (.tmp 84)⟩ .done)))))) (.one ⟨some 82,none,.callM true (.func 43) [.tmp 79,.tmp 81]⟩ (.one ⟨some 72,none,.ld false 1 (.tmp 71)⟩ (.one ⟨some 83,none,.bsl 67 1 1 [.slice none 0 0] [(0, (1, (.tmp 82)))]⟩ (.one ⟨some 84,none,.app 67 1 24 (.tmp 72) (.tmp 83)⟩ (.one ⟨some 85,none,.fad 0 false 1 (.tmp 8)⟩ (.one ⟨none,none,.sto false 1 (.tmp 85) (.tmp 84)⟩ .done))))))))))))))))))
 (.par false (.one ⟨some 86,none,.fad 1 false 1 (.tmp 8)⟩ (.one ⟨some 88,none,.mv (.tmp 3)⟩ (.one ⟨some 89,none,.nck (.tmp 88)⟩ (.one ⟨some 90,none,.fad 5 false 1 (.tmp 89)⟩ (.one ⟨some 91,none,.ld false 1 (.tmp 90)⟩ (.one ⟨some 92,none,.mv (.tmp 9)⟩ (.one ⟨some 93,none,.idx 1 (.tmp 91) (.tmp 92)⟩ (.one ⟨some 94,none,.ld false 1 (.tmp 93)⟩ (.one ⟨some 95,none,.fad 0 false 1 (.tmp 1)⟩ (.one ⟨some 96,none,.ld false 1 (.tmp 95)⟩ (.both (.one ⟨some 87,none,.ld false 1 (.tmp 86)⟩ (.one ⟨some 97,none,.callM true (.func 43) [.tmp 94,.tmp 96]⟩ (.one ⟨some 98,none,.bsl 67 1 1 [.slice none 0 0] [(0, (1, (.tmp 97)))]⟩ (.one ⟨some 99,none,.app 67 1 24 (.tmp 87) (.tmp 98)⟩ (.one ⟨some 100,none,.fad 1 false 1 (.tmp 8)⟩ (.one ⟨none,none,.sto false 1 (.tmp 100) (.tmp 99)⟩ .done)))))) (.one ⟨some 97,none,.callM true (.func 43) [.tmp 94,.tmp 96]⟩ (.one ⟨some 87,none,.ld false 1 (.tmp 86)⟩ (.one ⟨some 98,none,.bsl 67 1 1 [.slice none 0 0] [(0, (1, (.tmp 97)))]⟩ (.one ⟨some 99,none,.app 67 1 24 (.tmp 87) (.tmp 98)⟩ (.one ⟨some 100,none,.fad 1 false 1 (.tmp 8)⟩ (.one ⟨none,none,.sto false 1 (.tmp 100) (.tmp 99)⟩ .done)))))))))))))))))))))
 (.ops [
 ⟨some 101,none,.bin .add (.tmp 68) (.const (.int .i64 1))⟩,
⟨some 68,none,.mv (.tmp 101)⟩])))))))
 (.seq
 (.ops [
 ⟨some 102,none,.ld true 2 (.tmp 8)⟩,
⟨none,none,.sto true 2 (.tmp 2) (.tmp 102)⟩])
 .ret))))))
theorem f_live_Of : compF Try.prog 22 = some (103, c_live_Of, [(.cell 2 true 2)]) := by kernel_rfl
def c_scref27_Same : VC :=
 (.seq
 (.ops [
 ⟨some 2,none,.box 63 (.tmp 0)⟩,
⟨some 3,none,.box 63 (.tmp 1)⟩,
⟨some 4,none,.mv (.const (.bool false))⟩])
 (.seq
 (.ops [
 ⟨some 5,none,.fad 0 false 1 (.tmp 2)⟩,
⟨some 6,none,.ld false 1 (.tmp 5)⟩,
⟨some 7,none,.fad 0 false 1 (.tmp 3)⟩,
⟨some 8,none,.ld false 1 (.tmp 7)⟩,
⟨some 9,none,.call (.func 44) [.tmp 6,.tmp 8]⟩,
⟨some 10,none,.mv (.tmp 9)⟩,
⟨some 11,some (10,true),.fad 1 false 1 (.tmp 2)⟩,
⟨some 12,some (10,true),.ld false 1 (.tmp 11)⟩,
⟨some 13,some (10,true),.fad 1 false 1 (.tmp 3)⟩,
⟨some 14,some (10,true),.ld false 1 (.tmp 13)⟩,
⟨some 15,some (10,true),.call (.func 44) [.tmp 12,.tmp 14]⟩,
⟨some 16,none,.pick (.tmp 10) (.tmp 15) (.const (.bool false))⟩,
⟨some 4,none,.mv (.tmp 16)⟩])
 .ret))
theorem f_scref27_Same : compF Try.prog 23 = some (17, c_scref27_Same, [.tmp 4]) := by kernel_rfl
def c_scref27_Of : VC :=
 (.seq
 (.ops [
 ⟨some 1,none,.box 52 (.tmp 0)⟩,
⟨some 2,none,.alc 63 [.slice none 0 0,.slice none 0 0]⟩])
 (.seq
 (.ops [
 ⟨some 12,none,.fad 1 false 1 (.tmp 1)⟩,
⟨some 13,none,.ld false 1 (.tmp 12)⟩,
⟨some 14,none,.len (.tmp 13)⟩,
⟨some 3,none,.mv (.tmp 14)⟩])
 (.seq
 (.par true (.one ⟨some 15,none,.mv (.tmp 3)⟩ (.one ⟨some 16,none,.fad 0 false 1 (.tmp 1)⟩ (.one ⟨some 17,none,.ld false 1 (.tmp 16)⟩ (.one ⟨some 19,none,.mv (.tmp 3)⟩ (.one ⟨some 20,none,.fad 0 false 1 (.tmp 1)⟩ (.both (.one ⟨some 18,none,.callM true (.func 45) [.tmp 15,.tmp 17]⟩ (.one ⟨some 21,none,.ld false 1 (.tmp 20)⟩ (.both (.one ⟨some 22,none,.callM true (.func 45) [.tmp 19,.tmp 21]⟩ (.one ⟨some 23,none,.bld [.slice none 0 0,.slice none 0 0] [(0, (1, (.tmp 18))), (1, (1, (.tmp 22)))]⟩ (.one ⟨some 4,none,.alc 63 [.slice none 0 0,.slice none 0 0]⟩ (.one ⟨none,none,.sto true 2 (.tmp 4) (.tmp 23)⟩ .done)))) (.one ⟨some 4,none,.alc 63 [.slice none 0 0,.slice none 0 0]⟩ (.one ⟨some 22,none,.callM true (.func 45) [.tmp 19,.tmp 21]⟩ (.one ⟨some 23,none,.bld [.slice none 0 0,.slice none 0 0] [(0, (1, (.tmp 18))), (1, (1, (.tmp 22)))]⟩ (.one ⟨none,none,.sto true 2 (.tmp 4) (.tmp 23)⟩ .done))))))) (.both (.one ⟨some 21,none,.ld false 1 (.tmp 20)⟩ (.both (.one ⟨some 18,none,.callM true (.func 45) [.tmp 15,.tmp 17]⟩ (.both (.one ⟨some 22,none,.callM true (.func 45) [.tmp 19,.tmp 21]⟩ (.one ⟨some 23,none,.bld [.slice none 0 0,.slice none 0 0] [(0, (1, (.tmp 18))), (1, (1, (.tmp 22)))]⟩ (.one ⟨some 4,none,.alc 63 [.slice none 0 0,.slice none 0 0]⟩ (.one ⟨none,none,.sto true 2 (.tmp 4) (.tmp 23)⟩ .done)))) (.one ⟨some 4,none,.alc 63 [.slice none 0 0,.slice none 0 0]⟩ (.one ⟨some 22,none,.callM true (.func 45) [.tmp 19,.tmp 21]⟩ (.one ⟨some 23,none,.bld [.slice none 0 0,.slice none 0 0] [(0, (1, (.tmp 18))), (1, (1, (.tmp 22)))]⟩ (.one ⟨none,none,.sto true 2 (.tmp 4) (.tmp 23)⟩ .done)))))) (.one ⟨some 4,none,.alc 63 [.slice none 0 0,.slice none 0 0]⟩ (.one ⟨some 18,none,.callM true (.func 45) [.tmp 15,.tmp 17]⟩ (.one ⟨some 22,none,.callM true (.func 45) [.tmp 19,.tmp 21]⟩ (.one ⟨some 23,none,.bld [.slice none 0 0,.slice none 0 0] [(0, (1, (.tmp 18))), (1, (1, (.tmp 22)))]⟩ (.one ⟨none,none,.sto true 2 (.tmp 4) (.tmp 23)⟩ .done))))))) (.one ⟨some 4,none,.alc 63 [.slice none 0 0,.slice none 0 0]⟩ (.both (.one ⟨some 18,none,.callM true (.func 45) [.tmp 15,.tmp 17]⟩ (.one ⟨some 21,none,.ld false 1 (.tmp 20)⟩ (.one ⟨some 22,none,.callM true (.func 45) [.tmp 19,.tmp 21]⟩ (.one ⟨some 23,none,.bld [.slice none 0 0,.slice none 0 0] [(0, (1, (.tmp 18))), (1, (1, (.tmp 22)))]⟩ (.one ⟨none,none,.sto true 2 (.tmp 4) (.tmp 23)⟩ .done))))) (.one ⟨some 21,none,.ld false 1 (.tmp 20)⟩ (.one ⟨some 18,none,.callM true (.func 45) [.tmp 15,.tmp 17]⟩ (.one ⟨some 22,none,.callM true (.func 45) [.tmp 19,.tmp 21]⟩ (.one ⟨some 23,none,.bld [.slice none 0 0,.slice none 0 0] [(0, (1, (.tmp 18))), (1, (1, (.tmp 22)))]⟩ (.one ⟨none,none,.sto true 2 (.tmp 4) (.tmp 23)⟩ .done)))))))))))))))
 (.seq
 (.ops [
 ⟨some 24,none,.ld true 2 (.tmp 1)⟩,
⟨some 25,none,.call (.func 46) [.tmp 24]⟩,
⟨some 5,none,.mv (.tmp 25)⟩])
 (.seq
 (.seq
 (.ops [
 ⟨some 6,none,.mv (.const (.bool true))⟩])
 (.block 0
 (.loop
 (.seq
 (.seq
 (.ops [
 ⟨some 26,none,.mv (.tmp 6)⟩])
 (.cond (.tmp 26)
 .skip
 (.exit 0)))
 (.block 1
 (.seq
 (.ops [
 ⟨some 6,none,.mv (.const (.bool false))⟩])
 (.seq
 (.ops [
 ⟨some 27,none,.mv (.tmp 3)⟩,
⟨some 28,none,.bin .sub (.tmp 27) (.const (.int .i64 1))⟩,
⟨some 7,none,.mv (.tmp 28)⟩])
 (.block 2
 (.loop
 (.seq
 (.seq
 (.ops [
 ⟨some 29,none,.mv (.tmp 7)⟩,
⟨some 30,none,.bin .geq (.tmp 29) (.const (.int .i64 0))⟩])
 (.cond (.tmp 30)
 .skip
 (.exit 2)))
 (.seq
 (.block 3
 (.seq
 (.seq
 (.ops [
 ⟨some 8,none,.mv (.const (.int .i64 0))⟩])
 (.block 4
 (.loop
 (.seq
 (.seq
 (.ops [
 ⟨some 33,none,.mv (.tmp 8)⟩,
⟨some 34,none,.mv (.tmp 5)⟩,
⟨some 35,none,.mv (.tmp 7)⟩,
⟨some 36,none,.idx 1 (.tmp 34) (.tmp 35)⟩,
⟨some 37,none,.ld false 1 (.tmp 36)⟩,
⟨some 38,none,.len (.tmp 37)⟩,
⟨some 39,none,.bin .lss (.tmp 33) (.tmp 38)⟩])
 (.cond (.tmp 39)
 .skip
 (.exit 4)))
 (.seq
 (.block 5
 (.seq
 (.ops [
 ⟨some 9,none,.mv (.const (.int .i64 0))⟩])
 (.block 6
 (.loop
 (.seq
 (.seq
 (.ops [
 ⟨some 42,none,.mv (.tmp 9)⟩,
⟨some 43,none,.fad 0 false 1 (.tmp 1)⟩,
⟨some 44,none,.ld false 1 (.tmp 43)⟩,
⟨some 45,none,.bin .lss (.tmp 42) (.tmp 44)⟩])
 (.cond (.tmp 45)
 .skip
 (.exit 6)))
 (.seq
 (.block 7
 (.ops [
 ⟨some 48,none,.fad 1 false 1 (.tmp 4)⟩,
⟨some 49,none,.ld false 1 (.tmp 48)⟩,
⟨some 50,none,.mv (.tmp 7)⟩,
⟨some 51,none,.idx 1 (.tmp 49) (.tmp 50)⟩,
⟨some 52,none,.ld false 1 (.tmp 51)⟩,
⟨some 53,none,.mv (.tmp 9)⟩,
⟨some 54,none,.fad 1 false 1 (.tmp 4)⟩,
⟨some 55,none,.ld false 1 (.tmp 54)⟩,
⟨some 56,none,.mv (.tmp 7)⟩,
⟨some 57,none,.idx 1 (.tmp 55) (.tmp 56)⟩,
⟨some 58,none,.ld false 1 (.tmp 57)⟩,
⟨some 59,none,.mv (.tmp 9)⟩,
⟨some 60,none,.idx 1 (.tmp 58) (.tmp 59)⟩,
⟨some 61,none,.ld false 1 (.tmp 60)⟩,
⟨some 62,none,.mv (.tmp 61)⟩,
⟨some 63,some (62,false),.fad 0 false 1 (.tmp 4)⟩,
⟨some 64,some (62,false),.ld false 1 (.tmp 63)⟩,
⟨some 65,some (62,false),.mv (.tmp 5)⟩,
⟨some 66,some (62,false),.mv (.tmp 7)⟩,
⟨some 67,some (62,false),.idx 1 (.tmp 65) (.tmp 66)⟩,
⟨some 68,some (62,false),.ld false 1 (.tmp 67)⟩,
⟨some 69,some (62,false),.mv (.tmp 8)⟩,
⟨some 70,some (62,false),.idx 1 (.tmp 68) (.tmp 69)⟩,
⟨some 71,some (62,false),.ld false 1 (.tmp 70)⟩,
⟨some 72,some (62,false),.idx 1 (.tmp 64) (.tmp 71)⟩,
⟨some 73,some (62,false),.ld false 1 (.tmp 72)⟩,
⟨some 74,some (62,false),.mv (.tmp 9)⟩,
⟨some 75,some (62,false),.idx 1 (.tmp 73) (.tmp 74)⟩,
⟨some 76,some (62,false),.ld false 1 (.tmp 75)⟩,
⟨some 77,none,.pick (.tmp 62) (.const (.bool true)) (.tmp 76)⟩,
⟨some 78,none,.idx 1 (.tmp 52) (.tmp 53)⟩,
⟨none,none,.sto false 1 (.tmp 78) (.tmp 77)⟩]))
 (.ops [
 ⟨some 46,none,.mv (.tmp 9)⟩,
⟨some 47,none,.bin .add (.tmp 46) (.const (.int .i64 1))⟩,
⟨some 9,none,.mv (.tmp 47)⟩])))))))
 (.ops [
 ⟨some 40,none,.mv (.tmp 8)⟩,
⟨some 41,none,.bin .add (.tmp 40) (.const (.int .i64 1))⟩,
⟨some 8,none,.mv (.tmp 41)⟩]))))))
 (.seq
 (.ops [
 ⟨some 79,none,.fad 1 false 1 (.tmp 1)⟩,
⟨some 80,none,.ld false 1 (.tmp 79)⟩,
⟨some 81,none,.mv (.tmp 7)⟩,
⟨some 82,none,.idx 5 (.tmp 80) (.tmp 81)⟩,
⟨some 83,none,.ld true 5 (.tmp 82)⟩,
⟨some 84,none,.fad 1 false 1 (.tmp 4)⟩,
⟨some 85,none,.ld false 1 (.tmp 84)⟩,
⟨some 86,none,.mv (.tmp 7)⟩,
⟨some 87,none,.idx 1 (.tmp 85) (.tmp 86)⟩,
⟨some 88,none,.ld false 1 (.tmp 87)⟩,
⟨some 89,none,.call (.func 47) [.tmp 83,.tmp 88]⟩,
⟨some 10,none,.mv (.tmp 89)⟩])
 (.seq
 (.ops [
 ⟨some 11,none,.mv (.const (.int .i64 0))⟩])
 (.block 8
 (.loop
 (.seq
 (.seq
 (.ops [
 ⟨some 90,none,.mv (.tmp 11)⟩,
⟨some 91,none,.fad 0 false 1 (.tmp 1)⟩,
⟨some 92,none,.ld false 1 (.tmp 91)⟩,
⟨some 93,none,.bin .lss (.tmp 90) (.tmp 92)⟩])
 (.cond (.tmp 93)
 .skip
 (.exit 8)))
 (.seq
 (.block 9
 (.seq
 (.ops [
 ⟨some 96,none,.mv (.tmp 10)⟩,
⟨some 97,none,.mv (.tmp 11)⟩,
⟨some 98,none,.idx 1 (.tmp 96) (.tmp 97)⟩,
⟨some 99,none,.ld false 1 (.tmp 98)⟩,
⟨some 100,none,.mv (.tmp 99)⟩,
⟨some 101,some (100,true),.fad 0 false 1 (.tmp 4)⟩,
⟨some 102,some (100,true),.ld false 1 (.tmp 101)⟩,
⟨some 103,some (100,true),.mv (.tmp 7)⟩,
⟨some 104,some (100,true),.idx 1 (.tmp 102) (.tmp 103)⟩,
⟨some 105,some (100,true),.ld false 1 (.tmp 104)⟩,
⟨some 106,some (100,true),.mv (.tmp 11)⟩,
⟨some 107,some (100,true),.idx 1 (.tmp 105) (.tmp 106)⟩,
⟨some 108,some (100,true),.ld false 1 (.tmp 107)⟩,
⟨some 109,some (100,true),.un .not (.tmp 108)⟩,
⟨some 110,none,.pick (.tmp 100) (.tmp 109) (.const (.bool false))⟩])
 (.cond (.tmp 110)
 (.seq
 (.ops [
 ⟨some 111,none,.fad 0 false 1 (.tmp 4)⟩,
⟨some 112,none,.ld false 1 (.tmp 111)⟩,
⟨some 113,none,.mv (.tmp 7)⟩,
⟨some 114,none,.idx 1 (.tmp 112) (.tmp 113)⟩,
⟨some 115,none,.ld false 1 (.tmp 114)⟩,
⟨some 116,none,.mv (.tmp 11)⟩,
⟨some 117,none,.idx 1 (.tmp 115) (.tmp 116)⟩,
⟨none,none,.sto false 1 (.tmp 117) (.const (.bool true))⟩])
 (.ops [
 ⟨some 6,none,.mv (.const (.bool true))⟩]))
 .skip)))
 (.ops [
 ⟨some 94,none,.mv (.tmp 11)⟩,
⟨some 95,none,.bin .add (.tmp 94) (.const (.int .i64 1))⟩,
⟨some 11,none,.mv (.tmp 95)⟩])))))))))
 (.ops [
 ⟨some 31,none,.mv (.tmp 7)⟩,
⟨some 32,none,.bin .sub (.tmp 31) (.const (.int .i64 1))⟩,
⟨some 7,none,.mv (.tmp 32)⟩]))))))))))))
 (.seq
 (.ops [
 ⟨some 118,none,.ld true 2 (.tmp 4)⟩,
⟨none,none,.sto true 2 (.tmp 2) (.tmp 118)⟩])
 .ret))))))
theorem f_scref27_Of : compF Try.prog 24 = some (119, c_scref27_Of, [(.cell 2 true 2)]) := by kernel_rfl
def c_scref27_Behind : VC :=
 (.seq
 (.ops [
 ⟨some 3,none,.box 52 (.tmp 0)⟩,
⟨some 4,none,.box 63 (.tmp 1)⟩,
⟨some 6,none,.mv (.const (.slice none 0 0))⟩])
 (.seq
 (.ops [
 ⟨some 11,none,.fad 1 false 1 (.tmp 3)⟩,
⟨some 12,none,.ld false 1 (.tmp 11)⟩,
⟨some 13,none,.mv (.tmp 2)⟩,
⟨some 14,none,.idx 5 (.tmp 12) (.tmp 13)⟩,
⟨some 15,none,.ld true 5 (.tmp 14)⟩,
⟨some 7,none,.alc 49 [.slice none 0 0,.int .i64 0,.int .i64 0,.int .i64 0,.int .i64 0]⟩,
⟨none,none,.sto true 5 (.tmp 7) (.tmp 15)⟩])
 (.seq
 (.ops [
 ⟨some 16,none,.fad 0 false 1 (.tmp 7)⟩,
⟨some 17,none,.ld false 1 (.tmp 16)⟩,
⟨some 18,none,.len (.tmp 17)⟩,
⟨some 19,none,.mk 67 1 24 [.slice none 0 0] (.tmp 18) (.tmp 18)⟩,
⟨some 8,none,.mv (.tmp 19)⟩])
 (.seq
 (.ops [
 ⟨some 20,none,.ld true 5 (.tmp 7)⟩,
⟨some 21,none,.fad 1 false 1 (.tmp 4)⟩,
⟨some 22,none,.ld false 1 (.tmp 21)⟩,
⟨some 23,none,.mv (.tmp 2)⟩,
⟨some 24,none,.idx 1 (.tmp 22) (.tmp 23)⟩,
⟨some 25,none,.ld false 1 (.tmp 24)⟩,
⟨some 26,none,.call (.func 48) [.tmp 20,.tmp 25]⟩,
⟨some 9,none,.mv (.tmp 26)⟩])
 (.seq
 (.seq
 (.ops [
 ⟨some 27,none,.fad 0 false 1 (.tmp 7)⟩,
⟨some 28,none,.ld false 1 (.tmp 27)⟩,
⟨some 29,none,.len (.tmp 28)⟩,
⟨some 30,none,.bin .sub (.tmp 29) (.const (.int .i64 1))⟩,
⟨some 10,none,.mv (.tmp 30)⟩])
 (.block 0
 (.loop
 (.seq
 (.seq
 (.ops [
 ⟨some 31,none,.mv (.tmp 10)⟩,
⟨some 32,none,.bin .geq (.tmp 31) (.const (.int .i64 0))⟩])
 (.cond (.tmp 32)
 .skip
 (.exit 0)))
 (.seq
 (.block 1
 (.seq
 (.ops [
 ⟨some 35,none,.mv (.tmp 8)⟩,
⟨some 36,none,.mv (.tmp 10)⟩,
⟨some 37,none,.mv (.tmp 9)⟩,
⟨some 38,none,.idx 1 (.tmp 35) (.tmp 36)⟩,
⟨none,none,.sto false 1 (.tmp 38) (.tmp 37)⟩])
 (.ops [
 ⟨some 39,none,.fad 0 false 1 (.tmp 7)⟩,
⟨some 40,none,.ld false 1 (.tmp 39)⟩,
⟨some 41,none,.mv (.tmp 10)⟩,
⟨some 42,none,.idx 8 (.tmp 40) (.tmp 41)⟩,
⟨some 43,none,.ld true 8 (.tmp 42)⟩,
⟨some 44,none,.mv (.tmp 9)⟩,
⟨some 45,none,.call (.func 49) [.tmp 43,.tmp 44]⟩,
⟨some 9,none,.mv (.tmp 45)⟩])))
 (.ops [
 ⟨some 33,none,.mv (.tmp 10)⟩,
⟨some 34,none,.bin .sub (.tmp 33) (.const (.int .i64 1))⟩,
⟨some 10,none,.mv (.tmp 34)⟩]))))))
 (.seq
 (.ops [
 ⟨some 46,none,.mv (.tmp 8)⟩,
⟨some 6,none,.mv (.tmp 46)⟩])
 .ret))))))
theorem f_scref27_Behind : compF Try.prog 25 = some (47, c_scref27_Behind, [.tmp 6]) := by kernel_rfl
def c_choose_Need : VC :=
 (.seq
 (.ops [
 ⟨some 2,none,.box 24 (.tmp 0)⟩,
⟨some 4,none,.mv (.const (.int .i64 0))⟩])
 (.seq
 (.ops [
 ⟨some 8,none,.ld true 2 (.tmp 2)⟩,
⟨some 9,none,.mv (.tmp 1)⟩,
⟨some 10,none,.call (.func 11) [.tmp 8,.tmp 9]⟩,
⟨some 7,none,.mv (.tmp 10)⟩,
⟨some 11,none,.ext (.tmp 7) 0⟩,
⟨some 12,none,.ext (.tmp 7) 1⟩,
⟨some 5,none,.alc 30 [.slice none 0 0,.int .i64 0]⟩,
⟨none,none,.sto true 2 (.tmp 5) (.tmp 11)⟩,
⟨some 6,none,.mv (.tmp 12)⟩])
 (.seq
 (.seq
 (.ops [
 ⟨some 13,none,.mv (.tmp 6)⟩,
⟨some 14,none,.bin .neq (.tmp 13) (.const (.int .i64 0))⟩])
 (.cond (.tmp 14)
 (.seq
 (.ops [
 ⟨some 4,none,.mv (.const (.int .i64 0))⟩])
 .ret)
 .skip))
 (.seq
 (.ops [
 ⟨some 15,none,.fad 1 false 1 (.tmp 5)⟩,
⟨some 16,none,.ld false 1 (.tmp 15)⟩,
⟨some 4,none,.mv (.tmp 16)⟩])
 .ret))))
theorem f_choose_Need : compF Try.prog 26 = some (17, c_choose_Need, [.tmp 4]) := by kernel_rfl
def c_scref08_Same : VC :=
 (.seq
 (.ops [
 ⟨some 2,none,.box 30 (.tmp 0)⟩,
⟨some 3,none,.box 30 (.tmp 1)⟩,
⟨some 4,none,.mv (.const (.bool false))⟩])
 (.seq
 (.seq
 (.ops [
 ⟨some 6,none,.fad 1 false 1 (.tmp 2)⟩,
⟨some 7,none,.ld false 1 (.tmp 6)⟩,
⟨some 8,none,.fad 1 false 1 (.tmp 3)⟩,
⟨some 9,none,.ld false 1 (.tmp 8)⟩,
⟨some 10,none,.bin .neq (.tmp 7) (.tmp 9)⟩,
⟨some 11,none,.mv (.tmp 10)⟩,
⟨some 12,some (11,false),.fad 0 false 1 (.tmp 2)⟩,
⟨some 13,some (11,false),.ld false 1 (.tmp 12)⟩,
⟨some 14,some (11,false),.len (.tmp 13)⟩,
⟨some 15,some (11,false),.fad 0 false 1 (.tmp 3)⟩,
⟨some 16,some (11,false),.ld false 1 (.tmp 15)⟩,
⟨some 17,some (11,false),.len (.tmp 16)⟩,
⟨some 18,some (11,false),.bin .neq (.tmp 14) (.tmp 17)⟩,
⟨some 19,none,.pick (.tmp 11) (.const (.bool true)) (.tmp 18)⟩])
 (.cond (.tmp 19)
 (.seq
 (.ops [
 ⟨some 4,none,.mv (.const (.bool false))⟩])
 .ret)
 .skip))
 (.seq
 (.seq
 (.ops [
 ⟨some 5,none,.mv (.const (.int .i64 0))⟩])
 (.block 0
 (.loop
 (.seq
 (.seq
 (.ops [
 ⟨some 20,none,.mv (.tmp 5)⟩,
⟨some 21,none,.fad 0 false 1 (.tmp 2)⟩,
⟨some 22,none,.ld false 1 (.tmp 21)⟩,
⟨some 23,none,.len (.tmp 22)⟩,
⟨some 24,none,.bin .lss (.tmp 20) (.tmp 23)⟩])
 (.cond (.tmp 24)
 .skip
 (.exit 0)))
 (.seq
 (.block 1
 (.seq
 (.ops [
 ⟨some 27,none,.fad 0 false 1 (.tmp 2)⟩,
⟨some 28,none,.ld false 1 (.tmp 27)⟩,
⟨some 29,none,.mv (.tmp 5)⟩,
⟨some 30,none,.idx 1 (.tmp 28) (.tmp 29)⟩,
⟨some 31,none,.ld false 1 (.tmp 30)⟩,
⟨some 32,none,.fad 0 false 1 (.tmp 3)⟩,
⟨some 33,none,.ld false 1 (.tmp 32)⟩,
⟨some 34,none,.mv (.tmp 5)⟩,
⟨some 35,none,.idx 1 (.tmp 33) (.tmp 34)⟩,
⟨some 36,none,.ld false 1 (.tmp 35)⟩,
⟨some 37,none,.bin .neq (.tmp 31) (.tmp 36)⟩])
 (.cond (.tmp 37)
 (.seq
 (.ops [
 ⟨some 4,none,.mv (.const (.bool false))⟩])
 .ret)
 .skip)))
 (.ops [
 ⟨some 25,none,.mv (.tmp 5)⟩,
⟨some 26,none,.bin .add (.tmp 25) (.const (.int .i64 1))⟩,
⟨some 5,none,.mv (.tmp 26)⟩]))))))
 (.seq
 (.ops [
 ⟨some 4,none,.mv (.const (.bool true))⟩])
 .ret))))
theorem f_scref08_Same : compF Try.prog 27 = some (38, c_scref08_Same, [.tmp 4]) := by kernel_rfl
def c_sclaw29_plain : VC :=
 (.seq
 (.ops [
 ⟨some 0,none,.alc 24 [.int .i64 0,.slice none 0 0]⟩])
 (.seq
 (.ops [
 ⟨some 1,none,.bld [.int .i64 0,.int .i64 0,.int .i64 0,.int .i64 0,.int .i64 0,.int .i64 0,.int .i64 0,.int .u32 0] [(0, (1, (.const (.int .i64 1)))), (7, (1, (.const (.int .u32 65))))]⟩,
⟨some 2,none,.bld [.int .i64 0,.int .i64 0,.int .i64 0,.int .i64 0,.int .i64 0,.int .i64 0,.int .i64 0,.int .u32 0] [(0, (1, (.const (.int .i64 9))))]⟩,
⟨some 3,none,.bsl 47 8 2 [.int .i64 0,.int .i64 0,.int .i64 0,.int .i64 0,.int .i64 0,.int .i64 0,.int .i64 0,.int .u32 0,.int .i64 0,.int .i64 0,.int .i64 0,.int .i64 0,.int .i64 0,.int .i64 0,.int .i64 0,.int .u32 0] [(0, (8, (.tmp 1))), (8, (8, (.tmp 2)))]⟩,
⟨some 4,none,.bld [.slice none 0 0,.int .i64 0,.int .i64 0,.int .i64 0,.int .i64 0] [(0, (1, (.tmp 3))), (1, (1, (.const (.int .i64 3))))]⟩,
⟨some 5,none,.bsl 49 5 1 [.slice none 0 0,.int .i64 0,.int .i64 0,.int .i64 0,.int .i64 0] [(0, (5, (.tmp 4)))]⟩,
⟨some 6,none,.bld [.int .i64 0,.slice none 0 0] [(0, (1, (.const (.int .i64 1)))), (1, (1, (.tmp 5)))]⟩,
⟨some 7,none,.bsl 52 2 1 [.int .i64 0,.slice none 0 0] [(0, (2, (.tmp 6)))]⟩,
⟨some 8,none,.bld [.int .i64 0,.slice none 0 0] [(1, (1, (.tmp 7)))]⟩,
⟨none,none,.sto true 2 (.tmp 0) (.tmp 8)⟩])
 .ret))
theorem f_sclaw29_plain : compF Try.prog 28 = some (9, c_sclaw29_plain, [(.cell 0 true 2)]) := by kernel_rfl
def c_sclaw29_few : VC :=
 (.seq
 (.ops [
 ⟨some 1,none,.box 24 (.tmp 0)⟩,
⟨some 2,none,.mv (.const (.bool false))⟩])
 (.seq
 (.seq
 (.ops [
 ⟨some 7,none,.fad 0 false 1 (.tmp 1)⟩,
⟨some 8,none,.ld false 1 (.tmp 7)⟩,
⟨some 9,none,.bin .gtr (.tmp 8) (.const (.int .i64 400))⟩,
⟨some 10,none,.mv (.tmp 9)⟩,
⟨some 11,some (10,false),.fad 1 false 1 (.tmp 1)⟩,
⟨some 12,some (10,false),.ld false 1 (.tmp 11)⟩,
⟨some 13,some (10,false),.len (.tmp 12)⟩,
⟨some 14,some (10,false),.bin .gtr (.tmp 13) (.const (.int .i64 20))⟩,
⟨some 15,none,.pick (.tmp 10) (.const (.bool true)) (.tmp 14)⟩])
 (.cond (.tmp 15)
 (.seq
 (.ops [
 ⟨some 2,none,.mv (.const (.bool false))⟩])
 .ret)
 .skip))
 (.seq
 (.ops [
 ⟨some 3,none,.mv (.const (.int .i64 0))⟩])
 (.seq
 (.seq
 (.ops [
 ⟨some 4,none,.mv (.const (.int .i64 0))⟩])
 (.block 0
 (.loop
 (.seq
 (.seq
 (.ops [
 ⟨some 16,none,.mv (.tmp 4)⟩,
⟨some 17,none,.fad 1 false 1 (.tmp 1)⟩,
⟨some 18,none,.ld false 1 (.tmp 17)⟩,
⟨some 19,none,.len (.tmp 18)⟩,
⟨some 20,none,.bin .lss (.tmp 16) (.tmp 19)⟩])
 (.cond (.tmp 20)
 .skip
 (.exit 0)))
 (.seq
 (.block 1
 (.seq
 (.ops [
 ⟨some 23,none,.fad 1 false 1 (.tmp 1)⟩,
⟨some 24,none,.ld false 1 (.tmp 23)⟩,
⟨some 25,none,.mv (.tmp 4)⟩,
⟨some 26,none,.idx 2 (.tmp 24) (.tmp 25)⟩,
⟨some 27,none,.ld true 2 (.tmp 26)⟩,
⟨some 5,none,.alc 52 [.int .i64 0,.slice none 0 0]⟩,
⟨none,none,.sto true 2 (.tmp 5) (.tmp 27)⟩])
 (.seq
 (.seq
 (.ops [
 ⟨some 28,none,.fad 1 false 1 (.tmp 5)⟩,
⟨some 29,none,.ld false 1 (.tmp 28)⟩,
⟨some 30,none,.len (.tmp 29)⟩,
⟨some 31,none,.bin .gtr (.tmp 30) (.const (.int .i64 60))⟩,
⟨some 32,none,.mv (.tmp 31)⟩,
⟨some 33,some (32,false),.fad 0 false 1 (.tmp 5)⟩,
⟨some 34,some (32,false),.ld false 1 (.tmp 33)⟩,
⟨some 35,some (32,false),.bin .gtr (.tmp 34) (.const (.int .i64 30))⟩,
⟨some 36,none,.pick (.tmp 32) (.const (.bool true)) (.tmp 35)⟩])
 (.cond (.tmp 36)
 (.seq
 (.ops [
 ⟨some 2,none,.mv (.const (.bool false))⟩])
 .ret)
 .skip))
 (.seq
 (.ops [
 ⟨some 6,none,.mv (.const (.int .i64 0))⟩])
 (.block 2
 (.loop
 (.seq
 (.seq
 (.ops [
 ⟨some 37,none,.mv (.tmp 6)⟩,
⟨some 38,none,.fad 1 false 1 (.tmp 5)⟩,
⟨some 39,none,.ld false 1 (.tmp 38)⟩,
⟨some 40,none,.len (.tmp 39)⟩,
⟨some 41,none,.bin .lss (.tmp 37) (.tmp 40)⟩])
 (.cond (.tmp 41)
 .skip
 (.exit 2)))
 (.seq
 (.block 3
 (.seq
 (.ops [
 ⟨some 44,none,.mv (.tmp 3)⟩,
⟨some 45,none,.bin .add (.tmp 44) (.const (.int .i64 1))⟩,
⟨some 46,none,.fad 1 false 1 (.tmp 5)⟩,
⟨some 47,none,.ld false 1 (.tmp 46)⟩,
⟨some 48,none,.mv (.tmp 6)⟩,
⟨some 49,none,.idx 5 (.tmp 47) (.tmp 48)⟩,
⟨some 50,none,.fad 0 false 1 (.tmp 49)⟩,
⟨some 51,none,.ld false 1 (.tmp 50)⟩,
⟨some 52,none,.len (.tmp 51)⟩,
⟨some 53,none,.bin .add (.tmp 45) (.tmp 52)⟩,
⟨some 3,none,.mv (.tmp 53)⟩])
 (.seq
 (.ops [
 ⟨some 54,none,.mv (.tmp 3)⟩,
⟨some 55,none,.bin .gtr (.tmp 54) (.const (.int .i64 400))⟩])
 (.cond (.tmp 55)
 (.seq
 (.ops [
 ⟨some 2,none,.mv (.const (.bool false))⟩])
 .ret)
 .skip))))
 (.ops [
 ⟨some 42,none,.mv (.tmp 6)⟩,
⟨some 43,none,.bin .add (.tmp 42) (.const (.int .i64 1))⟩,
⟨some 6,none,.mv (.tmp 43)⟩])))))))))
 (.ops [
 ⟨some 21,none,.mv (.tmp 4)⟩,
⟨some 22,none,.bin .add (.tmp 21) (.const (.int .i64 1))⟩,
⟨some 4,none,.mv (.tmp 22)⟩]))))))
 (.seq
 (.ops [
 ⟨some 56,none,.ld true 2 (.tmp 1)⟩,
⟨some 57,none,.call (.func 19) [.tmp 56]⟩,
⟨some 2,none,.mv (.tmp 57)⟩])
 .ret)))))
theorem f_sclaw29_few : compF Try.prog 29 = some (58, c_sclaw29_few, [.tmp 2]) := by kernel_rfl
def c_alloc_Words : VC :=
 (.seq
 (.ops [
 ⟨some 1,none,.box 55 (.tmp 0)⟩,
⟨some 2,none,.mv (.const (.int .i64 0))⟩])
 (.seq
 (.ops [
 ⟨some 3,none,.mv (.const (.int .i64 0))⟩])
 (.seq
 (.seq
 (.ops [
 ⟨some 6,none,.fad 0 false 1 (.tmp 1)⟩,
⟨some 7,none,.ld false 1 (.tmp 6)⟩,
⟨some 8,none,.len (.tmp 7)⟩,
⟨some 9,none,.mv (.const (.int .i64 0))⟩])
 (.block 0
 (.loop
 (.seq
 (.ops [
 ⟨some 10,none,.bin .lss (.tmp 9) (.tmp 8)⟩])
 (.seq
 (.cond (.tmp 10)
 .skip
 (.exit 0))
 (.seq
 (.block 1
 (.seq
 (.ops [
 ⟨some 11,none,.idx 1 (.tmp 7) (.tmp 9)⟩,
⟨some 12,none,.ld false 1 (.tmp 11)⟩,
⟨some 5,none,.mv (.tmp 12)⟩])
 (.seq
 (.ops [
 ⟨some 13,none,.mv (.tmp 5)⟩,
⟨some 14,none,.bin .lss (.tmp 13) (.const (.int .i64 0))⟩])
 (.cond (.tmp 14)
 (.ops [
 ⟨some 15,none,.mv (.tmp 3)⟩,
⟨some 16,none,.mv (.tmp 5)⟩,
⟨some 17,none,.un .neg (.tmp 16)⟩,
⟨some 18,none,.pur .mx [.tmp 15,.tmp 17]⟩,
⟨some 3,none,.mv (.tmp 18)⟩])
 .skip))))
 (.ops [
 ⟨some 19,none,.bin .add (.tmp 9) (.const (.int .i64 1))⟩,
⟨some 9,none,.mv (.tmp 19)⟩])))))))
 (.seq
 (.ops [
 ⟨some 20,none,.mv (.tmp 3)⟩,
⟨some 2,none,.mv (.tmp 20)⟩])
 .ret))))
theorem f_alloc_Words : compF Try.prog 30 = some (21, c_alloc_Words, [.tmp 2]) := by kernel_rfl
def c_choose_writer_function : VC :=
 (.seq
 (.ops [
 ⟨some 5,none,.box 55 (.tmp 2)⟩])
 (.seq
 (.ops [
 ⟨some 14,none,.mv (.tmp 0)⟩,
⟨some 15,none,.nck (.tmp 14)⟩,
⟨some 16,none,.fad 0 true 2 (.tmp 15)⟩,
⟨some 17,none,.fad 1 false 1 (.tmp 16)⟩,
⟨some 18,none,.ld false 1 (.tmp 17)⟩,
⟨some 19,none,.mv (.tmp 1)⟩,
⟨some 20,none,.idx 2 (.tmp 18) (.tmp 19)⟩,
⟨some 21,none,.ld true 2 (.tmp 20)⟩,
⟨some 6,none,.alc 52 [.int .i64 0,.slice none 0 0]⟩,
⟨none,none,.sto true 2 (.tmp 6) (.tmp 21)⟩])
 (.seq
 (.par false (.one ⟨some 22,none,.mv (.tmp 0)⟩ (.one ⟨some 23,none,.mv (.tmp 0)⟩ (.one ⟨some 24,none,.mv (.tmp 1)⟩ (.one ⟨some 25,none,.fad 0 false 1 (.tmp 5)⟩ (.one ⟨some 27,none,.nck (.tmp 22)⟩ (.one ⟨some 28,none,.fad 8 false 1 (.tmp 27)⟩ (.both (.one ⟨some 26,none,.ld false 1 (.tmp 25)⟩ (.one ⟨none,none,.sto false 1 (.tmp 28) (.tmp 24)⟩ (.one ⟨some 29,none,.nck (.tmp 23)⟩ (.one ⟨some 30,none,.fad 9 false 1 (.tmp 29)⟩ (.one ⟨none,none,.sto false 1 (.tmp 30) (.tmp 26)⟩ .done))))) (.one ⟨none,none,.sto false 1 (.tmp 28) (.tmp 24)⟩ (.one ⟨some 26,none,.ld false 1 (.tmp 25)⟩ (.one ⟨some 29,none,.nck (.tmp 23)⟩ (.one ⟨some 30,none,.fad 9 false 1 (.tmp 29)⟩ (.one ⟨none,none,.sto false 1 (.tmp 30) (.tmp 26)⟩ .done)))))))))))))
 (.seq
 (.ops [
 ⟨some 31,none,.mv (.tmp 0)⟩,
⟨some 32,none,.nck (.tmp 31)⟩,
⟨some 33,none,.fad 4 false 1 (.tmp 32)⟩,
⟨some 34,none,.ld false 1 (.tmp 33)⟩,
⟨some 35,none,.mv (.tmp 1)⟩,
⟨some 36,none,.mv (.tmp 0)⟩,
⟨some 37,none,.nck (.tmp 36)⟩,
⟨some 38,none,.fad 2 false 1 (.tmp 37)⟩,
⟨some 39,none,.ld false 1 (.tmp 38)⟩,
⟨some 40,none,.len (.tmp 39)⟩,
⟨some 41,none,.idx 1 (.tmp 34) (.tmp 35)⟩,
⟨none,none,.sto false 1 (.tmp 41) (.tmp 40)⟩])
 (.seq
 (.seq
 (.ops [
 ⟨some 42,none,.mv (.tmp 1)⟩,
⟨some 43,none,.mv (.tmp 0)⟩,
⟨some 44,none,.nck (.tmp 43)⟩,
⟨some 45,none,.fad 0 true 2 (.tmp 44)⟩,
⟨some 46,none,.fad 1 false 1 (.tmp 45)⟩,
⟨some 47,none,.ld false 1 (.tmp 46)⟩,
⟨some 48,none,.len (.tmp 47)⟩,
⟨some 49,none,.bin .sub (.tmp 48) (.const (.int .i64 1))⟩,
⟨some 50,none,.bin .neq (.tmp 42) (.tmp 49)⟩])
 (.cond (.tmp 50)
 (.ops [
 ⟨some 51,none,.mv (.tmp 0)⟩,
⟨some 52,none,.mv (.tmp 0)⟩,
⟨some 53,none,.nck (.tmp 52)⟩,
⟨some 54,none,.fad 7 false 1 (.tmp 53)⟩,
⟨some 55,none,.ld false 1 (.tmp 54)⟩,
⟨some 56,none,.mv (.tmp 1)⟩,
⟨some 57,none,.bin .add (.tmp 55) (.tmp 56)⟩,
⟨some 58,none,.callM false (.func 50) [(.tmp 51), (.const (.int .i64 17)), (.const (.int .i64 12)), (.const (.int .i64 0)), (.tmp 57)]⟩])
 .skip))
 (.seq
 (.seq
 (.ops [
 ⟨some 59,none,.ld true 2 (.tmp 6)⟩,
⟨some 60,none,.call (.func 22) [.tmp 59]⟩,
⟨some 61,none,.fld 0 false 1 (.tmp 60)⟩,
⟨some 62,none,.idx 1 (.tmp 61) (.const (.int .i64 0))⟩,
⟨some 63,none,.ld false 1 (.tmp 62)⟩,
⟨some 64,none,.len (.tmp 63)⟩,
⟨some 65,none,.mv (.const (.int .i64 0))⟩])
 (.block 0
 (.loop
 (.seq
 (.ops [
 ⟨some 66,none,.bin .lss (.tmp 65) (.tmp 64)⟩])
 (.seq
 (.cond (.tmp 66)
 .skip
 (.exit 0))
 (.seq
 (.block 1
 (.seq
 (.ops [
 ⟨some 67,none,.mv (.tmp 65)⟩,
⟨some 68,none,.idx 1 (.tmp 63) (.tmp 65)⟩,
⟨some 69,none,.ld false 1 (.tmp 68)⟩,
⟨some 7,none,.mv (.tmp 67)⟩,
⟨some 8,none,.mv (.tmp 69)⟩])
 (.seq
 (.seq
 (.ops [
 ⟨some 70,none,.mv (.tmp 8)⟩,
⟨some 71,none,.un .not (.tmp 70)⟩])
 (.cond (.tmp 71)
 (.exit 1)
 .skip))
 (.seq
 (.ops [
 ⟨some 72,none,.mv (.tmp 0)⟩,
⟨some 73,none,.nck (.tmp 72)⟩,
⟨some 74,none,.fad 9 false 1 (.tmp 73)⟩,
⟨some 75,none,.ld false 1 (.tmp 74)⟩,
⟨some 76,none,.mv (.tmp 7)⟩,
⟨some 77,none,.idx 1 (.tmp 75) (.tmp 76)⟩,
⟨some 78,none,.ld false 1 (.tmp 77)⟩,
⟨some 9,none,.mv (.tmp 78)⟩])
 (.seq
 (.ops [
 ⟨some 79,none,.mv (.tmp 9)⟩,
⟨some 80,none,.bin .gtr (.tmp 79) (.const (.int .i64 0))⟩])
 (.cond (.tmp 80)
 (.ops [
 ⟨some 81,none,.mv (.tmp 0)⟩,
⟨some 82,none,.mv (.tmp 9)⟩,
⟨some 83,none,.callM false (.func 50) [(.tmp 81), (.const (.int .i64 1)), (.tmp 82), (.const (.int .i64 0)), (.const (.int .i64 0))]⟩])
 (.ops [
 ⟨some 84,none,.mv (.tmp 0)⟩,
⟨some 85,none,.mv (.tmp 7)⟩,
⟨some 86,none,.callM false (.func 51) [(.tmp 84), (.tmp 85), (.const (.int .i64 0))]⟩])))))))
 (.ops [
 ⟨some 87,none,.bin .add (.tmp 65) (.const (.int .i64 1))⟩,
⟨some 65,none,.mv (.tmp 87)⟩])))))))
 (.seq
 (.par false (.one ⟨some 88,none,.mv (.tmp 0)⟩ (.one ⟨some 89,none,.nck (.tmp 88)⟩ (.one ⟨some 90,none,.fad 5 false 1 (.tmp 89)⟩ (.one ⟨some 91,none,.ld false 1 (.tmp 90)⟩ (.one ⟨some 92,none,.mv (.tmp 1)⟩ (.one ⟨some 93,none,.fad 1 false 1 (.tmp 6)⟩ (.one ⟨some 94,none,.ld false 1 (.tmp 93)⟩ (.one ⟨some 95,none,.len (.tmp 94)⟩ (.one ⟨some 96,none,.mk 3 1 8 [.int .i64 0] (.tmp 95) (.tmp 95)⟩ (.one ⟨some 97,none,.idx 1 (.tmp 91) (.tmp 92)⟩ (.one ⟨none,none,.sto false 1 (.tmp 97) (.tmp 96)⟩ .done))))))))))))
 (.seq
 (.ops [
 ⟨some 98,none,.fad 1 false 1 (.tmp 6)⟩,
⟨some 99,none,.ld false 1 (.tmp 98)⟩,
⟨some 100,none,.len (.tmp 99)⟩,
⟨some 101,none,.mv (.const (.int .i64 0))⟩])
 (.block 2
 (.loop
 (.seq
 (.ops [
 ⟨some 102,none,.bin .lss (.tmp 101) (.tmp 100)⟩])
 (.seq
 (.cond (.tmp 102)
 .skip
 (.exit 2))
 (.seq
 (.block 3
 (.seq
 (.ops [
 ⟨some 103,none,.mv (.tmp 101)⟩,
⟨some 104,none,.idx 5 (.tmp 99) (.tmp 101)⟩,
⟨some 105,none,.ld true 5 (.tmp 104)⟩,
⟨some 11,none,.alc 49 [.slice none 0 0,.int .i64 0,.int .i64 0,.int .i64 0,.int .i64 0]⟩,
⟨some 10,none,.mv (.tmp 103)⟩,
⟨none,none,.sto true 5 (.tmp 11) (.tmp 105)⟩])
 (.seq
 (.ops [
 ⟨some 106,none,.mv (.tmp 0)⟩,
⟨some 107,none,.nck (.tmp 106)⟩,
⟨some 108,none,.fad 5 false 1 (.tmp 107)⟩,
⟨some 109,none,.ld false 1 (.tmp 108)⟩,
⟨some 110,none,.mv (.tmp 1)⟩,
⟨some 111,none,.idx 1 (.tmp 109) (.tmp 110)⟩,
⟨some 112,none,.ld false 1 (.tmp 111)⟩,
⟨some 113,none,.mv (.tmp 10)⟩,
⟨some 114,none,.mv (.tmp 0)⟩,
⟨some 115,none,.nck (.tmp 114)⟩,
⟨some 116,none,.fad 2 false 1 (.tmp 115)⟩,
⟨some 117,none,.ld false 1 (.tmp 116)⟩,
⟨some 118,none,.len (.tmp 117)⟩,
⟨some 119,none,.idx 1 (.tmp 112) (.tmp 113)⟩,
⟨none,none,.sto false 1 (.tmp 119) (.tmp 118)⟩])
 (.seq
 (.seq
 (.ops [
 ⟨some 120,none,.fad 0 false 1 (.tmp 11)⟩,
⟨some 121,none,.ld false 1 (.tmp 120)⟩,
⟨some 122,none,.len (.tmp 121)⟩,
⟨some 123,none,.mv (.const (.int .i64 0))⟩])
 (.block 4
 (.loop
 (.seq
 (.ops [
 ⟨some 124,none,.bin .lss (.tmp 123) (.tmp 122)⟩])
 (.seq
 (.cond (.tmp 124)
 .skip
 (.exit 4))
 (.seq
 (.block 5
 (.seq
 (.ops [
 ⟨some 125,none,.idx 8 (.tmp 121) (.tmp 123)⟩,
⟨some 126,none,.ld true 8 (.tmp 125)⟩,
⟨some 13,none,.alc 47 [.int .i64 0,.int .i64 0,.int .i64 0,.int .i64 0,.int .i64 0,.int .i64 0,.int .i64 0,.int .u32 0]⟩,
⟨none,none,.sto true 8 (.tmp 13) (.tmp 126)⟩])
 (.ops [
 ⟨some 127,none,.mv (.tmp 0)⟩,
⟨some 128,none,.ld true 8 (.tmp 13)⟩,
⟨some 129,none,.call (.func 52) [.tmp 127,.tmp 128]⟩])))
 (.ops [
 ⟨some 130,none,.bin .add (.tmp 123) (.const (.int .i64 1))⟩,
⟨some 123,none,.mv (.tmp 130)⟩])))))))
 (.ops [
 ⟨some 131,none,.mv (.tmp 0)⟩,
⟨some 132,none,.ld true 5 (.tmp 11)⟩,
⟨some 133,none,.mv (.tmp 10)⟩,
⟨some 134,none,.bin .add (.tmp 133) (.const (.int .i64 1))⟩,
⟨some 135,none,.call (.func 53) [.tmp 131,.tmp 132,.tmp 134]⟩])))))
 (.ops [
 ⟨some 136,none,.bin .add (.tmp 101) (.const (.int .i64 1))⟩,
⟨some 101,none,.mv (.tmp 136)⟩]))))))))))))))
theorem f_choose_writer_function : compF Try.prog 31 = some (137, c_choose_writer_function, []) := by kernel_rfl
def c_choose_writer_finish : VC :=
 (.seq
 (.ops [
 ⟨some 2,none,.mv (.const (.slice none 0 0))⟩,
⟨some 3,none,.mv (.const (.int .i64 0))⟩])
 (.seq
 (.seq
 (.ops [
 ⟨some 12,none,.mv (.tmp 0)⟩,
⟨some 13,none,.nck (.tmp 12)⟩,
⟨some 14,none,.fad 3 false 1 (.tmp 13)⟩,
⟨some 15,none,.ld false 1 (.tmp 14)⟩,
⟨some 16,none,.len (.tmp 15)⟩,
⟨some 17,none,.mv (.const (.int .i64 0))⟩])
 (.block 0
 (.loop
 (.seq
 (.ops [
 ⟨some 18,none,.bin .lss (.tmp 17) (.tmp 16)⟩])
 (.seq
 (.cond (.tmp 18)
 .skip
 (.exit 0))
 (.seq
 (.block 1
 (.seq
 (.ops [
 ⟨some 19,none,.idx 3 (.tmp 15) (.tmp 17)⟩,
⟨some 20,none,.ld true 3 (.tmp 19)⟩,
⟨some 5,none,.alc 113 [.int .i64 0,.int .i64 0,.int .i64 0]⟩,
⟨none,none,.sto true 3 (.tmp 5) (.tmp 20)⟩])
 (.seq
 (.ops [
 ⟨some 21,none,.mv (.tmp 0)⟩,
⟨some 22,none,.nck (.tmp 21)⟩,
⟨some 23,none,.fad 4 false 1 (.tmp 22)⟩,
⟨some 24,none,.ld false 1 (.tmp 23)⟩,
⟨some 25,none,.fad 1 false 1 (.tmp 5)⟩,
⟨some 26,none,.ld false 1 (.tmp 25)⟩,
⟨some 27,none,.idx 1 (.tmp 24) (.tmp 26)⟩,
⟨some 28,none,.ld false 1 (.tmp 27)⟩,
⟨some 6,none,.mv (.tmp 28)⟩])
 (.seq
 (.seq
 (.ops [
 ⟨some 29,none,.fad 2 false 1 (.tmp 5)⟩,
⟨some 30,none,.ld false 1 (.tmp 29)⟩,
⟨some 31,none,.bin .geq (.tmp 30) (.const (.int .i64 0))⟩])
 (.cond (.tmp 31)
 (.ops [
 ⟨some 32,none,.mv (.tmp 0)⟩,
⟨some 33,none,.nck (.tmp 32)⟩,
⟨some 34,none,.fad 5 false 1 (.tmp 33)⟩,
⟨some 35,none,.ld false 1 (.tmp 34)⟩,
⟨some 36,none,.fad 1 false 1 (.tmp 5)⟩,
⟨some 37,none,.ld false 1 (.tmp 36)⟩,
⟨some 38,none,.idx 1 (.tmp 35) (.tmp 37)⟩,
⟨some 39,none,.ld false 1 (.tmp 38)⟩,
⟨some 40,none,.fad 2 false 1 (.tmp 5)⟩,
⟨some 41,none,.ld false 1 (.tmp 40)⟩,
⟨some 42,none,.idx 1 (.tmp 39) (.tmp 41)⟩,
⟨some 43,none,.ld false 1 (.tmp 42)⟩,
⟨some 6,none,.mv (.tmp 43)⟩])
 .skip))
 (.ops [
 ⟨some 44,none,.mv (.tmp 0)⟩,
⟨some 45,none,.nck (.tmp 44)⟩,
⟨some 46,none,.fad 2 false 1 (.tmp 45)⟩,
⟨some 47,none,.ld false 1 (.tmp 46)⟩,
⟨some 48,none,.fad 0 false 1 (.tmp 5)⟩,
⟨some 49,none,.ld false 1 (.tmp 48)⟩,
⟨some 50,none,.mv (.tmp 6)⟩,
⟨some 51,none,.idx 4 (.tmp 47) (.tmp 49)⟩,
⟨some 52,none,.fad 3 false 1 (.tmp 51)⟩,
⟨none,none,.sto false 1 (.tmp 52) (.tmp 50)⟩])))))
 (.ops [
 ⟨some 53,none,.bin .add (.tmp 17) (.const (.int .i64 1))⟩,
⟨some 17,none,.mv (.tmp 53)⟩])))))))
 (.seq
 (.ops [
 ⟨some 54,none,.mv (.tmp 0)⟩,
⟨some 55,none,.nck (.tmp 54)⟩,
⟨some 56,none,.fad 2 false 1 (.tmp 55)⟩,
⟨some 57,none,.ld false 1 (.tmp 56)⟩,
⟨some 58,none,.len (.tmp 57)⟩,
⟨some 59,none,.mk 45 1 4 [.int .u32 0] (.tmp 58) (.tmp 58)⟩,
⟨some 7,none,.mv (.tmp 59)⟩])
 (.seq
 (.seq
 (.ops [
 ⟨some 60,none,.mv (.tmp 0)⟩,
⟨some 61,none,.nck (.tmp 60)⟩,
⟨some 62,none,.fad 2 false 1 (.tmp 61)⟩,
⟨some 63,none,.ld false 1 (.tmp 62)⟩,
⟨some 64,none,.len (.tmp 63)⟩,
⟨some 65,none,.mv (.const (.int .i64 0))⟩])
 (.block 2
 (.loop
 (.seq
 (.ops [
 ⟨some 66,none,.bin .lss (.tmp 65) (.tmp 64)⟩])
 (.seq
 (.cond (.tmp 66)
 .skip
 (.exit 2))
 (.seq
 (.block 3
 (.seq
 (.ops [
 ⟨some 67,none,.mv (.tmp 65)⟩,
⟨some 68,none,.idx 4 (.tmp 63) (.tmp 65)⟩,
⟨some 69,none,.ld true 4 (.tmp 68)⟩,
⟨some 9,none,.alc 115 [.int .i64 0,.int .i64 0,.int .i64 0,.int .i64 0]⟩,
⟨some 8,none,.mv (.tmp 67)⟩,
⟨none,none,.sto true 4 (.tmp 9) (.tmp 69)⟩])
 (.seq
 (.ops [
 ⟨some 71,none,.ld true 4 (.tmp 9)⟩,
⟨some 72,none,.call (.func 54) [.tmp 71]⟩,
⟨some 70,none,.mv (.tmp 72)⟩,
⟨some 73,none,.ext (.tmp 70) 0⟩,
⟨some 74,none,.ext (.tmp 70) 1⟩,
⟨some 10,none,.mv (.tmp 73)⟩,
⟨some 11,none,.mv (.tmp 74)⟩])
 (.seq
 (.seq
 (.ops [
 ⟨some 75,none,.mv (.tmp 11)⟩,
⟨some 76,none,.bin .neq (.tmp 75) (.const (.int .i64 0))⟩])
 (.cond (.tmp 76)
 (.seq
 (.ops [
 ⟨some 77,none,.mv (.tmp 11)⟩,
⟨some 2,none,.mv (.const (.slice none 0 0))⟩,
⟨some 3,none,.mv (.tmp 77)⟩])
 .ret)
 .skip))
 (.ops [
 ⟨some 78,none,.mv (.tmp 7)⟩,
⟨some 79,none,.mv (.tmp 8)⟩,
⟨some 80,none,.mv (.tmp 10)⟩,
⟨some 81,none,.idx 1 (.tmp 78) (.tmp 79)⟩,
⟨none,none,.sto false 1 (.tmp 81) (.tmp 80)⟩])))))
 (.ops [
 ⟨some 82,none,.bin .add (.tmp 65) (.const (.int .i64 1))⟩,
⟨some 65,none,.mv (.tmp 82)⟩])))))))
 (.seq
 (.ops [
 ⟨some 83,none,.mv (.tmp 7)⟩,
⟨some 2,none,.mv (.tmp 83)⟩,
⟨some 3,none,.mv (.const (.int .i64 0))⟩])
 .ret)))))
theorem f_choose_writer_finish : compF Try.prog 32 = some (84, c_choose_writer_finish, [.tmp 2,.tmp 3]) := by kernel_rfl
def c_scref10_Go : VC :=
 (.seq
 (.ops [
 ⟨some 4,none,.box 30 (.tmp 0)⟩,
⟨some 6,none,.box 87 (.tmp 2)⟩,
⟨(some 8), none, (.alc 87 [(.int .i64 0), (.int .u32 0), (.int .u32 0), (.int .u32 0), (.int .u32 0), (.int .u32 0), (.int .u32 0), (.int .u32 0), (.int .u32 0), (.int .u32 0), (.int .u32 0), (.int .u32 0), (.int .u32 0), (.int .u32 0), (.int .u32 0), (.int .u32 0), (.int .u32 0), (.slice none 0 0), (.int .i64 0), (.string ⟨#[]⟩), (.int .i64 0), (.int .i64 0)])⟩])
 (.seq
 (.ops [
 ⟨some 12,none,.ld true 2 (.tmp 4)⟩,
⟨some 13,none,.mv (.tmp 1)⟩,
⟨some 14,none,.ld true 22 (.tmp 6)⟩,
⟨some 15,none,.mv (.tmp 3)⟩,
⟨some 16,none,.call (.func 57) [.tmp 12,.tmp 13,.tmp 14,.tmp 15]⟩,
⟨some 11,none,.mv (.tmp 16)⟩,
⟨some 17,none,.ext (.tmp 11) 0⟩,
⟨some 18,none,.ext (.tmp 11) 1⟩,
⟨(some 9), none, (.alc 87 [(.int .i64 0), (.int .u32 0), (.int .u32 0), (.int .u32 0), (.int .u32 0), (.int .u32 0), (.int .u32 0), (.int .u32 0), (.int .u32 0), (.int .u32 0), (.int .u32 0), (.int .u32 0), (.int .u32 0), (.int .u32 0), (.int .u32 0), (.int .u32 0), (.int .u32 0), (.slice none 0 0), (.int .i64 0), (.string ⟨#[]⟩), (.int .i64 0), (.int .i64 0)])⟩,
⟨none,none,.sto true 22 (.tmp 9) (.tmp 17)⟩,
⟨some 10,none,.mv (.tmp 18)⟩])
 (.seq
 (.ops [
 ⟨some 19,none,.ld true 22 (.tmp 9)⟩,
⟨none,none,.sto true 22 (.tmp 8) (.tmp 19)⟩])
 .ret)))
theorem f_scref10_Go : compF Try.prog 34 = some (20, c_scref10_Go, [(.cell 8 true 22)]) := by kernel_rfl
def c_scref09_Start : VC :=
 (.seq
 (.ops [
 ⟨some 1,none,.box 30 (.tmp 0)⟩,
⟨(some 2), none, (.alc 87 [(.int .i64 0), (.int .u32 0), (.int .u32 0), (.int .u32 0), (.int .u32 0), (.int .u32 0), (.int .u32 0), (.int .u32 0), (.int .u32 0), (.int .u32 0), (.int .u32 0), (.int .u32 0), (.int .u32 0), (.int .u32 0), (.int .u32 0), (.int .u32 0), (.int .u32 0), (.slice none 0 0), (.int .i64 0), (.string ⟨#[]⟩), (.int .i64 0), (.int .i64 0)])⟩])
 (.seq
 (.ops [
 ⟨(some 3), none, (.alc 87 [(.int .i64 0), (.int .u32 0), (.int .u32 0), (.int .u32 0), (.int .u32 0), (.int .u32 0), (.int .u32 0), (.int .u32 0), (.int .u32 0), (.int .u32 0), (.int .u32 0), (.int .u32 0), (.int .u32 0), (.int .u32 0), (.int .u32 0), (.int .u32 0), (.int .u32 0), (.slice none 0 0), (.int .i64 0), (.string ⟨#[]⟩), (.int .i64 0), (.int .i64 0)])⟩])
 (.seq
 (.seq
 (.ops [
 ⟨some 4,none,.fad 1 false 1 (.tmp 1)⟩,
⟨some 5,none,.ld false 1 (.tmp 4)⟩,
⟨some 6,none,.bin .gtr (.tmp 5) (.const (.int .i64 0))⟩,
⟨some 7,none,.mv (.tmp 6)⟩,
⟨some 8,some (7,true),.fad 1 false 1 (.tmp 1)⟩,
⟨some 9,some (7,true),.ld false 1 (.tmp 8)⟩,
⟨some 10,some (7,true),.bin .leq (.tmp 9) (.const (.int .i64 32768))⟩,
⟨some 11,none,.pick (.tmp 7) (.tmp 10) (.const (.bool false))⟩])
 (.cond (.tmp 11)
 (.ops [
 ⟨some 12,none,.fad 1 false 1 (.tmp 1)⟩,
⟨some 13,none,.ld false 1 (.tmp 12)⟩,
⟨some 14,none,.mk 45 1 4 [.int .u32 0] (.tmp 13) (.tmp 13)⟩,
⟨some 15,none,.fad 17 false 1 (.tmp 3)⟩,
⟨none,none,.sto false 1 (.tmp 15) (.tmp 14)⟩])
 .skip))
 (.seq
 (.ops [
 ⟨some 16,none,.ld true 22 (.tmp 3)⟩,
⟨none,none,.sto true 22 (.tmp 2) (.tmp 16)⟩])
 .ret))))
theorem f_scref09_Start : compF Try.prog 35 = some (17, c_scref09_Start, [(.cell 2 true 22)]) := by kernel_rfl
def c_scref28_Words : VC :=
 (.seq
 (.ops [
 ⟨some 1,none,.box 55 (.tmp 0)⟩,
⟨some 2,none,.mv (.const (.int .i64 0))⟩])
 (.seq
 (.ops [
 ⟨some 3,none,.mv (.const (.int .i64 0))⟩])
 (.seq
 (.seq
 (.ops [
 ⟨some 4,none,.mv (.const (.int .i64 0))⟩])
 (.block 0
 (.loop
 (.seq
 (.seq
 (.ops [
 ⟨some 5,none,.mv (.tmp 4)⟩,
⟨some 6,none,.fad 0 false 1 (.tmp 1)⟩,
⟨some 7,none,.ld false 1 (.tmp 6)⟩,
⟨some 8,none,.len (.tmp 7)⟩,
⟨some 9,none,.bin .lss (.tmp 5) (.tmp 8)⟩])
 (.cond (.tmp 9)
 .skip
 (.exit 0)))
 (.seq
 (.block 1
 (.seq
 (.ops [
 ⟨some 12,none,.fad 0 false 1 (.tmp 1)⟩,
⟨some 13,none,.ld false 1 (.tmp 12)⟩,
⟨some 14,none,.mv (.tmp 4)⟩,
⟨some 15,none,.idx 1 (.tmp 13) (.tmp 14)⟩,
⟨some 16,none,.ld false 1 (.tmp 15)⟩,
⟨some 17,none,.bin .lss (.tmp 16) (.const (.int .i64 0))⟩,
⟨some 18,none,.mv (.tmp 17)⟩,
⟨some 19,some (18,true),.fad 0 false 1 (.tmp 1)⟩,
⟨some 20,some (18,true),.ld false 1 (.tmp 19)⟩,
⟨some 21,some (18,true),.mv (.tmp 4)⟩,
⟨some 22,some (18,true),.idx 1 (.tmp 20) (.tmp 21)⟩,
⟨some 23,some (18,true),.ld false 1 (.tmp 22)⟩,
⟨some 24,some (18,true),.un .neg (.tmp 23)⟩,
⟨some 25,some (18,true),.mv (.tmp 3)⟩,
⟨some 26,some (18,true),.bin .gtr (.tmp 24) (.tmp 25)⟩,
⟨some 27,none,.pick (.tmp 18) (.tmp 26) (.const (.bool false))⟩])
 (.cond (.tmp 27)
 (.ops [
 ⟨some 28,none,.fad 0 false 1 (.tmp 1)⟩,
⟨some 29,none,.ld false 1 (.tmp 28)⟩,
⟨some 30,none,.mv (.tmp 4)⟩,
⟨some 31,none,.idx 1 (.tmp 29) (.tmp 30)⟩,
⟨some 32,none,.ld false 1 (.tmp 31)⟩,
⟨some 33,none,.un .neg (.tmp 32)⟩,
⟨some 3,none,.mv (.tmp 33)⟩])
 .skip)))
 (.ops [
 ⟨some 10,none,.mv (.tmp 4)⟩,
⟨some 11,none,.bin .add (.tmp 10) (.const (.int .i64 1))⟩,
⟨some 4,none,.mv (.tmp 11)⟩]))))))
 (.seq
 (.ops [
 ⟨some 34,none,.mv (.tmp 3)⟩,
⟨some 2,none,.mv (.tmp 34)⟩])
 .ret))))
theorem f_scref28_Words : compF Try.prog 36 = some (35, c_scref28_Words, [.tmp 2]) := by kernel_rfl
def c_scref24_One : VC :=
 (.seq
 (.ops [
 ⟨some 3,none,.box 52 (.tmp 0)⟩,
⟨some 6,none,.mv (.const (.bool false))⟩])
 (.seq
 (.seq
 (.ops [
 ⟨some 9,none,.fad 0 false 1 (.tmp 3)⟩,
⟨some 10,none,.ld false 1 (.tmp 9)⟩,
⟨some 11,none,.bin .lss (.tmp 10) (.const (.int .i64 0))⟩,
⟨some 12,none,.mv (.tmp 11)⟩,
⟨some 13,some (12,false),.fad 0 false 1 (.tmp 3)⟩,
⟨some 14,some (12,false),.ld false 1 (.tmp 13)⟩,
⟨some 15,some (12,false),.bin .gtr (.tmp 14) (.const (.int .i64 4000))⟩,
⟨some 16,none,.pick (.tmp 12) (.const (.bool true)) (.tmp 15)⟩,
⟨some 17,none,.mv (.tmp 16)⟩,
⟨some 18,some (17,false),.fad 1 false 1 (.tmp 3)⟩,
⟨some 19,some (17,false),.ld false 1 (.tmp 18)⟩,
⟨some 20,some (17,false),.len (.tmp 19)⟩,
⟨some 21,some (17,false),.bin .eql (.tmp 20) (.const (.int .i64 0))⟩,
⟨some 22,none,.pick (.tmp 17) (.const (.bool true)) (.tmp 21)⟩])
 (.cond (.tmp 22)
 (.seq
 (.ops [
 ⟨some 6,none,.mv (.const (.bool false))⟩])
 .ret)
 .skip))
 (.seq
 (.seq
 (.ops [
 ⟨some 7,none,.mv (.const (.int .i64 0))⟩])
 (.block 0
 (.loop
 (.seq
 (.seq
 (.ops [
 ⟨some 23,none,.mv (.tmp 7)⟩,
⟨some 24,none,.fad 1 false 1 (.tmp 3)⟩,
⟨some 25,none,.ld false 1 (.tmp 24)⟩,
⟨some 26,none,.len (.tmp 25)⟩,
⟨some 27,none,.bin .lss (.tmp 23) (.tmp 26)⟩])
 (.cond (.tmp 27)
 .skip
 (.exit 0)))
 (.seq
 (.block 1
 (.seq
 (.seq
 (.ops [
 ⟨some 30,none,.fad 1 false 1 (.tmp 3)⟩,
⟨some 31,none,.ld false 1 (.tmp 30)⟩,
⟨some 32,none,.mv (.tmp 7)⟩,
⟨some 33,none,.idx 5 (.tmp 31) (.tmp 32)⟩,
⟨some 34,none,.ld true 5 (.tmp 33)⟩,
⟨some 35,none,.fad 1 false 1 (.tmp 3)⟩,
⟨some 36,none,.ld false 1 (.tmp 35)⟩,
⟨some 37,none,.len (.tmp 36)⟩,
⟨some 38,none,.fad 0 false 1 (.tmp 3)⟩,
⟨some 39,none,.ld false 1 (.tmp 38)⟩,
⟨some 40,none,.call (.func 58) [.tmp 34,.tmp 37,.tmp 39]⟩,
⟨some 41,none,.un .not (.tmp 40)⟩])
 (.cond (.tmp 41)
 (.seq
 (.ops [
 ⟨some 6,none,.mv (.const (.bool false))⟩])
 .ret)
 .skip))
 (.seq
 (.ops [
 ⟨some 8,none,.mv (.const (.int .i64 0))⟩])
 (.block 2
 (.loop
 (.seq
 (.seq
 (.ops [
 ⟨some 42,none,.mv (.tmp 8)⟩,
⟨some 43,none,.fad 1 false 1 (.tmp 3)⟩,
⟨some 44,none,.ld false 1 (.tmp 43)⟩,
⟨some 45,none,.mv (.tmp 7)⟩,
⟨some 46,none,.idx 5 (.tmp 44) (.tmp 45)⟩,
⟨some 47,none,.fad 0 false 1 (.tmp 46)⟩,
⟨some 48,none,.ld false 1 (.tmp 47)⟩,
⟨some 49,none,.len (.tmp 48)⟩,
⟨some 50,none,.bin .lss (.tmp 42) (.tmp 49)⟩])
 (.cond (.tmp 50)
 .skip
 (.exit 2)))
 (.seq
 (.block 3
 (.seq
 (.ops [
 ⟨some 53,none,.fad 1 false 1 (.tmp 3)⟩,
⟨some 54,none,.ld false 1 (.tmp 53)⟩,
⟨some 55,none,.mv (.tmp 7)⟩,
⟨some 56,none,.idx 5 (.tmp 54) (.tmp 55)⟩,
⟨some 57,none,.fad 0 false 1 (.tmp 56)⟩,
⟨some 58,none,.ld false 1 (.tmp 57)⟩,
⟨some 59,none,.mv (.tmp 8)⟩,
⟨some 60,none,.idx 8 (.tmp 58) (.tmp 59)⟩,
⟨some 61,none,.ld true 8 (.tmp 60)⟩,
⟨some 62,none,.mv (.tmp 1)⟩,
⟨some 63,none,.fad 0 false 1 (.tmp 3)⟩,
⟨some 64,none,.ld false 1 (.tmp 63)⟩,
⟨some 65,none,.mv (.tmp 2)⟩,
⟨some 66,none,.call (.func 59) [.tmp 61,.tmp 62,.tmp 64,.tmp 65]⟩,
⟨some 67,none,.un .not (.tmp 66)⟩])
 (.cond (.tmp 67)
 (.seq
 (.ops [
 ⟨some 6,none,.mv (.const (.bool false))⟩])
 .ret)
 .skip)))
 (.ops [
 ⟨some 51,none,.mv (.tmp 8)⟩,
⟨some 52,none,.bin .add (.tmp 51) (.const (.int .i64 1))⟩,
⟨some 8,none,.mv (.tmp 52)⟩]))))))))
 (.ops [
 ⟨some 28,none,.mv (.tmp 7)⟩,
⟨some 29,none,.bin .add (.tmp 28) (.const (.int .i64 1))⟩,
⟨some 7,none,.mv (.tmp 29)⟩]))))))
 (.seq
 (.ops [
 ⟨some 6,none,.mv (.const (.bool true))⟩])
 .ret))))
theorem f_scref24_One : compF Try.prog 37 = some (68, c_scref24_One, [.tmp 6]) := by kernel_rfl
def c_scref28_Check : VC :=
 (.seq
 (.ops [
 ⟨some 4,none,.box 52 (.tmp 0)⟩,
⟨some 5,none,.box 63 (.tmp 1)⟩,
⟨some 6,none,.box 55 (.tmp 2)⟩,
⟨some 8,none,.mv (.const (.bool false))⟩])
 (.seq
 (.seq
 (.par false (.one ⟨some 12,none,.ld true 2 (.tmp 4)⟩ (.one ⟨some 13,none,.ld true 2 (.tmp 5)⟩ (.one ⟨some 14,none,.call (.func 60) [.tmp 12,.tmp 13]⟩ (.one ⟨some 15,none,.un .not (.tmp 14)⟩ (.one ⟨some 16,none,.mv (.tmp 15)⟩ (.one ⟨some 17,some (16,false),.ld true 1 (.tmp 6)⟩ (.one ⟨some 18,some (16,false),.fad 0 false 1 (.tmp 4)⟩ (.one ⟨some 19,some (16,false),.ld false 1 (.tmp 18)⟩ (.one ⟨some 20,some (16,false),.mv (.tmp 3)⟩ (.one ⟨some 21,some (16,false),.call (.func 61) [.tmp 17,.tmp 19,.tmp 20]⟩ (.one ⟨some 22,some (16,false),.un .not (.tmp 21)⟩ (.one ⟨some 23,none,.pick (.tmp 16) (.const (.bool true)) (.tmp 22)⟩ (.one ⟨some 24,none,.mv (.tmp 23)⟩ (.one ⟨some 25,some (24,false),.ld true 1 (.tmp 6)⟩ (.one ⟨some 26,some (24,false),.fad 0 false 1 (.tmp 5)⟩ (.one ⟨some 27,some (24,false),.ld false 1 (.tmp 26)⟩ (.one ⟨some 28,some (24,false),.idx 1 (.tmp 27) (.const (.int .i64 0))⟩ (.one ⟨some 29,some (24,false),.ld false 1 (.tmp 28)⟩ (.one ⟨some 30,some (24,false),.call (.func 62) [.tmp 25,.tmp 29]⟩ (.one ⟨some 31,some (24,false),.un .not (.tmp 30)⟩ (.one ⟨some 32,none,.pick (.tmp 24) (.const (.bool true)) (.tmp 31)⟩ .done))))))))))))))))))))))
 (.cond (.tmp 32)
 (.seq
 (.ops [
 ⟨some 8,none,.mv (.const (.bool false))⟩])
 .ret)
 .skip))
 (.seq
 (.seq
 (.ops [
 ⟨some 9,none,.mv (.const (.int .i64 0))⟩])
 (.block 0
 (.loop
 (.seq
 (.seq
 (.ops [
 ⟨some 33,none,.mv (.tmp 9)⟩,
⟨some 34,none,.fad 1 false 1 (.tmp 4)⟩,
⟨some 35,none,.ld false 1 (.tmp 34)⟩,
⟨some 36,none,.len (.tmp 35)⟩,
⟨some 37,none,.bin .lss (.tmp 33) (.tmp 36)⟩])
 (.cond (.tmp 37)
 .skip
 (.exit 0)))
 (.seq
 (.block 1
 (.seq
 (.ops [
 ⟨some 40,none,.ld true 2 (.tmp 4)⟩,
⟨some 41,none,.ld true 2 (.tmp 5)⟩,
⟨some 42,none,.mv (.tmp 9)⟩,
⟨some 43,none,.call (.func 25) [.tmp 40,.tmp 41,.tmp 42]⟩,
⟨some 10,none,.mv (.tmp 43)⟩])
 (.seq
 (.ops [
 ⟨some 11,none,.mv (.const (.int .i64 0))⟩])
 (.block 2
 (.loop
 (.seq
 (.seq
 (.ops [
 ⟨some 44,none,.mv (.tmp 11)⟩,
⟨some 45,none,.fad 1 false 1 (.tmp 4)⟩,
⟨some 46,none,.ld false 1 (.tmp 45)⟩,
⟨some 47,none,.mv (.tmp 9)⟩,
⟨some 48,none,.idx 5 (.tmp 46) (.tmp 47)⟩,
⟨some 49,none,.fad 0 false 1 (.tmp 48)⟩,
⟨some 50,none,.ld false 1 (.tmp 49)⟩,
⟨some 51,none,.len (.tmp 50)⟩,
⟨some 52,none,.bin .lss (.tmp 44) (.tmp 51)⟩])
 (.cond (.tmp 52)
 .skip
 (.exit 2)))
 (.seq
 (.block 3
 (.seq
 (.ops [
 ⟨some 55,none,.fad 1 false 1 (.tmp 4)⟩,
⟨some 56,none,.ld false 1 (.tmp 55)⟩,
⟨some 57,none,.mv (.tmp 9)⟩,
⟨some 58,none,.idx 5 (.tmp 56) (.tmp 57)⟩,
⟨some 59,none,.fad 0 false 1 (.tmp 58)⟩,
⟨some 60,none,.ld false 1 (.tmp 59)⟩,
⟨some 61,none,.mv (.tmp 11)⟩,
⟨some 62,none,.idx 8 (.tmp 60) (.tmp 61)⟩,
⟨some 63,none,.ld true 8 (.tmp 62)⟩,
⟨some 64,none,.ld true 1 (.tmp 6)⟩,
⟨some 65,none,.mv (.tmp 10)⟩,
⟨some 66,none,.mv (.tmp 11)⟩,
⟨some 67,none,.idx 1 (.tmp 65) (.tmp 66)⟩,
⟨some 68,none,.ld false 1 (.tmp 67)⟩,
⟨some 69,none,.call (.func 63) [.tmp 63,.tmp 64,.tmp 68]⟩,
⟨some 70,none,.un .not (.tmp 69)⟩])
 (.cond (.tmp 70)
 (.seq
 (.ops [
 ⟨some 8,none,.mv (.const (.bool false))⟩])
 .ret)
 .skip)))
 (.ops [
 ⟨some 53,none,.mv (.tmp 11)⟩,
⟨some 54,none,.bin .add (.tmp 53) (.const (.int .i64 1))⟩,
⟨some 11,none,.mv (.tmp 54)⟩]))))))))
 (.ops [
 ⟨some 38,none,.mv (.tmp 9)⟩,
⟨some 39,none,.bin .add (.tmp 38) (.const (.int .i64 1))⟩,
⟨some 9,none,.mv (.tmp 39)⟩]))))))
 (.seq
 (.ops [
 ⟨some 8,none,.mv (.const (.bool true))⟩])
 .ret))))
theorem f_scref28_Check : compF Try.prog 38 = some (71, c_scref28_Check, [.tmp 8]) := by kernel_rfl
def c_live_solverOf : VC :=
 (.seq
 (.ops [
 ⟨some 1,none,.box 52 (.tmp 0)⟩,
⟨some 2,none,.mv (.const (.pointer none))⟩])
 (.seq
 (.ops [
 ⟨some 12,none,.fad 1 false 1 (.tmp 1)⟩,
⟨some 13,none,.ld false 1 (.tmp 12)⟩,
⟨some 14,none,.len (.tmp 13)⟩,
⟨some 3,none,.mv (.tmp 14)⟩])
 (.seq
 (.par false (.one ⟨some 15,none,.ld true 2 (.tmp 1)⟩ (.one ⟨some 16,none,.call (.func 64) [.tmp 15]⟩ (.one ⟨some 17,none,.mv (.tmp 3)⟩ (.one ⟨some 19,none,.mv (.tmp 3)⟩ (.both (.one ⟨some 18,none,.mk 53 1 24 [.slice none 0 0] (.tmp 17) (.tmp 17)⟩ (.one ⟨some 20,none,.mk 4 1 1 [.bool false] (.tmp 19) (.tmp 19)⟩ (.one ⟨some 21,none,.bld [.slice none 0 0,.slice none 0 0,.slice none 0 0,.slice none 0 0,.slice none 0 0,.slice none 0 0,.slice none 0 0,.slice none 0 0] [(0, (1, (.tmp 16))), (1, (1, (.tmp 18))), (7, (1, (.tmp 20)))]⟩ (.one ⟨some 22,none,.box 97 (.tmp 21)⟩ (.one ⟨some 4,none,.mv (.tmp 22)⟩ .done))))) (.one ⟨some 20,none,.mk 4 1 1 [.bool false] (.tmp 19) (.tmp 19)⟩ (.one ⟨some 18,none,.mk 53 1 24 [.slice none 0 0] (.tmp 17) (.tmp 17)⟩ (.one ⟨some 21,none,.bld [.slice none 0 0,.slice none 0 0,.slice none 0 0,.slice none 0 0,.slice none 0 0,.slice none 0 0,.slice none 0 0,.slice none 0 0] [(0, (1, (.tmp 16))), (1, (1, (.tmp 18))), (7, (1, (.tmp 20)))]⟩ (.one ⟨some 22,none,.box 97 (.tmp 21)⟩ (.one ⟨some 4,none,.mv (.tmp 22)⟩ .done)))))))))))
 (.seq
 (.seq
 (.ops [
 ⟨some 23,none,.mv (.tmp 4)⟩,
⟨some 24,none,.nck (.tmp 23)⟩,
⟨some 25,none,.fad 0 false 1 (.tmp 24)⟩,
⟨some 26,none,.ld false 1 (.tmp 25)⟩,
⟨some 27,none,.len (.tmp 26)⟩,
⟨some 28,none,.mv (.const (.int .i64 0))⟩])
 (.block 0
 (.loop
 (.seq
 (.ops [
 ⟨some 29,none,.bin .lss (.tmp 28) (.tmp 27)⟩])
 (.seq
 (.cond (.tmp 29)
 .skip
 (.exit 0))
 (.seq
 (.block 1
 (.seq
 (.ops [
 ⟨some 30,none,.mv (.tmp 28)⟩,
⟨some 31,none,.idx 1 (.tmp 26) (.tmp 28)⟩,
⟨some 32,none,.ld false 1 (.tmp 31)⟩,
⟨some 5,none,.mv (.tmp 30)⟩,
⟨some 6,none,.mv (.tmp 32)⟩])
 (.seq
 (.seq
 (.ops [
 ⟨some 33,none,.mv (.tmp 6)⟩,
⟨some 34,none,.len (.tmp 33)⟩,
⟨some 35,none,.mv (.const (.int .i64 0))⟩])
 (.block 2
 (.loop
 (.seq
 (.ops [
 ⟨some 36,none,.bin .lss (.tmp 35) (.tmp 34)⟩])
 (.seq
 (.cond (.tmp 36)
 .skip
 (.exit 2))
 (.seq
 (.block 3
 (.seq
 (.ops [
 ⟨some 37,none,.idx 1 (.tmp 33) (.tmp 35)⟩,
⟨some 38,none,.ld false 1 (.tmp 37)⟩,
⟨some 8,none,.mv (.tmp 38)⟩])
 (.par false (.one ⟨some 39,none,.mv (.tmp 4)⟩ (.one ⟨some 43,none,.mv (.tmp 8)⟩ (.one ⟨some 44,none,.mv (.tmp 4)⟩ (.one ⟨some 45,none,.nck (.tmp 44)⟩ (.one ⟨some 46,none,.fad 1 false 1 (.tmp 45)⟩ (.one ⟨some 47,none,.ld false 1 (.tmp 46)⟩ (.one ⟨some 48,none,.mv (.tmp 8)⟩ (.one ⟨some 49,none,.idx 1 (.tmp 47) (.tmp 48)⟩ (.one ⟨some 50,none,.ld false 1 (.tmp 49)⟩ (.one ⟨some 51,none,.mv (.tmp 5)⟩ (.both (.one ⟨some 40,none,.nck (.tmp 39)⟩ (.both (.one ⟨some 41,none,.fad 1 false 1 (.tmp 40)⟩ (.both (.one ⟨some 42,none,.ld false 1 (.tmp 41)⟩ (.one ⟨some 52,none,.bsl 3 1 1 [.int .i64 0] [(0, (1, (.tmp 51)))]⟩ (.one ⟨some 53,none,.app 3 1 8 (.tmp 50) (.tmp 52)⟩ (.one ⟨some 54,none,.idx 1 (.tmp 42) (.tmp 43)⟩ (.one ⟨none,none,.sto false 1 (.tmp 54) (.tmp 53)⟩ .done))))) (.one ⟨some 52,none,.bsl 3 1 1 [.int .i64 0] [(0, (1, (.tmp 51)))]⟩ (.both (.one ⟨some 42,none,.ld false 1 (.tmp 41)⟩ (.one ⟨some 53,none,.app 3 1 8 (.tmp 50) (.tmp 52)⟩ (.one ⟨some 54,none,.idx 1 (.tmp 42) (.tmp 43)⟩ (.one ⟨none,none,.sto false 1 (.tmp 54) (.tmp 53)⟩ .done)))) (.one ⟨some 53,none,.app 3 1 8 (.tmp 50) (.tmp 52)⟩ (.one ⟨some 42,none,.ld false 1 (.tmp 41)⟩ (.one ⟨some 54,none,.idx 1 (.tmp 42) (.tmp 43)⟩ (.one ⟨none,none,.sto false 1 (.tmp 54) (.tmp 53)⟩ .done)))))))) (.one ⟨some 52,none,.bsl 3 1 1 [.int .i64 0] [(0, (1, (.tmp 51)))]⟩ (.both (.one ⟨some 41,none,.fad 1 false 1 (.tmp 40)⟩ (.both (.one ⟨some 42,none,.ld false 1 (.tmp 41)⟩ (.one ⟨some 53,none,.app 3 1 8 (.tmp 50) (.tmp 52)⟩ (.one ⟨some 54,none,.idx 1 (.tmp 42) (.tmp 43)⟩ (.one ⟨none,none,.sto false 1 (.tmp 54) (.tmp 53)⟩ .done)))) (.one ⟨some 53,none,.app 3 1 8 (.tmp 50) (.tmp 52)⟩ (.one ⟨some 42,none,.ld false 1 (.tmp 41)⟩ (.one ⟨some 54,none,.idx 1 (.tmp 42) (.tmp 43)⟩ (.one ⟨none,none,.sto false 1 (.tmp 54) (.tmp 53)⟩ .done)))))) (.one ⟨some 53,none,.app 3 1 8 (.tmp 50) (.tmp 52)⟩ (.one ⟨some 41,none,.fad 1 false 1 (.tmp 40)⟩ (.one ⟨some 42,none,.ld false 1 (.tmp 41)⟩ (.one ⟨some 54,none,.idx 1 (.tmp 42) (.tmp 43)⟩ (.one ⟨none,none,.sto false 1 (.tmp 54) (.tmp 53)⟩ .done))))))))) (.one ⟨some 52,none,.bsl 3 1 1 [.int .i64 0] [(0, (1, (.tmp 51)))]⟩ (.both (.one ⟨some 40,none,.nck (.tmp 39)⟩ (.both (.one ⟨some 41,none,.fad 1 false 1 (.tmp 40)⟩ (.both (.one ⟨some 42,none,.ld false 1 (.tmp 41)⟩ (.one ⟨some 53,none,.app 3 1 8 (.tmp 50) (.tmp 52)⟩ (.one ⟨some 54,none,.idx 1 (.tmp 42) (.tmp 43)⟩ (.one ⟨none,none,.sto false 1 (.tmp 54) (.tmp 53)⟩ .done)))) (.one ⟨some 53,none,.app 3 1 8 (.tmp 50) (.tmp 52)⟩ (.one ⟨some 42,none,.ld false 1 (.tmp 41)⟩ (.one ⟨some 54,none,.idx 1 (.tmp 42) (.tmp 43)⟩ (.one ⟨none,none,.sto false 1 (.tmp 54) (.tmp 53)⟩ .done)))))) (.one ⟨some 53,none,.app 3 1 8 (.tmp 50) (.tmp 52)⟩ (.one ⟨some 41,none,.fad 1 false 1 (.tmp 40)⟩ (.one ⟨some 42,none,.ld false 1 (.tmp 41)⟩ (.one ⟨some 54,none,.idx 1 (.tmp 42) (.tmp 43)⟩ (.one ⟨none,none,.sto false 1 (.tmp 54) (.tmp 53)⟩ .done))))))) (.one ⟨some 53,none,.app 3 1 8 (.tmp 50) (.tmp 52)⟩ (.one ⟨some 40,none,.nck (.tmp 39)⟩ (.one ⟨some 41,none,.fad 1 false 1 (.tmp 40)⟩ (.one ⟨some 42,none,.ld false 1 (.tmp 41)⟩ (.one ⟨some 54,none,.idx 1 (.tmp 42) (.tmp 43)⟩ (.one ⟨none,none,.sto false 1 (.tmp 54) (.tmp 53)⟩ .done))))))))))))))))))))))
 (.ops [
 ⟨some 55,none,.bin .add (.tmp 35) (.const (.int .i64 1))⟩,
⟨some 35,none,.mv (.tmp 55)⟩])))))))
 (.seq
 (.par false (.one ⟨some 57,none,.fad 1 false 1 (.tmp 1)⟩ (.one ⟨some 58,none,.ld false 1 (.tmp 57)⟩ (.one ⟨some 59,none,.mv (.tmp 5)⟩ (.one ⟨some 60,none,.idx 5 (.tmp 58) (.tmp 59)⟩ (.one ⟨some 61,none,.ld true 5 (.tmp 60)⟩ (.one ⟨some 62,none,.fad 0 false 1 (.tmp 1)⟩ (.one ⟨some 63,none,.ld false 1 (.tmp 62)⟩ (.one ⟨some 64,none,.call (.func 65) [.tmp 61,.tmp 63]⟩ (.one ⟨some 56,none,.mv (.tmp 64)⟩ (.one ⟨some 65,none,.ext (.tmp 56) 0⟩ (.one ⟨some 66,none,.ext (.tmp 56) 1⟩ (.one ⟨some 9,none,.mv (.tmp 65)⟩ (.one ⟨some 10,none,.mv (.tmp 66)⟩ .done))))))))))))))
 (.seq
 (.ops [
 ⟨some 67,none,.mv (.tmp 4)⟩,
⟨some 68,none,.mv (.tmp 4)⟩,
⟨some 69,none,.nck (.tmp 68)⟩,
⟨some 70,none,.fad 2 false 1 (.tmp 69)⟩,
⟨some 71,none,.ld false 1 (.tmp 70)⟩,
⟨some 72,none,.mv (.tmp 9)⟩,
⟨some 73,none,.bsl 100 1 1 [.slice none 0 0] [(0, (1, (.tmp 72)))]⟩,
⟨some 74,none,.app 100 1 24 (.tmp 71) (.tmp 73)⟩,
⟨some 75,none,.nck (.tmp 67)⟩,
⟨some 76,none,.fad 2 false 1 (.tmp 75)⟩,
⟨none,none,.sto false 1 (.tmp 76) (.tmp 74)⟩])
 (.seq
 (.ops [
 ⟨some 77,none,.mv (.tmp 4)⟩,
⟨some 78,none,.mv (.tmp 4)⟩,
⟨some 79,none,.nck (.tmp 78)⟩,
⟨some 80,none,.fad 3 false 1 (.tmp 79)⟩,
⟨some 81,none,.ld false 1 (.tmp 80)⟩,
⟨some 82,none,.mv (.tmp 10)⟩,
⟨some 83,none,.bsl 100 1 1 [.slice none 0 0] [(0, (1, (.tmp 82)))]⟩,
⟨some 84,none,.app 100 1 24 (.tmp 81) (.tmp 83)⟩,
⟨some 85,none,.nck (.tmp 77)⟩,
⟨some 86,none,.fad 3 false 1 (.tmp 85)⟩,
⟨none,none,.sto false 1 (.tmp 86) (.tmp 84)⟩])
 (.seq
 (.par false (.one ⟨some 87,none,.mv (.tmp 4)⟩ (.one ⟨some 88,none,.mv (.tmp 4)⟩ (.one ⟨some 89,none,.nck (.tmp 88)⟩ (.one ⟨some 90,none,.fad 4 false 1 (.tmp 89)⟩ (.one ⟨some 92,none,.fad 0 false 1 (.tmp 1)⟩ (.one ⟨some 93,none,.ld false 1 (.tmp 92)⟩ (.both (.one ⟨some 91,none,.ld false 1 (.tmp 90)⟩ (.one ⟨some 94,none,.callM true (.func 66) [.tmp 93]⟩ (.one ⟨some 95,none,.bsl 100 1 1 [.slice none 0 0] [(0, (1, (.tmp 94)))]⟩ (.one ⟨some 96,none,.app 100 1 24 (.tmp 91) (.tmp 95)⟩ (.one ⟨some 97,none,.nck (.tmp 87)⟩ (.one ⟨some 98,none,.fad 4 false 1 (.tmp 97)⟩ (.one ⟨none,none,.sto false 1 (.tmp 98) (.tmp 96)⟩ .done))))))) (.one ⟨some 94,none,.callM true (.func 66) [.tmp 93]⟩ (.one ⟨some 91,none,.ld false 1 (.tmp 90)⟩ (.one ⟨some 95,none,.bsl 100 1 1 [.slice none 0 0] [(0, (1, (.tmp 94)))]⟩ (.one ⟨some 96,none,.app 100 1 24 (.tmp 91) (.tmp 95)⟩ (.one ⟨some 97,none,.nck (.tmp 87)⟩ (.one ⟨some 98,none,.fad 4 false 1 (.tmp 97)⟩ (.one ⟨none,none,.sto false 1 (.tmp 98) (.tmp 96)⟩ .done)))))))))))))))
 (.par false (.one ⟨some 99,none,.mv (.tmp 4)⟩ (.one ⟨some 100,none,.mv (.tmp 4)⟩ (.one ⟨some 101,none,.nck (.tmp 100)⟩ (.one ⟨some 102,none,.fad 5 false 1 (.tmp 101)⟩ (.one ⟨some 104,none,.fad 0 false 1 (.tmp 1)⟩ (.one ⟨some 105,none,.ld false 1 (.tmp 104)⟩ (.both (.one ⟨some 103,none,.ld false 1 (.tmp 102)⟩ (.one ⟨some 106,none,.callM true (.func 66) [.tmp 105]⟩ (.one ⟨some 107,none,.bsl 100 1 1 [.slice none 0 0] [(0, (1, (.tmp 106)))]⟩ (.one ⟨some 108,none,.app 100 1 24 (.tmp 103) (.tmp 107)⟩ (.one ⟨some 109,none,.nck (.tmp 99)⟩ (.one ⟨some 110,none,.fad 5 false 1 (.tmp 109)⟩ (.one ⟨none,none,.sto false 1 (.tmp 110) (.tmp 108)⟩ .done))))))) (.one ⟨some 106,none,.callM true (.func 66) [.tmp 105]⟩ (.one ⟨some 103,none,.ld false 1 (.tmp 102)⟩ (.one ⟨some 107,none,.bsl 100 1 1 [.slice none 0 0] [(0, (1, (.tmp 106)))]⟩ (.one ⟨some 108,none,.app 100 1 24 (.tmp 103) (.tmp 107)⟩ (.one ⟨some 109,none,.nck (.tmp 99)⟩ (.one ⟨some 110,none,.fad 5 false 1 (.tmp 109)⟩ (.one ⟨none,none,.sto false 1 (.tmp 110) (.tmp 108)⟩ .done))))))))))))))))))))))
 (.ops [
 ⟨some 111,none,.bin .add (.tmp 28) (.const (.int .i64 1))⟩,
⟨some 28,none,.mv (.tmp 111)⟩])))))))
 (.seq
 (.seq
 (.ops [
 ⟨some 112,none,.mv (.tmp 3)⟩,
⟨some 113,none,.mv (.const (.int .i64 0))⟩])
 (.block 4
 (.loop
 (.seq
 (.ops [
 ⟨some 114,none,.bin .lss (.tmp 113) (.tmp 112)⟩])
 (.seq
 (.cond (.tmp 114)
 .skip
 (.exit 4))
 (.seq
 (.block 5
 (.seq
 (.ops [
 ⟨some 115,none,.mv (.tmp 113)⟩,
⟨some 11,none,.mv (.tmp 115)⟩])
 (.ops [
 ⟨some 116,none,.mv (.tmp 4)⟩,
⟨some 117,none,.mv (.tmp 11)⟩,
⟨some 118,none,.call (.func 42) [.tmp 116,.tmp 117]⟩])))
 (.ops [
 ⟨some 119,none,.bin .add (.tmp 113) (.const (.int .i64 1))⟩,
⟨some 113,none,.mv (.tmp 119)⟩])))))))
 (.seq
 (.ops [
 ⟨some 120,none,.mv (.tmp 4)⟩,
⟨some 2,none,.mv (.tmp 120)⟩])
 .ret))))))
theorem f_live_solverOf : compF Try.prog 40 = some (121, c_live_solverOf, [.tmp 2]) := by kernel_rfl
def c_live_solver_grow : VC :=
 (.seq
 (.ops [
 ⟨some 4,none,.mv (.const (.bool false))⟩])
 (.seq
 (.ops [
 ⟨some 13,none,.mv (.tmp 0)⟩,
⟨some 14,none,.nck (.tmp 13)⟩,
⟨some 15,none,.fad 5 false 1 (.tmp 14)⟩,
⟨some 16,none,.ld false 1 (.tmp 15)⟩,
⟨some 17,none,.mv (.tmp 1)⟩,
⟨some 18,none,.idx 1 (.tmp 16) (.tmp 17)⟩,
⟨some 19,none,.ld false 1 (.tmp 18)⟩,
⟨some 5,none,.mv (.tmp 19)⟩,
⟨some 6,none,.mv (.const (.bool false))⟩])
 (.seq
 (.seq
 (.ops [
 ⟨some 20,none,.mv (.tmp 0)⟩,
⟨some 21,none,.nck (.tmp 20)⟩,
⟨some 22,none,.fad 0 false 1 (.tmp 21)⟩,
⟨some 23,none,.ld false 1 (.tmp 22)⟩,
⟨some 24,none,.mv (.tmp 1)⟩,
⟨some 25,none,.idx 1 (.tmp 23) (.tmp 24)⟩,
⟨some 26,none,.ld false 1 (.tmp 25)⟩,
⟨some 27,none,.len (.tmp 26)⟩,
⟨some 28,none,.mv (.const (.int .i64 0))⟩])
 (.block 0
 (.loop
 (.seq
 (.ops [
 ⟨some 29,none,.bin .lss (.tmp 28) (.tmp 27)⟩])
 (.seq
 (.cond (.tmp 29)
 .skip
 (.exit 0))
 (.seq
 (.block 1
 (.seq
 (.ops [
 ⟨some 30,none,.idx 1 (.tmp 26) (.tmp 28)⟩,
⟨some 31,none,.ld false 1 (.tmp 30)⟩,
⟨some 8,none,.mv (.tmp 31)⟩])
 (.seq
 (.ops [
 ⟨some 32,none,.mv (.tmp 0)⟩,
⟨some 33,none,.nck (.tmp 32)⟩,
⟨some 34,none,.fad 4 false 1 (.tmp 33)⟩,
⟨some 35,none,.ld false 1 (.tmp 34)⟩,
⟨some 36,none,.mv (.tmp 8)⟩,
⟨some 37,none,.idx 1 (.tmp 35) (.tmp 36)⟩,
⟨some 38,none,.ld false 1 (.tmp 37)⟩,
⟨some 39,none,.len (.tmp 38)⟩,
⟨some 40,none,.mv (.const (.int .i64 0))⟩])
 (.block 2
 (.loop
 (.seq
 (.ops [
 ⟨some 41,none,.bin .lss (.tmp 40) (.tmp 39)⟩])
 (.seq
 (.cond (.tmp 41)
 .skip
 (.exit 2))
 (.seq
 (.block 3
 (.seq
 (.ops [
 ⟨some 42,none,.mv (.tmp 40)⟩,
⟨some 43,none,.idx 1 (.tmp 38) (.tmp 40)⟩,
⟨some 44,none,.ld false 1 (.tmp 43)⟩,
⟨some 9,none,.mv (.tmp 42)⟩,
⟨some 10,none,.mv (.tmp 44)⟩])
 (.ops [
 ⟨some 45,none,.mv (.tmp 5)⟩,
⟨some 46,none,.mv (.tmp 9)⟩,
⟨some 47,none,.idx 1 (.tmp 45) (.tmp 46)⟩,
⟨some 48,none,.ld false 1 (.tmp 47)⟩,
⟨some 49,none,.mv (.tmp 10)⟩,
⟨some 50,none,.bin .or (.tmp 48) (.tmp 49)⟩,
⟨some 51,none,.idx 1 (.tmp 45) (.tmp 46)⟩,
⟨none,none,.sto false 1 (.tmp 51) (.tmp 50)⟩])))
 (.ops [
 ⟨some 52,none,.bin .add (.tmp 40) (.const (.int .i64 1))⟩,
⟨some 40,none,.mv (.tmp 52)⟩])))))))))
 (.ops [
 ⟨some 53,none,.bin .add (.tmp 28) (.const (.int .i64 1))⟩,
⟨some 28,none,.mv (.tmp 53)⟩])))))))
 (.seq
 (.seq
 (.ops [
 ⟨some 54,none,.mv (.tmp 5)⟩,
⟨some 55,none,.len (.tmp 54)⟩,
⟨some 56,none,.mv (.const (.int .i64 0))⟩])
 (.block 4
 (.loop
 (.seq
 (.ops [
 ⟨some 57,none,.bin .lss (.tmp 56) (.tmp 55)⟩])
 (.seq
 (.cond (.tmp 57)
 .skip
 (.exit 4))
 (.seq
 (.block 5
 (.seq
 (.ops [
 ⟨some 58,none,.mv (.tmp 56)⟩,
⟨some 11,none,.mv (.tmp 58)⟩])
 (.seq
 (.ops [
 ⟨some 59,none,.mv (.tmp 0)⟩,
⟨some 60,none,.nck (.tmp 59)⟩,
⟨some 61,none,.fad 2 false 1 (.tmp 60)⟩,
⟨some 62,none,.ld false 1 (.tmp 61)⟩,
⟨some 63,none,.mv (.tmp 1)⟩,
⟨some 64,none,.idx 1 (.tmp 62) (.tmp 63)⟩,
⟨some 65,none,.ld false 1 (.tmp 64)⟩,
⟨some 66,none,.mv (.tmp 11)⟩,
⟨some 67,none,.idx 1 (.tmp 65) (.tmp 66)⟩,
⟨some 68,none,.ld false 1 (.tmp 67)⟩,
⟨some 69,none,.mv (.tmp 5)⟩,
⟨some 70,none,.mv (.tmp 11)⟩,
⟨some 71,none,.idx 1 (.tmp 69) (.tmp 70)⟩,
⟨some 72,none,.ld false 1 (.tmp 71)⟩,
⟨some 73,none,.mv (.tmp 0)⟩,
⟨some 74,none,.nck (.tmp 73)⟩,
⟨some 75,none,.fad 3 false 1 (.tmp 74)⟩,
⟨some 76,none,.ld false 1 (.tmp 75)⟩,
⟨some 77,none,.mv (.tmp 1)⟩,
⟨some 78,none,.idx 1 (.tmp 76) (.tmp 77)⟩,
⟨some 79,none,.ld false 1 (.tmp 78)⟩,
⟨some 80,none,.mv (.tmp 11)⟩,
⟨some 81,none,.idx 1 (.tmp 79) (.tmp 80)⟩,
⟨some 82,none,.ld false 1 (.tmp 81)⟩,
⟨some 83,none,.bin .andNot (.tmp 72) (.tmp 82)⟩,
⟨some 84,none,.bin .or (.tmp 68) (.tmp 83)⟩,
⟨some 12,none,.mv (.tmp 84)⟩])
 (.seq
 (.ops [
 ⟨some 85,none,.mv (.tmp 12)⟩,
⟨some 86,none,.mv (.tmp 0)⟩,
⟨some 87,none,.nck (.tmp 86)⟩,
⟨some 88,none,.fad 4 false 1 (.tmp 87)⟩,
⟨some 89,none,.ld false 1 (.tmp 88)⟩,
⟨some 90,none,.mv (.tmp 1)⟩,
⟨some 91,none,.idx 1 (.tmp 89) (.tmp 90)⟩,
⟨some 92,none,.ld false 1 (.tmp 91)⟩,
⟨some 93,none,.mv (.tmp 11)⟩,
⟨some 94,none,.idx 1 (.tmp 92) (.tmp 93)⟩,
⟨some 95,none,.ld false 1 (.tmp 94)⟩,
⟨some 96,none,.bin .neq (.tmp 85) (.tmp 95)⟩])
 (.cond (.tmp 96)
 (.seq
 (.ops [
 ⟨some 97,none,.mv (.tmp 0)⟩,
⟨some 98,none,.nck (.tmp 97)⟩,
⟨some 99,none,.fad 4 false 1 (.tmp 98)⟩,
⟨some 100,none,.ld false 1 (.tmp 99)⟩,
⟨some 101,none,.mv (.tmp 1)⟩,
⟨some 102,none,.idx 1 (.tmp 100) (.tmp 101)⟩,
⟨some 103,none,.ld false 1 (.tmp 102)⟩,
⟨some 104,none,.mv (.tmp 11)⟩,
⟨some 105,none,.mv (.tmp 12)⟩,
⟨some 106,none,.idx 1 (.tmp 103) (.tmp 104)⟩,
⟨none,none,.sto false 1 (.tmp 106) (.tmp 105)⟩])
 (.ops [
 ⟨some 6,none,.mv (.const (.bool true))⟩]))
 .skip)))))
 (.ops [
 ⟨some 107,none,.bin .add (.tmp 56) (.const (.int .i64 1))⟩,
⟨some 56,none,.mv (.tmp 107)⟩])))))))
 (.seq
 (.ops [
 ⟨some 108,none,.mv (.tmp 6)⟩,
⟨some 4,none,.mv (.tmp 108)⟩])
 .ret)))))
theorem f_live_solver_grow : compF Try.prog 41 = some (109, c_live_solver_grow, [.tmp 4]) := by kernel_rfl
def c_live_solver_wait : VC :=
 (.seq
 (.ops [
 ⟨some 4,none,.mv (.tmp 0)⟩,
⟨some 5,none,.nck (.tmp 4)⟩,
⟨some 6,none,.fad 7 false 1 (.tmp 5)⟩,
⟨some 7,none,.ld false 1 (.tmp 6)⟩,
⟨some 8,none,.mv (.tmp 1)⟩,
⟨some 9,none,.idx 1 (.tmp 7) (.tmp 8)⟩,
⟨some 10,none,.ld false 1 (.tmp 9)⟩,
⟨some 11,none,.un .not (.tmp 10)⟩])
 (.cond (.tmp 11)
 (.seq
 (.ops [
 ⟨some 12,none,.mv (.tmp 0)⟩,
⟨some 13,none,.nck (.tmp 12)⟩,
⟨some 14,none,.fad 7 false 1 (.tmp 13)⟩,
⟨some 15,none,.ld false 1 (.tmp 14)⟩,
⟨some 16,none,.mv (.tmp 1)⟩,
⟨some 17,none,.idx 1 (.tmp 15) (.tmp 16)⟩,
⟨none,none,.sto false 1 (.tmp 17) (.const (.bool true))⟩])
 (.ops [
 ⟨some 18,none,.mv (.tmp 0)⟩,
⟨some 19,none,.mv (.tmp 0)⟩,
⟨some 20,none,.nck (.tmp 19)⟩,
⟨some 21,none,.fad 6 false 1 (.tmp 20)⟩,
⟨some 22,none,.ld false 1 (.tmp 21)⟩,
⟨some 23,none,.mv (.tmp 1)⟩,
⟨some 24,none,.bsl 3 1 1 [.int .i64 0] [(0, (1, (.tmp 23)))]⟩,
⟨some 25,none,.app 3 1 8 (.tmp 22) (.tmp 24)⟩,
⟨some 26,none,.nck (.tmp 18)⟩,
⟨some 27,none,.fad 6 false 1 (.tmp 26)⟩,
⟨none,none,.sto false 1 (.tmp 27) (.tmp 25)⟩]))
 .skip))
theorem f_live_solver_wait : compF Try.prog 42 = some (28, c_live_solver_wait, []) := by kernel_rfl
def c_live_row_spread : VC :=
 (.seq
 (.ops [
 ⟨some 4,none,.mv (.const (.slice none 0 0))⟩])
 (.seq
 (.ops [
 ⟨some 7,none,.mv (.tmp 1)⟩,
⟨some 8,none,.mk 4 1 1 [.bool false] (.tmp 7) (.tmp 7)⟩,
⟨some 5,none,.mv (.tmp 8)⟩])
 (.seq
 (.seq
 (.ops [
 ⟨some 9,none,.mv (.tmp 5)⟩,
⟨some 10,none,.len (.tmp 9)⟩,
⟨some 11,none,.mv (.const (.int .i64 0))⟩])
 (.block 0
 (.loop
 (.seq
 (.ops [
 ⟨some 12,none,.bin .lss (.tmp 11) (.tmp 10)⟩])
 (.seq
 (.cond (.tmp 12)
 .skip
 (.exit 0))
 (.seq
 (.block 1
 (.seq
 (.ops [
 ⟨some 13,none,.mv (.tmp 11)⟩,
⟨some 6,none,.mv (.tmp 13)⟩])
 (.ops [
 ⟨some 14,none,.mv (.tmp 5)⟩,
⟨some 15,none,.mv (.tmp 6)⟩,
⟨some 16,none,.mv (.tmp 0)⟩,
⟨some 17,none,.mv (.tmp 6)⟩,
⟨some 18,none,.bin .quo (.tmp 17) (.const (.int .i64 64))⟩,
⟨some 19,none,.idx 1 (.tmp 16) (.tmp 18)⟩,
⟨some 20,none,.ld false 1 (.tmp 19)⟩,
⟨some 21,none,.mv (.tmp 6)⟩,
⟨some 22,none,.bin .rem (.tmp 21) (.const (.int .i64 64))⟩,
⟨some 23,none,.bin .shr (.tmp 20) (.tmp 22)⟩,
⟨some 24,none,.bin .and (.tmp 23) (.const (.int .u64 1))⟩,
⟨some 25,none,.bin .eql (.tmp 24) (.const (.int .u64 1))⟩,
⟨some 26,none,.idx 1 (.tmp 14) (.tmp 15)⟩,
⟨none,none,.sto false 1 (.tmp 26) (.tmp 25)⟩])))
 (.ops [
 ⟨some 27,none,.bin .add (.tmp 11) (.const (.int .i64 1))⟩,
⟨some 11,none,.mv (.tmp 27)⟩])))))))
 (.seq
 (.ops [
 ⟨some 28,none,.mv (.tmp 5)⟩,
⟨some 4,none,.mv (.tmp 28)⟩])
 .ret))))
theorem f_live_row_spread : compF Try.prog 43 = some (29, c_live_row_spread, [.tmp 4]) := by kernel_rfl
def c_scref27_Rows : VC :=
 (.seq
 (.ops [
 ⟨some 4,none,.mv (.const (.bool false))⟩])
 (.seq
 (.seq
 (.ops [
 ⟨some 6,none,.mv (.tmp 0)⟩,
⟨some 7,none,.len (.tmp 6)⟩,
⟨some 8,none,.mv (.tmp 1)⟩,
⟨some 9,none,.len (.tmp 8)⟩,
⟨some 10,none,.bin .neq (.tmp 7) (.tmp 9)⟩])
 (.cond (.tmp 10)
 (.seq
 (.ops [
 ⟨some 4,none,.mv (.const (.bool false))⟩])
 .ret)
 .skip))
 (.seq
 (.seq
 (.ops [
 ⟨some 5,none,.mv (.const (.int .i64 0))⟩])
 (.block 0
 (.loop
 (.seq
 (.seq
 (.ops [
 ⟨some 11,none,.mv (.tmp 5)⟩,
⟨some 12,none,.mv (.tmp 0)⟩,
⟨some 13,none,.len (.tmp 12)⟩,
⟨some 14,none,.bin .lss (.tmp 11) (.tmp 13)⟩])
 (.cond (.tmp 14)
 .skip
 (.exit 0)))
 (.seq
 (.block 1
 (.seq
 (.par false (.one ⟨some 17,none,.mv (.tmp 0)⟩ (.one ⟨some 18,none,.mv (.tmp 5)⟩ (.one ⟨some 19,none,.idx 1 (.tmp 17) (.tmp 18)⟩ (.one ⟨some 20,none,.ld false 1 (.tmp 19)⟩ (.one ⟨some 21,none,.len (.tmp 20)⟩ (.one ⟨some 22,none,.mv (.tmp 1)⟩ (.one ⟨some 23,none,.mv (.tmp 5)⟩ (.one ⟨some 24,none,.idx 1 (.tmp 22) (.tmp 23)⟩ (.one ⟨some 25,none,.ld false 1 (.tmp 24)⟩ (.one ⟨some 26,none,.len (.tmp 25)⟩ (.one ⟨some 27,none,.bin .neq (.tmp 21) (.tmp 26)⟩ (.one ⟨some 28,none,.mv (.tmp 27)⟩ (.one ⟨some 29,some (28,false),.mv (.tmp 0)⟩ (.one ⟨some 30,some (28,false),.mv (.tmp 5)⟩ (.one ⟨some 31,some (28,false),.idx 1 (.tmp 29) (.tmp 30)⟩ (.one ⟨some 32,some (28,false),.ld false 1 (.tmp 31)⟩ (.one ⟨some 33,some (28,false),.mv (.tmp 1)⟩ (.one ⟨some 34,some (28,false),.mv (.tmp 5)⟩ (.one ⟨some 35,some (28,false),.idx 1 (.tmp 33) (.tmp 34)⟩ (.one ⟨some 36,some (28,false),.ld false 1 (.tmp 35)⟩ (.one ⟨some 37,some (28,false),.call (.func 67) [.tmp 32,.tmp 36]⟩ (.one ⟨some 38,some (28,false),.un .not (.tmp 37)⟩ (.one ⟨some 39,none,.pick (.tmp 28) (.const (.bool true)) (.tmp 38)⟩ (.one ⟨some 40,none,.mv (.tmp 39)⟩ (.one ⟨some 41,some (40,false),.mv (.tmp 1)⟩ (.one ⟨some 42,some (40,false),.mv (.tmp 5)⟩ (.one ⟨some 43,some (40,false),.idx 1 (.tmp 41) (.tmp 42)⟩ (.one ⟨some 44,some (40,false),.ld false 1 (.tmp 43)⟩ (.one ⟨some 45,some (40,false),.mv (.tmp 0)⟩ (.one ⟨some 46,some (40,false),.mv (.tmp 5)⟩ (.one ⟨some 47,some (40,false),.idx 1 (.tmp 45) (.tmp 46)⟩ (.one ⟨some 48,some (40,false),.ld false 1 (.tmp 47)⟩ (.one ⟨some 49,some (40,false),.call (.func 67) [.tmp 44,.tmp 48]⟩ (.one ⟨some 50,some (40,false),.un .not (.tmp 49)⟩ (.one ⟨some 51,none,.pick (.tmp 40) (.const (.bool true)) (.tmp 50)⟩ .done))))))))))))))))))))))))))))))))))))
 (.cond (.tmp 51)
 (.seq
 (.ops [
 ⟨some 4,none,.mv (.const (.bool false))⟩])
 .ret)
 .skip)))
 (.ops [
 ⟨some 15,none,.mv (.tmp 5)⟩,
⟨some 16,none,.bin .add (.tmp 15) (.const (.int .i64 1))⟩,
⟨some 5,none,.mv (.tmp 16)⟩]))))))
 (.seq
 (.ops [
 ⟨some 4,none,.mv (.const (.bool true))⟩])
 .ret))))
theorem f_scref27_Rows : compF Try.prog 44 = some (52, c_scref27_Rows, [.tmp 4]) := by kernel_rfl
def c_scref27_none : VC :=
 (.seq
 (.ops [
 ⟨some 4,none,.mv (.const (.slice none 0 0))⟩])
 (.seq
 (.ops [
 ⟨some 5,none,.mv (.const (.slice none 0 0))⟩])
 (.seq
 (.seq
 (.ops [
 ⟨some 6,none,.mv (.const (.int .i64 0))⟩])
 (.block 0
 (.loop
 (.seq
 (.seq
 (.ops [
 ⟨some 7,none,.mv (.tmp 6)⟩,
⟨some 8,none,.mv (.tmp 0)⟩,
⟨some 9,none,.bin .lss (.tmp 7) (.tmp 8)⟩])
 (.cond (.tmp 9)
 .skip
 (.exit 0)))
 (.seq
 (.block 1
 (.ops [
 ⟨some 12,none,.mv (.tmp 5)⟩,
⟨some 13,none,.mv (.tmp 1)⟩,
⟨some 14,none,.mk 4 1 1 [.bool false] (.tmp 13) (.tmp 13)⟩,
⟨some 15,none,.bsl 67 1 1 [.slice none 0 0] [(0, (1, (.tmp 14)))]⟩,
⟨some 16,none,.app 67 1 24 (.tmp 12) (.tmp 15)⟩,
⟨some 5,none,.mv (.tmp 16)⟩]))
 (.ops [
 ⟨some 10,none,.mv (.tmp 6)⟩,
⟨some 11,none,.bin .add (.tmp 10) (.const (.int .i64 1))⟩,
⟨some 6,none,.mv (.tmp 11)⟩]))))))
 (.seq
 (.ops [
 ⟨some 17,none,.mv (.tmp 5)⟩,
⟨some 4,none,.mv (.tmp 17)⟩])
 .ret))))
theorem f_scref27_none : compF Try.prog 45 = some (18, c_scref27_none, [.tmp 4]) := by kernel_rfl
def c_scref26_Next : VC :=
 (.seq
 (.ops [
 ⟨some 1,none,.box 52 (.tmp 0)⟩,
⟨some 2,none,.mv (.const (.slice none 0 0))⟩])
 (.seq
 (.ops [
 ⟨some 6,none,.fad 1 false 1 (.tmp 1)⟩,
⟨some 7,none,.ld false 1 (.tmp 6)⟩,
⟨some 8,none,.len (.tmp 7)⟩,
⟨some 9,none,.mk 53 1 24 [.slice none 0 0] (.tmp 8) (.tmp 8)⟩,
⟨some 3,none,.mv (.tmp 9)⟩])
 (.seq
 (.seq
 (.ops [
 ⟨some 4,none,.mv (.const (.int .i64 0))⟩])
 (.block 0
 (.loop
 (.seq
 (.seq
 (.ops [
 ⟨some 10,none,.mv (.tmp 4)⟩,
⟨some 11,none,.fad 1 false 1 (.tmp 1)⟩,
⟨some 12,none,.ld false 1 (.tmp 11)⟩,
⟨some 13,none,.len (.tmp 12)⟩,
⟨some 14,none,.bin .lss (.tmp 10) (.tmp 13)⟩])
 (.cond (.tmp 14)
 .skip
 (.exit 0)))
 (.seq
 (.block 1
 (.seq
 (.ops [
 ⟨some 17,none,.fad 1 false 1 (.tmp 1)⟩,
⟨some 18,none,.ld false 1 (.tmp 17)⟩,
⟨some 19,none,.mv (.tmp 4)⟩,
⟨some 20,none,.idx 5 (.tmp 18) (.tmp 19)⟩,
⟨some 21,none,.ld true 5 (.tmp 20)⟩,
⟨some 5,none,.alc 49 [.slice none 0 0,.int .i64 0,.int .i64 0,.int .i64 0,.int .i64 0]⟩,
⟨none,none,.sto true 5 (.tmp 5) (.tmp 21)⟩])
 (.seq
 (.seq
 (.ops [
 ⟨some 22,none,.fad 1 false 1 (.tmp 5)⟩,
⟨some 23,none,.ld false 1 (.tmp 22)⟩,
⟨some 24,none,.bin .eql (.tmp 23) (.const (.int .i64 1))⟩])
 (.cond (.tmp 24)
 (.ops [
 ⟨some 25,none,.mv (.tmp 3)⟩,
⟨some 26,none,.mv (.tmp 4)⟩,
⟨some 27,none,.fad 3 false 1 (.tmp 5)⟩,
⟨some 28,none,.ld false 1 (.tmp 27)⟩,
⟨some 29,none,.bsl 3 1 1 [.int .i64 0] [(0, (1, (.tmp 28)))]⟩,
⟨some 30,none,.idx 1 (.tmp 25) (.tmp 26)⟩,
⟨none,none,.sto false 1 (.tmp 30) (.tmp 29)⟩])
 .skip))
 (.seq
 (.ops [
 ⟨some 31,none,.fad 1 false 1 (.tmp 5)⟩,
⟨some 32,none,.ld false 1 (.tmp 31)⟩,
⟨some 33,none,.bin .eql (.tmp 32) (.const (.int .i64 2))⟩])
 (.cond (.tmp 33)
 (.ops [
 ⟨some 34,none,.mv (.tmp 3)⟩,
⟨some 35,none,.mv (.tmp 4)⟩,
⟨some 36,none,.fad 3 false 1 (.tmp 5)⟩,
⟨some 37,none,.ld false 1 (.tmp 36)⟩,
⟨some 38,none,.fad 4 false 1 (.tmp 5)⟩,
⟨some 39,none,.ld false 1 (.tmp 38)⟩,
⟨some 40,none,.bsl 3 1 2 [.int .i64 0,.int .i64 0] [(0, (1, (.tmp 37))), (1, (1, (.tmp 39)))]⟩,
⟨some 41,none,.idx 1 (.tmp 34) (.tmp 35)⟩,
⟨none,none,.sto false 1 (.tmp 41) (.tmp 40)⟩])
 .skip)))))
 (.ops [
 ⟨some 15,none,.mv (.tmp 4)⟩,
⟨some 16,none,.bin .add (.tmp 15) (.const (.int .i64 1))⟩,
⟨some 4,none,.mv (.tmp 16)⟩]))))))
 (.seq
 (.ops [
 ⟨some 42,none,.mv (.tmp 3)⟩,
⟨some 2,none,.mv (.tmp 42)⟩])
 .ret))))
theorem f_scref26_Next : compF Try.prog 46 = some (43, c_scref26_Next, [.tmp 2]) := by kernel_rfl
def c_scref27_ahead : VC :=
 (.seq
 (.ops [
 ⟨some 2,none,.box 49 (.tmp 0)⟩,
⟨some 4,none,.mv (.const (.slice none 0 0))⟩])
 (.seq
 (.ops [
 ⟨some 7,none,.ld true 5 (.tmp 2)⟩,
⟨some 8,none,.mv (.tmp 1)⟩,
⟨some 9,none,.call (.func 48) [.tmp 7,.tmp 8]⟩,
⟨some 5,none,.mv (.tmp 9)⟩])
 (.seq
 (.seq
 (.ops [
 ⟨some 10,none,.fad 0 false 1 (.tmp 2)⟩,
⟨some 11,none,.ld false 1 (.tmp 10)⟩,
⟨some 12,none,.len (.tmp 11)⟩,
⟨some 13,none,.bin .sub (.tmp 12) (.const (.int .i64 1))⟩,
⟨some 6,none,.mv (.tmp 13)⟩])
 (.block 0
 (.loop
 (.seq
 (.seq
 (.ops [
 ⟨some 14,none,.mv (.tmp 6)⟩,
⟨some 15,none,.bin .geq (.tmp 14) (.const (.int .i64 0))⟩])
 (.cond (.tmp 15)
 .skip
 (.exit 0)))
 (.seq
 (.block 1
 (.ops [
 ⟨some 18,none,.fad 0 false 1 (.tmp 2)⟩,
⟨some 19,none,.ld false 1 (.tmp 18)⟩,
⟨some 20,none,.mv (.tmp 6)⟩,
⟨some 21,none,.idx 8 (.tmp 19) (.tmp 20)⟩,
⟨some 22,none,.ld true 8 (.tmp 21)⟩,
⟨some 23,none,.mv (.tmp 5)⟩,
⟨some 24,none,.call (.func 49) [.tmp 22,.tmp 23]⟩,
⟨some 5,none,.mv (.tmp 24)⟩]))
 (.ops [
 ⟨some 16,none,.mv (.tmp 6)⟩,
⟨some 17,none,.bin .sub (.tmp 16) (.const (.int .i64 1))⟩,
⟨some 6,none,.mv (.tmp 17)⟩]))))))
 (.seq
 (.ops [
 ⟨some 25,none,.mv (.tmp 5)⟩,
⟨some 4,none,.mv (.tmp 25)⟩])
 .ret))))
theorem f_scref27_ahead : compF Try.prog 47 = some (26, c_scref27_ahead, [.tmp 4]) := by kernel_rfl
def c_scref27_last : VC :=
 (.seq
 (.ops [
 ⟨some 2,none,.box 49 (.tmp 0)⟩,
⟨some 4,none,.mv (.const (.slice none 0 0))⟩])
 (.seq
 (.ops [
 ⟨some 6,none,.bsl 4 1 0 [] []⟩,
⟨some 7,none,.mv (.tmp 1)⟩,
⟨some 8,none,.app 4 1 1 (.tmp 6) (.tmp 7)⟩,
⟨some 5,none,.mv (.tmp 8)⟩])
 (.seq
 (.seq
 (.ops [
 ⟨some 9,none,.fad 1 false 1 (.tmp 2)⟩,
⟨some 10,none,.ld false 1 (.tmp 9)⟩,
⟨some 11,none,.bin .eql (.tmp 10) (.const (.int .i64 2))⟩])
 (.cond (.tmp 11)
 (.ops [
 ⟨some 12,none,.mv (.tmp 5)⟩,
⟨some 13,none,.fad 2 false 1 (.tmp 2)⟩,
⟨some 14,none,.ld false 1 (.tmp 13)⟩,
⟨some 15,none,.idx 1 (.tmp 12) (.tmp 14)⟩,
⟨none,none,.sto false 1 (.tmp 15) (.const (.bool true))⟩])
 .skip))
 (.seq
 (.ops [
 ⟨some 16,none,.mv (.tmp 5)⟩,
⟨some 4,none,.mv (.tmp 16)⟩])
 .ret))))
theorem f_scref27_last : compF Try.prog 48 = some (17, c_scref27_last, [.tmp 4]) := by kernel_rfl
def c_scref27_back : VC :=
 (.seq
 (.ops [
 ⟨some 2,none,.box 47 (.tmp 0)⟩,
⟨some 4,none,.mv (.const (.slice none 0 0))⟩])
 (.seq
 (.ops [
 ⟨some 9,none,.bsl 4 1 0 [] []⟩,
⟨some 10,none,.mv (.tmp 1)⟩,
⟨some 11,none,.app 4 1 1 (.tmp 9) (.tmp 10)⟩,
⟨some 5,none,.mv (.tmp 11)⟩])
 (.seq
 (.seq
 (.ops [
 ⟨some 12,none,.ld true 8 (.tmp 2)⟩,
⟨some 13,none,.call (.func 68) [.tmp 12]⟩,
⟨some 6,none,.mv (.tmp 13)⟩])
 (.seq
 (.ops [
 ⟨some 14,none,.mv (.tmp 6)⟩,
⟨some 15,none,.bin .geq (.tmp 14) (.const (.int .i64 0))⟩])
 (.cond (.tmp 15)
 (.ops [
 ⟨some 16,none,.mv (.tmp 5)⟩,
⟨some 17,none,.mv (.tmp 6)⟩,
⟨some 18,none,.idx 1 (.tmp 16) (.tmp 17)⟩,
⟨none,none,.sto false 1 (.tmp 18) (.const (.bool false))⟩])
 .skip)))
 (.seq
 (.ops [
 ⟨some 19,none,.ld true 8 (.tmp 2)⟩,
⟨some 20,none,.call (.func 69) [.tmp 19]⟩,
⟨some 7,none,.mv (.tmp 20)⟩])
 (.seq
 (.seq
 (.ops [
 ⟨some 8,none,.mv (.const (.int .i64 0))⟩])
 (.block 0
 (.loop
 (.seq
 (.seq
 (.ops [
 ⟨some 21,none,.mv (.tmp 8)⟩,
⟨some 22,none,.mv (.tmp 7)⟩,
⟨some 23,none,.len (.tmp 22)⟩,
⟨some 24,none,.bin .lss (.tmp 21) (.tmp 23)⟩])
 (.cond (.tmp 24)
 .skip
 (.exit 0)))
 (.seq
 (.block 1
 (.ops [
 ⟨some 27,none,.mv (.tmp 5)⟩,
⟨some 28,none,.mv (.tmp 7)⟩,
⟨some 29,none,.mv (.tmp 8)⟩,
⟨some 30,none,.idx 1 (.tmp 28) (.tmp 29)⟩,
⟨some 31,none,.ld false 1 (.tmp 30)⟩,
⟨some 32,none,.idx 1 (.tmp 27) (.tmp 31)⟩,
⟨none,none,.sto false 1 (.tmp 32) (.const (.bool true))⟩]))
 (.ops [
 ⟨some 25,none,.mv (.tmp 8)⟩,
⟨some 26,none,.bin .add (.tmp 25) (.const (.int .i64 1))⟩,
⟨some 8,none,.mv (.tmp 26)⟩]))))))
 (.seq
 (.ops [
 ⟨some 33,none,.mv (.tmp 5)⟩,
⟨some 4,none,.mv (.tmp 33)⟩])
 .ret))))))
theorem f_scref27_back : compF Try.prog 49 = some (34, c_scref27_back, [.tmp 4]) := by kernel_rfl
def c_choose_writer_put : VC :=
 (.ops [
 ⟨some 10,none,.mv (.tmp 0)⟩,
⟨some 11,none,.mv (.tmp 0)⟩,
⟨some 12,none,.nck (.tmp 11)⟩,
⟨some 13,none,.fad 2 false 1 (.tmp 12)⟩,
⟨some 14,none,.ld false 1 (.tmp 13)⟩,
⟨some 15,none,.mv (.tmp 1)⟩,
⟨some 16,none,.mv (.tmp 2)⟩,
⟨some 17,none,.mv (.tmp 3)⟩,
⟨some 18,none,.mv (.tmp 4)⟩,
⟨some 19,none,.bld [.int .i64 0,.int .i64 0,.int .i64 0,.int .i64 0] [(0, (1, (.tmp 15))), (1, (1, (.tmp 16))), (2, (1, (.tmp 17))), (3, (1, (.tmp 18)))]⟩,
⟨some 20,none,.bsl 115 4 1 [.int .i64 0,.int .i64 0,.int .i64 0,.int .i64 0] [(0, (4, (.tmp 19)))]⟩,
⟨some 21,none,.app 115 4 32 (.tmp 14) (.tmp 20)⟩,
⟨some 22,none,.nck (.tmp 10)⟩,
⟨some 23,none,.fad 2 false 1 (.tmp 22)⟩,
⟨none,none,.sto false 1 (.tmp 23) (.tmp 21)⟩])
theorem f_choose_writer_put : compF Try.prog 50 = some (24, c_choose_writer_put, []) := by kernel_rfl
def c_choose_writer_keep : VC :=
 (.seq
 (.ops [
 ⟨some 7,none,.mv (.tmp 0)⟩,
⟨some 8,none,.nck (.tmp 7)⟩,
⟨some 9,none,.fad 9 false 1 (.tmp 8)⟩,
⟨some 10,none,.ld false 1 (.tmp 9)⟩,
⟨some 11,none,.mv (.tmp 1)⟩,
⟨some 12,none,.idx 1 (.tmp 10) (.tmp 11)⟩,
⟨some 13,none,.ld false 1 (.tmp 12)⟩,
⟨some 6,none,.mv (.tmp 13)⟩])
 (.seq
 (.ops [
 ⟨some 14,none,.mv (.tmp 6)⟩,
⟨some 15,none,.bin .lss (.tmp 14) (.const (.int .i64 0))⟩])
 (.cond (.tmp 15)
 (.ops [
 ⟨some 16,none,.mv (.tmp 0)⟩,
⟨some 17,none,.mv (.tmp 2)⟩,
⟨some 18,none,.mv (.tmp 0)⟩,
⟨some 19,none,.mv (.tmp 6)⟩,
⟨some 20,none,.callM false (.func 70) [.tmp 18,.tmp 19]⟩,
⟨some 21,none,.callM false (.func 50) [(.tmp 16), (.const (.int .i64 17)), (.tmp 17), (.const (.int .i64 0)), (.tmp 20)]⟩])
 .skip)))
theorem f_choose_writer_keep : compF Try.prog 51 = some (22, c_choose_writer_keep, []) := by kernel_rfl
def c_choose_writer_instruction : VC :=
 (.seq
 (.ops [
 ⟨some 3,none,.box 47 (.tmp 1)⟩])
 (.seq
 (.ops [
 ⟨some 13,none,.mv (.tmp 0)⟩,
⟨some 14,none,.mkb 71 [.tmp 13]⟩,
⟨some 4,none,.mv (.tmp 14)⟩])
 (.seq
 (.ops [
 ⟨some 15,none,.fad 0 false 1 (.tmp 3)⟩,
⟨some 16,none,.ld false 1 (.tmp 15)⟩])
 (.block 0
 (.seq
 (.ops [
 ⟨some 18,none,.bin .eql (.tmp 16) (.const (.int .i64 1))⟩,
⟨some 17,none,.mv (.tmp 18)⟩])
 (.cond (.tmp 17)
 (.ops [
 ⟨some 19,none,.mv (.tmp 0)⟩,
⟨some 20,none,.fad 1 false 1 (.tmp 3)⟩,
⟨some 21,none,.ld false 1 (.tmp 20)⟩,
⟨some 22,none,.fad 7 false 1 (.tmp 3)⟩,
⟨some 23,none,.ld false 1 (.tmp 22)⟩,
⟨some 24,none,.callM false (.func 72) [.tmp 19,.tmp 21,.tmp 23]⟩])
 (.seq
 (.ops [
 ⟨some 26,none,.bin .eql (.tmp 16) (.const (.int .i64 2))⟩,
⟨some 25,none,.mv (.tmp 26)⟩])
 (.cond (.tmp 25)
 (.ops [
 ⟨some 27,none,.mv (.tmp 0)⟩,
⟨some 28,none,.fad 1 false 1 (.tmp 3)⟩,
⟨some 29,none,.ld false 1 (.tmp 28)⟩,
⟨some 30,none,.fad 2 false 1 (.tmp 3)⟩,
⟨some 31,none,.ld false 1 (.tmp 30)⟩,
⟨some 32,none,.callM false (.func 73) [.tmp 27,.tmp 29,.tmp 31]⟩])
 (.seq
 (.ops [
 ⟨some 34,none,.bin .eql (.tmp 16) (.const (.int .i64 3))⟩,
⟨some 33,none,.mv (.tmp 34)⟩])
 (.cond (.tmp 33)
 (.seq
 (.par false (.one ⟨some 35,none,.mv (.tmp 4)⟩ (.one ⟨some 36,none,.fad 2 false 1 (.tmp 3)⟩ (.one ⟨some 37,none,.ld false 1 (.tmp 36)⟩ (.one ⟨some 39,none,.mv (.tmp 4)⟩ (.one ⟨some 43,none,.mv (.tmp 0)⟩ (.both (.one ⟨some 38,none,.callM false (.tmp 35) [(.tmp 37), (.const (.int .i64 9))]⟩ (.one ⟨some 40,none,.fad 3 false 1 (.tmp 3)⟩ (.one ⟨some 41,none,.ld false 1 (.tmp 40)⟩ (.both (.one ⟨some 42,none,.callM false (.tmp 39) [(.tmp 41), (.const (.int .i64 10))]⟩ (.one ⟨some 44,none,.fad 1 false 1 (.tmp 3)⟩ (.one ⟨some 45,none,.ld false 1 (.tmp 44)⟩ (.one ⟨some 46,none,.callM false (.func 74) [.tmp 43,.tmp 45]⟩ (.one ⟨some 5,none,.mv (.tmp 38)⟩ (.one ⟨some 6,none,.mv (.tmp 42)⟩ (.one ⟨some 7,none,.mv (.tmp 46)⟩ .done))))))) (.one ⟨some 44,none,.fad 1 false 1 (.tmp 3)⟩ (.both (.one ⟨some 42,none,.callM false (.tmp 39) [(.tmp 41), (.const (.int .i64 10))]⟩ (.one ⟨some 45,none,.ld false 1 (.tmp 44)⟩ (.one ⟨some 46,none,.callM false (.func 74) [.tmp 43,.tmp 45]⟩ (.one ⟨some 5,none,.mv (.tmp 38)⟩ (.one ⟨some 6,none,.mv (.tmp 42)⟩ (.one ⟨some 7,none,.mv (.tmp 46)⟩ .done)))))) (.one ⟨some 45,none,.ld false 1 (.tmp 44)⟩ (.one ⟨some 42,none,.callM false (.tmp 39) [(.tmp 41), (.const (.int .i64 10))]⟩ (.one ⟨some 46,none,.callM false (.func 74) [.tmp 43,.tmp 45]⟩ (.one ⟨some 5,none,.mv (.tmp 38)⟩ (.one ⟨some 6,none,.mv (.tmp 42)⟩ (.one ⟨some 7,none,.mv (.tmp 46)⟩ .done)))))))))))) (.both (.one ⟨some 40,none,.fad 3 false 1 (.tmp 3)⟩ (.both (.one ⟨some 38,none,.callM false (.tmp 35) [(.tmp 37), (.const (.int .i64 9))]⟩ (.one ⟨some 41,none,.ld false 1 (.tmp 40)⟩ (.both (.one ⟨some 42,none,.callM false (.tmp 39) [(.tmp 41), (.const (.int .i64 10))]⟩ (.one ⟨some 44,none,.fad 1 false 1 (.tmp 3)⟩ (.one ⟨some 45,none,.ld false 1 (.tmp 44)⟩ (.one ⟨some 46,none,.callM false (.func 74) [.tmp 43,.tmp 45]⟩ (.one ⟨some 5,none,.mv (.tmp 38)⟩ (.one ⟨some 6,none,.mv (.tmp 42)⟩ (.one ⟨some 7,none,.mv (.tmp 46)⟩ .done))))))) (.one ⟨some 44,none,.fad 1 false 1 (.tmp 3)⟩ (.both (.one ⟨some 42,none,.callM false (.tmp 39) [(.tmp 41), (.const (.int .i64 10))]⟩ (.one ⟨some 45,none,.ld false 1 (.tmp 44)⟩ (.one ⟨some 46,none,.callM false (.func 74) [.tmp 43,.tmp 45]⟩ (.one ⟨some 5,none,.mv (.tmp 38)⟩ (.one ⟨some 6,none,.mv (.tmp 42)⟩ (.one ⟨some 7,none,.mv (.tmp 46)⟩ .done)))))) (.one ⟨some 45,none,.ld false 1 (.tmp 44)⟩ (.one ⟨some 42,none,.callM false (.tmp 39) [(.tmp 41), (.const (.int .i64 10))]⟩ (.one ⟨some 46,none,.callM false (.func 74) [.tmp 43,.tmp 45]⟩ (.one ⟨some 5,none,.mv (.tmp 38)⟩ (.one ⟨some 6,none,.mv (.tmp 42)⟩ (.one ⟨some 7,none,.mv (.tmp 46)⟩ .done))))))))))) (.both (.one ⟨some 41,none,.ld false 1 (.tmp 40)⟩ (.both (.one ⟨some 38,none,.callM false (.tmp 35) [(.tmp 37), (.const (.int .i64 9))]⟩ (.both (.one ⟨some 42,none,.callM false (.tmp 39) [(.tmp 41), (.const (.int .i64 10))]⟩ (.one ⟨some 44,none,.fad 1 false 1 (.tmp 3)⟩ (.one ⟨some 45,none,.ld false 1 (.tmp 44)⟩ (.one ⟨some 46,none,.callM false (.func 74) [.tmp 43,.tmp 45]⟩ (.one ⟨some 5,none,.mv (.tmp 38)⟩ (.one ⟨some 6,none,.mv (.tmp 42)⟩ (.one ⟨some 7,none,.mv (.tmp 46)⟩ .done))))))) (.one ⟨some 44,none,.fad 1 false 1 (.tmp 3)⟩ (.both (.one ⟨some 42,none,.callM false (.tmp 39) [(.tmp 41), (.const (.int .i64 10))]⟩ (.one ⟨some 45,none,.ld false 1 (.tmp 44)⟩ (.one ⟨some 46,none,.callM false (.func 74) [.tmp 43,.tmp 45]⟩ (.one ⟨some 5,none,.mv (.tmp 38)⟩ (.one ⟨some 6,none,.mv (.tmp 42)⟩ (.one ⟨some 7,none,.mv (.tmp 46)⟩ .done)))))) (.one ⟨some 45,none,.ld false 1 (.tmp 44)⟩ (.one ⟨some 42,none,.callM false (.tmp 39) [(.tmp 41), (.const (.int .i64 10))]⟩ (.one ⟨some 46,none,.callM false (.func 74) [.tmp 43,.tmp 45]⟩ (.one ⟨some 5,none,.mv (.tmp 38)⟩ (.one ⟨some 6,none,.mv (.tmp 42)⟩ (.one ⟨some 7,none,.mv (.tmp 46)⟩ .done)))))))))) (.one ⟨some 44,none,.fad 1 false 1 (.tmp 3)⟩ (.both (.one ⟨some 38,none,.callM false (.tmp 35) [(.tmp 37), (.const (.int .i64 9))]⟩ (.both (.one ⟨some 42,none,.callM false (.tmp 39) [(.tmp 41), (.const (.int .i64 10))]⟩ (.one ⟨some 45,none,.ld false 1 (.tmp 44)⟩ (.one ⟨some 46,none,.callM false (.func 74) [.tmp 43,.tmp 45]⟩ (.one ⟨some 5,none,.mv (.tmp 38)⟩ (.one ⟨some 6,none,.mv (.tmp 42)⟩ (.one ⟨some 7,none,.mv (.tmp 46)⟩ .done)))))) (.one ⟨some 45,none,.ld false 1 (.tmp 44)⟩ (.one ⟨some 42,none,.callM false (.tmp 39) [(.tmp 41), (.const (.int .i64 10))]⟩ (.one ⟨some 46,none,.callM false (.func 74) [.tmp 43,.tmp 45]⟩ (.one ⟨some 5,none,.mv (.tmp 38)⟩ (.one ⟨some 6,none,.mv (.tmp 42)⟩ (.one ⟨some 7,none,.mv (.tmp 46)⟩ .done)))))))) (.one ⟨some 45,none,.ld false 1 (.tmp 44)⟩ (.one ⟨some 38,none,.callM false (.tmp 35) [(.tmp 37), (.const (.int .i64 9))]⟩ (.one ⟨some 42,none,.callM false (.tmp 39) [(.tmp 41), (.const (.int .i64 10))]⟩ (.one ⟨some 46,none,.callM false (.func 74) [.tmp 43,.tmp 45]⟩ (.one ⟨some 5,none,.mv (.tmp 38)⟩ (.one ⟨some 6,none,.mv (.tmp 42)⟩ (.one ⟨some 7,none,.mv (.tmp 46)⟩ .done))))))))))) (.one ⟨some 44,none,.fad 1 false 1 (.tmp 3)⟩ (.both (.one ⟨some 38,none,.callM false (.tmp 35) [(.tmp 37), (.const (.int .i64 9))]⟩ (.one ⟨some 41,none,.ld false 1 (.tmp 40)⟩ (.both (.one ⟨some 42,none,.callM false (.tmp 39) [(.tmp 41), (.const (.int .i64 10))]⟩ (.one ⟨some 45,none,.ld false 1 (.tmp 44)⟩ (.one ⟨some 46,none,.callM false (.func 74) [.tmp 43,.tmp 45]⟩ (.one ⟨some 5,none,.mv (.tmp 38)⟩ (.one ⟨some 6,none,.mv (.tmp 42)⟩ (.one ⟨some 7,none,.mv (.tmp 46)⟩ .done)))))) (.one ⟨some 45,none,.ld false 1 (.tmp 44)⟩ (.one ⟨some 42,none,.callM false (.tmp 39) [(.tmp 41), (.const (.int .i64 10))]⟩ (.one ⟨some 46,none,.callM false (.func 74) [.tmp 43,.tmp 45]⟩ (.one ⟨some 5,none,.mv (.tmp 38)⟩ (.one ⟨some 6,none,.mv (.tmp 42)⟩ (.one ⟨some 7,none,.mv (.tmp 46)⟩ .done))))))))) (.both (.one ⟨some 41,none,.ld false 1 (.tmp 40)⟩ (.both (.one ⟨some 38,none,.callM false (.tmp 35) [(.tmp 37), (.const (.int .i64 9))]⟩ (.both (.one ⟨some 42,none,.callM false (.tmp 39) [(.tmp 41), (.const (.int .i64 10))]⟩ (.one ⟨some 45,none,.ld false 1 (.tmp 44)⟩ (.one ⟨some 46,none,.callM false (.func 74) [.tmp 43,.tmp 45]⟩ (.one ⟨some 5,none,.mv (.tmp 38)⟩ (.one ⟨some 6,none,.mv (.tmp 42)⟩ (.one ⟨some 7,none,.mv (.tmp 46)⟩ .done)))))) (.one ⟨some 45,none,.ld false 1 (.tmp 44)⟩ (.one ⟨some 42,none,.callM false (.tmp 39) [(.tmp 41), (.const (.int .i64 10))]⟩ (.one ⟨some 46,none,.callM false (.func 74) [.tmp 43,.tmp 45]⟩ (.one ⟨some 5,none,.mv (.tmp 38)⟩ (.one ⟨some 6,none,.mv (.tmp 42)⟩ (.one ⟨some 7,none,.mv (.tmp 46)⟩ .done)))))))) (.one ⟨some 45,none,.ld false 1 (.tmp 44)⟩ (.one ⟨some 38,none,.callM false (.tmp 35) [(.tmp 37), (.const (.int .i64 9))]⟩ (.one ⟨some 42,none,.callM false (.tmp 39) [(.tmp 41), (.const (.int .i64 10))]⟩ (.one ⟨some 46,none,.callM false (.func 74) [.tmp 43,.tmp 45]⟩ (.one ⟨some 5,none,.mv (.tmp 38)⟩ (.one ⟨some 6,none,.mv (.tmp 42)⟩ (.one ⟨some 7,none,.mv (.tmp 46)⟩ .done))))))))) (.one ⟨some 45,none,.ld false 1 (.tmp 44)⟩ (.both (.one ⟨some 38,none,.callM false (.tmp 35) [(.tmp 37), (.const (.int .i64 9))]⟩ (.one ⟨some 41,none,.ld false 1 (.tmp 40)⟩ (.one ⟨some 42,none,.callM false (.tmp 39) [(.tmp 41), (.const (.int .i64 10))]⟩ (.one ⟨some 46,none,.callM false (.func 74) [.tmp 43,.tmp 45]⟩ (.one ⟨some 5,none,.mv (.tmp 38)⟩ (.one ⟨some 6,none,.mv (.tmp 42)⟩ (.one ⟨some 7,none,.mv (.tmp 46)⟩ .done))))))) (.one ⟨some 41,none,.ld false 1 (.tmp 40)⟩ (.one ⟨some 38,none,.callM false (.tmp 35) [(.tmp 37), (.const (.int .i64 9))]⟩ (.one ⟨some 42,none,.callM false (.tmp 39) [(.tmp 41), (.const (.int .i64 10))]⟩ (.one ⟨some 46,none,.callM false (.func 74) [.tmp 43,.tmp 45]⟩ (.one ⟨some 5,none,.mv (.tmp 38)⟩ (.one ⟨some 6,none,.mv (.tmp 42)⟩ (.one ⟨some 7,none,.mv (.tmp 46)⟩ .done))))))))))))))) (.one ⟨some 44,none,.fad 1 false 1 (.tmp 3)⟩ (.both (.one ⟨some 38,none,.callM false (.tmp 35) [(.tmp 37), (.const (.int .i64 9))]⟩ (.one ⟨some 40,none,.fad 3 false 1 (.tmp 3)⟩ (.one ⟨some 41,none,.ld false 1 (.tmp 40)⟩ (.both (.one ⟨some 42,none,.callM false (.tmp 39) [(.tmp 41), (.const (.int .i64 10))]⟩ (.one ⟨some 45,none,.ld false 1 (.tmp 44)⟩ (.one ⟨some 46,none,.callM false (.func 74) [.tmp 43,.tmp 45]⟩ (.one ⟨some 5,none,.mv (.tmp 38)⟩ (.one ⟨some 6,none,.mv (.tmp 42)⟩ (.one ⟨some 7,none,.mv (.tmp 46)⟩ .done)))))) (.one ⟨some 45,none,.ld false 1 (.tmp 44)⟩ (.one ⟨some 42,none,.callM false (.tmp 39) [(.tmp 41), (.const (.int .i64 10))]⟩ (.one ⟨some 46,none,.callM false (.func 74) [.tmp 43,.tmp 45]⟩ (.one ⟨some 5,none,.mv (.tmp 38)⟩ (.one ⟨some 6,none,.mv (.tmp 42)⟩ (.one ⟨some 7,none,.mv (.tmp 46)⟩ .done)))))))))) (.both (.one ⟨some 40,none,.fad 3 false 1 (.tmp 3)⟩ (.both (.one ⟨some 38,none,.callM false (.tmp 35) [(.tmp 37), (.const (.int .i64 9))]⟩ (.one ⟨some 41,none,.ld false 1 (.tmp 40)⟩ (.both (.one ⟨some 42,none,.callM false (.tmp 39) [(.tmp 41), (.const (.int .i64 10))]⟩ (.one ⟨some 45,none,.ld false 1 (.tmp 44)⟩ (.one ⟨some 46,none,.callM false (.func 74) [.tmp 43,.tmp 45]⟩ (.one ⟨some 5,none,.mv (.tmp 38)⟩ (.one ⟨some 6,none,.mv (.tmp 42)⟩ (.one ⟨some 7,none,.mv (.tmp 46)⟩ .done)))))) (.one ⟨some 45,none,.ld false 1 (.tmp 44)⟩ (.one ⟨some 42,none,.callM false (.tmp 39) [(.tmp 41), (.const (.int .i64 10))]⟩ (.one ⟨some 46,none,.callM false (.func 74) [.tmp 43,.tmp 45]⟩ (.one ⟨some 5,none,.mv (.tmp 38)⟩ (.one ⟨some 6,none,.mv (.tmp 42)⟩ (.one ⟨some 7,none,.mv (.tmp 46)⟩ .done))))))))) (.both (.one ⟨some 41,none,.ld false 1 (.tmp 40)⟩ (.both (.one ⟨some 38,none,.callM false (.tmp 35) [(.tmp 37), (.const (.int .i64 9))]⟩ (.both (.one ⟨some 42,none,.callM false (.tmp 39) [(.tmp 41), (.const (.int .i64 10))]⟩ (.one ⟨some 45,none,.ld false 1 (.tmp 44)⟩ (.one ⟨some 46,none,.callM false (.func 74) [.tmp 43,.tmp 45]⟩ (.one ⟨some 5,none,.mv (.tmp 38)⟩ (.one ⟨some 6,none,.mv (.tmp 42)⟩ (.one ⟨some 7,none,.mv (.tmp 46)⟩ .done)))))) (.one ⟨some 45,none,.ld false 1 (.tmp 44)⟩ (.one ⟨some 42,none,.callM false (.tmp 39) [(.tmp 41), (.const (.int .i64 10))]⟩ (.one ⟨some 46,none,.callM false (.func 74) [.tmp 43,.tmp 45]⟩ (.one ⟨some 5,none,.mv (.tmp 38)⟩ (.one ⟨some 6,none,.mv (.tmp 42)⟩ (.one ⟨some 7,none,.mv (.tmp 46)⟩ .done)))))))) (.one ⟨some 45,none,.ld false 1 (.tmp 44)⟩ (.one ⟨some 38,none,.callM false (.tmp 35) [(.tmp 37), (.const (.int .i64 9))]⟩ (.one ⟨some 42,none,.callM false (.tmp 39) [(.tmp 41), (.const (.int .i64 10))]⟩ (.one ⟨some 46,none,.callM false (.func 74) [.tmp 43,.tmp 45]⟩ (.one ⟨some 5,none,.mv (.tmp 38)⟩ (.one ⟨some 6,none,.mv (.tmp 42)⟩ (.one ⟨some 7,none,.mv (.tmp 46)⟩ .done))))))))) (.one ⟨some 45,none,.ld false 1 (.tmp 44)⟩ (.both (.one ⟨some 38,none,.callM false (.tmp 35) [(.tmp 37), (.const (.int .i64 9))]⟩ (.one ⟨some 41,none,.ld false 1 (.tmp 40)⟩ (.one ⟨some 42,none,.callM false (.tmp 39) [(.tmp 41), (.const (.int .i64 10))]⟩ (.one ⟨some 46,none,.callM false (.func 74) [.tmp 43,.tmp 45]⟩ (.one ⟨some 5,none,.mv (.tmp 38)⟩ (.one ⟨some 6,none,.mv (.tmp 42)⟩ (.one ⟨some 7,none,.mv (.tmp 46)⟩ .done))))))) (.one ⟨some 41,none,.ld false 1 (.tmp 40)⟩ (.one ⟨some 38,none,.callM false (.tmp 35) [(.tmp 37), (.const (.int .i64 9))]⟩ (.one ⟨some 42,none,.callM false (.tmp 39) [(.tmp 41), (.const (.int .i64 10))]⟩ (.one ⟨some 46,none,.callM false (.func 74) [.tmp 43,.tmp 45]⟩ (.one ⟨some 5,none,.mv (.tmp 38)⟩ (.one ⟨some 6,none,.mv (.tmp 42)⟩ (.one ⟨some 7,none,.mv (.tmp 46)⟩ .done)))))))))))) (.one ⟨some 45,none,.ld false 1 (.tmp 44)⟩ (.both (.one ⟨some 38,none,.callM false (.tmp 35) [(.tmp 37), (.const (.int .i64 9))]⟩ (.one ⟨some 40,none,.fad 3 false 1 (.tmp 3)⟩ (.one ⟨some 41,none,.ld false 1 (.tmp 40)⟩ (.one ⟨some 42,none,.callM false (.tmp 39) [(.tmp 41), (.const (.int .i64 10))]⟩ (.one ⟨some 46,none,.callM false (.func 74) [.tmp 43,.tmp 45]⟩ (.one ⟨some 5,none,.mv (.tmp 38)⟩ (.one ⟨some 6,none,.mv (.tmp 42)⟩ (.one ⟨some 7,none,.mv (.tmp 46)⟩ .done)))))))) (.one ⟨some 40,none,.fad 3 false 1 (.tmp 3)⟩ (.both (.one ⟨some 38,none,.callM false (.tmp 35) [(.tmp 37), (.const (.int .i64 9))]⟩ (.one ⟨some 41,none,.ld false 1 (.tmp 40)⟩ (.one ⟨some 42,none,.callM false (.tmp 39) [(.tmp 41), (.const (.int .i64 10))]⟩ (.one ⟨some 46,none,.callM false (.func 74) [.tmp 43,.tmp 45]⟩ (.one ⟨some 5,none,.mv (.tmp 38)⟩ (.one ⟨some 6,none,.mv (.tmp 42)⟩ (.one ⟨some 7,none,.mv (.tmp 46)⟩ .done))))))) (.one ⟨some 41,none,.ld false 1 (.tmp 40)⟩ (.one ⟨some 38,none,.callM false (.tmp 35) [(.tmp 37), (.const (.int .i64 9))]⟩ (.one ⟨some 42,none,.callM false (.tmp 39) [(.tmp 41), (.const (.int .i64 10))]⟩ (.one ⟨some 46,none,.callM false (.func 74) [.tmp 43,.tmp 45]⟩ (.one ⟨some 5,none,.mv (.tmp 38)⟩ (.one ⟨some 6,none,.mv (.tmp 42)⟩ (.one ⟨some 7,none,.mv (.tmp 46)⟩ .done))))))))))))))))))))))
 (.seq
 (.ops [
 ⟨some 47,none,.mv (.tmp 0)⟩,
⟨some 48,none,.fad 4 false 1 (.tmp 3)⟩,
⟨some 49,none,.ld false 1 (.tmp 48)⟩,
⟨some 50,none,.mv (.tmp 7)⟩,
⟨some 51,none,.mv (.tmp 5)⟩,
⟨some 52,none,.mv (.tmp 6)⟩,
⟨some 53,none,.callM false (.func 50) [.tmp 47,.tmp 49,.tmp 50,.tmp 51,.tmp 52]⟩])
 (.ops [
 ⟨some 54,none,.mv (.tmp 0)⟩,
⟨some 55,none,.fad 1 false 1 (.tmp 3)⟩,
⟨some 56,none,.ld false 1 (.tmp 55)⟩,
⟨some 57,none,.mv (.tmp 7)⟩,
⟨some 58,none,.callM false (.func 51) [.tmp 54,.tmp 56,.tmp 57]⟩])))
 (.seq
 (.ops [
 ⟨some 60,none,.bin .eql (.tmp 16) (.const (.int .i64 4))⟩,
⟨some 59,none,.mv (.tmp 60)⟩])
 (.cond (.tmp 59)
 (.seq
 (.ops [
 ⟨some 61,none,.mv (.tmp 0)⟩,
⟨some 62,none,.fad 1 false 1 (.tmp 3)⟩,
⟨some 63,none,.ld false 1 (.tmp 62)⟩,
⟨some 64,none,.callM false (.func 74) [.tmp 61,.tmp 63]⟩,
⟨some 8,none,.mv (.tmp 64)⟩])
 (.seq
 (.ops [
 ⟨some 65,none,.mv (.tmp 0)⟩,
⟨some 66,none,.mv (.tmp 8)⟩,
⟨some 67,none,.fad 5 false 1 (.tmp 3)⟩,
⟨some 68,none,.ld false 1 (.tmp 67)⟩,
⟨some 69,none,.callM false (.func 50) [(.tmp 65), (.const (.int .i64 16)), (.tmp 66), (.const (.int .i64 0)), (.tmp 68)]⟩])
 (.ops [
 ⟨some 70,none,.mv (.tmp 0)⟩,
⟨some 71,none,.fad 1 false 1 (.tmp 3)⟩,
⟨some 72,none,.ld false 1 (.tmp 71)⟩,
⟨some 73,none,.mv (.tmp 8)⟩,
⟨some 74,none,.callM false (.func 51) [.tmp 70,.tmp 72,.tmp 73]⟩])))
 (.seq
 (.ops [
 ⟨some 76,none,.bin .eql (.tmp 16) (.const (.int .i64 5))⟩,
⟨some 75,none,.mv (.tmp 76)⟩])
 (.cond (.tmp 75)
 (.par false (.one ⟨some 77,none,.mv (.tmp 0)⟩ (.one ⟨some 78,none,.mv (.tmp 4)⟩ (.one ⟨some 79,none,.fad 2 false 1 (.tmp 3)⟩ (.one ⟨some 80,none,.ld false 1 (.tmp 79)⟩ (.both (.one ⟨some 81,none,.callM false (.tmp 78) [(.tmp 80), (.const (.int .i64 9))]⟩ (.one ⟨some 82,none,.fad 5 false 1 (.tmp 3)⟩ (.one ⟨some 83,none,.ld false 1 (.tmp 82)⟩ (.one ⟨some 84,none,.callM false (.func 50) [(.tmp 77), (.const (.int .i64 17)), (.tmp 81), (.const (.int .i64 0)), (.tmp 83)]⟩ .done)))) (.one ⟨some 82,none,.fad 5 false 1 (.tmp 3)⟩ (.both (.one ⟨some 81,none,.callM false (.tmp 78) [(.tmp 80), (.const (.int .i64 9))]⟩ (.one ⟨some 83,none,.ld false 1 (.tmp 82)⟩ (.one ⟨some 84,none,.callM false (.func 50) [(.tmp 77), (.const (.int .i64 17)), (.tmp 81), (.const (.int .i64 0)), (.tmp 83)]⟩ .done))) (.one ⟨some 83,none,.ld false 1 (.tmp 82)⟩ (.one ⟨some 81,none,.callM false (.tmp 78) [(.tmp 80), (.const (.int .i64 9))]⟩ (.one ⟨some 84,none,.callM false (.func 50) [(.tmp 77), (.const (.int .i64 17)), (.tmp 81), (.const (.int .i64 0)), (.tmp 83)]⟩ .done)))))))))))
 (.seq
 (.ops [
 ⟨some 86,none,.bin .eql (.tmp 16) (.const (.int .i64 6))⟩,
⟨some 85,none,.mv (.tmp 86)⟩])
 (.cond (.tmp 85)
 (.seq
 (.par false (.one ⟨some 87,none,.mv (.tmp 4)⟩ (.one ⟨some 88,none,.fad 2 false 1 (.tmp 3)⟩ (.one ⟨some 89,none,.ld false 1 (.tmp 88)⟩ (.one ⟨some 91,none,.mv (.tmp 0)⟩ (.both (.one ⟨some 90,none,.callM false (.tmp 87) [(.tmp 89), (.const (.int .i64 9))]⟩ (.one ⟨some 92,none,.fad 1 false 1 (.tmp 3)⟩ (.one ⟨some 93,none,.ld false 1 (.tmp 92)⟩ (.one ⟨some 94,none,.callM false (.func 74) [.tmp 91,.tmp 93]⟩ (.one ⟨some 9,none,.mv (.tmp 90)⟩ (.one ⟨some 10,none,.mv (.tmp 94)⟩ .done)))))) (.one ⟨some 92,none,.fad 1 false 1 (.tmp 3)⟩ (.both (.one ⟨some 90,none,.callM false (.tmp 87) [(.tmp 89), (.const (.int .i64 9))]⟩ (.one ⟨some 93,none,.ld false 1 (.tmp 92)⟩ (.one ⟨some 94,none,.callM false (.func 74) [.tmp 91,.tmp 93]⟩ (.one ⟨some 9,none,.mv (.tmp 90)⟩ (.one ⟨some 10,none,.mv (.tmp 94)⟩ .done))))) (.one ⟨some 93,none,.ld false 1 (.tmp 92)⟩ (.one ⟨some 90,none,.callM false (.tmp 87) [(.tmp 89), (.const (.int .i64 9))]⟩ (.one ⟨some 94,none,.callM false (.func 74) [.tmp 91,.tmp 93]⟩ (.one ⟨some 9,none,.mv (.tmp 90)⟩ (.one ⟨some 10,none,.mv (.tmp 94)⟩ .done)))))))))))))
 (.seq
 (.ops [
 ⟨some 95,none,.mv (.tmp 0)⟩,
⟨some 96,none,.mv (.tmp 9)⟩,
⟨some 97,none,.fad 6 false 1 (.tmp 3)⟩,
⟨some 98,none,.ld false 1 (.tmp 97)⟩,
⟨some 99,none,.callM false (.func 50) [(.tmp 95), (.const (.int .i64 25)), (.tmp 96), (.const (.int .i64 0)), (.tmp 98)]⟩])
 (.seq
 (.ops [
 ⟨some 100,none,.mv (.tmp 0)⟩,
⟨some 101,none,.mv (.tmp 10)⟩,
⟨some 102,none,.mv (.tmp 9)⟩,
⟨some 103,none,.fad 5 false 1 (.tmp 3)⟩,
⟨some 104,none,.ld false 1 (.tmp 103)⟩,
⟨some 105,none,.callM false (.func 50) [(.tmp 100), (.const (.int .i64 16)), (.tmp 101), (.tmp 102), (.tmp 104)]⟩])
 (.ops [
 ⟨some 106,none,.mv (.tmp 0)⟩,
⟨some 107,none,.fad 1 false 1 (.tmp 3)⟩,
⟨some 108,none,.ld false 1 (.tmp 107)⟩,
⟨some 109,none,.mv (.tmp 10)⟩,
⟨some 110,none,.callM false (.func 51) [.tmp 106,.tmp 108,.tmp 109]⟩]))))
 (.seq
 (.ops [
 ⟨some 112,none,.bin .eql (.tmp 16) (.const (.int .i64 7))⟩,
⟨some 111,none,.mv (.tmp 112)⟩])
 (.cond (.tmp 111)
 (.seq
 (.ops [
 ⟨some 113,none,.mv (.tmp 4)⟩,
⟨some 114,none,.fad 2 false 1 (.tmp 3)⟩,
⟨some 115,none,.ld false 1 (.tmp 114)⟩,
⟨some 116,none,.callM false (.tmp 113) [(.tmp 115), (.const (.int .i64 9))]⟩,
⟨some 11,none,.mv (.tmp 116)⟩])
 (.seq
 (.ops [
 ⟨some 117,none,.mv (.tmp 0)⟩,
⟨some 118,none,.mv (.tmp 11)⟩,
⟨some 119,none,.fad 6 false 1 (.tmp 3)⟩,
⟨some 120,none,.ld false 1 (.tmp 119)⟩,
⟨some 121,none,.callM false (.func 50) [(.tmp 117), (.const (.int .i64 25)), (.tmp 118), (.const (.int .i64 0)), (.tmp 120)]⟩])
 (.par false (.one ⟨some 122,none,.mv (.tmp 0)⟩ (.one ⟨some 123,none,.mv (.tmp 4)⟩ (.one ⟨some 124,none,.fad 3 false 1 (.tmp 3)⟩ (.one ⟨some 125,none,.ld false 1 (.tmp 124)⟩ (.one ⟨some 127,none,.mv (.tmp 11)⟩ (.both (.one ⟨some 126,none,.callM false (.tmp 123) [(.tmp 125), (.const (.int .i64 10))]⟩ (.one ⟨some 128,none,.fad 5 false 1 (.tmp 3)⟩ (.one ⟨some 129,none,.ld false 1 (.tmp 128)⟩ (.one ⟨some 130,none,.callM false (.func 50) [(.tmp 122), (.const (.int .i64 17)), (.tmp 126), (.tmp 127), (.tmp 129)]⟩ .done)))) (.one ⟨some 128,none,.fad 5 false 1 (.tmp 3)⟩ (.both (.one ⟨some 126,none,.callM false (.tmp 123) [(.tmp 125), (.const (.int .i64 10))]⟩ (.one ⟨some 129,none,.ld false 1 (.tmp 128)⟩ (.one ⟨some 130,none,.callM false (.func 50) [(.tmp 122), (.const (.int .i64 17)), (.tmp 126), (.tmp 127), (.tmp 129)]⟩ .done))) (.one ⟨some 129,none,.ld false 1 (.tmp 128)⟩ (.one ⟨some 126,none,.callM false (.tmp 123) [(.tmp 125), (.const (.int .i64 10))]⟩ (.one ⟨some 130,none,.callM false (.func 50) [(.tmp 122), (.const (.int .i64 17)), (.tmp 126), (.tmp 127), (.tmp 129)]⟩ .done))))))))))))))
 (.seq
 (.ops [
 ⟨some 132,none,.bin .eql (.tmp 16) (.const (.int .i64 8))⟩,
⟨some 131,none,.mv (.tmp 132)⟩])
 (.cond (.tmp 131)
 (.seq
 (.ops [
 ⟨some 133,none,.mv (.tmp 0)⟩,
⟨some 134,none,.fad 1 false 1 (.tmp 3)⟩,
⟨some 135,none,.ld false 1 (.tmp 134)⟩,
⟨some 136,none,.callM false (.func 74) [.tmp 133,.tmp 135]⟩,
⟨some 12,none,.mv (.tmp 136)⟩])
 (.seq
 (.ops [
 ⟨some 137,none,.mv (.tmp 0)⟩,
⟨some 138,none,.mv (.tmp 12)⟩,
⟨some 139,none,.callM false (.func 50) [(.tmp 137), (.const (.int .i64 23)), (.tmp 138), (.const (.int .i64 0)), (.const (.int .i64 0))]⟩])
 (.ops [
 ⟨some 140,none,.mv (.tmp 0)⟩,
⟨some 141,none,.fad 1 false 1 (.tmp 3)⟩,
⟨some 142,none,.ld false 1 (.tmp 141)⟩,
⟨some 143,none,.mv (.tmp 12)⟩,
⟨some 144,none,.callM false (.func 51) [.tmp 140,.tmp 142,.tmp 143]⟩])))
 (.seq
 (.ops [
 ⟨some 146,none,.bin .eql (.tmp 16) (.const (.int .i64 9))⟩,
⟨some 145,none,.mv (.tmp 146)⟩])
 (.cond (.tmp 145)
 (.ops [
 ⟨some 147,none,.mv (.tmp 0)⟩,
⟨some 148,none,.mv (.tmp 4)⟩,
⟨some 149,none,.fad 2 false 1 (.tmp 3)⟩,
⟨some 150,none,.ld false 1 (.tmp 149)⟩,
⟨some 151,none,.callM false (.tmp 148) [(.tmp 150), (.const (.int .i64 9))]⟩,
⟨some 152,none,.callM false (.func 50) [(.tmp 147), (.const (.int .i64 24)), (.tmp 151), (.const (.int .i64 0)), (.const (.int .i64 0))]⟩])
 (.seq
 (.ops [
 ⟨some 154,none,.bin .eql (.tmp 16) (.const (.int .i64 10))⟩,
⟨some 153,none,.mv (.tmp 154)⟩])
 (.cond (.tmp 153)
 (.ops [
 ⟨some 155,none,.mv (.tmp 0)⟩,
⟨some 156,none,.fad 5 false 1 (.tmp 3)⟩,
⟨some 157,none,.ld false 1 (.tmp 156)⟩,
⟨some 158,none,.callM false (.func 75) [(.tmp 155), (.const (.int .i64 21)), (.const (.int .i64 12)), (.tmp 157), (.const (.int .i64 (-1)))]⟩])
 .skip))))))))))))))))))))))))
theorem f_choose_writer_instruction : compF Try.prog 52 = some (159, c_choose_writer_instruction, []) := by kernel_rfl
def c_choose_writer_end : VC :=
 (.seq
 (.ops [
 ⟨some 4,none,.box 49 (.tmp 1)⟩])
 (.seq
 (.ops [
 ⟨some 7,none,.fad 1 false 1 (.tmp 4)⟩,
⟨some 8,none,.ld false 1 (.tmp 7)⟩])
 (.block 0
 (.seq
 (.ops [
 ⟨some 10,none,.bin .eql (.tmp 8) (.const (.int .i64 1))⟩,
⟨some 9,none,.mv (.tmp 10)⟩])
 (.cond (.tmp 9)
 (.seq
 (.ops [
 ⟨some 11,none,.fad 3 false 1 (.tmp 4)⟩,
⟨some 12,none,.ld false 1 (.tmp 11)⟩,
⟨some 13,none,.mv (.tmp 2)⟩,
⟨some 14,none,.bin .neq (.tmp 12) (.tmp 13)⟩])
 (.cond (.tmp 14)
 (.ops [
 ⟨some 15,none,.mv (.tmp 0)⟩,
⟨some 16,none,.mv (.tmp 0)⟩,
⟨some 17,none,.nck (.tmp 16)⟩,
⟨some 18,none,.fad 8 false 1 (.tmp 17)⟩,
⟨some 19,none,.ld false 1 (.tmp 18)⟩,
⟨some 20,none,.fad 3 false 1 (.tmp 4)⟩,
⟨some 21,none,.ld false 1 (.tmp 20)⟩,
⟨some 22,none,.callM false (.func 75) [(.tmp 15), (.const (.int .i64 18)), (.const (.int .i64 0)), (.tmp 19), (.tmp 21)]⟩])
 .skip))
 (.seq
 (.ops [
 ⟨some 24,none,.bin .eql (.tmp 8) (.const (.int .i64 2))⟩,
⟨some 23,none,.mv (.tmp 24)⟩])
 (.cond (.tmp 23)
 (.seq
 (.ops [
 ⟨some 25,none,.mv (.tmp 0)⟩,
⟨some 26,none,.fad 2 false 1 (.tmp 4)⟩,
⟨some 27,none,.ld false 1 (.tmp 26)⟩,
⟨some 28,none,.callM false (.func 71) [(.tmp 25), (.tmp 27), (.const (.int .i64 9))]⟩,
⟨some 6,none,.mv (.tmp 28)⟩])
 (.seq
 (.seq
 (.ops [
 ⟨some 29,none,.fad 3 false 1 (.tmp 4)⟩,
⟨some 30,none,.ld false 1 (.tmp 29)⟩,
⟨some 31,none,.mv (.tmp 2)⟩,
⟨some 32,none,.bin .eql (.tmp 30) (.tmp 31)⟩])
 (.cond (.tmp 32)
 (.seq
 (.ops [
 ⟨some 33,none,.mv (.tmp 0)⟩,
⟨some 34,none,.mv (.tmp 6)⟩,
⟨some 35,none,.mv (.tmp 0)⟩,
⟨some 36,none,.nck (.tmp 35)⟩,
⟨some 37,none,.fad 8 false 1 (.tmp 36)⟩,
⟨some 38,none,.ld false 1 (.tmp 37)⟩,
⟨some 39,none,.fad 4 false 1 (.tmp 4)⟩,
⟨some 40,none,.ld false 1 (.tmp 39)⟩,
⟨some 41,none,.callM false (.func 75) [(.tmp 33), (.const (.int .i64 19)), (.tmp 34), (.tmp 38), (.tmp 40)]⟩])
 .ret)
 .skip))
 (.seq
 (.ops [
 ⟨some 42,none,.mv (.tmp 0)⟩,
⟨some 43,none,.mv (.tmp 6)⟩,
⟨some 44,none,.mv (.tmp 0)⟩,
⟨some 45,none,.nck (.tmp 44)⟩,
⟨some 46,none,.fad 8 false 1 (.tmp 45)⟩,
⟨some 47,none,.ld false 1 (.tmp 46)⟩,
⟨some 48,none,.fad 3 false 1 (.tmp 4)⟩,
⟨some 49,none,.ld false 1 (.tmp 48)⟩,
⟨some 50,none,.callM false (.func 75) [(.tmp 42), (.const (.int .i64 20)), (.tmp 43), (.tmp 47), (.tmp 49)]⟩])
 (.seq
 (.ops [
 ⟨some 51,none,.fad 4 false 1 (.tmp 4)⟩,
⟨some 52,none,.ld false 1 (.tmp 51)⟩,
⟨some 53,none,.mv (.tmp 2)⟩,
⟨some 54,none,.bin .neq (.tmp 52) (.tmp 53)⟩])
 (.cond (.tmp 54)
 (.ops [
 ⟨some 55,none,.mv (.tmp 0)⟩,
⟨some 56,none,.mv (.tmp 0)⟩,
⟨some 57,none,.nck (.tmp 56)⟩,
⟨some 58,none,.fad 8 false 1 (.tmp 57)⟩,
⟨some 59,none,.ld false 1 (.tmp 58)⟩,
⟨some 60,none,.fad 4 false 1 (.tmp 4)⟩,
⟨some 61,none,.ld false 1 (.tmp 60)⟩,
⟨some 62,none,.callM false (.func 75) [(.tmp 55), (.const (.int .i64 18)), (.const (.int .i64 0)), (.tmp 59), (.tmp 61)]⟩])
 .skip)))))
 (.seq
 (.ops [
 ⟨some 64,none,.bin .eql (.tmp 8) (.const (.int .i64 3))⟩,
⟨some 63,none,.mv (.tmp 64)⟩])
 (.cond (.tmp 63)
 (.seq
 (.seq
 (.ops [
 ⟨some 65,none,.mv (.tmp 0)⟩,
⟨some 66,none,.nck (.tmp 65)⟩,
⟨some 67,none,.fad 8 false 1 (.tmp 66)⟩,
⟨some 68,none,.ld false 1 (.tmp 67)⟩,
⟨some 69,none,.mv (.tmp 0)⟩,
⟨some 70,none,.nck (.tmp 69)⟩,
⟨some 71,none,.fad 0 true 2 (.tmp 70)⟩,
⟨some 72,none,.fad 1 false 1 (.tmp 71)⟩,
⟨some 73,none,.ld false 1 (.tmp 72)⟩,
⟨some 74,none,.len (.tmp 73)⟩,
⟨some 75,none,.bin .sub (.tmp 74) (.const (.int .i64 1))⟩,
⟨some 76,none,.bin .eql (.tmp 68) (.tmp 75)⟩])
 (.cond (.tmp 76)
 (.seq
 (.ops [
 ⟨some 77,none,.mv (.tmp 0)⟩,
⟨some 78,none,.callM false (.func 50) [(.tmp 77), (.const (.int .i64 26)), (.const (.int .i64 0)), (.const (.int .i64 0)), (.const (.int .i64 0))]⟩])
 .ret)
 .skip))
 (.seq
 (.ops [
 ⟨some 79,none,.mv (.tmp 0)⟩,
⟨some 80,none,.mv (.tmp 0)⟩,
⟨some 81,none,.nck (.tmp 80)⟩,
⟨some 82,none,.fad 7 false 1 (.tmp 81)⟩,
⟨some 83,none,.ld false 1 (.tmp 82)⟩,
⟨some 84,none,.mv (.tmp 0)⟩,
⟨some 85,none,.nck (.tmp 84)⟩,
⟨some 86,none,.fad 8 false 1 (.tmp 85)⟩,
⟨some 87,none,.ld false 1 (.tmp 86)⟩,
⟨some 88,none,.bin .add (.tmp 83) (.tmp 87)⟩,
⟨some 89,none,.callM false (.func 50) [(.tmp 79), (.const (.int .i64 16)), (.const (.int .i64 12)), (.const (.int .i64 0)), (.tmp 88)]⟩])
 (.ops [
 ⟨some 90,none,.mv (.tmp 0)⟩,
⟨some 91,none,.callM false (.func 50) [(.tmp 90), (.const (.int .i64 22)), (.const (.int .i64 12)), (.const (.int .i64 0)), (.const (.int .i64 0))]⟩])))
 .skip)))))))))
theorem f_choose_writer_end : compF Try.prog 53 = some (92, c_choose_writer_end, []) := by kernel_rfl
def c_inst_Encode : VC :=
 (.seq
 (.ops [
 ⟨some 1,none,.box 115 (.tmp 0)⟩,
⟨some 2,none,.mv (.const (.int .u32 0))⟩,
⟨some 3,none,.mv (.const (.int .i64 0))⟩])
 (.seq
 (.seq
 (.ops [
 ⟨some 4,none,.ld true 4 (.tmp 1)⟩,
⟨some 5,none,.call (.func 76) [.tmp 4]⟩,
⟨some 6,none,.un .not (.tmp 5)⟩])
 (.cond (.tmp 6)
 (.seq
 (.ops [
 ⟨some 2,none,.mv (.const (.int .u32 0))⟩,
⟨some 3,none,.mv (.const (.int .i64 1))⟩])
 .ret)
 .skip))
 (.seq
 (.ops [
 ⟨some 7,none,.fad 0 false 1 (.tmp 1)⟩,
⟨some 8,none,.ld false 1 (.tmp 7)⟩,
⟨some 9,none,.conv .u32 (.tmp 8)⟩,
⟨some 10,none,.bin .shl (.tmp 9) (.const (.int .u64 24))⟩,
⟨some 11,none,.fad 1 false 1 (.tmp 1)⟩,
⟨some 12,none,.ld false 1 (.tmp 11)⟩,
⟨some 13,none,.conv .u32 (.tmp 12)⟩,
⟨some 14,none,.bin .shl (.tmp 13) (.const (.int .u64 20))⟩,
⟨some 15,none,.bin .or (.tmp 10) (.tmp 14)⟩,
⟨some 16,none,.fad 2 false 1 (.tmp 1)⟩,
⟨some 17,none,.ld false 1 (.tmp 16)⟩,
⟨some 18,none,.conv .u32 (.tmp 17)⟩,
⟨some 19,none,.bin .shl (.tmp 18) (.const (.int .u64 16))⟩,
⟨some 20,none,.bin .or (.tmp 15) (.tmp 19)⟩,
⟨some 21,none,.fad 3 false 1 (.tmp 1)⟩,
⟨some 22,none,.ld false 1 (.tmp 21)⟩,
⟨some 23,none,.conv .u32 (.tmp 22)⟩,
⟨some 24,none,.bin .or (.tmp 20) (.tmp 23)⟩,
⟨some 2,none,.mv (.tmp 24)⟩,
⟨some 3,none,.mv (.const (.int .i64 0))⟩])
 .ret)))
theorem f_inst_Encode : compF Try.prog 54 = some (25, c_inst_Encode, [.tmp 2,.tmp 3]) := by kernel_rfl
def c_scref10_run : VC :=
 (.seq
 (.ops [
 ⟨some 4,none,.box 30 (.tmp 0)⟩,
⟨some 6,none,.box 87 (.tmp 2)⟩,
⟨(some 8), none, (.alc 87 [(.int .i64 0), (.int .u32 0), (.int .u32 0), (.int .u32 0), (.int .u32 0), (.int .u32 0), (.int .u32 0), (.int .u32 0), (.int .u32 0), (.int .u32 0), (.int .u32 0), (.int .u32 0), (.int .u32 0), (.int .u32 0), (.int .u32 0), (.int .u32 0), (.int .u32 0), (.slice none 0 0), (.int .i64 0), (.string ⟨#[]⟩), (.int .i64 0), (.int .i64 0)])⟩,
⟨some 9,none,.mv (.const (.slice none 0 0))⟩])
 (.seq
 (.ops [
 ⟨some 16,none,.ld true 2 (.tmp 4)⟩,
⟨some 17,none,.call (.func 78) [.tmp 16]⟩,
⟨some 15,none,.mv (.tmp 17)⟩,
⟨some 18,none,.ext (.tmp 15) 0⟩,
⟨some 19,none,.ext (.tmp 15) 1⟩,
⟨some 10,none,.mv (.tmp 18)⟩,
⟨some 11,none,.mv (.tmp 19)⟩])
 (.seq
 (.par true (.one ⟨some 20,none,.fad 0 false 1 (.tmp 6)⟩ (.one ⟨some 21,none,.ld false 1 (.tmp 20)⟩ (.one ⟨some 22,none,.fad 1 true 16 (.tmp 6)⟩ (.one ⟨some 23,none,.ld true 16 (.tmp 22)⟩ (.one ⟨some 25,none,.fad 17 false 1 (.tmp 6)⟩ (.one ⟨some 26,none,.ld false 1 (.tmp 25)⟩ (.one ⟨some 28,none,.fad 18 false 1 (.tmp 6)⟩ (.one ⟨some 29,none,.ld false 1 (.tmp 28)⟩ (.one ⟨some 30,none,.fad 20 false 1 (.tmp 6)⟩ (.one ⟨some 31,none,.ld false 1 (.tmp 30)⟩ (.one ⟨some 32,none,.fad 21 false 1 (.tmp 6)⟩ (.one ⟨some 33,none,.ld false 1 (.tmp 32)⟩ (.both (.one ⟨some 24,none,.bsl 45 1 0 [] []⟩ (.both (.one ⟨some 27,none,.app 45 1 4 (.tmp 24) (.tmp 26)⟩ (.one ⟨(some 34), none, (.bld [(.int .i64 0), (.int .u32 0), (.int .u32 0), (.int .u32 0), (.int .u32 0), (.int .u32 0), (.int .u32 0), (.int .u32 0), (.int .u32 0), (.int .u32 0), (.int .u32 0), (.int .u32 0), (.int .u32 0), (.int .u32 0), (.int .u32 0), (.int .u32 0), (.int .u32 0), (.slice none 0 0), (.int .i64 0), (.string ⟨#[]⟩), (.int .i64 0), (.int .i64 0)] [(0, (1, (.tmp 21))), (1, (16, (.tmp 23))), (17, (1, (.tmp 27))), (18, (1, (.tmp 29))), (20, (1, (.tmp 31))), (21, (1, (.tmp 33)))])⟩ (.one ⟨(some 12), none, (.alc 87 [(.int .i64 0), (.int .u32 0), (.int .u32 0), (.int .u32 0), (.int .u32 0), (.int .u32 0), (.int .u32 0), (.int .u32 0), (.int .u32 0), (.int .u32 0), (.int .u32 0), (.int .u32 0), (.int .u32 0), (.int .u32 0), (.int .u32 0), (.int .u32 0), (.int .u32 0), (.slice none 0 0), (.int .i64 0), (.string ⟨#[]⟩), (.int .i64 0), (.int .i64 0)])⟩ (.one ⟨none,none,.sto true 22 (.tmp 12) (.tmp 34)⟩ .done)))) (.one ⟨(some 12), none, (.alc 87 [(.int .i64 0), (.int .u32 0), (.int .u32 0), (.int .u32 0), (.int .u32 0), (.int .u32 0), (.int .u32 0), (.int .u32 0), (.int .u32 0), (.int .u32 0), (.int .u32 0), (.int .u32 0), (.int .u32 0), (.int .u32 0), (.int .u32 0), (.int .u32 0), (.int .u32 0), (.slice none 0 0), (.int .i64 0), (.string ⟨#[]⟩), (.int .i64 0), (.int .i64 0)])⟩ (.one ⟨some 27,none,.app 45 1 4 (.tmp 24) (.tmp 26)⟩ (.one ⟨(some 34), none, (.bld [(.int .i64 0), (.int .u32 0), (.int .u32 0), (.int .u32 0), (.int .u32 0), (.int .u32 0), (.int .u32 0), (.int .u32 0), (.int .u32 0), (.int .u32 0), (.int .u32 0), (.int .u32 0), (.int .u32 0), (.int .u32 0), (.int .u32 0), (.int .u32 0), (.int .u32 0), (.slice none 0 0), (.int .i64 0), (.string ⟨#[]⟩), (.int .i64 0), (.int .i64 0)] [(0, (1, (.tmp 21))), (1, (16, (.tmp 23))), (17, (1, (.tmp 27))), (18, (1, (.tmp 29))), (20, (1, (.tmp 31))), (21, (1, (.tmp 33)))])⟩ (.one ⟨none,none,.sto true 22 (.tmp 12) (.tmp 34)⟩ .done)))))) (.one ⟨(some 12), none, (.alc 87 [(.int .i64 0), (.int .u32 0), (.int .u32 0), (.int .u32 0), (.int .u32 0), (.int .u32 0), (.int .u32 0), (.int .u32 0), (.int .u32 0), (.int .u32 0), (.int .u32 0), (.int .u32 0), (.int .u32 0), (.int .u32 0), (.int .u32 0), (.int .u32 0), (.int .u32 0), (.slice none 0 0), (.int .i64 0), (.string ⟨#[]⟩), (.int .i64 0), (.int .i64 0)])⟩ (.one ⟨some 24,none,.bsl 45 1 0 [] []⟩ (.one ⟨some 27,none,.app 45 1 4 (.tmp 24) (.tmp 26)⟩ (.one ⟨(some 34), none, (.bld [(.int .i64 0), (.int .u32 0), (.int .u32 0), (.int .u32 0), (.int .u32 0), (.int .u32 0), (.int .u32 0), (.int .u32 0), (.int .u32 0), (.int .u32 0), (.int .u32 0), (.int .u32 0), (.int .u32 0), (.int .u32 0), (.int .u32 0), (.int .u32 0), (.int .u32 0), (.slice none 0 0), (.int .i64 0), (.string ⟨#[]⟩), (.int .i64 0), (.int .i64 0)] [(0, (1, (.tmp 21))), (1, (16, (.tmp 23))), (17, (1, (.tmp 27))), (18, (1, (.tmp 29))), (20, (1, (.tmp 31))), (21, (1, (.tmp 33)))])⟩ (.one ⟨none,none,.sto true 22 (.tmp 12) (.tmp 34)⟩ .done)))))))))))))))))))
 (.seq
 (.par false (.one ⟨some 35,none,.ld true 22 (.tmp 12)⟩ (.one ⟨some 36,none,.fad 19 false 1 (.tmp 6)⟩ (.one ⟨some 37,none,.ld false 1 (.tmp 36)⟩ (.one ⟨some 39,none,.mv (.tmp 10)⟩ (.one ⟨some 40,none,.mv (.tmp 11)⟩ (.one ⟨some 41,none,.fad 0 false 1 (.tmp 4)⟩ (.one ⟨some 42,none,.ld false 1 (.tmp 41)⟩ (.one ⟨some 43,none,.mv (.tmp 1)⟩ (.one ⟨some 44,none,.fad 0 false 1 (.tmp 4)⟩ (.one ⟨some 45,none,.ld false 1 (.tmp 44)⟩ (.one ⟨some 46,none,.len (.tmp 45)⟩ (.both (.one ⟨some 38,none,.eff (.s2b 5) [.tmp 37]⟩ (.both (.one ⟨some 47,none,.mk 3 1 8 [.int .i64 0] (.tmp 46) (.tmp 46)⟩ (.one ⟨(some 48), none, (.bld [(.int .i64 0), (.int .u32 0), (.int .u32 0), (.int .u32 0), (.int .u32 0), (.int .u32 0), (.int .u32 0), (.int .u32 0), (.int .u32 0), (.int .u32 0), (.int .u32 0), (.int .u32 0), (.int .u32 0), (.int .u32 0), (.int .u32 0), (.int .u32 0), (.int .u32 0), (.slice none 0 0), (.int .i64 0), (.string ⟨#[]⟩), (.int .i64 0), (.int .i64 0), (.slice none 0 0), (.slice none 0 0), (.slice none 0 0), (.slice none 0 0), (.string ⟨#[]⟩), (.slice none 0 0)] [(0, (22, (.tmp 35))), (22, (1, (.tmp 38))), (23, (1, (.tmp 39))), (24, (1, (.tmp 40))), (25, (1, (.tmp 42))), (26, (1, (.tmp 43))), (27, (1, (.tmp 47)))])⟩ (.one ⟨(some 13), none, (.alc 143 [(.int .i64 0), (.int .u32 0), (.int .u32 0), (.int .u32 0), (.int .u32 0), (.int .u32 0), (.int .u32 0), (.int .u32 0), (.int .u32 0), (.int .u32 0), (.int .u32 0), (.int .u32 0), (.int .u32 0), (.int .u32 0), (.int .u32 0), (.int .u32 0), (.int .u32 0), (.slice none 0 0), (.int .i64 0), (.string ⟨#[]⟩), (.int .i64 0), (.int .i64 0), (.slice none 0 0), (.slice none 0 0), (.slice none 0 0), (.slice none 0 0), (.string ⟨#[]⟩), (.slice none 0 0)])⟩ (.one ⟨none,none,.sto true 28 (.tmp 13) (.tmp 48)⟩ .done)))) (.one ⟨(some 13), none, (.alc 143 [(.int .i64 0), (.int .u32 0), (.int .u32 0), (.int .u32 0), (.int .u32 0), (.int .u32 0), (.int .u32 0), (.int .u32 0), (.int .u32 0), (.int .u32 0), (.int .u32 0), (.int .u32 0), (.int .u32 0), (.int .u32 0), (.int .u32 0), (.int .u32 0), (.int .u32 0), (.slice none 0 0), (.int .i64 0), (.string ⟨#[]⟩), (.int .i64 0), (.int .i64 0), (.slice none 0 0), (.slice none 0 0), (.slice none 0 0), (.slice none 0 0), (.string ⟨#[]⟩), (.slice none 0 0)])⟩ (.one ⟨some 47,none,.mk 3 1 8 [.int .i64 0] (.tmp 46) (.tmp 46)⟩ (.one ⟨(some 48), none, (.bld [(.int .i64 0), (.int .u32 0), (.int .u32 0), (.int .u32 0), (.int .u32 0), (.int .u32 0), (.int .u32 0), (.int .u32 0), (.int .u32 0), (.int .u32 0), (.int .u32 0), (.int .u32 0), (.int .u32 0), (.int .u32 0), (.int .u32 0), (.int .u32 0), (.int .u32 0), (.slice none 0 0), (.int .i64 0), (.string ⟨#[]⟩), (.int .i64 0), (.int .i64 0), (.slice none 0 0), (.slice none 0 0), (.slice none 0 0), (.slice none 0 0), (.string ⟨#[]⟩), (.slice none 0 0)] [(0, (22, (.tmp 35))), (22, (1, (.tmp 38))), (23, (1, (.tmp 39))), (24, (1, (.tmp 40))), (25, (1, (.tmp 42))), (26, (1, (.tmp 43))), (27, (1, (.tmp 47)))])⟩ (.one ⟨none,none,.sto true 28 (.tmp 13) (.tmp 48)⟩ .done)))))) (.both (.one ⟨some 47,none,.mk 3 1 8 [.int .i64 0] (.tmp 46) (.tmp 46)⟩ (.both (.one ⟨some 38,none,.eff (.s2b 5) [.tmp 37]⟩ (.one ⟨(some 48), none, (.bld [(.int .i64 0), (.int .u32 0), (.int .u32 0), (.int .u32 0), (.int .u32 0), (.int .u32 0), (.int .u32 0), (.int .u32 0), (.int .u32 0), (.int .u32 0), (.int .u32 0), (.int .u32 0), (.int .u32 0), (.int .u32 0), (.int .u32 0), (.int .u32 0), (.int .u32 0), (.slice none 0 0), (.int .i64 0), (.string ⟨#[]⟩), (.int .i64 0), (.int .i64 0), (.slice none 0 0), (.slice none 0 0), (.slice none 0 0), (.slice none 0 0), (.string ⟨#[]⟩), (.slice none 0 0)] [(0, (22, (.tmp 35))), (22, (1, (.tmp 38))), (23, (1, (.tmp 39))), (24, (1, (.tmp 40))), (25, (1, (.tmp 42))), (26, (1, (.tmp 43))), (27, (1, (.tmp 47)))])⟩ (.one ⟨(some 13), none, (.alc 143 [(.int .i64 0), (.int .u32 0), (.int .u32 0), (.int .u32 0), (.int .u32 0), (.int .u32 0), (.int .u32 0), (.int .u32 0), (.int .u32 0), (.int .u32 0), (.int .u32 0), (.int .u32 0), (.int .u32 0), (.int .u32 0), (.int .u32 0), (.int .u32 0), (.int .u32 0), (.slice none 0 0), (.int .i64 0), (.string ⟨#[]⟩), (.int .i64 0), (.int .i64 0), (.slice none 0 0), (.slice none 0 0), (.slice none 0 0), (.slice none 0 0), (.string ⟨#[]⟩), (.slice none 0 0)])⟩ (.one ⟨none,none,.sto true 28 (.tmp 13) (.tmp 48)⟩ .done)))) (.one ⟨(some 13), none, (.alc 143 [(.int .i64 0), (.int .u32 0), (.int .u32 0), (.int .u32 0), (.int .u32 0), (.int .u32 0), (.int .u32 0), (.int .u32 0), (.int .u32 0), (.int .u32 0), (.int .u32 0), (.int .u32 0), (.int .u32 0), (.int .u32 0), (.int .u32 0), (.int .u32 0), (.int .u32 0), (.slice none 0 0), (.int .i64 0), (.string ⟨#[]⟩), (.int .i64 0), (.int .i64 0), (.slice none 0 0), (.slice none 0 0), (.slice none 0 0), (.slice none 0 0), (.string ⟨#[]⟩), (.slice none 0 0)])⟩ (.one ⟨some 38,none,.eff (.s2b 5) [.tmp 37]⟩ (.one ⟨(some 48), none, (.bld [(.int .i64 0), (.int .u32 0), (.int .u32 0), (.int .u32 0), (.int .u32 0), (.int .u32 0), (.int .u32 0), (.int .u32 0), (.int .u32 0), (.int .u32 0), (.int .u32 0), (.int .u32 0), (.int .u32 0), (.int .u32 0), (.int .u32 0), (.int .u32 0), (.int .u32 0), (.slice none 0 0), (.int .i64 0), (.string ⟨#[]⟩), (.int .i64 0), (.int .i64 0), (.slice none 0 0), (.slice none 0 0), (.slice none 0 0), (.slice none 0 0), (.string ⟨#[]⟩), (.slice none 0 0)] [(0, (22, (.tmp 35))), (22, (1, (.tmp 38))), (23, (1, (.tmp 39))), (24, (1, (.tmp 40))), (25, (1, (.tmp 42))), (26, (1, (.tmp 43))), (27, (1, (.tmp 47)))])⟩ (.one ⟨none,none,.sto true 28 (.tmp 13) (.tmp 48)⟩ .done)))))) (.one ⟨(some 13), none, (.alc 143 [(.int .i64 0), (.int .u32 0), (.int .u32 0), (.int .u32 0), (.int .u32 0), (.int .u32 0), (.int .u32 0), (.int .u32 0), (.int .u32 0), (.int .u32 0), (.int .u32 0), (.int .u32 0), (.int .u32 0), (.int .u32 0), (.int .u32 0), (.int .u32 0), (.int .u32 0), (.slice none 0 0), (.int .i64 0), (.string ⟨#[]⟩), (.int .i64 0), (.int .i64 0), (.slice none 0 0), (.slice none 0 0), (.slice none 0 0), (.slice none 0 0), (.string ⟨#[]⟩), (.slice none 0 0)])⟩ (.both (.one ⟨some 38,none,.eff (.s2b 5) [.tmp 37]⟩ (.one ⟨some 47,none,.mk 3 1 8 [.int .i64 0] (.tmp 46) (.tmp 46)⟩ (.one ⟨(some 48), none, (.bld [(.int .i64 0), (.int .u32 0), (.int .u32 0), (.int .u32 0), (.int .u32 0), (.int .u32 0), (.int .u32 0), (.int .u32 0), (.int .u32 0), (.int .u32 0), (.int .u32 0), (.int .u32 0), (.int .u32 0), (.int .u32 0), (.int .u32 0), (.int .u32 0), (.int .u32 0), (.slice none 0 0), (.int .i64 0), (.string ⟨#[]⟩), (.int .i64 0), (.int .i64 0), (.slice none 0 0), (.slice none 0 0), (.slice none 0 0), (.slice none 0 0), (.string ⟨#[]⟩), (.slice none 0 0)] [(0, (22, (.tmp 35))), (22, (1, (.tmp 38))), (23, (1, (.tmp 39))), (24, (1, (.tmp 40))), (25, (1, (.tmp 42))), (26, (1, (.tmp 43))), (27, (1, (.tmp 47)))])⟩ (.one ⟨none,none,.sto true 28 (.tmp 13) (.tmp 48)⟩ .done)))) (.one ⟨some 47,none,.mk 3 1 8 [.int .i64 0] (.tmp 46) (.tmp 46)⟩ (.one ⟨some 38,none,.eff (.s2b 5) [.tmp 37]⟩ (.one ⟨(some 48), none, (.bld [(.int .i64 0), (.int .u32 0), (.int .u32 0), (.int .u32 0), (.int .u32 0), (.int .u32 0), (.int .u32 0), (.int .u32 0), (.int .u32 0), (.int .u32 0), (.int .u32 0), (.int .u32 0), (.int .u32 0), (.int .u32 0), (.int .u32 0), (.int .u32 0), (.int .u32 0), (.slice none 0 0), (.int .i64 0), (.string ⟨#[]⟩), (.int .i64 0), (.int .i64 0), (.slice none 0 0), (.slice none 0 0), (.slice none 0 0), (.slice none 0 0), (.string ⟨#[]⟩), (.slice none 0 0)] [(0, (22, (.tmp 35))), (22, (1, (.tmp 38))), (23, (1, (.tmp 39))), (24, (1, (.tmp 40))), (25, (1, (.tmp 42))), (26, (1, (.tmp 43))), (27, (1, (.tmp 47)))])⟩ (.one ⟨none,none,.sto true 28 (.tmp 13) (.tmp 48)⟩ .done))))))))))))))))))))
 (.seq
 (.seq
 (.ops [
 ⟨some 14,none,.mv (.const (.int .i64 0))⟩])
 (.block 0
 (.loop
 (.seq
 (.seq
 (.ops [
 ⟨some 49,none,.mv (.tmp 14)⟩,
⟨some 50,none,.mv (.tmp 3)⟩,
⟨some 51,none,.bin .lss (.tmp 49) (.tmp 50)⟩,
⟨some 52,none,.mv (.tmp 51)⟩,
⟨some 53,some (52,true),.fad 0 true 22 (.tmp 13)⟩,
⟨some 54,some (52,true),.fad 21 false 1 (.tmp 53)⟩,
⟨some 55,some (52,true),.ld false 1 (.tmp 54)⟩,
⟨some 56,some (52,true),.bin .eql (.tmp 55) (.const (.int .i64 0))⟩,
⟨some 57,none,.pick (.tmp 52) (.tmp 56) (.const (.bool false))⟩])
 (.cond (.tmp 57)
 .skip
 (.exit 0)))
 (.seq
 (.block 1
 (.ops [
 ⟨some 60,none,.call (.func 79) [.tmp 13]⟩]))
 (.ops [
 ⟨some 58,none,.mv (.tmp 14)⟩,
⟨some 59,none,.bin .add (.tmp 58) (.const (.int .i64 1))⟩,
⟨some 14,none,.mv (.tmp 59)⟩]))))))
 (.seq
 (.ops [
 ⟨some 61,none,.fad 22 false 1 (.tmp 13)⟩,
⟨some 62,none,.ld false 1 (.tmp 61)⟩,
⟨some 63,none,.see .b2s [.tmp 62]⟩,
⟨some 64,none,.fad 0 true 22 (.tmp 13)⟩,
⟨some 65,none,.fad 19 false 1 (.tmp 64)⟩,
⟨none,none,.sto false 1 (.tmp 65) (.tmp 63)⟩])
 (.seq
 (.par false (.one ⟨some 66,none,.fad 0 true 22 (.tmp 13)⟩ (.one ⟨some 67,none,.ld true 22 (.tmp 66)⟩ (.one ⟨some 68,none,.fad 27 false 1 (.tmp 13)⟩ (.both (.one ⟨some 69,none,.ld false 1 (.tmp 68)⟩ (.one ⟨none,none,.sto true 22 (.tmp 8) (.tmp 67)⟩ (.one ⟨some 9,none,.mv (.tmp 69)⟩ .done))) (.one ⟨none,none,.sto true 22 (.tmp 8) (.tmp 67)⟩ (.one ⟨some 69,none,.ld false 1 (.tmp 68)⟩ (.one ⟨some 9,none,.mv (.tmp 69)⟩ .done))))))))
 .ret)))))))
theorem f_scref10_run : compF Try.prog 57 = some (70, c_scref10_run, [(.cell 8 true 22), (.tmp 9)]) := by kernel_rfl
def c_scref24_ends : VC :=
 (.seq
 (.ops [
 ⟨some 3,none,.box 49 (.tmp 0)⟩,
⟨some 6,none,.mv (.const (.bool false))⟩])
 (.seq
 (.seq
 (.ops [
 ⟨some 7,none,.fad 1 false 1 (.tmp 3)⟩,
⟨some 8,none,.ld false 1 (.tmp 7)⟩])
 (.block 0
 (.seq
 (.ops [
 ⟨some 10,none,.bin .eql (.tmp 8) (.const (.int .i64 1))⟩,
⟨some 9,none,.mv (.tmp 10)⟩])
 (.cond (.tmp 9)
 (.seq
 (.ops [
 ⟨some 11,none,.fad 3 false 1 (.tmp 3)⟩,
⟨some 12,none,.ld false 1 (.tmp 11)⟩,
⟨some 13,none,.mv (.tmp 1)⟩,
⟨some 14,none,.call (.func 80) [.tmp 12,.tmp 13]⟩,
⟨some 15,none,.mv (.tmp 14)⟩,
⟨some 16,some (15,true),.fad 2 false 1 (.tmp 3)⟩,
⟨some 17,some (15,true),.ld false 1 (.tmp 16)⟩,
⟨some 18,some (15,true),.bin .eql (.tmp 17) (.const (.int .i64 0))⟩,
⟨some 19,none,.pick (.tmp 15) (.tmp 18) (.const (.bool false))⟩,
⟨some 20,none,.mv (.tmp 19)⟩,
⟨some 21,some (20,true),.fad 4 false 1 (.tmp 3)⟩,
⟨some 22,some (20,true),.ld false 1 (.tmp 21)⟩,
⟨some 23,some (20,true),.bin .eql (.tmp 22) (.const (.int .i64 0))⟩,
⟨some 24,none,.pick (.tmp 20) (.tmp 23) (.const (.bool false))⟩,
⟨some 6,none,.mv (.tmp 24)⟩])
 .ret)
 (.seq
 (.ops [
 ⟨some 26,none,.bin .eql (.tmp 8) (.const (.int .i64 2))⟩,
⟨some 25,none,.mv (.tmp 26)⟩])
 (.cond (.tmp 25)
 (.seq
 (.ops [
 ⟨some 27,none,.fad 3 false 1 (.tmp 3)⟩,
⟨some 28,none,.ld false 1 (.tmp 27)⟩,
⟨some 29,none,.mv (.tmp 1)⟩,
⟨some 30,none,.call (.func 80) [.tmp 28,.tmp 29]⟩,
⟨some 31,none,.mv (.tmp 30)⟩,
⟨some 32,some (31,true),.fad 4 false 1 (.tmp 3)⟩,
⟨some 33,some (31,true),.ld false 1 (.tmp 32)⟩,
⟨some 34,some (31,true),.mv (.tmp 1)⟩,
⟨some 35,some (31,true),.call (.func 80) [.tmp 33,.tmp 34]⟩,
⟨some 36,none,.pick (.tmp 31) (.tmp 35) (.const (.bool false))⟩,
⟨some 37,none,.mv (.tmp 36)⟩,
⟨some 38,some (37,true),.fad 2 false 1 (.tmp 3)⟩,
⟨some 39,some (37,true),.ld false 1 (.tmp 38)⟩,
⟨some 40,some (37,true),.mv (.tmp 2)⟩,
⟨some 41,some (37,true),.call (.func 80) [.tmp 39,.tmp 40]⟩,
⟨some 42,none,.pick (.tmp 37) (.tmp 41) (.const (.bool false))⟩,
⟨some 6,none,.mv (.tmp 42)⟩])
 .ret)
 .skip))))))
 (.seq
 (.ops [
 ⟨some 43,none,.fad 1 false 1 (.tmp 3)⟩,
⟨some 44,none,.ld false 1 (.tmp 43)⟩,
⟨some 45,none,.bin .eql (.tmp 44) (.const (.int .i64 3))⟩,
⟨some 46,none,.mv (.tmp 45)⟩,
⟨some 47,some (46,true),.fad 2 false 1 (.tmp 3)⟩,
⟨some 48,some (46,true),.ld false 1 (.tmp 47)⟩,
⟨some 49,some (46,true),.bin .eql (.tmp 48) (.const (.int .i64 0))⟩,
⟨some 50,none,.pick (.tmp 46) (.tmp 49) (.const (.bool false))⟩,
⟨some 51,none,.mv (.tmp 50)⟩,
⟨some 52,some (51,true),.fad 3 false 1 (.tmp 3)⟩,
⟨some 53,some (51,true),.ld false 1 (.tmp 52)⟩,
⟨some 54,some (51,true),.bin .eql (.tmp 53) (.const (.int .i64 0))⟩,
⟨some 55,none,.pick (.tmp 51) (.tmp 54) (.const (.bool false))⟩,
⟨some 56,none,.mv (.tmp 55)⟩,
⟨some 57,some (56,true),.fad 4 false 1 (.tmp 3)⟩,
⟨some 58,some (56,true),.ld false 1 (.tmp 57)⟩,
⟨some 59,some (56,true),.bin .eql (.tmp 58) (.const (.int .i64 0))⟩,
⟨some 60,none,.pick (.tmp 56) (.tmp 59) (.const (.bool false))⟩,
⟨some 6,none,.mv (.tmp 60)⟩])
 .ret)))
theorem f_scref24_ends : compF Try.prog 58 = some (61, c_scref24_ends, [.tmp 6]) := by kernel_rfl
def c_scref24_fits : VC :=
 (.seq
 (.ops [
 ⟨some 4,none,.box 47 (.tmp 0)⟩,
⟨some 8,none,.mv (.const (.bool false))⟩])
 (.seq
 (.seq
 (.ops [
 ⟨some 12,none,.fad 0 false 1 (.tmp 4)⟩,
⟨some 13,none,.ld false 1 (.tmp 12)⟩,
⟨some 14,none,.bin .lss (.tmp 13) (.const (.int .i64 1))⟩,
⟨some 15,none,.mv (.tmp 14)⟩,
⟨some 16,some (15,false),.fad 0 false 1 (.tmp 4)⟩,
⟨some 17,some (15,false),.ld false 1 (.tmp 16)⟩,
⟨some 18,some (15,false),.bin .gtr (.tmp 17) (.const (.int .i64 10))⟩,
⟨some 19,none,.pick (.tmp 15) (.const (.bool true)) (.tmp 18)⟩])
 (.cond (.tmp 19)
 (.seq
 (.ops [
 ⟨some 8,none,.mv (.const (.bool false))⟩])
 .ret)
 .skip))
 (.seq
 (.ops [
 ⟨some 20,none,.fad 0 false 1 (.tmp 4)⟩,
⟨some 21,none,.ld false 1 (.tmp 20)⟩,
⟨some 22,none,.bld [.int .i64 0,.int .i64 0,.int .i64 0,.int .i64 0,.int .i64 0,.int .i64 0,.int .i64 0,.int .u32 0] [(0, (1, (.tmp 21)))]⟩,
⟨some 9,none,.alc 47 [.int .i64 0,.int .i64 0,.int .i64 0,.int .i64 0,.int .i64 0,.int .i64 0,.int .i64 0,.int .u32 0]⟩,
⟨none,none,.sto true 8 (.tmp 9) (.tmp 22)⟩])
 (.seq
 (.seq
 (.ops [
 ⟨some 23,none,.ld true 8 (.tmp 4)⟩,
⟨some 24,none,.call (.func 68) [.tmp 23]⟩,
⟨some 25,none,.bin .geq (.tmp 24) (.const (.int .i64 0))⟩,
⟨some 26,none,.mv (.tmp 25)⟩,
⟨some 27,some (26,false),.fad 0 false 1 (.tmp 4)⟩,
⟨some 28,some (26,false),.ld false 1 (.tmp 27)⟩,
⟨some 29,some (26,false),.bin .eql (.tmp 28) (.const (.int .i64 1))⟩,
⟨some 30,none,.pick (.tmp 26) (.const (.bool true)) (.tmp 29)⟩,
⟨some 31,none,.mv (.tmp 30)⟩,
⟨some 32,some (31,false),.fad 0 false 1 (.tmp 4)⟩,
⟨some 33,some (31,false),.ld false 1 (.tmp 32)⟩,
⟨some 34,some (31,false),.bin .eql (.tmp 33) (.const (.int .i64 2))⟩,
⟨some 35,none,.pick (.tmp 31) (.const (.bool true)) (.tmp 34)⟩,
⟨some 36,none,.mv (.tmp 35)⟩,
⟨some 37,some (36,false),.fad 0 false 1 (.tmp 4)⟩,
⟨some 38,some (36,false),.ld false 1 (.tmp 37)⟩,
⟨some 39,some (36,false),.bin .eql (.tmp 38) (.const (.int .i64 3))⟩,
⟨some 40,none,.pick (.tmp 36) (.const (.bool true)) (.tmp 39)⟩,
⟨some 41,none,.mv (.tmp 40)⟩,
⟨some 42,some (41,false),.fad 0 false 1 (.tmp 4)⟩,
⟨some 43,some (41,false),.ld false 1 (.tmp 42)⟩,
⟨some 44,some (41,false),.bin .eql (.tmp 43) (.const (.int .i64 4))⟩,
⟨some 45,none,.pick (.tmp 41) (.const (.bool true)) (.tmp 44)⟩,
⟨some 46,none,.mv (.tmp 45)⟩,
⟨some 47,some (46,false),.fad 0 false 1 (.tmp 4)⟩,
⟨some 48,some (46,false),.ld false 1 (.tmp 47)⟩,
⟨some 49,some (46,false),.bin .eql (.tmp 48) (.const (.int .i64 6))⟩,
⟨some 50,none,.pick (.tmp 46) (.const (.bool true)) (.tmp 49)⟩,
⟨some 51,none,.mv (.tmp 50)⟩,
⟨some 52,some (51,false),.fad 0 false 1 (.tmp 4)⟩,
⟨some 53,some (51,false),.ld false 1 (.tmp 52)⟩,
⟨some 54,some (51,false),.bin .eql (.tmp 53) (.const (.int .i64 8))⟩,
⟨some 55,none,.pick (.tmp 51) (.const (.bool true)) (.tmp 54)⟩])
 (.cond (.tmp 55)
 (.seq
 (.ops [
 ⟨some 56,none,.fad 1 false 1 (.tmp 4)⟩,
⟨some 57,none,.ld false 1 (.tmp 56)⟩,
⟨some 58,none,.fad 1 false 1 (.tmp 9)⟩,
⟨none,none,.sto false 1 (.tmp 58) (.tmp 57)⟩])
 (.seq
 (.ops [
 ⟨some 59,none,.fad 1 false 1 (.tmp 4)⟩,
⟨some 60,none,.ld false 1 (.tmp 59)⟩,
⟨some 61,none,.mv (.tmp 2)⟩,
⟨some 62,none,.call (.func 80) [.tmp 60,.tmp 61]⟩,
⟨some 63,none,.un .not (.tmp 62)⟩])
 (.cond (.tmp 63)
 (.seq
 (.ops [
 ⟨some 8,none,.mv (.const (.bool false))⟩])
 .ret)
 .skip)))
 .skip))
 (.seq
 (.ops [
 ⟨some 64,none,.ld true 8 (.tmp 4)⟩,
⟨some 65,none,.call (.func 69) [.tmp 64]⟩,
⟨some 10,none,.mv (.tmp 65)⟩])
 (.seq
 (.seq
 (.ops [
 ⟨some 11,none,.mv (.const (.int .i64 0))⟩])
 (.block 0
 (.loop
 (.seq
 (.seq
 (.ops [
 ⟨some 66,none,.mv (.tmp 11)⟩,
⟨some 67,none,.mv (.tmp 10)⟩,
⟨some 68,none,.len (.tmp 67)⟩,
⟨some 69,none,.bin .lss (.tmp 66) (.tmp 68)⟩])
 (.cond (.tmp 69)
 .skip
 (.exit 0)))
 (.seq
 (.block 1
 (.seq
 (.ops [
 ⟨some 72,none,.mv (.tmp 10)⟩,
⟨some 73,none,.mv (.tmp 11)⟩,
⟨some 74,none,.idx 1 (.tmp 72) (.tmp 73)⟩,
⟨some 75,none,.ld false 1 (.tmp 74)⟩,
⟨some 76,none,.mv (.tmp 2)⟩,
⟨some 77,none,.call (.func 80) [.tmp 75,.tmp 76]⟩,
⟨some 78,none,.un .not (.tmp 77)⟩])
 (.cond (.tmp 78)
 (.seq
 (.ops [
 ⟨some 8,none,.mv (.const (.bool false))⟩])
 .ret)
 .skip)))
 (.ops [
 ⟨some 70,none,.mv (.tmp 11)⟩,
⟨some 71,none,.bin .add (.tmp 70) (.const (.int .i64 1))⟩,
⟨some 11,none,.mv (.tmp 71)⟩]))))))
 (.seq
 (.seq
 (.ops [
 ⟨some 79,none,.mv (.tmp 10)⟩,
⟨some 80,none,.len (.tmp 79)⟩,
⟨some 81,none,.bin .gtr (.tmp 80) (.const (.int .i64 0))⟩])
 (.cond (.tmp 81)
 (.ops [
 ⟨some 82,none,.fad 2 false 1 (.tmp 4)⟩,
⟨some 83,none,.ld false 1 (.tmp 82)⟩,
⟨some 84,none,.fad 2 false 1 (.tmp 9)⟩,
⟨none,none,.sto false 1 (.tmp 84) (.tmp 83)⟩])
 .skip))
 (.seq
 (.seq
 (.ops [
 ⟨some 85,none,.mv (.tmp 10)⟩,
⟨some 86,none,.len (.tmp 85)⟩,
⟨some 87,none,.bin .gtr (.tmp 86) (.const (.int .i64 1))⟩])
 (.cond (.tmp 87)
 (.ops [
 ⟨some 88,none,.fad 3 false 1 (.tmp 4)⟩,
⟨some 89,none,.ld false 1 (.tmp 88)⟩,
⟨some 90,none,.fad 3 false 1 (.tmp 9)⟩,
⟨none,none,.sto false 1 (.tmp 90) (.tmp 89)⟩])
 .skip))
 (.seq
 (.seq
 (.ops [
 ⟨some 91,none,.fad 0 false 1 (.tmp 4)⟩,
⟨some 92,none,.ld false 1 (.tmp 91)⟩])
 (.block 2
 (.seq
 (.ops [
 ⟨some 94,none,.bin .eql (.tmp 92) (.const (.int .i64 1))⟩,
⟨some 93,none,.mv (.tmp 94)⟩])
 (.cond (.tmp 93)
 (.ops [
 ⟨some 95,none,.fad 7 false 1 (.tmp 4)⟩,
⟨some 96,none,.ld false 1 (.tmp 95)⟩,
⟨some 97,none,.fad 7 false 1 (.tmp 9)⟩,
⟨none,none,.sto false 1 (.tmp 97) (.tmp 96)⟩])
 (.seq
 (.ops [
 ⟨some 99,none,.bin .eql (.tmp 92) (.const (.int .i64 3))⟩,
⟨some 98,none,.mv (.tmp 99)⟩])
 (.cond (.tmp 98)
 (.seq
 (.ops [
 ⟨some 100,none,.fad 4 false 1 (.tmp 4)⟩,
⟨some 101,none,.ld false 1 (.tmp 100)⟩,
⟨some 102,none,.fad 4 false 1 (.tmp 9)⟩,
⟨none,none,.sto false 1 (.tmp 102) (.tmp 101)⟩])
 (.seq
 (.ops [
 ⟨some 103,none,.fad 4 false 1 (.tmp 4)⟩,
⟨some 104,none,.ld false 1 (.tmp 103)⟩,
⟨some 105,none,.bin .lss (.tmp 104) (.const (.int .i64 4))⟩,
⟨some 106,none,.mv (.tmp 105)⟩,
⟨some 107,some (106,false),.fad 4 false 1 (.tmp 4)⟩,
⟨some 108,some (106,false),.ld false 1 (.tmp 107)⟩,
⟨some 109,some (106,false),.bin .gtr (.tmp 108) (.const (.int .i64 15))⟩,
⟨some 110,none,.pick (.tmp 106) (.const (.bool true)) (.tmp 109)⟩])
 (.cond (.tmp 110)
 (.seq
 (.ops [
 ⟨some 8,none,.mv (.const (.bool false))⟩])
 .ret)
 .skip)))
 (.seq
 (.seq
 (.ops [
 ⟨some 112,none,.bin .eql (.tmp 92) (.const (.int .i64 4))⟩,
⟨some 111,none,.mv (.tmp 112)⟩])
 (.cond (.tmp 111)
 .skip
 (.ops [
 ⟨some 113,none,.bin .eql (.tmp 92) (.const (.int .i64 5))⟩,
⟨some 111,none,.mv (.tmp 113)⟩])))
 (.cond (.tmp 111)
 (.seq
 (.ops [
 ⟨some 114,none,.fad 5 false 1 (.tmp 4)⟩,
⟨some 115,none,.ld false 1 (.tmp 114)⟩,
⟨some 116,none,.fad 5 false 1 (.tmp 9)⟩,
⟨none,none,.sto false 1 (.tmp 116) (.tmp 115)⟩])
 (.seq
 (.ops [
 ⟨some 117,none,.fad 5 false 1 (.tmp 4)⟩,
⟨some 118,none,.ld false 1 (.tmp 117)⟩,
⟨some 119,none,.mv (.tmp 3)⟩,
⟨some 120,none,.call (.func 80) [.tmp 118,.tmp 119]⟩,
⟨some 121,none,.un .not (.tmp 120)⟩])
 (.cond (.tmp 121)
 (.seq
 (.ops [
 ⟨some 8,none,.mv (.const (.bool false))⟩])
 .ret)
 .skip)))
 (.seq
 (.seq
 (.ops [
 ⟨some 123,none,.bin .eql (.tmp 92) (.const (.int .i64 6))⟩,
⟨some 122,none,.mv (.tmp 123)⟩])
 (.cond (.tmp 122)
 .skip
 (.ops [
 ⟨some 124,none,.bin .eql (.tmp 92) (.const (.int .i64 7))⟩,
⟨some 122,none,.mv (.tmp 124)⟩])))
 (.cond (.tmp 122)
 (.seq
 (.par false (.one ⟨some 125,none,.fad 5 false 1 (.tmp 4)⟩ (.one ⟨some 126,none,.ld false 1 (.tmp 125)⟩ (.one ⟨some 127,none,.fad 6 false 1 (.tmp 4)⟩ (.one ⟨some 129,none,.fad 5 false 1 (.tmp 9)⟩ (.both (.one ⟨some 128,none,.ld false 1 (.tmp 127)⟩ (.one ⟨none,none,.sto false 1 (.tmp 129) (.tmp 126)⟩ (.one ⟨some 130,none,.fad 6 false 1 (.tmp 9)⟩ (.one ⟨none,none,.sto false 1 (.tmp 130) (.tmp 128)⟩ .done)))) (.one ⟨none,none,.sto false 1 (.tmp 129) (.tmp 126)⟩ (.one ⟨some 128,none,.ld false 1 (.tmp 127)⟩ (.one ⟨some 130,none,.fad 6 false 1 (.tmp 9)⟩ (.one ⟨none,none,.sto false 1 (.tmp 130) (.tmp 128)⟩ .done))))))))))
 (.seq
 (.ops [
 ⟨some 131,none,.fad 6 false 1 (.tmp 4)⟩,
⟨some 132,none,.ld false 1 (.tmp 131)⟩,
⟨some 133,none,.bin .lss (.tmp 132) (.const (.int .i64 1))⟩,
⟨some 134,none,.mv (.tmp 133)⟩,
⟨some 135,some (134,false),.fad 6 false 1 (.tmp 4)⟩,
⟨some 136,some (134,false),.ld false 1 (.tmp 135)⟩,
⟨some 137,some (134,false),.bin .gtr (.tmp 136) (.const (.int .i64 4096))⟩,
⟨some 138,none,.pick (.tmp 134) (.const (.bool true)) (.tmp 137)⟩,
⟨some 139,none,.mv (.tmp 138)⟩,
⟨some 140,some (139,false),.fad 5 false 1 (.tmp 4)⟩,
⟨some 141,some (139,false),.ld false 1 (.tmp 140)⟩,
⟨some 142,some (139,false),.bin .lss (.tmp 141) (.const (.int .i64 0))⟩,
⟨some 143,none,.pick (.tmp 139) (.const (.bool true)) (.tmp 142)⟩,
⟨some 144,none,.mv (.tmp 143)⟩,
⟨some 145,some (144,false),.fad 5 false 1 (.tmp 4)⟩,
⟨some 146,some (144,false),.ld false 1 (.tmp 145)⟩,
⟨some 147,some (144,false),.mv (.tmp 3)⟩,
⟨some 148,some (144,false),.fad 6 false 1 (.tmp 4)⟩,
⟨some 149,some (144,false),.ld false 1 (.tmp 148)⟩,
⟨some 150,some (144,false),.bin .sub (.tmp 147) (.tmp 149)⟩,
⟨some 151,some (144,false),.bin .gtr (.tmp 146) (.tmp 150)⟩,
⟨some 152,none,.pick (.tmp 144) (.const (.bool true)) (.tmp 151)⟩])
 (.cond (.tmp 152)
 (.seq
 (.ops [
 ⟨some 8,none,.mv (.const (.bool false))⟩])
 .ret)
 .skip)))
 (.seq
 (.ops [
 ⟨some 154,none,.bin .eql (.tmp 92) (.const (.int .i64 10))⟩,
⟨some 153,none,.mv (.tmp 154)⟩])
 (.cond (.tmp 153)
 (.seq
 (.ops [
 ⟨some 155,none,.fad 5 false 1 (.tmp 4)⟩,
⟨some 156,none,.ld false 1 (.tmp 155)⟩,
⟨some 157,none,.fad 5 false 1 (.tmp 9)⟩,
⟨none,none,.sto false 1 (.tmp 157) (.tmp 156)⟩])
 (.seq
 (.ops [
 ⟨some 158,none,.fad 5 false 1 (.tmp 4)⟩,
⟨some 159,none,.ld false 1 (.tmp 158)⟩,
⟨some 160,none,.mv (.tmp 1)⟩,
⟨some 161,none,.call (.func 80) [.tmp 159,.tmp 160]⟩,
⟨some 162,none,.un .not (.tmp 161)⟩])
 (.cond (.tmp 162)
 (.seq
 (.ops [
 ⟨some 8,none,.mv (.const (.bool false))⟩])
 .ret)
 .skip)))
 .skip))))))))))))
 (.seq
 (.ops [
 ⟨some 163,none,.ld true 8 (.tmp 4)⟩,
⟨some 164,none,.ld true 8 (.tmp 9)⟩,
⟨some 165,none,.pur (.eqv false [.int, .int, .int, .int, .int, .int, .int, .int]) [.tmp 163,.tmp 164]⟩,
⟨some 8,none,.mv (.tmp 165)⟩])
 .ret))))))))))
theorem f_scref24_fits : compF Try.prog 59 = some (166, c_scref24_fits, [.tmp 8]) := by kernel_rfl
def c_scref27_Check : VC :=
 (.seq
 (.ops [
 ⟨some 2,none,.box 52 (.tmp 0)⟩,
⟨some 3,none,.box 63 (.tmp 1)⟩,
⟨some 4,none,.mv (.const (.bool false))⟩])
 (.seq
 (.seq
 (.ops [
 ⟨some 8,none,.ld true 2 (.tmp 2)⟩,
⟨some 9,none,.ld true 2 (.tmp 3)⟩,
⟨some 10,none,.call (.func 81) [.tmp 8,.tmp 9]⟩,
⟨some 11,none,.un .not (.tmp 10)⟩])
 (.cond (.tmp 11)
 (.seq
 (.ops [
 ⟨some 4,none,.mv (.const (.bool false))⟩])
 .ret)
 .skip))
 (.seq
 (.ops [
 ⟨some 12,none,.ld true 2 (.tmp 2)⟩,
⟨some 13,none,.call (.func 46) [.tmp 12]⟩,
⟨some 5,none,.mv (.tmp 13)⟩])
 (.seq
 (.seq
 (.ops [
 ⟨some 6,none,.mv (.const (.int .i64 0))⟩])
 (.block 0
 (.loop
 (.seq
 (.seq
 (.ops [
 ⟨some 14,none,.mv (.tmp 6)⟩,
⟨some 15,none,.fad 1 false 1 (.tmp 2)⟩,
⟨some 16,none,.ld false 1 (.tmp 15)⟩,
⟨some 17,none,.len (.tmp 16)⟩,
⟨some 18,none,.bin .lss (.tmp 14) (.tmp 17)⟩])
 (.cond (.tmp 18)
 .skip
 (.exit 0)))
 (.seq
 (.block 1
 (.seq
 (.seq
 (.ops [
 ⟨some 7,none,.mv (.const (.int .i64 0))⟩])
 (.block 2
 (.loop
 (.seq
 (.seq
 (.ops [
 ⟨some 21,none,.mv (.tmp 7)⟩,
⟨some 22,none,.mv (.tmp 5)⟩,
⟨some 23,none,.mv (.tmp 6)⟩,
⟨some 24,none,.idx 1 (.tmp 22) (.tmp 23)⟩,
⟨some 25,none,.ld false 1 (.tmp 24)⟩,
⟨some 26,none,.len (.tmp 25)⟩,
⟨some 27,none,.bin .lss (.tmp 21) (.tmp 26)⟩])
 (.cond (.tmp 27)
 .skip
 (.exit 2)))
 (.seq
 (.block 3
 (.seq
 (.ops [
 ⟨some 30,none,.fad 0 false 1 (.tmp 3)⟩,
⟨some 31,none,.ld false 1 (.tmp 30)⟩,
⟨some 32,none,.mv (.tmp 5)⟩,
⟨some 33,none,.mv (.tmp 6)⟩,
⟨some 34,none,.idx 1 (.tmp 32) (.tmp 33)⟩,
⟨some 35,none,.ld false 1 (.tmp 34)⟩,
⟨some 36,none,.mv (.tmp 7)⟩,
⟨some 37,none,.idx 1 (.tmp 35) (.tmp 36)⟩,
⟨some 38,none,.ld false 1 (.tmp 37)⟩,
⟨some 39,none,.idx 1 (.tmp 31) (.tmp 38)⟩,
⟨some 40,none,.ld false 1 (.tmp 39)⟩,
⟨some 41,none,.fad 1 false 1 (.tmp 3)⟩,
⟨some 42,none,.ld false 1 (.tmp 41)⟩,
⟨some 43,none,.mv (.tmp 6)⟩,
⟨some 44,none,.idx 1 (.tmp 42) (.tmp 43)⟩,
⟨some 45,none,.ld false 1 (.tmp 44)⟩,
⟨some 46,none,.call (.func 67) [.tmp 40,.tmp 45]⟩,
⟨some 47,none,.un .not (.tmp 46)⟩])
 (.cond (.tmp 47)
 (.seq
 (.ops [
 ⟨some 4,none,.mv (.const (.bool false))⟩])
 .ret)
 .skip)))
 (.ops [
 ⟨some 28,none,.mv (.tmp 7)⟩,
⟨some 29,none,.bin .add (.tmp 28) (.const (.int .i64 1))⟩,
⟨some 7,none,.mv (.tmp 29)⟩]))))))
 (.seq
 (.par false (.one ⟨some 48,none,.fad 1 false 1 (.tmp 2)⟩ (.one ⟨some 49,none,.ld false 1 (.tmp 48)⟩ (.one ⟨some 50,none,.mv (.tmp 6)⟩ (.one ⟨some 51,none,.idx 5 (.tmp 49) (.tmp 50)⟩ (.one ⟨some 52,none,.ld true 5 (.tmp 51)⟩ (.one ⟨some 53,none,.fad 1 false 1 (.tmp 3)⟩ (.one ⟨some 54,none,.ld false 1 (.tmp 53)⟩ (.one ⟨some 55,none,.mv (.tmp 6)⟩ (.one ⟨some 56,none,.idx 1 (.tmp 54) (.tmp 55)⟩ (.one ⟨some 57,none,.ld false 1 (.tmp 56)⟩ (.one ⟨some 58,none,.call (.func 47) [.tmp 52,.tmp 57]⟩ (.one ⟨some 59,none,.fad 0 false 1 (.tmp 3)⟩ (.one ⟨some 60,none,.ld false 1 (.tmp 59)⟩ (.one ⟨some 61,none,.mv (.tmp 6)⟩ (.one ⟨some 62,none,.idx 1 (.tmp 60) (.tmp 61)⟩ (.one ⟨some 63,none,.ld false 1 (.tmp 62)⟩ (.one ⟨some 64,none,.call (.func 67) [.tmp 58,.tmp 63]⟩ (.one ⟨some 65,none,.un .not (.tmp 64)⟩ .done)))))))))))))))))))
 (.cond (.tmp 65)
 (.seq
 (.ops [
 ⟨some 4,none,.mv (.const (.bool false))⟩])
 .ret)
 .skip))))
 (.ops [
 ⟨some 19,none,.mv (.tmp 6)⟩,
⟨some 20,none,.bin .add (.tmp 19) (.const (.int .i64 1))⟩,
⟨some 6,none,.mv (.tmp 20)⟩]))))))
 (.seq
 (.ops [
 ⟨some 4,none,.mv (.const (.bool true))⟩])
 .ret)))))
theorem f_scref27_Check : compF Try.prog 60 = some (66, c_scref27_Check, [.tmp 4]) := by kernel_rfl
def c_scref28_places : VC :=
 (.seq
 (.ops [
 ⟨some 3,none,.box 55 (.tmp 0)⟩,
⟨some 6,none,.mv (.const (.bool false))⟩])
 (.seq
 (.seq
 (.ops [
 ⟨some 9,none,.fad 0 false 1 (.tmp 3)⟩,
⟨some 10,none,.ld false 1 (.tmp 9)⟩,
⟨some 11,none,.len (.tmp 10)⟩,
⟨some 12,none,.mv (.tmp 1)⟩,
⟨some 13,none,.bin .neq (.tmp 11) (.tmp 12)⟩])
 (.cond (.tmp 13)
 (.seq
 (.ops [
 ⟨some 6,none,.mv (.const (.bool false))⟩])
 .ret)
 .skip))
 (.seq
 (.seq
 (.ops [
 ⟨some 7,none,.mv (.const (.int .i64 0))⟩])
 (.block 0
 (.loop
 (.seq
 (.seq
 (.ops [
 ⟨some 14,none,.mv (.tmp 7)⟩,
⟨some 15,none,.fad 0 false 1 (.tmp 3)⟩,
⟨some 16,none,.ld false 1 (.tmp 15)⟩,
⟨some 17,none,.len (.tmp 16)⟩,
⟨some 18,none,.bin .lss (.tmp 14) (.tmp 17)⟩])
 (.cond (.tmp 18)
 .skip
 (.exit 0)))
 (.seq
 (.block 1
 (.seq
 (.ops [
 ⟨some 21,none,.fad 0 false 1 (.tmp 3)⟩,
⟨some 22,none,.ld false 1 (.tmp 21)⟩,
⟨some 23,none,.mv (.tmp 7)⟩,
⟨some 24,none,.idx 1 (.tmp 22) (.tmp 23)⟩,
⟨some 25,none,.ld false 1 (.tmp 24)⟩,
⟨some 8,none,.mv (.tmp 25)⟩])
 (.seq
 (.ops [
 ⟨some 26,none,.mv (.tmp 8)⟩,
⟨some 27,none,.bin .lss (.tmp 26) (.const (.int .i64 (-4000)))⟩,
⟨some 28,none,.mv (.tmp 27)⟩,
⟨some 29,some (28,false),.mv (.tmp 8)⟩,
⟨some 30,some (28,false),.bin .eql (.tmp 29) (.const (.int .i64 0))⟩,
⟨some 31,none,.pick (.tmp 28) (.const (.bool true)) (.tmp 30)⟩,
⟨some 32,none,.mv (.tmp 31)⟩,
⟨some 33,some (32,false),.mv (.tmp 8)⟩,
⟨some 34,some (32,false),.bin .gtr (.tmp 33) (.const (.int .i64 0))⟩,
⟨some 35,some (32,false),.mv (.tmp 34)⟩,
⟨some 36,some (35,true),.mv (.tmp 8)⟩,
⟨some 37,some (35,true),.mv (.tmp 2)⟩,
⟨some 38,some (35,true),.bin .gtr (.tmp 36) (.tmp 37)⟩,
⟨some 39,some (32,false),.pick (.tmp 35) (.tmp 38) (.const (.bool false))⟩,
⟨some 40,none,.pick (.tmp 32) (.const (.bool true)) (.tmp 39)⟩])
 (.cond (.tmp 40)
 (.seq
 (.ops [
 ⟨some 6,none,.mv (.const (.bool false))⟩])
 .ret)
 .skip))))
 (.ops [
 ⟨some 19,none,.mv (.tmp 7)⟩,
⟨some 20,none,.bin .add (.tmp 19) (.const (.int .i64 1))⟩,
⟨some 7,none,.mv (.tmp 20)⟩]))))))
 (.seq
 (.ops [
 ⟨some 6,none,.mv (.const (.bool true))⟩])
 .ret))))
theorem f_scref28_places : compF Try.prog 61 = some (41, c_scref28_places, [.tmp 6]) := by kernel_rfl
def c_scref28_apart : VC :=
 (.seq
 (.ops [
 ⟨some 2,none,.box 55 (.tmp 0)⟩,
⟨some 4,none,.mv (.const (.bool false))⟩])
 (.seq
 (.seq
 (.ops [
 ⟨some 5,none,.mv (.const (.int .i64 0))⟩])
 (.block 0
 (.loop
 (.seq
 (.seq
 (.ops [
 ⟨some 7,none,.mv (.tmp 5)⟩,
⟨some 8,none,.mv (.tmp 1)⟩,
⟨some 9,none,.len (.tmp 8)⟩,
⟨some 10,none,.bin .lss (.tmp 7) (.tmp 9)⟩])
 (.cond (.tmp 10)
 .skip
 (.exit 0)))
 (.seq
 (.block 1
 (.seq
 (.ops [
 ⟨some 6,none,.mv (.const (.int .i64 0))⟩])
 (.block 2
 (.loop
 (.seq
 (.seq
 (.ops [
 ⟨some 13,none,.mv (.tmp 6)⟩,
⟨some 14,none,.mv (.tmp 5)⟩,
⟨some 15,none,.bin .lss (.tmp 13) (.tmp 14)⟩])
 (.cond (.tmp 15)
 .skip
 (.exit 2)))
 (.seq
 (.block 3
 (.seq
 (.ops [
 ⟨some 18,none,.mv (.tmp 1)⟩,
⟨some 19,none,.mv (.tmp 5)⟩,
⟨some 20,none,.idx 1 (.tmp 18) (.tmp 19)⟩,
⟨some 21,none,.ld false 1 (.tmp 20)⟩,
⟨some 22,none,.mv (.tmp 21)⟩,
⟨some 23,some (22,true),.mv (.tmp 1)⟩,
⟨some 24,some (22,true),.mv (.tmp 6)⟩,
⟨some 25,some (22,true),.idx 1 (.tmp 23) (.tmp 24)⟩,
⟨some 26,some (22,true),.ld false 1 (.tmp 25)⟩,
⟨some 27,none,.pick (.tmp 22) (.tmp 26) (.const (.bool false))⟩,
⟨some 28,none,.mv (.tmp 27)⟩,
⟨some 29,some (28,true),.fad 0 false 1 (.tmp 2)⟩,
⟨some 30,some (28,true),.ld false 1 (.tmp 29)⟩,
⟨some 31,some (28,true),.mv (.tmp 5)⟩,
⟨some 32,some (28,true),.idx 1 (.tmp 30) (.tmp 31)⟩,
⟨some 33,some (28,true),.ld false 1 (.tmp 32)⟩,
⟨some 34,some (28,true),.fad 0 false 1 (.tmp 2)⟩,
⟨some 35,some (28,true),.ld false 1 (.tmp 34)⟩,
⟨some 36,some (28,true),.mv (.tmp 6)⟩,
⟨some 37,some (28,true),.idx 1 (.tmp 35) (.tmp 36)⟩,
⟨some 38,some (28,true),.ld false 1 (.tmp 37)⟩,
⟨some 39,some (28,true),.bin .eql (.tmp 33) (.tmp 38)⟩,
⟨some 40,none,.pick (.tmp 28) (.tmp 39) (.const (.bool false))⟩])
 (.cond (.tmp 40)
 (.seq
 (.ops [
 ⟨some 4,none,.mv (.const (.bool false))⟩])
 .ret)
 .skip)))
 (.ops [
 ⟨some 16,none,.mv (.tmp 6)⟩,
⟨some 17,none,.bin .add (.tmp 16) (.const (.int .i64 1))⟩,
⟨some 6,none,.mv (.tmp 17)⟩])))))))
 (.ops [
 ⟨some 11,none,.mv (.tmp 5)⟩,
⟨some 12,none,.bin .add (.tmp 11) (.const (.int .i64 1))⟩,
⟨some 5,none,.mv (.tmp 12)⟩]))))))
 (.seq
 (.ops [
 ⟨some 4,none,.mv (.const (.bool true))⟩])
 .ret)))
theorem f_scref28_apart : compF Try.prog 62 = some (41, c_scref28_apart, [.tmp 4]) := by kernel_rfl
def c_scref28_one : VC :=
 (.seq
 (.ops [
 ⟨some 3,none,.box 47 (.tmp 0)⟩,
⟨some 4,none,.box 55 (.tmp 1)⟩,
⟨some 6,none,.mv (.const (.bool false))⟩])
 (.seq
 (.ops [
 ⟨some 9,none,.ld true 8 (.tmp 3)⟩,
⟨some 10,none,.call (.func 68) [.tmp 9]⟩,
⟨some 7,none,.mv (.tmp 10)⟩])
 (.seq
 (.seq
 (.ops [
 ⟨some 8,none,.mv (.const (.int .i64 0))⟩])
 (.block 0
 (.loop
 (.seq
 (.seq
 (.ops [
 ⟨some 11,none,.mv (.tmp 8)⟩,
⟨some 12,none,.mv (.tmp 2)⟩,
⟨some 13,none,.len (.tmp 12)⟩,
⟨some 14,none,.bin .lss (.tmp 11) (.tmp 13)⟩])
 (.cond (.tmp 14)
 .skip
 (.exit 0)))
 (.seq
 (.block 1
 (.seq
 (.seq
 (.ops [
 ⟨some 17,none,.mv (.tmp 2)⟩,
⟨some 18,none,.mv (.tmp 8)⟩,
⟨some 19,none,.idx 1 (.tmp 17) (.tmp 18)⟩,
⟨some 20,none,.ld false 1 (.tmp 19)⟩,
⟨some 21,none,.un .not (.tmp 20)⟩])
 (.cond (.tmp 21)
 (.exit 1)
 .skip))
 (.seq
 (.ops [
 ⟨some 22,none,.mv (.tmp 7)⟩,
⟨some 23,none,.bin .geq (.tmp 22) (.const (.int .i64 0))⟩,
⟨some 24,none,.mv (.tmp 23)⟩,
⟨some 25,some (24,true),.mv (.tmp 8)⟩,
⟨some 26,some (24,true),.mv (.tmp 7)⟩,
⟨some 27,some (24,true),.bin .neq (.tmp 25) (.tmp 26)⟩,
⟨some 28,none,.pick (.tmp 24) (.tmp 27) (.const (.bool false))⟩,
⟨some 29,none,.mv (.tmp 28)⟩,
⟨some 30,some (29,true),.fad 0 false 1 (.tmp 4)⟩,
⟨some 31,some (29,true),.ld false 1 (.tmp 30)⟩,
⟨some 32,some (29,true),.mv (.tmp 8)⟩,
⟨some 33,some (29,true),.idx 1 (.tmp 31) (.tmp 32)⟩,
⟨some 34,some (29,true),.ld false 1 (.tmp 33)⟩,
⟨some 35,some (29,true),.fad 0 false 1 (.tmp 4)⟩,
⟨some 36,some (29,true),.ld false 1 (.tmp 35)⟩,
⟨some 37,some (29,true),.mv (.tmp 7)⟩,
⟨some 38,some (29,true),.idx 1 (.tmp 36) (.tmp 37)⟩,
⟨some 39,some (29,true),.ld false 1 (.tmp 38)⟩,
⟨some 40,some (29,true),.bin .eql (.tmp 34) (.tmp 39)⟩,
⟨some 41,none,.pick (.tmp 29) (.tmp 40) (.const (.bool false))⟩,
⟨some 42,none,.mv (.tmp 41)⟩,
⟨some 43,some (42,false),.fad 0 false 1 (.tmp 3)⟩,
⟨some 44,some (42,false),.ld false 1 (.tmp 43)⟩,
⟨some 45,some (42,false),.bin .eql (.tmp 44) (.const (.int .i64 10))⟩,
⟨some 46,some (42,false),.mv (.tmp 45)⟩,
⟨some 47,some (46,true),.fad 0 false 1 (.tmp 4)⟩,
⟨some 48,some (46,true),.ld false 1 (.tmp 47)⟩,
⟨some 49,some (46,true),.mv (.tmp 8)⟩,
⟨some 50,some (46,true),.idx 1 (.tmp 48) (.tmp 49)⟩,
⟨some 51,some (46,true),.ld false 1 (.tmp 50)⟩,
⟨some 52,some (46,true),.bin .gtr (.tmp 51) (.const (.int .i64 0))⟩,
⟨some 53,some (42,false),.pick (.tmp 46) (.tmp 52) (.const (.bool false))⟩,
⟨some 54,none,.pick (.tmp 42) (.const (.bool true)) (.tmp 53)⟩])
 (.cond (.tmp 54)
 (.seq
 (.ops [
 ⟨some 6,none,.mv (.const (.bool false))⟩])
 .ret)
 .skip))))
 (.ops [
 ⟨some 15,none,.mv (.tmp 8)⟩,
⟨some 16,none,.bin .add (.tmp 15) (.const (.int .i64 1))⟩,
⟨some 8,none,.mv (.tmp 16)⟩]))))))
 (.seq
 (.ops [
 ⟨some 6,none,.mv (.const (.bool true))⟩])
 .ret))))
theorem f_scref28_one : compF Try.prog 63 = some (55, c_scref28_one, [.tmp 6]) := by kernel_rfl
def c_flow_Next : VC :=
 (.seq
 (.ops [
 ⟨some 1,none,.box 52 (.tmp 0)⟩,
⟨some 2,none,.mv (.const (.slice none 0 0))⟩])
 (.seq
 (.ops [
 ⟨some 6,none,.fad 1 false 1 (.tmp 1)⟩,
⟨some 7,none,.ld false 1 (.tmp 6)⟩,
⟨some 8,none,.len (.tmp 7)⟩,
⟨some 9,none,.mk 53 1 24 [.slice none 0 0] (.tmp 8) (.tmp 8)⟩,
⟨some 3,none,.mv (.tmp 9)⟩])
 (.seq
 (.seq
 (.ops [
 ⟨some 10,none,.fad 1 false 1 (.tmp 1)⟩,
⟨some 11,none,.ld false 1 (.tmp 10)⟩,
⟨some 12,none,.len (.tmp 11)⟩,
⟨some 13,none,.mv (.const (.int .i64 0))⟩])
 (.block 0
 (.loop
 (.seq
 (.ops [
 ⟨some 14,none,.bin .lss (.tmp 13) (.tmp 12)⟩])
 (.seq
 (.cond (.tmp 14)
 .skip
 (.exit 0))
 (.seq
 (.block 1
 (.seq
 (.ops [
 ⟨some 15,none,.mv (.tmp 13)⟩,
⟨some 16,none,.idx 5 (.tmp 11) (.tmp 13)⟩,
⟨some 17,none,.ld true 5 (.tmp 16)⟩,
⟨some 5,none,.alc 49 [.slice none 0 0,.int .i64 0,.int .i64 0,.int .i64 0,.int .i64 0]⟩,
⟨some 4,none,.mv (.tmp 15)⟩,
⟨none,none,.sto true 5 (.tmp 5) (.tmp 17)⟩])
 (.seq
 (.ops [
 ⟨some 18,none,.fad 1 false 1 (.tmp 5)⟩,
⟨some 19,none,.ld false 1 (.tmp 18)⟩])
 (.block 2
 (.seq
 (.ops [
 ⟨some 21,none,.bin .eql (.tmp 19) (.const (.int .i64 1))⟩,
⟨some 20,none,.mv (.tmp 21)⟩])
 (.cond (.tmp 20)
 (.ops [
 ⟨some 22,none,.mv (.tmp 3)⟩,
⟨some 23,none,.mv (.tmp 4)⟩,
⟨some 24,none,.fad 3 false 1 (.tmp 5)⟩,
⟨some 25,none,.ld false 1 (.tmp 24)⟩,
⟨some 26,none,.bsl 3 1 1 [.int .i64 0] [(0, (1, (.tmp 25)))]⟩,
⟨some 27,none,.idx 1 (.tmp 22) (.tmp 23)⟩,
⟨none,none,.sto false 1 (.tmp 27) (.tmp 26)⟩])
 (.seq
 (.ops [
 ⟨some 29,none,.bin .eql (.tmp 19) (.const (.int .i64 2))⟩,
⟨some 28,none,.mv (.tmp 29)⟩])
 (.cond (.tmp 28)
 (.ops [
 ⟨some 30,none,.mv (.tmp 3)⟩,
⟨some 31,none,.mv (.tmp 4)⟩,
⟨some 32,none,.fad 3 false 1 (.tmp 5)⟩,
⟨some 33,none,.ld false 1 (.tmp 32)⟩,
⟨some 34,none,.fad 4 false 1 (.tmp 5)⟩,
⟨some 35,none,.ld false 1 (.tmp 34)⟩,
⟨some 36,none,.bsl 3 1 2 [.int .i64 0,.int .i64 0] [(0, (1, (.tmp 33))), (1, (1, (.tmp 35)))]⟩,
⟨some 37,none,.idx 1 (.tmp 30) (.tmp 31)⟩,
⟨none,none,.sto false 1 (.tmp 37) (.tmp 36)⟩])
 .skip))))))))
 (.ops [
 ⟨some 38,none,.bin .add (.tmp 13) (.const (.int .i64 1))⟩,
⟨some 13,none,.mv (.tmp 38)⟩])))))))
 (.seq
 (.ops [
 ⟨some 39,none,.mv (.tmp 3)⟩,
⟨some 2,none,.mv (.tmp 39)⟩])
 .ret))))
theorem f_flow_Next : compF Try.prog 64 = some (40, c_flow_Next, [.tmp 2]) := by kernel_rfl
def c_live_touch : VC :=
 (.seq
 (.ops [
 ⟨some 2,none,.box 49 (.tmp 0)⟩,
⟨some 4,none,.alc 100 [.slice none 0 0]⟩,
⟨some 5,none,.alc 100 [.slice none 0 0]⟩])
 (.seq
 (.ops [
 ⟨some 10,none,.mv (.tmp 1)⟩,
⟨some 11,none,.callM true (.func 66) [.tmp 10]⟩,
⟨some 12,none,.mv (.tmp 1)⟩,
⟨some 13,none,.callM true (.func 66) [.tmp 12]⟩,
⟨none,none,.sto false 1 (.tmp 4) (.tmp 11)⟩,
⟨none,none,.sto false 1 (.tmp 5) (.tmp 13)⟩])
 (.seq
 (.seq
 (.ops [
 ⟨some 14,none,.fad 1 false 1 (.tmp 2)⟩,
⟨some 15,none,.ld false 1 (.tmp 14)⟩,
⟨some 16,none,.bin .eql (.tmp 15) (.const (.int .i64 2))⟩])
 (.cond (.tmp 16)
 (.ops [
 ⟨some 17,none,.ld false 1 (.tmp 4)⟩,
⟨some 18,none,.fad 2 false 1 (.tmp 2)⟩,
⟨some 19,none,.ld false 1 (.tmp 18)⟩,
⟨some 20,none,.call (.func 82) [.tmp 17,.tmp 19]⟩])
 .skip))
 (.seq
 (.seq
 (.ops [
 ⟨some 21,none,.fad 0 false 1 (.tmp 2)⟩,
⟨some 22,none,.ld false 1 (.tmp 21)⟩,
⟨some 23,none,.len (.tmp 22)⟩,
⟨some 24,none,.callA (.func 83) [.tmp 23]⟩])
 (.block 0
 (.range (.tmp 24) [25]
 (.seq
 (.ops [
 ⟨some 6,none,.mv (.tmp 25)⟩])
 (.block 1
 (.seq
 (.seq
 (.ops [
 ⟨some 26,none,.fad 0 false 1 (.tmp 2)⟩,
⟨some 27,none,.ld false 1 (.tmp 26)⟩,
⟨some 28,none,.mv (.tmp 6)⟩,
⟨some 29,none,.idx 8 (.tmp 27) (.tmp 28)⟩,
⟨some 30,none,.ld true 8 (.tmp 29)⟩,
⟨some 31,none,.call (.func 84) [.tmp 30]⟩,
⟨some 7,none,.mv (.tmp 31)⟩])
 (.seq
 (.ops [
 ⟨some 32,none,.mv (.tmp 7)⟩,
⟨some 33,none,.bin .geq (.tmp 32) (.const (.int .i64 0))⟩])
 (.cond (.tmp 33)
 (.seq
 (.ops [
 ⟨some 34,none,.ld false 1 (.tmp 4)⟩,
⟨some 35,none,.mv (.tmp 7)⟩,
⟨some 36,none,.call (.func 85) [.tmp 34,.tmp 35]⟩])
 (.ops [
 ⟨some 37,none,.ld false 1 (.tmp 5)⟩,
⟨some 38,none,.mv (.tmp 7)⟩,
⟨some 39,none,.call (.func 82) [.tmp 37,.tmp 38]⟩]))
 .skip)))
 (.seq
 (.ops [
 ⟨some 40,none,.fad 0 false 1 (.tmp 2)⟩,
⟨some 41,none,.ld false 1 (.tmp 40)⟩,
⟨some 42,none,.mv (.tmp 6)⟩,
⟨some 43,none,.idx 8 (.tmp 41) (.tmp 42)⟩,
⟨some 44,none,.ld true 8 (.tmp 43)⟩,
⟨some 45,none,.call (.func 86) [.tmp 44]⟩,
⟨some 46,none,.len (.tmp 45)⟩,
⟨some 47,none,.mv (.const (.int .i64 0))⟩])
 (.block 2
 (.loop
 (.seq
 (.ops [
 ⟨some 48,none,.bin .lss (.tmp 47) (.tmp 46)⟩])
 (.seq
 (.cond (.tmp 48)
 .skip
 (.exit 2))
 (.seq
 (.block 3
 (.seq
 (.ops [
 ⟨some 49,none,.idx 1 (.tmp 45) (.tmp 47)⟩,
⟨some 50,none,.ld false 1 (.tmp 49)⟩,
⟨some 9,none,.mv (.tmp 50)⟩])
 (.ops [
 ⟨some 51,none,.ld false 1 (.tmp 4)⟩,
⟨some 52,none,.mv (.tmp 9)⟩,
⟨some 53,none,.call (.func 82) [.tmp 51,.tmp 52]⟩])))
 (.ops [
 ⟨some 54,none,.bin .add (.tmp 47) (.const (.int .i64 1))⟩,
⟨some 47,none,.mv (.tmp 54)⟩])))))))))))))
 (.seq
 (.par false (.one ⟨some 55,none,.ld false 1 (.tmp 4)⟩ (.both (.one ⟨some 56,none,.ld false 1 (.tmp 5)⟩ (.one ⟨none,none,.sto false 1 (.tmp 4) (.tmp 55)⟩ (.one ⟨none,none,.sto false 1 (.tmp 5) (.tmp 56)⟩ .done))) (.one ⟨none,none,.sto false 1 (.tmp 4) (.tmp 55)⟩ (.one ⟨some 56,none,.ld false 1 (.tmp 5)⟩ (.one ⟨none,none,.sto false 1 (.tmp 5) (.tmp 56)⟩ .done))))))
 .ret)))))
theorem f_live_touch : compFB Try.prog false 65 = some (57, c_live_touch, [(.cell 4 false 1), (.cell 5 false 1)]) := by kernel_rfl
def c_live_rowOf : VC :=
 (.seq
 (.ops [
 ⟨some 2,none,.mv (.const (.slice none 0 0))⟩])
 (.seq
 (.ops [
 ⟨some 3,none,.mv (.tmp 0)⟩,
⟨some 4,none,.bin .add (.tmp 3) (.const (.int .i64 63))⟩,
⟨some 5,none,.bin .quo (.tmp 4) (.const (.int .i64 64))⟩,
⟨some 6,none,.mk 130 1 8 [.int .u64 0] (.tmp 5) (.tmp 5)⟩,
⟨some 2,none,.mv (.tmp 6)⟩])
 .ret))
theorem f_live_rowOf : compF Try.prog 66 = some (7, c_live_rowOf, [.tmp 2]) := by kernel_rfl
def c_scref27_within : VC :=
 (.seq
 (.ops [
 ⟨some 4,none,.mv (.const (.bool false))⟩])
 (.seq
 (.seq
 (.ops [
 ⟨some 5,none,.mv (.const (.int .i64 0))⟩])
 (.block 0
 (.loop
 (.seq
 (.seq
 (.ops [
 ⟨some 6,none,.mv (.tmp 5)⟩,
⟨some 7,none,.mv (.tmp 0)⟩,
⟨some 8,none,.len (.tmp 7)⟩,
⟨some 9,none,.bin .lss (.tmp 6) (.tmp 8)⟩])
 (.cond (.tmp 9)
 .skip
 (.exit 0)))
 (.seq
 (.block 1
 (.seq
 (.ops [
 ⟨some 12,none,.mv (.tmp 0)⟩,
⟨some 13,none,.mv (.tmp 5)⟩,
⟨some 14,none,.idx 1 (.tmp 12) (.tmp 13)⟩,
⟨some 15,none,.ld false 1 (.tmp 14)⟩,
⟨some 16,none,.mv (.tmp 15)⟩,
⟨some 17,some (16,true),.mv (.tmp 1)⟩,
⟨some 18,some (16,true),.mv (.tmp 5)⟩,
⟨some 19,some (16,true),.idx 1 (.tmp 17) (.tmp 18)⟩,
⟨some 20,some (16,true),.ld false 1 (.tmp 19)⟩,
⟨some 21,some (16,true),.un .not (.tmp 20)⟩,
⟨some 22,none,.pick (.tmp 16) (.tmp 21) (.const (.bool false))⟩])
 (.cond (.tmp 22)
 (.seq
 (.ops [
 ⟨some 4,none,.mv (.const (.bool false))⟩])
 .ret)
 .skip)))
 (.ops [
 ⟨some 10,none,.mv (.tmp 5)⟩,
⟨some 11,none,.bin .add (.tmp 10) (.const (.int .i64 1))⟩,
⟨some 5,none,.mv (.tmp 11)⟩]))))))
 (.seq
 (.ops [
 ⟨some 4,none,.mv (.const (.bool true))⟩])
 .ret)))
theorem f_scref27_within : compF Try.prog 67 = some (23, c_scref27_within, [.tmp 4]) := by kernel_rfl
def c_scref24_Sets : VC :=
 (.seq
 (.ops [
 ⟨some 1,none,.box 47 (.tmp 0)⟩,
⟨some 2,none,.mv (.const (.int .i64 0))⟩])
 (.seq
 (.seq
 (.ops [
 ⟨some 3,none,.fad 0 false 1 (.tmp 1)⟩,
⟨some 4,none,.ld false 1 (.tmp 3)⟩])
 (.block 0
 (.seq
 (.seq
 (.ops [
 ⟨some 6,none,.bin .eql (.tmp 4) (.const (.int .i64 1))⟩,
⟨some 5,none,.mv (.tmp 6)⟩])
 (.cond (.tmp 5)
 .skip
 (.seq
 (.ops [
 ⟨some 7,none,.bin .eql (.tmp 4) (.const (.int .i64 2))⟩,
⟨some 5,none,.mv (.tmp 7)⟩])
 (.cond (.tmp 5)
 .skip
 (.seq
 (.ops [
 ⟨some 8,none,.bin .eql (.tmp 4) (.const (.int .i64 3))⟩,
⟨some 5,none,.mv (.tmp 8)⟩])
 (.cond (.tmp 5)
 .skip
 (.seq
 (.ops [
 ⟨some 9,none,.bin .eql (.tmp 4) (.const (.int .i64 4))⟩,
⟨some 5,none,.mv (.tmp 9)⟩])
 (.cond (.tmp 5)
 .skip
 (.seq
 (.ops [
 ⟨some 10,none,.bin .eql (.tmp 4) (.const (.int .i64 6))⟩,
⟨some 5,none,.mv (.tmp 10)⟩])
 (.cond (.tmp 5)
 .skip
 (.ops [
 ⟨some 11,none,.bin .eql (.tmp 4) (.const (.int .i64 8))⟩,
⟨some 5,none,.mv (.tmp 11)⟩])))))))))))
 (.cond (.tmp 5)
 (.seq
 (.ops [
 ⟨some 12,none,.fad 1 false 1 (.tmp 1)⟩,
⟨some 13,none,.ld false 1 (.tmp 12)⟩,
⟨some 2,none,.mv (.tmp 13)⟩])
 .ret)
 .skip))))
 (.seq
 (.ops [
 ⟨some 2,none,.mv (.const (.int .i64 (-1)))⟩])
 .ret)))
theorem f_scref24_Sets : compF Try.prog 68 = some (14, c_scref24_Sets, [.tmp 2]) := by kernel_rfl
def c_scref24_Uses : VC :=
 (.seq
 (.ops [
 ⟨some 1,none,.box 47 (.tmp 0)⟩,
⟨some 2,none,.mv (.const (.slice none 0 0))⟩])
 (.seq
 (.seq
 (.ops [
 ⟨some 3,none,.fad 0 false 1 (.tmp 1)⟩,
⟨some 4,none,.ld false 1 (.tmp 3)⟩])
 (.block 0
 (.seq
 (.seq
 (.ops [
 ⟨some 6,none,.bin .eql (.tmp 4) (.const (.int .i64 2))⟩,
⟨some 5,none,.mv (.tmp 6)⟩])
 (.cond (.tmp 5)
 .skip
 (.seq
 (.ops [
 ⟨some 7,none,.bin .eql (.tmp 4) (.const (.int .i64 5))⟩,
⟨some 5,none,.mv (.tmp 7)⟩])
 (.cond (.tmp 5)
 .skip
 (.seq
 (.ops [
 ⟨some 8,none,.bin .eql (.tmp 4) (.const (.int .i64 6))⟩,
⟨some 5,none,.mv (.tmp 8)⟩])
 (.cond (.tmp 5)
 .skip
 (.ops [
 ⟨some 9,none,.bin .eql (.tmp 4) (.const (.int .i64 9))⟩,
⟨some 5,none,.mv (.tmp 9)⟩])))))))
 (.cond (.tmp 5)
 (.seq
 (.ops [
 ⟨some 10,none,.fad 2 false 1 (.tmp 1)⟩,
⟨some 11,none,.ld false 1 (.tmp 10)⟩,
⟨some 12,none,.bsl 3 1 1 [.int .i64 0] [(0, (1, (.tmp 11)))]⟩,
⟨some 2,none,.mv (.tmp 12)⟩])
 .ret)
 (.seq
 (.seq
 (.ops [
 ⟨some 14,none,.bin .eql (.tmp 4) (.const (.int .i64 3))⟩,
⟨some 13,none,.mv (.tmp 14)⟩])
 (.cond (.tmp 13)
 .skip
 (.ops [
 ⟨some 15,none,.bin .eql (.tmp 4) (.const (.int .i64 7))⟩,
⟨some 13,none,.mv (.tmp 15)⟩])))
 (.cond (.tmp 13)
 (.seq
 (.ops [
 ⟨some 16,none,.fad 2 false 1 (.tmp 1)⟩,
⟨some 17,none,.ld false 1 (.tmp 16)⟩,
⟨some 18,none,.fad 3 false 1 (.tmp 1)⟩,
⟨some 19,none,.ld false 1 (.tmp 18)⟩,
⟨some 20,none,.bsl 3 1 2 [.int .i64 0,.int .i64 0] [(0, (1, (.tmp 17))), (1, (1, (.tmp 19)))]⟩,
⟨some 2,none,.mv (.tmp 20)⟩])
 .ret)
 .skip))))))
 (.seq
 (.ops [
 ⟨some 2,none,.mv (.const (.slice none 0 0))⟩])
 .ret)))
theorem f_scref24_Uses : compF Try.prog 69 = some (21, c_scref24_Uses, [.tmp 2]) := by kernel_rfl
def c_choose_writer_own : VC :=
 (.seq
 (.ops [
 ⟨some 4,none,.mv (.const (.int .i64 0))⟩])
 (.seq
 (.ops [
 ⟨some 5,none,.mv (.tmp 0)⟩,
⟨some 6,none,.nck (.tmp 5)⟩,
⟨some 7,none,.fad 6 false 1 (.tmp 6)⟩,
⟨some 8,none,.ld false 1 (.tmp 7)⟩,
⟨some 9,none,.mv (.tmp 0)⟩,
⟨some 10,none,.nck (.tmp 9)⟩,
⟨some 11,none,.fad 8 false 1 (.tmp 10)⟩,
⟨some 12,none,.ld false 1 (.tmp 11)⟩,
⟨some 13,none,.idx 1 (.tmp 8) (.tmp 12)⟩,
⟨some 14,none,.ld false 1 (.tmp 13)⟩,
⟨some 15,none,.mv (.tmp 1)⟩,
⟨some 16,none,.bin .sub (.tmp 14) (.tmp 15)⟩,
⟨some 17,none,.bin .sub (.tmp 16) (.const (.int .i64 1))⟩,
⟨some 4,none,.mv (.tmp 17)⟩])
 .ret))
theorem f_choose_writer_own : compF Try.prog 70 = some (18, c_choose_writer_own, [.tmp 4]) := by kernel_rfl
def c_choose_writer_fetch : VC :=
 (.seq
 (.ops [
 ⟨some 6,none,.mv (.const (.int .i64 0))⟩])
 (.seq
 (.ops [
 ⟨some 8,none,.mv (.tmp 0)⟩,
⟨some 9,none,.nck (.tmp 8)⟩,
⟨some 10,none,.fad 9 false 1 (.tmp 9)⟩,
⟨some 11,none,.ld false 1 (.tmp 10)⟩,
⟨some 12,none,.mv (.tmp 1)⟩,
⟨some 13,none,.idx 1 (.tmp 11) (.tmp 12)⟩,
⟨some 14,none,.ld false 1 (.tmp 13)⟩,
⟨some 7,none,.mv (.tmp 14)⟩])
 (.seq
 (.seq
 (.ops [
 ⟨some 15,none,.mv (.tmp 7)⟩,
⟨some 16,none,.bin .gtr (.tmp 15) (.const (.int .i64 0))⟩])
 (.cond (.tmp 16)
 (.seq
 (.ops [
 ⟨some 17,none,.mv (.tmp 7)⟩,
⟨some 6,none,.mv (.tmp 17)⟩])
 .ret)
 .skip))
 (.seq
 (.ops [
 ⟨some 18,none,.mv (.tmp 0)⟩,
⟨some 19,none,.mv (.tmp 2)⟩,
⟨some 20,none,.mv (.tmp 0)⟩,
⟨some 21,none,.mv (.tmp 7)⟩,
⟨some 22,none,.callM false (.func 70) [.tmp 20,.tmp 21]⟩,
⟨some 23,none,.callM false (.func 50) [(.tmp 18), (.const (.int .i64 16)), (.tmp 19), (.const (.int .i64 0)), (.tmp 22)]⟩])
 (.seq
 (.ops [
 ⟨some 24,none,.mv (.tmp 2)⟩,
⟨some 6,none,.mv (.tmp 24)⟩])
 .ret)))))
theorem f_choose_writer_fetch : compF Try.prog 71 = some (25, c_choose_writer_fetch, [.tmp 6]) := by kernel_rfl
def c_choose_writer_constant : VC :=
 (.seq
 (.seq
 (.ops [
 ⟨some 7,none,.mv (.tmp 2)⟩,
⟨some 8,none,.bin .eql (.tmp 7) (.const (.int .u32 0))⟩,
⟨some 9,none,.mv (.tmp 8)⟩,
⟨some 10,some (9,true),.mv (.tmp 0)⟩,
⟨some 11,some (9,true),.nck (.tmp 10)⟩,
⟨some 12,some (9,true),.fad 9 false 1 (.tmp 11)⟩,
⟨some 13,some (9,true),.ld false 1 (.tmp 12)⟩,
⟨some 14,some (9,true),.mv (.tmp 1)⟩,
⟨some 15,some (9,true),.idx 1 (.tmp 13) (.tmp 14)⟩,
⟨some 16,some (9,true),.ld false 1 (.tmp 15)⟩,
⟨some 17,some (9,true),.bin .lss (.tmp 16) (.const (.int .i64 0))⟩,
⟨some 18,none,.pick (.tmp 9) (.tmp 17) (.const (.bool false))⟩])
 (.cond (.tmp 18)
 (.seq
 (.ops [
 ⟨some 19,none,.mv (.tmp 0)⟩,
⟨some 20,none,.mv (.tmp 1)⟩,
⟨some 21,none,.callM false (.func 51) [(.tmp 19), (.tmp 20), (.const (.int .i64 0))]⟩])
 .ret)
 .skip))
 (.seq
 (.ops [
 ⟨some 22,none,.mv (.tmp 0)⟩,
⟨some 23,none,.mv (.tmp 1)⟩,
⟨some 24,none,.callM false (.func 74) [.tmp 22,.tmp 23]⟩,
⟨some 6,none,.mv (.tmp 24)⟩])
 (.seq
 (.ops [
 ⟨some 25,none,.mv (.tmp 0)⟩,
⟨some 26,none,.mv (.tmp 6)⟩,
⟨some 27,none,.mv (.tmp 2)⟩,
⟨some 28,none,.bin .and (.tmp 27) (.const (.int .u32 65535))⟩,
⟨some 29,none,.conv .i64 (.tmp 28)⟩,
⟨some 30,none,.callM false (.func 50) [(.tmp 25), (.const (.int .i64 1)), (.tmp 26), (.const (.int .i64 0)), (.tmp 29)]⟩])
 (.seq
 (.seq
 (.ops [
 ⟨some 31,none,.mv (.tmp 2)⟩,
⟨some 32,none,.bin .shr (.tmp 31) (.const (.int .u64 16))⟩,
⟨some 33,none,.bin .neq (.tmp 32) (.const (.int .u32 0))⟩])
 (.cond (.tmp 33)
 (.ops [
 ⟨some 34,none,.mv (.tmp 0)⟩,
⟨some 35,none,.mv (.tmp 6)⟩,
⟨some 36,none,.mv (.tmp 2)⟩,
⟨some 37,none,.bin .shr (.tmp 36) (.const (.int .u64 16))⟩,
⟨some 38,none,.conv .i64 (.tmp 37)⟩,
⟨some 39,none,.callM false (.func 50) [(.tmp 34), (.const (.int .i64 2)), (.tmp 35), (.const (.int .i64 0)), (.tmp 38)]⟩])
 .skip))
 (.ops [
 ⟨some 40,none,.mv (.tmp 0)⟩,
⟨some 41,none,.mv (.tmp 1)⟩,
⟨some 42,none,.mv (.tmp 6)⟩,
⟨some 43,none,.callM false (.func 51) [.tmp 40,.tmp 41,.tmp 42]⟩])))))
theorem f_choose_writer_constant : compF Try.prog 72 = some (44, c_choose_writer_constant, []) := by kernel_rfl
def c_choose_writer_copied : VC :=
 (.seq
 (.seq
 (.ops [
 ⟨some 8,none,.mv (.tmp 0)⟩,
⟨some 9,none,.nck (.tmp 8)⟩,
⟨some 10,none,.fad 9 false 1 (.tmp 9)⟩,
⟨some 11,none,.ld false 1 (.tmp 10)⟩,
⟨some 12,none,.mv (.tmp 1)⟩,
⟨some 13,none,.idx 1 (.tmp 11) (.tmp 12)⟩,
⟨some 14,none,.ld false 1 (.tmp 13)⟩,
⟨some 15,none,.mv (.tmp 0)⟩,
⟨some 16,none,.nck (.tmp 15)⟩,
⟨some 17,none,.fad 9 false 1 (.tmp 16)⟩,
⟨some 18,none,.ld false 1 (.tmp 17)⟩,
⟨some 19,none,.mv (.tmp 2)⟩,
⟨some 20,none,.idx 1 (.tmp 18) (.tmp 19)⟩,
⟨some 21,none,.ld false 1 (.tmp 20)⟩,
⟨some 22,none,.bin .eql (.tmp 14) (.tmp 21)⟩])
 (.cond (.tmp 22)
 .ret
 .skip))
 (.seq
 (.seq
 (.ops [
 ⟨some 23,none,.mv (.tmp 0)⟩,
⟨some 24,none,.nck (.tmp 23)⟩,
⟨some 25,none,.fad 9 false 1 (.tmp 24)⟩,
⟨some 26,none,.ld false 1 (.tmp 25)⟩,
⟨some 27,none,.mv (.tmp 1)⟩,
⟨some 28,none,.idx 1 (.tmp 26) (.tmp 27)⟩,
⟨some 29,none,.ld false 1 (.tmp 28)⟩,
⟨some 6,none,.mv (.tmp 29)⟩])
 (.seq
 (.ops [
 ⟨some 30,none,.mv (.tmp 6)⟩,
⟨some 31,none,.bin .gtr (.tmp 30) (.const (.int .i64 0))⟩])
 (.cond (.tmp 31)
 (.seq
 (.seq
 (.ops [
 ⟨some 32,none,.mv (.tmp 0)⟩,
⟨some 33,none,.mv (.tmp 2)⟩,
⟨some 34,none,.mv (.tmp 6)⟩,
⟨some 35,none,.callM false (.func 71) [.tmp 32,.tmp 33,.tmp 34]⟩,
⟨some 7,none,.mv (.tmp 35)⟩])
 (.seq
 (.ops [
 ⟨some 36,none,.mv (.tmp 7)⟩,
⟨some 37,none,.mv (.tmp 6)⟩,
⟨some 38,none,.bin .neq (.tmp 36) (.tmp 37)⟩])
 (.cond (.tmp 38)
 (.ops [
 ⟨some 39,none,.mv (.tmp 0)⟩,
⟨some 40,none,.mv (.tmp 6)⟩,
⟨some 41,none,.mv (.tmp 7)⟩,
⟨some 42,none,.callM false (.func 50) [(.tmp 39), (.const (.int .i64 3)), (.tmp 40), (.tmp 41), (.const (.int .i64 0))]⟩])
 .skip)))
 .ret)
 .skip)))
 (.ops [
 ⟨some 43,none,.mv (.tmp 0)⟩,
⟨some 44,none,.mv (.tmp 1)⟩,
⟨some 45,none,.mv (.tmp 0)⟩,
⟨some 46,none,.mv (.tmp 2)⟩,
⟨some 47,none,.callM false (.func 71) [(.tmp 45), (.tmp 46), (.const (.int .i64 9))]⟩,
⟨some 48,none,.callM false (.func 51) [.tmp 43,.tmp 44,.tmp 47]⟩])))
theorem f_choose_writer_copied : compF Try.prog 73 = some (49, c_choose_writer_copied, []) := by kernel_rfl
def c_choose_writer_into : VC :=
 (.seq
 (.ops [
 ⟨some 4,none,.mv (.const (.int .i64 0))⟩])
 (.seq
 (.seq
 (.ops [
 ⟨some 6,none,.mv (.tmp 0)⟩,
⟨some 7,none,.nck (.tmp 6)⟩,
⟨some 8,none,.fad 9 false 1 (.tmp 7)⟩,
⟨some 9,none,.ld false 1 (.tmp 8)⟩,
⟨some 10,none,.mv (.tmp 1)⟩,
⟨some 11,none,.idx 1 (.tmp 9) (.tmp 10)⟩,
⟨some 12,none,.ld false 1 (.tmp 11)⟩,
⟨some 5,none,.mv (.tmp 12)⟩])
 (.seq
 (.ops [
 ⟨some 13,none,.mv (.tmp 5)⟩,
⟨some 14,none,.bin .gtr (.tmp 13) (.const (.int .i64 0))⟩])
 (.cond (.tmp 14)
 (.seq
 (.ops [
 ⟨some 15,none,.mv (.tmp 5)⟩,
⟨some 4,none,.mv (.tmp 15)⟩])
 .ret)
 .skip)))
 (.seq
 (.ops [
 ⟨some 4,none,.mv (.const (.int .i64 11))⟩])
 .ret)))
theorem f_choose_writer_into : compF Try.prog 74 = some (16, c_choose_writer_into, [.tmp 4]) := by kernel_rfl
def c_choose_writer_jump : VC :=
 (.seq
 (.par false (.one ⟨some 10,none,.mv (.tmp 0)⟩ (.one ⟨some 11,none,.mv (.tmp 0)⟩ (.one ⟨some 12,none,.nck (.tmp 11)⟩ (.one ⟨some 13,none,.fad 3 false 1 (.tmp 12)⟩ (.one ⟨some 14,none,.ld false 1 (.tmp 13)⟩ (.one ⟨some 15,none,.mv (.tmp 0)⟩ (.one ⟨some 16,none,.nck (.tmp 15)⟩ (.one ⟨some 17,none,.fad 2 false 1 (.tmp 16)⟩ (.one ⟨some 18,none,.ld false 1 (.tmp 17)⟩ (.one ⟨some 19,none,.len (.tmp 18)⟩ (.one ⟨some 20,none,.mv (.tmp 3)⟩ (.one ⟨some 21,none,.mv (.tmp 4)⟩ (.one ⟨some 22,none,.bld [.int .i64 0,.int .i64 0,.int .i64 0] [(0, (1, (.tmp 19))), (1, (1, (.tmp 20))), (2, (1, (.tmp 21)))]⟩ (.one ⟨some 23,none,.bsl 113 3 1 [.int .i64 0,.int .i64 0,.int .i64 0] [(0, (3, (.tmp 22)))]⟩ (.one ⟨some 24,none,.app 113 3 24 (.tmp 14) (.tmp 23)⟩ (.one ⟨some 25,none,.nck (.tmp 10)⟩ (.one ⟨some 26,none,.fad 3 false 1 (.tmp 25)⟩ (.one ⟨none,none,.sto false 1 (.tmp 26) (.tmp 24)⟩ .done)))))))))))))))))))
 (.ops [
 ⟨some 27,none,.mv (.tmp 0)⟩,
⟨some 28,none,.mv (.tmp 1)⟩,
⟨some 29,none,.mv (.tmp 2)⟩,
⟨some 30,none,.callM false (.func 50) [(.tmp 27), (.tmp 28), (.tmp 29), (.const (.int .i64 0)), (.const (.int .i64 0))]⟩]))
theorem f_choose_writer_jump : compF Try.prog 75 = some (31, c_choose_writer_jump, []) := by kernel_rfl
def c_inst_Right : VC :=
 (.seq
 (.ops [
 ⟨some 1,none,.box 115 (.tmp 0)⟩,
⟨some 2,none,.mv (.const (.bool false))⟩])
 (.seq
 (.seq
 (.ops [
 ⟨some 5,none,.fad 0 false 1 (.tmp 1)⟩,
⟨some 6,none,.ld false 1 (.tmp 5)⟩,
⟨some 7,none,.call (.func 87) [.tmp 6]⟩,
⟨some 8,none,.un .not (.tmp 7)⟩])
 (.cond (.tmp 8)
 (.seq
 (.ops [
 ⟨some 2,none,.mv (.const (.bool false))⟩])
 .ret)
 .skip))
 (.seq
 (.ops [
 ⟨some 9,none,.fad 0 false 1 (.tmp 1)⟩,
⟨some 10,none,.ld false 1 (.tmp 9)⟩,
⟨some 11,none,.call (.func 88) [.tmp 10]⟩,
⟨(some 3), none, (.alc 148 [(.string ⟨#[]⟩), (.bool false), (.bool false), (.int .i64 0)])⟩,
⟨none,none,.sto true 4 (.tmp 3) (.tmp 11)⟩])
 (.seq
 (.ops [
 ⟨some 4,none,.mv (.const (.int .i64 65535))⟩])
 (.seq
 (.seq
 (.ops [
 ⟨some 12,none,.fad 3 false 1 (.tmp 3)⟩,
⟨some 13,none,.ld false 1 (.tmp 12)⟩,
⟨some 14,none,.bin .eql (.tmp 13) (.const (.int .i64 2))⟩])
 (.cond (.tmp 14)
 (.ops [
 ⟨some 4,none,.mv (.const (.int .i64 15))⟩])
 .skip))
 (.seq
 (.ops [
 ⟨some 15,none,.fad 1 false 1 (.tmp 1)⟩,
⟨some 16,none,.ld false 1 (.tmp 15)⟩,
⟨some 17,none,.fad 1 false 1 (.tmp 3)⟩,
⟨some 18,none,.ld false 1 (.tmp 17)⟩,
⟨some 19,none,.call (.func 89) [(.tmp 16), (.const (.int .i64 15)), (.tmp 18)]⟩,
⟨some 20,none,.mv (.tmp 19)⟩,
⟨some 21,some (20,true),.fad 2 false 1 (.tmp 1)⟩,
⟨some 22,some (20,true),.ld false 1 (.tmp 21)⟩,
⟨some 23,some (20,true),.fad 2 false 1 (.tmp 3)⟩,
⟨some 24,some (20,true),.ld false 1 (.tmp 23)⟩,
⟨some 25,some (20,true),.call (.func 89) [(.tmp 22), (.const (.int .i64 15)), (.tmp 24)]⟩,
⟨some 26,none,.pick (.tmp 20) (.tmp 25) (.const (.bool false))⟩,
⟨some 27,none,.mv (.tmp 26)⟩,
⟨some 28,some (27,true),.fad 3 false 1 (.tmp 1)⟩,
⟨some 29,some (27,true),.ld false 1 (.tmp 28)⟩,
⟨some 30,some (27,true),.mv (.tmp 4)⟩,
⟨some 31,some (27,true),.fad 3 false 1 (.tmp 3)⟩,
⟨some 32,some (27,true),.ld false 1 (.tmp 31)⟩,
⟨some 33,some (27,true),.bin .neq (.tmp 32) (.const (.int .i64 0))⟩,
⟨some 34,some (27,true),.call (.func 89) [.tmp 29,.tmp 30,.tmp 33]⟩,
⟨some 35,none,.pick (.tmp 27) (.tmp 34) (.const (.bool false))⟩,
⟨some 2,none,.mv (.tmp 35)⟩])
 .ret))))))
theorem f_inst_Right : compF Try.prog 76 = some (36, c_inst_Right, [.tmp 2]) := by kernel_rfl
def c_scref10_Code : VC :=
 (.seq
 (.ops [
 ⟨some 1,none,.box 30 (.tmp 0)⟩,
⟨some 2,none,.mv (.const (.slice none 0 0))⟩,
⟨some 3,none,.mv (.const (.slice none 0 0))⟩])
 (.seq
 (.ops [
 ⟨some 9,none,.fad 0 false 1 (.tmp 1)⟩,
⟨some 10,none,.ld false 1 (.tmp 9)⟩,
⟨some 11,none,.len (.tmp 10)⟩,
⟨some 12,none,.mk 115 4 32 [.int .i64 0,.int .i64 0,.int .i64 0,.int .i64 0] (.tmp 11) (.tmp 11)⟩,
⟨some 4,none,.mv (.tmp 12)⟩])
 (.seq
 (.ops [
 ⟨some 13,none,.fad 0 false 1 (.tmp 1)⟩,
⟨some 14,none,.ld false 1 (.tmp 13)⟩,
⟨some 15,none,.len (.tmp 14)⟩,
⟨some 16,none,.mk 4 1 1 [.bool false] (.tmp 15) (.tmp 15)⟩,
⟨some 5,none,.mv (.tmp 16)⟩])
 (.seq
 (.seq
 (.ops [
 ⟨some 6,none,.mv (.const (.int .i64 0))⟩])
 (.block 0
 (.loop
 (.seq
 (.seq
 (.ops [
 ⟨some 17,none,.mv (.tmp 6)⟩,
⟨some 18,none,.fad 0 false 1 (.tmp 1)⟩,
⟨some 19,none,.ld false 1 (.tmp 18)⟩,
⟨some 20,none,.len (.tmp 19)⟩,
⟨some 21,none,.bin .lss (.tmp 17) (.tmp 20)⟩])
 (.cond (.tmp 21)
 .skip
 (.exit 0)))
 (.seq
 (.block 1
 (.seq
 (.ops [
 ⟨some 25,none,.fad 0 false 1 (.tmp 1)⟩,
⟨some 26,none,.ld false 1 (.tmp 25)⟩,
⟨some 27,none,.mv (.tmp 6)⟩,
⟨some 28,none,.idx 1 (.tmp 26) (.tmp 27)⟩,
⟨some 29,none,.ld false 1 (.tmp 28)⟩,
⟨some 30,none,.call (.func 93) [.tmp 29]⟩,
⟨some 24,none,.mv (.tmp 30)⟩,
⟨some 31,none,.ext (.tmp 24) 0⟩,
⟨some 32,none,.ext (.tmp 24) 1⟩,
⟨some 7,none,.alc 115 [.int .i64 0,.int .i64 0,.int .i64 0,.int .i64 0]⟩,
⟨none,none,.sto true 4 (.tmp 7) (.tmp 31)⟩,
⟨some 8,none,.mv (.tmp 32)⟩])
 (.ops [
 ⟨some 33,none,.mv (.tmp 4)⟩,
⟨some 34,none,.mv (.tmp 6)⟩,
⟨some 35,none,.mv (.tmp 5)⟩,
⟨some 36,none,.mv (.tmp 6)⟩,
⟨some 37,none,.ld true 4 (.tmp 7)⟩,
⟨some 38,none,.mv (.tmp 8)⟩,
⟨some 39,none,.bin .eql (.tmp 38) (.const (.int .i64 0))⟩,
⟨some 40,none,.idx 4 (.tmp 33) (.tmp 34)⟩,
⟨none,none,.sto true 4 (.tmp 40) (.tmp 37)⟩,
⟨some 41,none,.idx 1 (.tmp 35) (.tmp 36)⟩,
⟨none,none,.sto false 1 (.tmp 41) (.tmp 39)⟩])))
 (.ops [
 ⟨some 22,none,.mv (.tmp 6)⟩,
⟨some 23,none,.bin .add (.tmp 22) (.const (.int .i64 1))⟩,
⟨some 6,none,.mv (.tmp 23)⟩]))))))
 (.seq
 (.ops [
 ⟨some 42,none,.mv (.tmp 4)⟩,
⟨some 43,none,.mv (.tmp 5)⟩,
⟨some 2,none,.mv (.tmp 42)⟩,
⟨some 3,none,.mv (.tmp 43)⟩])
 .ret)))))
theorem f_scref10_Code : compF Try.prog 78 = some (44, c_scref10_Code, [.tmp 2,.tmp 3]) := by kernel_rfl
def c_scref10_work_step : VC :=
 (.seq
 (.seq
 (.ops [
 ⟨some 11,none,.mv (.tmp 0)⟩,
⟨some 12,none,.nck (.tmp 11)⟩,
⟨some 13,none,.fad 0 true 22 (.tmp 12)⟩,
⟨some 14,none,.fad 0 false 1 (.tmp 13)⟩,
⟨some 15,none,.ld false 1 (.tmp 14)⟩,
⟨some 16,none,.bin .lss (.tmp 15) (.const (.int .i64 0))⟩,
⟨some 17,none,.mv (.tmp 16)⟩,
⟨some 18,some (17,false),.mv (.tmp 0)⟩,
⟨some 19,some (17,false),.nck (.tmp 18)⟩,
⟨some 20,some (17,false),.fad 0 true 22 (.tmp 19)⟩,
⟨some 21,some (17,false),.fad 0 false 1 (.tmp 20)⟩,
⟨some 22,some (17,false),.ld false 1 (.tmp 21)⟩,
⟨some 23,some (17,false),.mv (.tmp 0)⟩,
⟨some 24,some (17,false),.nck (.tmp 23)⟩,
⟨some 25,some (17,false),.fad 23 false 1 (.tmp 24)⟩,
⟨some 26,some (17,false),.ld false 1 (.tmp 25)⟩,
⟨some 27,some (17,false),.len (.tmp 26)⟩,
⟨some 28,some (17,false),.bin .geq (.tmp 22) (.tmp 27)⟩,
⟨some 29,none,.pick (.tmp 17) (.const (.bool true)) (.tmp 28)⟩])
 (.cond (.tmp 29)
 (.seq
 (.ops [
 ⟨some 30,none,.mv (.tmp 0)⟩,
⟨some 31,none,.nck (.tmp 30)⟩,
⟨some 32,none,.fad 0 true 22 (.tmp 31)⟩,
⟨some 33,none,.fad 21 false 1 (.tmp 32)⟩,
⟨none,none,.sto false 1 (.tmp 33) (.const (.int .i64 7))⟩])
 .ret)
 .skip))
 (.seq
 (.ops [
 ⟨some 34,none,.mv (.tmp 0)⟩,
⟨some 35,none,.nck (.tmp 34)⟩,
⟨some 36,none,.fad 0 true 22 (.tmp 35)⟩,
⟨some 37,none,.fad 20 false 1 (.tmp 36)⟩,
⟨some 38,none,.ld false 1 (.tmp 37)⟩,
⟨some 39,none,.bin .add (.tmp 38) (.const (.int .i64 1))⟩,
⟨some 40,none,.nck (.tmp 34)⟩,
⟨some 41,none,.fad 0 true 22 (.tmp 40)⟩,
⟨some 42,none,.fad 20 false 1 (.tmp 41)⟩,
⟨none,none,.sto false 1 (.tmp 42) (.tmp 39)⟩])
 (.seq
 (.ops [
 ⟨some 43,none,.mv (.tmp 0)⟩,
⟨some 44,none,.nck (.tmp 43)⟩,
⟨some 45,none,.fad 27 false 1 (.tmp 44)⟩,
⟨some 46,none,.ld false 1 (.tmp 45)⟩,
⟨some 47,none,.mv (.tmp 0)⟩,
⟨some 48,none,.nck (.tmp 47)⟩,
⟨some 49,none,.fad 0 true 22 (.tmp 48)⟩,
⟨some 50,none,.fad 0 false 1 (.tmp 49)⟩,
⟨some 51,none,.ld false 1 (.tmp 50)⟩,
⟨some 52,none,.idx 1 (.tmp 46) (.tmp 51)⟩,
⟨some 53,none,.ld false 1 (.tmp 52)⟩,
⟨some 54,none,.bin .add (.tmp 53) (.const (.int .i64 1))⟩,
⟨some 55,none,.idx 1 (.tmp 46) (.tmp 51)⟩,
⟨none,none,.sto false 1 (.tmp 55) (.tmp 54)⟩])
 (.seq
 (.par false (.one ⟨some 56,none,.mv (.tmp 0)⟩ (.one ⟨some 57,none,.nck (.tmp 56)⟩ (.one ⟨some 58,none,.fad 23 false 1 (.tmp 57)⟩ (.one ⟨some 59,none,.ld false 1 (.tmp 58)⟩ (.one ⟨some 60,none,.mv (.tmp 0)⟩ (.one ⟨some 61,none,.nck (.tmp 60)⟩ (.one ⟨some 62,none,.fad 0 true 22 (.tmp 61)⟩ (.one ⟨some 63,none,.fad 0 false 1 (.tmp 62)⟩ (.one ⟨some 64,none,.ld false 1 (.tmp 63)⟩ (.one ⟨some 65,none,.idx 4 (.tmp 59) (.tmp 64)⟩ (.one ⟨some 66,none,.ld true 4 (.tmp 65)⟩ (.one ⟨some 2,none,.alc 115 [.int .i64 0,.int .i64 0,.int .i64 0,.int .i64 0]⟩ (.one ⟨none,none,.sto true 4 (.tmp 2) (.tmp 66)⟩ .done))))))))))))))
 (.seq
 (.seq
 (.ops [
 ⟨some 67,none,.mv (.tmp 0)⟩,
⟨some 68,none,.nck (.tmp 67)⟩,
⟨some 69,none,.fad 24 false 1 (.tmp 68)⟩,
⟨some 70,none,.ld false 1 (.tmp 69)⟩,
⟨some 71,none,.mv (.tmp 0)⟩,
⟨some 72,none,.nck (.tmp 71)⟩,
⟨some 73,none,.fad 0 true 22 (.tmp 72)⟩,
⟨some 74,none,.fad 0 false 1 (.tmp 73)⟩,
⟨some 75,none,.ld false 1 (.tmp 74)⟩,
⟨some 76,none,.idx 1 (.tmp 70) (.tmp 75)⟩,
⟨some 77,none,.ld false 1 (.tmp 76)⟩,
⟨some 78,none,.un .not (.tmp 77)⟩])
 (.cond (.tmp 78)
 (.seq
 (.ops [
 ⟨some 79,none,.mv (.tmp 0)⟩,
⟨some 80,none,.nck (.tmp 79)⟩,
⟨some 81,none,.fad 0 true 22 (.tmp 80)⟩,
⟨some 82,none,.fad 21 false 1 (.tmp 81)⟩,
⟨none,none,.sto false 1 (.tmp 82) (.const (.int .i64 6))⟩])
 .ret)
 .skip))
 (.seq
 (.ops [
 ⟨some 83,none,.mv (.tmp 0)⟩,
⟨some 84,none,.fad 1 false 1 (.tmp 2)⟩,
⟨some 85,none,.ld false 1 (.tmp 84)⟩,
⟨some 86,none,.nck (.tmp 83)⟩,
⟨some 87,none,.fad 0 true 22 (.tmp 86)⟩,
⟨some 88,none,.fad 1 true 16 (.tmp 87)⟩,
⟨some 89,none,.aidx 16 false 1 (.tmp 88) (.tmp 85)⟩,
⟨some 90,none,.ld false 1 (.tmp 89)⟩,
⟨some 3,none,.mv (.tmp 90)⟩])
 (.seq
 (.ops [
 ⟨some 91,none,.fad 0 false 1 (.tmp 2)⟩,
⟨some 92,none,.ld false 1 (.tmp 91)⟩])
 (.block 0
 (.seq
 (.ops [
 ⟨some 127,none,.bin .eql (.tmp 92) (.const (.int .i64 1))⟩,
⟨some 126,none,.mv (.tmp 127)⟩])
 (.cond (.tmp 126)
 (.ops [
 ⟨some 128,none,.mv (.tmp 0)⟩,
⟨some 129,none,.fad 1 false 1 (.tmp 2)⟩,
⟨some 130,none,.ld false 1 (.tmp 129)⟩,
⟨some 131,none,.fad 3 false 1 (.tmp 2)⟩,
⟨some 132,none,.ld false 1 (.tmp 131)⟩,
⟨some 133,none,.conv .u32 (.tmp 132)⟩,
⟨some 134,none,.call (.func 94) [.tmp 128,.tmp 130,.tmp 133]⟩])
 (.seq
 (.ops [
 ⟨some 136,none,.bin .eql (.tmp 92) (.const (.int .i64 2))⟩,
⟨some 135,none,.mv (.tmp 136)⟩])
 (.cond (.tmp 135)
 (.ops [
 ⟨some 137,none,.mv (.tmp 0)⟩,
⟨some 138,none,.fad 1 false 1 (.tmp 2)⟩,
⟨some 139,none,.ld false 1 (.tmp 138)⟩,
⟨some 140,none,.mv (.tmp 3)⟩,
⟨some 141,none,.bin .rem (.tmp 140) (.const (.int .u32 65536))⟩,
⟨some 142,none,.fad 3 false 1 (.tmp 2)⟩,
⟨some 143,none,.ld false 1 (.tmp 142)⟩,
⟨some 144,none,.conv .u32 (.tmp 143)⟩,
⟨some 145,none,.bin .mul (.tmp 144) (.const (.int .u32 65536))⟩,
⟨some 146,none,.bin .add (.tmp 141) (.tmp 145)⟩,
⟨some 147,none,.call (.func 94) [.tmp 137,.tmp 139,.tmp 146]⟩])
 (.seq
 (.ops [
 ⟨some 149,none,.bin .eql (.tmp 92) (.const (.int .i64 3))⟩,
⟨some 148,none,.mv (.tmp 149)⟩])
 (.cond (.tmp 148)
 (.ops [
 ⟨some 150,none,.mv (.tmp 0)⟩,
⟨some 151,none,.fad 1 false 1 (.tmp 2)⟩,
⟨some 152,none,.ld false 1 (.tmp 151)⟩,
⟨some 153,none,.mv (.tmp 0)⟩,
⟨some 154,none,.fad 2 false 1 (.tmp 2)⟩,
⟨some 155,none,.ld false 1 (.tmp 154)⟩,
⟨some 156,none,.nck (.tmp 153)⟩,
⟨some 157,none,.fad 0 true 22 (.tmp 156)⟩,
⟨some 158,none,.fad 1 true 16 (.tmp 157)⟩,
⟨some 159,none,.aidx 16 false 1 (.tmp 158) (.tmp 155)⟩,
⟨some 160,none,.ld false 1 (.tmp 159)⟩,
⟨some 161,none,.call (.func 94) [.tmp 150,.tmp 152,.tmp 160]⟩])
 (.seq
 (.seq
 (.ops [
 ⟨some 163,none,.bin .eql (.tmp 92) (.const (.int .i64 16))⟩,
⟨some 162,none,.mv (.tmp 163)⟩])
 (.cond (.tmp 162)
 .skip
 (.ops [
 ⟨some 164,none,.bin .eql (.tmp 92) (.const (.int .i64 27))⟩,
⟨some 162,none,.mv (.tmp 164)⟩])))
 (.cond (.tmp 162)
 (.seq
 (.ops [
 ⟨some 165,none,.mv (.tmp 0)⟩,
⟨some 166,none,.nck (.tmp 165)⟩,
⟨some 167,none,.fad 0 true 22 (.tmp 166)⟩,
⟨some 168,none,.fad 17 false 1 (.tmp 167)⟩,
⟨some 169,none,.ld false 1 (.tmp 168)⟩,
⟨some 4,none,.mv (.tmp 169)⟩])
 (.seq
 (.seq
 (.ops [
 ⟨some 170,none,.fad 0 false 1 (.tmp 2)⟩,
⟨some 171,none,.ld false 1 (.tmp 170)⟩,
⟨some 172,none,.bin .eql (.tmp 171) (.const (.int .i64 27))⟩])
 (.cond (.tmp 172)
 (.ops [
 ⟨some 173,none,.mv (.tmp 0)⟩,
⟨some 174,none,.nck (.tmp 173)⟩,
⟨some 175,none,.fad 25 false 1 (.tmp 174)⟩,
⟨some 176,none,.ld false 1 (.tmp 175)⟩,
⟨some 4,none,.mv (.tmp 176)⟩])
 .skip))
 (.seq
 (.par false (.one ⟨some 178,none,.mv (.tmp 4)⟩ (.one ⟨some 179,none,.mv (.tmp 0)⟩ (.one ⟨some 180,none,.fad 2 false 1 (.tmp 2)⟩ (.one ⟨some 181,none,.ld false 1 (.tmp 180)⟩ (.one ⟨some 182,none,.nck (.tmp 179)⟩ (.one ⟨some 183,none,.fad 0 true 22 (.tmp 182)⟩ (.one ⟨some 184,none,.fad 1 true 16 (.tmp 183)⟩ (.one ⟨some 185,none,.aidx 16 false 1 (.tmp 184) (.tmp 181)⟩ (.one ⟨some 186,none,.ld false 1 (.tmp 185)⟩ (.one ⟨some 187,none,.fad 3 false 1 (.tmp 2)⟩ (.one ⟨some 188,none,.ld false 1 (.tmp 187)⟩ (.one ⟨some 189,none,.callM true (.func 95) [.tmp 178,.tmp 186,.tmp 188]⟩ (.one ⟨some 177,none,.mv (.tmp 189)⟩ (.one ⟨some 190,none,.ext (.tmp 177) 0⟩ (.one ⟨some 191,none,.ext (.tmp 177) 1⟩ (.one ⟨some 5,none,.mv (.tmp 190)⟩ (.one ⟨some 6,none,.mv (.tmp 191)⟩ .done))))))))))))))))))
 (.seq
 (.seq
 (.ops [
 ⟨some 192,none,.mv (.tmp 6)⟩,
⟨some 193,none,.un .not (.tmp 192)⟩])
 (.cond (.tmp 193)
 (.seq
 (.ops [
 ⟨some 194,none,.mv (.tmp 0)⟩,
⟨some 195,none,.nck (.tmp 194)⟩,
⟨some 196,none,.fad 0 true 22 (.tmp 195)⟩,
⟨some 197,none,.fad 21 false 1 (.tmp 196)⟩,
⟨none,none,.sto false 1 (.tmp 197) (.const (.int .i64 8))⟩])
 .ret)
 .skip))
 (.ops [
 ⟨some 198,none,.mv (.tmp 0)⟩,
⟨some 199,none,.fad 1 false 1 (.tmp 2)⟩,
⟨some 200,none,.ld false 1 (.tmp 199)⟩,
⟨some 201,none,.mv (.tmp 5)⟩,
⟨some 202,none,.call (.func 94) [.tmp 198,.tmp 200,.tmp 201]⟩])))))
 (.seq
 (.ops [
 ⟨some 204,none,.bin .eql (.tmp 92) (.const (.int .i64 17))⟩,
⟨some 203,none,.mv (.tmp 204)⟩])
 (.cond (.tmp 203)
 (.seq
 (.ops [
 ⟨some 205,none,.mv (.tmp 0)⟩,
⟨some 206,none,.fad 2 false 1 (.tmp 2)⟩,
⟨some 207,none,.ld false 1 (.tmp 206)⟩,
⟨some 208,none,.nck (.tmp 205)⟩,
⟨some 209,none,.fad 0 true 22 (.tmp 208)⟩,
⟨some 210,none,.fad 1 true 16 (.tmp 209)⟩,
⟨some 211,none,.aidx 16 false 1 (.tmp 210) (.tmp 207)⟩,
⟨some 212,none,.ld false 1 (.tmp 211)⟩,
⟨some 213,none,.fad 3 false 1 (.tmp 2)⟩,
⟨some 214,none,.ld false 1 (.tmp 213)⟩,
⟨some 215,none,.conv .u32 (.tmp 214)⟩,
⟨some 216,none,.bin .add (.tmp 212) (.tmp 215)⟩,
⟨some 7,none,.mv (.tmp 216)⟩])
 (.seq
 (.seq
 (.ops [
 ⟨some 217,none,.mv (.tmp 7)⟩,
⟨some 218,none,.conv .u64 (.tmp 217)⟩,
⟨some 219,none,.mv (.tmp 0)⟩,
⟨some 220,none,.nck (.tmp 219)⟩,
⟨some 221,none,.fad 0 true 22 (.tmp 220)⟩,
⟨some 222,none,.fad 17 false 1 (.tmp 221)⟩,
⟨some 223,none,.ld false 1 (.tmp 222)⟩,
⟨some 224,none,.len (.tmp 223)⟩,
⟨some 225,none,.conv .u64 (.tmp 224)⟩,
⟨some 226,none,.bin .geq (.tmp 218) (.tmp 225)⟩])
 (.cond (.tmp 226)
 (.seq
 (.ops [
 ⟨some 227,none,.mv (.tmp 0)⟩,
⟨some 228,none,.nck (.tmp 227)⟩,
⟨some 229,none,.fad 0 true 22 (.tmp 228)⟩,
⟨some 230,none,.fad 21 false 1 (.tmp 229)⟩,
⟨none,none,.sto false 1 (.tmp 230) (.const (.int .i64 8))⟩])
 .ret)
 .skip))
 (.seq
 (.ops [
 ⟨some 231,none,.mv (.tmp 0)⟩,
⟨some 232,none,.nck (.tmp 231)⟩,
⟨some 233,none,.fad 0 true 22 (.tmp 232)⟩,
⟨some 234,none,.fad 17 false 1 (.tmp 233)⟩,
⟨some 235,none,.ld false 1 (.tmp 234)⟩,
⟨some 236,none,.mv (.tmp 7)⟩,
⟨some 237,none,.mv (.tmp 3)⟩,
⟨some 238,none,.idx 1 (.tmp 235) (.tmp 236)⟩,
⟨none,none,.sto false 1 (.tmp 238) (.tmp 237)⟩])
 (.ops [
 ⟨some 239,none,.mv (.tmp 0)⟩,
⟨some 240,none,.nck (.tmp 239)⟩,
⟨some 241,none,.fad 0 true 22 (.tmp 240)⟩,
⟨some 242,none,.fad 0 false 1 (.tmp 241)⟩,
⟨some 243,none,.ld false 1 (.tmp 242)⟩,
⟨some 244,none,.bin .add (.tmp 243) (.const (.int .i64 1))⟩,
⟨some 245,none,.nck (.tmp 239)⟩,
⟨some 246,none,.fad 0 true 22 (.tmp 245)⟩,
⟨some 247,none,.fad 0 false 1 (.tmp 246)⟩,
⟨none,none,.sto false 1 (.tmp 247) (.tmp 244)⟩]))))
 (.seq
 (.ops [
 ⟨some 249,none,.bin .eql (.tmp 92) (.const (.int .i64 18))⟩,
⟨some 248,none,.mv (.tmp 249)⟩])
 (.cond (.tmp 248)
 (.ops [
 ⟨some 250,none,.mv (.tmp 0)⟩,
⟨some 251,none,.fad 3 false 1 (.tmp 2)⟩,
⟨some 252,none,.ld false 1 (.tmp 251)⟩,
⟨some 253,none,.nck (.tmp 250)⟩,
⟨some 254,none,.fad 0 true 22 (.tmp 253)⟩,
⟨some 255,none,.fad 0 false 1 (.tmp 254)⟩,
⟨none,none,.sto false 1 (.tmp 255) (.tmp 252)⟩])
 (.seq
 (.ops [
 ⟨some 257,none,.bin .eql (.tmp 92) (.const (.int .i64 19))⟩,
⟨some 256,none,.mv (.tmp 257)⟩])
 (.cond (.tmp 256)
 (.ops [
 ⟨some 258,none,.mv (.tmp 0)⟩,
⟨some 259,none,.mv (.tmp 3)⟩,
⟨some 260,none,.bin .eql (.tmp 259) (.const (.int .u32 0))⟩,
⟨some 261,none,.fad 3 false 1 (.tmp 2)⟩,
⟨some 262,none,.ld false 1 (.tmp 261)⟩,
⟨some 263,none,.call (.func 96) [.tmp 258,.tmp 260,.tmp 262]⟩])
 (.seq
 (.ops [
 ⟨some 265,none,.bin .eql (.tmp 92) (.const (.int .i64 20))⟩,
⟨some 264,none,.mv (.tmp 265)⟩])
 (.cond (.tmp 264)
 (.ops [
 ⟨some 266,none,.mv (.tmp 0)⟩,
⟨some 267,none,.mv (.tmp 3)⟩,
⟨some 268,none,.bin .neq (.tmp 267) (.const (.int .u32 0))⟩,
⟨some 269,none,.fad 3 false 1 (.tmp 2)⟩,
⟨some 270,none,.ld false 1 (.tmp 269)⟩,
⟨some 271,none,.call (.func 96) [.tmp 266,.tmp 268,.tmp 270]⟩])
 (.seq
 (.ops [
 ⟨some 273,none,.bin .eql (.tmp 92) (.const (.int .i64 21))⟩,
⟨some 272,none,.mv (.tmp 273)⟩])
 (.cond (.tmp 272)
 (.seq
 (.ops [
 ⟨some 274,none,.mv (.tmp 0)⟩,
⟨some 275,none,.fad 1 false 1 (.tmp 2)⟩,
⟨some 276,none,.ld false 1 (.tmp 275)⟩,
⟨some 277,none,.mv (.tmp 0)⟩,
⟨some 278,none,.nck (.tmp 277)⟩,
⟨some 279,none,.fad 0 true 22 (.tmp 278)⟩,
⟨some 280,none,.fad 0 false 1 (.tmp 279)⟩,
⟨some 281,none,.ld false 1 (.tmp 280)⟩,
⟨some 282,none,.conv .u32 (.tmp 281)⟩,
⟨some 283,none,.bin .add (.tmp 282) (.const (.int .u32 1))⟩,
⟨some 284,none,.nck (.tmp 274)⟩,
⟨some 285,none,.fad 0 true 22 (.tmp 284)⟩,
⟨some 286,none,.fad 1 true 16 (.tmp 285)⟩,
⟨some 287,none,.aidx 16 false 1 (.tmp 286) (.tmp 276)⟩,
⟨none,none,.sto false 1 (.tmp 287) (.tmp 283)⟩])
 (.ops [
 ⟨some 288,none,.mv (.tmp 0)⟩,
⟨some 289,none,.fad 3 false 1 (.tmp 2)⟩,
⟨some 290,none,.ld false 1 (.tmp 289)⟩,
⟨some 291,none,.nck (.tmp 288)⟩,
⟨some 292,none,.fad 0 true 22 (.tmp 291)⟩,
⟨some 293,none,.fad 0 false 1 (.tmp 292)⟩,
⟨none,none,.sto false 1 (.tmp 293) (.tmp 290)⟩]))
 (.seq
 (.ops [
 ⟨some 295,none,.bin .eql (.tmp 92) (.const (.int .i64 22))⟩,
⟨some 294,none,.mv (.tmp 295)⟩])
 (.cond (.tmp 294)
 (.ops [
 ⟨some 296,none,.mv (.tmp 0)⟩,
⟨some 297,none,.mv (.tmp 3)⟩,
⟨some 298,none,.conv .i64 (.tmp 297)⟩,
⟨some 299,none,.nck (.tmp 296)⟩,
⟨some 300,none,.fad 0 true 22 (.tmp 299)⟩,
⟨some 301,none,.fad 0 false 1 (.tmp 300)⟩,
⟨none,none,.sto false 1 (.tmp 301) (.tmp 298)⟩])
 (.seq
 (.ops [
 ⟨some 303,none,.bin .eql (.tmp 92) (.const (.int .i64 23))⟩,
⟨some 302,none,.mv (.tmp 303)⟩])
 (.cond (.tmp 302)
 (.seq
 (.seq
 (.ops [
 ⟨some 304,none,.mv (.tmp 0)⟩,
⟨some 305,none,.nck (.tmp 304)⟩,
⟨some 306,none,.fad 0 true 22 (.tmp 305)⟩,
⟨some 307,none,.fad 18 false 1 (.tmp 306)⟩,
⟨some 308,none,.ld false 1 (.tmp 307)⟩,
⟨some 309,none,.bin .lss (.tmp 308) (.const (.int .i64 0))⟩,
⟨some 310,none,.mv (.tmp 309)⟩,
⟨some 311,some (310,false),.mv (.tmp 0)⟩,
⟨some 312,some (310,false),.nck (.tmp 311)⟩,
⟨some 313,some (310,false),.fad 0 true 22 (.tmp 312)⟩,
⟨some 314,some (310,false),.fad 18 false 1 (.tmp 313)⟩,
⟨some 315,some (310,false),.ld false 1 (.tmp 314)⟩,
⟨some 316,some (310,false),.mv (.tmp 0)⟩,
⟨some 317,some (310,false),.nck (.tmp 316)⟩,
⟨some 318,some (310,false),.fad 26 false 1 (.tmp 317)⟩,
⟨some 319,some (310,false),.ld false 1 (.tmp 318)⟩,
⟨some 320,some (310,false),.lens (.tmp 319)⟩,
⟨some 321,some (310,false),.bin .geq (.tmp 315) (.tmp 320)⟩,
⟨some 322,none,.pick (.tmp 310) (.const (.bool true)) (.tmp 321)⟩])
 (.cond (.tmp 322)
 (.seq
 (.ops [
 ⟨some 323,none,.mv (.tmp 0)⟩,
⟨some 324,none,.fad 1 false 1 (.tmp 2)⟩,
⟨some 325,none,.ld false 1 (.tmp 324)⟩,
⟨some 326,none,.call (.func 94) [(.tmp 323), (.tmp 325), (.const (.int .u32 256))]⟩])
 .ret)
 .skip))
 (.seq
 (.ops [
 ⟨some 327,none,.mv (.tmp 0)⟩,
⟨some 328,none,.nck (.tmp 327)⟩,
⟨some 329,none,.fad 26 false 1 (.tmp 328)⟩,
⟨some 330,none,.ld false 1 (.tmp 329)⟩,
⟨some 331,none,.mv (.tmp 0)⟩,
⟨some 332,none,.nck (.tmp 331)⟩,
⟨some 333,none,.fad 0 true 22 (.tmp 332)⟩,
⟨some 334,none,.fad 18 false 1 (.tmp 333)⟩,
⟨some 335,none,.ld false 1 (.tmp 334)⟩,
⟨some 336,none,.pur .six [.tmp 330,.tmp 335]⟩,
⟨some 337,none,.conv .u32 (.tmp 336)⟩,
⟨some 8,none,.mv (.tmp 337)⟩])
 (.seq
 (.ops [
 ⟨some 338,none,.mv (.tmp 0)⟩,
⟨some 339,none,.nck (.tmp 338)⟩,
⟨some 340,none,.fad 0 true 22 (.tmp 339)⟩,
⟨some 341,none,.fad 18 false 1 (.tmp 340)⟩,
⟨some 342,none,.ld false 1 (.tmp 341)⟩,
⟨some 343,none,.bin .add (.tmp 342) (.const (.int .i64 1))⟩,
⟨some 344,none,.nck (.tmp 338)⟩,
⟨some 345,none,.fad 0 true 22 (.tmp 344)⟩,
⟨some 346,none,.fad 18 false 1 (.tmp 345)⟩,
⟨none,none,.sto false 1 (.tmp 346) (.tmp 343)⟩])
 (.ops [
 ⟨some 347,none,.mv (.tmp 0)⟩,
⟨some 348,none,.fad 1 false 1 (.tmp 2)⟩,
⟨some 349,none,.ld false 1 (.tmp 348)⟩,
⟨some 350,none,.mv (.tmp 8)⟩,
⟨some 351,none,.call (.func 94) [.tmp 347,.tmp 349,.tmp 350]⟩]))))
 (.seq
 (.ops [
 ⟨some 353,none,.bin .eql (.tmp 92) (.const (.int .i64 24))⟩,
⟨some 352,none,.mv (.tmp 353)⟩])
 (.cond (.tmp 352)
 (.seq
 (.seq
 (.ops [
 ⟨some 354,none,.mv (.tmp 0)⟩,
⟨some 355,none,.nck (.tmp 354)⟩,
⟨some 356,none,.fad 22 false 1 (.tmp 355)⟩,
⟨some 357,none,.ld false 1 (.tmp 356)⟩,
⟨some 358,none,.len (.tmp 357)⟩,
⟨some 359,none,.bin .geq (.tmp 358) (.const (.int .i64 65536))⟩])
 (.cond (.tmp 359)
 (.seq
 (.ops [
 ⟨some 360,none,.mv (.tmp 0)⟩,
⟨some 361,none,.nck (.tmp 360)⟩,
⟨some 362,none,.fad 0 true 22 (.tmp 361)⟩,
⟨some 363,none,.fad 21 false 1 (.tmp 362)⟩,
⟨none,none,.sto false 1 (.tmp 363) (.const (.int .i64 4))⟩])
 .ret)
 .skip))
 (.seq
 (.ops [
 ⟨some 364,none,.mv (.tmp 0)⟩,
⟨some 365,none,.mv (.tmp 0)⟩,
⟨some 366,none,.nck (.tmp 365)⟩,
⟨some 367,none,.fad 22 false 1 (.tmp 366)⟩,
⟨some 368,none,.ld false 1 (.tmp 367)⟩,
⟨some 369,none,.mv (.tmp 3)⟩,
⟨some 370,none,.bin .rem (.tmp 369) (.const (.int .u32 256))⟩,
⟨some 371,none,.conv .u8 (.tmp 370)⟩,
⟨some 372,none,.bsl 5 1 1 [.int .u8 0] [(0, (1, (.tmp 371)))]⟩,
⟨some 373,none,.app 5 1 1 (.tmp 368) (.tmp 372)⟩,
⟨some 374,none,.nck (.tmp 364)⟩,
⟨some 375,none,.fad 22 false 1 (.tmp 374)⟩,
⟨none,none,.sto false 1 (.tmp 375) (.tmp 373)⟩])
 (.ops [
 ⟨some 376,none,.mv (.tmp 0)⟩,
⟨some 377,none,.nck (.tmp 376)⟩,
⟨some 378,none,.fad 0 true 22 (.tmp 377)⟩,
⟨some 379,none,.fad 0 false 1 (.tmp 378)⟩,
⟨some 380,none,.ld false 1 (.tmp 379)⟩,
⟨some 381,none,.bin .add (.tmp 380) (.const (.int .i64 1))⟩,
⟨some 382,none,.nck (.tmp 376)⟩,
⟨some 383,none,.fad 0 true 22 (.tmp 382)⟩,
⟨some 384,none,.fad 0 false 1 (.tmp 383)⟩,
⟨none,none,.sto false 1 (.tmp 384) (.tmp 381)⟩])))
 (.seq
 (.ops [
 ⟨some 386,none,.bin .eql (.tmp 92) (.const (.int .i64 25))⟩,
⟨some 385,none,.mv (.tmp 386)⟩])
 (.cond (.tmp 385)
 (.seq
 (.seq
 (.ops [
 ⟨some 387,none,.mv (.tmp 3)⟩,
⟨some 388,none,.fad 3 false 1 (.tmp 2)⟩,
⟨some 389,none,.ld false 1 (.tmp 388)⟩,
⟨some 390,none,.conv .u32 (.tmp 389)⟩,
⟨some 391,none,.bin .geq (.tmp 387) (.tmp 390)⟩])
 (.cond (.tmp 391)
 (.seq
 (.ops [
 ⟨some 392,none,.mv (.tmp 0)⟩,
⟨some 393,none,.nck (.tmp 392)⟩,
⟨some 394,none,.fad 0 true 22 (.tmp 393)⟩,
⟨some 395,none,.fad 21 false 1 (.tmp 394)⟩,
⟨none,none,.sto false 1 (.tmp 395) (.const (.int .i64 3))⟩])
 .ret)
 .skip))
 (.ops [
 ⟨some 396,none,.mv (.tmp 0)⟩,
⟨some 397,none,.nck (.tmp 396)⟩,
⟨some 398,none,.fad 0 true 22 (.tmp 397)⟩,
⟨some 399,none,.fad 0 false 1 (.tmp 398)⟩,
⟨some 400,none,.ld false 1 (.tmp 399)⟩,
⟨some 401,none,.bin .add (.tmp 400) (.const (.int .i64 1))⟩,
⟨some 402,none,.nck (.tmp 396)⟩,
⟨some 403,none,.fad 0 true 22 (.tmp 402)⟩,
⟨some 404,none,.fad 0 false 1 (.tmp 403)⟩,
⟨none,none,.sto false 1 (.tmp 404) (.tmp 401)⟩]))
 (.seq
 (.ops [
 ⟨some 406,none,.bin .eql (.tmp 92) (.const (.int .i64 26))⟩,
⟨some 405,none,.mv (.tmp 406)⟩])
 (.cond (.tmp 405)
 (.ops [
 ⟨some 407,none,.mv (.tmp 0)⟩,
⟨some 408,none,.nck (.tmp 407)⟩,
⟨some 409,none,.fad 0 true 22 (.tmp 408)⟩,
⟨some 410,none,.fad 21 false 1 (.tmp 409)⟩,
⟨none,none,.sto false 1 (.tmp 410) (.const (.int .i64 1))⟩])
 (.seq
 (.par false (.one ⟨some 94,none,.fad 0 false 1 (.tmp 2)⟩ (.one ⟨some 95,none,.ld false 1 (.tmp 94)⟩ (.one ⟨some 96,none,.mv (.tmp 0)⟩ (.one ⟨some 97,none,.fad 2 false 1 (.tmp 2)⟩ (.one ⟨some 98,none,.ld false 1 (.tmp 97)⟩ (.one ⟨some 99,none,.nck (.tmp 96)⟩ (.one ⟨some 100,none,.fad 0 true 22 (.tmp 99)⟩ (.one ⟨some 101,none,.fad 1 true 16 (.tmp 100)⟩ (.one ⟨some 102,none,.aidx 16 false 1 (.tmp 101) (.tmp 98)⟩ (.one ⟨some 103,none,.ld false 1 (.tmp 102)⟩ (.one ⟨some 104,none,.mv (.tmp 0)⟩ (.one ⟨some 105,none,.fad 3 false 1 (.tmp 2)⟩ (.one ⟨some 106,none,.ld false 1 (.tmp 105)⟩ (.one ⟨some 107,none,.nck (.tmp 104)⟩ (.one ⟨some 108,none,.fad 0 true 22 (.tmp 107)⟩ (.one ⟨some 109,none,.fad 1 true 16 (.tmp 108)⟩ (.one ⟨some 110,none,.aidx 16 false 1 (.tmp 109) (.tmp 106)⟩ (.one ⟨some 111,none,.ld false 1 (.tmp 110)⟩ (.one ⟨some 112,none,.call (.func 77) [.tmp 95,.tmp 103,.tmp 111]⟩ (.one ⟨some 93,none,.mv (.tmp 112)⟩ (.one ⟨some 113,none,.ext (.tmp 93) 0⟩ (.one ⟨some 114,none,.ext (.tmp 93) 1⟩ (.one ⟨some 9,none,.mv (.tmp 113)⟩ (.one ⟨some 10,none,.mv (.tmp 114)⟩ .done)))))))))))))))))))))))))
 (.seq
 (.seq
 (.ops [
 ⟨some 115,none,.mv (.tmp 10)⟩,
⟨some 116,none,.bin .neq (.tmp 115) (.const (.int .i64 0))⟩])
 (.cond (.tmp 116)
 (.seq
 (.ops [
 ⟨some 117,none,.mv (.tmp 0)⟩,
⟨some 118,none,.nck (.tmp 117)⟩,
⟨some 119,none,.fad 0 true 22 (.tmp 118)⟩,
⟨some 120,none,.fad 21 false 1 (.tmp 119)⟩,
⟨none,none,.sto false 1 (.tmp 120) (.const (.int .i64 2))⟩])
 .ret)
 .skip))
 (.ops [
 ⟨some 121,none,.mv (.tmp 0)⟩,
⟨some 122,none,.fad 1 false 1 (.tmp 2)⟩,
⟨some 123,none,.ld false 1 (.tmp 122)⟩,
⟨some 124,none,.mv (.tmp 9)⟩,
⟨some 125,none,.call (.func 94) [.tmp 121,.tmp 123,.tmp 124]⟩])))))))))))))))))))))))))))))))))))))))
theorem f_scref10_work_step : compF Try.prog 79 = some (411, c_scref10_work_step, []) := by kernel_rfl
def c_scref24_within : VC :=
 (.seq
 (.ops [
 ⟨some 4,none,.mv (.const (.bool false))⟩])
 (.seq
 (.ops [
 ⟨some 5,none,.mv (.tmp 0)⟩,
⟨some 6,none,.bin .geq (.tmp 5) (.const (.int .i64 0))⟩,
⟨some 7,none,.mv (.tmp 6)⟩,
⟨some 8,some (7,true),.mv (.tmp 0)⟩,
⟨some 9,some (7,true),.mv (.tmp 1)⟩,
⟨some 10,some (7,true),.bin .lss (.tmp 8) (.tmp 9)⟩,
⟨some 11,none,.pick (.tmp 7) (.tmp 10) (.const (.bool false))⟩,
⟨some 4,none,.mv (.tmp 11)⟩])
 .ret))
theorem f_scref24_within : compF Try.prog 80 = some (12, c_scref24_within, [.tmp 4]) := by kernel_rfl
def c_scref27_Sized : VC :=
 (.seq
 (.ops [
 ⟨some 2,none,.box 52 (.tmp 0)⟩,
⟨some 3,none,.box 63 (.tmp 1)⟩,
⟨some 4,none,.mv (.const (.bool false))⟩])
 (.seq
 (.ops [
 ⟨some 5,none,.fad 0 false 1 (.tmp 3)⟩,
⟨some 6,none,.ld false 1 (.tmp 5)⟩,
⟨some 7,none,.fad 1 false 1 (.tmp 2)⟩,
⟨some 8,none,.ld false 1 (.tmp 7)⟩,
⟨some 9,none,.len (.tmp 8)⟩,
⟨some 10,none,.fad 0 false 1 (.tmp 2)⟩,
⟨some 11,none,.ld false 1 (.tmp 10)⟩,
⟨some 12,none,.call (.func 97) [.tmp 6,.tmp 9,.tmp 11]⟩,
⟨some 13,none,.mv (.tmp 12)⟩,
⟨some 14,some (13,true),.fad 1 false 1 (.tmp 3)⟩,
⟨some 15,some (13,true),.ld false 1 (.tmp 14)⟩,
⟨some 16,some (13,true),.fad 1 false 1 (.tmp 2)⟩,
⟨some 17,some (13,true),.ld false 1 (.tmp 16)⟩,
⟨some 18,some (13,true),.len (.tmp 17)⟩,
⟨some 19,some (13,true),.fad 0 false 1 (.tmp 2)⟩,
⟨some 20,some (13,true),.ld false 1 (.tmp 19)⟩,
⟨some 21,some (13,true),.call (.func 97) [.tmp 15,.tmp 18,.tmp 20]⟩,
⟨some 22,none,.pick (.tmp 13) (.tmp 21) (.const (.bool false))⟩,
⟨some 4,none,.mv (.tmp 22)⟩])
 .ret))
theorem f_scref27_Sized : compF Try.prog 81 = some (23, c_scref27_Sized, [.tmp 4]) := by kernel_rfl
def c_live_row_add : VC :=
 (.ops [
 ⟨some 4,none,.mv (.tmp 0)⟩,
⟨some 5,none,.mv (.tmp 1)⟩,
⟨some 6,none,.bin .quo (.tmp 5) (.const (.int .i64 64))⟩,
⟨some 7,none,.idx 1 (.tmp 4) (.tmp 6)⟩,
⟨some 8,none,.ld false 1 (.tmp 7)⟩,
⟨some 9,none,.mv (.tmp 1)⟩,
⟨some 10,none,.bin .rem (.tmp 9) (.const (.int .i64 64))⟩,
⟨some 11,none,.bin .shl (.const (.int .u64 1)) (.tmp 10)⟩,
⟨some 12,none,.bin .or (.tmp 8) (.tmp 11)⟩,
⟨some 13,none,.idx 1 (.tmp 4) (.tmp 6)⟩,
⟨none,none,.sto false 1 (.tmp 13) (.tmp 12)⟩])
theorem f_live_row_add : compF Try.prog 82 = some (14, c_live_row_add, []) := by kernel_rfl
def c_live_down : VC :=
 (.seq
 (.ops [
 ⟨some 1,none,.box 3 (.tmp 0)⟩,
⟨some 2,none,.mv (.const .nilFunc)⟩])
 (.seq
 (.ops [
 ⟨some 3,none,.mkf 98 [.tmp 1]⟩,
⟨some 2,none,.mv (.tmp 3)⟩])
 .ret))
theorem f_live_down : compF Try.prog 83 = some (4, c_live_down, [.tmp 2]) := by kernel_rfl
def c_block_Sets : VC :=
 (.seq
 (.ops [
 ⟨some 1,none,.box 47 (.tmp 0)⟩,
⟨some 2,none,.mv (.const (.int .i64 0))⟩])
 (.seq
 (.seq
 (.ops [
 ⟨some 3,none,.fad 0 false 1 (.tmp 1)⟩,
⟨some 4,none,.ld false 1 (.tmp 3)⟩,
⟨some 5,none,.call (.func 99) [.tmp 4]⟩])
 (.cond (.tmp 5)
 (.seq
 (.ops [
 ⟨some 6,none,.fad 1 false 1 (.tmp 1)⟩,
⟨some 7,none,.ld false 1 (.tmp 6)⟩,
⟨some 2,none,.mv (.tmp 7)⟩])
 .ret)
 .skip))
 (.seq
 (.ops [
 ⟨some 2,none,.mv (.const (.int .i64 (-1)))⟩])
 .ret)))
theorem f_block_Sets : compF Try.prog 84 = some (8, c_block_Sets, [.tmp 2]) := by kernel_rfl
def c_live_row_remove : VC :=
 (.ops [
 ⟨some 4,none,.mv (.tmp 0)⟩,
⟨some 5,none,.mv (.tmp 1)⟩,
⟨some 6,none,.bin .quo (.tmp 5) (.const (.int .i64 64))⟩,
⟨some 7,none,.idx 1 (.tmp 4) (.tmp 6)⟩,
⟨some 8,none,.ld false 1 (.tmp 7)⟩,
⟨some 9,none,.mv (.tmp 1)⟩,
⟨some 10,none,.bin .rem (.tmp 9) (.const (.int .i64 64))⟩,
⟨some 11,none,.bin .shl (.const (.int .u64 1)) (.tmp 10)⟩,
⟨some 12,none,.bin .andNot (.tmp 8) (.tmp 11)⟩,
⟨some 13,none,.idx 1 (.tmp 4) (.tmp 6)⟩,
⟨none,none,.sto false 1 (.tmp 13) (.tmp 12)⟩])
theorem f_live_row_remove : compF Try.prog 85 = some (14, c_live_row_remove, []) := by kernel_rfl
def c_block_Uses : VC :=
 (.seq
 (.ops [
 ⟨some 1,none,.box 47 (.tmp 0)⟩,
⟨some 2,none,.mv (.const (.slice none 0 0))⟩])
 (.seq
 (.seq
 (.ops [
 ⟨some 3,none,.fad 0 false 1 (.tmp 1)⟩,
⟨some 4,none,.ld false 1 (.tmp 3)⟩,
⟨some 5,none,.call (.func 100) [.tmp 4]⟩])
 (.block 0
 (.seq
 (.ops [
 ⟨some 7,none,.bin .eql (.tmp 5) (.const (.int .i64 1))⟩,
⟨some 6,none,.mv (.tmp 7)⟩])
 (.cond (.tmp 6)
 (.seq
 (.ops [
 ⟨some 8,none,.fad 2 false 1 (.tmp 1)⟩,
⟨some 9,none,.ld false 1 (.tmp 8)⟩,
⟨some 10,none,.bsl 3 1 1 [.int .i64 0] [(0, (1, (.tmp 9)))]⟩,
⟨some 2,none,.mv (.tmp 10)⟩])
 .ret)
 (.seq
 (.ops [
 ⟨some 12,none,.bin .eql (.tmp 5) (.const (.int .i64 2))⟩,
⟨some 11,none,.mv (.tmp 12)⟩])
 (.cond (.tmp 11)
 (.seq
 (.ops [
 ⟨some 13,none,.fad 2 false 1 (.tmp 1)⟩,
⟨some 14,none,.ld false 1 (.tmp 13)⟩,
⟨some 15,none,.fad 3 false 1 (.tmp 1)⟩,
⟨some 16,none,.ld false 1 (.tmp 15)⟩,
⟨some 17,none,.bsl 3 1 2 [.int .i64 0,.int .i64 0] [(0, (1, (.tmp 14))), (1, (1, (.tmp 16)))]⟩,
⟨some 2,none,.mv (.tmp 17)⟩])
 .ret)
 .skip))))))
 (.seq
 (.ops [
 ⟨some 2,none,.mv (.const (.slice none 0 0))⟩])
 .ret)))
theorem f_block_Uses : compF Try.prog 86 = some (18, c_block_Uses, [.tmp 2]) := by kernel_rfl
def c_inst_known : VC :=
 (.seq
 (.ops [
 ⟨some 2,none,.mv (.const (.bool false))⟩])
 (.seq
 (.ops [
 ⟨some 3,none,.mv (.tmp 0)⟩,
⟨some 4,none,.call (.func 88) [.tmp 3]⟩,
⟨some 5,none,.fld 0 false 1 (.tmp 4)⟩,
⟨(some 6), none, (.bin .neq (.tmp 5) (.const (.string ⟨#[]⟩)))⟩,
⟨some 2,none,.mv (.tmp 6)⟩])
 .ret))
theorem f_inst_known : compF Try.prog 87 = some (7, c_inst_known, [.tmp 2]) := by kernel_rfl
def c_inst_shapeOf : VC :=
 (.seq
 (.ops [
 ⟨(some 2), none, (.alc 148 [(.string ⟨#[]⟩), (.bool false), (.bool false), (.int .i64 0)])⟩])
 (.seq
 (.seq
 (.ops [
 ⟨some 3,none,.mv (.tmp 0)⟩])
 (.block 0
 (.seq
 (.ops [
 ⟨some 5,none,.bin .eql (.tmp 3) (.const (.int .i64 1))⟩,
⟨some 4,none,.mv (.tmp 5)⟩])
 (.cond (.tmp 4)
 (.seq
 (.ops [
 ⟨(some 6), none, (.bld [(.string ⟨#[]⟩), (.bool false), (.bool false), (.int .i64 0)] [(0, (1, (.const (.string ⟨#[108, 105]⟩)))), (1, (1, (.const (.bool true)))), (2, (1, (.const (.bool false)))), (3, (1, (.const (.int .i64 1))))])⟩,
⟨none,none,.sto true 4 (.tmp 2) (.tmp 6)⟩])
 .ret)
 (.seq
 (.ops [
 ⟨some 8,none,.bin .eql (.tmp 3) (.const (.int .i64 2))⟩,
⟨some 7,none,.mv (.tmp 8)⟩])
 (.cond (.tmp 7)
 (.seq
 (.ops [
 ⟨(some 9), none, (.bld [(.string ⟨#[]⟩), (.bool false), (.bool false), (.int .i64 0)] [(0, (1, (.const (.string ⟨#[108, 117, 105]⟩)))), (1, (1, (.const (.bool true)))), (2, (1, (.const (.bool false)))), (3, (1, (.const (.int .i64 1))))])⟩,
⟨none,none,.sto true 4 (.tmp 2) (.tmp 9)⟩])
 .ret)
 (.seq
 (.ops [
 ⟨some 11,none,.bin .eql (.tmp 3) (.const (.int .i64 3))⟩,
⟨some 10,none,.mv (.tmp 11)⟩])
 (.cond (.tmp 10)
 (.seq
 (.ops [
 ⟨(some 12), none, (.bld [(.string ⟨#[]⟩), (.bool false), (.bool false), (.int .i64 0)] [(0, (1, (.const (.string ⟨#[109, 111, 118]⟩)))), (1, (1, (.const (.bool true)))), (2, (1, (.const (.bool true)))), (3, (1, (.const (.int .i64 0))))])⟩,
⟨none,none,.sto true 4 (.tmp 2) (.tmp 12)⟩])
 .ret)
 (.seq
 (.ops [
 ⟨some 14,none,.bin .eql (.tmp 3) (.const (.int .i64 4))⟩,
⟨some 13,none,.mv (.tmp 14)⟩])
 (.cond (.tmp 13)
 (.seq
 (.ops [
 ⟨(some 15), none, (.bld [(.string ⟨#[]⟩), (.bool false), (.bool false), (.int .i64 0)] [(0, (1, (.const (.string ⟨#[97, 100, 100]⟩)))), (1, (1, (.const (.bool true)))), (2, (1, (.const (.bool true)))), (3, (1, (.const (.int .i64 2))))])⟩,
⟨none,none,.sto true 4 (.tmp 2) (.tmp 15)⟩])
 .ret)
 (.seq
 (.ops [
 ⟨some 17,none,.bin .eql (.tmp 3) (.const (.int .i64 5))⟩,
⟨some 16,none,.mv (.tmp 17)⟩])
 (.cond (.tmp 16)
 (.seq
 (.ops [
 ⟨(some 18), none, (.bld [(.string ⟨#[]⟩), (.bool false), (.bool false), (.int .i64 0)] [(0, (1, (.const (.string ⟨#[115, 117, 98]⟩)))), (1, (1, (.const (.bool true)))), (2, (1, (.const (.bool true)))), (3, (1, (.const (.int .i64 2))))])⟩,
⟨none,none,.sto true 4 (.tmp 2) (.tmp 18)⟩])
 .ret)
 (.seq
 (.ops [
 ⟨some 20,none,.bin .eql (.tmp 3) (.const (.int .i64 6))⟩,
⟨some 19,none,.mv (.tmp 20)⟩])
 (.cond (.tmp 19)
 (.seq
 (.ops [
 ⟨(some 21), none, (.bld [(.string ⟨#[]⟩), (.bool false), (.bool false), (.int .i64 0)] [(0, (1, (.const (.string ⟨#[109, 117, 108]⟩)))), (1, (1, (.const (.bool true)))), (2, (1, (.const (.bool true)))), (3, (1, (.const (.int .i64 2))))])⟩,
⟨none,none,.sto true 4 (.tmp 2) (.tmp 21)⟩])
 .ret)
 (.seq
 (.ops [
 ⟨some 23,none,.bin .eql (.tmp 3) (.const (.int .i64 7))⟩,
⟨some 22,none,.mv (.tmp 23)⟩])
 (.cond (.tmp 22)
 (.seq
 (.ops [
 ⟨(some 24), none, (.bld [(.string ⟨#[]⟩), (.bool false), (.bool false), (.int .i64 0)] [(0, (1, (.const (.string ⟨#[100, 105, 118]⟩)))), (1, (1, (.const (.bool true)))), (2, (1, (.const (.bool true)))), (3, (1, (.const (.int .i64 2))))])⟩,
⟨none,none,.sto true 4 (.tmp 2) (.tmp 24)⟩])
 .ret)
 (.seq
 (.ops [
 ⟨some 26,none,.bin .eql (.tmp 3) (.const (.int .i64 8))⟩,
⟨some 25,none,.mv (.tmp 26)⟩])
 (.cond (.tmp 25)
 (.seq
 (.ops [
 ⟨(some 27), none, (.bld [(.string ⟨#[]⟩), (.bool false), (.bool false), (.int .i64 0)] [(0, (1, (.const (.string ⟨#[109, 111, 100]⟩)))), (1, (1, (.const (.bool true)))), (2, (1, (.const (.bool true)))), (3, (1, (.const (.int .i64 2))))])⟩,
⟨none,none,.sto true 4 (.tmp 2) (.tmp 27)⟩])
 .ret)
 (.seq
 (.ops [
 ⟨some 29,none,.bin .eql (.tmp 3) (.const (.int .i64 9))⟩,
⟨some 28,none,.mv (.tmp 29)⟩])
 (.cond (.tmp 28)
 (.seq
 (.ops [
 ⟨(some 30), none, (.bld [(.string ⟨#[]⟩), (.bool false), (.bool false), (.int .i64 0)] [(0, (1, (.const (.string ⟨#[97, 110, 100]⟩)))), (1, (1, (.const (.bool true)))), (2, (1, (.const (.bool true)))), (3, (1, (.const (.int .i64 2))))])⟩,
⟨none,none,.sto true 4 (.tmp 2) (.tmp 30)⟩])
 .ret)
 (.seq
 (.ops [
 ⟨some 32,none,.bin .eql (.tmp 3) (.const (.int .i64 10))⟩,
⟨some 31,none,.mv (.tmp 32)⟩])
 (.cond (.tmp 31)
 (.seq
 (.ops [
 ⟨(some 33), none, (.bld [(.string ⟨#[]⟩), (.bool false), (.bool false), (.int .i64 0)] [(0, (1, (.const (.string ⟨#[111, 114]⟩)))), (1, (1, (.const (.bool true)))), (2, (1, (.const (.bool true)))), (3, (1, (.const (.int .i64 2))))])⟩,
⟨none,none,.sto true 4 (.tmp 2) (.tmp 33)⟩])
 .ret)
 (.seq
 (.ops [
 ⟨some 35,none,.bin .eql (.tmp 3) (.const (.int .i64 11))⟩,
⟨some 34,none,.mv (.tmp 35)⟩])
 (.cond (.tmp 34)
 (.seq
 (.ops [
 ⟨(some 36), none, (.bld [(.string ⟨#[]⟩), (.bool false), (.bool false), (.int .i64 0)] [(0, (1, (.const (.string ⟨#[120, 111, 114]⟩)))), (1, (1, (.const (.bool true)))), (2, (1, (.const (.bool true)))), (3, (1, (.const (.int .i64 2))))])⟩,
⟨none,none,.sto true 4 (.tmp 2) (.tmp 36)⟩])
 .ret)
 (.seq
 (.ops [
 ⟨some 38,none,.bin .eql (.tmp 3) (.const (.int .i64 12))⟩,
⟨some 37,none,.mv (.tmp 38)⟩])
 (.cond (.tmp 37)
 (.seq
 (.ops [
 ⟨(some 39), none, (.bld [(.string ⟨#[]⟩), (.bool false), (.bool false), (.int .i64 0)] [(0, (1, (.const (.string ⟨#[115, 104, 108]⟩)))), (1, (1, (.const (.bool true)))), (2, (1, (.const (.bool true)))), (3, (1, (.const (.int .i64 2))))])⟩,
⟨none,none,.sto true 4 (.tmp 2) (.tmp 39)⟩])
 .ret)
 (.seq
 (.ops [
 ⟨some 41,none,.bin .eql (.tmp 3) (.const (.int .i64 13))⟩,
⟨some 40,none,.mv (.tmp 41)⟩])
 (.cond (.tmp 40)
 (.seq
 (.ops [
 ⟨(some 42), none, (.bld [(.string ⟨#[]⟩), (.bool false), (.bool false), (.int .i64 0)] [(0, (1, (.const (.string ⟨#[115, 104, 114]⟩)))), (1, (1, (.const (.bool true)))), (2, (1, (.const (.bool true)))), (3, (1, (.const (.int .i64 2))))])⟩,
⟨none,none,.sto true 4 (.tmp 2) (.tmp 42)⟩])
 .ret)
 (.seq
 (.ops [
 ⟨some 44,none,.bin .eql (.tmp 3) (.const (.int .i64 14))⟩,
⟨some 43,none,.mv (.tmp 44)⟩])
 (.cond (.tmp 43)
 (.seq
 (.ops [
 ⟨(some 45), none, (.bld [(.string ⟨#[]⟩), (.bool false), (.bool false), (.int .i64 0)] [(0, (1, (.const (.string ⟨#[108, 116]⟩)))), (1, (1, (.const (.bool true)))), (2, (1, (.const (.bool true)))), (3, (1, (.const (.int .i64 2))))])⟩,
⟨none,none,.sto true 4 (.tmp 2) (.tmp 45)⟩])
 .ret)
 (.seq
 (.ops [
 ⟨some 47,none,.bin .eql (.tmp 3) (.const (.int .i64 15))⟩,
⟨some 46,none,.mv (.tmp 47)⟩])
 (.cond (.tmp 46)
 (.seq
 (.ops [
 ⟨(some 48), none, (.bld [(.string ⟨#[]⟩), (.bool false), (.bool false), (.int .i64 0)] [(0, (1, (.const (.string ⟨#[101, 113]⟩)))), (1, (1, (.const (.bool true)))), (2, (1, (.const (.bool true)))), (3, (1, (.const (.int .i64 2))))])⟩,
⟨none,none,.sto true 4 (.tmp 2) (.tmp 48)⟩])
 .ret)
 (.seq
 (.ops [
 ⟨some 50,none,.bin .eql (.tmp 3) (.const (.int .i64 16))⟩,
⟨some 49,none,.mv (.tmp 50)⟩])
 (.cond (.tmp 49)
 (.seq
 (.ops [
 ⟨(some 51), none, (.bld [(.string ⟨#[]⟩), (.bool false), (.bool false), (.int .i64 0)] [(0, (1, (.const (.string ⟨#[108, 100]⟩)))), (1, (1, (.const (.bool true)))), (2, (1, (.const (.bool true)))), (3, (1, (.const (.int .i64 1))))])⟩,
⟨none,none,.sto true 4 (.tmp 2) (.tmp 51)⟩])
 .ret)
 (.seq
 (.ops [
 ⟨some 53,none,.bin .eql (.tmp 3) (.const (.int .i64 17))⟩,
⟨some 52,none,.mv (.tmp 53)⟩])
 (.cond (.tmp 52)
 (.seq
 (.ops [
 ⟨(some 54), none, (.bld [(.string ⟨#[]⟩), (.bool false), (.bool false), (.int .i64 0)] [(0, (1, (.const (.string ⟨#[115, 116]⟩)))), (1, (1, (.const (.bool true)))), (2, (1, (.const (.bool true)))), (3, (1, (.const (.int .i64 1))))])⟩,
⟨none,none,.sto true 4 (.tmp 2) (.tmp 54)⟩])
 .ret)
 (.seq
 (.ops [
 ⟨some 56,none,.bin .eql (.tmp 3) (.const (.int .i64 18))⟩,
⟨some 55,none,.mv (.tmp 56)⟩])
 (.cond (.tmp 55)
 (.seq
 (.ops [
 ⟨(some 57), none, (.bld [(.string ⟨#[]⟩), (.bool false), (.bool false), (.int .i64 0)] [(0, (1, (.const (.string ⟨#[106, 109, 112]⟩)))), (1, (1, (.const (.bool false)))), (2, (1, (.const (.bool false)))), (3, (1, (.const (.int .i64 1))))])⟩,
⟨none,none,.sto true 4 (.tmp 2) (.tmp 57)⟩])
 .ret)
 (.seq
 (.ops [
 ⟨some 59,none,.bin .eql (.tmp 3) (.const (.int .i64 19))⟩,
⟨some 58,none,.mv (.tmp 59)⟩])
 (.cond (.tmp 58)
 (.seq
 (.ops [
 ⟨(some 60), none, (.bld [(.string ⟨#[]⟩), (.bool false), (.bool false), (.int .i64 0)] [(0, (1, (.const (.string ⟨#[106, 122]⟩)))), (1, (1, (.const (.bool true)))), (2, (1, (.const (.bool false)))), (3, (1, (.const (.int .i64 1))))])⟩,
⟨none,none,.sto true 4 (.tmp 2) (.tmp 60)⟩])
 .ret)
 (.seq
 (.ops [
 ⟨some 62,none,.bin .eql (.tmp 3) (.const (.int .i64 20))⟩,
⟨some 61,none,.mv (.tmp 62)⟩])
 (.cond (.tmp 61)
 (.seq
 (.ops [
 ⟨(some 63), none, (.bld [(.string ⟨#[]⟩), (.bool false), (.bool false), (.int .i64 0)] [(0, (1, (.const (.string ⟨#[106, 110, 122]⟩)))), (1, (1, (.const (.bool true)))), (2, (1, (.const (.bool false)))), (3, (1, (.const (.int .i64 1))))])⟩,
⟨none,none,.sto true 4 (.tmp 2) (.tmp 63)⟩])
 .ret)
 (.seq
 (.ops [
 ⟨some 65,none,.bin .eql (.tmp 3) (.const (.int .i64 21))⟩,
⟨some 64,none,.mv (.tmp 65)⟩])
 (.cond (.tmp 64)
 (.seq
 (.ops [
 ⟨(some 66), none, (.bld [(.string ⟨#[]⟩), (.bool false), (.bool false), (.int .i64 0)] [(0, (1, (.const (.string ⟨#[99, 97, 108, 108]⟩)))), (1, (1, (.const (.bool true)))), (2, (1, (.const (.bool false)))), (3, (1, (.const (.int .i64 1))))])⟩,
⟨none,none,.sto true 4 (.tmp 2) (.tmp 66)⟩])
 .ret)
 (.seq
 (.ops [
 ⟨some 68,none,.bin .eql (.tmp 3) (.const (.int .i64 22))⟩,
⟨some 67,none,.mv (.tmp 68)⟩])
 (.cond (.tmp 67)
 (.seq
 (.ops [
 ⟨(some 69), none, (.bld [(.string ⟨#[]⟩), (.bool false), (.bool false), (.int .i64 0)] [(0, (1, (.const (.string ⟨#[114, 101, 116]⟩)))), (1, (1, (.const (.bool true)))), (2, (1, (.const (.bool false)))), (3, (1, (.const (.int .i64 0))))])⟩,
⟨none,none,.sto true 4 (.tmp 2) (.tmp 69)⟩])
 .ret)
 (.seq
 (.ops [
 ⟨some 71,none,.bin .eql (.tmp 3) (.const (.int .i64 23))⟩,
⟨some 70,none,.mv (.tmp 71)⟩])
 (.cond (.tmp 70)
 (.seq
 (.ops [
 ⟨(some 72), none, (.bld [(.string ⟨#[]⟩), (.bool false), (.bool false), (.int .i64 0)] [(0, (1, (.const (.string ⟨#[103, 101, 116]⟩)))), (1, (1, (.const (.bool true)))), (2, (1, (.const (.bool false)))), (3, (1, (.const (.int .i64 0))))])⟩,
⟨none,none,.sto true 4 (.tmp 2) (.tmp 72)⟩])
 .ret)
 (.seq
 (.ops [
 ⟨some 74,none,.bin .eql (.tmp 3) (.const (.int .i64 24))⟩,
⟨some 73,none,.mv (.tmp 74)⟩])
 (.cond (.tmp 73)
 (.seq
 (.ops [
 ⟨(some 75), none, (.bld [(.string ⟨#[]⟩), (.bool false), (.bool false), (.int .i64 0)] [(0, (1, (.const (.string ⟨#[112, 117, 116]⟩)))), (1, (1, (.const (.bool true)))), (2, (1, (.const (.bool false)))), (3, (1, (.const (.int .i64 0))))])⟩,
⟨none,none,.sto true 4 (.tmp 2) (.tmp 75)⟩])
 .ret)
 (.seq
 (.ops [
 ⟨some 77,none,.bin .eql (.tmp 3) (.const (.int .i64 25))⟩,
⟨some 76,none,.mv (.tmp 77)⟩])
 (.cond (.tmp 76)
 (.seq
 (.ops [
 ⟨(some 78), none, (.bld [(.string ⟨#[]⟩), (.bool false), (.bool false), (.int .i64 0)] [(0, (1, (.const (.string ⟨#[99, 104, 107]⟩)))), (1, (1, (.const (.bool true)))), (2, (1, (.const (.bool false)))), (3, (1, (.const (.int .i64 1))))])⟩,
⟨none,none,.sto true 4 (.tmp 2) (.tmp 78)⟩])
 .ret)
 (.seq
 (.ops [
 ⟨some 80,none,.bin .eql (.tmp 3) (.const (.int .i64 26))⟩,
⟨some 79,none,.mv (.tmp 80)⟩])
 (.cond (.tmp 79)
 (.seq
 (.ops [
 ⟨(some 81), none, (.bld [(.string ⟨#[]⟩), (.bool false), (.bool false), (.int .i64 0)] [(0, (1, (.const (.string ⟨#[104, 97, 108, 116]⟩)))), (1, (1, (.const (.bool false)))), (2, (1, (.const (.bool false)))), (3, (1, (.const (.int .i64 0))))])⟩,
⟨none,none,.sto true 4 (.tmp 2) (.tmp 81)⟩])
 .ret)
 (.seq
 (.ops [
 ⟨some 83,none,.bin .eql (.tmp 3) (.const (.int .i64 27))⟩,
⟨some 82,none,.mv (.tmp 83)⟩])
 (.cond (.tmp 82)
 (.seq
 (.ops [
 ⟨(some 84), none, (.bld [(.string ⟨#[]⟩), (.bool false), (.bool false), (.int .i64 0)] [(0, (1, (.const (.string ⟨#[108, 100, 99]⟩)))), (1, (1, (.const (.bool true)))), (2, (1, (.const (.bool true)))), (3, (1, (.const (.int .i64 1))))])⟩,
⟨none,none,.sto true 4 (.tmp 2) (.tmp 84)⟩])
 .ret)
 .skip))))))))))))))))))))))))))))))))))))))))))))))))))))))))
 (.seq
 (.ops [
 ⟨(some 85), none, (.bld [(.string ⟨#[]⟩), (.bool false), (.bool false), (.int .i64 0)] [])⟩,
⟨none,none,.sto true 4 (.tmp 2) (.tmp 85)⟩])
 .ret)))
theorem f_inst_shapeOf : compF Try.prog 88 = some (86, c_inst_shapeOf, [(.cell 2 true 4)]) := by kernel_rfl
def c_inst_within : VC :=
 (.seq
 (.ops [
 ⟨some 6,none,.mv (.const (.bool false))⟩])
 (.seq
 (.seq
 (.ops [
 ⟨some 7,none,.mv (.tmp 2)⟩,
⟨some 8,none,.un .not (.tmp 7)⟩])
 (.cond (.tmp 8)
 (.seq
 (.ops [
 ⟨some 9,none,.mv (.tmp 0)⟩,
⟨some 10,none,.bin .eql (.tmp 9) (.const (.int .i64 0))⟩,
⟨some 6,none,.mv (.tmp 10)⟩])
 .ret)
 .skip))
 (.seq
 (.ops [
 ⟨some 11,none,.mv (.tmp 0)⟩,
⟨some 12,none,.bin .geq (.tmp 11) (.const (.int .i64 0))⟩,
⟨some 13,none,.mv (.tmp 12)⟩,
⟨some 14,some (13,true),.mv (.tmp 0)⟩,
⟨some 15,some (13,true),.mv (.tmp 1)⟩,
⟨some 16,some (13,true),.bin .leq (.tmp 14) (.tmp 15)⟩,
⟨some 17,none,.pick (.tmp 13) (.tmp 16) (.const (.bool false))⟩,
⟨some 6,none,.mv (.tmp 17)⟩])
 .ret)))
theorem f_inst_within : compF Try.prog 89 = some (18, c_inst_within, [.tmp 6]) := by kernel_rfl
def c_scref07_Decode : VC :=
 (.seq
 (.ops [
 ⟨some 2,none,.alc 115 [.int .i64 0,.int .i64 0,.int .i64 0,.int .i64 0]⟩,
⟨some 3,none,.mv (.const (.int .i64 0))⟩])
 (.seq
 (.ops [
 ⟨some 5,none,.mv (.tmp 0)⟩,
⟨some 6,none,.bin .quo (.tmp 5) (.const (.int .u32 16777216))⟩,
⟨some 7,none,.conv .i64 (.tmp 6)⟩,
⟨some 8,none,.mv (.tmp 0)⟩,
⟨some 9,none,.bin .quo (.tmp 8) (.const (.int .u32 1048576))⟩,
⟨some 10,none,.bin .rem (.tmp 9) (.const (.int .u32 16))⟩,
⟨some 11,none,.conv .i64 (.tmp 10)⟩,
⟨some 12,none,.mv (.tmp 0)⟩,
⟨some 13,none,.bin .quo (.tmp 12) (.const (.int .u32 65536))⟩,
⟨some 14,none,.bin .rem (.tmp 13) (.const (.int .u32 16))⟩,
⟨some 15,none,.conv .i64 (.tmp 14)⟩,
⟨some 16,none,.mv (.tmp 0)⟩,
⟨some 17,none,.bin .rem (.tmp 16) (.const (.int .u32 65536))⟩,
⟨some 18,none,.conv .i64 (.tmp 17)⟩,
⟨some 19,none,.bld [.int .i64 0,.int .i64 0,.int .i64 0,.int .i64 0] [(0, (1, (.tmp 7))), (1, (1, (.tmp 11))), (2, (1, (.tmp 15))), (3, (1, (.tmp 18)))]⟩,
⟨some 4,none,.alc 115 [.int .i64 0,.int .i64 0,.int .i64 0,.int .i64 0]⟩,
⟨none,none,.sto true 4 (.tmp 4) (.tmp 19)⟩])
 (.seq
 (.seq
 (.ops [
 ⟨some 20,none,.ld true 4 (.tmp 4)⟩,
⟨some 21,none,.call (.func 103) [.tmp 20]⟩,
⟨some 22,none,.un .not (.tmp 21)⟩])
 (.cond (.tmp 22)
 (.seq
 (.ops [
 ⟨some 23,none,.bld [.int .i64 0,.int .i64 0,.int .i64 0,.int .i64 0] []⟩,
⟨none,none,.sto true 4 (.tmp 2) (.tmp 23)⟩,
⟨some 3,none,.mv (.const (.int .i64 7))⟩])
 .ret)
 .skip))
 (.seq
 (.ops [
 ⟨some 24,none,.ld true 4 (.tmp 4)⟩,
⟨none,none,.sto true 4 (.tmp 2) (.tmp 24)⟩,
⟨some 3,none,.mv (.const (.int .i64 0))⟩])
 .ret))))
theorem f_scref07_Decode : compF Try.prog 93 = some (25, c_scref07_Decode, [(.cell 2 true 4), (.tmp 3)]) := by kernel_rfl
def c_scref10_work_set : VC :=
 (.seq
 (.ops [
 ⟨some 6,none,.mv (.tmp 0)⟩,
⟨some 7,none,.mv (.tmp 1)⟩,
⟨some 8,none,.mv (.tmp 2)⟩,
⟨some 9,none,.nck (.tmp 6)⟩,
⟨some 10,none,.fad 0 true 22 (.tmp 9)⟩,
⟨some 11,none,.fad 1 true 16 (.tmp 10)⟩,
⟨some 12,none,.aidx 16 false 1 (.tmp 11) (.tmp 7)⟩,
⟨none,none,.sto false 1 (.tmp 12) (.tmp 8)⟩])
 (.ops [
 ⟨some 13,none,.mv (.tmp 0)⟩,
⟨some 14,none,.nck (.tmp 13)⟩,
⟨some 15,none,.fad 0 true 22 (.tmp 14)⟩,
⟨some 16,none,.fad 0 false 1 (.tmp 15)⟩,
⟨some 17,none,.ld false 1 (.tmp 16)⟩,
⟨some 18,none,.bin .add (.tmp 17) (.const (.int .i64 1))⟩,
⟨some 19,none,.nck (.tmp 13)⟩,
⟨some 20,none,.fad 0 true 22 (.tmp 19)⟩,
⟨some 21,none,.fad 0 false 1 (.tmp 20)⟩,
⟨none,none,.sto false 1 (.tmp 21) (.tmp 18)⟩]))
theorem f_scref10_work_set : compF Try.prog 94 = some (22, c_scref10_work_set, []) := by kernel_rfl
def c_scref10_fetch : VC :=
 (.seq
 (.ops [
 ⟨some 6,none,.mv (.const (.int .u32 0))⟩,
⟨some 7,none,.mv (.const (.bool false))⟩])
 (.seq
 (.ops [
 ⟨some 9,none,.mv (.tmp 1)⟩,
⟨some 10,none,.mv (.tmp 2)⟩,
⟨some 11,none,.conv .u32 (.tmp 10)⟩,
⟨some 12,none,.bin .add (.tmp 9) (.tmp 11)⟩,
⟨some 8,none,.mv (.tmp 12)⟩])
 (.seq
 (.seq
 (.ops [
 ⟨some 13,none,.mv (.tmp 8)⟩,
⟨some 14,none,.conv .u64 (.tmp 13)⟩,
⟨some 15,none,.mv (.tmp 0)⟩,
⟨some 16,none,.len (.tmp 15)⟩,
⟨some 17,none,.conv .u64 (.tmp 16)⟩,
⟨some 18,none,.bin .geq (.tmp 14) (.tmp 17)⟩])
 (.cond (.tmp 18)
 (.seq
 (.ops [
 ⟨some 6,none,.mv (.const (.int .u32 0))⟩,
⟨some 7,none,.mv (.const (.bool false))⟩])
 .ret)
 .skip))
 (.seq
 (.ops [
 ⟨some 19,none,.mv (.tmp 0)⟩,
⟨some 20,none,.mv (.tmp 8)⟩,
⟨some 21,none,.idx 1 (.tmp 19) (.tmp 20)⟩,
⟨some 22,none,.ld false 1 (.tmp 21)⟩,
⟨some 6,none,.mv (.tmp 22)⟩,
⟨some 7,none,.mv (.const (.bool true))⟩])
 .ret))))
theorem f_scref10_fetch : compF Try.prog 95 = some (23, c_scref10_fetch, [.tmp 6,.tmp 7]) := by kernel_rfl
def c_scref10_work_jump : VC :=
 (.seq
 (.ops [
 ⟨some 6,none,.mv (.tmp 1)⟩])
 (.cond (.tmp 6)
 (.ops [
 ⟨some 7,none,.mv (.tmp 0)⟩,
⟨some 8,none,.mv (.tmp 2)⟩,
⟨some 9,none,.nck (.tmp 7)⟩,
⟨some 10,none,.fad 0 true 22 (.tmp 9)⟩,
⟨some 11,none,.fad 0 false 1 (.tmp 10)⟩,
⟨none,none,.sto false 1 (.tmp 11) (.tmp 8)⟩])
 (.ops [
 ⟨some 12,none,.mv (.tmp 0)⟩,
⟨some 13,none,.nck (.tmp 12)⟩,
⟨some 14,none,.fad 0 true 22 (.tmp 13)⟩,
⟨some 15,none,.fad 0 false 1 (.tmp 14)⟩,
⟨some 16,none,.ld false 1 (.tmp 15)⟩,
⟨some 17,none,.bin .add (.tmp 16) (.const (.int .i64 1))⟩,
⟨some 18,none,.nck (.tmp 12)⟩,
⟨some 19,none,.fad 0 true 22 (.tmp 18)⟩,
⟨some 20,none,.fad 0 false 1 (.tmp 19)⟩,
⟨none,none,.sto false 1 (.tmp 20) (.tmp 17)⟩])))
theorem f_scref10_work_jump : compF Try.prog 96 = some (21, c_scref10_work_jump, []) := by kernel_rfl
def c_scref27_sized : VC :=
 (.seq
 (.ops [
 ⟨some 6,none,.mv (.const (.bool false))⟩])
 (.seq
 (.seq
 (.ops [
 ⟨some 8,none,.mv (.tmp 0)⟩,
⟨some 9,none,.len (.tmp 8)⟩,
⟨some 10,none,.mv (.tmp 1)⟩,
⟨some 11,none,.bin .neq (.tmp 9) (.tmp 10)⟩])
 (.cond (.tmp 11)
 (.seq
 (.ops [
 ⟨some 6,none,.mv (.const (.bool false))⟩])
 .ret)
 .skip))
 (.seq
 (.seq
 (.ops [
 ⟨some 7,none,.mv (.const (.int .i64 0))⟩])
 (.block 0
 (.loop
 (.seq
 (.seq
 (.ops [
 ⟨some 12,none,.mv (.tmp 7)⟩,
⟨some 13,none,.mv (.tmp 1)⟩,
⟨some 14,none,.bin .lss (.tmp 12) (.tmp 13)⟩])
 (.cond (.tmp 14)
 .skip
 (.exit 0)))
 (.seq
 (.block 1
 (.seq
 (.ops [
 ⟨some 17,none,.mv (.tmp 0)⟩,
⟨some 18,none,.mv (.tmp 7)⟩,
⟨some 19,none,.idx 1 (.tmp 17) (.tmp 18)⟩,
⟨some 20,none,.ld false 1 (.tmp 19)⟩,
⟨some 21,none,.len (.tmp 20)⟩,
⟨some 22,none,.mv (.tmp 2)⟩,
⟨some 23,none,.bin .neq (.tmp 21) (.tmp 22)⟩])
 (.cond (.tmp 23)
 (.seq
 (.ops [
 ⟨some 6,none,.mv (.const (.bool false))⟩])
 .ret)
 .skip)))
 (.ops [
 ⟨some 15,none,.mv (.tmp 7)⟩,
⟨some 16,none,.bin .add (.tmp 15) (.const (.int .i64 1))⟩,
⟨some 7,none,.mv (.tmp 16)⟩]))))))
 (.seq
 (.ops [
 ⟨some 6,none,.mv (.const (.bool true))⟩])
 .ret))))
theorem f_scref27_sized : compF Try.prog 97 = some (24, c_scref27_sized, [.tmp 6]) := by kernel_rfl
def c_live_down_1 : VC :=
 (.seq
 (.ops [
 ⟨some 4,none,.ld false 1 (.tmp 1)⟩,
⟨some 5,none,.bin .sub (.tmp 4) (.const (.int .i64 1))⟩,
⟨some 3,none,.mv (.tmp 5)⟩])
 (.block 0
 (.loop
 (.seq
 (.seq
 (.ops [
 ⟨some 6,none,.mv (.tmp 3)⟩,
⟨some 7,none,.bin .geq (.tmp 6) (.const (.int .i64 0))⟩])
 (.cond (.tmp 7)
 .skip
 (.exit 0)))
 (.seq
 (.block 1
 (.seq
 (.ops [
 ⟨some 10,none,.mv (.tmp 0)⟩,
⟨some 11,none,.mv (.tmp 3)⟩,
⟨some 12,none,.ycal (.tmp 10) [.tmp 11]⟩,
⟨some 13,none,.un .not (.tmp 12)⟩])
 (.cond (.tmp 13)
 .ret
 .skip)))
 (.ops [
 ⟨some 8,none,.mv (.tmp 3)⟩,
⟨some 9,none,.bin .sub (.tmp 8) (.const (.int .i64 1))⟩,
⟨some 3,none,.mv (.tmp 9)⟩]))))))
theorem f_live_down_1 : compFB Try.prog true 98 = some (14, c_live_down_1, []) := by kernel_rfl
def c_block_sets : VC :=
 (.seq
 (.ops [
 ⟨some 2,none,.mv (.const (.bool false))⟩])
 (.seq
 (.seq
 (.ops [
 ⟨some 3,none,.mv (.tmp 0)⟩])
 (.block 0
 (.seq
 (.seq
 (.ops [
 ⟨some 5,none,.bin .eql (.tmp 3) (.const (.int .i64 1))⟩,
⟨some 4,none,.mv (.tmp 5)⟩])
 (.cond (.tmp 4)
 .skip
 (.seq
 (.ops [
 ⟨some 6,none,.bin .eql (.tmp 3) (.const (.int .i64 2))⟩,
⟨some 4,none,.mv (.tmp 6)⟩])
 (.cond (.tmp 4)
 .skip
 (.seq
 (.ops [
 ⟨some 7,none,.bin .eql (.tmp 3) (.const (.int .i64 3))⟩,
⟨some 4,none,.mv (.tmp 7)⟩])
 (.cond (.tmp 4)
 .skip
 (.seq
 (.ops [
 ⟨some 8,none,.bin .eql (.tmp 3) (.const (.int .i64 4))⟩,
⟨some 4,none,.mv (.tmp 8)⟩])
 (.cond (.tmp 4)
 .skip
 (.seq
 (.ops [
 ⟨some 9,none,.bin .eql (.tmp 3) (.const (.int .i64 6))⟩,
⟨some 4,none,.mv (.tmp 9)⟩])
 (.cond (.tmp 4)
 .skip
 (.ops [
 ⟨some 10,none,.bin .eql (.tmp 3) (.const (.int .i64 8))⟩,
⟨some 4,none,.mv (.tmp 10)⟩])))))))))))
 (.cond (.tmp 4)
 (.seq
 (.ops [
 ⟨some 2,none,.mv (.const (.bool true))⟩])
 .ret)
 .skip))))
 (.seq
 (.ops [
 ⟨some 2,none,.mv (.const (.bool false))⟩])
 .ret)))
theorem f_block_sets : compF Try.prog 99 = some (11, c_block_sets, [.tmp 2]) := by kernel_rfl
def c_block_reads : VC :=
 (.seq
 (.ops [
 ⟨some 2,none,.mv (.const (.int .i64 0))⟩])
 (.seq
 (.seq
 (.ops [
 ⟨some 3,none,.mv (.tmp 0)⟩])
 (.block 0
 (.seq
 (.seq
 (.ops [
 ⟨some 5,none,.bin .eql (.tmp 3) (.const (.int .i64 2))⟩,
⟨some 4,none,.mv (.tmp 5)⟩])
 (.cond (.tmp 4)
 .skip
 (.seq
 (.ops [
 ⟨some 6,none,.bin .eql (.tmp 3) (.const (.int .i64 5))⟩,
⟨some 4,none,.mv (.tmp 6)⟩])
 (.cond (.tmp 4)
 .skip
 (.seq
 (.ops [
 ⟨some 7,none,.bin .eql (.tmp 3) (.const (.int .i64 6))⟩,
⟨some 4,none,.mv (.tmp 7)⟩])
 (.cond (.tmp 4)
 .skip
 (.ops [
 ⟨some 8,none,.bin .eql (.tmp 3) (.const (.int .i64 9))⟩,
⟨some 4,none,.mv (.tmp 8)⟩])))))))
 (.cond (.tmp 4)
 (.seq
 (.ops [
 ⟨some 2,none,.mv (.const (.int .i64 1))⟩])
 .ret)
 (.seq
 (.seq
 (.ops [
 ⟨some 10,none,.bin .eql (.tmp 3) (.const (.int .i64 3))⟩,
⟨some 9,none,.mv (.tmp 10)⟩])
 (.cond (.tmp 9)
 .skip
 (.ops [
 ⟨some 11,none,.bin .eql (.tmp 3) (.const (.int .i64 7))⟩,
⟨some 9,none,.mv (.tmp 11)⟩])))
 (.cond (.tmp 9)
 (.seq
 (.ops [
 ⟨some 2,none,.mv (.const (.int .i64 2))⟩])
 .ret)
 .skip))))))
 (.seq
 (.ops [
 ⟨some 2,none,.mv (.const (.int .i64 0))⟩])
 .ret)))
theorem f_block_reads : compF Try.prog 100 = some (12, c_block_reads, [.tmp 2]) := by kernel_rfl
def c_scref07_Right : VC :=
 (.seq
 (.ops [
 ⟨some 1,none,.box 115 (.tmp 0)⟩,
⟨some 2,none,.mv (.const (.bool false))⟩])
 (.seq
 (.ops [
 ⟨some 5,none,.fad 0 false 1 (.tmp 1)⟩,
⟨some 6,none,.ld false 1 (.tmp 5)⟩,
⟨some 7,none,.call (.func 104) [.tmp 6]⟩,
⟨some 3,none,.mv (.tmp 7)⟩])
 (.seq
 (.ops [
 ⟨some 4,none,.mv (.const (.int .i64 65535))⟩])
 (.seq
 (.seq
 (.ops [
 ⟨some 8,none,.mv (.tmp 3)⟩,
⟨some 9,none,.call (.func 105) [(.tmp 8), (.const (.int .u8 114))]⟩])
 (.cond (.tmp 9)
 (.ops [
 ⟨some 4,none,.mv (.const (.int .i64 15))⟩])
 .skip))
 (.seq
 (.par false (.one ⟨some 10,none,.mv (.tmp 3)⟩ (.one ⟨(some 11), none, (.bin .neq (.tmp 10) (.const (.string ⟨#[63]⟩)))⟩ (.one ⟨some 12,none,.mv (.tmp 11)⟩ (.one ⟨some 13,some (12,true),.mv (.tmp 3)⟩ (.one ⟨some 14,some (12,true),.call (.func 105) [(.tmp 13), (.const (.int .u8 97))]⟩ (.one ⟨some 15,some (12,true),.fad 1 false 1 (.tmp 1)⟩ (.one ⟨some 16,some (12,true),.ld false 1 (.tmp 15)⟩ (.one ⟨some 17,some (12,true),.call (.func 106) [(.tmp 14), (.tmp 16), (.const (.int .i64 15))]⟩ (.one ⟨some 18,none,.pick (.tmp 12) (.tmp 17) (.const (.bool false))⟩ (.one ⟨some 19,none,.mv (.tmp 18)⟩ (.one ⟨some 20,some (19,true),.mv (.tmp 3)⟩ (.one ⟨some 21,some (19,true),.call (.func 105) [(.tmp 20), (.const (.int .u8 98))]⟩ (.one ⟨some 22,some (19,true),.fad 2 false 1 (.tmp 1)⟩ (.one ⟨some 23,some (19,true),.ld false 1 (.tmp 22)⟩ (.one ⟨some 24,some (19,true),.call (.func 106) [(.tmp 21), (.tmp 23), (.const (.int .i64 15))]⟩ (.one ⟨some 25,none,.pick (.tmp 19) (.tmp 24) (.const (.bool false))⟩ (.one ⟨some 26,none,.mv (.tmp 25)⟩ (.one ⟨some 27,some (26,true),.mv (.tmp 3)⟩ (.one ⟨some 28,some (26,true),.call (.func 105) [(.tmp 27), (.const (.int .u8 99))]⟩ (.one ⟨some 29,some (26,true),.mv (.tmp 28)⟩ (.one ⟨some 30,some (29,false),.mv (.tmp 3)⟩ (.one ⟨some 31,some (29,false),.call (.func 105) [(.tmp 30), (.const (.int .u8 114))]⟩ (.one ⟨some 32,some (26,true),.pick (.tmp 29) (.const (.bool true)) (.tmp 31)⟩ (.one ⟨some 33,some (26,true),.fad 3 false 1 (.tmp 1)⟩ (.one ⟨some 34,some (26,true),.ld false 1 (.tmp 33)⟩ (.one ⟨some 35,some (26,true),.mv (.tmp 4)⟩ (.one ⟨some 36,some (26,true),.call (.func 106) [.tmp 32,.tmp 34,.tmp 35]⟩ (.one ⟨some 37,none,.pick (.tmp 26) (.tmp 36) (.const (.bool false))⟩ (.one ⟨some 2,none,.mv (.tmp 37)⟩ .done))))))))))))))))))))))))))))))
 .ret)))))
theorem f_scref07_Right : compF Try.prog 103 = some (38, c_scref07_Right, [.tmp 2]) := by kernel_rfl
def c_scref07_Parts : VC :=
 (.seq
 (.ops [
 ⟨(some 2), none, (.mv (.const (.string ⟨#[]⟩)))⟩])
 (.seq
 (.seq
 (.ops [
 ⟨some 3,none,.mv (.tmp 0)⟩])
 (.block 0
 (.seq
 (.seq
 (.ops [
 ⟨some 5,none,.bin .eql (.tmp 3) (.const (.int .i64 1))⟩,
⟨some 4,none,.mv (.tmp 5)⟩])
 (.cond (.tmp 4)
 .skip
 (.seq
 (.ops [
 ⟨some 6,none,.bin .eql (.tmp 3) (.const (.int .i64 2))⟩,
⟨some 4,none,.mv (.tmp 6)⟩])
 (.cond (.tmp 4)
 .skip
 (.seq
 (.ops [
 ⟨some 7,none,.bin .eql (.tmp 3) (.const (.int .i64 19))⟩,
⟨some 4,none,.mv (.tmp 7)⟩])
 (.cond (.tmp 4)
 .skip
 (.seq
 (.ops [
 ⟨some 8,none,.bin .eql (.tmp 3) (.const (.int .i64 20))⟩,
⟨some 4,none,.mv (.tmp 8)⟩])
 (.cond (.tmp 4)
 .skip
 (.seq
 (.ops [
 ⟨some 9,none,.bin .eql (.tmp 3) (.const (.int .i64 21))⟩,
⟨some 4,none,.mv (.tmp 9)⟩])
 (.cond (.tmp 4)
 .skip
 (.ops [
 ⟨some 10,none,.bin .eql (.tmp 3) (.const (.int .i64 25))⟩,
⟨some 4,none,.mv (.tmp 10)⟩])))))))))))
 (.cond (.tmp 4)
 (.seq
 (.ops [
 ⟨(some 2), none, (.mv (.const (.string ⟨#[97, 99]⟩)))⟩])
 .ret)
 (.seq
 (.ops [
 ⟨some 12,none,.bin .eql (.tmp 3) (.const (.int .i64 3))⟩,
⟨some 11,none,.mv (.tmp 12)⟩])
 (.cond (.tmp 11)
 (.seq
 (.ops [
 ⟨(some 2), none, (.mv (.const (.string ⟨#[97, 98]⟩)))⟩])
 .ret)
 (.seq
 (.seq
 (.ops [
 ⟨some 14,none,.bin .eql (.tmp 3) (.const (.int .i64 16))⟩,
⟨some 13,none,.mv (.tmp 14)⟩])
 (.cond (.tmp 13)
 .skip
 (.seq
 (.ops [
 ⟨some 15,none,.bin .eql (.tmp 3) (.const (.int .i64 17))⟩,
⟨some 13,none,.mv (.tmp 15)⟩])
 (.cond (.tmp 13)
 .skip
 (.ops [
 ⟨some 16,none,.bin .eql (.tmp 3) (.const (.int .i64 27))⟩,
⟨some 13,none,.mv (.tmp 16)⟩])))))
 (.cond (.tmp 13)
 (.seq
 (.ops [
 ⟨(some 2), none, (.mv (.const (.string ⟨#[97, 98, 99]⟩)))⟩])
 .ret)
 (.seq
 (.ops [
 ⟨some 18,none,.bin .eql (.tmp 3) (.const (.int .i64 18))⟩,
⟨some 17,none,.mv (.tmp 18)⟩])
 (.cond (.tmp 17)
 (.seq
 (.ops [
 ⟨(some 2), none, (.mv (.const (.string ⟨#[99]⟩)))⟩])
 .ret)
 (.seq
 (.seq
 (.ops [
 ⟨some 20,none,.bin .eql (.tmp 3) (.const (.int .i64 22))⟩,
⟨some 19,none,.mv (.tmp 20)⟩])
 (.cond (.tmp 19)
 .skip
 (.seq
 (.ops [
 ⟨some 21,none,.bin .eql (.tmp 3) (.const (.int .i64 23))⟩,
⟨some 19,none,.mv (.tmp 21)⟩])
 (.cond (.tmp 19)
 .skip
 (.ops [
 ⟨some 22,none,.bin .eql (.tmp 3) (.const (.int .i64 24))⟩,
⟨some 19,none,.mv (.tmp 22)⟩])))))
 (.cond (.tmp 19)
 (.seq
 (.ops [
 ⟨(some 2), none, (.mv (.const (.string ⟨#[97]⟩)))⟩])
 .ret)
 (.seq
 (.ops [
 ⟨some 24,none,.bin .eql (.tmp 3) (.const (.int .i64 26))⟩,
⟨some 23,none,.mv (.tmp 24)⟩])
 (.cond (.tmp 23)
 (.seq
 (.ops [
 ⟨(some 2), none, (.mv (.const (.string ⟨#[]⟩)))⟩])
 .ret)
 .skip))))))))))))))
 (.seq
 (.seq
 (.ops [
 ⟨some 25,none,.mv (.tmp 0)⟩,
⟨some 26,none,.bin .geq (.tmp 25) (.const (.int .i64 4))⟩,
⟨some 27,none,.mv (.tmp 26)⟩,
⟨some 28,some (27,true),.mv (.tmp 0)⟩,
⟨some 29,some (27,true),.bin .leq (.tmp 28) (.const (.int .i64 15))⟩,
⟨some 30,none,.pick (.tmp 27) (.tmp 29) (.const (.bool false))⟩])
 (.cond (.tmp 30)
 (.seq
 (.ops [
 ⟨(some 2), none, (.mv (.const (.string ⟨#[97, 98, 114]⟩)))⟩])
 .ret)
 .skip))
 (.seq
 (.ops [
 ⟨(some 2), none, (.mv (.const (.string ⟨#[63]⟩)))⟩])
 .ret))))
theorem f_scref07_Parts : compF Try.prog 104 = some (31, c_scref07_Parts, [.tmp 2]) := by kernel_rfl
def c_scref07_has : VC :=
 (.seq
 (.ops [
 ⟨some 4,none,.mv (.const (.bool false))⟩])
 (.seq
 (.seq
 (.ops [
 ⟨some 5,none,.mv (.const (.int .i64 0))⟩])
 (.block 0
 (.loop
 (.seq
 (.seq
 (.ops [
 ⟨some 6,none,.mv (.tmp 5)⟩,
⟨some 7,none,.mv (.tmp 0)⟩,
⟨some 8,none,.lens (.tmp 7)⟩,
⟨some 9,none,.bin .lss (.tmp 6) (.tmp 8)⟩])
 (.cond (.tmp 9)
 .skip
 (.exit 0)))
 (.seq
 (.block 1
 (.seq
 (.ops [
 ⟨some 12,none,.mv (.tmp 0)⟩,
⟨some 13,none,.mv (.tmp 5)⟩,
⟨some 14,none,.pur .six [.tmp 12,.tmp 13]⟩,
⟨some 15,none,.mv (.tmp 1)⟩,
⟨some 16,none,.bin .eql (.tmp 14) (.tmp 15)⟩])
 (.cond (.tmp 16)
 (.seq
 (.ops [
 ⟨some 4,none,.mv (.const (.bool true))⟩])
 .ret)
 .skip)))
 (.ops [
 ⟨some 10,none,.mv (.tmp 5)⟩,
⟨some 11,none,.bin .add (.tmp 10) (.const (.int .i64 1))⟩,
⟨some 5,none,.mv (.tmp 11)⟩]))))))
 (.seq
 (.ops [
 ⟨some 4,none,.mv (.const (.bool false))⟩])
 .ret)))
theorem f_scref07_has : compF Try.prog 105 = some (17, c_scref07_has, [.tmp 4]) := by kernel_rfl
def c_scref07_within : VC :=
 (.seq
 (.ops [
 ⟨some 6,none,.mv (.const (.bool false))⟩])
 (.seq
 (.seq
 (.ops [
 ⟨some 7,none,.mv (.tmp 0)⟩,
⟨some 8,none,.un .not (.tmp 7)⟩])
 (.cond (.tmp 8)
 (.seq
 (.ops [
 ⟨some 9,none,.mv (.tmp 1)⟩,
⟨some 10,none,.bin .eql (.tmp 9) (.const (.int .i64 0))⟩,
⟨some 6,none,.mv (.tmp 10)⟩])
 .ret)
 .skip))
 (.seq
 (.ops [
 ⟨some 11,none,.mv (.tmp 1)⟩,
⟨some 12,none,.bin .geq (.tmp 11) (.const (.int .i64 0))⟩,
⟨some 13,none,.mv (.tmp 12)⟩,
⟨some 14,some (13,true),.mv (.tmp 1)⟩,
⟨some 15,some (13,true),.mv (.tmp 2)⟩,
⟨some 16,some (13,true),.bin .leq (.tmp 14) (.tmp 15)⟩,
⟨some 17,none,.pick (.tmp 13) (.tmp 16) (.const (.bool false))⟩,
⟨some 6,none,.mv (.tmp 17)⟩])
 .ret)))
theorem f_scref07_within : compF Try.prog 106 = some (18, c_scref07_within, [.tmp 6]) := by kernel_rfl
theorem hmix : Try.prog.follows .mixedOrders = true := by kernel_rfl
end Go.Proofs.Ytkbhfokbhkmfgaa
