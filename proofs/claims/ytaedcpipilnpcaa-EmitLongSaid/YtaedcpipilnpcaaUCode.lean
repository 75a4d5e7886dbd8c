/-
  The functions of this seat, made small by the program: each is what the engine makes of the function of that number. No condition.
-/
import Derived.Test.YtaedcpipilnpcaaUS
import Derived.Test.YtaedcpipilnpcaaRows
import Derived.KernelRfl
set_option linter.unusedVariables false
set_option linter.unusedSimpArgs false
namespace Go.Proofs.Ytaedcpipilnpcaa
open Go.V
def c_sclaw22_EmitLong : VC :=
 (.seq
 (.ops [
 ⟨some 6,none,.mv (.const (.bool false))⟩])
 (.seq
 (.seq
 (.ops [
 ⟨some 15,none,.call (.func 7) []⟩,
⟨some 16,none,.un .not (.tmp 15)⟩])
 (.cond (.tmp 16)
 (.seq
 (.ops [
 ⟨some 6,none,.mv (.const (.bool false))⟩])
 .ret)
 .skip))
 (.seq
 (.ops [
 ⟨some 17,none,.mv (.tmp 0)⟩,
⟨some 18,none,.conv .i64 (.tmp 17)⟩,
⟨some 19,none,.bin .rem (.tmp 18) (.const (.int .i64 1990))⟩,
⟨some 20,none,.bin .add (.const (.int .i64 4)) (.tmp 19)⟩,
⟨some 7,none,.mv (.tmp 20)⟩])
 (.seq
 (.ops [
 ⟨some 21,none,.mv (.tmp 1)⟩,
⟨some 22,none,.conv .i64 (.tmp 21)⟩,
⟨some 23,none,.bin .rem (.tmp 22) (.const (.int .i64 8000))⟩,
⟨some 24,none,.bin .add (.const (.int .i64 1)) (.tmp 23)⟩,
⟨some 25,none,.bld [.int .i64 0,.slice none 0 0] [(0, (1, (.tmp 24)))]⟩,
⟨some 8,none,.alc 24 [.int .i64 0,.slice none 0 0]⟩,
⟨none,none,.sto true 2 (.tmp 8) (.tmp 25)⟩])
 (.seq
 (.ops [
 ⟨some 26,none,.mv (.tmp 7)⟩,
⟨some 9,none,.mv (.tmp 26)⟩])
 (.seq
 (.seq
 (.ops [
 ⟨some 10,none,.mv (.const (.int .i64 0))⟩])
 (.block 0
 (.loop
 (.seq
 (.seq
 (.ops [
 ⟨some 27,none,.mv (.tmp 10)⟩,
⟨some 28,none,.bin .lss (.tmp 27) (.const (.int .i64 62))⟩,
⟨some 29,none,.mv (.tmp 28)⟩,
⟨some 30,some (29,true),.mv (.tmp 9)⟩,
⟨some 31,some (29,true),.bin .gtr (.tmp 30) (.const (.int .i64 12))⟩,
⟨some 32,none,.pick (.tmp 29) (.tmp 31) (.const (.bool false))⟩])
 (.cond (.tmp 32)
 .skip
 (.exit 0)))
 (.seq
 (.block 1
 (.seq
 (.ops [
 ⟨some 35,none,.mv (.tmp 10)⟩,
⟨some 36,none,.bin .rem (.tmp 35) (.const (.int .i64 2))⟩,
⟨some 37,none,.bin .eql (.tmp 36) (.const (.int .i64 0))⟩,
⟨some 38,none,.fad 0 false 1 (.tmp 8)⟩,
⟨some 39,none,.ld false 1 (.tmp 38)⟩,
⟨some 40,none,.bin .quo (.tmp 39) (.const (.int .i64 2))⟩,
⟨some 41,none,.fad 0 false 1 (.tmp 8)⟩,
⟨some 42,none,.ld false 1 (.tmp 41)⟩,
⟨some 43,none,.bin .quo (.tmp 42) (.const (.int .i64 4))⟩,
⟨some 44,none,.bld [.int .i64 0,.int .i64 0,.int .i64 0,.bool false,.slice none 0 0] [(3, (1, (.tmp 37))), (1, (1, (.tmp 40))), (2, (1, (.tmp 43)))]⟩,
⟨some 11,none,.alc 29 [.int .i64 0,.int .i64 0,.int .i64 0,.bool false,.slice none 0 0]⟩,
⟨none,none,.sto true 5 (.tmp 11) (.tmp 44)⟩])
 (.seq
 (.ops [
 ⟨some 45,none,.fad 4 false 1 (.tmp 11)⟩,
⟨some 46,none,.ld false 1 (.tmp 45)⟩,
⟨some 47,none,.mv (.tmp 10)⟩,
⟨some 48,none,.conv .u32 (.tmp 47)⟩,
⟨some 49,none,.bld [.int .i64 0,.int .i64 0,.int .i64 0,.int .u32 0] [(0, (1, (.const (.int .i64 1)))), (3, (1, (.tmp 48)))]⟩,
⟨some 50,none,.bsl 32 4 1 [.int .i64 0,.int .i64 0,.int .i64 0,.int .u32 0] [(0, (4, (.tmp 49)))]⟩,
⟨some 51,none,.app 32 4 32 (.tmp 46) (.tmp 50)⟩,
⟨some 52,none,.fad 4 false 1 (.tmp 11)⟩,
⟨none,none,.sto false 1 (.tmp 52) (.tmp 51)⟩])
 (.seq
 (.seq
 (.ops [
 ⟨some 53,none,.fad 3 false 1 (.tmp 11)⟩,
⟨some 54,none,.ld false 1 (.tmp 53)⟩,
⟨some 55,none,.un .not (.tmp 54)⟩])
 (.cond (.tmp 55)
 (.ops [
 ⟨some 56,none,.fad 4 false 1 (.tmp 11)⟩,
⟨some 57,none,.ld false 1 (.tmp 56)⟩,
⟨some 58,none,.fad 0 false 1 (.tmp 8)⟩,
⟨some 59,none,.ld false 1 (.tmp 58)⟩,
⟨some 60,none,.bin .sub (.tmp 59) (.const (.int .i64 1))⟩,
⟨some 61,none,.bld [.int .i64 0,.int .i64 0,.int .i64 0,.int .u32 0] [(0, (1, (.const (.int .i64 3)))), (1, (1, (.tmp 60)))]⟩,
⟨some 62,none,.bsl 32 4 1 [.int .i64 0,.int .i64 0,.int .i64 0,.int .u32 0] [(0, (4, (.tmp 61)))]⟩,
⟨some 63,none,.app 32 4 32 (.tmp 57) (.tmp 62)⟩,
⟨some 64,none,.fad 4 false 1 (.tmp 11)⟩,
⟨none,none,.sto false 1 (.tmp 64) (.tmp 63)⟩])
 .skip))
 (.seq
 (.ops [
 ⟨some 65,none,.fad 4 false 1 (.tmp 11)⟩,
⟨some 66,none,.ld false 1 (.tmp 65)⟩,
⟨some 67,none,.bld [.int .i64 0,.int .i64 0,.int .i64 0,.int .u32 0] [(0, (1, (.const (.int .i64 11))))]⟩,
⟨some 68,none,.bsl 32 4 1 [.int .i64 0,.int .i64 0,.int .i64 0,.int .u32 0] [(0, (4, (.tmp 67)))]⟩,
⟨some 69,none,.app 32 4 32 (.tmp 66) (.tmp 68)⟩,
⟨some 70,none,.fad 4 false 1 (.tmp 11)⟩,
⟨none,none,.sto false 1 (.tmp 70) (.tmp 69)⟩])
 (.seq
 (.ops [
 ⟨some 71,none,.mv (.tmp 9)⟩,
⟨some 72,none,.fad 4 false 1 (.tmp 11)⟩,
⟨some 73,none,.ld false 1 (.tmp 72)⟩,
⟨some 74,none,.len (.tmp 73)⟩,
⟨some 75,none,.bin .sub (.tmp 71) (.tmp 74)⟩,
⟨some 9,none,.mv (.tmp 75)⟩])
 (.ops [
 ⟨some 76,none,.fad 1 false 1 (.tmp 8)⟩,
⟨some 77,none,.ld false 1 (.tmp 76)⟩,
⟨some 78,none,.ld true 5 (.tmp 11)⟩,
⟨some 79,none,.bsl 29 5 1 [.int .i64 0,.int .i64 0,.int .i64 0,.bool false,.slice none 0 0] [(0, (5, (.tmp 78)))]⟩,
⟨some 80,none,.app 29 5 56 (.tmp 77) (.tmp 79)⟩,
⟨some 81,none,.fad 1 false 1 (.tmp 8)⟩,
⟨none,none,.sto false 1 (.tmp 81) (.tmp 80)⟩])))))))
 (.ops [
 ⟨some 33,none,.mv (.tmp 10)⟩,
⟨some 34,none,.bin .add (.tmp 33) (.const (.int .i64 1))⟩,
⟨some 10,none,.mv (.tmp 34)⟩]))))))
 (.seq
 (.ops [
 ⟨some 12,none,.alc 29 [.int .i64 0,.int .i64 0,.int .i64 0,.bool false,.slice none 0 0]⟩])
 (.seq
 (.seq
 (.ops [
 ⟨some 82,none,.fad 1 false 1 (.tmp 8)⟩,
⟨some 83,none,.ld false 1 (.tmp 82)⟩,
⟨some 84,none,.len (.tmp 83)⟩,
⟨some 85,none,.bin .gtr (.tmp 84) (.const (.int .i64 0))⟩])
 (.cond (.tmp 85)
 (.seq
 (.ops [
 ⟨some 86,none,.fad 4 false 1 (.tmp 12)⟩,
⟨some 87,none,.ld false 1 (.tmp 86)⟩,
⟨some 88,none,.bld [.int .i64 0,.int .i64 0,.int .i64 0,.int .u32 0] [(0, (1, (.const (.int .i64 10)))), (1, (1, (.const (.int .i64 0))))]⟩,
⟨some 89,none,.bld [.int .i64 0,.int .i64 0,.int .i64 0,.int .u32 0] [(0, (1, (.const (.int .i64 13))))]⟩,
⟨some 90,none,.bsl 32 4 2 [.int .i64 0,.int .i64 0,.int .i64 0,.int .u32 0,.int .i64 0,.int .i64 0,.int .i64 0,.int .u32 0] [(0, (4, (.tmp 88))), (4, (4, (.tmp 89)))]⟩,
⟨some 91,none,.app 32 4 32 (.tmp 87) (.tmp 90)⟩,
⟨some 92,none,.fad 4 false 1 (.tmp 12)⟩,
⟨none,none,.sto false 1 (.tmp 92) (.tmp 91)⟩])
 (.ops [
 ⟨some 93,none,.mv (.tmp 9)⟩,
⟨some 94,none,.bin .sub (.tmp 93) (.const (.int .i64 2))⟩,
⟨some 9,none,.mv (.tmp 94)⟩]))
 .skip))
 (.seq
 (.block 2
 (.loop
 (.seq
 (.seq
 (.ops [
 ⟨some 95,none,.mv (.tmp 9)⟩,
⟨some 96,none,.bin .gtr (.tmp 95) (.const (.int .i64 3))⟩])
 (.cond (.tmp 96)
 .skip
 (.exit 2)))
 (.block 3
 (.seq
 (.par false (.one ⟨some 97,none,.fad 4 false 1 (.tmp 12)⟩ (.one ⟨some 98,none,.ld false 1 (.tmp 97)⟩ (.one ⟨some 99,none,.mv (.tmp 2)⟩ (.one ⟨some 100,none,.conv .u32 (.tmp 99)⟩ (.one ⟨some 101,none,.mv (.tmp 9)⟩ (.one ⟨some 102,none,.conv .u32 (.tmp 101)⟩ (.one ⟨some 103,none,.bin .add (.tmp 100) (.tmp 102)⟩ (.one ⟨some 104,none,.call (.func 15) [.tmp 103]⟩ (.one ⟨some 105,none,.app 32 4 32 (.tmp 98) (.tmp 104)⟩ (.one ⟨some 106,none,.fad 4 false 1 (.tmp 12)⟩ (.one ⟨none,none,.sto false 1 (.tmp 106) (.tmp 105)⟩ .done))))))))))))
 (.ops [
 ⟨some 107,none,.mv (.tmp 9)⟩,
⟨some 108,none,.bin .sub (.tmp 107) (.const (.int .i64 2))⟩,
⟨some 9,none,.mv (.tmp 108)⟩]))))))
 (.seq
 (.ops [
 ⟨some 109,none,.fad 4 false 1 (.tmp 12)⟩,
⟨some 110,none,.ld false 1 (.tmp 109)⟩,
⟨some 111,none,.bld [.int .i64 0,.int .i64 0,.int .i64 0,.int .u32 0] [(0, (1, (.const (.int .i64 11))))]⟩,
⟨some 112,none,.bsl 32 4 1 [.int .i64 0,.int .i64 0,.int .i64 0,.int .u32 0] [(0, (4, (.tmp 111)))]⟩,
⟨some 113,none,.app 32 4 32 (.tmp 110) (.tmp 112)⟩,
⟨some 114,none,.fad 4 false 1 (.tmp 12)⟩,
⟨none,none,.sto false 1 (.tmp 114) (.tmp 113)⟩])
 (.seq
 (.ops [
 ⟨some 115,none,.fad 1 false 1 (.tmp 8)⟩,
⟨some 116,none,.ld false 1 (.tmp 115)⟩,
⟨some 117,none,.ld true 5 (.tmp 12)⟩,
⟨some 118,none,.bsl 29 5 1 [.int .i64 0,.int .i64 0,.int .i64 0,.bool false,.slice none 0 0] [(0, (5, (.tmp 117)))]⟩,
⟨some 119,none,.app 29 5 56 (.tmp 116) (.tmp 118)⟩,
⟨some 120,none,.fad 1 false 1 (.tmp 8)⟩,
⟨none,none,.sto false 1 (.tmp 120) (.tmp 119)⟩])
 (.seq
 (.seq
 (.ops [
 ⟨some 121,none,.ld true 2 (.tmp 8)⟩,
⟨some 122,none,.call (.func 16) [.tmp 121]⟩,
⟨some 123,none,.un .not (.tmp 122)⟩])
 (.cond (.tmp 123)
 (.seq
 (.ops [
 ⟨some 6,none,.mv (.const (.bool false))⟩])
 .ret)
 .skip))
 (.seq
 (.ops [
 ⟨some 125,none,.ld true 2 (.tmp 8)⟩,
⟨some 126,none,.call (.func 10) [.tmp 125]⟩,
⟨some 124,none,.mv (.tmp 126)⟩,
⟨some 127,none,.ext (.tmp 124) 0⟩,
⟨some 128,none,.ext (.tmp 124) 1⟩,
⟨some 13,none,.alc 38 [.slice none 0 0,.int .i64 0]⟩,
⟨none,none,.sto true 2 (.tmp 13) (.tmp 127)⟩,
⟨some 14,none,.mv (.tmp 128)⟩])
 (.seq
 (.ops [
 ⟨some 129,none,.mv (.tmp 14)⟩,
⟨some 130,none,.bin .eql (.tmp 129) (.const (.int .i64 0))⟩,
⟨some 131,none,.mv (.tmp 130)⟩,
⟨some 132,some (131,true),.ld true 2 (.tmp 8)⟩,
⟨some 133,some (131,true),.call (.func 17) [.tmp 132]⟩,
⟨some 134,some (131,true),.bin .leq (.tmp 133) (.const (.int .i64 2000))⟩,
⟨some 135,none,.pick (.tmp 131) (.tmp 134) (.const (.bool false))⟩,
⟨some 136,none,.mv (.tmp 135)⟩,
⟨some 137,some (136,true),.ld true 2 (.tmp 8)⟩,
⟨some 138,some (136,true),.ld true 2 (.tmp 13)⟩,
⟨(some 139), (some (136, true)), (.call (.func 18) [(.tmp 137), (.tmp 138), (.const (.string ⟨#[]⟩)), (.const (.int .i64 3000))])⟩,
⟨some 140,none,.pick (.tmp 136) (.tmp 139) (.const (.bool false))⟩,
⟨some 6,none,.mv (.tmp 140)⟩])
 .ret))))))))))))))
theorem f_sclaw22_EmitLong : compF Try.prog 5 = some (141, c_sclaw22_EmitLong, [.tmp 6]) := by kernel_rfl
def c_sclaw22_alive : VC :=
 (.seq
 (.ops [
 ⟨some 0,none,.mv (.const (.bool false))⟩])
 (.seq
 (.ops [
 ⟨some 4,none,.call (.func 21) []⟩,
⟨some 5,none,.call (.func 10) [.tmp 4]⟩,
⟨some 3,none,.mv (.tmp 5)⟩,
⟨some 6,none,.ext (.tmp 3) 0⟩,
⟨some 7,none,.ext (.tmp 3) 1⟩,
⟨some 1,none,.alc 38 [.slice none 0 0,.int .i64 0]⟩,
⟨none,none,.sto true 2 (.tmp 1) (.tmp 6)⟩,
⟨some 2,none,.mv (.tmp 7)⟩])
 (.seq
 (.ops [
 ⟨some 8,none,.mv (.tmp 2)⟩,
⟨some 9,none,.bin .eql (.tmp 8) (.const (.int .i64 0))⟩,
⟨some 10,none,.mv (.tmp 9)⟩,
⟨some 11,some (10,true),.ld true 2 (.tmp 1)⟩,
⟨(some 12), (some (10, true)), (.call (.func 13) [(.tmp 11), (.const (.string ⟨#[]⟩)), (.const (.int .i64 300))])⟩,
⟨(some 13), (some (10, true)), (.bld [(.int .i64 0), (.string ⟨#[]⟩), (.int .i64 0)] [(0, (1, (.const (.int .i64 1)))), (1, (1, (.const (.string ⟨#[65]⟩))))])⟩,
⟨some 14,some (10,true),.call (.func 20) [.tmp 12,.tmp 13]⟩,
⟨some 15,none,.pick (.tmp 10) (.tmp 14) (.const (.bool false))⟩,
⟨some 0,none,.mv (.tmp 15)⟩])
 .ret)))
theorem f_sclaw22_alive : compF Try.prog 7 = some (16, c_sclaw22_alive, [.tmp 0]) := by kernel_rfl
def c_scref20_Run : VC :=
 (.seq
 (.ops [
 ⟨some 3,none,.box 24 (.tmp 0)⟩,
⟨(some 6), none, (.alc 34 [(.int .i64 0), (.string ⟨#[]⟩), (.int .i64 0)])⟩])
 (.seq
 (.seq
 (.ops [
 ⟨some 8,none,.fad 1 false 1 (.tmp 3)⟩,
⟨some 9,none,.ld false 1 (.tmp 8)⟩,
⟨some 10,none,.len (.tmp 9)⟩,
⟨some 11,none,.bin .eql (.tmp 10) (.const (.int .i64 0))⟩])
 (.cond (.tmp 11)
 (.seq
 (.ops [
 ⟨(some 12), none, (.bld [(.int .i64 0), (.string ⟨#[]⟩), (.int .i64 0)] [])⟩,
⟨none,none,.sto true 3 (.tmp 6) (.tmp 12)⟩])
 .ret)
 .skip))
 (.seq
 (.par false (.one ⟨some 13,none,.ld true 2 (.tmp 3)⟩ (.one ⟨some 14,none,.mv (.tmp 1)⟩ (.one ⟨some 15,none,.fad 0 false 1 (.tmp 3)⟩ (.one ⟨some 16,none,.ld false 1 (.tmp 15)⟩ (.one ⟨some 18,none,.fad 1 false 1 (.tmp 3)⟩ (.one ⟨some 19,none,.ld false 1 (.tmp 18)⟩ (.one ⟨some 20,none,.len (.tmp 19)⟩ (.one ⟨some 21,none,.bin .sub (.tmp 20) (.const (.int .i64 1))⟩ (.one ⟨some 22,none,.bld [.int .i64 0,.int .i64 0,.slice none 0 0] [(0, (1, (.tmp 21)))]⟩ (.both (.one ⟨some 17,none,.mk 30 1 4 [.int .u32 0] (.tmp 16) (.tmp 16)⟩ (.one ⟨some 23,none,.bsl 69 3 1 [.int .i64 0,.int .i64 0,.slice none 0 0] [(0, (3, (.tmp 22)))]⟩ (.one ⟨(some 24), none, (.bld [(.int .i64 0), (.slice none 0 0), (.string ⟨#[]⟩), (.int .i64 0), (.slice none 0 0), (.slice none 0 0), (.int .i64 0), (.int .i64 0), (.slice none 0 0)] [(0, (2, (.tmp 13))), (2, (1, (.tmp 14))), (4, (1, (.tmp 17))), (8, (1, (.tmp 23)))])⟩ (.one ⟨some 25,none,.box 73 (.tmp 24)⟩ (.one ⟨some 7,none,.mv (.tmp 25)⟩ .done))))) (.one ⟨some 23,none,.bsl 69 3 1 [.int .i64 0,.int .i64 0,.slice none 0 0] [(0, (3, (.tmp 22)))]⟩ (.one ⟨some 17,none,.mk 30 1 4 [.int .u32 0] (.tmp 16) (.tmp 16)⟩ (.one ⟨(some 24), none, (.bld [(.int .i64 0), (.slice none 0 0), (.string ⟨#[]⟩), (.int .i64 0), (.slice none 0 0), (.slice none 0 0), (.int .i64 0), (.int .i64 0), (.slice none 0 0)] [(0, (2, (.tmp 13))), (2, (1, (.tmp 14))), (4, (1, (.tmp 17))), (8, (1, (.tmp 23)))])⟩ (.one ⟨some 25,none,.box 73 (.tmp 24)⟩ (.one ⟨some 7,none,.mv (.tmp 25)⟩ .done))))))))))))))))
 (.seq
 (.block 0
 (.loop
 (.seq
 (.seq
 (.ops [
 ⟨some 26,none,.mv (.tmp 7)⟩,
⟨some 27,none,.nck (.tmp 26)⟩,
⟨some 28,none,.fad 7 false 1 (.tmp 27)⟩,
⟨some 29,none,.ld false 1 (.tmp 28)⟩,
⟨some 30,none,.bin .eql (.tmp 29) (.const (.int .i64 0))⟩])
 (.cond (.tmp 30)
 .skip
 (.exit 0)))
 (.block 1
 (.seq
 (.ops [
 ⟨some 31,none,.mv (.tmp 7)⟩,
⟨some 32,none,.nck (.tmp 31)⟩,
⟨some 33,none,.fad 6 false 1 (.tmp 32)⟩,
⟨some 34,none,.ld false 1 (.tmp 33)⟩,
⟨some 35,none,.mv (.tmp 2)⟩,
⟨some 36,none,.bin .geq (.tmp 34) (.tmp 35)⟩])
 (.cond (.tmp 36)
 (.ops [
 ⟨some 37,none,.mv (.tmp 7)⟩,
⟨some 38,none,.nck (.tmp 37)⟩,
⟨some 39,none,.fad 7 false 1 (.tmp 38)⟩,
⟨none,none,.sto false 1 (.tmp 39) (.const (.int .i64 5))⟩])
 (.ops [
 ⟨some 40,none,.mv (.tmp 7)⟩,
⟨some 41,none,.call (.func 24) [.tmp 40]⟩])))))))
 (.seq
 (.ops [
 ⟨some 42,none,.mv (.tmp 7)⟩,
⟨some 43,none,.nck (.tmp 42)⟩,
⟨some 44,none,.fad 7 false 1 (.tmp 43)⟩,
⟨some 45,none,.ld false 1 (.tmp 44)⟩,
⟨some 46,none,.mv (.tmp 7)⟩,
⟨some 47,none,.nck (.tmp 46)⟩,
⟨some 48,none,.fad 5 false 1 (.tmp 47)⟩,
⟨some 49,none,.ld false 1 (.tmp 48)⟩,
⟨some 50,none,.see .b2s [.tmp 49]⟩,
⟨some 51,none,.mv (.tmp 7)⟩,
⟨some 52,none,.nck (.tmp 51)⟩,
⟨some 53,none,.fad 6 false 1 (.tmp 52)⟩,
⟨some 54,none,.ld false 1 (.tmp 53)⟩,
⟨(some 55), none, (.bld [(.int .i64 0), (.string ⟨#[]⟩), (.int .i64 0)] [(0, (1, (.tmp 45))), (1, (1, (.tmp 50))), (2, (1, (.tmp 54)))])⟩,
⟨none,none,.sto true 3 (.tmp 6) (.tmp 55)⟩])
 .ret)))))
theorem f_scref20_Run : compF Try.prog 9 = some (56, c_scref20_Run, [(.cell 6 true 3)]) := by kernel_rfl
def c_emit_Of : VC :=
 (.seq
 (.ops [
 ⟨some 1,none,.box 24 (.tmp 0)⟩,
⟨some 2,none,.alc 38 [.slice none 0 0,.int .i64 0]⟩,
⟨some 3,none,.mv (.const (.int .i64 0))⟩])
 (.seq
 (.ops [
 ⟨some 12,none,.ld true 2 (.tmp 1)⟩,
⟨some 13,none,.call (.func 25) [.tmp 12]⟩,
⟨some 4,none,.alc 77 [.slice none 0 0,.slice none 0 0,.slice none 0 0,.int .i64 0]⟩,
⟨none,none,.sto true 4 (.tmp 4) (.tmp 13)⟩])
 (.seq
 (.seq
 (.ops [
 ⟨some 14,none,.fad 3 false 1 (.tmp 4)⟩,
⟨some 15,none,.ld false 1 (.tmp 14)⟩,
⟨some 16,none,.bin .gtr (.tmp 15) (.const (.int .i64 32768))⟩])
 (.cond (.tmp 16)
 (.seq
 (.ops [
 ⟨some 17,none,.bld [.slice none 0 0,.int .i64 0] []⟩,
⟨none,none,.sto true 2 (.tmp 2) (.tmp 17)⟩,
⟨some 3,none,.mv (.const (.int .i64 2))⟩])
 .ret)
 .skip))
 (.seq
 (.par false (.one ⟨some 18,none,.ld true 2 (.tmp 1)⟩ (.one ⟨some 19,none,.ld true 4 (.tmp 4)⟩ (.one ⟨some 20,none,.fad 1 false 1 (.tmp 1)⟩ (.one ⟨some 21,none,.ld false 1 (.tmp 20)⟩ (.one ⟨some 22,none,.len (.tmp 21)⟩ (.one ⟨some 24,none,.fad 1 false 1 (.tmp 1)⟩ (.one ⟨some 25,none,.ld false 1 (.tmp 24)⟩ (.one ⟨some 26,none,.len (.tmp 25)⟩ (.both (.one ⟨some 23,none,.mk 3 1 8 [.int .i64 0] (.tmp 22) (.tmp 22)⟩ (.one ⟨some 27,none,.mk 75 1 24 [.slice none 0 0] (.tmp 26) (.tmp 26)⟩ (.one ⟨some 28,none,.bld [.int .i64 0,.slice none 0 0,.slice none 0 0,.slice none 0 0,.slice none 0 0,.int .i64 0,.slice none 0 0,.slice none 0 0,.slice none 0 0,.slice none 0 0,.int .i64 0,.int .i64 0] [(0, (2, (.tmp 18))), (2, (4, (.tmp 19))), (7, (1, (.tmp 23))), (8, (1, (.tmp 27)))]⟩ (.one ⟨some 29,none,.box 83 (.tmp 28)⟩ (.one ⟨some 5,none,.mv (.tmp 29)⟩ .done))))) (.one ⟨some 27,none,.mk 75 1 24 [.slice none 0 0] (.tmp 26) (.tmp 26)⟩ (.one ⟨some 23,none,.mk 3 1 8 [.int .i64 0] (.tmp 22) (.tmp 22)⟩ (.one ⟨some 28,none,.bld [.int .i64 0,.slice none 0 0,.slice none 0 0,.slice none 0 0,.slice none 0 0,.int .i64 0,.slice none 0 0,.slice none 0 0,.slice none 0 0,.slice none 0 0,.int .i64 0,.int .i64 0] [(0, (2, (.tmp 18))), (2, (4, (.tmp 19))), (7, (1, (.tmp 23))), (8, (1, (.tmp 27)))]⟩ (.one ⟨some 29,none,.box 83 (.tmp 28)⟩ (.one ⟨some 5,none,.mv (.tmp 29)⟩ .done)))))))))))))))
 (.seq
 (.ops [
 ⟨some 30,none,.mv (.tmp 5)⟩,
⟨some 31,none,.call (.func 26) [.tmp 30]⟩,
⟨some 6,none,.mv (.tmp 31)⟩])
 (.seq
 (.seq
 (.ops [
 ⟨some 32,none,.mv (.tmp 6)⟩,
⟨some 33,none,.len (.tmp 32)⟩,
⟨some 34,none,.bin .gtr (.tmp 33) (.const (.int .i64 16384))⟩])
 (.cond (.tmp 34)
 (.seq
 (.ops [
 ⟨some 35,none,.bld [.slice none 0 0,.int .i64 0] []⟩,
⟨none,none,.sto true 2 (.tmp 2) (.tmp 35)⟩,
⟨some 3,none,.mv (.const (.int .i64 2))⟩])
 .ret)
 .skip))
 (.seq
 (.ops [
 ⟨some 36,none,.mv (.tmp 6)⟩,
⟨some 37,none,.len (.tmp 36)⟩,
⟨some 38,none,.mk 30 1 4 [.int .u32 0] (.tmp 37) (.tmp 37)⟩,
⟨some 7,none,.mv (.tmp 38)⟩])
 (.seq
 (.seq
 (.ops [
 ⟨some 39,none,.mv (.tmp 6)⟩,
⟨some 40,none,.len (.tmp 39)⟩,
⟨some 41,none,.mv (.const (.int .i64 0))⟩])
 (.block 0
 (.loop
 (.seq
 (.ops [
 ⟨some 42,none,.bin .lss (.tmp 41) (.tmp 40)⟩])
 (.seq
 (.cond (.tmp 42)
 .skip
 (.exit 0))
 (.seq
 (.block 1
 (.seq
 (.ops [
 ⟨some 43,none,.mv (.tmp 41)⟩,
⟨some 44,none,.idx 4 (.tmp 39) (.tmp 41)⟩,
⟨some 45,none,.ld true 4 (.tmp 44)⟩,
⟨some 9,none,.alc 86 [.int .i64 0,.int .i64 0,.int .i64 0,.int .i64 0]⟩,
⟨some 8,none,.mv (.tmp 43)⟩,
⟨none,none,.sto true 4 (.tmp 9) (.tmp 45)⟩])
 (.seq
 (.ops [
 ⟨some 47,none,.ld true 4 (.tmp 9)⟩,
⟨some 48,none,.call (.func 27) [.tmp 47]⟩,
⟨some 46,none,.mv (.tmp 48)⟩,
⟨some 49,none,.ext (.tmp 46) 0⟩,
⟨some 50,none,.ext (.tmp 46) 1⟩,
⟨some 10,none,.mv (.tmp 49)⟩,
⟨some 11,none,.mv (.tmp 50)⟩])
 (.seq
 (.seq
 (.ops [
 ⟨some 51,none,.mv (.tmp 11)⟩,
⟨some 52,none,.bin .neq (.tmp 51) (.const (.int .i64 0))⟩])
 (.cond (.tmp 52)
 (.seq
 (.ops [
 ⟨some 53,none,.bld [.slice none 0 0,.int .i64 0] []⟩,
⟨none,none,.sto true 2 (.tmp 2) (.tmp 53)⟩,
⟨some 3,none,.mv (.const (.int .i64 2))⟩])
 .ret)
 .skip))
 (.ops [
 ⟨some 54,none,.mv (.tmp 7)⟩,
⟨some 55,none,.mv (.tmp 8)⟩,
⟨some 56,none,.mv (.tmp 10)⟩,
⟨some 57,none,.idx 1 (.tmp 54) (.tmp 55)⟩,
⟨none,none,.sto false 1 (.tmp 57) (.tmp 56)⟩])))))
 (.ops [
 ⟨some 58,none,.bin .add (.tmp 41) (.const (.int .i64 1))⟩,
⟨some 41,none,.mv (.tmp 58)⟩])))))))
 (.seq
 (.ops [
 ⟨some 59,none,.mv (.tmp 7)⟩,
⟨some 60,none,.fad 3 false 1 (.tmp 4)⟩,
⟨some 61,none,.ld false 1 (.tmp 60)⟩,
⟨some 62,none,.bld [.slice none 0 0,.int .i64 0] [(0, (1, (.tmp 59))), (1, (1, (.tmp 61)))]⟩,
⟨none,none,.sto true 2 (.tmp 2) (.tmp 62)⟩,
⟨some 3,none,.mv (.const (.int .i64 0))⟩])
 .ret)))))))))
theorem f_emit_Of : compF Try.prog 10 = some (63, c_emit_Of, [(.cell 2 true 2), (.tmp 3)]) := by kernel_rfl
def c_scref22_Fuel : VC :=
 (.seq
 (.ops [
 ⟨some 2,none,.box 24 (.tmp 0)⟩,
⟨some 4,none,.mv (.const (.int .i64 0))⟩])
 (.seq
 (.ops [
 ⟨some 5,none,.mv (.tmp 1)⟩,
⟨some 6,none,.bin .add (.tmp 5) (.const (.int .i64 1))⟩,
⟨some 7,none,.fad 0 false 1 (.tmp 2)⟩,
⟨some 8,none,.ld false 1 (.tmp 7)⟩,
⟨some 9,none,.bin .mul (.const (.int .i64 8)) (.tmp 8)⟩,
⟨some 10,none,.bin .add (.const (.int .i64 64)) (.tmp 9)⟩,
⟨some 11,none,.bin .mul (.tmp 6) (.tmp 10)⟩,
⟨some 4,none,.mv (.tmp 11)⟩])
 .ret))
theorem f_scref22_Fuel : compF Try.prog 11 = some (12, c_scref22_Fuel, [.tmp 4]) := by kernel_rfl
def c_scref10_Run : VC :=
 (.seq
 (.ops [
 ⟨some 3,none,.box 38 (.tmp 0)⟩,
⟨(some 6), none, (.alc 34 [(.int .i64 0), (.string ⟨#[]⟩), (.int .i64 0)])⟩])
 (.seq
 (.par false (.one ⟨some 8,none,.ld true 2 (.tmp 3)⟩ (.one ⟨some 9,none,.mv (.tmp 1)⟩ (.one ⟨some 10,none,.ld true 2 (.tmp 3)⟩ (.one ⟨some 11,none,.call (.func 29) [.tmp 10]⟩ (.one ⟨some 12,none,.mv (.tmp 2)⟩ (.one ⟨some 13,none,.call (.func 28) [.tmp 8,.tmp 9,.tmp 11,.tmp 12]⟩ (.one ⟨(some 7), none, (.alc 91 [(.int .i64 0), (.int .u32 0), (.int .u32 0), (.int .u32 0), (.int .u32 0), (.int .u32 0), (.int .u32 0), (.int .u32 0), (.int .u32 0), (.int .u32 0), (.int .u32 0), (.int .u32 0), (.int .u32 0), (.int .u32 0), (.int .u32 0), (.int .u32 0), (.int .u32 0), (.slice none 0 0), (.int .i64 0), (.string ⟨#[]⟩), (.int .i64 0), (.int .i64 0)])⟩ (.one ⟨none,none,.sto true 22 (.tmp 7) (.tmp 13)⟩ .done)))))))))
 (.seq
 (.seq
 (.ops [
 ⟨some 14,none,.fad 21 false 1 (.tmp 7)⟩,
⟨some 15,none,.ld false 1 (.tmp 14)⟩,
⟨some 16,none,.bin .eql (.tmp 15) (.const (.int .i64 0))⟩])
 (.cond (.tmp 16)
 (.ops [
 ⟨some 17,none,.fad 21 false 1 (.tmp 7)⟩,
⟨none,none,.sto false 1 (.tmp 17) (.const (.int .i64 5))⟩])
 .skip))
 (.seq
 (.ops [
 ⟨some 18,none,.fad 21 false 1 (.tmp 7)⟩,
⟨some 19,none,.ld false 1 (.tmp 18)⟩,
⟨some 20,none,.fad 19 false 1 (.tmp 7)⟩,
⟨some 21,none,.ld false 1 (.tmp 20)⟩,
⟨some 22,none,.fad 20 false 1 (.tmp 7)⟩,
⟨some 23,none,.ld false 1 (.tmp 22)⟩,
⟨(some 24), none, (.bld [(.int .i64 0), (.string ⟨#[]⟩), (.int .i64 0)] [(0, (1, (.tmp 19))), (1, (1, (.tmp 21))), (2, (1, (.tmp 23)))])⟩,
⟨none,none,.sto true 3 (.tmp 6) (.tmp 24)⟩])
 .ret))))
theorem f_scref10_Run : compF Try.prog 13 = some (25, c_scref10_Run, [(.cell 6 true 3)]) := by kernel_rfl
def c_sclaw22_bottom : VC :=
 (.seq
 (.ops [
 ⟨some 2,none,.mv (.const (.slice none 0 0))⟩])
 (.seq
 (.ops [
 ⟨some 3,none,.mv (.tmp 0)⟩,
⟨some 4,none,.bld [.int .i64 0,.int .i64 0,.int .i64 0,.int .u32 0] [(0, (1, (.const (.int .i64 1)))), (3, (1, (.tmp 3)))]⟩,
⟨some 5,none,.bld [.int .i64 0,.int .i64 0,.int .i64 0,.int .u32 0] [(0, (1, (.const (.int .i64 13))))]⟩,
⟨some 6,none,.bsl 32 4 2 [.int .i64 0,.int .i64 0,.int .i64 0,.int .u32 0,.int .i64 0,.int .i64 0,.int .i64 0,.int .u32 0] [(0, (4, (.tmp 4))), (4, (4, (.tmp 5)))]⟩,
⟨some 2,none,.mv (.tmp 6)⟩])
 .ret))
theorem f_sclaw22_bottom : compF Try.prog 15 = some (7, c_sclaw22_bottom, [.tmp 2]) := by kernel_rfl
def c_scref20_Right : VC :=
 (.seq
 (.ops [
 ⟨some 1,none,.box 24 (.tmp 0)⟩,
⟨some 2,none,.mv (.const (.bool false))⟩])
 (.seq
 (.seq
 (.ops [
 ⟨some 9,none,.fad 0 false 1 (.tmp 1)⟩,
⟨some 10,none,.ld false 1 (.tmp 9)⟩,
⟨some 11,none,.bin .lss (.tmp 10) (.const (.int .i64 0))⟩,
⟨some 12,none,.mv (.tmp 11)⟩,
⟨some 13,some (12,false),.fad 0 false 1 (.tmp 1)⟩,
⟨some 14,some (12,false),.ld false 1 (.tmp 13)⟩,
⟨some 15,some (12,false),.bin .gtr (.tmp 14) (.const (.int .i64 32768))⟩,
⟨some 16,none,.pick (.tmp 12) (.const (.bool true)) (.tmp 15)⟩,
⟨some 17,none,.mv (.tmp 16)⟩,
⟨some 18,some (17,false),.fad 1 false 1 (.tmp 1)⟩,
⟨some 19,some (17,false),.ld false 1 (.tmp 18)⟩,
⟨some 20,some (17,false),.len (.tmp 19)⟩,
⟨some 21,some (17,false),.bin .lss (.tmp 20) (.const (.int .i64 1))⟩,
⟨some 22,none,.pick (.tmp 17) (.const (.bool true)) (.tmp 21)⟩,
⟨some 23,none,.mv (.tmp 22)⟩,
⟨some 24,some (23,false),.fad 1 false 1 (.tmp 1)⟩,
⟨some 25,some (23,false),.ld false 1 (.tmp 24)⟩,
⟨some 26,some (23,false),.len (.tmp 25)⟩,
⟨some 27,some (23,false),.bin .gtr (.tmp 26) (.const (.int .i64 64))⟩,
⟨some 28,none,.pick (.tmp 23) (.const (.bool true)) (.tmp 27)⟩])
 (.cond (.tmp 28)
 (.seq
 (.ops [
 ⟨some 2,none,.mv (.const (.bool false))⟩])
 .ret)
 .skip))
 (.seq
 (.seq
 (.ops [
 ⟨some 3,none,.mv (.const (.int .i64 0))⟩])
 (.block 0
 (.loop
 (.seq
 (.seq
 (.ops [
 ⟨some 29,none,.mv (.tmp 3)⟩,
⟨some 30,none,.fad 1 false 1 (.tmp 1)⟩,
⟨some 31,none,.ld false 1 (.tmp 30)⟩,
⟨some 32,none,.len (.tmp 31)⟩,
⟨some 33,none,.bin .lss (.tmp 29) (.tmp 32)⟩])
 (.cond (.tmp 33)
 .skip
 (.exit 0)))
 (.seq
 (.block 1
 (.seq
 (.ops [
 ⟨some 36,none,.fad 1 false 1 (.tmp 1)⟩,
⟨some 37,none,.ld false 1 (.tmp 36)⟩,
⟨some 38,none,.mv (.tmp 3)⟩,
⟨some 39,none,.idx 5 (.tmp 37) (.tmp 38)⟩,
⟨some 40,none,.ld true 5 (.tmp 39)⟩,
⟨some 4,none,.alc 29 [.int .i64 0,.int .i64 0,.int .i64 0,.bool false,.slice none 0 0]⟩,
⟨none,none,.sto true 5 (.tmp 4) (.tmp 40)⟩])
 (.seq
 (.seq
 (.ops [
 ⟨some 41,none,.fad 0 false 1 (.tmp 4)⟩,
⟨some 42,none,.ld false 1 (.tmp 41)⟩,
⟨some 43,none,.bin .lss (.tmp 42) (.const (.int .i64 0))⟩,
⟨some 44,none,.mv (.tmp 43)⟩,
⟨some 45,some (44,false),.fad 0 false 1 (.tmp 4)⟩,
⟨some 46,some (44,false),.ld false 1 (.tmp 45)⟩,
⟨some 47,some (44,false),.fad 1 false 1 (.tmp 4)⟩,
⟨some 48,some (44,false),.ld false 1 (.tmp 47)⟩,
⟨some 49,some (44,false),.bin .gtr (.tmp 46) (.tmp 48)⟩,
⟨some 50,none,.pick (.tmp 44) (.const (.bool true)) (.tmp 49)⟩,
⟨some 51,none,.mv (.tmp 50)⟩,
⟨some 52,some (51,false),.fad 2 false 1 (.tmp 4)⟩,
⟨some 53,some (51,false),.ld false 1 (.tmp 52)⟩,
⟨some 54,some (51,false),.bin .lss (.tmp 53) (.const (.int .i64 0))⟩,
⟨some 55,none,.pick (.tmp 51) (.const (.bool true)) (.tmp 54)⟩,
⟨some 56,none,.mv (.tmp 55)⟩,
⟨some 57,some (56,false),.fad 1 false 1 (.tmp 4)⟩,
⟨some 58,some (56,false),.ld false 1 (.tmp 57)⟩,
⟨some 59,some (56,false),.fad 0 false 1 (.tmp 1)⟩,
⟨some 60,some (56,false),.ld false 1 (.tmp 59)⟩,
⟨some 61,some (56,false),.bin .gtr (.tmp 58) (.tmp 60)⟩,
⟨some 62,none,.pick (.tmp 56) (.const (.bool true)) (.tmp 61)⟩,
⟨some 63,none,.mv (.tmp 62)⟩,
⟨some 64,some (63,false),.fad 2 false 1 (.tmp 4)⟩,
⟨some 65,some (63,false),.ld false 1 (.tmp 64)⟩,
⟨some 66,some (63,false),.fad 0 false 1 (.tmp 1)⟩,
⟨some 67,some (63,false),.ld false 1 (.tmp 66)⟩,
⟨some 68,some (63,false),.fad 1 false 1 (.tmp 4)⟩,
⟨some 69,some (63,false),.ld false 1 (.tmp 68)⟩,
⟨some 70,some (63,false),.bin .sub (.tmp 67) (.tmp 69)⟩,
⟨some 71,some (63,false),.bin .gtr (.tmp 65) (.tmp 70)⟩,
⟨some 72,none,.pick (.tmp 63) (.const (.bool true)) (.tmp 71)⟩])
 (.cond (.tmp 72)
 (.seq
 (.ops [
 ⟨some 2,none,.mv (.const (.bool false))⟩])
 .ret)
 .skip))
 (.seq
 (.seq
 (.ops [
 ⟨some 5,none,.mv (.const (.int .i64 0))⟩])
 (.block 2
 (.loop
 (.seq
 (.seq
 (.ops [
 ⟨some 73,none,.mv (.tmp 5)⟩,
⟨some 74,none,.fad 4 false 1 (.tmp 4)⟩,
⟨some 75,none,.ld false 1 (.tmp 74)⟩,
⟨some 76,none,.len (.tmp 75)⟩,
⟨some 77,none,.bin .lss (.tmp 73) (.tmp 76)⟩])
 (.cond (.tmp 77)
 .skip
 (.exit 2)))
 (.seq
 (.block 3
 (.seq
 (.ops [
 ⟨some 80,none,.ld true 2 (.tmp 1)⟩,
⟨some 81,none,.mv (.tmp 3)⟩,
⟨some 82,none,.fad 4 false 1 (.tmp 4)⟩,
⟨some 83,none,.ld false 1 (.tmp 82)⟩,
⟨some 84,none,.mv (.tmp 5)⟩,
⟨some 85,none,.idx 4 (.tmp 83) (.tmp 84)⟩,
⟨some 86,none,.ld true 4 (.tmp 85)⟩,
⟨some 87,none,.call (.func 30) [.tmp 80,.tmp 81,.tmp 86]⟩,
⟨some 88,none,.un .not (.tmp 87)⟩])
 (.cond (.tmp 88)
 (.seq
 (.ops [
 ⟨some 2,none,.mv (.const (.bool false))⟩])
 .ret)
 .skip)))
 (.ops [
 ⟨some 78,none,.mv (.tmp 5)⟩,
⟨some 79,none,.bin .add (.tmp 78) (.const (.int .i64 1))⟩,
⟨some 5,none,.mv (.tmp 79)⟩]))))))
 (.seq
 (.ops [
 ⟨some 90,none,.ld true 2 (.tmp 1)⟩,
⟨some 91,none,.mv (.tmp 3)⟩,
⟨some 92,none,.call (.func 31) [.tmp 90,.tmp 91]⟩,
⟨some 89,none,.mv (.tmp 92)⟩,
⟨some 93,none,.ext (.tmp 89) 0⟩,
⟨some 94,none,.ext (.tmp 89) 1⟩,
⟨some 6,none,.mv (.tmp 93)⟩,
⟨some 7,none,.mv (.tmp 94)⟩])
 (.seq
 (.ops [
 ⟨some 95,none,.mv (.tmp 7)⟩,
⟨some 96,none,.un .not (.tmp 95)⟩])
 (.cond (.tmp 96)
 (.seq
 (.ops [
 ⟨some 2,none,.mv (.const (.bool false))⟩])
 .ret)
 .skip)))))))
 (.ops [
 ⟨some 34,none,.mv (.tmp 3)⟩,
⟨some 35,none,.bin .add (.tmp 34) (.const (.int .i64 1))⟩,
⟨some 3,none,.mv (.tmp 35)⟩]))))))
 (.seq
 (.ops [
 ⟨some 97,none,.fad 1 false 1 (.tmp 1)⟩,
⟨some 98,none,.ld false 1 (.tmp 97)⟩,
⟨some 99,none,.fad 1 false 1 (.tmp 1)⟩,
⟨some 100,none,.ld false 1 (.tmp 99)⟩,
⟨some 101,none,.len (.tmp 100)⟩,
⟨some 102,none,.bin .sub (.tmp 101) (.const (.int .i64 1))⟩,
⟨some 103,none,.idx 5 (.tmp 98) (.tmp 102)⟩,
⟨some 104,none,.ld true 5 (.tmp 103)⟩,
⟨some 8,none,.alc 29 [.int .i64 0,.int .i64 0,.int .i64 0,.bool false,.slice none 0 0]⟩,
⟨none,none,.sto true 5 (.tmp 8) (.tmp 104)⟩])
 (.seq
 (.ops [
 ⟨some 105,none,.fad 0 false 1 (.tmp 8)⟩,
⟨some 106,none,.ld false 1 (.tmp 105)⟩,
⟨some 107,none,.bin .eql (.tmp 106) (.const (.int .i64 0))⟩,
⟨some 108,none,.mv (.tmp 107)⟩,
⟨some 109,some (108,true),.fad 3 false 1 (.tmp 8)⟩,
⟨some 110,some (108,true),.ld false 1 (.tmp 109)⟩,
⟨some 111,some (108,true),.un .not (.tmp 110)⟩,
⟨some 112,none,.pick (.tmp 108) (.tmp 111) (.const (.bool false))⟩,
⟨some 2,none,.mv (.tmp 112)⟩])
 .ret)))))
theorem f_scref20_Right : compF Try.prog 16 = some (113, c_scref20_Right, [.tmp 2]) := by kernel_rfl
def c_scref20_Size : VC :=
 (.seq
 (.ops [
 ⟨some 1,none,.box 24 (.tmp 0)⟩,
⟨some 2,none,.mv (.const (.int .i64 0))⟩])
 (.seq
 (.ops [
 ⟨some 3,none,.mv (.const (.int .i64 0))⟩])
 (.seq
 (.seq
 (.ops [
 ⟨some 4,none,.mv (.const (.int .i64 0))⟩])
 (.block 0
 (.loop
 (.seq
 (.seq
 (.ops [
 ⟨some 5,none,.mv (.tmp 4)⟩,
⟨some 6,none,.fad 1 false 1 (.tmp 1)⟩,
⟨some 7,none,.ld false 1 (.tmp 6)⟩,
⟨some 8,none,.len (.tmp 7)⟩,
⟨some 9,none,.bin .lss (.tmp 5) (.tmp 8)⟩])
 (.cond (.tmp 9)
 .skip
 (.exit 0)))
 (.seq
 (.block 1
 (.ops [
 ⟨some 12,none,.mv (.tmp 3)⟩,
⟨some 13,none,.fad 1 false 1 (.tmp 1)⟩,
⟨some 14,none,.ld false 1 (.tmp 13)⟩,
⟨some 15,none,.mv (.tmp 4)⟩,
⟨some 16,none,.idx 5 (.tmp 14) (.tmp 15)⟩,
⟨some 17,none,.fad 4 false 1 (.tmp 16)⟩,
⟨some 18,none,.ld false 1 (.tmp 17)⟩,
⟨some 19,none,.len (.tmp 18)⟩,
⟨some 20,none,.bin .add (.tmp 12) (.tmp 19)⟩,
⟨some 3,none,.mv (.tmp 20)⟩]))
 (.ops [
 ⟨some 10,none,.mv (.tmp 4)⟩,
⟨some 11,none,.bin .add (.tmp 10) (.const (.int .i64 1))⟩,
⟨some 4,none,.mv (.tmp 11)⟩]))))))
 (.seq
 (.ops [
 ⟨some 21,none,.mv (.tmp 3)⟩,
⟨some 2,none,.mv (.tmp 21)⟩])
 .ret))))
theorem f_scref20_Size : compF Try.prog 17 = some (22, c_scref20_Size, [.tmp 2]) := by kernel_rfl
def c_sclaw22_does : VC :=
 (.seq
 (.ops [
 ⟨some 4,none,.box 24 (.tmp 0)⟩,
⟨some 5,none,.box 38 (.tmp 1)⟩,
⟨some 8,none,.mv (.const (.bool false))⟩])
 (.seq
 (.ops [
 ⟨some 10,none,.ld true 2 (.tmp 4)⟩,
⟨some 11,none,.mv (.tmp 2)⟩,
⟨some 12,none,.mv (.tmp 3)⟩,
⟨some 13,none,.call (.func 9) [.tmp 10,.tmp 11,.tmp 12]⟩,
⟨(some 9), none, (.alc 34 [(.int .i64 0), (.string ⟨#[]⟩), (.int .i64 0)])⟩,
⟨none,none,.sto true 3 (.tmp 9) (.tmp 13)⟩])
 (.seq
 (.seq
 (.ops [
 ⟨some 14,none,.fad 0 false 1 (.tmp 9)⟩,
⟨some 15,none,.ld false 1 (.tmp 14)⟩,
⟨some 16,none,.bin .eql (.tmp 15) (.const (.int .i64 5))⟩])
 (.cond (.tmp 16)
 (.seq
 (.ops [
 ⟨some 8,none,.mv (.const (.bool true))⟩])
 .ret)
 .skip))
 (.seq
 (.par false (.one ⟨some 17,none,.ld true 2 (.tmp 5)⟩ (.one ⟨some 18,none,.mv (.tmp 2)⟩ (.one ⟨some 19,none,.ld true 2 (.tmp 4)⟩ (.one ⟨some 20,none,.fad 2 false 1 (.tmp 9)⟩ (.one ⟨some 21,none,.ld false 1 (.tmp 20)⟩ (.one ⟨some 22,none,.call (.func 11) [.tmp 19,.tmp 21]⟩ (.one ⟨some 23,none,.call (.func 13) [.tmp 17,.tmp 18,.tmp 22]⟩ (.one ⟨some 24,none,.ld true 3 (.tmp 9)⟩ (.one ⟨some 25,none,.call (.func 20) [.tmp 23,.tmp 24]⟩ (.one ⟨some 8,none,.mv (.tmp 25)⟩ .done)))))))))))
 .ret))))
theorem f_sclaw22_does : compF Try.prog 18 = some (26, c_sclaw22_does, [.tmp 8]) := by kernel_rfl
def c_scref10_Ends : VC :=
 (.seq
 (.ops [
 ⟨some 2,none,.box 34 (.tmp 0)⟩,
⟨some 3,none,.box 34 (.tmp 1)⟩,
⟨some 4,none,.mv (.const (.bool false))⟩])
 (.seq
 (.ops [
 ⟨some 5,none,.fad 0 false 1 (.tmp 2)⟩,
⟨some 6,none,.ld false 1 (.tmp 5)⟩,
⟨some 7,none,.fad 0 false 1 (.tmp 3)⟩,
⟨some 8,none,.ld false 1 (.tmp 7)⟩,
⟨some 9,none,.bin .eql (.tmp 6) (.tmp 8)⟩,
⟨some 10,none,.mv (.tmp 9)⟩,
⟨some 11,some (10,true),.fad 1 false 1 (.tmp 2)⟩,
⟨some 12,some (10,true),.ld false 1 (.tmp 11)⟩,
⟨some 13,some (10,true),.fad 1 false 1 (.tmp 3)⟩,
⟨some 14,some (10,true),.ld false 1 (.tmp 13)⟩,
⟨some 15,some (10,true),.bin .eql (.tmp 12) (.tmp 14)⟩,
⟨some 16,none,.pick (.tmp 10) (.tmp 15) (.const (.bool false))⟩,
⟨some 4,none,.mv (.tmp 16)⟩])
 .ret))
theorem f_scref10_Ends : compF Try.prog 20 = some (17, c_scref10_Ends, [.tmp 4]) := by kernel_rfl
def c_sclaw22_plain : VC :=
 (.seq
 (.ops [
 ⟨some 0,none,.alc 24 [.int .i64 0,.slice none 0 0]⟩])
 (.seq
 (.ops [
 ⟨some 1,none,.bld [.int .i64 0,.int .i64 0,.int .i64 0,.int .u32 0] [(0, (1, (.const (.int .i64 1)))), (3, (1, (.const (.int .u32 65))))]⟩,
⟨some 2,none,.bld [.int .i64 0,.int .i64 0,.int .i64 0,.int .u32 0] [(0, (1, (.const (.int .i64 13))))]⟩,
⟨some 3,none,.bld [.int .i64 0,.int .i64 0,.int .i64 0,.int .u32 0] [(0, (1, (.const (.int .i64 11))))]⟩,
⟨some 4,none,.bsl 32 4 3 [.int .i64 0,.int .i64 0,.int .i64 0,.int .u32 0,.int .i64 0,.int .i64 0,.int .i64 0,.int .u32 0,.int .i64 0,.int .i64 0,.int .i64 0,.int .u32 0] [(0, (4, (.tmp 1))), (4, (4, (.tmp 2))), (8, (4, (.tmp 3)))]⟩,
⟨some 5,none,.bld [.int .i64 0,.int .i64 0,.int .i64 0,.bool false,.slice none 0 0] [(4, (1, (.tmp 4)))]⟩,
⟨some 6,none,.bsl 29 5 1 [.int .i64 0,.int .i64 0,.int .i64 0,.bool false,.slice none 0 0] [(0, (5, (.tmp 5)))]⟩,
⟨some 7,none,.bld [.int .i64 0,.slice none 0 0] [(1, (1, (.tmp 6)))]⟩,
⟨none,none,.sto true 2 (.tmp 0) (.tmp 7)⟩])
 .ret))
theorem f_sclaw22_plain : compF Try.prog 21 = some (8, c_sclaw22_plain, [(.cell 0 true 2)]) := by kernel_rfl
def c_scref20_M_step : VC :=
 (.seq
 (.par false (.one ⟨some 15,none,.mv (.tmp 0)⟩ (.one ⟨some 16,none,.nck (.tmp 15)⟩ (.one ⟨some 17,none,.fad 8 false 1 (.tmp 16)⟩ (.one ⟨some 18,none,.ld false 1 (.tmp 17)⟩ (.one ⟨some 19,none,.mv (.tmp 0)⟩ (.one ⟨some 20,none,.nck (.tmp 19)⟩ (.one ⟨some 21,none,.fad 8 false 1 (.tmp 20)⟩ (.one ⟨some 22,none,.ld false 1 (.tmp 21)⟩ (.one ⟨some 23,none,.len (.tmp 22)⟩ (.one ⟨some 24,none,.bin .sub (.tmp 23) (.const (.int .i64 1))⟩ (.one ⟨some 25,none,.idx 3 (.tmp 18) (.tmp 24)⟩ (.one ⟨some 26,none,.ld true 3 (.tmp 25)⟩ (.one ⟨some 2,none,.alc 69 [.int .i64 0,.int .i64 0,.slice none 0 0]⟩ (.one ⟨none,none,.sto true 3 (.tmp 2) (.tmp 26)⟩ .done)))))))))))))))
 (.seq
 (.par false (.one ⟨some 27,none,.mv (.tmp 0)⟩ (.one ⟨some 28,none,.nck (.tmp 27)⟩ (.one ⟨some 29,none,.fad 0 true 2 (.tmp 28)⟩ (.one ⟨some 30,none,.fad 1 false 1 (.tmp 29)⟩ (.one ⟨some 31,none,.ld false 1 (.tmp 30)⟩ (.one ⟨some 32,none,.fad 0 false 1 (.tmp 2)⟩ (.one ⟨some 33,none,.ld false 1 (.tmp 32)⟩ (.one ⟨some 34,none,.idx 5 (.tmp 31) (.tmp 33)⟩ (.one ⟨some 35,none,.fad 4 false 1 (.tmp 34)⟩ (.one ⟨some 36,none,.ld false 1 (.tmp 35)⟩ (.one ⟨some 37,none,.fad 1 false 1 (.tmp 2)⟩ (.one ⟨some 38,none,.ld false 1 (.tmp 37)⟩ (.one ⟨some 39,none,.idx 4 (.tmp 36) (.tmp 38)⟩ (.one ⟨some 40,none,.ld true 4 (.tmp 39)⟩ (.one ⟨some 3,none,.alc 32 [.int .i64 0,.int .i64 0,.int .i64 0,.int .u32 0]⟩ (.one ⟨none,none,.sto true 4 (.tmp 3) (.tmp 40)⟩ .done)))))))))))))))))
 (.seq
 (.ops [
 ⟨some 41,none,.mv (.tmp 0)⟩,
⟨some 42,none,.fad 1 false 1 (.tmp 2)⟩,
⟨some 43,none,.ld false 1 (.tmp 42)⟩,
⟨some 44,none,.bin .add (.tmp 43) (.const (.int .i64 1))⟩,
⟨some 45,none,.call (.func 33) [.tmp 41,.tmp 44]⟩])
 (.seq
 (.ops [
 ⟨some 46,none,.mv (.tmp 0)⟩,
⟨some 47,none,.nck (.tmp 46)⟩,
⟨some 48,none,.fad 6 false 1 (.tmp 47)⟩,
⟨some 49,none,.ld false 1 (.tmp 48)⟩,
⟨some 50,none,.bin .add (.tmp 49) (.const (.int .i64 1))⟩,
⟨some 51,none,.nck (.tmp 46)⟩,
⟨some 52,none,.fad 6 false 1 (.tmp 51)⟩,
⟨none,none,.sto false 1 (.tmp 52) (.tmp 50)⟩])
 (.seq
 (.ops [
 ⟨some 53,none,.fad 0 false 1 (.tmp 3)⟩,
⟨some 54,none,.ld false 1 (.tmp 53)⟩])
 (.block 0
 (.seq
 (.ops [
 ⟨some 78,none,.bin .eql (.tmp 54) (.const (.int .i64 1))⟩,
⟨some 77,none,.mv (.tmp 78)⟩])
 (.cond (.tmp 77)
 (.ops [
 ⟨some 79,none,.mv (.tmp 0)⟩,
⟨some 80,none,.fad 3 false 1 (.tmp 3)⟩,
⟨some 81,none,.ld false 1 (.tmp 80)⟩,
⟨some 82,none,.call (.func 34) [.tmp 79,.tmp 81]⟩])
 (.seq
 (.ops [
 ⟨some 84,none,.bin .eql (.tmp 54) (.const (.int .i64 2))⟩,
⟨some 83,none,.mv (.tmp 84)⟩])
 (.cond (.tmp 83)
 (.ops [
 ⟨some 85,none,.mv (.tmp 0)⟩,
⟨some 86,none,.mv (.tmp 0)⟩,
⟨some 87,none,.nck (.tmp 86)⟩,
⟨some 88,none,.fad 4 false 1 (.tmp 87)⟩,
⟨some 89,none,.ld false 1 (.tmp 88)⟩,
⟨some 90,none,.fad 1 false 1 (.tmp 3)⟩,
⟨some 91,none,.ld false 1 (.tmp 90)⟩,
⟨some 92,none,.idx 1 (.tmp 89) (.tmp 91)⟩,
⟨some 93,none,.ld false 1 (.tmp 92)⟩,
⟨some 94,none,.call (.func 34) [.tmp 85,.tmp 93]⟩])
 (.seq
 (.ops [
 ⟨some 96,none,.bin .eql (.tmp 54) (.const (.int .i64 3))⟩,
⟨some 95,none,.mv (.tmp 96)⟩])
 (.cond (.tmp 95)
 (.par false (.one ⟨some 97,none,.mv (.tmp 0)⟩ (.one ⟨some 98,none,.nck (.tmp 97)⟩ (.one ⟨some 99,none,.fad 4 false 1 (.tmp 98)⟩ (.one ⟨some 101,none,.fad 1 false 1 (.tmp 3)⟩ (.one ⟨some 103,none,.mv (.tmp 0)⟩ (.both (.one ⟨some 100,none,.ld false 1 (.tmp 99)⟩ (.both (.one ⟨some 102,none,.ld false 1 (.tmp 101)⟩ (.one ⟨some 104,none,.callM true (.func 35) [.tmp 103]⟩ (.one ⟨some 105,none,.idx 1 (.tmp 100) (.tmp 102)⟩ (.one ⟨none,none,.sto false 1 (.tmp 105) (.tmp 104)⟩ .done)))) (.one ⟨some 104,none,.callM true (.func 35) [.tmp 103]⟩ (.one ⟨some 102,none,.ld false 1 (.tmp 101)⟩ (.one ⟨some 105,none,.idx 1 (.tmp 100) (.tmp 102)⟩ (.one ⟨none,none,.sto false 1 (.tmp 105) (.tmp 104)⟩ .done)))))) (.both (.one ⟨some 102,none,.ld false 1 (.tmp 101)⟩ (.both (.one ⟨some 100,none,.ld false 1 (.tmp 99)⟩ (.one ⟨some 104,none,.callM true (.func 35) [.tmp 103]⟩ (.one ⟨some 105,none,.idx 1 (.tmp 100) (.tmp 102)⟩ (.one ⟨none,none,.sto false 1 (.tmp 105) (.tmp 104)⟩ .done)))) (.one ⟨some 104,none,.callM true (.func 35) [.tmp 103]⟩ (.one ⟨some 100,none,.ld false 1 (.tmp 99)⟩ (.one ⟨some 105,none,.idx 1 (.tmp 100) (.tmp 102)⟩ (.one ⟨none,none,.sto false 1 (.tmp 105) (.tmp 104)⟩ .done)))))) (.one ⟨some 104,none,.callM true (.func 35) [.tmp 103]⟩ (.one ⟨some 100,none,.ld false 1 (.tmp 99)⟩ (.one ⟨some 102,none,.ld false 1 (.tmp 101)⟩ (.one ⟨some 105,none,.idx 1 (.tmp 100) (.tmp 102)⟩ (.one ⟨none,none,.sto false 1 (.tmp 105) (.tmp 104)⟩ .done)))))))))))))
 (.seq
 (.ops [
 ⟨some 107,none,.bin .eql (.tmp 54) (.const (.int .i64 4))⟩,
⟨some 106,none,.mv (.tmp 107)⟩])
 (.cond (.tmp 106)
 (.seq
 (.ops [
 ⟨some 108,none,.mv (.tmp 0)⟩,
⟨some 109,none,.callM true (.func 35) [.tmp 108]⟩,
⟨some 4,none,.mv (.tmp 109)⟩])
 (.seq
 (.seq
 (.ops [
 ⟨some 110,none,.mv (.tmp 4)⟩,
⟨some 111,none,.fad 2 false 1 (.tmp 3)⟩,
⟨some 112,none,.ld false 1 (.tmp 111)⟩,
⟨some 113,none,.conv .u32 (.tmp 112)⟩,
⟨some 114,none,.bin .geq (.tmp 110) (.tmp 113)⟩])
 (.cond (.tmp 114)
 (.seq
 (.ops [
 ⟨some 115,none,.mv (.tmp 0)⟩,
⟨some 116,none,.nck (.tmp 115)⟩,
⟨some 117,none,.fad 7 false 1 (.tmp 116)⟩,
⟨none,none,.sto false 1 (.tmp 117) (.const (.int .i64 3))⟩])
 .ret)
 .skip))
 (.ops [
 ⟨some 118,none,.mv (.tmp 0)⟩,
⟨some 119,none,.mv (.tmp 0)⟩,
⟨some 120,none,.nck (.tmp 119)⟩,
⟨some 121,none,.fad 4 false 1 (.tmp 120)⟩,
⟨some 122,none,.ld false 1 (.tmp 121)⟩,
⟨some 123,none,.fad 1 false 1 (.tmp 3)⟩,
⟨some 124,none,.ld false 1 (.tmp 123)⟩,
⟨some 125,none,.mv (.tmp 4)⟩,
⟨some 126,none,.conv .i64 (.tmp 125)⟩,
⟨some 127,none,.bin .add (.tmp 124) (.tmp 126)⟩,
⟨some 128,none,.idx 1 (.tmp 122) (.tmp 127)⟩,
⟨some 129,none,.ld false 1 (.tmp 128)⟩,
⟨some 130,none,.call (.func 34) [.tmp 118,.tmp 129]⟩])))
 (.seq
 (.ops [
 ⟨some 132,none,.bin .eql (.tmp 54) (.const (.int .i64 5))⟩,
⟨some 131,none,.mv (.tmp 132)⟩])
 (.cond (.tmp 131)
 (.seq
 (.ops [
 ⟨some 133,none,.mv (.tmp 0)⟩,
⟨some 134,none,.callM true (.func 35) [.tmp 133]⟩,
⟨some 5,none,.mv (.tmp 134)⟩])
 (.seq
 (.ops [
 ⟨some 135,none,.mv (.tmp 0)⟩,
⟨some 136,none,.callM true (.func 35) [.tmp 135]⟩,
⟨some 6,none,.mv (.tmp 136)⟩])
 (.seq
 (.seq
 (.ops [
 ⟨some 137,none,.mv (.tmp 6)⟩,
⟨some 138,none,.fad 2 false 1 (.tmp 3)⟩,
⟨some 139,none,.ld false 1 (.tmp 138)⟩,
⟨some 140,none,.conv .u32 (.tmp 139)⟩,
⟨some 141,none,.bin .geq (.tmp 137) (.tmp 140)⟩])
 (.cond (.tmp 141)
 (.seq
 (.ops [
 ⟨some 142,none,.mv (.tmp 0)⟩,
⟨some 143,none,.nck (.tmp 142)⟩,
⟨some 144,none,.fad 7 false 1 (.tmp 143)⟩,
⟨none,none,.sto false 1 (.tmp 144) (.const (.int .i64 3))⟩])
 .ret)
 .skip))
 (.ops [
 ⟨some 145,none,.mv (.tmp 0)⟩,
⟨some 146,none,.nck (.tmp 145)⟩,
⟨some 147,none,.fad 4 false 1 (.tmp 146)⟩,
⟨some 148,none,.ld false 1 (.tmp 147)⟩,
⟨some 149,none,.fad 1 false 1 (.tmp 3)⟩,
⟨some 150,none,.ld false 1 (.tmp 149)⟩,
⟨some 151,none,.mv (.tmp 6)⟩,
⟨some 152,none,.conv .i64 (.tmp 151)⟩,
⟨some 153,none,.bin .add (.tmp 150) (.tmp 152)⟩,
⟨some 154,none,.mv (.tmp 5)⟩,
⟨some 155,none,.idx 1 (.tmp 148) (.tmp 153)⟩,
⟨none,none,.sto false 1 (.tmp 155) (.tmp 154)⟩]))))
 (.seq
 (.ops [
 ⟨some 157,none,.bin .eql (.tmp 54) (.const (.int .i64 6))⟩,
⟨some 156,none,.mv (.tmp 157)⟩])
 (.cond (.tmp 156)
 (.seq
 (.ops [
 ⟨some 158,none,.mv (.tmp 0)⟩,
⟨some 159,none,.callM true (.func 35) [.tmp 158]⟩,
⟨some 7,none,.mv (.tmp 159)⟩])
 (.seq
 (.ops [
 ⟨some 160,none,.mv (.tmp 0)⟩,
⟨some 161,none,.callM true (.func 35) [.tmp 160]⟩,
⟨some 8,none,.mv (.tmp 161)⟩])
 (.seq
 (.ops [
 ⟨some 163,none,.fad 1 false 1 (.tmp 3)⟩,
⟨some 164,none,.ld false 1 (.tmp 163)⟩,
⟨some 165,none,.mv (.tmp 8)⟩,
⟨some 166,none,.mv (.tmp 7)⟩,
⟨some 167,none,.call (.func 36) [.tmp 164,.tmp 165,.tmp 166]⟩,
⟨some 162,none,.mv (.tmp 167)⟩,
⟨some 168,none,.ext (.tmp 162) 0⟩,
⟨some 169,none,.ext (.tmp 162) 1⟩,
⟨some 9,none,.mv (.tmp 168)⟩,
⟨some 10,none,.mv (.tmp 169)⟩])
 (.seq
 (.seq
 (.ops [
 ⟨some 170,none,.mv (.tmp 10)⟩,
⟨some 171,none,.bin .neq (.tmp 170) (.const (.int .i64 0))⟩])
 (.cond (.tmp 171)
 (.seq
 (.ops [
 ⟨some 172,none,.mv (.tmp 0)⟩,
⟨some 173,none,.nck (.tmp 172)⟩,
⟨some 174,none,.fad 7 false 1 (.tmp 173)⟩,
⟨none,none,.sto false 1 (.tmp 174) (.const (.int .i64 2))⟩])
 .ret)
 .skip))
 (.ops [
 ⟨some 175,none,.mv (.tmp 0)⟩,
⟨some 176,none,.mv (.tmp 9)⟩,
⟨some 177,none,.call (.func 34) [.tmp 175,.tmp 176]⟩])))))
 (.seq
 (.ops [
 ⟨some 179,none,.bin .eql (.tmp 54) (.const (.int .i64 7))⟩,
⟨some 178,none,.mv (.tmp 179)⟩])
 (.cond (.tmp 178)
 (.seq
 (.ops [
 ⟨some 180,none,.mv (.tmp 0)⟩,
⟨some 181,none,.callM true (.func 35) [.tmp 180]⟩,
⟨some 11,none,.mv (.tmp 181)⟩])
 (.seq
 (.ops [
 ⟨some 182,none,.mv (.tmp 11)⟩,
⟨some 183,none,.bin .eql (.tmp 182) (.const (.int .u32 0))⟩])
 (.cond (.tmp 183)
 (.ops [
 ⟨some 184,none,.mv (.tmp 0)⟩,
⟨some 185,none,.call (.func 34) [(.tmp 184), (.const (.int .u32 1))]⟩])
 (.ops [
 ⟨some 186,none,.mv (.tmp 0)⟩,
⟨some 187,none,.call (.func 34) [(.tmp 186), (.const (.int .u32 0))]⟩]))))
 (.seq
 (.ops [
 ⟨some 189,none,.bin .eql (.tmp 54) (.const (.int .i64 8))⟩,
⟨some 188,none,.mv (.tmp 189)⟩])
 (.cond (.tmp 188)
 (.ops [
 ⟨some 190,none,.mv (.tmp 0)⟩,
⟨some 191,none,.fad 1 false 1 (.tmp 3)⟩,
⟨some 192,none,.ld false 1 (.tmp 191)⟩,
⟨some 193,none,.call (.func 33) [.tmp 190,.tmp 192]⟩])
 (.seq
 (.ops [
 ⟨some 195,none,.bin .eql (.tmp 54) (.const (.int .i64 9))⟩,
⟨some 194,none,.mv (.tmp 195)⟩])
 (.cond (.tmp 194)
 (.seq
 (.ops [
 ⟨some 196,none,.mv (.tmp 0)⟩,
⟨some 197,none,.callM true (.func 35) [.tmp 196]⟩,
⟨some 12,none,.mv (.tmp 197)⟩])
 (.seq
 (.ops [
 ⟨some 198,none,.mv (.tmp 12)⟩,
⟨some 199,none,.bin .eql (.tmp 198) (.const (.int .u32 0))⟩])
 (.cond (.tmp 199)
 (.ops [
 ⟨some 200,none,.mv (.tmp 0)⟩,
⟨some 201,none,.fad 1 false 1 (.tmp 3)⟩,
⟨some 202,none,.ld false 1 (.tmp 201)⟩,
⟨some 203,none,.call (.func 33) [.tmp 200,.tmp 202]⟩])
 .skip)))
 (.seq
 (.ops [
 ⟨some 205,none,.bin .eql (.tmp 54) (.const (.int .i64 10))⟩,
⟨some 204,none,.mv (.tmp 205)⟩])
 (.cond (.tmp 204)
 (.ops [
 ⟨some 206,none,.mv (.tmp 0)⟩,
⟨some 207,none,.fad 1 false 1 (.tmp 3)⟩,
⟨some 208,none,.ld false 1 (.tmp 207)⟩,
⟨some 209,none,.call (.func 37) [.tmp 206,.tmp 208]⟩])
 (.seq
 (.ops [
 ⟨some 211,none,.bin .eql (.tmp 54) (.const (.int .i64 11))⟩,
⟨some 210,none,.mv (.tmp 211)⟩])
 (.cond (.tmp 210)
 (.ops [
 ⟨some 212,none,.mv (.tmp 0)⟩,
⟨some 213,none,.call (.func 38) [.tmp 212]⟩])
 (.seq
 (.ops [
 ⟨some 215,none,.bin .eql (.tmp 54) (.const (.int .i64 12))⟩,
⟨some 214,none,.mv (.tmp 215)⟩])
 (.cond (.tmp 214)
 (.seq
 (.ops [
 ⟨some 13,none,.mv (.const (.int .u32 256))⟩])
 (.seq
 (.seq
 (.ops [
 ⟨some 216,none,.mv (.tmp 0)⟩,
⟨some 217,none,.nck (.tmp 216)⟩,
⟨some 218,none,.fad 3 false 1 (.tmp 217)⟩,
⟨some 219,none,.ld false 1 (.tmp 218)⟩,
⟨some 220,none,.mv (.tmp 0)⟩,
⟨some 221,none,.nck (.tmp 220)⟩,
⟨some 222,none,.fad 2 false 1 (.tmp 221)⟩,
⟨some 223,none,.ld false 1 (.tmp 222)⟩,
⟨some 224,none,.lens (.tmp 223)⟩,
⟨some 225,none,.bin .lss (.tmp 219) (.tmp 224)⟩])
 (.cond (.tmp 225)
 (.seq
 (.ops [
 ⟨some 226,none,.mv (.tmp 0)⟩,
⟨some 227,none,.nck (.tmp 226)⟩,
⟨some 228,none,.fad 2 false 1 (.tmp 227)⟩,
⟨some 229,none,.ld false 1 (.tmp 228)⟩,
⟨some 230,none,.mv (.tmp 0)⟩,
⟨some 231,none,.nck (.tmp 230)⟩,
⟨some 232,none,.fad 3 false 1 (.tmp 231)⟩,
⟨some 233,none,.ld false 1 (.tmp 232)⟩,
⟨some 234,none,.pur .six [.tmp 229,.tmp 233]⟩,
⟨some 235,none,.conv .u32 (.tmp 234)⟩,
⟨some 13,none,.mv (.tmp 235)⟩])
 (.ops [
 ⟨some 236,none,.mv (.tmp 0)⟩,
⟨some 237,none,.nck (.tmp 236)⟩,
⟨some 238,none,.fad 3 false 1 (.tmp 237)⟩,
⟨some 239,none,.ld false 1 (.tmp 238)⟩,
⟨some 240,none,.bin .add (.tmp 239) (.const (.int .i64 1))⟩,
⟨some 241,none,.nck (.tmp 236)⟩,
⟨some 242,none,.fad 3 false 1 (.tmp 241)⟩,
⟨none,none,.sto false 1 (.tmp 242) (.tmp 240)⟩]))
 .skip))
 (.ops [
 ⟨some 243,none,.mv (.tmp 0)⟩,
⟨some 244,none,.mv (.tmp 13)⟩,
⟨some 245,none,.call (.func 34) [.tmp 243,.tmp 244]⟩])))
 (.seq
 (.ops [
 ⟨some 55,none,.mv (.tmp 0)⟩,
⟨some 56,none,.callM true (.func 35) [.tmp 55]⟩,
⟨some 14,none,.mv (.tmp 56)⟩])
 (.seq
 (.seq
 (.ops [
 ⟨some 57,none,.mv (.tmp 0)⟩,
⟨some 58,none,.nck (.tmp 57)⟩,
⟨some 59,none,.fad 5 false 1 (.tmp 58)⟩,
⟨some 60,none,.ld false 1 (.tmp 59)⟩,
⟨some 61,none,.len (.tmp 60)⟩,
⟨some 62,none,.bin .geq (.tmp 61) (.const (.int .i64 65536))⟩])
 (.cond (.tmp 62)
 (.seq
 (.ops [
 ⟨some 63,none,.mv (.tmp 0)⟩,
⟨some 64,none,.nck (.tmp 63)⟩,
⟨some 65,none,.fad 7 false 1 (.tmp 64)⟩,
⟨none,none,.sto false 1 (.tmp 65) (.const (.int .i64 4))⟩])
 .ret)
 .skip))
 (.ops [
 ⟨some 66,none,.mv (.tmp 0)⟩,
⟨some 67,none,.mv (.tmp 0)⟩,
⟨some 68,none,.nck (.tmp 67)⟩,
⟨some 69,none,.fad 5 false 1 (.tmp 68)⟩,
⟨some 70,none,.ld false 1 (.tmp 69)⟩,
⟨some 71,none,.mv (.tmp 14)⟩,
⟨some 72,none,.conv .u8 (.tmp 71)⟩,
⟨some 73,none,.bsl 5 1 1 [.int .u8 0] [(0, (1, (.tmp 72)))]⟩,
⟨some 74,none,.app 5 1 1 (.tmp 70) (.tmp 73)⟩,
⟨some 75,none,.nck (.tmp 66)⟩,
⟨some 76,none,.fad 5 false 1 (.tmp 75)⟩,
⟨none,none,.sto false 1 (.tmp 76) (.tmp 74)⟩])))))))))))))))))))))))))))))))))
theorem f_scref20_M_step : compF Try.prog 24 = some (246, c_scref20_M_step, []) := by kernel_rfl
def c_emit_planOf : VC :=
 (.seq
 (.ops [
 ⟨some 1,none,.box 24 (.tmp 0)⟩,
⟨some 2,none,.alc 77 [.slice none 0 0,.slice none 0 0,.slice none 0 0,.int .i64 0]⟩])
 (.seq
 (.ops [
 ⟨some 11,none,.fad 0 false 1 (.tmp 1)⟩,
⟨some 12,none,.ld false 1 (.tmp 11)⟩,
⟨some 13,none,.bld [.slice none 0 0,.slice none 0 0,.slice none 0 0,.int .i64 0] [(3, (1, (.tmp 12)))]⟩,
⟨some 3,none,.alc 77 [.slice none 0 0,.slice none 0 0,.slice none 0 0,.int .i64 0]⟩,
⟨none,none,.sto true 4 (.tmp 3) (.tmp 13)⟩])
 (.seq
 (.ops [
 ⟨some 14,none,.fad 1 false 1 (.tmp 1)⟩,
⟨some 15,none,.ld false 1 (.tmp 14)⟩,
⟨some 16,none,.len (.tmp 15)⟩,
⟨some 17,none,.bin .sub (.tmp 16) (.const (.int .i64 1))⟩,
⟨some 4,none,.mv (.tmp 17)⟩])
 (.seq
 (.seq
 (.ops [
 ⟨some 18,none,.fad 1 false 1 (.tmp 1)⟩,
⟨some 19,none,.ld false 1 (.tmp 18)⟩,
⟨some 20,none,.len (.tmp 19)⟩,
⟨some 21,none,.mv (.const (.int .i64 0))⟩])
 (.block 0
 (.loop
 (.seq
 (.ops [
 ⟨some 22,none,.bin .lss (.tmp 21) (.tmp 20)⟩])
 (.seq
 (.cond (.tmp 22)
 .skip
 (.exit 0))
 (.seq
 (.block 1
 (.seq
 (.ops [
 ⟨some 23,none,.mv (.tmp 21)⟩,
⟨some 5,none,.mv (.tmp 23)⟩])
 (.seq
 (.ops [
 ⟨some 25,none,.ld true 2 (.tmp 1)⟩,
⟨some 26,none,.mv (.tmp 5)⟩,
⟨some 27,none,.call (.func 39) [.tmp 25,.tmp 26]⟩,
⟨some 24,none,.mv (.tmp 27)⟩,
⟨some 28,none,.ext (.tmp 24) 0⟩,
⟨some 29,none,.ext (.tmp 24) 1⟩,
⟨some 6,none,.mv (.tmp 28)⟩,
⟨some 7,none,.mv (.tmp 29)⟩])
 (.seq
 (.ops [
 ⟨some 30,none,.fad 0 false 1 (.tmp 3)⟩,
⟨some 31,none,.ld false 1 (.tmp 30)⟩,
⟨some 32,none,.mv (.tmp 6)⟩,
⟨some 33,none,.bsl 75 1 1 [.slice none 0 0] [(0, (1, (.tmp 32)))]⟩,
⟨some 34,none,.app 75 1 24 (.tmp 31) (.tmp 33)⟩,
⟨some 35,none,.fad 0 false 1 (.tmp 3)⟩,
⟨none,none,.sto false 1 (.tmp 35) (.tmp 34)⟩])
 (.seq
 (.ops [
 ⟨some 36,none,.fad 1 false 1 (.tmp 3)⟩,
⟨some 37,none,.ld false 1 (.tmp 36)⟩,
⟨some 38,none,.fad 3 false 1 (.tmp 3)⟩,
⟨some 39,none,.ld false 1 (.tmp 38)⟩,
⟨some 40,none,.bsl 3 1 1 [.int .i64 0] [(0, (1, (.tmp 39)))]⟩,
⟨some 41,none,.app 3 1 8 (.tmp 37) (.tmp 40)⟩,
⟨some 42,none,.fad 1 false 1 (.tmp 3)⟩,
⟨none,none,.sto false 1 (.tmp 42) (.tmp 41)⟩])
 (.seq
 (.seq
 (.ops [
 ⟨some 43,none,.mv (.tmp 5)⟩,
⟨some 44,none,.mv (.tmp 4)⟩,
⟨some 45,none,.bin .neq (.tmp 43) (.tmp 44)⟩])
 (.cond (.tmp 45)
 (.ops [
 ⟨some 46,none,.fad 3 false 1 (.tmp 3)⟩,
⟨some 47,none,.ld false 1 (.tmp 46)⟩,
⟨some 48,none,.bin .add (.tmp 47) (.const (.int .i64 1))⟩,
⟨some 49,none,.fad 3 false 1 (.tmp 3)⟩,
⟨none,none,.sto false 1 (.tmp 49) (.tmp 48)⟩])
 .skip))
 (.seq
 (.ops [
 ⟨some 50,none,.fad 2 false 1 (.tmp 3)⟩,
⟨some 51,none,.ld false 1 (.tmp 50)⟩,
⟨some 52,none,.fad 3 false 1 (.tmp 3)⟩,
⟨some 53,none,.ld false 1 (.tmp 52)⟩,
⟨some 54,none,.bsl 3 1 1 [.int .i64 0] [(0, (1, (.tmp 53)))]⟩,
⟨some 55,none,.app 3 1 8 (.tmp 51) (.tmp 54)⟩,
⟨some 56,none,.fad 2 false 1 (.tmp 3)⟩,
⟨none,none,.sto false 1 (.tmp 56) (.tmp 55)⟩])
 (.seq
 (.ops [
 ⟨some 8,none,.mv (.const (.int .i64 0))⟩])
 (.seq
 (.seq
 (.ops [
 ⟨some 57,none,.mv (.tmp 6)⟩,
⟨some 58,none,.len (.tmp 57)⟩,
⟨some 59,none,.mv (.const (.int .i64 0))⟩])
 (.block 2
 (.loop
 (.seq
 (.ops [
 ⟨some 60,none,.bin .lss (.tmp 59) (.tmp 58)⟩])
 (.seq
 (.cond (.tmp 60)
 .skip
 (.exit 2))
 (.seq
 (.block 3
 (.seq
 (.ops [
 ⟨some 61,none,.idx 1 (.tmp 57) (.tmp 59)⟩,
⟨some 62,none,.ld false 1 (.tmp 61)⟩,
⟨some 10,none,.mv (.tmp 62)⟩])
 (.ops [
 ⟨some 63,none,.mv (.tmp 8)⟩,
⟨some 64,none,.mv (.tmp 10)⟩,
⟨some 65,none,.pur .mx [.tmp 63,.tmp 64]⟩,
⟨some 8,none,.mv (.tmp 65)⟩])))
 (.ops [
 ⟨some 66,none,.bin .add (.tmp 59) (.const (.int .i64 1))⟩,
⟨some 59,none,.mv (.tmp 66)⟩])))))))
 (.ops [
 ⟨some 67,none,.fad 3 false 1 (.tmp 3)⟩,
⟨some 68,none,.ld false 1 (.tmp 67)⟩,
⟨some 69,none,.mv (.tmp 8)⟩,
⟨some 70,none,.bin .add (.tmp 68) (.tmp 69)⟩,
⟨some 71,none,.fad 3 false 1 (.tmp 3)⟩,
⟨none,none,.sto false 1 (.tmp 71) (.tmp 70)⟩]))))))))))
 (.ops [
 ⟨some 72,none,.bin .add (.tmp 21) (.const (.int .i64 1))⟩,
⟨some 21,none,.mv (.tmp 72)⟩])))))))
 (.seq
 (.ops [
 ⟨some 73,none,.ld true 4 (.tmp 3)⟩,
⟨none,none,.sto true 4 (.tmp 2) (.tmp 73)⟩])
 .ret)))))
theorem f_emit_planOf : compF Try.prog 25 = some (74, c_emit_planOf, [(.cell 2 true 4)]) := by kernel_rfl
def c_emit_generator_whole : VC :=
 (.seq
 (.ops [
 ⟨some 2,none,.mv (.const (.slice none 0 0))⟩])
 (.seq
 (.ops [
 ⟨some 9,none,.call (.func 40) []⟩,
⟨some 3,none,.mv (.tmp 9)⟩])
 (.seq
 (.ops [
 ⟨some 10,none,.mv (.tmp 0)⟩,
⟨some 11,none,.nck (.tmp 10)⟩,
⟨some 12,none,.fad 0 true 2 (.tmp 11)⟩,
⟨some 13,none,.fad 1 false 1 (.tmp 12)⟩,
⟨some 14,none,.ld false 1 (.tmp 13)⟩,
⟨some 15,none,.len (.tmp 14)⟩,
⟨some 16,none,.bin .sub (.tmp 15) (.const (.int .i64 1))⟩,
⟨some 4,none,.mv (.tmp 16)⟩])
 (.seq
 (.ops [
 ⟨some 17,none,.mv (.tmp 0)⟩,
⟨some 18,none,.call (.func 41) [(.tmp 17), (.const (.int .i64 1)), (.const (.int .i64 15)), (.const (.int .i64 0)), (.const (.int .i64 1))]⟩])
 (.seq
 (.ops [
 ⟨some 19,none,.mv (.tmp 0)⟩,
⟨some 20,none,.mv (.tmp 4)⟩,
⟨some 21,none,.mv (.tmp 3)⟩,
⟨some 22,none,.call (.func 42) [.tmp 19,.tmp 20,.tmp 21]⟩])
 (.seq
 (.seq
 (.ops [
 ⟨some 23,none,.mv (.tmp 4)⟩,
⟨some 24,none,.mv (.const (.int .i64 0))⟩])
 (.block 0
 (.loop
 (.seq
 (.ops [
 ⟨some 25,none,.bin .lss (.tmp 24) (.tmp 23)⟩])
 (.seq
 (.cond (.tmp 25)
 .skip
 (.exit 0))
 (.seq
 (.block 1
 (.seq
 (.ops [
 ⟨some 26,none,.mv (.tmp 24)⟩,
⟨some 5,none,.mv (.tmp 26)⟩])
 (.ops [
 ⟨some 27,none,.mv (.tmp 0)⟩,
⟨some 28,none,.mv (.tmp 5)⟩,
⟨some 29,none,.mv (.tmp 3)⟩,
⟨some 30,none,.call (.func 42) [.tmp 27,.tmp 28,.tmp 29]⟩])))
 (.ops [
 ⟨some 31,none,.bin .add (.tmp 24) (.const (.int .i64 1))⟩,
⟨some 24,none,.mv (.tmp 31)⟩])))))))
 (.seq
 (.ops [
 ⟨some 32,none,.mv (.tmp 0)⟩,
⟨some 33,none,.nck (.tmp 32)⟩,
⟨some 34,none,.fad 6 false 1 (.tmp 33)⟩,
⟨some 35,none,.ld false 1 (.tmp 34)⟩,
⟨some 36,none,.len (.tmp 35)⟩,
⟨some 37,none,.mk 86 4 32 [.int .i64 0,.int .i64 0,.int .i64 0,.int .i64 0] (.tmp 36) (.tmp 36)⟩,
⟨some 6,none,.mv (.tmp 37)⟩])
 (.seq
 (.ops [
 ⟨some 38,none,.mv (.tmp 6)⟩,
⟨some 39,none,.mv (.tmp 0)⟩,
⟨some 40,none,.nck (.tmp 39)⟩,
⟨some 41,none,.fad 6 false 1 (.tmp 40)⟩,
⟨some 42,none,.ld false 1 (.tmp 41)⟩,
⟨some 43,none,.eff (.cpy 4) [.tmp 38,.tmp 42]⟩])
 (.seq
 (.seq
 (.ops [
 ⟨some 44,none,.mv (.tmp 0)⟩,
⟨some 45,none,.nck (.tmp 44)⟩,
⟨some 46,none,.fad 9 false 1 (.tmp 45)⟩,
⟨some 47,none,.ld false 1 (.tmp 46)⟩,
⟨some 48,none,.len (.tmp 47)⟩,
⟨some 49,none,.mv (.const (.int .i64 0))⟩])
 (.block 2
 (.loop
 (.seq
 (.ops [
 ⟨some 50,none,.bin .lss (.tmp 49) (.tmp 48)⟩])
 (.seq
 (.cond (.tmp 50)
 .skip
 (.exit 2))
 (.seq
 (.block 3
 (.seq
 (.ops [
 ⟨some 51,none,.idx 3 (.tmp 47) (.tmp 49)⟩,
⟨some 52,none,.ld true 3 (.tmp 51)⟩,
⟨some 8,none,.alc 110 [.int .i64 0,.int .i64 0,.int .i64 0]⟩,
⟨none,none,.sto true 3 (.tmp 8) (.tmp 52)⟩])
 (.seq
 (.ops [
 ⟨some 53,none,.mv (.tmp 6)⟩,
⟨some 54,none,.fad 0 false 1 (.tmp 8)⟩,
⟨some 55,none,.ld false 1 (.tmp 54)⟩,
⟨some 56,none,.mv (.tmp 0)⟩,
⟨some 57,none,.nck (.tmp 56)⟩,
⟨some 58,none,.fad 7 false 1 (.tmp 57)⟩,
⟨some 59,none,.ld false 1 (.tmp 58)⟩,
⟨some 60,none,.fad 1 false 1 (.tmp 8)⟩,
⟨some 61,none,.ld false 1 (.tmp 60)⟩,
⟨some 62,none,.idx 1 (.tmp 59) (.tmp 61)⟩,
⟨some 63,none,.ld false 1 (.tmp 62)⟩,
⟨some 64,none,.idx 4 (.tmp 53) (.tmp 55)⟩,
⟨some 65,none,.fad 3 false 1 (.tmp 64)⟩,
⟨none,none,.sto false 1 (.tmp 65) (.tmp 63)⟩])
 (.seq
 (.ops [
 ⟨some 66,none,.fad 2 false 1 (.tmp 8)⟩,
⟨some 67,none,.ld false 1 (.tmp 66)⟩,
⟨some 68,none,.bin .geq (.tmp 67) (.const (.int .i64 0))⟩])
 (.cond (.tmp 68)
 (.ops [
 ⟨some 69,none,.mv (.tmp 6)⟩,
⟨some 70,none,.fad 0 false 1 (.tmp 8)⟩,
⟨some 71,none,.ld false 1 (.tmp 70)⟩,
⟨some 72,none,.mv (.tmp 0)⟩,
⟨some 73,none,.nck (.tmp 72)⟩,
⟨some 74,none,.fad 8 false 1 (.tmp 73)⟩,
⟨some 75,none,.ld false 1 (.tmp 74)⟩,
⟨some 76,none,.fad 1 false 1 (.tmp 8)⟩,
⟨some 77,none,.ld false 1 (.tmp 76)⟩,
⟨some 78,none,.idx 1 (.tmp 75) (.tmp 77)⟩,
⟨some 79,none,.ld false 1 (.tmp 78)⟩,
⟨some 80,none,.fad 2 false 1 (.tmp 8)⟩,
⟨some 81,none,.ld false 1 (.tmp 80)⟩,
⟨some 82,none,.idx 1 (.tmp 79) (.tmp 81)⟩,
⟨some 83,none,.ld false 1 (.tmp 82)⟩,
⟨some 84,none,.idx 4 (.tmp 69) (.tmp 71)⟩,
⟨some 85,none,.fad 3 false 1 (.tmp 84)⟩,
⟨none,none,.sto false 1 (.tmp 85) (.tmp 83)⟩])
 .skip)))))
 (.ops [
 ⟨some 86,none,.bin .add (.tmp 49) (.const (.int .i64 1))⟩,
⟨some 49,none,.mv (.tmp 86)⟩])))))))
 (.seq
 (.ops [
 ⟨some 87,none,.mv (.tmp 6)⟩,
⟨some 2,none,.mv (.tmp 87)⟩])
 .ret))))))))))
theorem f_emit_generator_whole : compF Try.prog 26 = some (88, c_emit_generator_whole, [.tmp 2]) := by kernel_rfl
def c_inst_Encode : VC :=
 (.seq
 (.ops [
 ⟨some 1,none,.box 86 (.tmp 0)⟩,
⟨some 2,none,.mv (.const (.int .u32 0))⟩,
⟨some 3,none,.mv (.const (.int .i64 0))⟩])
 (.seq
 (.seq
 (.ops [
 ⟨some 4,none,.ld true 4 (.tmp 1)⟩,
⟨some 5,none,.call (.func 43) [.tmp 4]⟩,
⟨some 6,none,.un .not (.tmp 5)⟩])
 (.cond (.tmp 6)
 (.seq
 (.ops [
 ⟨some 2,none,.mv (.const (.int .u32 0))⟩,
⟨some 3,none,.mv (.const (.int .i64 1))⟩])
 .ret)
 .skip))
 (.seq
 (.ops [
 ⟨some 7,none,.fad 0 false 1 (.tmp 1)⟩,
⟨some 8,none,.ld false 1 (.tmp 7)⟩,
⟨some 9,none,.conv .u32 (.tmp 8)⟩,
⟨some 10,none,.bin .shl (.tmp 9) (.const (.int .u64 24))⟩,
⟨some 11,none,.fad 1 false 1 (.tmp 1)⟩,
⟨some 12,none,.ld false 1 (.tmp 11)⟩,
⟨some 13,none,.conv .u32 (.tmp 12)⟩,
⟨some 14,none,.bin .shl (.tmp 13) (.const (.int .u64 20))⟩,
⟨some 15,none,.bin .or (.tmp 10) (.tmp 14)⟩,
⟨some 16,none,.fad 2 false 1 (.tmp 1)⟩,
⟨some 17,none,.ld false 1 (.tmp 16)⟩,
⟨some 18,none,.conv .u32 (.tmp 17)⟩,
⟨some 19,none,.bin .shl (.tmp 18) (.const (.int .u64 16))⟩,
⟨some 20,none,.bin .or (.tmp 15) (.tmp 19)⟩,
⟨some 21,none,.fad 3 false 1 (.tmp 1)⟩,
⟨some 22,none,.ld false 1 (.tmp 21)⟩,
⟨some 23,none,.conv .u32 (.tmp 22)⟩,
⟨some 24,none,.bin .or (.tmp 20) (.tmp 23)⟩,
⟨some 2,none,.mv (.tmp 24)⟩,
⟨some 3,none,.mv (.const (.int .i64 0))⟩])
 .ret)))
theorem f_inst_Encode : compF Try.prog 27 = some (25, c_inst_Encode, [.tmp 2,.tmp 3]) := by kernel_rfl
def c_scref10_Go : VC :=
 (.seq
 (.ops [
 ⟨some 4,none,.box 38 (.tmp 0)⟩,
⟨some 6,none,.box 91 (.tmp 2)⟩,
⟨(some 8), none, (.alc 91 [(.int .i64 0), (.int .u32 0), (.int .u32 0), (.int .u32 0), (.int .u32 0), (.int .u32 0), (.int .u32 0), (.int .u32 0), (.int .u32 0), (.int .u32 0), (.int .u32 0), (.int .u32 0), (.int .u32 0), (.int .u32 0), (.int .u32 0), (.int .u32 0), (.int .u32 0), (.slice none 0 0), (.int .i64 0), (.string ⟨#[]⟩), (.int .i64 0), (.int .i64 0)])⟩])
 (.seq
 (.ops [
 ⟨some 12,none,.ld true 2 (.tmp 4)⟩,
⟨some 13,none,.mv (.tmp 1)⟩,
⟨some 14,none,.ld true 22 (.tmp 6)⟩,
⟨some 15,none,.mv (.tmp 3)⟩,
⟨some 16,none,.call (.func 44) [.tmp 12,.tmp 13,.tmp 14,.tmp 15]⟩,
⟨some 11,none,.mv (.tmp 16)⟩,
⟨some 17,none,.ext (.tmp 11) 0⟩,
⟨some 18,none,.ext (.tmp 11) 1⟩,
⟨(some 9), none, (.alc 91 [(.int .i64 0), (.int .u32 0), (.int .u32 0), (.int .u32 0), (.int .u32 0), (.int .u32 0), (.int .u32 0), (.int .u32 0), (.int .u32 0), (.int .u32 0), (.int .u32 0), (.int .u32 0), (.int .u32 0), (.int .u32 0), (.int .u32 0), (.int .u32 0), (.int .u32 0), (.slice none 0 0), (.int .i64 0), (.string ⟨#[]⟩), (.int .i64 0), (.int .i64 0)])⟩,
⟨none,none,.sto true 22 (.tmp 9) (.tmp 17)⟩,
⟨some 10,none,.mv (.tmp 18)⟩])
 (.seq
 (.ops [
 ⟨some 19,none,.ld true 22 (.tmp 9)⟩,
⟨none,none,.sto true 22 (.tmp 8) (.tmp 19)⟩])
 .ret)))
theorem f_scref10_Go : compF Try.prog 28 = some (20, c_scref10_Go, [(.cell 8 true 22)]) := by kernel_rfl
def c_scref09_Start : VC :=
 (.seq
 (.ops [
 ⟨some 1,none,.box 38 (.tmp 0)⟩,
⟨(some 2), none, (.alc 91 [(.int .i64 0), (.int .u32 0), (.int .u32 0), (.int .u32 0), (.int .u32 0), (.int .u32 0), (.int .u32 0), (.int .u32 0), (.int .u32 0), (.int .u32 0), (.int .u32 0), (.int .u32 0), (.int .u32 0), (.int .u32 0), (.int .u32 0), (.int .u32 0), (.int .u32 0), (.slice none 0 0), (.int .i64 0), (.string ⟨#[]⟩), (.int .i64 0), (.int .i64 0)])⟩])
 (.seq
 (.ops [
 ⟨(some 3), none, (.alc 91 [(.int .i64 0), (.int .u32 0), (.int .u32 0), (.int .u32 0), (.int .u32 0), (.int .u32 0), (.int .u32 0), (.int .u32 0), (.int .u32 0), (.int .u32 0), (.int .u32 0), (.int .u32 0), (.int .u32 0), (.int .u32 0), (.int .u32 0), (.int .u32 0), (.int .u32 0), (.slice none 0 0), (.int .i64 0), (.string ⟨#[]⟩), (.int .i64 0), (.int .i64 0)])⟩])
 (.seq
 (.seq
 (.ops [
 ⟨some 4,none,.fad 1 false 1 (.tmp 1)⟩,
⟨some 5,none,.ld false 1 (.tmp 4)⟩,
⟨some 6,none,.bin .gtr (.tmp 5) (.const (.int .i64 0))⟩,
⟨some 7,none,.mv (.tmp 6)⟩,
⟨some 8,some (7,true),.fad 1 false 1 (.tmp 1)⟩,
⟨some 9,some (7,true),.ld false 1 (.tmp 8)⟩,
⟨some 10,some (7,true),.bin .leq (.tmp 9) (.const (.int .i64 32768))⟩,
⟨some 11,none,.pick (.tmp 7) (.tmp 10) (.const (.bool false))⟩])
 (.cond (.tmp 11)
 (.ops [
 ⟨some 12,none,.fad 1 false 1 (.tmp 1)⟩,
⟨some 13,none,.ld false 1 (.tmp 12)⟩,
⟨some 14,none,.mk 30 1 4 [.int .u32 0] (.tmp 13) (.tmp 13)⟩,
⟨some 15,none,.fad 17 false 1 (.tmp 3)⟩,
⟨none,none,.sto false 1 (.tmp 15) (.tmp 14)⟩])
 .skip))
 (.seq
 (.ops [
 ⟨some 16,none,.ld true 22 (.tmp 3)⟩,
⟨none,none,.sto true 22 (.tmp 2) (.tmp 16)⟩])
 .ret))))
theorem f_scref09_Start : compF Try.prog 29 = some (17, c_scref09_Start, [(.cell 2 true 22)]) := by kernel_rfl
def c_scref20_Fits : VC :=
 (.seq
 (.ops [
 ⟨some 3,none,.box 24 (.tmp 0)⟩,
⟨some 5,none,.box 32 (.tmp 2)⟩,
⟨some 6,none,.mv (.const (.bool false))⟩])
 (.seq
 (.seq
 (.ops [
 ⟨some 7,none,.fad 0 false 1 (.tmp 5)⟩,
⟨some 8,none,.ld false 1 (.tmp 7)⟩,
⟨some 9,none,.bin .neq (.tmp 8) (.const (.int .i64 1))⟩,
⟨some 10,none,.mv (.tmp 9)⟩,
⟨some 11,some (10,true),.fad 3 false 1 (.tmp 5)⟩,
⟨some 12,some (10,true),.ld false 1 (.tmp 11)⟩,
⟨some 13,some (10,true),.bin .neq (.tmp 12) (.const (.int .u32 0))⟩,
⟨some 14,none,.pick (.tmp 10) (.tmp 13) (.const (.bool false))⟩,
⟨some 15,none,.mv (.tmp 14)⟩,
⟨some 16,some (15,false),.fad 0 false 1 (.tmp 5)⟩,
⟨some 17,some (15,false),.ld false 1 (.tmp 16)⟩,
⟨some 18,some (15,false),.bin .neq (.tmp 17) (.const (.int .i64 4))⟩,
⟨some 19,some (15,false),.mv (.tmp 18)⟩,
⟨some 20,some (19,true),.fad 0 false 1 (.tmp 5)⟩,
⟨some 21,some (19,true),.ld false 1 (.tmp 20)⟩,
⟨some 22,some (19,true),.bin .neq (.tmp 21) (.const (.int .i64 5))⟩,
⟨some 23,some (15,false),.pick (.tmp 19) (.tmp 22) (.const (.bool false))⟩,
⟨some 24,some (15,false),.mv (.tmp 23)⟩,
⟨some 25,some (24,true),.fad 2 false 1 (.tmp 5)⟩,
⟨some 26,some (24,true),.ld false 1 (.tmp 25)⟩,
⟨some 27,some (24,true),.bin .neq (.tmp 26) (.const (.int .i64 0))⟩,
⟨some 28,some (15,false),.pick (.tmp 24) (.tmp 27) (.const (.bool false))⟩,
⟨some 29,none,.pick (.tmp 15) (.const (.bool true)) (.tmp 28)⟩])
 (.cond (.tmp 29)
 (.seq
 (.ops [
 ⟨some 6,none,.mv (.const (.bool false))⟩])
 .ret)
 .skip))
 (.seq
 (.seq
 (.ops [
 ⟨some 30,none,.fad 0 false 1 (.tmp 5)⟩,
⟨some 31,none,.ld false 1 (.tmp 30)⟩])
 (.block 0
 (.seq
 (.seq
 (.ops [
 ⟨some 33,none,.bin .eql (.tmp 31) (.const (.int .i64 1))⟩,
⟨some 32,none,.mv (.tmp 33)⟩])
 (.cond (.tmp 32)
 .skip
 (.seq
 (.ops [
 ⟨some 34,none,.bin .eql (.tmp 31) (.const (.int .i64 7))⟩,
⟨some 32,none,.mv (.tmp 34)⟩])
 (.cond (.tmp 32)
 .skip
 (.seq
 (.ops [
 ⟨some 35,none,.bin .eql (.tmp 31) (.const (.int .i64 11))⟩,
⟨some 32,none,.mv (.tmp 35)⟩])
 (.cond (.tmp 32)
 .skip
 (.seq
 (.ops [
 ⟨some 36,none,.bin .eql (.tmp 31) (.const (.int .i64 12))⟩,
⟨some 32,none,.mv (.tmp 36)⟩])
 (.cond (.tmp 32)
 .skip
 (.ops [
 ⟨some 37,none,.bin .eql (.tmp 31) (.const (.int .i64 13))⟩,
⟨some 32,none,.mv (.tmp 37)⟩])))))))))
 (.cond (.tmp 32)
 (.seq
 (.ops [
 ⟨some 38,none,.fad 1 false 1 (.tmp 5)⟩,
⟨some 39,none,.ld false 1 (.tmp 38)⟩,
⟨some 40,none,.bin .eql (.tmp 39) (.const (.int .i64 0))⟩,
⟨some 6,none,.mv (.tmp 40)⟩])
 .ret)
 (.seq
 (.seq
 (.ops [
 ⟨some 42,none,.bin .eql (.tmp 31) (.const (.int .i64 2))⟩,
⟨some 41,none,.mv (.tmp 42)⟩])
 (.cond (.tmp 41)
 .skip
 (.ops [
 ⟨some 43,none,.bin .eql (.tmp 31) (.const (.int .i64 3))⟩,
⟨some 41,none,.mv (.tmp 43)⟩])))
 (.cond (.tmp 41)
 (.seq
 (.ops [
 ⟨some 44,none,.fad 1 false 1 (.tmp 5)⟩,
⟨some 45,none,.ld false 1 (.tmp 44)⟩,
⟨some 46,none,.bin .geq (.tmp 45) (.const (.int .i64 0))⟩,
⟨some 47,none,.mv (.tmp 46)⟩,
⟨some 48,some (47,true),.fad 1 false 1 (.tmp 5)⟩,
⟨some 49,some (47,true),.ld false 1 (.tmp 48)⟩,
⟨some 50,some (47,true),.fad 0 false 1 (.tmp 3)⟩,
⟨some 51,some (47,true),.ld false 1 (.tmp 50)⟩,
⟨some 52,some (47,true),.bin .lss (.tmp 49) (.tmp 51)⟩,
⟨some 53,none,.pick (.tmp 47) (.tmp 52) (.const (.bool false))⟩,
⟨some 6,none,.mv (.tmp 53)⟩])
 .ret)
 (.seq
 (.seq
 (.ops [
 ⟨some 55,none,.bin .eql (.tmp 31) (.const (.int .i64 4))⟩,
⟨some 54,none,.mv (.tmp 55)⟩])
 (.cond (.tmp 54)
 .skip
 (.ops [
 ⟨some 56,none,.bin .eql (.tmp 31) (.const (.int .i64 5))⟩,
⟨some 54,none,.mv (.tmp 56)⟩])))
 (.cond (.tmp 54)
 (.seq
 (.ops [
 ⟨some 57,none,.fad 1 false 1 (.tmp 5)⟩,
⟨some 58,none,.ld false 1 (.tmp 57)⟩,
⟨some 59,none,.bin .geq (.tmp 58) (.const (.int .i64 0))⟩,
⟨some 60,none,.mv (.tmp 59)⟩,
⟨some 61,some (60,true),.fad 2 false 1 (.tmp 5)⟩,
⟨some 62,some (60,true),.ld false 1 (.tmp 61)⟩,
⟨some 63,some (60,true),.bin .geq (.tmp 62) (.const (.int .i64 1))⟩,
⟨some 64,none,.pick (.tmp 60) (.tmp 63) (.const (.bool false))⟩,
⟨some 65,none,.mv (.tmp 64)⟩,
⟨some 66,some (65,true),.fad 2 false 1 (.tmp 5)⟩,
⟨some 67,some (65,true),.ld false 1 (.tmp 66)⟩,
⟨some 68,some (65,true),.bin .leq (.tmp 67) (.const (.int .i64 4096))⟩,
⟨some 69,none,.pick (.tmp 65) (.tmp 68) (.const (.bool false))⟩,
⟨some 70,none,.mv (.tmp 69)⟩,
⟨some 71,some (70,true),.fad 1 false 1 (.tmp 5)⟩,
⟨some 72,some (70,true),.ld false 1 (.tmp 71)⟩,
⟨some 73,some (70,true),.fad 0 false 1 (.tmp 3)⟩,
⟨some 74,some (70,true),.ld false 1 (.tmp 73)⟩,
⟨some 75,some (70,true),.fad 2 false 1 (.tmp 5)⟩,
⟨some 76,some (70,true),.ld false 1 (.tmp 75)⟩,
⟨some 77,some (70,true),.bin .sub (.tmp 74) (.tmp 76)⟩,
⟨some 78,some (70,true),.bin .leq (.tmp 72) (.tmp 77)⟩,
⟨some 79,none,.pick (.tmp 70) (.tmp 78) (.const (.bool false))⟩,
⟨some 6,none,.mv (.tmp 79)⟩])
 .ret)
 (.seq
 (.ops [
 ⟨some 81,none,.bin .eql (.tmp 31) (.const (.int .i64 6))⟩,
⟨some 80,none,.mv (.tmp 81)⟩])
 (.cond (.tmp 80)
 (.seq
 (.ops [
 ⟨some 82,none,.fad 1 false 1 (.tmp 5)⟩,
⟨some 83,none,.ld false 1 (.tmp 82)⟩,
⟨some 84,none,.bin .geq (.tmp 83) (.const (.int .i64 4))⟩,
⟨some 85,none,.mv (.tmp 84)⟩,
⟨some 86,some (85,true),.fad 1 false 1 (.tmp 5)⟩,
⟨some 87,some (85,true),.ld false 1 (.tmp 86)⟩,
⟨some 88,some (85,true),.bin .leq (.tmp 87) (.const (.int .i64 15))⟩,
⟨some 89,none,.pick (.tmp 85) (.tmp 88) (.const (.bool false))⟩,
⟨some 6,none,.mv (.tmp 89)⟩])
 .ret)
 (.seq
 (.seq
 (.ops [
 ⟨some 91,none,.bin .eql (.tmp 31) (.const (.int .i64 8))⟩,
⟨some 90,none,.mv (.tmp 91)⟩])
 (.cond (.tmp 90)
 .skip
 (.ops [
 ⟨some 92,none,.bin .eql (.tmp 31) (.const (.int .i64 9))⟩,
⟨some 90,none,.mv (.tmp 92)⟩])))
 (.cond (.tmp 90)
 (.seq
 (.ops [
 ⟨some 93,none,.fad 1 false 1 (.tmp 5)⟩,
⟨some 94,none,.ld false 1 (.tmp 93)⟩,
⟨some 95,none,.bin .geq (.tmp 94) (.const (.int .i64 0))⟩,
⟨some 96,none,.mv (.tmp 95)⟩,
⟨some 97,some (96,true),.fad 1 false 1 (.tmp 5)⟩,
⟨some 98,some (96,true),.ld false 1 (.tmp 97)⟩,
⟨some 99,some (96,true),.fad 1 false 1 (.tmp 3)⟩,
⟨some 100,some (96,true),.ld false 1 (.tmp 99)⟩,
⟨some 101,some (96,true),.mv (.tmp 1)⟩,
⟨some 102,some (96,true),.idx 5 (.tmp 100) (.tmp 101)⟩,
⟨some 103,some (96,true),.fad 4 false 1 (.tmp 102)⟩,
⟨some 104,some (96,true),.ld false 1 (.tmp 103)⟩,
⟨some 105,some (96,true),.len (.tmp 104)⟩,
⟨some 106,some (96,true),.bin .lss (.tmp 98) (.tmp 105)⟩,
⟨some 107,none,.pick (.tmp 96) (.tmp 106) (.const (.bool false))⟩,
⟨some 6,none,.mv (.tmp 107)⟩])
 .ret)
 (.seq
 (.ops [
 ⟨some 109,none,.bin .eql (.tmp 31) (.const (.int .i64 10))⟩,
⟨some 108,none,.mv (.tmp 109)⟩])
 (.cond (.tmp 108)
 (.seq
 (.ops [
 ⟨some 110,none,.fad 1 false 1 (.tmp 5)⟩,
⟨some 111,none,.ld false 1 (.tmp 110)⟩,
⟨some 112,none,.bin .geq (.tmp 111) (.const (.int .i64 0))⟩,
⟨some 113,none,.mv (.tmp 112)⟩,
⟨some 114,some (113,true),.fad 1 false 1 (.tmp 5)⟩,
⟨some 115,some (113,true),.ld false 1 (.tmp 114)⟩,
⟨some 116,some (113,true),.mv (.tmp 1)⟩,
⟨some 117,some (113,true),.bin .lss (.tmp 115) (.tmp 116)⟩,
⟨some 118,none,.pick (.tmp 113) (.tmp 117) (.const (.bool false))⟩,
⟨some 6,none,.mv (.tmp 118)⟩])
 .ret)
 .skip))))))))))))))
 (.seq
 (.ops [
 ⟨some 6,none,.mv (.const (.bool false))⟩])
 .ret))))
theorem f_scref20_Fits : compF Try.prog 30 = some (119, c_scref20_Fits, [.tmp 6]) := by kernel_rfl
def c_scref20_Depths : VC :=
 (.seq
 (.ops [
 ⟨some 2,none,.box 24 (.tmp 0)⟩,
⟨some 4,none,.mv (.const (.slice none 0 0))⟩,
⟨some 5,none,.mv (.const (.bool false))⟩])
 (.seq
 (.seq
 (.ops [
 ⟨some 18,none,.mv (.tmp 1)⟩,
⟨some 19,none,.bin .lss (.tmp 18) (.const (.int .i64 0))⟩,
⟨some 20,none,.mv (.tmp 19)⟩,
⟨some 21,some (20,false),.mv (.tmp 1)⟩,
⟨some 22,some (20,false),.fad 1 false 1 (.tmp 2)⟩,
⟨some 23,some (20,false),.ld false 1 (.tmp 22)⟩,
⟨some 24,some (20,false),.len (.tmp 23)⟩,
⟨some 25,some (20,false),.bin .geq (.tmp 21) (.tmp 24)⟩,
⟨some 26,none,.pick (.tmp 20) (.const (.bool true)) (.tmp 25)⟩,
⟨some 27,none,.mv (.tmp 26)⟩,
⟨some 28,some (27,false),.fad 1 false 1 (.tmp 2)⟩,
⟨some 29,some (27,false),.ld false 1 (.tmp 28)⟩,
⟨some 30,some (27,false),.mv (.tmp 1)⟩,
⟨some 31,some (27,false),.idx 5 (.tmp 29) (.tmp 30)⟩,
⟨some 32,some (27,false),.fad 4 false 1 (.tmp 31)⟩,
⟨some 33,some (27,false),.ld false 1 (.tmp 32)⟩,
⟨some 34,some (27,false),.len (.tmp 33)⟩,
⟨some 35,some (27,false),.bin .eql (.tmp 34) (.const (.int .i64 0))⟩,
⟨some 36,none,.pick (.tmp 27) (.const (.bool true)) (.tmp 35)⟩])
 (.cond (.tmp 36)
 (.seq
 (.ops [
 ⟨some 4,none,.mv (.const (.slice none 0 0))⟩,
⟨some 5,none,.mv (.const (.bool false))⟩])
 .ret)
 .skip))
 (.seq
 (.ops [
 ⟨some 37,none,.fad 1 false 1 (.tmp 2)⟩,
⟨some 38,none,.ld false 1 (.tmp 37)⟩,
⟨some 39,none,.mv (.tmp 1)⟩,
⟨some 40,none,.idx 5 (.tmp 38) (.tmp 39)⟩,
⟨some 41,none,.fad 4 false 1 (.tmp 40)⟩,
⟨some 42,none,.ld false 1 (.tmp 41)⟩,
⟨some 6,none,.mv (.tmp 42)⟩])
 (.seq
 (.ops [
 ⟨some 43,none,.mv (.tmp 6)⟩,
⟨some 44,none,.len (.tmp 43)⟩,
⟨some 45,none,.mk 3 1 8 [.int .i64 0] (.tmp 44) (.tmp 44)⟩,
⟨some 7,none,.mv (.tmp 45)⟩])
 (.seq
 (.seq
 (.ops [
 ⟨some 8,none,.mv (.const (.int .i64 0))⟩])
 (.block 0
 (.loop
 (.seq
 (.seq
 (.ops [
 ⟨some 46,none,.mv (.tmp 8)⟩,
⟨some 47,none,.mv (.tmp 7)⟩,
⟨some 48,none,.len (.tmp 47)⟩,
⟨some 49,none,.bin .lss (.tmp 46) (.tmp 48)⟩])
 (.cond (.tmp 49)
 .skip
 (.exit 0)))
 (.seq
 (.block 1
 (.ops [
 ⟨some 52,none,.mv (.tmp 7)⟩,
⟨some 53,none,.mv (.tmp 8)⟩,
⟨some 54,none,.idx 1 (.tmp 52) (.tmp 53)⟩,
⟨none,none,.sto false 1 (.tmp 54) (.const (.int .i64 (-1)))⟩]))
 (.ops [
 ⟨some 50,none,.mv (.tmp 8)⟩,
⟨some 51,none,.bin .add (.tmp 50) (.const (.int .i64 1))⟩,
⟨some 8,none,.mv (.tmp 51)⟩]))))))
 (.seq
 (.ops [
 ⟨some 55,none,.mv (.tmp 7)⟩,
⟨some 56,none,.idx 1 (.tmp 55) (.const (.int .i64 0))⟩,
⟨none,none,.sto false 1 (.tmp 56) (.const (.int .i64 0))⟩])
 (.seq
 (.ops [
 ⟨some 57,none,.bsl 3 1 1 [.int .i64 0] [(0, (1, (.const (.int .i64 0))))]⟩,
⟨some 9,none,.mv (.tmp 57)⟩])
 (.seq
 (.block 2
 (.loop
 (.seq
 (.seq
 (.ops [
 ⟨some 58,none,.mv (.tmp 9)⟩,
⟨some 59,none,.len (.tmp 58)⟩,
⟨some 60,none,.bin .gtr (.tmp 59) (.const (.int .i64 0))⟩])
 (.cond (.tmp 60)
 .skip
 (.exit 2)))
 (.block 3
 (.seq
 (.ops [
 ⟨some 61,none,.mv (.tmp 9)⟩,
⟨some 62,none,.idx 1 (.tmp 61) (.const (.int .i64 0))⟩,
⟨some 63,none,.ld false 1 (.tmp 62)⟩,
⟨some 10,none,.mv (.tmp 63)⟩])
 (.seq
 (.ops [
 ⟨some 64,none,.mv (.tmp 9)⟩,
⟨some 65,none,.sl 1 (.tmp 64) (some (.const (.int .i64 1))) none⟩,
⟨some 9,none,.mv (.tmp 65)⟩])
 (.seq
 (.par false (.one ⟨some 67,none,.ld true 2 (.tmp 2)⟩ (.one ⟨some 68,none,.mv (.tmp 1)⟩ (.one ⟨some 69,none,.mv (.tmp 6)⟩ (.one ⟨some 70,none,.mv (.tmp 10)⟩ (.one ⟨some 71,none,.idx 4 (.tmp 69) (.tmp 70)⟩ (.one ⟨some 72,none,.ld true 4 (.tmp 71)⟩ (.one ⟨some 73,none,.callM true (.func 45) [.tmp 67,.tmp 68,.tmp 72]⟩ (.one ⟨some 66,none,.mv (.tmp 73)⟩ (.one ⟨some 74,none,.ext (.tmp 66) 0⟩ (.one ⟨some 75,none,.ext (.tmp 66) 1⟩ (.one ⟨some 76,none,.ext (.tmp 66) 2⟩ (.one ⟨some 11,none,.mv (.tmp 74)⟩ (.one ⟨some 12,none,.mv (.tmp 75)⟩ (.one ⟨some 13,none,.mv (.tmp 76)⟩ .done)))))))))))))))
 (.seq
 (.seq
 (.ops [
 ⟨some 77,none,.mv (.tmp 13)⟩,
⟨some 78,none,.un .not (.tmp 77)⟩,
⟨some 79,none,.mv (.tmp 78)⟩,
⟨some 80,some (79,false),.mv (.tmp 11)⟩,
⟨some 81,some (79,false),.bin .lss (.tmp 80) (.const (.int .i64 0))⟩,
⟨some 82,none,.pick (.tmp 79) (.const (.bool true)) (.tmp 81)⟩,
⟨some 83,none,.mv (.tmp 82)⟩,
⟨some 84,some (83,false),.mv (.tmp 7)⟩,
⟨some 85,some (83,false),.mv (.tmp 10)⟩,
⟨some 86,some (83,false),.idx 1 (.tmp 84) (.tmp 85)⟩,
⟨some 87,some (83,false),.ld false 1 (.tmp 86)⟩,
⟨some 88,some (83,false),.mv (.tmp 11)⟩,
⟨some 89,some (83,false),.bin .lss (.tmp 87) (.tmp 88)⟩,
⟨some 90,none,.pick (.tmp 83) (.const (.bool true)) (.tmp 89)⟩,
⟨some 91,none,.mv (.tmp 90)⟩,
⟨some 92,some (91,false),.mv (.tmp 6)⟩,
⟨some 93,some (91,false),.mv (.tmp 10)⟩,
⟨some 94,some (91,false),.idx 4 (.tmp 92) (.tmp 93)⟩,
⟨some 95,some (91,false),.fad 0 false 1 (.tmp 94)⟩,
⟨some 96,some (91,false),.ld false 1 (.tmp 95)⟩,
⟨some 97,some (91,false),.bin .eql (.tmp 96) (.const (.int .i64 11))⟩,
⟨some 98,some (91,false),.mv (.tmp 97)⟩,
⟨some 99,some (98,true),.mv (.tmp 7)⟩,
⟨some 100,some (98,true),.mv (.tmp 10)⟩,
⟨some 101,some (98,true),.idx 1 (.tmp 99) (.tmp 100)⟩,
⟨some 102,some (98,true),.ld false 1 (.tmp 101)⟩,
⟨some 103,some (98,true),.mv (.tmp 11)⟩,
⟨some 104,some (98,true),.bin .neq (.tmp 102) (.tmp 103)⟩,
⟨some 105,some (91,false),.pick (.tmp 98) (.tmp 104) (.const (.bool false))⟩,
⟨some 106,none,.pick (.tmp 91) (.const (.bool true)) (.tmp 105)⟩])
 (.cond (.tmp 106)
 (.seq
 (.ops [
 ⟨some 4,none,.mv (.const (.slice none 0 0))⟩,
⟨some 5,none,.mv (.const (.bool false))⟩])
 .ret)
 .skip))
 (.seq
 (.ops [
 ⟨some 107,none,.mv (.tmp 7)⟩,
⟨some 108,none,.mv (.tmp 10)⟩,
⟨some 109,none,.idx 1 (.tmp 107) (.tmp 108)⟩,
⟨some 110,none,.ld false 1 (.tmp 109)⟩,
⟨some 111,none,.mv (.tmp 11)⟩,
⟨some 112,none,.bin .sub (.tmp 110) (.tmp 111)⟩,
⟨some 113,none,.mv (.tmp 12)⟩,
⟨some 114,none,.bin .add (.tmp 112) (.tmp 113)⟩,
⟨some 14,none,.mv (.tmp 114)⟩])
 (.seq
 (.ops [
 ⟨some 115,none,.mv (.tmp 6)⟩,
⟨some 116,none,.mv (.tmp 10)⟩,
⟨some 117,none,.idx 4 (.tmp 115) (.tmp 116)⟩,
⟨some 118,none,.ld true 4 (.tmp 117)⟩,
⟨some 119,none,.mv (.tmp 10)⟩,
⟨some 120,none,.call (.func 46) [.tmp 118,.tmp 119]⟩,
⟨some 15,none,.mv (.tmp 120)⟩])
 (.seq
 (.ops [
 ⟨some 16,none,.mv (.const (.int .i64 0))⟩])
 (.block 4
 (.loop
 (.seq
 (.seq
 (.ops [
 ⟨some 121,none,.mv (.tmp 16)⟩,
⟨some 122,none,.mv (.tmp 15)⟩,
⟨some 123,none,.len (.tmp 122)⟩,
⟨some 124,none,.bin .lss (.tmp 121) (.tmp 123)⟩])
 (.cond (.tmp 124)
 .skip
 (.exit 4)))
 (.seq
 (.block 5
 (.seq
 (.ops [
 ⟨some 127,none,.mv (.tmp 15)⟩,
⟨some 128,none,.mv (.tmp 16)⟩,
⟨some 129,none,.idx 1 (.tmp 127) (.tmp 128)⟩,
⟨some 130,none,.ld false 1 (.tmp 129)⟩,
⟨some 17,none,.mv (.tmp 130)⟩])
 (.seq
 (.seq
 (.ops [
 ⟨some 131,none,.mv (.tmp 17)⟩,
⟨some 132,none,.bin .lss (.tmp 131) (.const (.int .i64 0))⟩,
⟨some 133,none,.mv (.tmp 132)⟩,
⟨some 134,some (133,false),.mv (.tmp 17)⟩,
⟨some 135,some (133,false),.mv (.tmp 6)⟩,
⟨some 136,some (133,false),.len (.tmp 135)⟩,
⟨some 137,some (133,false),.bin .geq (.tmp 134) (.tmp 136)⟩,
⟨some 138,none,.pick (.tmp 133) (.const (.bool true)) (.tmp 137)⟩,
⟨some 139,none,.mv (.tmp 138)⟩,
⟨some 140,some (139,false),.mv (.tmp 7)⟩,
⟨some 141,some (139,false),.mv (.tmp 17)⟩,
⟨some 142,some (139,false),.idx 1 (.tmp 140) (.tmp 141)⟩,
⟨some 143,some (139,false),.ld false 1 (.tmp 142)⟩,
⟨some 144,some (139,false),.bin .geq (.tmp 143) (.const (.int .i64 0))⟩,
⟨some 145,some (139,false),.mv (.tmp 144)⟩,
⟨some 146,some (145,true),.mv (.tmp 7)⟩,
⟨some 147,some (145,true),.mv (.tmp 17)⟩,
⟨some 148,some (145,true),.idx 1 (.tmp 146) (.tmp 147)⟩,
⟨some 149,some (145,true),.ld false 1 (.tmp 148)⟩,
⟨some 150,some (145,true),.mv (.tmp 14)⟩,
⟨some 151,some (145,true),.bin .neq (.tmp 149) (.tmp 150)⟩,
⟨some 152,some (139,false),.pick (.tmp 145) (.tmp 151) (.const (.bool false))⟩,
⟨some 153,none,.pick (.tmp 139) (.const (.bool true)) (.tmp 152)⟩])
 (.cond (.tmp 153)
 (.seq
 (.ops [
 ⟨some 4,none,.mv (.const (.slice none 0 0))⟩,
⟨some 5,none,.mv (.const (.bool false))⟩])
 .ret)
 .skip))
 (.seq
 (.ops [
 ⟨some 154,none,.mv (.tmp 7)⟩,
⟨some 155,none,.mv (.tmp 17)⟩,
⟨some 156,none,.idx 1 (.tmp 154) (.tmp 155)⟩,
⟨some 157,none,.ld false 1 (.tmp 156)⟩,
⟨some 158,none,.bin .lss (.tmp 157) (.const (.int .i64 0))⟩])
 (.cond (.tmp 158)
 (.seq
 (.ops [
 ⟨some 159,none,.mv (.tmp 7)⟩,
⟨some 160,none,.mv (.tmp 17)⟩,
⟨some 161,none,.mv (.tmp 14)⟩,
⟨some 162,none,.idx 1 (.tmp 159) (.tmp 160)⟩,
⟨none,none,.sto false 1 (.tmp 162) (.tmp 161)⟩])
 (.ops [
 ⟨some 163,none,.mv (.tmp 9)⟩,
⟨some 164,none,.mv (.tmp 17)⟩,
⟨some 165,none,.bsl 3 1 1 [.int .i64 0] [(0, (1, (.tmp 164)))]⟩,
⟨some 166,none,.app 3 1 8 (.tmp 163) (.tmp 165)⟩,
⟨some 9,none,.mv (.tmp 166)⟩]))
 .skip)))))
 (.ops [
 ⟨some 125,none,.mv (.tmp 16)⟩,
⟨some 126,none,.bin .add (.tmp 125) (.const (.int .i64 1))⟩,
⟨some 16,none,.mv (.tmp 126)⟩]))))))))))))))))
 (.seq
 (.ops [
 ⟨some 167,none,.mv (.tmp 7)⟩,
⟨some 4,none,.mv (.tmp 167)⟩,
⟨some 5,none,.mv (.const (.bool true))⟩])
 .ret)))))))))
theorem f_scref20_Depths : compF Try.prog 31 = some (168, c_scref20_Depths, [.tmp 4,.tmp 5]) := by kernel_rfl
def c_scref20_M_jump : VC :=
 (.ops [
 ⟨some 4,none,.mv (.tmp 0)⟩,
⟨some 5,none,.nck (.tmp 4)⟩,
⟨some 6,none,.fad 8 false 1 (.tmp 5)⟩,
⟨some 7,none,.ld false 1 (.tmp 6)⟩,
⟨some 8,none,.mv (.tmp 0)⟩,
⟨some 9,none,.nck (.tmp 8)⟩,
⟨some 10,none,.fad 8 false 1 (.tmp 9)⟩,
⟨some 11,none,.ld false 1 (.tmp 10)⟩,
⟨some 12,none,.len (.tmp 11)⟩,
⟨some 13,none,.bin .sub (.tmp 12) (.const (.int .i64 1))⟩,
⟨some 14,none,.mv (.tmp 1)⟩,
⟨some 15,none,.idx 3 (.tmp 7) (.tmp 13)⟩,
⟨some 16,none,.fad 1 false 1 (.tmp 15)⟩,
⟨none,none,.sto false 1 (.tmp 16) (.tmp 14)⟩])
theorem f_scref20_M_jump : compF Try.prog 33 = some (17, c_scref20_M_jump, []) := by kernel_rfl
def c_scref20_M_push : VC :=
 (.seq
 (.ops [
 ⟨some 5,none,.mv (.tmp 0)⟩,
⟨some 6,none,.nck (.tmp 5)⟩,
⟨some 7,none,.fad 8 false 1 (.tmp 6)⟩,
⟨some 8,none,.ld false 1 (.tmp 7)⟩,
⟨some 9,none,.len (.tmp 8)⟩,
⟨some 10,none,.bin .sub (.tmp 9) (.const (.int .i64 1))⟩,
⟨some 4,none,.mv (.tmp 10)⟩])
 (.par false (.one ⟨some 11,none,.mv (.tmp 0)⟩ (.one ⟨some 15,none,.mv (.tmp 4)⟩ (.one ⟨some 16,none,.mv (.tmp 0)⟩ (.one ⟨some 17,none,.nck (.tmp 16)⟩ (.one ⟨some 18,none,.fad 8 false 1 (.tmp 17)⟩ (.one ⟨some 19,none,.ld false 1 (.tmp 18)⟩ (.one ⟨some 20,none,.mv (.tmp 4)⟩ (.one ⟨some 21,none,.idx 3 (.tmp 19) (.tmp 20)⟩ (.one ⟨some 22,none,.fad 2 false 1 (.tmp 21)⟩ (.one ⟨some 23,none,.ld false 1 (.tmp 22)⟩ (.one ⟨some 24,none,.mv (.tmp 1)⟩ (.both (.one ⟨some 12,none,.nck (.tmp 11)⟩ (.both (.one ⟨some 13,none,.fad 8 false 1 (.tmp 12)⟩ (.both (.one ⟨some 14,none,.ld false 1 (.tmp 13)⟩ (.one ⟨some 25,none,.bsl 30 1 1 [.int .u32 0] [(0, (1, (.tmp 24)))]⟩ (.one ⟨some 26,none,.app 30 1 4 (.tmp 23) (.tmp 25)⟩ (.one ⟨some 27,none,.idx 3 (.tmp 14) (.tmp 15)⟩ (.one ⟨some 28,none,.fad 2 false 1 (.tmp 27)⟩ (.one ⟨none,none,.sto false 1 (.tmp 28) (.tmp 26)⟩ .done)))))) (.one ⟨some 25,none,.bsl 30 1 1 [.int .u32 0] [(0, (1, (.tmp 24)))]⟩ (.both (.one ⟨some 14,none,.ld false 1 (.tmp 13)⟩ (.one ⟨some 26,none,.app 30 1 4 (.tmp 23) (.tmp 25)⟩ (.one ⟨some 27,none,.idx 3 (.tmp 14) (.tmp 15)⟩ (.one ⟨some 28,none,.fad 2 false 1 (.tmp 27)⟩ (.one ⟨none,none,.sto false 1 (.tmp 28) (.tmp 26)⟩ .done))))) (.one ⟨some 26,none,.app 30 1 4 (.tmp 23) (.tmp 25)⟩ (.one ⟨some 14,none,.ld false 1 (.tmp 13)⟩ (.one ⟨some 27,none,.idx 3 (.tmp 14) (.tmp 15)⟩ (.one ⟨some 28,none,.fad 2 false 1 (.tmp 27)⟩ (.one ⟨none,none,.sto false 1 (.tmp 28) (.tmp 26)⟩ .done))))))))) (.one ⟨some 25,none,.bsl 30 1 1 [.int .u32 0] [(0, (1, (.tmp 24)))]⟩ (.both (.one ⟨some 13,none,.fad 8 false 1 (.tmp 12)⟩ (.both (.one ⟨some 14,none,.ld false 1 (.tmp 13)⟩ (.one ⟨some 26,none,.app 30 1 4 (.tmp 23) (.tmp 25)⟩ (.one ⟨some 27,none,.idx 3 (.tmp 14) (.tmp 15)⟩ (.one ⟨some 28,none,.fad 2 false 1 (.tmp 27)⟩ (.one ⟨none,none,.sto false 1 (.tmp 28) (.tmp 26)⟩ .done))))) (.one ⟨some 26,none,.app 30 1 4 (.tmp 23) (.tmp 25)⟩ (.one ⟨some 14,none,.ld false 1 (.tmp 13)⟩ (.one ⟨some 27,none,.idx 3 (.tmp 14) (.tmp 15)⟩ (.one ⟨some 28,none,.fad 2 false 1 (.tmp 27)⟩ (.one ⟨none,none,.sto false 1 (.tmp 28) (.tmp 26)⟩ .done))))))) (.one ⟨some 26,none,.app 30 1 4 (.tmp 23) (.tmp 25)⟩ (.one ⟨some 13,none,.fad 8 false 1 (.tmp 12)⟩ (.one ⟨some 14,none,.ld false 1 (.tmp 13)⟩ (.one ⟨some 27,none,.idx 3 (.tmp 14) (.tmp 15)⟩ (.one ⟨some 28,none,.fad 2 false 1 (.tmp 27)⟩ (.one ⟨none,none,.sto false 1 (.tmp 28) (.tmp 26)⟩ .done)))))))))) (.one ⟨some 25,none,.bsl 30 1 1 [.int .u32 0] [(0, (1, (.tmp 24)))]⟩ (.both (.one ⟨some 12,none,.nck (.tmp 11)⟩ (.both (.one ⟨some 13,none,.fad 8 false 1 (.tmp 12)⟩ (.both (.one ⟨some 14,none,.ld false 1 (.tmp 13)⟩ (.one ⟨some 26,none,.app 30 1 4 (.tmp 23) (.tmp 25)⟩ (.one ⟨some 27,none,.idx 3 (.tmp 14) (.tmp 15)⟩ (.one ⟨some 28,none,.fad 2 false 1 (.tmp 27)⟩ (.one ⟨none,none,.sto false 1 (.tmp 28) (.tmp 26)⟩ .done))))) (.one ⟨some 26,none,.app 30 1 4 (.tmp 23) (.tmp 25)⟩ (.one ⟨some 14,none,.ld false 1 (.tmp 13)⟩ (.one ⟨some 27,none,.idx 3 (.tmp 14) (.tmp 15)⟩ (.one ⟨some 28,none,.fad 2 false 1 (.tmp 27)⟩ (.one ⟨none,none,.sto false 1 (.tmp 28) (.tmp 26)⟩ .done))))))) (.one ⟨some 26,none,.app 30 1 4 (.tmp 23) (.tmp 25)⟩ (.one ⟨some 13,none,.fad 8 false 1 (.tmp 12)⟩ (.one ⟨some 14,none,.ld false 1 (.tmp 13)⟩ (.one ⟨some 27,none,.idx 3 (.tmp 14) (.tmp 15)⟩ (.one ⟨some 28,none,.fad 2 false 1 (.tmp 27)⟩ (.one ⟨none,none,.sto false 1 (.tmp 28) (.tmp 26)⟩ .done)))))))) (.one ⟨some 26,none,.app 30 1 4 (.tmp 23) (.tmp 25)⟩ (.one ⟨some 12,none,.nck (.tmp 11)⟩ (.one ⟨some 13,none,.fad 8 false 1 (.tmp 12)⟩ (.one ⟨some 14,none,.ld false 1 (.tmp 13)⟩ (.one ⟨some 27,none,.idx 3 (.tmp 14) (.tmp 15)⟩ (.one ⟨some 28,none,.fad 2 false 1 (.tmp 27)⟩ (.one ⟨none,none,.sto false 1 (.tmp 28) (.tmp 26)⟩ .done)))))))))))))))))))))))
theorem f_scref20_M_push : compF Try.prog 34 = some (29, c_scref20_M_push, []) := by kernel_rfl
def c_scref20_M_pop : VC :=
 (.seq
 (.ops [
 ⟨some 2,none,.mv (.const (.int .u32 0))⟩])
 (.seq
 (.ops [
 ⟨some 6,none,.mv (.tmp 0)⟩,
⟨some 7,none,.nck (.tmp 6)⟩,
⟨some 8,none,.fad 8 false 1 (.tmp 7)⟩,
⟨some 9,none,.ld false 1 (.tmp 8)⟩,
⟨some 10,none,.len (.tmp 9)⟩,
⟨some 11,none,.bin .sub (.tmp 10) (.const (.int .i64 1))⟩,
⟨some 3,none,.mv (.tmp 11)⟩])
 (.seq
 (.ops [
 ⟨some 12,none,.mv (.tmp 0)⟩,
⟨some 13,none,.nck (.tmp 12)⟩,
⟨some 14,none,.fad 8 false 1 (.tmp 13)⟩,
⟨some 15,none,.ld false 1 (.tmp 14)⟩,
⟨some 16,none,.mv (.tmp 3)⟩,
⟨some 17,none,.idx 3 (.tmp 15) (.tmp 16)⟩,
⟨some 18,none,.fad 2 false 1 (.tmp 17)⟩,
⟨some 19,none,.ld false 1 (.tmp 18)⟩,
⟨some 20,none,.len (.tmp 19)⟩,
⟨some 4,none,.mv (.tmp 20)⟩])
 (.seq
 (.ops [
 ⟨some 21,none,.mv (.tmp 0)⟩,
⟨some 22,none,.nck (.tmp 21)⟩,
⟨some 23,none,.fad 8 false 1 (.tmp 22)⟩,
⟨some 24,none,.ld false 1 (.tmp 23)⟩,
⟨some 25,none,.mv (.tmp 3)⟩,
⟨some 26,none,.idx 3 (.tmp 24) (.tmp 25)⟩,
⟨some 27,none,.fad 2 false 1 (.tmp 26)⟩,
⟨some 28,none,.ld false 1 (.tmp 27)⟩,
⟨some 29,none,.mv (.tmp 4)⟩,
⟨some 30,none,.bin .sub (.tmp 29) (.const (.int .i64 1))⟩,
⟨some 31,none,.idx 1 (.tmp 28) (.tmp 30)⟩,
⟨some 32,none,.ld false 1 (.tmp 31)⟩,
⟨some 5,none,.mv (.tmp 32)⟩])
 (.seq
 (.ops [
 ⟨some 33,none,.mv (.tmp 0)⟩,
⟨some 34,none,.nck (.tmp 33)⟩,
⟨some 35,none,.fad 8 false 1 (.tmp 34)⟩,
⟨some 36,none,.ld false 1 (.tmp 35)⟩,
⟨some 37,none,.mv (.tmp 3)⟩,
⟨some 38,none,.mv (.tmp 0)⟩,
⟨some 39,none,.nck (.tmp 38)⟩,
⟨some 40,none,.fad 8 false 1 (.tmp 39)⟩,
⟨some 41,none,.ld false 1 (.tmp 40)⟩,
⟨some 42,none,.mv (.tmp 3)⟩,
⟨some 43,none,.idx 3 (.tmp 41) (.tmp 42)⟩,
⟨some 44,none,.fad 2 false 1 (.tmp 43)⟩,
⟨some 45,none,.ld false 1 (.tmp 44)⟩,
⟨some 46,none,.mv (.tmp 4)⟩,
⟨some 47,none,.bin .sub (.tmp 46) (.const (.int .i64 1))⟩,
⟨some 48,none,.sl 1 (.tmp 45) none (some (.tmp 47))⟩,
⟨some 49,none,.idx 3 (.tmp 36) (.tmp 37)⟩,
⟨some 50,none,.fad 2 false 1 (.tmp 49)⟩,
⟨none,none,.sto false 1 (.tmp 50) (.tmp 48)⟩])
 (.seq
 (.ops [
 ⟨some 51,none,.mv (.tmp 5)⟩,
⟨some 2,none,.mv (.tmp 51)⟩])
 .ret))))))
theorem f_scref20_M_pop : compF Try.prog 35 = some (52, c_scref20_M_pop, [.tmp 2]) := by kernel_rfl
def c_scref01_Apply : VC :=
 (.seq
 (.ops [
 ⟨some 6,none,.mv (.const (.int .u32 0))⟩,
⟨some 7,none,.mv (.const (.int .i64 0))⟩])
 (.seq
 (.ops [
 ⟨some 10,none,.mv (.tmp 1)⟩,
⟨some 11,none,.conv .u64 (.tmp 10)⟩,
⟨some 12,none,.mv (.tmp 2)⟩,
⟨some 13,none,.conv .u64 (.tmp 12)⟩,
⟨some 8,none,.mv (.tmp 11)⟩,
⟨some 9,none,.mv (.tmp 13)⟩])
 (.seq
 (.seq
 (.ops [
 ⟨some 14,none,.mv (.tmp 0)⟩])
 (.block 0
 (.seq
 (.ops [
 ⟨some 16,none,.bin .eql (.tmp 14) (.const (.int .i64 4))⟩,
⟨some 15,none,.mv (.tmp 16)⟩])
 (.cond (.tmp 15)
 (.seq
 (.ops [
 ⟨some 17,none,.mv (.tmp 8)⟩,
⟨some 18,none,.mv (.tmp 9)⟩,
⟨some 19,none,.bin .add (.tmp 17) (.tmp 18)⟩,
⟨some 20,none,.bin .rem (.tmp 19) (.const (.int .u64 4294967296))⟩,
⟨some 21,none,.conv .u32 (.tmp 20)⟩,
⟨some 6,none,.mv (.tmp 21)⟩,
⟨some 7,none,.mv (.const (.int .i64 0))⟩])
 .ret)
 (.seq
 (.ops [
 ⟨some 23,none,.bin .eql (.tmp 14) (.const (.int .i64 5))⟩,
⟨some 22,none,.mv (.tmp 23)⟩])
 (.cond (.tmp 22)
 (.seq
 (.ops [
 ⟨some 24,none,.mv (.tmp 8)⟩,
⟨some 25,none,.bin .add (.tmp 24) (.const (.int .u64 4294967296))⟩,
⟨some 26,none,.mv (.tmp 9)⟩,
⟨some 27,none,.bin .sub (.tmp 25) (.tmp 26)⟩,
⟨some 28,none,.bin .rem (.tmp 27) (.const (.int .u64 4294967296))⟩,
⟨some 29,none,.conv .u32 (.tmp 28)⟩,
⟨some 6,none,.mv (.tmp 29)⟩,
⟨some 7,none,.mv (.const (.int .i64 0))⟩])
 .ret)
 (.seq
 (.ops [
 ⟨some 31,none,.bin .eql (.tmp 14) (.const (.int .i64 6))⟩,
⟨some 30,none,.mv (.tmp 31)⟩])
 (.cond (.tmp 30)
 (.seq
 (.ops [
 ⟨some 32,none,.mv (.tmp 8)⟩,
⟨some 33,none,.mv (.tmp 9)⟩,
⟨some 34,none,.bin .mul (.tmp 32) (.tmp 33)⟩,
⟨some 35,none,.bin .rem (.tmp 34) (.const (.int .u64 4294967296))⟩,
⟨some 36,none,.conv .u32 (.tmp 35)⟩,
⟨some 6,none,.mv (.tmp 36)⟩,
⟨some 7,none,.mv (.const (.int .i64 0))⟩])
 .ret)
 (.seq
 (.ops [
 ⟨some 38,none,.bin .eql (.tmp 14) (.const (.int .i64 7))⟩,
⟨some 37,none,.mv (.tmp 38)⟩])
 (.cond (.tmp 37)
 (.seq
 (.seq
 (.ops [
 ⟨some 39,none,.mv (.tmp 2)⟩,
⟨some 40,none,.bin .eql (.tmp 39) (.const (.int .u32 0))⟩])
 (.cond (.tmp 40)
 (.seq
 (.ops [
 ⟨some 6,none,.mv (.const (.int .u32 0))⟩,
⟨some 7,none,.mv (.const (.int .i64 14))⟩])
 .ret)
 .skip))
 (.seq
 (.ops [
 ⟨some 41,none,.mv (.tmp 8)⟩,
⟨some 42,none,.mv (.tmp 9)⟩,
⟨some 43,none,.bin .quo (.tmp 41) (.tmp 42)⟩,
⟨some 44,none,.conv .u32 (.tmp 43)⟩,
⟨some 6,none,.mv (.tmp 44)⟩,
⟨some 7,none,.mv (.const (.int .i64 0))⟩])
 .ret))
 (.seq
 (.ops [
 ⟨some 46,none,.bin .eql (.tmp 14) (.const (.int .i64 8))⟩,
⟨some 45,none,.mv (.tmp 46)⟩])
 (.cond (.tmp 45)
 (.seq
 (.seq
 (.ops [
 ⟨some 47,none,.mv (.tmp 2)⟩,
⟨some 48,none,.bin .eql (.tmp 47) (.const (.int .u32 0))⟩])
 (.cond (.tmp 48)
 (.seq
 (.ops [
 ⟨some 6,none,.mv (.const (.int .u32 0))⟩,
⟨some 7,none,.mv (.const (.int .i64 14))⟩])
 .ret)
 .skip))
 (.seq
 (.ops [
 ⟨some 49,none,.mv (.tmp 8)⟩,
⟨some 50,none,.mv (.tmp 9)⟩,
⟨some 51,none,.bin .rem (.tmp 49) (.tmp 50)⟩,
⟨some 52,none,.conv .u32 (.tmp 51)⟩,
⟨some 6,none,.mv (.tmp 52)⟩,
⟨some 7,none,.mv (.const (.int .i64 0))⟩])
 .ret))
 (.seq
 (.seq
 (.ops [
 ⟨some 54,none,.bin .eql (.tmp 14) (.const (.int .i64 9))⟩,
⟨some 53,none,.mv (.tmp 54)⟩])
 (.cond (.tmp 53)
 .skip
 (.seq
 (.ops [
 ⟨some 55,none,.bin .eql (.tmp 14) (.const (.int .i64 10))⟩,
⟨some 53,none,.mv (.tmp 55)⟩])
 (.cond (.tmp 53)
 .skip
 (.ops [
 ⟨some 56,none,.bin .eql (.tmp 14) (.const (.int .i64 11))⟩,
⟨some 53,none,.mv (.tmp 56)⟩])))))
 (.cond (.tmp 53)
 (.seq
 (.ops [
 ⟨some 57,none,.mv (.tmp 0)⟩,
⟨some 58,none,.mv (.tmp 1)⟩,
⟨some 59,none,.mv (.tmp 2)⟩,
⟨some 60,none,.call (.func 48) [.tmp 57,.tmp 58,.tmp 59]⟩,
⟨some 6,none,.mv (.tmp 60)⟩,
⟨some 7,none,.mv (.const (.int .i64 0))⟩])
 .ret)
 (.seq
 (.seq
 (.ops [
 ⟨some 62,none,.bin .eql (.tmp 14) (.const (.int .i64 12))⟩,
⟨some 61,none,.mv (.tmp 62)⟩])
 (.cond (.tmp 61)
 .skip
 (.ops [
 ⟨some 63,none,.bin .eql (.tmp 14) (.const (.int .i64 13))⟩,
⟨some 61,none,.mv (.tmp 63)⟩])))
 (.cond (.tmp 61)
 (.seq
 (.ops [
 ⟨some 64,none,.mv (.tmp 0)⟩,
⟨some 65,none,.mv (.tmp 1)⟩,
⟨some 66,none,.mv (.tmp 2)⟩,
⟨some 67,none,.call (.func 49) [.tmp 64,.tmp 65,.tmp 66]⟩,
⟨some 6,none,.mv (.tmp 67)⟩,
⟨some 7,none,.mv (.const (.int .i64 0))⟩])
 .ret)
 (.seq
 (.ops [
 ⟨some 69,none,.bin .eql (.tmp 14) (.const (.int .i64 14))⟩,
⟨some 68,none,.mv (.tmp 69)⟩])
 (.cond (.tmp 68)
 (.seq
 (.ops [
 ⟨some 70,none,.mv (.tmp 1)⟩,
⟨some 71,none,.mv (.tmp 2)⟩,
⟨some 72,none,.bin .lss (.tmp 70) (.tmp 71)⟩,
⟨some 73,none,.call (.func 50) [.tmp 72]⟩,
⟨some 6,none,.mv (.tmp 73)⟩,
⟨some 7,none,.mv (.const (.int .i64 0))⟩])
 .ret)
 (.seq
 (.ops [
 ⟨some 75,none,.bin .eql (.tmp 14) (.const (.int .i64 15))⟩,
⟨some 74,none,.mv (.tmp 75)⟩])
 (.cond (.tmp 74)
 (.seq
 (.ops [
 ⟨some 76,none,.mv (.tmp 1)⟩,
⟨some 77,none,.mv (.tmp 2)⟩,
⟨some 78,none,.bin .eql (.tmp 76) (.tmp 77)⟩,
⟨some 79,none,.call (.func 50) [.tmp 78]⟩,
⟨some 6,none,.mv (.tmp 79)⟩,
⟨some 7,none,.mv (.const (.int .i64 0))⟩])
 .ret)
 .skip))))))))))))))))))))
 (.seq
 (.ops [
 ⟨some 6,none,.mv (.const (.int .u32 0))⟩,
⟨some 7,none,.mv (.const (.int .i64 1))⟩])
 .ret))))
theorem f_scref01_Apply : compF Try.prog 36 = some (80, c_scref01_Apply, [.tmp 6,.tmp 7]) := by kernel_rfl
def c_scref20_M_call : VC :=
 (.seq
 (.ops [
 ⟨some 8,none,.mv (.tmp 0)⟩,
⟨some 9,none,.nck (.tmp 8)⟩,
⟨some 10,none,.fad 0 true 2 (.tmp 9)⟩,
⟨some 11,none,.fad 1 false 1 (.tmp 10)⟩,
⟨some 12,none,.ld false 1 (.tmp 11)⟩,
⟨some 13,none,.mv (.tmp 1)⟩,
⟨some 14,none,.idx 5 (.tmp 12) (.tmp 13)⟩,
⟨some 15,none,.ld true 5 (.tmp 14)⟩,
⟨some 4,none,.alc 29 [.int .i64 0,.int .i64 0,.int .i64 0,.bool false,.slice none 0 0]⟩,
⟨none,none,.sto true 5 (.tmp 4) (.tmp 15)⟩])
 (.seq
 (.seq
 (.ops [
 ⟨some 5,none,.mv (.const (.int .i64 0))⟩])
 (.block 0
 (.loop
 (.seq
 (.seq
 (.ops [
 ⟨some 16,none,.mv (.tmp 5)⟩,
⟨some 17,none,.fad 1 false 1 (.tmp 4)⟩,
⟨some 18,none,.ld false 1 (.tmp 17)⟩,
⟨some 19,none,.bin .lss (.tmp 16) (.tmp 18)⟩])
 (.cond (.tmp 19)
 .skip
 (.exit 0)))
 (.seq
 (.block 1
 (.seq
 (.ops [
 ⟨some 6,none,.mv (.const (.int .u32 0))⟩])
 (.seq
 (.ops [
 ⟨some 22,none,.fad 1 false 1 (.tmp 4)⟩,
⟨some 23,none,.ld false 1 (.tmp 22)⟩,
⟨some 24,none,.bin .sub (.tmp 23) (.const (.int .i64 1))⟩,
⟨some 25,none,.mv (.tmp 5)⟩,
⟨some 26,none,.bin .sub (.tmp 24) (.tmp 25)⟩,
⟨some 7,none,.mv (.tmp 26)⟩])
 (.seq
 (.seq
 (.ops [
 ⟨some 27,none,.mv (.tmp 7)⟩,
⟨some 28,none,.fad 0 false 1 (.tmp 4)⟩,
⟨some 29,none,.ld false 1 (.tmp 28)⟩,
⟨some 30,none,.bin .lss (.tmp 27) (.tmp 29)⟩])
 (.cond (.tmp 30)
 (.ops [
 ⟨some 31,none,.mv (.tmp 0)⟩,
⟨some 32,none,.callM true (.func 35) [.tmp 31]⟩,
⟨some 6,none,.mv (.tmp 32)⟩])
 .skip))
 (.ops [
 ⟨some 33,none,.mv (.tmp 0)⟩,
⟨some 34,none,.nck (.tmp 33)⟩,
⟨some 35,none,.fad 4 false 1 (.tmp 34)⟩,
⟨some 36,none,.ld false 1 (.tmp 35)⟩,
⟨some 37,none,.fad 2 false 1 (.tmp 4)⟩,
⟨some 38,none,.ld false 1 (.tmp 37)⟩,
⟨some 39,none,.mv (.tmp 7)⟩,
⟨some 40,none,.bin .add (.tmp 38) (.tmp 39)⟩,
⟨some 41,none,.mv (.tmp 6)⟩,
⟨some 42,none,.idx 1 (.tmp 36) (.tmp 40)⟩,
⟨none,none,.sto false 1 (.tmp 42) (.tmp 41)⟩])))))
 (.ops [
 ⟨some 20,none,.mv (.tmp 5)⟩,
⟨some 21,none,.bin .add (.tmp 20) (.const (.int .i64 1))⟩,
⟨some 5,none,.mv (.tmp 21)⟩]))))))
 (.ops [
 ⟨some 43,none,.mv (.tmp 0)⟩,
⟨some 44,none,.mv (.tmp 0)⟩,
⟨some 45,none,.nck (.tmp 44)⟩,
⟨some 46,none,.fad 8 false 1 (.tmp 45)⟩,
⟨some 47,none,.ld false 1 (.tmp 46)⟩,
⟨some 48,none,.mv (.tmp 1)⟩,
⟨some 49,none,.bld [.int .i64 0,.int .i64 0,.slice none 0 0] [(0, (1, (.tmp 48)))]⟩,
⟨some 50,none,.bsl 69 3 1 [.int .i64 0,.int .i64 0,.slice none 0 0] [(0, (3, (.tmp 49)))]⟩,
⟨some 51,none,.app 69 3 40 (.tmp 47) (.tmp 50)⟩,
⟨some 52,none,.nck (.tmp 43)⟩,
⟨some 53,none,.fad 8 false 1 (.tmp 52)⟩,
⟨none,none,.sto false 1 (.tmp 53) (.tmp 51)⟩])))
theorem f_scref20_M_call : compF Try.prog 37 = some (54, c_scref20_M_call, []) := by kernel_rfl
def c_scref20_M_ret : VC :=
 (.seq
 (.ops [
 ⟨some 4,none,.mv (.tmp 0)⟩,
⟨some 5,none,.nck (.tmp 4)⟩,
⟨some 6,none,.fad 0 true 2 (.tmp 5)⟩,
⟨some 7,none,.fad 1 false 1 (.tmp 6)⟩,
⟨some 8,none,.ld false 1 (.tmp 7)⟩,
⟨some 9,none,.mv (.tmp 0)⟩,
⟨some 10,none,.nck (.tmp 9)⟩,
⟨some 11,none,.fad 8 false 1 (.tmp 10)⟩,
⟨some 12,none,.ld false 1 (.tmp 11)⟩,
⟨some 13,none,.mv (.tmp 0)⟩,
⟨some 14,none,.nck (.tmp 13)⟩,
⟨some 15,none,.fad 8 false 1 (.tmp 14)⟩,
⟨some 16,none,.ld false 1 (.tmp 15)⟩,
⟨some 17,none,.len (.tmp 16)⟩,
⟨some 18,none,.bin .sub (.tmp 17) (.const (.int .i64 1))⟩,
⟨some 19,none,.idx 3 (.tmp 12) (.tmp 18)⟩,
⟨some 20,none,.fad 0 false 1 (.tmp 19)⟩,
⟨some 21,none,.ld false 1 (.tmp 20)⟩,
⟨some 22,none,.idx 5 (.tmp 8) (.tmp 21)⟩,
⟨some 23,none,.fad 3 false 1 (.tmp 22)⟩,
⟨some 24,none,.ld false 1 (.tmp 23)⟩,
⟨some 2,none,.mv (.tmp 24)⟩])
 (.seq
 (.ops [
 ⟨some 3,none,.mv (.const (.int .u32 0))⟩])
 (.seq
 (.seq
 (.ops [
 ⟨some 25,none,.mv (.tmp 2)⟩])
 (.cond (.tmp 25)
 (.ops [
 ⟨some 26,none,.mv (.tmp 0)⟩,
⟨some 27,none,.callM true (.func 35) [.tmp 26]⟩,
⟨some 3,none,.mv (.tmp 27)⟩])
 .skip))
 (.seq
 (.ops [
 ⟨some 28,none,.mv (.tmp 0)⟩,
⟨some 29,none,.mv (.tmp 0)⟩,
⟨some 30,none,.nck (.tmp 29)⟩,
⟨some 31,none,.fad 8 false 1 (.tmp 30)⟩,
⟨some 32,none,.ld false 1 (.tmp 31)⟩,
⟨some 33,none,.mv (.tmp 0)⟩,
⟨some 34,none,.nck (.tmp 33)⟩,
⟨some 35,none,.fad 8 false 1 (.tmp 34)⟩,
⟨some 36,none,.ld false 1 (.tmp 35)⟩,
⟨some 37,none,.len (.tmp 36)⟩,
⟨some 38,none,.bin .sub (.tmp 37) (.const (.int .i64 1))⟩,
⟨some 39,none,.sl 3 (.tmp 32) none (some (.tmp 38))⟩,
⟨some 40,none,.nck (.tmp 28)⟩,
⟨some 41,none,.fad 8 false 1 (.tmp 40)⟩,
⟨none,none,.sto false 1 (.tmp 41) (.tmp 39)⟩])
 (.seq
 (.ops [
 ⟨some 42,none,.mv (.tmp 0)⟩,
⟨some 43,none,.nck (.tmp 42)⟩,
⟨some 44,none,.fad 8 false 1 (.tmp 43)⟩,
⟨some 45,none,.ld false 1 (.tmp 44)⟩,
⟨some 46,none,.len (.tmp 45)⟩,
⟨some 47,none,.bin .eql (.tmp 46) (.const (.int .i64 0))⟩])
 (.cond (.tmp 47)
 (.ops [
 ⟨some 48,none,.mv (.tmp 0)⟩,
⟨some 49,none,.nck (.tmp 48)⟩,
⟨some 50,none,.fad 7 false 1 (.tmp 49)⟩,
⟨none,none,.sto false 1 (.tmp 50) (.const (.int .i64 1))⟩])
 (.seq
 (.ops [
 ⟨some 51,none,.mv (.tmp 2)⟩])
 (.cond (.tmp 51)
 (.ops [
 ⟨some 52,none,.mv (.tmp 0)⟩,
⟨some 53,none,.mv (.tmp 3)⟩,
⟨some 54,none,.call (.func 34) [.tmp 52,.tmp 53]⟩])
 .skip))))))))
theorem f_scref20_M_ret : compF Try.prog 38 = some (55, c_scref20_M_ret, []) := by kernel_rfl
def c_stack_Depths : VC :=
 (.seq
 (.ops [
 ⟨some 2,none,.box 24 (.tmp 0)⟩,
⟨some 4,none,.mv (.const (.slice none 0 0))⟩,
⟨some 5,none,.mv (.const (.bool false))⟩])
 (.seq
 (.seq
 (.ops [
 ⟨some 15,none,.mv (.tmp 1)⟩,
⟨some 16,none,.bin .lss (.tmp 15) (.const (.int .i64 0))⟩,
⟨some 17,none,.mv (.tmp 16)⟩,
⟨some 18,some (17,false),.mv (.tmp 1)⟩,
⟨some 19,some (17,false),.fad 1 false 1 (.tmp 2)⟩,
⟨some 20,some (17,false),.ld false 1 (.tmp 19)⟩,
⟨some 21,some (17,false),.len (.tmp 20)⟩,
⟨some 22,some (17,false),.bin .geq (.tmp 18) (.tmp 21)⟩,
⟨some 23,none,.pick (.tmp 17) (.const (.bool true)) (.tmp 22)⟩,
⟨some 24,none,.mv (.tmp 23)⟩,
⟨some 25,some (24,false),.fad 1 false 1 (.tmp 2)⟩,
⟨some 26,some (24,false),.ld false 1 (.tmp 25)⟩,
⟨some 27,some (24,false),.mv (.tmp 1)⟩,
⟨some 28,some (24,false),.idx 5 (.tmp 26) (.tmp 27)⟩,
⟨some 29,some (24,false),.fad 4 false 1 (.tmp 28)⟩,
⟨some 30,some (24,false),.ld false 1 (.tmp 29)⟩,
⟨some 31,some (24,false),.len (.tmp 30)⟩,
⟨some 32,some (24,false),.bin .eql (.tmp 31) (.const (.int .i64 0))⟩,
⟨some 33,none,.pick (.tmp 24) (.const (.bool true)) (.tmp 32)⟩])
 (.cond (.tmp 33)
 (.seq
 (.ops [
 ⟨some 4,none,.mv (.const (.slice none 0 0))⟩,
⟨some 5,none,.mv (.const (.bool false))⟩])
 .ret)
 .skip))
 (.seq
 (.ops [
 ⟨some 34,none,.fad 1 false 1 (.tmp 2)⟩,
⟨some 35,none,.ld false 1 (.tmp 34)⟩,
⟨some 36,none,.mv (.tmp 1)⟩,
⟨some 37,none,.idx 5 (.tmp 35) (.tmp 36)⟩,
⟨some 38,none,.fad 4 false 1 (.tmp 37)⟩,
⟨some 39,none,.ld false 1 (.tmp 38)⟩,
⟨some 6,none,.mv (.tmp 39)⟩])
 (.seq
 (.ops [
 ⟨some 40,none,.mv (.tmp 6)⟩,
⟨some 41,none,.len (.tmp 40)⟩,
⟨some 42,none,.mk 3 1 8 [.int .i64 0] (.tmp 41) (.tmp 41)⟩,
⟨some 7,none,.mv (.tmp 42)⟩])
 (.seq
 (.seq
 (.ops [
 ⟨some 43,none,.mv (.tmp 7)⟩,
⟨some 44,none,.len (.tmp 43)⟩,
⟨some 45,none,.mv (.const (.int .i64 0))⟩])
 (.block 0
 (.loop
 (.seq
 (.ops [
 ⟨some 46,none,.bin .lss (.tmp 45) (.tmp 44)⟩])
 (.seq
 (.cond (.tmp 46)
 .skip
 (.exit 0))
 (.seq
 (.block 1
 (.seq
 (.ops [
 ⟨some 47,none,.mv (.tmp 45)⟩,
⟨some 8,none,.mv (.tmp 47)⟩])
 (.ops [
 ⟨some 48,none,.mv (.tmp 7)⟩,
⟨some 49,none,.mv (.tmp 8)⟩,
⟨some 50,none,.idx 1 (.tmp 48) (.tmp 49)⟩,
⟨none,none,.sto false 1 (.tmp 50) (.const (.int .i64 (-1)))⟩])))
 (.ops [
 ⟨some 51,none,.bin .add (.tmp 45) (.const (.int .i64 1))⟩,
⟨some 45,none,.mv (.tmp 51)⟩])))))))
 (.seq
 (.ops [
 ⟨some 52,none,.mv (.tmp 7)⟩,
⟨some 53,none,.idx 1 (.tmp 52) (.const (.int .i64 0))⟩,
⟨none,none,.sto false 1 (.tmp 53) (.const (.int .i64 0))⟩])
 (.seq
 (.ops [
 ⟨some 9,none,.alc 123 [.slice none 0 0]⟩])
 (.seq
 (.ops [
 ⟨some 54,none,.call (.func 51) [(.tmp 9), (.const (.int .i64 0))]⟩])
 (.seq
 (.block 2
 (.loop
 (.seq
 (.seq
 (.ops [
 ⟨some 55,none,.call (.func 52) [.tmp 9]⟩,
⟨some 56,none,.bin .gtr (.tmp 55) (.const (.int .i64 0))⟩])
 (.cond (.tmp 56)
 .skip
 (.exit 2)))
 (.block 3
 (.seq
 (.ops [
 ⟨some 57,none,.call (.func 53) [.tmp 9]⟩,
⟨some 10,none,.mv (.tmp 57)⟩])
 (.seq
 (.par false (.one ⟨some 59,none,.ld true 2 (.tmp 2)⟩ (.one ⟨some 60,none,.mv (.tmp 1)⟩ (.one ⟨some 61,none,.mv (.tmp 6)⟩ (.one ⟨some 62,none,.mv (.tmp 10)⟩ (.one ⟨some 63,none,.idx 4 (.tmp 61) (.tmp 62)⟩ (.one ⟨some 64,none,.ld true 4 (.tmp 63)⟩ (.one ⟨some 65,none,.mv (.tmp 7)⟩ (.one ⟨some 66,none,.mv (.tmp 10)⟩ (.one ⟨some 67,none,.idx 1 (.tmp 65) (.tmp 66)⟩ (.one ⟨some 68,none,.ld false 1 (.tmp 67)⟩ (.one ⟨some 69,none,.callM true (.func 54) [.tmp 59,.tmp 60,.tmp 64,.tmp 68]⟩ (.one ⟨some 58,none,.mv (.tmp 69)⟩ (.one ⟨some 70,none,.ext (.tmp 58) 0⟩ (.one ⟨some 71,none,.ext (.tmp 58) 1⟩ (.one ⟨some 11,none,.mv (.tmp 70)⟩ (.one ⟨some 12,none,.mv (.tmp 71)⟩ .done)))))))))))))))))
 (.seq
 (.seq
 (.ops [
 ⟨some 72,none,.mv (.tmp 12)⟩,
⟨some 73,none,.un .not (.tmp 72)⟩])
 (.cond (.tmp 73)
 (.seq
 (.ops [
 ⟨some 4,none,.mv (.const (.slice none 0 0))⟩,
⟨some 5,none,.mv (.const (.bool false))⟩])
 .ret)
 .skip))
 (.seq
 (.ops [
 ⟨some 74,none,.mv (.tmp 6)⟩,
⟨some 75,none,.mv (.tmp 10)⟩,
⟨some 76,none,.idx 4 (.tmp 74) (.tmp 75)⟩,
⟨some 77,none,.ld true 4 (.tmp 76)⟩,
⟨some 78,none,.mv (.tmp 10)⟩,
⟨some 79,none,.call (.func 55) [.tmp 77,.tmp 78]⟩,
⟨some 80,none,.len (.tmp 79)⟩,
⟨some 81,none,.mv (.const (.int .i64 0))⟩])
 (.block 4
 (.loop
 (.seq
 (.ops [
 ⟨some 82,none,.bin .lss (.tmp 81) (.tmp 80)⟩])
 (.seq
 (.cond (.tmp 82)
 .skip
 (.exit 4))
 (.seq
 (.block 5
 (.seq
 (.ops [
 ⟨some 83,none,.idx 1 (.tmp 79) (.tmp 81)⟩,
⟨some 84,none,.ld false 1 (.tmp 83)⟩,
⟨some 14,none,.mv (.tmp 84)⟩])
 (.seq
 (.seq
 (.ops [
 ⟨some 85,none,.mv (.tmp 14)⟩,
⟨some 86,none,.bin .lss (.tmp 85) (.const (.int .i64 0))⟩,
⟨some 87,none,.mv (.tmp 86)⟩,
⟨some 88,some (87,false),.mv (.tmp 14)⟩,
⟨some 89,some (87,false),.mv (.tmp 6)⟩,
⟨some 90,some (87,false),.len (.tmp 89)⟩,
⟨some 91,some (87,false),.bin .geq (.tmp 88) (.tmp 90)⟩,
⟨some 92,none,.pick (.tmp 87) (.const (.bool true)) (.tmp 91)⟩,
⟨some 93,none,.mv (.tmp 92)⟩,
⟨some 94,some (93,false),.mv (.tmp 7)⟩,
⟨some 95,some (93,false),.mv (.tmp 14)⟩,
⟨some 96,some (93,false),.idx 1 (.tmp 94) (.tmp 95)⟩,
⟨some 97,some (93,false),.ld false 1 (.tmp 96)⟩,
⟨some 98,some (93,false),.bin .geq (.tmp 97) (.const (.int .i64 0))⟩,
⟨some 99,some (93,false),.mv (.tmp 98)⟩,
⟨some 100,some (99,true),.mv (.tmp 7)⟩,
⟨some 101,some (99,true),.mv (.tmp 14)⟩,
⟨some 102,some (99,true),.idx 1 (.tmp 100) (.tmp 101)⟩,
⟨some 103,some (99,true),.ld false 1 (.tmp 102)⟩,
⟨some 104,some (99,true),.mv (.tmp 11)⟩,
⟨some 105,some (99,true),.bin .neq (.tmp 103) (.tmp 104)⟩,
⟨some 106,some (93,false),.pick (.tmp 99) (.tmp 105) (.const (.bool false))⟩,
⟨some 107,none,.pick (.tmp 93) (.const (.bool true)) (.tmp 106)⟩])
 (.cond (.tmp 107)
 (.seq
 (.ops [
 ⟨some 4,none,.mv (.const (.slice none 0 0))⟩,
⟨some 5,none,.mv (.const (.bool false))⟩])
 .ret)
 .skip))
 (.seq
 (.ops [
 ⟨some 108,none,.mv (.tmp 7)⟩,
⟨some 109,none,.mv (.tmp 14)⟩,
⟨some 110,none,.idx 1 (.tmp 108) (.tmp 109)⟩,
⟨some 111,none,.ld false 1 (.tmp 110)⟩,
⟨some 112,none,.bin .lss (.tmp 111) (.const (.int .i64 0))⟩])
 (.cond (.tmp 112)
 (.seq
 (.ops [
 ⟨some 113,none,.mv (.tmp 7)⟩,
⟨some 114,none,.mv (.tmp 14)⟩,
⟨some 115,none,.mv (.tmp 11)⟩,
⟨some 116,none,.idx 1 (.tmp 113) (.tmp 114)⟩,
⟨none,none,.sto false 1 (.tmp 116) (.tmp 115)⟩])
 (.ops [
 ⟨some 117,none,.mv (.tmp 14)⟩,
⟨some 118,none,.call (.func 51) [.tmp 9,.tmp 117]⟩]))
 .skip)))))
 (.ops [
 ⟨some 119,none,.bin .add (.tmp 81) (.const (.int .i64 1))⟩,
⟨some 81,none,.mv (.tmp 119)⟩]))))))))))))))
 (.seq
 (.ops [
 ⟨some 120,none,.mv (.tmp 7)⟩,
⟨some 4,none,.mv (.tmp 120)⟩,
⟨some 5,none,.mv (.const (.bool true))⟩])
 .ret))))))))))
theorem f_stack_Depths : compF Try.prog 39 = some (121, c_stack_Depths, [.tmp 4,.tmp 5]) := by kernel_rfl
def c_emit_meanings : VC :=
 (.seq
 (.ops [
 ⟨some 0,none,.mv (.const (.map none))⟩])
 (.seq
 (.ops [
 ⟨some 1,none,.eff .mkm []⟩,
⟨none,none,.eff .upd [(.tmp 1), (.const (.int .i64 1)), (.func 56)]⟩,
⟨none,none,.eff .upd [(.tmp 1), (.const (.int .i64 2)), (.func 59)]⟩,
⟨none,none,.eff .upd [(.tmp 1), (.const (.int .i64 3)), (.func 60)]⟩,
⟨none,none,.eff .upd [(.tmp 1), (.const (.int .i64 4)), (.func 62)]⟩,
⟨none,none,.eff .upd [(.tmp 1), (.const (.int .i64 5)), (.func 63)]⟩,
⟨none,none,.eff .upd [(.tmp 1), (.const (.int .i64 6)), (.func 64)]⟩,
⟨none,none,.eff .upd [(.tmp 1), (.const (.int .i64 7)), (.func 65)]⟩,
⟨none,none,.eff .upd [(.tmp 1), (.const (.int .i64 8)), (.func 66)]⟩,
⟨none,none,.eff .upd [(.tmp 1), (.const (.int .i64 9)), (.func 68)]⟩,
⟨none,none,.eff .upd [(.tmp 1), (.const (.int .i64 10)), (.func 69)]⟩,
⟨none,none,.eff .upd [(.tmp 1), (.const (.int .i64 11)), (.func 71)]⟩,
⟨none,none,.eff .upd [(.tmp 1), (.const (.int .i64 12)), (.func 73)]⟩,
⟨none,none,.eff .upd [(.tmp 1), (.const (.int .i64 13)), (.func 74)]⟩,
⟨some 2,none,.mv (.tmp 1)⟩,
⟨some 0,none,.mv (.tmp 2)⟩])
 .ret))
theorem f_emit_meanings : compF Try.prog 40 = some (3, c_emit_meanings, [.tmp 0]) := by kernel_rfl
def c_emit_generator_put : VC :=
 (.ops [
 ⟨some 10,none,.mv (.tmp 0)⟩,
⟨some 11,none,.mv (.tmp 0)⟩,
⟨some 12,none,.nck (.tmp 11)⟩,
⟨some 13,none,.fad 6 false 1 (.tmp 12)⟩,
⟨some 14,none,.ld false 1 (.tmp 13)⟩,
⟨some 15,none,.mv (.tmp 1)⟩,
⟨some 16,none,.mv (.tmp 2)⟩,
⟨some 17,none,.mv (.tmp 3)⟩,
⟨some 18,none,.mv (.tmp 4)⟩,
⟨some 19,none,.bld [.int .i64 0,.int .i64 0,.int .i64 0,.int .i64 0] [(0, (1, (.tmp 15))), (1, (1, (.tmp 16))), (2, (1, (.tmp 17))), (3, (1, (.tmp 18)))]⟩,
⟨some 20,none,.bsl 86 4 1 [.int .i64 0,.int .i64 0,.int .i64 0,.int .i64 0] [(0, (4, (.tmp 19)))]⟩,
⟨some 21,none,.app 86 4 32 (.tmp 14) (.tmp 20)⟩,
⟨some 22,none,.nck (.tmp 10)⟩,
⟨some 23,none,.fad 6 false 1 (.tmp 22)⟩,
⟨none,none,.sto false 1 (.tmp 23) (.tmp 21)⟩])
theorem f_emit_generator_put : compF Try.prog 41 = some (24, c_emit_generator_put, []) := by kernel_rfl
def c_emit_generator_function : VC :=
 (.seq
 (.ops [
 ⟨some 9,none,.mv (.tmp 0)⟩,
⟨some 10,none,.nck (.tmp 9)⟩,
⟨some 11,none,.fad 0 true 2 (.tmp 10)⟩,
⟨some 12,none,.fad 1 false 1 (.tmp 11)⟩,
⟨some 13,none,.ld false 1 (.tmp 12)⟩,
⟨some 14,none,.mv (.tmp 1)⟩,
⟨some 15,none,.idx 5 (.tmp 13) (.tmp 14)⟩,
⟨some 16,none,.ld true 5 (.tmp 15)⟩,
⟨some 6,none,.alc 29 [.int .i64 0,.int .i64 0,.int .i64 0,.bool false,.slice none 0 0]⟩,
⟨none,none,.sto true 5 (.tmp 6) (.tmp 16)⟩])
 (.seq
 (.ops [
 ⟨some 17,none,.mv (.tmp 0)⟩,
⟨some 18,none,.mv (.tmp 1)⟩,
⟨some 19,none,.nck (.tmp 17)⟩,
⟨some 20,none,.fad 10 false 1 (.tmp 19)⟩,
⟨none,none,.sto false 1 (.tmp 20) (.tmp 18)⟩])
 (.seq
 (.ops [
 ⟨some 21,none,.mv (.tmp 0)⟩,
⟨some 22,none,.nck (.tmp 21)⟩,
⟨some 23,none,.fad 7 false 1 (.tmp 22)⟩,
⟨some 24,none,.ld false 1 (.tmp 23)⟩,
⟨some 25,none,.mv (.tmp 1)⟩,
⟨some 26,none,.mv (.tmp 0)⟩,
⟨some 27,none,.nck (.tmp 26)⟩,
⟨some 28,none,.fad 6 false 1 (.tmp 27)⟩,
⟨some 29,none,.ld false 1 (.tmp 28)⟩,
⟨some 30,none,.len (.tmp 29)⟩,
⟨some 31,none,.idx 1 (.tmp 24) (.tmp 25)⟩,
⟨none,none,.sto false 1 (.tmp 31) (.tmp 30)⟩])
 (.seq
 (.seq
 (.ops [
 ⟨some 32,none,.mv (.tmp 1)⟩,
⟨some 33,none,.mv (.tmp 0)⟩,
⟨some 34,none,.nck (.tmp 33)⟩,
⟨some 35,none,.fad 0 true 2 (.tmp 34)⟩,
⟨some 36,none,.fad 1 false 1 (.tmp 35)⟩,
⟨some 37,none,.ld false 1 (.tmp 36)⟩,
⟨some 38,none,.len (.tmp 37)⟩,
⟨some 39,none,.bin .sub (.tmp 38) (.const (.int .i64 1))⟩,
⟨some 40,none,.bin .neq (.tmp 32) (.tmp 39)⟩])
 (.cond (.tmp 40)
 (.seq
 (.ops [
 ⟨some 41,none,.mv (.tmp 0)⟩,
⟨some 42,none,.mv (.tmp 0)⟩,
⟨some 43,none,.nck (.tmp 42)⟩,
⟨some 44,none,.fad 2 true 4 (.tmp 43)⟩,
⟨some 45,none,.fad 1 false 1 (.tmp 44)⟩,
⟨some 46,none,.ld false 1 (.tmp 45)⟩,
⟨some 47,none,.mv (.tmp 1)⟩,
⟨some 48,none,.idx 1 (.tmp 46) (.tmp 47)⟩,
⟨some 49,none,.ld false 1 (.tmp 48)⟩,
⟨some 50,none,.call (.func 41) [(.tmp 41), (.const (.int .i64 17)), (.const (.int .i64 14)), (.const (.int .i64 0)), (.tmp 49)]⟩])
 (.ops [
 ⟨some 51,none,.mv (.tmp 0)⟩,
⟨some 52,none,.fad 2 false 1 (.tmp 6)⟩,
⟨some 53,none,.ld false 1 (.tmp 52)⟩,
⟨some 54,none,.fad 0 false 1 (.tmp 6)⟩,
⟨some 55,none,.ld false 1 (.tmp 54)⟩,
⟨some 56,none,.bin .add (.tmp 53) (.tmp 55)⟩,
⟨some 57,none,.fad 2 false 1 (.tmp 6)⟩,
⟨some 58,none,.ld false 1 (.tmp 57)⟩,
⟨some 59,none,.fad 1 false 1 (.tmp 6)⟩,
⟨some 60,none,.ld false 1 (.tmp 59)⟩,
⟨some 61,none,.bin .add (.tmp 58) (.tmp 60)⟩,
⟨some 62,none,.call (.func 75) [.tmp 51,.tmp 56,.tmp 61]⟩]))
 .skip))
 (.seq
 (.par false (.one ⟨some 63,none,.mv (.tmp 0)⟩ (.one ⟨some 64,none,.nck (.tmp 63)⟩ (.one ⟨some 65,none,.fad 8 false 1 (.tmp 64)⟩ (.one ⟨some 66,none,.ld false 1 (.tmp 65)⟩ (.one ⟨some 67,none,.mv (.tmp 1)⟩ (.one ⟨some 68,none,.fad 4 false 1 (.tmp 6)⟩ (.one ⟨some 69,none,.ld false 1 (.tmp 68)⟩ (.one ⟨some 70,none,.len (.tmp 69)⟩ (.one ⟨some 71,none,.mk 3 1 8 [.int .i64 0] (.tmp 70) (.tmp 70)⟩ (.one ⟨some 72,none,.idx 1 (.tmp 66) (.tmp 67)⟩ (.one ⟨none,none,.sto false 1 (.tmp 72) (.tmp 71)⟩ .done))))))))))))
 (.seq
 (.ops [
 ⟨some 73,none,.fad 4 false 1 (.tmp 6)⟩,
⟨some 74,none,.ld false 1 (.tmp 73)⟩,
⟨some 75,none,.len (.tmp 74)⟩,
⟨some 76,none,.mv (.const (.int .i64 0))⟩])
 (.block 0
 (.loop
 (.seq
 (.ops [
 ⟨some 77,none,.bin .lss (.tmp 76) (.tmp 75)⟩])
 (.seq
 (.cond (.tmp 77)
 .skip
 (.exit 0))
 (.seq
 (.block 1
 (.seq
 (.ops [
 ⟨some 78,none,.mv (.tmp 76)⟩,
⟨some 79,none,.idx 4 (.tmp 74) (.tmp 76)⟩,
⟨some 80,none,.ld true 4 (.tmp 79)⟩,
⟨some 8,none,.alc 32 [.int .i64 0,.int .i64 0,.int .i64 0,.int .u32 0]⟩,
⟨some 7,none,.mv (.tmp 78)⟩,
⟨none,none,.sto true 4 (.tmp 8) (.tmp 80)⟩])
 (.seq
 (.ops [
 ⟨some 81,none,.mv (.tmp 0)⟩,
⟨some 82,none,.nck (.tmp 81)⟩,
⟨some 83,none,.fad 8 false 1 (.tmp 82)⟩,
⟨some 84,none,.ld false 1 (.tmp 83)⟩,
⟨some 85,none,.mv (.tmp 1)⟩,
⟨some 86,none,.idx 1 (.tmp 84) (.tmp 85)⟩,
⟨some 87,none,.ld false 1 (.tmp 86)⟩,
⟨some 88,none,.mv (.tmp 7)⟩,
⟨some 89,none,.mv (.tmp 0)⟩,
⟨some 90,none,.nck (.tmp 89)⟩,
⟨some 91,none,.fad 6 false 1 (.tmp 90)⟩,
⟨some 92,none,.ld false 1 (.tmp 91)⟩,
⟨some 93,none,.len (.tmp 92)⟩,
⟨some 94,none,.idx 1 (.tmp 87) (.tmp 88)⟩,
⟨none,none,.sto false 1 (.tmp 94) (.tmp 93)⟩])
 (.seq
 (.ops [
 ⟨some 95,none,.mv (.tmp 0)⟩,
⟨some 96,none,.mv (.tmp 0)⟩,
⟨some 97,none,.nck (.tmp 96)⟩,
⟨some 98,none,.fad 2 true 4 (.tmp 97)⟩,
⟨some 99,none,.fad 0 false 1 (.tmp 98)⟩,
⟨some 100,none,.ld false 1 (.tmp 99)⟩,
⟨some 101,none,.mv (.tmp 1)⟩,
⟨some 102,none,.idx 1 (.tmp 100) (.tmp 101)⟩,
⟨some 103,none,.ld false 1 (.tmp 102)⟩,
⟨some 104,none,.mv (.tmp 7)⟩,
⟨some 105,none,.idx 1 (.tmp 103) (.tmp 104)⟩,
⟨some 106,none,.ld false 1 (.tmp 105)⟩,
⟨some 107,none,.nck (.tmp 95)⟩,
⟨some 108,none,.fad 11 false 1 (.tmp 107)⟩,
⟨none,none,.sto false 1 (.tmp 108) (.tmp 106)⟩])
 (.seq
 (.ops [
 ⟨some 109,none,.mv (.tmp 0)⟩,
⟨some 110,none,.nck (.tmp 109)⟩,
⟨some 111,none,.fad 11 false 1 (.tmp 110)⟩,
⟨some 112,none,.ld false 1 (.tmp 111)⟩,
⟨some 113,none,.bin .geq (.tmp 112) (.const (.int .i64 0))⟩])
 (.cond (.tmp 113)
 (.ops [
 ⟨some 114,none,.mv (.tmp 2)⟩,
⟨some 115,none,.fad 0 false 1 (.tmp 8)⟩,
⟨some 116,none,.ld false 1 (.tmp 115)⟩,
⟨some 117,none,.see (.look false .nilFunc) [.tmp 114,.tmp 116]⟩,
⟨some 118,none,.mv (.tmp 0)⟩,
⟨some 119,none,.ld true 4 (.tmp 8)⟩,
⟨some 120,none,.callM false (.tmp 117) [.tmp 118,.tmp 119]⟩])
 .skip))))))
 (.ops [
 ⟨some 121,none,.bin .add (.tmp 76) (.const (.int .i64 1))⟩,
⟨some 76,none,.mv (.tmp 121)⟩]))))))))))))
theorem f_emit_generator_function : compF Try.prog 42 = some (122, c_emit_generator_function, []) := by kernel_rfl
def c_inst_Right : VC :=
 (.seq
 (.ops [
 ⟨some 1,none,.box 86 (.tmp 0)⟩,
⟨some 2,none,.mv (.const (.bool false))⟩])
 (.seq
 (.seq
 (.ops [
 ⟨some 5,none,.fad 0 false 1 (.tmp 1)⟩,
⟨some 6,none,.ld false 1 (.tmp 5)⟩,
⟨some 7,none,.call (.func 76) [.tmp 6]⟩,
⟨some 8,none,.un .not (.tmp 7)⟩])
 (.cond (.tmp 8)
 (.seq
 (.ops [
 ⟨some 2,none,.mv (.const (.bool false))⟩])
 .ret)
 .skip))
 (.seq
 (.ops [
 ⟨some 9,none,.fad 0 false 1 (.tmp 1)⟩,
⟨some 10,none,.ld false 1 (.tmp 9)⟩,
⟨some 11,none,.call (.func 77) [.tmp 10]⟩,
⟨(some 3), none, (.alc 133 [(.string ⟨#[]⟩), (.bool false), (.bool false), (.int .i64 0)])⟩,
⟨none,none,.sto true 4 (.tmp 3) (.tmp 11)⟩])
 (.seq
 (.ops [
 ⟨some 4,none,.mv (.const (.int .i64 65535))⟩])
 (.seq
 (.seq
 (.ops [
 ⟨some 12,none,.fad 3 false 1 (.tmp 3)⟩,
⟨some 13,none,.ld false 1 (.tmp 12)⟩,
⟨some 14,none,.bin .eql (.tmp 13) (.const (.int .i64 2))⟩])
 (.cond (.tmp 14)
 (.ops [
 ⟨some 4,none,.mv (.const (.int .i64 15))⟩])
 .skip))
 (.seq
 (.ops [
 ⟨some 15,none,.fad 1 false 1 (.tmp 1)⟩,
⟨some 16,none,.ld false 1 (.tmp 15)⟩,
⟨some 17,none,.fad 1 false 1 (.tmp 3)⟩,
⟨some 18,none,.ld false 1 (.tmp 17)⟩,
⟨some 19,none,.call (.func 78) [(.tmp 16), (.const (.int .i64 15)), (.tmp 18)]⟩,
⟨some 20,none,.mv (.tmp 19)⟩,
⟨some 21,some (20,true),.fad 2 false 1 (.tmp 1)⟩,
⟨some 22,some (20,true),.ld false 1 (.tmp 21)⟩,
⟨some 23,some (20,true),.fad 2 false 1 (.tmp 3)⟩,
⟨some 24,some (20,true),.ld false 1 (.tmp 23)⟩,
⟨some 25,some (20,true),.call (.func 78) [(.tmp 22), (.const (.int .i64 15)), (.tmp 24)]⟩,
⟨some 26,none,.pick (.tmp 20) (.tmp 25) (.const (.bool false))⟩,
⟨some 27,none,.mv (.tmp 26)⟩,
⟨some 28,some (27,true),.fad 3 false 1 (.tmp 1)⟩,
⟨some 29,some (27,true),.ld false 1 (.tmp 28)⟩,
⟨some 30,some (27,true),.mv (.tmp 4)⟩,
⟨some 31,some (27,true),.fad 3 false 1 (.tmp 3)⟩,
⟨some 32,some (27,true),.ld false 1 (.tmp 31)⟩,
⟨some 33,some (27,true),.bin .neq (.tmp 32) (.const (.int .i64 0))⟩,
⟨some 34,some (27,true),.call (.func 78) [.tmp 29,.tmp 30,.tmp 33]⟩,
⟨some 35,none,.pick (.tmp 27) (.tmp 34) (.const (.bool false))⟩,
⟨some 2,none,.mv (.tmp 35)⟩])
 .ret))))))
theorem f_inst_Right : compF Try.prog 43 = some (36, c_inst_Right, [.tmp 2]) := by kernel_rfl
def c_scref20_Takes : VC :=
 (.seq
 (.ops [
 ⟨some 3,none,.box 24 (.tmp 0)⟩,
⟨some 5,none,.box 32 (.tmp 2)⟩,
⟨some 6,none,.mv (.const (.int .i64 0))⟩,
⟨some 7,none,.mv (.const (.int .i64 0))⟩,
⟨some 8,none,.mv (.const (.bool false))⟩])
 (.seq
 (.seq
 (.ops [
 ⟨some 9,none,.fad 0 false 1 (.tmp 5)⟩,
⟨some 10,none,.ld false 1 (.tmp 9)⟩])
 (.block 0
 (.seq
 (.seq
 (.ops [
 ⟨some 12,none,.bin .eql (.tmp 10) (.const (.int .i64 1))⟩,
⟨some 11,none,.mv (.tmp 12)⟩])
 (.cond (.tmp 11)
 .skip
 (.seq
 (.ops [
 ⟨some 13,none,.bin .eql (.tmp 10) (.const (.int .i64 2))⟩,
⟨some 11,none,.mv (.tmp 13)⟩])
 (.cond (.tmp 11)
 .skip
 (.ops [
 ⟨some 14,none,.bin .eql (.tmp 10) (.const (.int .i64 12))⟩,
⟨some 11,none,.mv (.tmp 14)⟩])))))
 (.cond (.tmp 11)
 (.seq
 (.ops [
 ⟨some 6,none,.mv (.const (.int .i64 0))⟩,
⟨some 7,none,.mv (.const (.int .i64 1))⟩,
⟨some 8,none,.mv (.const (.bool true))⟩])
 .ret)
 (.seq
 (.seq
 (.ops [
 ⟨some 16,none,.bin .eql (.tmp 10) (.const (.int .i64 3))⟩,
⟨some 15,none,.mv (.tmp 16)⟩])
 (.cond (.tmp 15)
 .skip
 (.seq
 (.ops [
 ⟨some 17,none,.bin .eql (.tmp 10) (.const (.int .i64 9))⟩,
⟨some 15,none,.mv (.tmp 17)⟩])
 (.cond (.tmp 15)
 .skip
 (.ops [
 ⟨some 18,none,.bin .eql (.tmp 10) (.const (.int .i64 13))⟩,
⟨some 15,none,.mv (.tmp 18)⟩])))))
 (.cond (.tmp 15)
 (.seq
 (.ops [
 ⟨some 6,none,.mv (.const (.int .i64 1))⟩,
⟨some 7,none,.mv (.const (.int .i64 0))⟩,
⟨some 8,none,.mv (.const (.bool true))⟩])
 .ret)
 (.seq
 (.seq
 (.ops [
 ⟨some 20,none,.bin .eql (.tmp 10) (.const (.int .i64 4))⟩,
⟨some 19,none,.mv (.tmp 20)⟩])
 (.cond (.tmp 19)
 .skip
 (.ops [
 ⟨some 21,none,.bin .eql (.tmp 10) (.const (.int .i64 7))⟩,
⟨some 19,none,.mv (.tmp 21)⟩])))
 (.cond (.tmp 19)
 (.seq
 (.ops [
 ⟨some 6,none,.mv (.const (.int .i64 1))⟩,
⟨some 7,none,.mv (.const (.int .i64 1))⟩,
⟨some 8,none,.mv (.const (.bool true))⟩])
 .ret)
 (.seq
 (.ops [
 ⟨some 23,none,.bin .eql (.tmp 10) (.const (.int .i64 5))⟩,
⟨some 22,none,.mv (.tmp 23)⟩])
 (.cond (.tmp 22)
 (.seq
 (.ops [
 ⟨some 6,none,.mv (.const (.int .i64 2))⟩,
⟨some 7,none,.mv (.const (.int .i64 0))⟩,
⟨some 8,none,.mv (.const (.bool true))⟩])
 .ret)
 (.seq
 (.ops [
 ⟨some 25,none,.bin .eql (.tmp 10) (.const (.int .i64 6))⟩,
⟨some 24,none,.mv (.tmp 25)⟩])
 (.cond (.tmp 24)
 (.seq
 (.ops [
 ⟨some 6,none,.mv (.const (.int .i64 2))⟩,
⟨some 7,none,.mv (.const (.int .i64 1))⟩,
⟨some 8,none,.mv (.const (.bool true))⟩])
 .ret)
 (.seq
 (.ops [
 ⟨some 27,none,.bin .eql (.tmp 10) (.const (.int .i64 8))⟩,
⟨some 26,none,.mv (.tmp 27)⟩])
 (.cond (.tmp 26)
 (.seq
 (.ops [
 ⟨some 6,none,.mv (.const (.int .i64 0))⟩,
⟨some 7,none,.mv (.const (.int .i64 0))⟩,
⟨some 8,none,.mv (.const (.bool true))⟩])
 .ret)
 (.seq
 (.ops [
 ⟨some 29,none,.bin .eql (.tmp 10) (.const (.int .i64 10))⟩,
⟨some 28,none,.mv (.tmp 29)⟩])
 (.cond (.tmp 28)
 (.seq
 (.seq
 (.ops [
 ⟨some 30,none,.fad 1 false 1 (.tmp 5)⟩,
⟨some 31,none,.ld false 1 (.tmp 30)⟩,
⟨some 32,none,.bin .lss (.tmp 31) (.const (.int .i64 0))⟩,
⟨some 33,none,.mv (.tmp 32)⟩,
⟨some 34,some (33,false),.fad 1 false 1 (.tmp 5)⟩,
⟨some 35,some (33,false),.ld false 1 (.tmp 34)⟩,
⟨some 36,some (33,false),.fad 1 false 1 (.tmp 3)⟩,
⟨some 37,some (33,false),.ld false 1 (.tmp 36)⟩,
⟨some 38,some (33,false),.len (.tmp 37)⟩,
⟨some 39,some (33,false),.bin .geq (.tmp 35) (.tmp 38)⟩,
⟨some 40,none,.pick (.tmp 33) (.const (.bool true)) (.tmp 39)⟩])
 (.cond (.tmp 40)
 (.seq
 (.ops [
 ⟨some 6,none,.mv (.const (.int .i64 0))⟩,
⟨some 7,none,.mv (.const (.int .i64 0))⟩,
⟨some 8,none,.mv (.const (.bool false))⟩])
 .ret)
 .skip))
 (.seq
 (.seq
 (.ops [
 ⟨some 41,none,.fad 1 false 1 (.tmp 3)⟩,
⟨some 42,none,.ld false 1 (.tmp 41)⟩,
⟨some 43,none,.fad 1 false 1 (.tmp 5)⟩,
⟨some 44,none,.ld false 1 (.tmp 43)⟩,
⟨some 45,none,.idx 5 (.tmp 42) (.tmp 44)⟩,
⟨some 46,none,.fad 3 false 1 (.tmp 45)⟩,
⟨some 47,none,.ld false 1 (.tmp 46)⟩])
 (.cond (.tmp 47)
 (.seq
 (.ops [
 ⟨some 48,none,.fad 1 false 1 (.tmp 3)⟩,
⟨some 49,none,.ld false 1 (.tmp 48)⟩,
⟨some 50,none,.fad 1 false 1 (.tmp 5)⟩,
⟨some 51,none,.ld false 1 (.tmp 50)⟩,
⟨some 52,none,.idx 5 (.tmp 49) (.tmp 51)⟩,
⟨some 53,none,.fad 0 false 1 (.tmp 52)⟩,
⟨some 54,none,.ld false 1 (.tmp 53)⟩,
⟨some 6,none,.mv (.tmp 54)⟩,
⟨some 7,none,.mv (.const (.int .i64 1))⟩,
⟨some 8,none,.mv (.const (.bool true))⟩])
 .ret)
 .skip))
 (.seq
 (.ops [
 ⟨some 55,none,.fad 1 false 1 (.tmp 3)⟩,
⟨some 56,none,.ld false 1 (.tmp 55)⟩,
⟨some 57,none,.fad 1 false 1 (.tmp 5)⟩,
⟨some 58,none,.ld false 1 (.tmp 57)⟩,
⟨some 59,none,.idx 5 (.tmp 56) (.tmp 58)⟩,
⟨some 60,none,.fad 0 false 1 (.tmp 59)⟩,
⟨some 61,none,.ld false 1 (.tmp 60)⟩,
⟨some 6,none,.mv (.tmp 61)⟩,
⟨some 7,none,.mv (.const (.int .i64 0))⟩,
⟨some 8,none,.mv (.const (.bool true))⟩])
 .ret)))
 (.seq
 (.ops [
 ⟨some 63,none,.bin .eql (.tmp 10) (.const (.int .i64 11))⟩,
⟨some 62,none,.mv (.tmp 63)⟩])
 (.cond (.tmp 62)
 (.seq
 (.seq
 (.ops [
 ⟨some 64,none,.fad 1 false 1 (.tmp 3)⟩,
⟨some 65,none,.ld false 1 (.tmp 64)⟩,
⟨some 66,none,.mv (.tmp 1)⟩,
⟨some 67,none,.idx 5 (.tmp 65) (.tmp 66)⟩,
⟨some 68,none,.fad 3 false 1 (.tmp 67)⟩,
⟨some 69,none,.ld false 1 (.tmp 68)⟩])
 (.cond (.tmp 69)
 (.seq
 (.ops [
 ⟨some 6,none,.mv (.const (.int .i64 1))⟩,
⟨some 7,none,.mv (.const (.int .i64 0))⟩,
⟨some 8,none,.mv (.const (.bool true))⟩])
 .ret)
 .skip))
 (.seq
 (.ops [
 ⟨some 6,none,.mv (.const (.int .i64 0))⟩,
⟨some 7,none,.mv (.const (.int .i64 0))⟩,
⟨some 8,none,.mv (.const (.bool true))⟩])
 .ret))
 .skip))))))))))))))))))
 (.seq
 (.ops [
 ⟨some 6,none,.mv (.const (.int .i64 0))⟩,
⟨some 7,none,.mv (.const (.int .i64 0))⟩,
⟨some 8,none,.mv (.const (.bool false))⟩])
 .ret)))
theorem f_scref20_Takes : compF Try.prog 45 = some (70, c_scref20_Takes, [.tmp 6,.tmp 7,.tmp 8]) := by kernel_rfl
def c_scref20_Next : VC :=
 (.seq
 (.ops [
 ⟨some 2,none,.box 32 (.tmp 0)⟩,
⟨some 4,none,.mv (.const (.slice none 0 0))⟩])
 (.seq
 (.seq
 (.ops [
 ⟨some 5,none,.fad 0 false 1 (.tmp 2)⟩,
⟨some 6,none,.ld false 1 (.tmp 5)⟩])
 (.block 0
 (.seq
 (.ops [
 ⟨some 8,none,.bin .eql (.tmp 6) (.const (.int .i64 8))⟩,
⟨some 7,none,.mv (.tmp 8)⟩])
 (.cond (.tmp 7)
 (.seq
 (.ops [
 ⟨some 9,none,.fad 1 false 1 (.tmp 2)⟩,
⟨some 10,none,.ld false 1 (.tmp 9)⟩,
⟨some 11,none,.bsl 3 1 1 [.int .i64 0] [(0, (1, (.tmp 10)))]⟩,
⟨some 4,none,.mv (.tmp 11)⟩])
 .ret)
 (.seq
 (.ops [
 ⟨some 13,none,.bin .eql (.tmp 6) (.const (.int .i64 9))⟩,
⟨some 12,none,.mv (.tmp 13)⟩])
 (.cond (.tmp 12)
 (.seq
 (.ops [
 ⟨some 14,none,.mv (.tmp 1)⟩,
⟨some 15,none,.bin .add (.tmp 14) (.const (.int .i64 1))⟩,
⟨some 16,none,.fad 1 false 1 (.tmp 2)⟩,
⟨some 17,none,.ld false 1 (.tmp 16)⟩,
⟨some 18,none,.bsl 3 1 2 [.int .i64 0,.int .i64 0] [(0, (1, (.tmp 15))), (1, (1, (.tmp 17)))]⟩,
⟨some 4,none,.mv (.tmp 18)⟩])
 .ret)
 (.seq
 (.ops [
 ⟨some 20,none,.bin .eql (.tmp 6) (.const (.int .i64 11))⟩,
⟨some 19,none,.mv (.tmp 20)⟩])
 (.cond (.tmp 19)
 (.seq
 (.ops [
 ⟨some 4,none,.mv (.const (.slice none 0 0))⟩])
 .ret)
 .skip))))))))
 (.seq
 (.ops [
 ⟨some 21,none,.mv (.tmp 1)⟩,
⟨some 22,none,.bin .add (.tmp 21) (.const (.int .i64 1))⟩,
⟨some 23,none,.bsl 3 1 1 [.int .i64 0] [(0, (1, (.tmp 22)))]⟩,
⟨some 4,none,.mv (.tmp 23)⟩])
 .ret)))
theorem f_scref20_Next : compF Try.prog 46 = some (24, c_scref20_Next, [.tmp 4]) := by kernel_rfl
def c_scref01_both : VC :=
 (.seq
 (.ops [
 ⟨some 6,none,.mv (.const (.int .u32 0))⟩])
 (.seq
 (.ops [
 ⟨some 11,none,.mv (.tmp 1)⟩,
⟨some 12,none,.call (.func 84) [.tmp 11]⟩,
⟨some 13,none,.mv (.tmp 2)⟩,
⟨some 14,none,.call (.func 84) [.tmp 13]⟩,
⟨some 7,none,.mv (.tmp 12)⟩,
⟨some 8,none,.mv (.tmp 14)⟩])
 (.seq
 (.seq
 (.ops [
 ⟨some 9,none,.mv (.const (.int .i64 0))⟩])
 (.block 0
 (.loop
 (.seq
 (.seq
 (.ops [
 ⟨some 15,none,.mv (.tmp 9)⟩,
⟨some 16,none,.bin .lss (.tmp 15) (.const (.int .i64 32))⟩])
 (.cond (.tmp 16)
 .skip
 (.exit 0)))
 (.seq
 (.block 1
 (.seq
 (.ops [
 ⟨some 19,none,.mv (.tmp 7)⟩,
⟨some 20,none,.mv (.tmp 9)⟩,
⟨some 21,none,.idx 1 (.tmp 19) (.tmp 20)⟩,
⟨some 22,none,.ld false 1 (.tmp 21)⟩,
⟨some 23,none,.mv (.tmp 8)⟩,
⟨some 24,none,.mv (.tmp 9)⟩,
⟨some 25,none,.idx 1 (.tmp 23) (.tmp 24)⟩,
⟨some 26,none,.ld false 1 (.tmp 25)⟩,
⟨some 27,none,.bin .add (.tmp 22) (.tmp 26)⟩,
⟨some 10,none,.mv (.tmp 27)⟩])
 (.seq
 (.ops [
 ⟨some 28,none,.mv (.tmp 7)⟩,
⟨some 29,none,.mv (.tmp 9)⟩,
⟨some 30,none,.idx 1 (.tmp 28) (.tmp 29)⟩,
⟨none,none,.sto false 1 (.tmp 30) (.const (.int .i64 0))⟩])
 (.seq
 (.ops [
 ⟨some 31,none,.mv (.tmp 10)⟩,
⟨some 32,none,.bin .eql (.tmp 31) (.const (.int .i64 2))⟩,
⟨some 33,none,.mv (.tmp 32)⟩,
⟨some 34,some (33,true),.mv (.tmp 0)⟩,
⟨some 35,some (33,true),.bin .neq (.tmp 34) (.const (.int .i64 11))⟩,
⟨some 36,none,.pick (.tmp 33) (.tmp 35) (.const (.bool false))⟩,
⟨some 37,none,.mv (.tmp 36)⟩,
⟨some 38,some (37,false),.mv (.tmp 10)⟩,
⟨some 39,some (37,false),.bin .eql (.tmp 38) (.const (.int .i64 1))⟩,
⟨some 40,some (37,false),.mv (.tmp 39)⟩,
⟨some 41,some (40,true),.mv (.tmp 0)⟩,
⟨some 42,some (40,true),.bin .neq (.tmp 41) (.const (.int .i64 9))⟩,
⟨some 43,some (37,false),.pick (.tmp 40) (.tmp 42) (.const (.bool false))⟩,
⟨some 44,none,.pick (.tmp 37) (.const (.bool true)) (.tmp 43)⟩])
 (.cond (.tmp 44)
 (.ops [
 ⟨some 45,none,.mv (.tmp 7)⟩,
⟨some 46,none,.mv (.tmp 9)⟩,
⟨some 47,none,.idx 1 (.tmp 45) (.tmp 46)⟩,
⟨none,none,.sto false 1 (.tmp 47) (.const (.int .i64 1))⟩])
 .skip)))))
 (.ops [
 ⟨some 17,none,.mv (.tmp 9)⟩,
⟨some 18,none,.bin .add (.tmp 17) (.const (.int .i64 1))⟩,
⟨some 9,none,.mv (.tmp 18)⟩]))))))
 (.seq
 (.ops [
 ⟨some 48,none,.mv (.tmp 7)⟩,
⟨some 49,none,.call (.func 85) [.tmp 48]⟩,
⟨some 6,none,.mv (.tmp 49)⟩])
 .ret))))
theorem f_scref01_both : compF Try.prog 48 = some (50, c_scref01_both, [.tmp 6]) := by kernel_rfl
def c_scref01_shift : VC :=
 (.seq
 (.ops [
 ⟨some 6,none,.mv (.const (.int .u32 0))⟩])
 (.seq
 (.seq
 (.ops [
 ⟨some 9,none,.mv (.tmp 2)⟩,
⟨some 10,none,.bin .geq (.tmp 9) (.const (.int .u32 32))⟩])
 (.cond (.tmp 10)
 (.seq
 (.ops [
 ⟨some 6,none,.mv (.const (.int .u32 0))⟩])
 .ret)
 .skip))
 (.seq
 (.ops [
 ⟨some 11,none,.mv (.tmp 1)⟩,
⟨some 12,none,.conv .u64 (.tmp 11)⟩,
⟨some 7,none,.mv (.tmp 12)⟩])
 (.seq
 (.seq
 (.ops [
 ⟨some 8,none,.mv (.const (.int .u32 0))⟩])
 (.block 0
 (.loop
 (.seq
 (.seq
 (.ops [
 ⟨some 13,none,.mv (.tmp 8)⟩,
⟨some 14,none,.mv (.tmp 2)⟩,
⟨some 15,none,.bin .lss (.tmp 13) (.tmp 14)⟩])
 (.cond (.tmp 15)
 .skip
 (.exit 0)))
 (.seq
 (.block 1
 (.seq
 (.ops [
 ⟨some 18,none,.mv (.tmp 0)⟩,
⟨some 19,none,.bin .eql (.tmp 18) (.const (.int .i64 12))⟩])
 (.cond (.tmp 19)
 (.ops [
 ⟨some 20,none,.mv (.tmp 7)⟩,
⟨some 21,none,.bin .mul (.const (.int .u64 2)) (.tmp 20)⟩,
⟨some 22,none,.bin .rem (.tmp 21) (.const (.int .u64 4294967296))⟩,
⟨some 7,none,.mv (.tmp 22)⟩])
 (.ops [
 ⟨some 23,none,.mv (.tmp 7)⟩,
⟨some 24,none,.bin .quo (.tmp 23) (.const (.int .u64 2))⟩,
⟨some 7,none,.mv (.tmp 24)⟩]))))
 (.ops [
 ⟨some 16,none,.mv (.tmp 8)⟩,
⟨some 17,none,.bin .add (.tmp 16) (.const (.int .u32 1))⟩,
⟨some 8,none,.mv (.tmp 17)⟩]))))))
 (.seq
 (.ops [
 ⟨some 25,none,.mv (.tmp 7)⟩,
⟨some 26,none,.conv .u32 (.tmp 25)⟩,
⟨some 6,none,.mv (.tmp 26)⟩])
 .ret)))))
theorem f_scref01_shift : compF Try.prog 49 = some (27, c_scref01_shift, [.tmp 6]) := by kernel_rfl
def c_scref01_flag : VC :=
 (.seq
 (.ops [
 ⟨some 2,none,.mv (.const (.int .u32 0))⟩])
 (.seq
 (.seq
 (.ops [
 ⟨some 3,none,.mv (.tmp 0)⟩])
 (.cond (.tmp 3)
 (.seq
 (.ops [
 ⟨some 2,none,.mv (.const (.int .u32 1))⟩])
 .ret)
 .skip))
 (.seq
 (.ops [
 ⟨some 2,none,.mv (.const (.int .u32 0))⟩])
 .ret)))
theorem f_scref01_flag : compF Try.prog 50 = some (4, c_scref01_flag, [.tmp 2]) := by kernel_rfl
def c_stack_pile_int_push : VC :=
 (.ops [
 ⟨some 4,none,.mv (.tmp 0)⟩,
⟨some 5,none,.mv (.tmp 0)⟩,
⟨some 6,none,.nck (.tmp 5)⟩,
⟨some 7,none,.fad 0 false 1 (.tmp 6)⟩,
⟨some 8,none,.ld false 1 (.tmp 7)⟩,
⟨some 9,none,.mv (.tmp 1)⟩,
⟨some 10,none,.bsl 3 1 1 [.int .i64 0] [(0, (1, (.tmp 9)))]⟩,
⟨some 11,none,.app 3 1 8 (.tmp 8) (.tmp 10)⟩,
⟨some 12,none,.nck (.tmp 4)⟩,
⟨some 13,none,.fad 0 false 1 (.tmp 12)⟩,
⟨none,none,.sto false 1 (.tmp 13) (.tmp 11)⟩])
theorem f_stack_pile_int_push : compF Try.prog 51 = some (14, c_stack_pile_int_push, []) := by kernel_rfl
def c_stack_pile_int_size : VC :=
 (.seq
 (.ops [
 ⟨some 2,none,.mv (.const (.int .i64 0))⟩])
 (.seq
 (.ops [
 ⟨some 3,none,.mv (.tmp 0)⟩,
⟨some 4,none,.nck (.tmp 3)⟩,
⟨some 5,none,.fad 0 false 1 (.tmp 4)⟩,
⟨some 6,none,.ld false 1 (.tmp 5)⟩,
⟨some 7,none,.len (.tmp 6)⟩,
⟨some 2,none,.mv (.tmp 7)⟩])
 .ret))
theorem f_stack_pile_int_size : compF Try.prog 52 = some (8, c_stack_pile_int_size, [.tmp 2]) := by kernel_rfl
def c_stack_pile_int_pop : VC :=
 (.seq
 (.ops [
 ⟨some 2,none,.mv (.const (.int .i64 0))⟩])
 (.seq
 (.ops [
 ⟨some 5,none,.mv (.tmp 0)⟩,
⟨some 6,none,.nck (.tmp 5)⟩,
⟨some 7,none,.fad 0 false 1 (.tmp 6)⟩,
⟨some 8,none,.ld false 1 (.tmp 7)⟩,
⟨some 9,none,.len (.tmp 8)⟩,
⟨some 10,none,.bin .sub (.tmp 9) (.const (.int .i64 1))⟩,
⟨some 3,none,.mv (.tmp 10)⟩])
 (.seq
 (.ops [
 ⟨some 11,none,.mv (.tmp 0)⟩,
⟨some 12,none,.nck (.tmp 11)⟩,
⟨some 13,none,.fad 0 false 1 (.tmp 12)⟩,
⟨some 14,none,.ld false 1 (.tmp 13)⟩,
⟨some 15,none,.mv (.tmp 3)⟩,
⟨some 16,none,.idx 1 (.tmp 14) (.tmp 15)⟩,
⟨some 17,none,.ld false 1 (.tmp 16)⟩,
⟨some 4,none,.mv (.tmp 17)⟩])
 (.seq
 (.ops [
 ⟨some 18,none,.mv (.tmp 0)⟩,
⟨some 19,none,.mv (.tmp 0)⟩,
⟨some 20,none,.nck (.tmp 19)⟩,
⟨some 21,none,.fad 0 false 1 (.tmp 20)⟩,
⟨some 22,none,.ld false 1 (.tmp 21)⟩,
⟨some 23,none,.mv (.tmp 3)⟩,
⟨some 24,none,.sl 1 (.tmp 22) none (some (.tmp 23))⟩,
⟨some 25,none,.nck (.tmp 18)⟩,
⟨some 26,none,.fad 0 false 1 (.tmp 25)⟩,
⟨none,none,.sto false 1 (.tmp 26) (.tmp 24)⟩])
 (.seq
 (.ops [
 ⟨some 27,none,.mv (.tmp 4)⟩,
⟨some 2,none,.mv (.tmp 27)⟩])
 .ret)))))
theorem f_stack_pile_int_pop : compF Try.prog 53 = some (28, c_stack_pile_int_pop, [.tmp 2]) := by kernel_rfl
def c_stack_behind : VC :=
 (.seq
 (.ops [
 ⟨some 4,none,.box 24 (.tmp 0)⟩,
⟨some 6,none,.box 32 (.tmp 2)⟩,
⟨some 8,none,.mv (.const (.int .i64 0))⟩,
⟨some 9,none,.mv (.const (.bool false))⟩])
 (.seq
 (.ops [
 ⟨some 10,none,.mv (.const (.int .i64 0))⟩,
⟨some 11,none,.mv (.const (.int .i64 0))⟩])
 (.seq
 (.seq
 (.ops [
 ⟨some 12,none,.fad 0 false 1 (.tmp 6)⟩,
⟨some 13,none,.ld false 1 (.tmp 12)⟩])
 (.block 0
 (.seq
 (.seq
 (.ops [
 ⟨some 15,none,.bin .eql (.tmp 13) (.const (.int .i64 1))⟩,
⟨some 14,none,.mv (.tmp 15)⟩])
 (.cond (.tmp 14)
 .skip
 (.seq
 (.ops [
 ⟨some 16,none,.bin .eql (.tmp 13) (.const (.int .i64 2))⟩,
⟨some 14,none,.mv (.tmp 16)⟩])
 (.cond (.tmp 14)
 .skip
 (.ops [
 ⟨some 17,none,.bin .eql (.tmp 13) (.const (.int .i64 12))⟩,
⟨some 14,none,.mv (.tmp 17)⟩])))))
 (.cond (.tmp 14)
 (.ops [
 ⟨some 11,none,.mv (.const (.int .i64 1))⟩])
 (.seq
 (.seq
 (.ops [
 ⟨some 19,none,.bin .eql (.tmp 13) (.const (.int .i64 3))⟩,
⟨some 18,none,.mv (.tmp 19)⟩])
 (.cond (.tmp 18)
 .skip
 (.seq
 (.ops [
 ⟨some 20,none,.bin .eql (.tmp 13) (.const (.int .i64 9))⟩,
⟨some 18,none,.mv (.tmp 20)⟩])
 (.cond (.tmp 18)
 .skip
 (.ops [
 ⟨some 21,none,.bin .eql (.tmp 13) (.const (.int .i64 13))⟩,
⟨some 18,none,.mv (.tmp 21)⟩])))))
 (.cond (.tmp 18)
 (.ops [
 ⟨some 10,none,.mv (.const (.int .i64 1))⟩])
 (.seq
 (.seq
 (.ops [
 ⟨some 23,none,.bin .eql (.tmp 13) (.const (.int .i64 4))⟩,
⟨some 22,none,.mv (.tmp 23)⟩])
 (.cond (.tmp 22)
 .skip
 (.ops [
 ⟨some 24,none,.bin .eql (.tmp 13) (.const (.int .i64 7))⟩,
⟨some 22,none,.mv (.tmp 24)⟩])))
 (.cond (.tmp 22)
 (.ops [
 ⟨some 10,none,.mv (.const (.int .i64 1))⟩,
⟨some 11,none,.mv (.const (.int .i64 1))⟩])
 (.seq
 (.ops [
 ⟨some 26,none,.bin .eql (.tmp 13) (.const (.int .i64 5))⟩,
⟨some 25,none,.mv (.tmp 26)⟩])
 (.cond (.tmp 25)
 (.ops [
 ⟨some 10,none,.mv (.const (.int .i64 2))⟩])
 (.seq
 (.ops [
 ⟨some 28,none,.bin .eql (.tmp 13) (.const (.int .i64 6))⟩,
⟨some 27,none,.mv (.tmp 28)⟩])
 (.cond (.tmp 27)
 (.ops [
 ⟨some 10,none,.mv (.const (.int .i64 2))⟩,
⟨some 11,none,.mv (.const (.int .i64 1))⟩])
 (.seq
 (.ops [
 ⟨some 30,none,.bin .eql (.tmp 13) (.const (.int .i64 8))⟩,
⟨some 29,none,.mv (.tmp 30)⟩])
 (.cond (.tmp 29)
 .skip
 (.seq
 (.ops [
 ⟨some 32,none,.bin .eql (.tmp 13) (.const (.int .i64 10))⟩,
⟨some 31,none,.mv (.tmp 32)⟩])
 (.cond (.tmp 31)
 (.seq
 (.seq
 (.ops [
 ⟨some 33,none,.fad 1 false 1 (.tmp 6)⟩,
⟨some 34,none,.ld false 1 (.tmp 33)⟩,
⟨some 35,none,.bin .lss (.tmp 34) (.const (.int .i64 0))⟩,
⟨some 36,none,.mv (.tmp 35)⟩,
⟨some 37,some (36,false),.fad 1 false 1 (.tmp 6)⟩,
⟨some 38,some (36,false),.ld false 1 (.tmp 37)⟩,
⟨some 39,some (36,false),.fad 1 false 1 (.tmp 4)⟩,
⟨some 40,some (36,false),.ld false 1 (.tmp 39)⟩,
⟨some 41,some (36,false),.len (.tmp 40)⟩,
⟨some 42,some (36,false),.bin .geq (.tmp 38) (.tmp 41)⟩,
⟨some 43,none,.pick (.tmp 36) (.const (.bool true)) (.tmp 42)⟩,
⟨some 44,none,.mv (.tmp 43)⟩,
⟨some 45,some (44,false),.fad 1 false 1 (.tmp 4)⟩,
⟨some 46,some (44,false),.ld false 1 (.tmp 45)⟩,
⟨some 47,some (44,false),.fad 1 false 1 (.tmp 6)⟩,
⟨some 48,some (44,false),.ld false 1 (.tmp 47)⟩,
⟨some 49,some (44,false),.idx 5 (.tmp 46) (.tmp 48)⟩,
⟨some 50,some (44,false),.fad 0 false 1 (.tmp 49)⟩,
⟨some 51,some (44,false),.ld false 1 (.tmp 50)⟩,
⟨some 52,some (44,false),.bin .lss (.tmp 51) (.const (.int .i64 0))⟩,
⟨some 53,none,.pick (.tmp 44) (.const (.bool true)) (.tmp 52)⟩])
 (.cond (.tmp 53)
 (.seq
 (.ops [
 ⟨some 8,none,.mv (.const (.int .i64 0))⟩,
⟨some 9,none,.mv (.const (.bool false))⟩])
 .ret)
 .skip))
 (.par true (.one ⟨some 54,none,.fad 1 false 1 (.tmp 4)⟩ (.one ⟨some 56,none,.fad 1 false 1 (.tmp 6)⟩ (.one ⟨some 61,none,.fad 1 false 1 (.tmp 4)⟩ (.one ⟨some 62,none,.ld false 1 (.tmp 61)⟩ (.one ⟨some 63,none,.fad 1 false 1 (.tmp 6)⟩ (.one ⟨some 64,none,.ld false 1 (.tmp 63)⟩ (.one ⟨some 65,none,.idx 5 (.tmp 62) (.tmp 64)⟩ (.one ⟨some 66,none,.fad 3 false 1 (.tmp 65)⟩ (.one ⟨some 67,none,.ld false 1 (.tmp 66)⟩ (.both (.one ⟨some 55,none,.ld false 1 (.tmp 54)⟩ (.both (.one ⟨some 57,none,.ld false 1 (.tmp 56)⟩ (.one ⟨some 58,none,.idx 5 (.tmp 55) (.tmp 57)⟩ (.one ⟨some 59,none,.fad 0 false 1 (.tmp 58)⟩ (.both (.one ⟨some 60,none,.ld false 1 (.tmp 59)⟩ (.one ⟨some 68,none,.callM true (.func 86) [.tmp 67]⟩ (.one ⟨some 10,none,.mv (.tmp 60)⟩ (.one ⟨some 11,none,.mv (.tmp 68)⟩ .done)))) (.one ⟨some 68,none,.callM true (.func 86) [.tmp 67]⟩ (.one ⟨some 60,none,.ld false 1 (.tmp 59)⟩ (.one ⟨some 10,none,.mv (.tmp 60)⟩ (.one ⟨some 11,none,.mv (.tmp 68)⟩ .done)))))))) (.one ⟨some 68,none,.callM true (.func 86) [.tmp 67]⟩ (.one ⟨some 57,none,.ld false 1 (.tmp 56)⟩ (.one ⟨some 58,none,.idx 5 (.tmp 55) (.tmp 57)⟩ (.one ⟨some 59,none,.fad 0 false 1 (.tmp 58)⟩ (.one ⟨some 60,none,.ld false 1 (.tmp 59)⟩ (.one ⟨some 10,none,.mv (.tmp 60)⟩ (.one ⟨some 11,none,.mv (.tmp 68)⟩ .done))))))))) (.both (.one ⟨some 57,none,.ld false 1 (.tmp 56)⟩ (.both (.one ⟨some 55,none,.ld false 1 (.tmp 54)⟩ (.one ⟨some 58,none,.idx 5 (.tmp 55) (.tmp 57)⟩ (.one ⟨some 59,none,.fad 0 false 1 (.tmp 58)⟩ (.both (.one ⟨some 60,none,.ld false 1 (.tmp 59)⟩ (.one ⟨some 68,none,.callM true (.func 86) [.tmp 67]⟩ (.one ⟨some 10,none,.mv (.tmp 60)⟩ (.one ⟨some 11,none,.mv (.tmp 68)⟩ .done)))) (.one ⟨some 68,none,.callM true (.func 86) [.tmp 67]⟩ (.one ⟨some 60,none,.ld false 1 (.tmp 59)⟩ (.one ⟨some 10,none,.mv (.tmp 60)⟩ (.one ⟨some 11,none,.mv (.tmp 68)⟩ .done)))))))) (.one ⟨some 68,none,.callM true (.func 86) [.tmp 67]⟩ (.one ⟨some 55,none,.ld false 1 (.tmp 54)⟩ (.one ⟨some 58,none,.idx 5 (.tmp 55) (.tmp 57)⟩ (.one ⟨some 59,none,.fad 0 false 1 (.tmp 58)⟩ (.one ⟨some 60,none,.ld false 1 (.tmp 59)⟩ (.one ⟨some 10,none,.mv (.tmp 60)⟩ (.one ⟨some 11,none,.mv (.tmp 68)⟩ .done))))))))) (.one ⟨some 68,none,.callM true (.func 86) [.tmp 67]⟩ (.one ⟨some 55,none,.ld false 1 (.tmp 54)⟩ (.one ⟨some 57,none,.ld false 1 (.tmp 56)⟩ (.one ⟨some 58,none,.idx 5 (.tmp 55) (.tmp 57)⟩ (.one ⟨some 59,none,.fad 0 false 1 (.tmp 58)⟩ (.one ⟨some 60,none,.ld false 1 (.tmp 59)⟩ (.one ⟨some 10,none,.mv (.tmp 60)⟩ (.one ⟨some 11,none,.mv (.tmp 68)⟩ .done)))))))))))))))))))))
 (.seq
 (.ops [
 ⟨some 70,none,.bin .eql (.tmp 13) (.const (.int .i64 11))⟩,
⟨some 69,none,.mv (.tmp 70)⟩])
 (.cond (.tmp 69)
 (.seq
 (.ops [
 ⟨some 71,none,.fad 1 false 1 (.tmp 4)⟩,
⟨some 72,none,.ld false 1 (.tmp 71)⟩,
⟨some 73,none,.mv (.tmp 1)⟩,
⟨some 74,none,.idx 5 (.tmp 72) (.tmp 73)⟩,
⟨some 75,none,.fad 3 false 1 (.tmp 74)⟩,
⟨some 76,none,.ld false 1 (.tmp 75)⟩,
⟨some 77,none,.callM true (.func 86) [.tmp 76]⟩,
⟨some 10,none,.mv (.tmp 77)⟩])
 (.seq
 (.ops [
 ⟨some 78,none,.mv (.tmp 3)⟩,
⟨some 79,none,.mv (.tmp 10)⟩,
⟨some 80,none,.bin .eql (.tmp 78) (.tmp 79)⟩,
⟨some 8,none,.mv (.const (.int .i64 0))⟩,
⟨some 9,none,.mv (.tmp 80)⟩])
 .ret))
 (.seq
 (.ops [
 ⟨some 8,none,.mv (.const (.int .i64 0))⟩,
⟨some 9,none,.mv (.const (.bool false))⟩])
 .ret)))))))))))))))))))
 (.seq
 (.ops [
 ⟨some 81,none,.mv (.tmp 3)⟩,
⟨some 82,none,.mv (.tmp 10)⟩,
⟨some 83,none,.bin .sub (.tmp 81) (.tmp 82)⟩,
⟨some 84,none,.mv (.tmp 11)⟩,
⟨some 85,none,.bin .add (.tmp 83) (.tmp 84)⟩,
⟨some 86,none,.mv (.tmp 3)⟩,
⟨some 87,none,.mv (.tmp 10)⟩,
⟨some 88,none,.bin .geq (.tmp 86) (.tmp 87)⟩,
⟨some 8,none,.mv (.tmp 85)⟩,
⟨some 9,none,.mv (.tmp 88)⟩])
 .ret))))
theorem f_stack_behind : compF Try.prog 54 = some (89, c_stack_behind, [.tmp 8,.tmp 9]) := by kernel_rfl
def c_stack_next : VC :=
 (.seq
 (.ops [
 ⟨some 2,none,.box 32 (.tmp 0)⟩,
⟨some 4,none,.mv (.const (.slice none 0 0))⟩])
 (.seq
 (.seq
 (.ops [
 ⟨some 5,none,.fad 0 false 1 (.tmp 2)⟩,
⟨some 6,none,.ld false 1 (.tmp 5)⟩])
 (.block 0
 (.seq
 (.ops [
 ⟨some 8,none,.bin .eql (.tmp 6) (.const (.int .i64 8))⟩,
⟨some 7,none,.mv (.tmp 8)⟩])
 (.cond (.tmp 7)
 (.seq
 (.ops [
 ⟨some 9,none,.fad 1 false 1 (.tmp 2)⟩,
⟨some 10,none,.ld false 1 (.tmp 9)⟩,
⟨some 11,none,.bsl 3 1 1 [.int .i64 0] [(0, (1, (.tmp 10)))]⟩,
⟨some 4,none,.mv (.tmp 11)⟩])
 .ret)
 (.seq
 (.ops [
 ⟨some 13,none,.bin .eql (.tmp 6) (.const (.int .i64 9))⟩,
⟨some 12,none,.mv (.tmp 13)⟩])
 (.cond (.tmp 12)
 (.seq
 (.ops [
 ⟨some 14,none,.mv (.tmp 1)⟩,
⟨some 15,none,.bin .add (.tmp 14) (.const (.int .i64 1))⟩,
⟨some 16,none,.fad 1 false 1 (.tmp 2)⟩,
⟨some 17,none,.ld false 1 (.tmp 16)⟩,
⟨some 18,none,.bsl 3 1 2 [.int .i64 0,.int .i64 0] [(0, (1, (.tmp 15))), (1, (1, (.tmp 17)))]⟩,
⟨some 4,none,.mv (.tmp 18)⟩])
 .ret)
 (.seq
 (.ops [
 ⟨some 20,none,.bin .eql (.tmp 6) (.const (.int .i64 11))⟩,
⟨some 19,none,.mv (.tmp 20)⟩])
 (.cond (.tmp 19)
 (.seq
 (.ops [
 ⟨some 4,none,.mv (.const (.slice none 0 0))⟩])
 .ret)
 .skip))))))))
 (.seq
 (.ops [
 ⟨some 21,none,.mv (.tmp 1)⟩,
⟨some 22,none,.bin .add (.tmp 21) (.const (.int .i64 1))⟩,
⟨some 23,none,.bsl 3 1 1 [.int .i64 0] [(0, (1, (.tmp 22)))]⟩,
⟨some 4,none,.mv (.tmp 23)⟩])
 .ret)))
theorem f_stack_next : compF Try.prog 55 = some (24, c_stack_next, [.tmp 4]) := by kernel_rfl
def c_emit_meanings_1 : VC :=
 (.seq
 (.ops [
 ⟨some 3,none,.box 32 (.tmp 1)⟩])
 (.seq
 (.ops [
 ⟨some 4,none,.mv (.tmp 0)⟩,
⟨some 5,none,.fad 3 false 1 (.tmp 3)⟩,
⟨some 6,none,.ld false 1 (.tmp 5)⟩,
⟨some 7,none,.call (.func 57) [(.tmp 4), (.const (.int .i64 1)), (.tmp 6)]⟩])
 (.ops [
 ⟨some 8,none,.mv (.tmp 0)⟩,
⟨some 9,none,.call (.func 58) [(.tmp 8), (.const (.int .i64 1)), (.const (.int .i64 0))]⟩])))
theorem f_emit_meanings_1 : compF Try.prog 56 = some (10, c_emit_meanings_1, []) := by kernel_rfl
def c_emit_generator_number : VC :=
 (.seq
 (.ops [
 ⟨some 6,none,.mv (.tmp 0)⟩,
⟨some 7,none,.mv (.tmp 1)⟩,
⟨some 8,none,.mv (.tmp 2)⟩,
⟨some 9,none,.bin .and (.tmp 8) (.const (.int .u32 65535))⟩,
⟨some 10,none,.conv .i64 (.tmp 9)⟩,
⟨some 11,none,.call (.func 41) [(.tmp 6), (.const (.int .i64 1)), (.tmp 7), (.const (.int .i64 0)), (.tmp 10)]⟩])
 (.seq
 (.ops [
 ⟨some 12,none,.mv (.tmp 2)⟩,
⟨some 13,none,.bin .gtr (.tmp 12) (.const (.int .u32 65535))⟩])
 (.cond (.tmp 13)
 (.ops [
 ⟨some 14,none,.mv (.tmp 0)⟩,
⟨some 15,none,.mv (.tmp 1)⟩,
⟨some 16,none,.mv (.tmp 2)⟩,
⟨some 17,none,.bin .shr (.tmp 16) (.const (.int .u64 16))⟩,
⟨some 18,none,.conv .i64 (.tmp 17)⟩,
⟨some 19,none,.call (.func 41) [(.tmp 14), (.const (.int .i64 2)), (.tmp 15), (.const (.int .i64 0)), (.tmp 18)]⟩])
 .skip)))
theorem f_emit_generator_number : compF Try.prog 57 = some (20, c_emit_generator_number, []) := by kernel_rfl
def c_emit_generator_store : VC :=
 (.ops [
 ⟨some 6,none,.mv (.tmp 0)⟩,
⟨some 7,none,.mv (.tmp 1)⟩,
⟨some 8,none,.mv (.tmp 0)⟩,
⟨some 9,none,.nck (.tmp 8)⟩,
⟨some 10,none,.fad 2 true 4 (.tmp 9)⟩,
⟨some 11,none,.fad 2 false 1 (.tmp 10)⟩,
⟨some 12,none,.ld false 1 (.tmp 11)⟩,
⟨some 13,none,.mv (.tmp 0)⟩,
⟨some 14,none,.nck (.tmp 13)⟩,
⟨some 15,none,.fad 10 false 1 (.tmp 14)⟩,
⟨some 16,none,.ld false 1 (.tmp 15)⟩,
⟨some 17,none,.idx 1 (.tmp 12) (.tmp 16)⟩,
⟨some 18,none,.ld false 1 (.tmp 17)⟩,
⟨some 19,none,.mv (.tmp 0)⟩,
⟨some 20,none,.nck (.tmp 19)⟩,
⟨some 21,none,.fad 11 false 1 (.tmp 20)⟩,
⟨some 22,none,.ld false 1 (.tmp 21)⟩,
⟨some 23,none,.bin .add (.tmp 18) (.tmp 22)⟩,
⟨some 24,none,.mv (.tmp 2)⟩,
⟨some 25,none,.bin .sub (.tmp 23) (.tmp 24)⟩,
⟨some 26,none,.call (.func 41) [(.tmp 6), (.const (.int .i64 17)), (.tmp 7), (.const (.int .i64 0)), (.tmp 25)]⟩])
theorem f_emit_generator_store : compF Try.prog 58 = some (27, c_emit_generator_store, []) := by kernel_rfl
def c_emit_meanings_2 : VC :=
 (.seq
 (.ops [
 ⟨some 3,none,.box 32 (.tmp 1)⟩])
 (.seq
 (.ops [
 ⟨some 4,none,.mv (.tmp 0)⟩,
⟨some 5,none,.fad 1 false 1 (.tmp 3)⟩,
⟨some 6,none,.ld false 1 (.tmp 5)⟩,
⟨some 7,none,.call (.func 41) [(.tmp 4), (.const (.int .i64 16)), (.const (.int .i64 1)), (.const (.int .i64 0)), (.tmp 6)]⟩])
 (.ops [
 ⟨some 8,none,.mv (.tmp 0)⟩,
⟨some 9,none,.call (.func 58) [(.tmp 8), (.const (.int .i64 1)), (.const (.int .i64 0))]⟩])))
theorem f_emit_meanings_2 : compF Try.prog 59 = some (10, c_emit_meanings_2, []) := by kernel_rfl
def c_emit_meanings_3 : VC :=
 (.seq
 (.ops [
 ⟨some 3,none,.box 32 (.tmp 1)⟩])
 (.seq
 (.ops [
 ⟨some 4,none,.mv (.tmp 0)⟩,
⟨some 5,none,.call (.func 61) [(.tmp 4), (.const (.int .i64 1)), (.const (.int .i64 1))]⟩])
 (.ops [
 ⟨some 6,none,.mv (.tmp 0)⟩,
⟨some 7,none,.fad 1 false 1 (.tmp 3)⟩,
⟨some 8,none,.ld false 1 (.tmp 7)⟩,
⟨some 9,none,.call (.func 41) [(.tmp 6), (.const (.int .i64 17)), (.const (.int .i64 1)), (.const (.int .i64 0)), (.tmp 8)]⟩])))
theorem f_emit_meanings_3 : compF Try.prog 60 = some (10, c_emit_meanings_3, []) := by kernel_rfl
def c_emit_generator_load : VC :=
 (.ops [
 ⟨some 6,none,.mv (.tmp 0)⟩,
⟨some 7,none,.mv (.tmp 1)⟩,
⟨some 8,none,.mv (.tmp 0)⟩,
⟨some 9,none,.nck (.tmp 8)⟩,
⟨some 10,none,.fad 2 true 4 (.tmp 9)⟩,
⟨some 11,none,.fad 2 false 1 (.tmp 10)⟩,
⟨some 12,none,.ld false 1 (.tmp 11)⟩,
⟨some 13,none,.mv (.tmp 0)⟩,
⟨some 14,none,.nck (.tmp 13)⟩,
⟨some 15,none,.fad 10 false 1 (.tmp 14)⟩,
⟨some 16,none,.ld false 1 (.tmp 15)⟩,
⟨some 17,none,.idx 1 (.tmp 12) (.tmp 16)⟩,
⟨some 18,none,.ld false 1 (.tmp 17)⟩,
⟨some 19,none,.mv (.tmp 0)⟩,
⟨some 20,none,.nck (.tmp 19)⟩,
⟨some 21,none,.fad 11 false 1 (.tmp 20)⟩,
⟨some 22,none,.ld false 1 (.tmp 21)⟩,
⟨some 23,none,.bin .add (.tmp 18) (.tmp 22)⟩,
⟨some 24,none,.mv (.tmp 2)⟩,
⟨some 25,none,.bin .sub (.tmp 23) (.tmp 24)⟩,
⟨some 26,none,.call (.func 41) [(.tmp 6), (.const (.int .i64 16)), (.tmp 7), (.const (.int .i64 0)), (.tmp 25)]⟩])
theorem f_emit_generator_load : compF Try.prog 61 = some (27, c_emit_generator_load, []) := by kernel_rfl
def c_emit_meanings_4 : VC :=
 (.seq
 (.ops [
 ⟨some 3,none,.box 32 (.tmp 1)⟩])
 (.seq
 (.ops [
 ⟨some 4,none,.mv (.tmp 0)⟩,
⟨some 5,none,.call (.func 61) [(.tmp 4), (.const (.int .i64 1)), (.const (.int .i64 1))]⟩])
 (.seq
 (.ops [
 ⟨some 6,none,.mv (.tmp 0)⟩,
⟨some 7,none,.fad 2 false 1 (.tmp 3)⟩,
⟨some 8,none,.ld false 1 (.tmp 7)⟩,
⟨some 9,none,.call (.func 41) [(.tmp 6), (.const (.int .i64 25)), (.const (.int .i64 1)), (.const (.int .i64 0)), (.tmp 8)]⟩])
 (.seq
 (.ops [
 ⟨some 10,none,.mv (.tmp 0)⟩,
⟨some 11,none,.fad 1 false 1 (.tmp 3)⟩,
⟨some 12,none,.ld false 1 (.tmp 11)⟩,
⟨some 13,none,.call (.func 41) [(.tmp 10), (.const (.int .i64 16)), (.const (.int .i64 1)), (.const (.int .i64 1)), (.tmp 12)]⟩])
 (.ops [
 ⟨some 14,none,.mv (.tmp 0)⟩,
⟨some 15,none,.call (.func 58) [(.tmp 14), (.const (.int .i64 1)), (.const (.int .i64 1))]⟩])))))
theorem f_emit_meanings_4 : compF Try.prog 62 = some (16, c_emit_meanings_4, []) := by kernel_rfl
def c_emit_meanings_5 : VC :=
 (.seq
 (.ops [
 ⟨some 3,none,.box 32 (.tmp 1)⟩])
 (.seq
 (.ops [
 ⟨some 4,none,.mv (.tmp 0)⟩,
⟨some 5,none,.call (.func 61) [(.tmp 4), (.const (.int .i64 1)), (.const (.int .i64 2))]⟩])
 (.seq
 (.ops [
 ⟨some 6,none,.mv (.tmp 0)⟩,
⟨some 7,none,.fad 2 false 1 (.tmp 3)⟩,
⟨some 8,none,.ld false 1 (.tmp 7)⟩,
⟨some 9,none,.call (.func 41) [(.tmp 6), (.const (.int .i64 25)), (.const (.int .i64 1)), (.const (.int .i64 0)), (.tmp 8)]⟩])
 (.seq
 (.ops [
 ⟨some 10,none,.mv (.tmp 0)⟩,
⟨some 11,none,.call (.func 61) [(.tmp 10), (.const (.int .i64 2)), (.const (.int .i64 1))]⟩])
 (.ops [
 ⟨some 12,none,.mv (.tmp 0)⟩,
⟨some 13,none,.fad 1 false 1 (.tmp 3)⟩,
⟨some 14,none,.ld false 1 (.tmp 13)⟩,
⟨some 15,none,.call (.func 41) [(.tmp 12), (.const (.int .i64 17)), (.const (.int .i64 2)), (.const (.int .i64 1)), (.tmp 14)]⟩])))))
theorem f_emit_meanings_5 : compF Try.prog 63 = some (16, c_emit_meanings_5, []) := by kernel_rfl
def c_emit_meanings_6 : VC :=
 (.seq
 (.ops [
 ⟨some 3,none,.box 32 (.tmp 1)⟩])
 (.seq
 (.ops [
 ⟨some 4,none,.mv (.tmp 0)⟩,
⟨some 5,none,.call (.func 61) [(.tmp 4), (.const (.int .i64 1)), (.const (.int .i64 2))]⟩])
 (.seq
 (.ops [
 ⟨some 6,none,.mv (.tmp 0)⟩,
⟨some 7,none,.call (.func 61) [(.tmp 6), (.const (.int .i64 2)), (.const (.int .i64 1))]⟩])
 (.seq
 (.ops [
 ⟨some 8,none,.mv (.tmp 0)⟩,
⟨some 9,none,.fad 1 false 1 (.tmp 3)⟩,
⟨some 10,none,.ld false 1 (.tmp 9)⟩,
⟨some 11,none,.call (.func 41) [(.tmp 8), (.tmp 10), (.const (.int .i64 1)), (.const (.int .i64 1)), (.const (.int .i64 2))]⟩])
 (.ops [
 ⟨some 12,none,.mv (.tmp 0)⟩,
⟨some 13,none,.call (.func 58) [(.tmp 12), (.const (.int .i64 1)), (.const (.int .i64 2))]⟩])))))
theorem f_emit_meanings_6 : compF Try.prog 64 = some (14, c_emit_meanings_6, []) := by kernel_rfl
def c_emit_meanings_7 : VC :=
 (.seq
 (.ops [
 ⟨some 3,none,.box 32 (.tmp 1)⟩])
 (.seq
 (.ops [
 ⟨some 4,none,.mv (.tmp 0)⟩,
⟨some 5,none,.call (.func 61) [(.tmp 4), (.const (.int .i64 1)), (.const (.int .i64 1))]⟩])
 (.seq
 (.ops [
 ⟨some 6,none,.mv (.tmp 0)⟩,
⟨some 7,none,.call (.func 41) [(.tmp 6), (.const (.int .i64 15)), (.const (.int .i64 1)), (.const (.int .i64 1)), (.const (.int .i64 0))]⟩])
 (.ops [
 ⟨some 8,none,.mv (.tmp 0)⟩,
⟨some 9,none,.call (.func 58) [(.tmp 8), (.const (.int .i64 1)), (.const (.int .i64 1))]⟩]))))
theorem f_emit_meanings_7 : compF Try.prog 65 = some (10, c_emit_meanings_7, []) := by kernel_rfl
def c_emit_meanings_8 : VC :=
 (.seq
 (.ops [
 ⟨some 3,none,.box 32 (.tmp 1)⟩])
 (.ops [
 ⟨some 4,none,.mv (.tmp 0)⟩,
⟨some 5,none,.mv (.tmp 0)⟩,
⟨some 6,none,.nck (.tmp 5)⟩,
⟨some 7,none,.fad 10 false 1 (.tmp 6)⟩,
⟨some 8,none,.ld false 1 (.tmp 7)⟩,
⟨some 9,none,.fad 1 false 1 (.tmp 3)⟩,
⟨some 10,none,.ld false 1 (.tmp 9)⟩,
⟨some 11,none,.call (.func 67) [(.tmp 4), (.const (.int .i64 18)), (.const (.int .i64 0)), (.tmp 8), (.tmp 10)]⟩]))
theorem f_emit_meanings_8 : compF Try.prog 66 = some (12, c_emit_meanings_8, []) := by kernel_rfl
def c_emit_generator_hole : VC :=
 (.seq
 (.par false (.one ⟨some 10,none,.mv (.tmp 0)⟩ (.one ⟨some 11,none,.mv (.tmp 0)⟩ (.one ⟨some 12,none,.nck (.tmp 11)⟩ (.one ⟨some 13,none,.fad 9 false 1 (.tmp 12)⟩ (.one ⟨some 14,none,.ld false 1 (.tmp 13)⟩ (.one ⟨some 15,none,.mv (.tmp 0)⟩ (.one ⟨some 16,none,.nck (.tmp 15)⟩ (.one ⟨some 17,none,.fad 6 false 1 (.tmp 16)⟩ (.one ⟨some 18,none,.ld false 1 (.tmp 17)⟩ (.one ⟨some 19,none,.len (.tmp 18)⟩ (.one ⟨some 20,none,.mv (.tmp 3)⟩ (.one ⟨some 21,none,.mv (.tmp 4)⟩ (.one ⟨some 22,none,.bld [.int .i64 0,.int .i64 0,.int .i64 0] [(0, (1, (.tmp 19))), (1, (1, (.tmp 20))), (2, (1, (.tmp 21)))]⟩ (.one ⟨some 23,none,.bsl 110 3 1 [.int .i64 0,.int .i64 0,.int .i64 0] [(0, (3, (.tmp 22)))]⟩ (.one ⟨some 24,none,.app 110 3 24 (.tmp 14) (.tmp 23)⟩ (.one ⟨some 25,none,.nck (.tmp 10)⟩ (.one ⟨some 26,none,.fad 9 false 1 (.tmp 25)⟩ (.one ⟨none,none,.sto false 1 (.tmp 26) (.tmp 24)⟩ .done)))))))))))))))))))
 (.ops [
 ⟨some 27,none,.mv (.tmp 0)⟩,
⟨some 28,none,.mv (.tmp 1)⟩,
⟨some 29,none,.mv (.tmp 2)⟩,
⟨some 30,none,.call (.func 41) [(.tmp 27), (.tmp 28), (.tmp 29), (.const (.int .i64 0)), (.const (.int .i64 0))]⟩]))
theorem f_emit_generator_hole : compF Try.prog 67 = some (31, c_emit_generator_hole, []) := by kernel_rfl
def c_emit_meanings_9 : VC :=
 (.seq
 (.ops [
 ⟨some 3,none,.box 32 (.tmp 1)⟩])
 (.seq
 (.ops [
 ⟨some 4,none,.mv (.tmp 0)⟩,
⟨some 5,none,.call (.func 61) [(.tmp 4), (.const (.int .i64 1)), (.const (.int .i64 1))]⟩])
 (.ops [
 ⟨some 6,none,.mv (.tmp 0)⟩,
⟨some 7,none,.mv (.tmp 0)⟩,
⟨some 8,none,.nck (.tmp 7)⟩,
⟨some 9,none,.fad 10 false 1 (.tmp 8)⟩,
⟨some 10,none,.ld false 1 (.tmp 9)⟩,
⟨some 11,none,.fad 1 false 1 (.tmp 3)⟩,
⟨some 12,none,.ld false 1 (.tmp 11)⟩,
⟨some 13,none,.call (.func 67) [(.tmp 6), (.const (.int .i64 19)), (.const (.int .i64 1)), (.tmp 10), (.tmp 12)]⟩])))
theorem f_emit_meanings_9 : compF Try.prog 68 = some (14, c_emit_meanings_9, []) := by kernel_rfl
def c_emit_meanings_10 : VC :=
 (.seq
 (.ops [
 ⟨some 3,none,.box 32 (.tmp 1)⟩])
 (.ops [
 ⟨some 4,none,.mv (.tmp 0)⟩,
⟨some 5,none,.ld true 4 (.tmp 3)⟩,
⟨some 6,none,.call (.func 70) [.tmp 4,.tmp 5]⟩]))
theorem f_emit_meanings_10 : compF Try.prog 69 = some (7, c_emit_meanings_10, []) := by kernel_rfl
def c_emit_generator_call : VC :=
 (.seq
 (.ops [
 ⟨some 3,none,.box 32 (.tmp 1)⟩])
 (.seq
 (.par false (.one ⟨some 6,none,.mv (.tmp 0)⟩ (.one ⟨some 7,none,.nck (.tmp 6)⟩ (.one ⟨some 8,none,.fad 0 true 2 (.tmp 7)⟩ (.one ⟨some 9,none,.fad 1 false 1 (.tmp 8)⟩ (.one ⟨some 10,none,.ld false 1 (.tmp 9)⟩ (.one ⟨some 11,none,.fad 1 false 1 (.tmp 3)⟩ (.one ⟨some 12,none,.ld false 1 (.tmp 11)⟩ (.one ⟨some 13,none,.idx 5 (.tmp 10) (.tmp 12)⟩ (.one ⟨some 14,none,.ld true 5 (.tmp 13)⟩ (.one ⟨some 4,none,.alc 29 [.int .i64 0,.int .i64 0,.int .i64 0,.bool false,.slice none 0 0]⟩ (.one ⟨none,none,.sto true 5 (.tmp 4) (.tmp 14)⟩ .done))))))))))))
 (.seq
 (.seq
 (.ops [
 ⟨some 15,none,.fad 0 false 1 (.tmp 4)⟩,
⟨some 16,none,.ld false 1 (.tmp 15)⟩,
⟨some 17,none,.mv (.const (.int .i64 0))⟩])
 (.block 0
 (.loop
 (.seq
 (.ops [
 ⟨some 18,none,.bin .lss (.tmp 17) (.tmp 16)⟩])
 (.seq
 (.cond (.tmp 18)
 .skip
 (.exit 0))
 (.seq
 (.block 1
 (.seq
 (.ops [
 ⟨some 19,none,.mv (.tmp 17)⟩,
⟨some 5,none,.mv (.tmp 19)⟩])
 (.seq
 (.ops [
 ⟨some 20,none,.mv (.tmp 0)⟩,
⟨some 21,none,.fad 0 false 1 (.tmp 4)⟩,
⟨some 22,none,.ld false 1 (.tmp 21)⟩,
⟨some 23,none,.mv (.tmp 5)⟩,
⟨some 24,none,.bin .sub (.tmp 22) (.tmp 23)⟩,
⟨some 25,none,.call (.func 61) [(.tmp 20), (.const (.int .i64 1)), (.tmp 24)]⟩])
 (.ops [
 ⟨some 26,none,.mv (.tmp 0)⟩,
⟨some 27,none,.fad 2 false 1 (.tmp 4)⟩,
⟨some 28,none,.ld false 1 (.tmp 27)⟩,
⟨some 29,none,.mv (.tmp 5)⟩,
⟨some 30,none,.bin .add (.tmp 28) (.tmp 29)⟩,
⟨some 31,none,.call (.func 41) [(.tmp 26), (.const (.int .i64 17)), (.const (.int .i64 1)), (.const (.int .i64 0)), (.tmp 30)]⟩]))))
 (.ops [
 ⟨some 32,none,.bin .add (.tmp 17) (.const (.int .i64 1))⟩,
⟨some 17,none,.mv (.tmp 32)⟩])))))))
 (.seq
 (.ops [
 ⟨some 33,none,.mv (.tmp 0)⟩,
⟨some 34,none,.fad 1 false 1 (.tmp 3)⟩,
⟨some 35,none,.ld false 1 (.tmp 34)⟩,
⟨some 36,none,.call (.func 67) [(.tmp 33), (.const (.int .i64 21)), (.const (.int .i64 14)), (.tmp 35), (.const (.int .i64 (-1)))]⟩])
 (.seq
 (.ops [
 ⟨some 37,none,.fad 3 false 1 (.tmp 4)⟩,
⟨some 38,none,.ld false 1 (.tmp 37)⟩])
 (.cond (.tmp 38)
 (.ops [
 ⟨some 39,none,.mv (.tmp 0)⟩,
⟨some 40,none,.fad 0 false 1 (.tmp 4)⟩,
⟨some 41,none,.ld false 1 (.tmp 40)⟩,
⟨some 42,none,.call (.func 58) [(.tmp 39), (.const (.int .i64 1)), (.tmp 41)]⟩])
 .skip))))))
theorem f_emit_generator_call : compF Try.prog 70 = some (43, c_emit_generator_call, []) := by kernel_rfl
def c_emit_meanings_11 : VC :=
 (.seq
 (.ops [
 ⟨some 3,none,.box 32 (.tmp 1)⟩])
 (.ops [
 ⟨some 4,none,.mv (.tmp 0)⟩,
⟨some 5,none,.call (.func 72) [.tmp 4]⟩]))
theorem f_emit_meanings_11 : compF Try.prog 71 = some (6, c_emit_meanings_11, []) := by kernel_rfl
def c_emit_generator_leave : VC :=
 (.seq
 (.seq
 (.ops [
 ⟨some 2,none,.mv (.tmp 0)⟩,
⟨some 3,none,.nck (.tmp 2)⟩,
⟨some 4,none,.fad 10 false 1 (.tmp 3)⟩,
⟨some 5,none,.ld false 1 (.tmp 4)⟩,
⟨some 6,none,.mv (.tmp 0)⟩,
⟨some 7,none,.nck (.tmp 6)⟩,
⟨some 8,none,.fad 0 true 2 (.tmp 7)⟩,
⟨some 9,none,.fad 1 false 1 (.tmp 8)⟩,
⟨some 10,none,.ld false 1 (.tmp 9)⟩,
⟨some 11,none,.len (.tmp 10)⟩,
⟨some 12,none,.bin .sub (.tmp 11) (.const (.int .i64 1))⟩,
⟨some 13,none,.bin .eql (.tmp 5) (.tmp 12)⟩])
 (.cond (.tmp 13)
 (.seq
 (.ops [
 ⟨some 14,none,.mv (.tmp 0)⟩,
⟨some 15,none,.call (.func 41) [(.tmp 14), (.const (.int .i64 26)), (.const (.int .i64 0)), (.const (.int .i64 0)), (.const (.int .i64 0))]⟩])
 .ret)
 .skip))
 (.seq
 (.seq
 (.ops [
 ⟨some 16,none,.mv (.tmp 0)⟩,
⟨some 17,none,.nck (.tmp 16)⟩,
⟨some 18,none,.fad 0 true 2 (.tmp 17)⟩,
⟨some 19,none,.fad 1 false 1 (.tmp 18)⟩,
⟨some 20,none,.ld false 1 (.tmp 19)⟩,
⟨some 21,none,.mv (.tmp 0)⟩,
⟨some 22,none,.nck (.tmp 21)⟩,
⟨some 23,none,.fad 10 false 1 (.tmp 22)⟩,
⟨some 24,none,.ld false 1 (.tmp 23)⟩,
⟨some 25,none,.idx 5 (.tmp 20) (.tmp 24)⟩,
⟨some 26,none,.fad 3 false 1 (.tmp 25)⟩,
⟨some 27,none,.ld false 1 (.tmp 26)⟩])
 (.cond (.tmp 27)
 (.ops [
 ⟨some 28,none,.mv (.tmp 0)⟩,
⟨some 29,none,.call (.func 61) [(.tmp 28), (.const (.int .i64 1)), (.const (.int .i64 1))]⟩])
 .skip))
 (.seq
 (.ops [
 ⟨some 30,none,.mv (.tmp 0)⟩,
⟨some 31,none,.mv (.tmp 0)⟩,
⟨some 32,none,.nck (.tmp 31)⟩,
⟨some 33,none,.fad 2 true 4 (.tmp 32)⟩,
⟨some 34,none,.fad 1 false 1 (.tmp 33)⟩,
⟨some 35,none,.ld false 1 (.tmp 34)⟩,
⟨some 36,none,.mv (.tmp 0)⟩,
⟨some 37,none,.nck (.tmp 36)⟩,
⟨some 38,none,.fad 10 false 1 (.tmp 37)⟩,
⟨some 39,none,.ld false 1 (.tmp 38)⟩,
⟨some 40,none,.idx 1 (.tmp 35) (.tmp 39)⟩,
⟨some 41,none,.ld false 1 (.tmp 40)⟩,
⟨some 42,none,.call (.func 41) [(.tmp 30), (.const (.int .i64 16)), (.const (.int .i64 14)), (.const (.int .i64 0)), (.tmp 41)]⟩])
 (.ops [
 ⟨some 43,none,.mv (.tmp 0)⟩,
⟨some 44,none,.call (.func 41) [(.tmp 43), (.const (.int .i64 22)), (.const (.int .i64 14)), (.const (.int .i64 0)), (.const (.int .i64 0))]⟩]))))
theorem f_emit_generator_leave : compF Try.prog 72 = some (45, c_emit_generator_leave, []) := by kernel_rfl
def c_emit_meanings_12 : VC :=
 (.seq
 (.ops [
 ⟨some 3,none,.box 32 (.tmp 1)⟩])
 (.seq
 (.ops [
 ⟨some 4,none,.mv (.tmp 0)⟩,
⟨some 5,none,.call (.func 41) [(.tmp 4), (.const (.int .i64 23)), (.const (.int .i64 1)), (.const (.int .i64 0)), (.const (.int .i64 0))]⟩])
 (.ops [
 ⟨some 6,none,.mv (.tmp 0)⟩,
⟨some 7,none,.call (.func 58) [(.tmp 6), (.const (.int .i64 1)), (.const (.int .i64 0))]⟩])))
theorem f_emit_meanings_12 : compF Try.prog 73 = some (8, c_emit_meanings_12, []) := by kernel_rfl
def c_emit_meanings_13 : VC :=
 (.seq
 (.ops [
 ⟨some 3,none,.box 32 (.tmp 1)⟩])
 (.seq
 (.ops [
 ⟨some 4,none,.mv (.tmp 0)⟩,
⟨some 5,none,.call (.func 61) [(.tmp 4), (.const (.int .i64 1)), (.const (.int .i64 1))]⟩])
 (.ops [
 ⟨some 6,none,.mv (.tmp 0)⟩,
⟨some 7,none,.call (.func 41) [(.tmp 6), (.const (.int .i64 24)), (.const (.int .i64 1)), (.const (.int .i64 0)), (.const (.int .i64 0))]⟩])))
theorem f_emit_meanings_13 : compF Try.prog 74 = some (8, c_emit_meanings_13, []) := by kernel_rfl
def c_emit_generator_clear : VC :=
 (.seq
 (.seq
 (.ops [
 ⟨some 8,none,.mv (.tmp 2)⟩,
⟨some 9,none,.mv (.tmp 1)⟩,
⟨some 10,none,.bin .sub (.tmp 8) (.tmp 9)⟩,
⟨some 11,none,.bin .leq (.tmp 10) (.const (.int .i64 6))⟩])
 (.cond (.tmp 11)
 (.seq
 (.seq
 (.ops [
 ⟨some 12,none,.mv (.tmp 1)⟩,
⟨some 6,none,.mv (.tmp 12)⟩])
 (.block 0
 (.loop
 (.seq
 (.seq
 (.ops [
 ⟨some 13,none,.mv (.tmp 6)⟩,
⟨some 14,none,.mv (.tmp 2)⟩,
⟨some 15,none,.bin .lss (.tmp 13) (.tmp 14)⟩])
 (.cond (.tmp 15)
 .skip
 (.exit 0)))
 (.seq
 (.block 1
 (.ops [
 ⟨some 18,none,.mv (.tmp 0)⟩,
⟨some 19,none,.mv (.tmp 6)⟩,
⟨some 20,none,.call (.func 41) [(.tmp 18), (.const (.int .i64 17)), (.const (.int .i64 0)), (.const (.int .i64 0)), (.tmp 19)]⟩]))
 (.ops [
 ⟨some 16,none,.mv (.tmp 6)⟩,
⟨some 17,none,.bin .add (.tmp 16) (.const (.int .i64 1))⟩,
⟨some 6,none,.mv (.tmp 17)⟩]))))))
 .ret)
 .skip))
 (.seq
 (.ops [
 ⟨some 21,none,.mv (.tmp 0)⟩,
⟨some 22,none,.mv (.tmp 1)⟩,
⟨some 23,none,.call (.func 41) [(.tmp 21), (.const (.int .i64 1)), (.const (.int .i64 1)), (.const (.int .i64 0)), (.tmp 22)]⟩])
 (.seq
 (.ops [
 ⟨some 24,none,.mv (.tmp 0)⟩,
⟨some 25,none,.mv (.tmp 2)⟩,
⟨some 26,none,.call (.func 41) [(.tmp 24), (.const (.int .i64 1)), (.const (.int .i64 2)), (.const (.int .i64 0)), (.tmp 25)]⟩])
 (.seq
 (.ops [
 ⟨some 27,none,.mv (.tmp 0)⟩,
⟨some 28,none,.nck (.tmp 27)⟩,
⟨some 29,none,.fad 6 false 1 (.tmp 28)⟩,
⟨some 30,none,.ld false 1 (.tmp 29)⟩,
⟨some 31,none,.len (.tmp 30)⟩,
⟨some 7,none,.mv (.tmp 31)⟩])
 (.seq
 (.ops [
 ⟨some 32,none,.mv (.tmp 0)⟩,
⟨some 33,none,.call (.func 41) [(.tmp 32), (.const (.int .i64 17)), (.const (.int .i64 0)), (.const (.int .i64 1)), (.const (.int .i64 0))]⟩])
 (.seq
 (.ops [
 ⟨some 34,none,.mv (.tmp 0)⟩,
⟨some 35,none,.call (.func 41) [(.tmp 34), (.const (.int .i64 4)), (.const (.int .i64 1)), (.const (.int .i64 1)), (.const (.int .i64 15))]⟩])
 (.seq
 (.ops [
 ⟨some 36,none,.mv (.tmp 0)⟩,
⟨some 37,none,.call (.func 41) [(.tmp 36), (.const (.int .i64 14)), (.const (.int .i64 3)), (.const (.int .i64 1)), (.const (.int .i64 2))]⟩])
 (.ops [
 ⟨some 38,none,.mv (.tmp 0)⟩,
⟨some 39,none,.mv (.tmp 7)⟩,
⟨some 40,none,.call (.func 41) [(.tmp 38), (.const (.int .i64 20)), (.const (.int .i64 3)), (.const (.int .i64 0)), (.tmp 39)]⟩]))))))))
theorem f_emit_generator_clear : compF Try.prog 75 = some (41, c_emit_generator_clear, []) := by kernel_rfl
def c_inst_known : VC :=
 (.seq
 (.ops [
 ⟨some 2,none,.mv (.const (.bool false))⟩])
 (.seq
 (.ops [
 ⟨some 3,none,.mv (.tmp 0)⟩,
⟨some 4,none,.call (.func 77) [.tmp 3]⟩,
⟨some 5,none,.fld 0 false 1 (.tmp 4)⟩,
⟨(some 6), none, (.bin .neq (.tmp 5) (.const (.string ⟨#[]⟩)))⟩,
⟨some 2,none,.mv (.tmp 6)⟩])
 .ret))
theorem f_inst_known : compF Try.prog 76 = some (7, c_inst_known, [.tmp 2]) := by kernel_rfl
def c_inst_shapeOf : VC :=
 (.seq
 (.ops [
 ⟨(some 2), none, (.alc 133 [(.string ⟨#[]⟩), (.bool false), (.bool false), (.int .i64 0)])⟩])
 (.seq
 (.seq
 (.ops [
 ⟨some 3,none,.mv (.tmp 0)⟩])
 (.block 0
 (.seq
 (.ops [
 ⟨some 5,none,.bin .eql (.tmp 3) (.const (.int .i64 1))⟩,
⟨some 4,none,.mv (.tmp 5)⟩])
 (.cond (.tmp 4)
 (.seq
 (.ops [
 ⟨(some 6), none, (.bld [(.string ⟨#[]⟩), (.bool false), (.bool false), (.int .i64 0)] [(0, (1, (.const (.string ⟨#[108, 105]⟩)))), (1, (1, (.const (.bool true)))), (2, (1, (.const (.bool false)))), (3, (1, (.const (.int .i64 1))))])⟩,
⟨none,none,.sto true 4 (.tmp 2) (.tmp 6)⟩])
 .ret)
 (.seq
 (.ops [
 ⟨some 8,none,.bin .eql (.tmp 3) (.const (.int .i64 2))⟩,
⟨some 7,none,.mv (.tmp 8)⟩])
 (.cond (.tmp 7)
 (.seq
 (.ops [
 ⟨(some 9), none, (.bld [(.string ⟨#[]⟩), (.bool false), (.bool false), (.int .i64 0)] [(0, (1, (.const (.string ⟨#[108, 117, 105]⟩)))), (1, (1, (.const (.bool true)))), (2, (1, (.const (.bool false)))), (3, (1, (.const (.int .i64 1))))])⟩,
⟨none,none,.sto true 4 (.tmp 2) (.tmp 9)⟩])
 .ret)
 (.seq
 (.ops [
 ⟨some 11,none,.bin .eql (.tmp 3) (.const (.int .i64 3))⟩,
⟨some 10,none,.mv (.tmp 11)⟩])
 (.cond (.tmp 10)
 (.seq
 (.ops [
 ⟨(some 12), none, (.bld [(.string ⟨#[]⟩), (.bool false), (.bool false), (.int .i64 0)] [(0, (1, (.const (.string ⟨#[109, 111, 118]⟩)))), (1, (1, (.const (.bool true)))), (2, (1, (.const (.bool true)))), (3, (1, (.const (.int .i64 0))))])⟩,
⟨none,none,.sto true 4 (.tmp 2) (.tmp 12)⟩])
 .ret)
 (.seq
 (.ops [
 ⟨some 14,none,.bin .eql (.tmp 3) (.const (.int .i64 4))⟩,
⟨some 13,none,.mv (.tmp 14)⟩])
 (.cond (.tmp 13)
 (.seq
 (.ops [
 ⟨(some 15), none, (.bld [(.string ⟨#[]⟩), (.bool false), (.bool false), (.int .i64 0)] [(0, (1, (.const (.string ⟨#[97, 100, 100]⟩)))), (1, (1, (.const (.bool true)))), (2, (1, (.const (.bool true)))), (3, (1, (.const (.int .i64 2))))])⟩,
⟨none,none,.sto true 4 (.tmp 2) (.tmp 15)⟩])
 .ret)
 (.seq
 (.ops [
 ⟨some 17,none,.bin .eql (.tmp 3) (.const (.int .i64 5))⟩,
⟨some 16,none,.mv (.tmp 17)⟩])
 (.cond (.tmp 16)
 (.seq
 (.ops [
 ⟨(some 18), none, (.bld [(.string ⟨#[]⟩), (.bool false), (.bool false), (.int .i64 0)] [(0, (1, (.const (.string ⟨#[115, 117, 98]⟩)))), (1, (1, (.const (.bool true)))), (2, (1, (.const (.bool true)))), (3, (1, (.const (.int .i64 2))))])⟩,
⟨none,none,.sto true 4 (.tmp 2) (.tmp 18)⟩])
 .ret)
 (.seq
 (.ops [
 ⟨some 20,none,.bin .eql (.tmp 3) (.const (.int .i64 6))⟩,
⟨some 19,none,.mv (.tmp 20)⟩])
 (.cond (.tmp 19)
 (.seq
 (.ops [
 ⟨(some 21), none, (.bld [(.string ⟨#[]⟩), (.bool false), (.bool false), (.int .i64 0)] [(0, (1, (.const (.string ⟨#[109, 117, 108]⟩)))), (1, (1, (.const (.bool true)))), (2, (1, (.const (.bool true)))), (3, (1, (.const (.int .i64 2))))])⟩,
⟨none,none,.sto true 4 (.tmp 2) (.tmp 21)⟩])
 .ret)
 (.seq
 (.ops [
 ⟨some 23,none,.bin .eql (.tmp 3) (.const (.int .i64 7))⟩,
⟨some 22,none,.mv (.tmp 23)⟩])
 (.cond (.tmp 22)
 (.seq
 (.ops [
 ⟨(some 24), none, (.bld [(.string ⟨#[]⟩), (.bool false), (.bool false), (.int .i64 0)] [(0, (1, (.const (.string ⟨#[100, 105, 118]⟩)))), (1, (1, (.const (.bool true)))), (2, (1, (.const (.bool true)))), (3, (1, (.const (.int .i64 2))))])⟩,
⟨none,none,.sto true 4 (.tmp 2) (.tmp 24)⟩])
 .ret)
 (.seq
 (.ops [
 ⟨some 26,none,.bin .eql (.tmp 3) (.const (.int .i64 8))⟩,
⟨some 25,none,.mv (.tmp 26)⟩])
 (.cond (.tmp 25)
 (.seq
 (.ops [
 ⟨(some 27), none, (.bld [(.string ⟨#[]⟩), (.bool false), (.bool false), (.int .i64 0)] [(0, (1, (.const (.string ⟨#[109, 111, 100]⟩)))), (1, (1, (.const (.bool true)))), (2, (1, (.const (.bool true)))), (3, (1, (.const (.int .i64 2))))])⟩,
⟨none,none,.sto true 4 (.tmp 2) (.tmp 27)⟩])
 .ret)
 (.seq
 (.ops [
 ⟨some 29,none,.bin .eql (.tmp 3) (.const (.int .i64 9))⟩,
⟨some 28,none,.mv (.tmp 29)⟩])
 (.cond (.tmp 28)
 (.seq
 (.ops [
 ⟨(some 30), none, (.bld [(.string ⟨#[]⟩), (.bool false), (.bool false), (.int .i64 0)] [(0, (1, (.const (.string ⟨#[97, 110, 100]⟩)))), (1, (1, (.const (.bool true)))), (2, (1, (.const (.bool true)))), (3, (1, (.const (.int .i64 2))))])⟩,
⟨none,none,.sto true 4 (.tmp 2) (.tmp 30)⟩])
 .ret)
 (.seq
 (.ops [
 ⟨some 32,none,.bin .eql (.tmp 3) (.const (.int .i64 10))⟩,
⟨some 31,none,.mv (.tmp 32)⟩])
 (.cond (.tmp 31)
 (.seq
 (.ops [
 ⟨(some 33), none, (.bld [(.string ⟨#[]⟩), (.bool false), (.bool false), (.int .i64 0)] [(0, (1, (.const (.string ⟨#[111, 114]⟩)))), (1, (1, (.const (.bool true)))), (2, (1, (.const (.bool true)))), (3, (1, (.const (.int .i64 2))))])⟩,
⟨none,none,.sto true 4 (.tmp 2) (.tmp 33)⟩])
 .ret)
 (.seq
 (.ops [
 ⟨some 35,none,.bin .eql (.tmp 3) (.const (.int .i64 11))⟩,
⟨some 34,none,.mv (.tmp 35)⟩])
 (.cond (.tmp 34)
 (.seq
 (.ops [
 ⟨(some 36), none, (.bld [(.string ⟨#[]⟩), (.bool false), (.bool false), (.int .i64 0)] [(0, (1, (.const (.string ⟨#[120, 111, 114]⟩)))), (1, (1, (.const (.bool true)))), (2, (1, (.const (.bool true)))), (3, (1, (.const (.int .i64 2))))])⟩,
⟨none,none,.sto true 4 (.tmp 2) (.tmp 36)⟩])
 .ret)
 (.seq
 (.ops [
 ⟨some 38,none,.bin .eql (.tmp 3) (.const (.int .i64 12))⟩,
⟨some 37,none,.mv (.tmp 38)⟩])
 (.cond (.tmp 37)
 (.seq
 (.ops [
 ⟨(some 39), none, (.bld [(.string ⟨#[]⟩), (.bool false), (.bool false), (.int .i64 0)] [(0, (1, (.const (.string ⟨#[115, 104, 108]⟩)))), (1, (1, (.const (.bool true)))), (2, (1, (.const (.bool true)))), (3, (1, (.const (.int .i64 2))))])⟩,
⟨none,none,.sto true 4 (.tmp 2) (.tmp 39)⟩])
 .ret)
 (.seq
 (.ops [
 ⟨some 41,none,.bin .eql (.tmp 3) (.const (.int .i64 13))⟩,
⟨some 40,none,.mv (.tmp 41)⟩])
 (.cond (.tmp 40)
 (.seq
 (.ops [
 ⟨(some 42), none, (.bld [(.string ⟨#[]⟩), (.bool false), (.bool false), (.int .i64 0)] [(0, (1, (.const (.string ⟨#[115, 104, 114]⟩)))), (1, (1, (.const (.bool true)))), (2, (1, (.const (.bool true)))), (3, (1, (.const (.int .i64 2))))])⟩,
⟨none,none,.sto true 4 (.tmp 2) (.tmp 42)⟩])
 .ret)
 (.seq
 (.ops [
 ⟨some 44,none,.bin .eql (.tmp 3) (.const (.int .i64 14))⟩,
⟨some 43,none,.mv (.tmp 44)⟩])
 (.cond (.tmp 43)
 (.seq
 (.ops [
 ⟨(some 45), none, (.bld [(.string ⟨#[]⟩), (.bool false), (.bool false), (.int .i64 0)] [(0, (1, (.const (.string ⟨#[108, 116]⟩)))), (1, (1, (.const (.bool true)))), (2, (1, (.const (.bool true)))), (3, (1, (.const (.int .i64 2))))])⟩,
⟨none,none,.sto true 4 (.tmp 2) (.tmp 45)⟩])
 .ret)
 (.seq
 (.ops [
 ⟨some 47,none,.bin .eql (.tmp 3) (.const (.int .i64 15))⟩,
⟨some 46,none,.mv (.tmp 47)⟩])
 (.cond (.tmp 46)
 (.seq
 (.ops [
 ⟨(some 48), none, (.bld [(.string ⟨#[]⟩), (.bool false), (.bool false), (.int .i64 0)] [(0, (1, (.const (.string ⟨#[101, 113]⟩)))), (1, (1, (.const (.bool true)))), (2, (1, (.const (.bool true)))), (3, (1, (.const (.int .i64 2))))])⟩,
⟨none,none,.sto true 4 (.tmp 2) (.tmp 48)⟩])
 .ret)
 (.seq
 (.ops [
 ⟨some 50,none,.bin .eql (.tmp 3) (.const (.int .i64 16))⟩,
⟨some 49,none,.mv (.tmp 50)⟩])
 (.cond (.tmp 49)
 (.seq
 (.ops [
 ⟨(some 51), none, (.bld [(.string ⟨#[]⟩), (.bool false), (.bool false), (.int .i64 0)] [(0, (1, (.const (.string ⟨#[108, 100]⟩)))), (1, (1, (.const (.bool true)))), (2, (1, (.const (.bool true)))), (3, (1, (.const (.int .i64 1))))])⟩,
⟨none,none,.sto true 4 (.tmp 2) (.tmp 51)⟩])
 .ret)
 (.seq
 (.ops [
 ⟨some 53,none,.bin .eql (.tmp 3) (.const (.int .i64 17))⟩,
⟨some 52,none,.mv (.tmp 53)⟩])
 (.cond (.tmp 52)
 (.seq
 (.ops [
 ⟨(some 54), none, (.bld [(.string ⟨#[]⟩), (.bool false), (.bool false), (.int .i64 0)] [(0, (1, (.const (.string ⟨#[115, 116]⟩)))), (1, (1, (.const (.bool true)))), (2, (1, (.const (.bool true)))), (3, (1, (.const (.int .i64 1))))])⟩,
⟨none,none,.sto true 4 (.tmp 2) (.tmp 54)⟩])
 .ret)
 (.seq
 (.ops [
 ⟨some 56,none,.bin .eql (.tmp 3) (.const (.int .i64 18))⟩,
⟨some 55,none,.mv (.tmp 56)⟩])
 (.cond (.tmp 55)
 (.seq
 (.ops [
 ⟨(some 57), none, (.bld [(.string ⟨#[]⟩), (.bool false), (.bool false), (.int .i64 0)] [(0, (1, (.const (.string ⟨#[106, 109, 112]⟩)))), (1, (1, (.const (.bool false)))), (2, (1, (.const (.bool false)))), (3, (1, (.const (.int .i64 1))))])⟩,
⟨none,none,.sto true 4 (.tmp 2) (.tmp 57)⟩])
 .ret)
 (.seq
 (.ops [
 ⟨some 59,none,.bin .eql (.tmp 3) (.const (.int .i64 19))⟩,
⟨some 58,none,.mv (.tmp 59)⟩])
 (.cond (.tmp 58)
 (.seq
 (.ops [
 ⟨(some 60), none, (.bld [(.string ⟨#[]⟩), (.bool false), (.bool false), (.int .i64 0)] [(0, (1, (.const (.string ⟨#[106, 122]⟩)))), (1, (1, (.const (.bool true)))), (2, (1, (.const (.bool false)))), (3, (1, (.const (.int .i64 1))))])⟩,
⟨none,none,.sto true 4 (.tmp 2) (.tmp 60)⟩])
 .ret)
 (.seq
 (.ops [
 ⟨some 62,none,.bin .eql (.tmp 3) (.const (.int .i64 20))⟩,
⟨some 61,none,.mv (.tmp 62)⟩])
 (.cond (.tmp 61)
 (.seq
 (.ops [
 ⟨(some 63), none, (.bld [(.string ⟨#[]⟩), (.bool false), (.bool false), (.int .i64 0)] [(0, (1, (.const (.string ⟨#[106, 110, 122]⟩)))), (1, (1, (.const (.bool true)))), (2, (1, (.const (.bool false)))), (3, (1, (.const (.int .i64 1))))])⟩,
⟨none,none,.sto true 4 (.tmp 2) (.tmp 63)⟩])
 .ret)
 (.seq
 (.ops [
 ⟨some 65,none,.bin .eql (.tmp 3) (.const (.int .i64 21))⟩,
⟨some 64,none,.mv (.tmp 65)⟩])
 (.cond (.tmp 64)
 (.seq
 (.ops [
 ⟨(some 66), none, (.bld [(.string ⟨#[]⟩), (.bool false), (.bool false), (.int .i64 0)] [(0, (1, (.const (.string ⟨#[99, 97, 108, 108]⟩)))), (1, (1, (.const (.bool true)))), (2, (1, (.const (.bool false)))), (3, (1, (.const (.int .i64 1))))])⟩,
⟨none,none,.sto true 4 (.tmp 2) (.tmp 66)⟩])
 .ret)
 (.seq
 (.ops [
 ⟨some 68,none,.bin .eql (.tmp 3) (.const (.int .i64 22))⟩,
⟨some 67,none,.mv (.tmp 68)⟩])
 (.cond (.tmp 67)
 (.seq
 (.ops [
 ⟨(some 69), none, (.bld [(.string ⟨#[]⟩), (.bool false), (.bool false), (.int .i64 0)] [(0, (1, (.const (.string ⟨#[114, 101, 116]⟩)))), (1, (1, (.const (.bool true)))), (2, (1, (.const (.bool false)))), (3, (1, (.const (.int .i64 0))))])⟩,
⟨none,none,.sto true 4 (.tmp 2) (.tmp 69)⟩])
 .ret)
 (.seq
 (.ops [
 ⟨some 71,none,.bin .eql (.tmp 3) (.const (.int .i64 23))⟩,
⟨some 70,none,.mv (.tmp 71)⟩])
 (.cond (.tmp 70)
 (.seq
 (.ops [
 ⟨(some 72), none, (.bld [(.string ⟨#[]⟩), (.bool false), (.bool false), (.int .i64 0)] [(0, (1, (.const (.string ⟨#[103, 101, 116]⟩)))), (1, (1, (.const (.bool true)))), (2, (1, (.const (.bool false)))), (3, (1, (.const (.int .i64 0))))])⟩,
⟨none,none,.sto true 4 (.tmp 2) (.tmp 72)⟩])
 .ret)
 (.seq
 (.ops [
 ⟨some 74,none,.bin .eql (.tmp 3) (.const (.int .i64 24))⟩,
⟨some 73,none,.mv (.tmp 74)⟩])
 (.cond (.tmp 73)
 (.seq
 (.ops [
 ⟨(some 75), none, (.bld [(.string ⟨#[]⟩), (.bool false), (.bool false), (.int .i64 0)] [(0, (1, (.const (.string ⟨#[112, 117, 116]⟩)))), (1, (1, (.const (.bool true)))), (2, (1, (.const (.bool false)))), (3, (1, (.const (.int .i64 0))))])⟩,
⟨none,none,.sto true 4 (.tmp 2) (.tmp 75)⟩])
 .ret)
 (.seq
 (.ops [
 ⟨some 77,none,.bin .eql (.tmp 3) (.const (.int .i64 25))⟩,
⟨some 76,none,.mv (.tmp 77)⟩])
 (.cond (.tmp 76)
 (.seq
 (.ops [
 ⟨(some 78), none, (.bld [(.string ⟨#[]⟩), (.bool false), (.bool false), (.int .i64 0)] [(0, (1, (.const (.string ⟨#[99, 104, 107]⟩)))), (1, (1, (.const (.bool true)))), (2, (1, (.const (.bool false)))), (3, (1, (.const (.int .i64 1))))])⟩,
⟨none,none,.sto true 4 (.tmp 2) (.tmp 78)⟩])
 .ret)
 (.seq
 (.ops [
 ⟨some 80,none,.bin .eql (.tmp 3) (.const (.int .i64 26))⟩,
⟨some 79,none,.mv (.tmp 80)⟩])
 (.cond (.tmp 79)
 (.seq
 (.ops [
 ⟨(some 81), none, (.bld [(.string ⟨#[]⟩), (.bool false), (.bool false), (.int .i64 0)] [(0, (1, (.const (.string ⟨#[104, 97, 108, 116]⟩)))), (1, (1, (.const (.bool false)))), (2, (1, (.const (.bool false)))), (3, (1, (.const (.int .i64 0))))])⟩,
⟨none,none,.sto true 4 (.tmp 2) (.tmp 81)⟩])
 .ret)
 (.seq
 (.ops [
 ⟨some 83,none,.bin .eql (.tmp 3) (.const (.int .i64 27))⟩,
⟨some 82,none,.mv (.tmp 83)⟩])
 (.cond (.tmp 82)
 (.seq
 (.ops [
 ⟨(some 84), none, (.bld [(.string ⟨#[]⟩), (.bool false), (.bool false), (.int .i64 0)] [(0, (1, (.const (.string ⟨#[108, 100, 99]⟩)))), (1, (1, (.const (.bool true)))), (2, (1, (.const (.bool true)))), (3, (1, (.const (.int .i64 1))))])⟩,
⟨none,none,.sto true 4 (.tmp 2) (.tmp 84)⟩])
 .ret)
 .skip))))))))))))))))))))))))))))))))))))))))))))))))))))))))
 (.seq
 (.ops [
 ⟨(some 85), none, (.bld [(.string ⟨#[]⟩), (.bool false), (.bool false), (.int .i64 0)] [])⟩,
⟨none,none,.sto true 4 (.tmp 2) (.tmp 85)⟩])
 .ret)))
theorem f_inst_shapeOf : compF Try.prog 77 = some (86, c_inst_shapeOf, [(.cell 2 true 4)]) := by kernel_rfl
def c_inst_within : VC :=
 (.seq
 (.ops [
 ⟨some 6,none,.mv (.const (.bool false))⟩])
 (.seq
 (.seq
 (.ops [
 ⟨some 7,none,.mv (.tmp 2)⟩,
⟨some 8,none,.un .not (.tmp 7)⟩])
 (.cond (.tmp 8)
 (.seq
 (.ops [
 ⟨some 9,none,.mv (.tmp 0)⟩,
⟨some 10,none,.bin .eql (.tmp 9) (.const (.int .i64 0))⟩,
⟨some 6,none,.mv (.tmp 10)⟩])
 .ret)
 .skip))
 (.seq
 (.ops [
 ⟨some 11,none,.mv (.tmp 0)⟩,
⟨some 12,none,.bin .geq (.tmp 11) (.const (.int .i64 0))⟩,
⟨some 13,none,.mv (.tmp 12)⟩,
⟨some 14,some (13,true),.mv (.tmp 0)⟩,
⟨some 15,some (13,true),.mv (.tmp 1)⟩,
⟨some 16,some (13,true),.bin .leq (.tmp 14) (.tmp 15)⟩,
⟨some 17,none,.pick (.tmp 13) (.tmp 16) (.const (.bool false))⟩,
⟨some 6,none,.mv (.tmp 17)⟩])
 .ret)))
theorem f_inst_within : compF Try.prog 78 = some (18, c_inst_within, [.tmp 6]) := by kernel_rfl
def c_scref10_Code : VC :=
 (.seq
 (.ops [
 ⟨some 1,none,.box 38 (.tmp 0)⟩,
⟨some 2,none,.mv (.const (.slice none 0 0))⟩,
⟨some 3,none,.mv (.const (.slice none 0 0))⟩])
 (.seq
 (.ops [
 ⟨some 9,none,.fad 0 false 1 (.tmp 1)⟩,
⟨some 10,none,.ld false 1 (.tmp 9)⟩,
⟨some 11,none,.len (.tmp 10)⟩,
⟨some 12,none,.mk 86 4 32 [.int .i64 0,.int .i64 0,.int .i64 0,.int .i64 0] (.tmp 11) (.tmp 11)⟩,
⟨some 4,none,.mv (.tmp 12)⟩])
 (.seq
 (.ops [
 ⟨some 13,none,.fad 0 false 1 (.tmp 1)⟩,
⟨some 14,none,.ld false 1 (.tmp 13)⟩,
⟨some 15,none,.len (.tmp 14)⟩,
⟨some 16,none,.mk 4 1 1 [.bool false] (.tmp 15) (.tmp 15)⟩,
⟨some 5,none,.mv (.tmp 16)⟩])
 (.seq
 (.seq
 (.ops [
 ⟨some 6,none,.mv (.const (.int .i64 0))⟩])
 (.block 0
 (.loop
 (.seq
 (.seq
 (.ops [
 ⟨some 17,none,.mv (.tmp 6)⟩,
⟨some 18,none,.fad 0 false 1 (.tmp 1)⟩,
⟨some 19,none,.ld false 1 (.tmp 18)⟩,
⟨some 20,none,.len (.tmp 19)⟩,
⟨some 21,none,.bin .lss (.tmp 17) (.tmp 20)⟩])
 (.cond (.tmp 21)
 .skip
 (.exit 0)))
 (.seq
 (.block 1
 (.seq
 (.ops [
 ⟨some 25,none,.fad 0 false 1 (.tmp 1)⟩,
⟨some 26,none,.ld false 1 (.tmp 25)⟩,
⟨some 27,none,.mv (.tmp 6)⟩,
⟨some 28,none,.idx 1 (.tmp 26) (.tmp 27)⟩,
⟨some 29,none,.ld false 1 (.tmp 28)⟩,
⟨some 30,none,.call (.func 87) [.tmp 29]⟩,
⟨some 24,none,.mv (.tmp 30)⟩,
⟨some 31,none,.ext (.tmp 24) 0⟩,
⟨some 32,none,.ext (.tmp 24) 1⟩,
⟨some 7,none,.alc 86 [.int .i64 0,.int .i64 0,.int .i64 0,.int .i64 0]⟩,
⟨none,none,.sto true 4 (.tmp 7) (.tmp 31)⟩,
⟨some 8,none,.mv (.tmp 32)⟩])
 (.ops [
 ⟨some 33,none,.mv (.tmp 4)⟩,
⟨some 34,none,.mv (.tmp 6)⟩,
⟨some 35,none,.mv (.tmp 5)⟩,
⟨some 36,none,.mv (.tmp 6)⟩,
⟨some 37,none,.ld true 4 (.tmp 7)⟩,
⟨some 38,none,.mv (.tmp 8)⟩,
⟨some 39,none,.bin .eql (.tmp 38) (.const (.int .i64 0))⟩,
⟨some 40,none,.idx 4 (.tmp 33) (.tmp 34)⟩,
⟨none,none,.sto true 4 (.tmp 40) (.tmp 37)⟩,
⟨some 41,none,.idx 1 (.tmp 35) (.tmp 36)⟩,
⟨none,none,.sto false 1 (.tmp 41) (.tmp 39)⟩])))
 (.ops [
 ⟨some 22,none,.mv (.tmp 6)⟩,
⟨some 23,none,.bin .add (.tmp 22) (.const (.int .i64 1))⟩,
⟨some 6,none,.mv (.tmp 23)⟩]))))))
 (.seq
 (.ops [
 ⟨some 42,none,.mv (.tmp 4)⟩,
⟨some 43,none,.mv (.tmp 5)⟩,
⟨some 2,none,.mv (.tmp 42)⟩,
⟨some 3,none,.mv (.tmp 43)⟩])
 .ret)))))
theorem f_scref10_Code : compF Try.prog 79 = some (44, c_scref10_Code, [.tmp 2,.tmp 3]) := by kernel_rfl
def c_scref01_Bits : VC :=
 (.seq
 (.ops [
 ⟨some 2,none,.mv (.const (.slice none 0 0))⟩])
 (.seq
 (.ops [
 ⟨some 3,none,.mv (.const (.slice none 0 0))⟩])
 (.seq
 (.seq
 (.ops [
 ⟨some 4,none,.mv (.const (.int .i64 0))⟩])
 (.block 0
 (.loop
 (.seq
 (.seq
 (.ops [
 ⟨some 5,none,.mv (.tmp 4)⟩,
⟨some 6,none,.bin .lss (.tmp 5) (.const (.int .i64 32))⟩])
 (.cond (.tmp 6)
 .skip
 (.exit 0)))
 (.seq
 (.block 1
 (.seq
 (.ops [
 ⟨some 9,none,.mv (.tmp 3)⟩,
⟨some 10,none,.mv (.tmp 0)⟩,
⟨some 11,none,.bin .rem (.tmp 10) (.const (.int .u32 2))⟩,
⟨some 12,none,.conv .i64 (.tmp 11)⟩,
⟨some 13,none,.bsl 3 1 1 [.int .i64 0] [(0, (1, (.tmp 12)))]⟩,
⟨some 14,none,.app 3 1 8 (.tmp 9) (.tmp 13)⟩,
⟨some 3,none,.mv (.tmp 14)⟩])
 (.ops [
 ⟨some 15,none,.mv (.tmp 0)⟩,
⟨some 16,none,.bin .quo (.tmp 15) (.const (.int .u32 2))⟩,
⟨some 0,none,.mv (.tmp 16)⟩])))
 (.ops [
 ⟨some 7,none,.mv (.tmp 4)⟩,
⟨some 8,none,.bin .add (.tmp 7) (.const (.int .i64 1))⟩,
⟨some 4,none,.mv (.tmp 8)⟩]))))))
 (.seq
 (.ops [
 ⟨some 17,none,.mv (.tmp 3)⟩,
⟨some 2,none,.mv (.tmp 17)⟩])
 .ret))))
theorem f_scref01_Bits : compF Try.prog 84 = some (18, c_scref01_Bits, [.tmp 2]) := by kernel_rfl
def c_scref01_Of : VC :=
 (.seq
 (.ops [
 ⟨some 2,none,.mv (.const (.int .u32 0))⟩])
 (.seq
 (.ops [
 ⟨some 3,none,.mv (.const (.int .u64 0))⟩])
 (.seq
 (.seq
 (.ops [
 ⟨some 5,none,.mv (.tmp 0)⟩,
⟨some 6,none,.len (.tmp 5)⟩,
⟨some 7,none,.bin .sub (.tmp 6) (.const (.int .i64 1))⟩,
⟨some 4,none,.mv (.tmp 7)⟩])
 (.block 0
 (.loop
 (.seq
 (.seq
 (.ops [
 ⟨some 8,none,.mv (.tmp 4)⟩,
⟨some 9,none,.bin .geq (.tmp 8) (.const (.int .i64 0))⟩])
 (.cond (.tmp 9)
 .skip
 (.exit 0)))
 (.seq
 (.block 1
 (.ops [
 ⟨some 12,none,.mv (.tmp 3)⟩,
⟨some 13,none,.bin .mul (.const (.int .u64 2)) (.tmp 12)⟩,
⟨some 14,none,.mv (.tmp 0)⟩,
⟨some 15,none,.mv (.tmp 4)⟩,
⟨some 16,none,.idx 1 (.tmp 14) (.tmp 15)⟩,
⟨some 17,none,.ld false 1 (.tmp 16)⟩,
⟨some 18,none,.conv .u64 (.tmp 17)⟩,
⟨some 19,none,.bin .add (.tmp 13) (.tmp 18)⟩,
⟨some 3,none,.mv (.tmp 19)⟩]))
 (.ops [
 ⟨some 10,none,.mv (.tmp 4)⟩,
⟨some 11,none,.bin .sub (.tmp 10) (.const (.int .i64 1))⟩,
⟨some 4,none,.mv (.tmp 11)⟩]))))))
 (.seq
 (.ops [
 ⟨some 20,none,.mv (.tmp 3)⟩,
⟨some 21,none,.bin .rem (.tmp 20) (.const (.int .u64 4294967296))⟩,
⟨some 22,none,.conv .u32 (.tmp 21)⟩,
⟨some 2,none,.mv (.tmp 22)⟩])
 .ret))))
theorem f_scref01_Of : compF Try.prog 85 = some (23, c_scref01_Of, [.tmp 2]) := by kernel_rfl
def c_stack_count : VC :=
 (.seq
 (.ops [
 ⟨some 2,none,.mv (.const (.int .i64 0))⟩])
 (.seq
 (.seq
 (.ops [
 ⟨some 3,none,.mv (.tmp 0)⟩])
 (.cond (.tmp 3)
 (.seq
 (.ops [
 ⟨some 2,none,.mv (.const (.int .i64 1))⟩])
 .ret)
 .skip))
 (.seq
 (.ops [
 ⟨some 2,none,.mv (.const (.int .i64 0))⟩])
 .ret)))
theorem f_stack_count : compF Try.prog 86 = some (4, c_stack_count, [.tmp 2]) := by kernel_rfl
def c_scref07_Decode : VC :=
 (.seq
 (.ops [
 ⟨some 2,none,.alc 86 [.int .i64 0,.int .i64 0,.int .i64 0,.int .i64 0]⟩,
⟨some 3,none,.mv (.const (.int .i64 0))⟩])
 (.seq
 (.ops [
 ⟨some 5,none,.mv (.tmp 0)⟩,
⟨some 6,none,.bin .quo (.tmp 5) (.const (.int .u32 16777216))⟩,
⟨some 7,none,.conv .i64 (.tmp 6)⟩,
⟨some 8,none,.mv (.tmp 0)⟩,
⟨some 9,none,.bin .quo (.tmp 8) (.const (.int .u32 1048576))⟩,
⟨some 10,none,.bin .rem (.tmp 9) (.const (.int .u32 16))⟩,
⟨some 11,none,.conv .i64 (.tmp 10)⟩,
⟨some 12,none,.mv (.tmp 0)⟩,
⟨some 13,none,.bin .quo (.tmp 12) (.const (.int .u32 65536))⟩,
⟨some 14,none,.bin .rem (.tmp 13) (.const (.int .u32 16))⟩,
⟨some 15,none,.conv .i64 (.tmp 14)⟩,
⟨some 16,none,.mv (.tmp 0)⟩,
⟨some 17,none,.bin .rem (.tmp 16) (.const (.int .u32 65536))⟩,
⟨some 18,none,.conv .i64 (.tmp 17)⟩,
⟨some 19,none,.bld [.int .i64 0,.int .i64 0,.int .i64 0,.int .i64 0] [(0, (1, (.tmp 7))), (1, (1, (.tmp 11))), (2, (1, (.tmp 15))), (3, (1, (.tmp 18)))]⟩,
⟨some 4,none,.alc 86 [.int .i64 0,.int .i64 0,.int .i64 0,.int .i64 0]⟩,
⟨none,none,.sto true 4 (.tmp 4) (.tmp 19)⟩])
 (.seq
 (.seq
 (.ops [
 ⟨some 20,none,.ld true 4 (.tmp 4)⟩,
⟨some 21,none,.call (.func 92) [.tmp 20]⟩,
⟨some 22,none,.un .not (.tmp 21)⟩])
 (.cond (.tmp 22)
 (.seq
 (.ops [
 ⟨some 23,none,.bld [.int .i64 0,.int .i64 0,.int .i64 0,.int .i64 0] []⟩,
⟨none,none,.sto true 4 (.tmp 2) (.tmp 23)⟩,
⟨some 3,none,.mv (.const (.int .i64 7))⟩])
 .ret)
 .skip))
 (.seq
 (.ops [
 ⟨some 24,none,.ld true 4 (.tmp 4)⟩,
⟨none,none,.sto true 4 (.tmp 2) (.tmp 24)⟩,
⟨some 3,none,.mv (.const (.int .i64 0))⟩])
 .ret))))
theorem f_scref07_Decode : compF Try.prog 87 = some (25, c_scref07_Decode, [(.cell 2 true 4), (.tmp 3)]) := by kernel_rfl
def c_scref10_work_set : VC :=
 (.seq
 (.ops [
 ⟨some 6,none,.mv (.tmp 0)⟩,
⟨some 7,none,.mv (.tmp 1)⟩,
⟨some 8,none,.mv (.tmp 2)⟩,
⟨some 9,none,.nck (.tmp 6)⟩,
⟨some 10,none,.fad 0 true 22 (.tmp 9)⟩,
⟨some 11,none,.fad 1 true 16 (.tmp 10)⟩,
⟨some 12,none,.aidx 16 false 1 (.tmp 11) (.tmp 7)⟩,
⟨none,none,.sto false 1 (.tmp 12) (.tmp 8)⟩])
 (.ops [
 ⟨some 13,none,.mv (.tmp 0)⟩,
⟨some 14,none,.nck (.tmp 13)⟩,
⟨some 15,none,.fad 0 true 22 (.tmp 14)⟩,
⟨some 16,none,.fad 0 false 1 (.tmp 15)⟩,
⟨some 17,none,.ld false 1 (.tmp 16)⟩,
⟨some 18,none,.bin .add (.tmp 17) (.const (.int .i64 1))⟩,
⟨some 19,none,.nck (.tmp 13)⟩,
⟨some 20,none,.fad 0 true 22 (.tmp 19)⟩,
⟨some 21,none,.fad 0 false 1 (.tmp 20)⟩,
⟨none,none,.sto false 1 (.tmp 21) (.tmp 18)⟩]))
theorem f_scref10_work_set : compF Try.prog 88 = some (22, c_scref10_work_set, []) := by kernel_rfl
def c_scref10_fetch : VC :=
 (.seq
 (.ops [
 ⟨some 6,none,.mv (.const (.int .u32 0))⟩,
⟨some 7,none,.mv (.const (.bool false))⟩])
 (.seq
 (.ops [
 ⟨some 9,none,.mv (.tmp 1)⟩,
⟨some 10,none,.mv (.tmp 2)⟩,
⟨some 11,none,.conv .u32 (.tmp 10)⟩,
⟨some 12,none,.bin .add (.tmp 9) (.tmp 11)⟩,
⟨some 8,none,.mv (.tmp 12)⟩])
 (.seq
 (.seq
 (.ops [
 ⟨some 13,none,.mv (.tmp 8)⟩,
⟨some 14,none,.conv .u64 (.tmp 13)⟩,
⟨some 15,none,.mv (.tmp 0)⟩,
⟨some 16,none,.len (.tmp 15)⟩,
⟨some 17,none,.conv .u64 (.tmp 16)⟩,
⟨some 18,none,.bin .geq (.tmp 14) (.tmp 17)⟩])
 (.cond (.tmp 18)
 (.seq
 (.ops [
 ⟨some 6,none,.mv (.const (.int .u32 0))⟩,
⟨some 7,none,.mv (.const (.bool false))⟩])
 .ret)
 .skip))
 (.seq
 (.ops [
 ⟨some 19,none,.mv (.tmp 0)⟩,
⟨some 20,none,.mv (.tmp 8)⟩,
⟨some 21,none,.idx 1 (.tmp 19) (.tmp 20)⟩,
⟨some 22,none,.ld false 1 (.tmp 21)⟩,
⟨some 6,none,.mv (.tmp 22)⟩,
⟨some 7,none,.mv (.const (.bool true))⟩])
 .ret))))
theorem f_scref10_fetch : compF Try.prog 89 = some (23, c_scref10_fetch, [.tmp 6,.tmp 7]) := by kernel_rfl
def c_scref10_work_jump : VC :=
 (.seq
 (.ops [
 ⟨some 6,none,.mv (.tmp 1)⟩])
 (.cond (.tmp 6)
 (.ops [
 ⟨some 7,none,.mv (.tmp 0)⟩,
⟨some 8,none,.mv (.tmp 2)⟩,
⟨some 9,none,.nck (.tmp 7)⟩,
⟨some 10,none,.fad 0 true 22 (.tmp 9)⟩,
⟨some 11,none,.fad 0 false 1 (.tmp 10)⟩,
⟨none,none,.sto false 1 (.tmp 11) (.tmp 8)⟩])
 (.ops [
 ⟨some 12,none,.mv (.tmp 0)⟩,
⟨some 13,none,.nck (.tmp 12)⟩,
⟨some 14,none,.fad 0 true 22 (.tmp 13)⟩,
⟨some 15,none,.fad 0 false 1 (.tmp 14)⟩,
⟨some 16,none,.ld false 1 (.tmp 15)⟩,
⟨some 17,none,.bin .add (.tmp 16) (.const (.int .i64 1))⟩,
⟨some 18,none,.nck (.tmp 12)⟩,
⟨some 19,none,.fad 0 true 22 (.tmp 18)⟩,
⟨some 20,none,.fad 0 false 1 (.tmp 19)⟩,
⟨none,none,.sto false 1 (.tmp 20) (.tmp 17)⟩])))
theorem f_scref10_work_jump : compF Try.prog 90 = some (21, c_scref10_work_jump, []) := by kernel_rfl
def c_scref07_Right : VC :=
 (.seq
 (.ops [
 ⟨some 1,none,.box 86 (.tmp 0)⟩,
⟨some 2,none,.mv (.const (.bool false))⟩])
 (.seq
 (.ops [
 ⟨some 5,none,.fad 0 false 1 (.tmp 1)⟩,
⟨some 6,none,.ld false 1 (.tmp 5)⟩,
⟨some 7,none,.call (.func 93) [.tmp 6]⟩,
⟨some 3,none,.mv (.tmp 7)⟩])
 (.seq
 (.ops [
 ⟨some 4,none,.mv (.const (.int .i64 65535))⟩])
 (.seq
 (.seq
 (.ops [
 ⟨some 8,none,.mv (.tmp 3)⟩,
⟨some 9,none,.call (.func 94) [(.tmp 8), (.const (.int .u8 114))]⟩])
 (.cond (.tmp 9)
 (.ops [
 ⟨some 4,none,.mv (.const (.int .i64 15))⟩])
 .skip))
 (.seq
 (.par false (.one ⟨some 10,none,.mv (.tmp 3)⟩ (.one ⟨(some 11), none, (.bin .neq (.tmp 10) (.const (.string ⟨#[63]⟩)))⟩ (.one ⟨some 12,none,.mv (.tmp 11)⟩ (.one ⟨some 13,some (12,true),.mv (.tmp 3)⟩ (.one ⟨some 14,some (12,true),.call (.func 94) [(.tmp 13), (.const (.int .u8 97))]⟩ (.one ⟨some 15,some (12,true),.fad 1 false 1 (.tmp 1)⟩ (.one ⟨some 16,some (12,true),.ld false 1 (.tmp 15)⟩ (.one ⟨some 17,some (12,true),.call (.func 95) [(.tmp 14), (.tmp 16), (.const (.int .i64 15))]⟩ (.one ⟨some 18,none,.pick (.tmp 12) (.tmp 17) (.const (.bool false))⟩ (.one ⟨some 19,none,.mv (.tmp 18)⟩ (.one ⟨some 20,some (19,true),.mv (.tmp 3)⟩ (.one ⟨some 21,some (19,true),.call (.func 94) [(.tmp 20), (.const (.int .u8 98))]⟩ (.one ⟨some 22,some (19,true),.fad 2 false 1 (.tmp 1)⟩ (.one ⟨some 23,some (19,true),.ld false 1 (.tmp 22)⟩ (.one ⟨some 24,some (19,true),.call (.func 95) [(.tmp 21), (.tmp 23), (.const (.int .i64 15))]⟩ (.one ⟨some 25,none,.pick (.tmp 19) (.tmp 24) (.const (.bool false))⟩ (.one ⟨some 26,none,.mv (.tmp 25)⟩ (.one ⟨some 27,some (26,true),.mv (.tmp 3)⟩ (.one ⟨some 28,some (26,true),.call (.func 94) [(.tmp 27), (.const (.int .u8 99))]⟩ (.one ⟨some 29,some (26,true),.mv (.tmp 28)⟩ (.one ⟨some 30,some (29,false),.mv (.tmp 3)⟩ (.one ⟨some 31,some (29,false),.call (.func 94) [(.tmp 30), (.const (.int .u8 114))]⟩ (.one ⟨some 32,some (26,true),.pick (.tmp 29) (.const (.bool true)) (.tmp 31)⟩ (.one ⟨some 33,some (26,true),.fad 3 false 1 (.tmp 1)⟩ (.one ⟨some 34,some (26,true),.ld false 1 (.tmp 33)⟩ (.one ⟨some 35,some (26,true),.mv (.tmp 4)⟩ (.one ⟨some 36,some (26,true),.call (.func 95) [.tmp 32,.tmp 34,.tmp 35]⟩ (.one ⟨some 37,none,.pick (.tmp 26) (.tmp 36) (.const (.bool false))⟩ (.one ⟨some 2,none,.mv (.tmp 37)⟩ .done))))))))))))))))))))))))))))))
 .ret)))))
theorem f_scref07_Right : compF Try.prog 92 = some (38, c_scref07_Right, [.tmp 2]) := by kernel_rfl
def c_scref07_Parts : VC :=
 (.seq
 (.ops [
 ⟨(some 2), none, (.mv (.const (.string ⟨#[]⟩)))⟩])
 (.seq
 (.seq
 (.ops [
 ⟨some 3,none,.mv (.tmp 0)⟩])
 (.block 0
 (.seq
 (.seq
 (.ops [
 ⟨some 5,none,.bin .eql (.tmp 3) (.const (.int .i64 1))⟩,
⟨some 4,none,.mv (.tmp 5)⟩])
 (.cond (.tmp 4)
 .skip
 (.seq
 (.ops [
 ⟨some 6,none,.bin .eql (.tmp 3) (.const (.int .i64 2))⟩,
⟨some 4,none,.mv (.tmp 6)⟩])
 (.cond (.tmp 4)
 .skip
 (.seq
 (.ops [
 ⟨some 7,none,.bin .eql (.tmp 3) (.const (.int .i64 19))⟩,
⟨some 4,none,.mv (.tmp 7)⟩])
 (.cond (.tmp 4)
 .skip
 (.seq
 (.ops [
 ⟨some 8,none,.bin .eql (.tmp 3) (.const (.int .i64 20))⟩,
⟨some 4,none,.mv (.tmp 8)⟩])
 (.cond (.tmp 4)
 .skip
 (.seq
 (.ops [
 ⟨some 9,none,.bin .eql (.tmp 3) (.const (.int .i64 21))⟩,
⟨some 4,none,.mv (.tmp 9)⟩])
 (.cond (.tmp 4)
 .skip
 (.ops [
 ⟨some 10,none,.bin .eql (.tmp 3) (.const (.int .i64 25))⟩,
⟨some 4,none,.mv (.tmp 10)⟩])))))))))))
 (.cond (.tmp 4)
 (.seq
 (.ops [
 ⟨(some 2), none, (.mv (.const (.string ⟨#[97, 99]⟩)))⟩])
 .ret)
 (.seq
 (.ops [
 ⟨some 12,none,.bin .eql (.tmp 3) (.const (.int .i64 3))⟩,
⟨some 11,none,.mv (.tmp 12)⟩])
 (.cond (.tmp 11)
 (.seq
 (.ops [
 ⟨(some 2), none, (.mv (.const (.string ⟨#[97, 98]⟩)))⟩])
 .ret)
 (.seq
 (.seq
 (.ops [
 ⟨some 14,none,.bin .eql (.tmp 3) (.const (.int .i64 16))⟩,
⟨some 13,none,.mv (.tmp 14)⟩])
 (.cond (.tmp 13)
 .skip
 (.seq
 (.ops [
 ⟨some 15,none,.bin .eql (.tmp 3) (.const (.int .i64 17))⟩,
⟨some 13,none,.mv (.tmp 15)⟩])
 (.cond (.tmp 13)
 .skip
 (.ops [
 ⟨some 16,none,.bin .eql (.tmp 3) (.const (.int .i64 27))⟩,
⟨some 13,none,.mv (.tmp 16)⟩])))))
 (.cond (.tmp 13)
 (.seq
 (.ops [
 ⟨(some 2), none, (.mv (.const (.string ⟨#[97, 98, 99]⟩)))⟩])
 .ret)
 (.seq
 (.ops [
 ⟨some 18,none,.bin .eql (.tmp 3) (.const (.int .i64 18))⟩,
⟨some 17,none,.mv (.tmp 18)⟩])
 (.cond (.tmp 17)
 (.seq
 (.ops [
 ⟨(some 2), none, (.mv (.const (.string ⟨#[99]⟩)))⟩])
 .ret)
 (.seq
 (.seq
 (.ops [
 ⟨some 20,none,.bin .eql (.tmp 3) (.const (.int .i64 22))⟩,
⟨some 19,none,.mv (.tmp 20)⟩])
 (.cond (.tmp 19)
 .skip
 (.seq
 (.ops [
 ⟨some 21,none,.bin .eql (.tmp 3) (.const (.int .i64 23))⟩,
⟨some 19,none,.mv (.tmp 21)⟩])
 (.cond (.tmp 19)
 .skip
 (.ops [
 ⟨some 22,none,.bin .eql (.tmp 3) (.const (.int .i64 24))⟩,
⟨some 19,none,.mv (.tmp 22)⟩])))))
 (.cond (.tmp 19)
 (.seq
 (.ops [
 ⟨(some 2), none, (.mv (.const (.string ⟨#[97]⟩)))⟩])
 .ret)
 (.seq
 (.ops [
 ⟨some 24,none,.bin .eql (.tmp 3) (.const (.int .i64 26))⟩,
⟨some 23,none,.mv (.tmp 24)⟩])
 (.cond (.tmp 23)
 (.seq
 (.ops [
 ⟨(some 2), none, (.mv (.const (.string ⟨#[]⟩)))⟩])
 .ret)
 .skip))))))))))))))
 (.seq
 (.seq
 (.ops [
 ⟨some 25,none,.mv (.tmp 0)⟩,
⟨some 26,none,.bin .geq (.tmp 25) (.const (.int .i64 4))⟩,
⟨some 27,none,.mv (.tmp 26)⟩,
⟨some 28,some (27,true),.mv (.tmp 0)⟩,
⟨some 29,some (27,true),.bin .leq (.tmp 28) (.const (.int .i64 15))⟩,
⟨some 30,none,.pick (.tmp 27) (.tmp 29) (.const (.bool false))⟩])
 (.cond (.tmp 30)
 (.seq
 (.ops [
 ⟨(some 2), none, (.mv (.const (.string ⟨#[97, 98, 114]⟩)))⟩])
 .ret)
 .skip))
 (.seq
 (.ops [
 ⟨(some 2), none, (.mv (.const (.string ⟨#[63]⟩)))⟩])
 .ret))))
theorem f_scref07_Parts : compF Try.prog 93 = some (31, c_scref07_Parts, [.tmp 2]) := by kernel_rfl
def c_scref07_has : VC :=
 (.seq
 (.ops [
 ⟨some 4,none,.mv (.const (.bool false))⟩])
 (.seq
 (.seq
 (.ops [
 ⟨some 5,none,.mv (.const (.int .i64 0))⟩])
 (.block 0
 (.loop
 (.seq
 (.seq
 (.ops [
 ⟨some 6,none,.mv (.tmp 5)⟩,
⟨some 7,none,.mv (.tmp 0)⟩,
⟨some 8,none,.lens (.tmp 7)⟩,
⟨some 9,none,.bin .lss (.tmp 6) (.tmp 8)⟩])
 (.cond (.tmp 9)
 .skip
 (.exit 0)))
 (.seq
 (.block 1
 (.seq
 (.ops [
 ⟨some 12,none,.mv (.tmp 0)⟩,
⟨some 13,none,.mv (.tmp 5)⟩,
⟨some 14,none,.pur .six [.tmp 12,.tmp 13]⟩,
⟨some 15,none,.mv (.tmp 1)⟩,
⟨some 16,none,.bin .eql (.tmp 14) (.tmp 15)⟩])
 (.cond (.tmp 16)
 (.seq
 (.ops [
 ⟨some 4,none,.mv (.const (.bool true))⟩])
 .ret)
 .skip)))
 (.ops [
 ⟨some 10,none,.mv (.tmp 5)⟩,
⟨some 11,none,.bin .add (.tmp 10) (.const (.int .i64 1))⟩,
⟨some 5,none,.mv (.tmp 11)⟩]))))))
 (.seq
 (.ops [
 ⟨some 4,none,.mv (.const (.bool false))⟩])
 .ret)))
theorem f_scref07_has : compF Try.prog 94 = some (17, c_scref07_has, [.tmp 4]) := by kernel_rfl
def c_scref07_within : VC :=
 (.seq
 (.ops [
 ⟨some 6,none,.mv (.const (.bool false))⟩])
 (.seq
 (.seq
 (.ops [
 ⟨some 7,none,.mv (.tmp 0)⟩,
⟨some 8,none,.un .not (.tmp 7)⟩])
 (.cond (.tmp 8)
 (.seq
 (.ops [
 ⟨some 9,none,.mv (.tmp 1)⟩,
⟨some 10,none,.bin .eql (.tmp 9) (.const (.int .i64 0))⟩,
⟨some 6,none,.mv (.tmp 10)⟩])
 .ret)
 .skip))
 (.seq
 (.ops [
 ⟨some 11,none,.mv (.tmp 1)⟩,
⟨some 12,none,.bin .geq (.tmp 11) (.const (.int .i64 0))⟩,
⟨some 13,none,.mv (.tmp 12)⟩,
⟨some 14,some (13,true),.mv (.tmp 1)⟩,
⟨some 15,some (13,true),.mv (.tmp 2)⟩,
⟨some 16,some (13,true),.bin .leq (.tmp 14) (.tmp 15)⟩,
⟨some 17,none,.pick (.tmp 13) (.tmp 16) (.const (.bool false))⟩,
⟨some 6,none,.mv (.tmp 17)⟩])
 .ret)))
theorem f_scref07_within : compF Try.prog 95 = some (18, c_scref07_within, [.tmp 6]) := by kernel_rfl
theorem hmix : Try.prog.follows .mixedOrders = true := by kernel_rfl
end Go.Proofs.Ytaedcpipilnpcaa
