/-
  The functions of this seat, made small by the program: each is what the engine makes of the function of that number. No condition.
-/
import Derived.Test.YtkbhfokbhkmfgaaUCode
import Derived.KernelRfl
set_option linter.unusedVariables false
set_option linter.unusedSimpArgs false
namespace Go.Proofs.Ytkbhfokbhkmfgaa
open Go.V
open Z
def c_sclaw29_ChooseLong:VC:=(.seq (.ops [o 6 false]) (.seq (.seq (.ops [c0 16 9,⟨some 17,none,
 .un .not (.tmp 16)⟩]) (.cond (.tmp 17) (.seq (.ops [o 6 false]) .ret) .skip)) (.seq (.ops [m 18 0,⟨some 19,none,.conv .i64 (.tmp 18)⟩,b 20 .rem 19 990,⟨some 21,none,
 .bin .add (.const (.int .i64 4)) (.tmp 20)⟩,m 7 21]) (.seq (.ops [m 22 1,⟨some 23,none,.conv .i64 (.tmp 22)⟩,b 24 .rem 23 8000,⟨some 25,none,
 .bin .add (.const (.int .i64 1)) (.tmp 24)⟩,⟨some 26,none,.bld [.int .i64 0,.slice none 0 0] [(0,(1,(.tmp 25)))]⟩,⟨some 8,none,.alc 24 [.int .i64 0,.slice none 0 0]⟩,
 S 2 8 26]) (.seq (.ops [⟨some 27,none,.bld [.int .i64 0,.slice none 0 0] [(0,(1,(.const (.int .i64 3))))]⟩,⟨some 9,none,.alc 52 [.int .i64 0,.slice none 0 0]⟩,
 S 2 9 27]) (.seq (.ops [⟨some 10,none,.mv (.const (.slice none 0 0))⟩]) (.seq (.seq (.ops [i 11 0]) (.block 0 (.loop (.seq (.seq (.ops [m 28 11,m 29 7,b 30 .sub 29 2,
 B 31 .lss 28 30]) (.cond (.tmp 31) .skip (.exit 0))) (.seq (.block 1 (.seq (.ops [m 34 11,b 35 .rem 34 4]) (.block 2 (.seq (.ops [b 41 .eql 35 0,
 m 40 41]) (.cond (.tmp 40) (.ops [m 42 10,m 43 11,b 44 .rem 43 3,m 45 2,⟨some 46,none,.bld [.int .i64 0,.int .i64 0,.int .i64 0,.int .i64 0,.int .i64 0,.int .i64 0,.int .i64 0,
 .int .u32 0] [(0,(1,(.const (.int .i64 1)))),(1,(1,(.tmp 44))),(7,(1,(.tmp 45)))]⟩,⟨some 47,none,.bsl 47 8 1 [.int .i64 0,.int .i64 0,.int .i64 0,.int .i64 0,.int .i64 0,
 .int .i64 0,.int .i64 0,.int .u32 0] [(0,(8,(.tmp 46)))]⟩,⟨some 48,none,.app 47 8 64 (.tmp 42) (.tmp 47)⟩,m 10 48]) (.seq (.ops [b 50 .eql 35 1,
 m 49 50]) (.cond (.tmp 49) (.ops [m 51 10,f 52 0 1 8,l 53 1 52,b 54 .sub 53 1,⟨some 55,none,.bld [.int .i64 0,.int .i64 0,.int .i64 0,.int .i64 0,.int .i64 0,.int .i64 0,
 .int .i64 0,.int .u32 0] [(0,(1,(.const (.int .i64 5)))),(2,(1,(.const (.int .i64 0)))),(5,(1,(.tmp 54)))]⟩,⟨some 56,none,.bsl 47 8 1 [.int .i64 0,.int .i64 0,.int .i64 0,
 .int .i64 0,.int .i64 0,.int .i64 0,.int .i64 0,.int .u32 0] [(0,(8,(.tmp 55)))]⟩,⟨some 57,none,.app 47 8 64 (.tmp 51) (.tmp 56)⟩,m 10 57]) (.seq (.ops [b 59 .eql 35 2,
 m 58 59]) (.cond (.tmp 58) (.ops [m 60 10,⟨some 61,none,.bld [.int .i64 0,.int .i64 0,.int .i64 0,.int .i64 0,.int .i64 0,.int .i64 0,.int .i64 0,.int .u32 0] [(0,(1,
 (.const (.int .i64 3)))),(4,(1,(.const (.int .i64 11)))),(1,(1,(.const (.int .i64 2)))),(2,(1,(.const (.int .i64 0)))),(3,(1,(.const (.int .i64 1))))]⟩,⟨some 62,none,
 .bsl 47 8 1 [.int .i64 0,.int .i64 0,.int .i64 0,.int .i64 0,.int .i64 0,.int .i64 0,.int .i64 0,.int .u32 0] [(0,(8,(.tmp 61)))]⟩,⟨some 63,none,.app 47 8 64 (.tmp 60) (.tmp 62)⟩,
 m 10 63]) (.ops [m 36 10,⟨some 37,none,.bld [.int .i64 0,.int .i64 0,.int .i64 0,.int .i64 0,.int .i64 0,.int .i64 0,.int .i64 0,.int .u32 0] [(0,(1,(.const (.int .i64 9)))),(2,(1,
 (.const (.int .i64 2))))]⟩,⟨some 38,none,.bsl 47 8 1 [.int .i64 0,.int .i64 0,.int .i64 0,.int .i64 0,.int .i64 0,.int .i64 0,.int .i64 0,.int .u32 0] [(0,(8,(.tmp 37)))]⟩,
 ⟨some 39,none,.app 47 8 64 (.tmp 36) (.tmp 38)⟩,m 10 39])))))))))) (.ops [m 32 11,b 33 .add 32 1,m 11 33])))))) (.seq (.ops [m 64 10,⟨some 65,none,.bld [.slice none 0 0,
 .int .i64 0,.int .i64 0,.int .i64 0,.int .i64 0] [(0,(1,(.tmp 64))),(1,(1,(.const (.int .i64 1)))),(3,(1,(.const (.int .i64 1))))]⟩,⟨some 66,none,.bld [.slice none 0 0,.int .i64 0,
 .int .i64 0,.int .i64 0,.int .i64 0] [(1,(1,(.const (.int .i64 3))))]⟩,⟨some 67,none,.bsl 49 5 2 [.slice none 0 0,.int .i64 0,.int .i64 0,.int .i64 0,.int .i64 0,.slice none 0 0,
 .int .i64 0,.int .i64 0,.int .i64 0,.int .i64 0] [(0,(5,(.tmp 65))),(5,(5,(.tmp 66)))]⟩,f 68 1 1 9,s 1 68 67]) (.seq (.ops [L 69 2 9,⟨some 70,none,.bsl 52 2 1 [.int .i64 0,
 .slice none 0 0] [(0,(2,(.tmp 69)))]⟩,f 71 1 1 8,s 1 71 70]) (.seq (.ops [L 72 2 8,c1 73 17 72,m 12 73]) (.seq (.ops [L 75 2 8,m 76 12,c2 77 11 75 76,m 74 77,e 78 74 0,e 79 74 1,
 ⟨some 13,none,.alc 30 [.slice none 0 0,.int .i64 0]⟩,S 2 13 78,m 14 79]) (.seq (.ops [L 80 2 8,⟨(some 81),none,(.call (.func 13) [(.tmp 80),(.const (.string ⟨#[]⟩)),
 (.const (.int .i64 4000))])⟩,⟨(some 15),none,(.alc 36 [(.int .i64 0),(.string ⟨#[]⟩),(.int .i64 0)])⟩,
 S 3 15 81]) (.seq (.par false (.one (L 82 2 8) (.one (c1 83 19 82) (.one (m 84 83) (.one ⟨some 85,some (84,true),.ld true 2 (.tmp 8)⟩ (.one ⟨some 86,some (84,true),
 .call (.func 21) [.tmp 85]⟩ (.one ⟨some 87,some (84,true),.bin .leq (.tmp 86) (.const (.int .i64 1000))⟩ (.one ⟨some 88,none,
 .pick (.tmp 84) (.tmp 87) (.const (.bool false))⟩ (.one (m 89 88) (.one ⟨some 90,some (89,true),.mv (.tmp 14)⟩ (.one ⟨some 91,some (89,true),
 .bin .eql (.tmp 90) (.const (.int .i64 0))⟩ (.one ⟨some 92,none,.pick (.tmp 89) (.tmp 91) (.const (.bool false))⟩ (.one (m 93 92) (.one ⟨some 94,some (93,true),
 .ld true 2 (.tmp 13)⟩ (.one ⟨some 95,some (93,true),.ld true 2 (.tmp 8)⟩ (.one ⟨some 96,some (93,true),.mv (.tmp 12)⟩ (.one ⟨some 97,some (93,true),
 .fad 2 false 1 (.tmp 15)⟩ (.one ⟨some 98,some (93,true),.ld false 1 (.tmp 97)⟩ (.one ⟨some 99,some (93,true),.call (.func 16) [.tmp 95,.tmp 96,.tmp 98]⟩ (.one ⟨(some 100),
 (some (93,true)),(.call (.func 15) [(.tmp 94),(.const (.string ⟨#[]⟩)),(.tmp 99)])⟩ (.one ⟨some 101,some (93,true),.ld true 3 (.tmp 15)⟩ (.one ⟨some 102,some (93,true),
 .call (.func 14) [.tmp 100,.tmp 101]⟩ (.one ⟨some 103,none,.pick (.tmp 93) (.tmp 102) (.const (.bool false))⟩ (.one (m 6 103) .done)))))))))))))))))))))))) .ret)))))))))))))
theorem f_sclaw29_ChooseLong : compF Try.prog 6 = some (104, c_sclaw29_ChooseLong, [.tmp 6]) := by kernel_rfl
def c_scref29_Plain:VC:=(.seq (.ops [X 1 24 0,⟨some 2,none,.mv (.const (.slice none 0 0))⟩]) (.seq (.ops [⟨some 3,none,
 .mv (.const (.slice none 0 0))⟩]) (.seq (.seq (.ops [i 4 0]) (.block 0 (.loop (.seq (.seq (.ops [m 7 4,f 8 1 1 1,l 9 1 8,n 10 9,
 B 11 .lss 7 10]) (.cond (.tmp 11) .skip (.exit 0))) (.seq (.block 1 (.seq (.ops [⟨some 5,none,
 .alc 55 [.slice none 0 0]⟩]) (.seq (.seq (.ops [i 6 0]) (.block 2 (.loop (.seq (.seq (.ops [m 14 6,f 15 1 1 1,l 16 1 15,m 17 4,x 18 2 16 17,f 19 0 1 18,l 20 1 19,
 B 21 .lss 14 20]) (.cond (.tmp 21) .skip (.exit 2))) (.seq (.block 3 (.ops [f 24 0 1 5,l 25 1 24,m 26 6,⟨some 27,none,.bin .sub (.const (.int .i64 (-1))) (.tmp 26)⟩,⟨some 28,none,
 .bsl 3 1 1 [.int .i64 0] [(0,(1,(.tmp 27)))]⟩,⟨some 29,none,.app 3 1 8 (.tmp 25) (.tmp 28)⟩,f 30 0 1 5,s 1 30 29])) (.ops [m 22 6,b 23 .add 22 1,m 6 23])))))) (.ops [m 31 3,
 L 32 1 5,⟨some 33,none,.bsl 55 1 1 [.slice none 0 0] [(0,(1,(.tmp 32)))]⟩,⟨some 34,none,.app 55 1 24 (.tmp 31) (.tmp 33)⟩,m 3 34])))) (.ops [m 12 4,b 13 .add 12 1,
 m 4 13])))))) (.seq (.ops [m 35 3,m 2 35]) .ret))))
theorem f_scref29_Plain : compF Try.prog 17 = some (36, c_scref29_Plain, [.tmp 2]) := by kernel_rfl
def c_scref24_Size:VC:=(.seq (.ops [X 1 24 0,i 2 0]) (.seq (.ops [i 3 0]) (.seq (.seq (.ops [i 4 0]) (.block 0 (.loop (.seq (.seq (.ops [m 5 4,f 6 1 1 1,l 7 1 6,n 8 7,
 B 9 .lss 5 8]) (.cond (.tmp 9) .skip (.exit 0))) (.seq (.block 1 (.ops [m 12 3,f 13 1 1 1,l 14 1 13,m 15 4,x 16 2 14 15,L 17 2 16,c1 18 39 17,B 19 .add 12 18,
 m 3 19])) (.ops [m 10 4,b 11 .add 10 1,m 4 11])))))) (.seq (.ops [m 20 3,m 2 20]) .ret))))
theorem f_scref24_Size : compF Try.prog 21 = some (21, c_scref24_Size, [.tmp 2]) := by kernel_rfl
def c_scref24_SizeFunc:VC:=(.seq (.ops [X 1 52 0,i 2 0]) (.seq (.ops [f 5 1 1 1,l 6 1 5,n 7 6,m 3 7]) (.seq (.seq (.ops [i 4 0]) (.block 0 (.loop (.seq (.seq (.ops [m 8 4,
 f 9 1 1 1,l 10 1 9,n 11 10,B 12 .lss 8 11]) (.cond (.tmp 12) .skip (.exit 0))) (.seq (.block 1 (.ops [m 15 3,f 16 1 1 1,l 17 1 16,m 18 4,x 19 5 17 18,f 20 0 1 19,l 21 1 20,n 22 21,
 B 23 .add 15 22,m 3 23])) (.ops [m 13 4,b 14 .add 13 1,m 4 14])))))) (.seq (.ops [m 24 3,m 2 24]) .ret))))
theorem f_scref24_SizeFunc : compF Try.prog 39 = some (25, c_scref24_SizeFunc, [.tmp 2]) := by kernel_rfl
end Go.Proofs.Ytkbhfokbhkmfgaa
