/-
  The functions of this seat, made small by the program: each is what the engine makes of the function of that number. No condition.
-/
import Derived.Test.YtkbhfokbhkmfgaaUCode
import Derived.KernelRfl
set_option linter.unusedVariables false
set_option linter.unusedSimpArgs false
namespace Go.Proofs.Ytkbhfokbhkmfgaa
open Go.V
open Z
def c_sclaw29_ChooseZeros:VC:=(.seq (.ops [o 6 false]) (.seq (.seq (.ops [c0 26 9,⟨some 27,none,
 .un .not (.tmp 26)⟩]) (.cond (.tmp 27) (.seq (.ops [o 6 false]) .ret) .skip)) (.seq (.ops [m 28 0,⟨some 29,none,.conv .i64 (.tmp 28)⟩,b 30 .rem 29 8,⟨some 31,none,
 .bin .add (.const (.int .i64 1)) (.tmp 30)⟩,m 32 1,⟨some 33,none,.conv .i64 (.tmp 32)⟩,b 34 .rem 33 5,⟨some 35,none,.bin .add (.const (.int .i64 1)) (.tmp 34)⟩,m 7 31,
 m 8 35]) (.seq (.ops [⟨some 9,none,.mv (.const (.slice none 0 0))⟩]) (.seq (.ops [⟨(some 10),none,
 (.mv (.const (.string ⟨#[]⟩)))⟩]) (.seq (.seq (.ops [i 11 0]) (.block 0 (.loop (.seq (.seq (.ops [m 36 11,m 37 7,
 B 38 .lss 36 37]) (.cond (.tmp 38) .skip (.exit 0))) (.seq (.block 1 (.ops [m 41 9,m 42 11,⟨some 43,none,.bld [.int .i64 0,.int .i64 0,.int .i64 0,.int .i64 0,.int .i64 0,
 .int .i64 0,.int .i64 0,.int .u32 0] [(0,(1,(.const (.int .i64 9)))),(2,(1,(.tmp 42)))]⟩,⟨some 44,none,.bsl 47 8 1 [.int .i64 0,.int .i64 0,.int .i64 0,.int .i64 0,.int .i64 0,
 .int .i64 0,.int .i64 0,.int .u32 0] [(0,(8,(.tmp 43)))]⟩,⟨some 45,none,.app 47 8 64 (.tmp 41) (.tmp 44)⟩,m 9 45])) (.ops [m 39 11,b 40 .add 39 1,
 m 11 40])))))) (.seq (.seq (.ops [i 12 0]) (.block 2 (.loop (.seq (.seq (.ops [m 46 12,m 47 7,B 48 .lss 46 47]) (.cond (.tmp 48) .skip (.exit 2))) (.seq (.block 3 (.ops [m 51 9,
 m 52 12,⟨some 53,none,.bld [.int .i64 0,.int .i64 0,.int .i64 0,.int .i64 0,.int .i64 0,.int .i64 0,.int .i64 0,.int .u32 0] [(0,(1,(.const (.int .i64 1)))),(1,(1,(.tmp 52))),(7,
 (1,(.const (.int .u32 7))))]⟩,⟨some 54,none,.bsl 47 8 1 [.int .i64 0,.int .i64 0,.int .i64 0,.int .i64 0,.int .i64 0,.int .i64 0,.int .i64 0,.int .u32 0] [(0,(8,(.tmp 53)))]⟩,
 ⟨some 55,none,.app 47 8 64 (.tmp 51) (.tmp 54)⟩,m 9 55])) (.ops [m 49 12,b 50 .add 49 1,m 12 50])))))) (.seq (.ops [m 56 7,⟨some 57,none,.bld [.int .i64 0,.int .i64 0,.int .i64 0,
 .int .i64 0,.int .i64 0,.int .i64 0,.int .i64 0,.int .u32 0] [(0,(1,(.const (.int .i64 4)))),(1,(1,(.tmp 56)))]⟩,m 58 7,b 59 .add 58 1,⟨some 60,none,.bld [.int .i64 0,.int .i64 0,
 .int .i64 0,.int .i64 0,.int .i64 0,.int .i64 0,.int .i64 0,.int .u32 0] [(0,(1,(.const (.int .i64 1)))),(1,(1,(.tmp 59))),(7,(1,(.const (.int .u32 1))))]⟩,m 61 7,b 62 .add 61 2,
 m 63 7,m 64 7,b 65 .add 64 1,⟨some 66,none,.bld [.int .i64 0,.int .i64 0,.int .i64 0,.int .i64 0,.int .i64 0,.int .i64 0,.int .i64 0,.int .u32 0] [(0,(1,(.const (.int .i64 3)))),
 (4,(1,(.const (.int .i64 15)))),(1,(1,(.tmp 62))),(2,(1,(.tmp 63))),(3,(1,(.tmp 65)))]⟩,m 67 7,b 68 .add 67 1,⟨some 69,none,.bld [.int .i64 0,.int .i64 0,.int .i64 0,.int .i64 0,
 .int .i64 0,.int .i64 0,.int .i64 0,.int .u32 0] [(0,(1,(.const (.int .i64 5)))),(2,(1,(.tmp 68)))]⟩,⟨some 70,none,.bsl 47 8 4 [.int .i64 0,.int .i64 0,.int .i64 0,.int .i64 0,
 .int .i64 0,.int .i64 0,.int .i64 0,.int .u32 0,.int .i64 0,.int .i64 0,.int .i64 0,.int .i64 0,.int .i64 0,.int .i64 0,.int .i64 0,.int .u32 0,.int .i64 0,.int .i64 0,.int .i64 0,
 .int .i64 0,.int .i64 0,.int .i64 0,.int .i64 0,.int .u32 0,.int .i64 0,.int .i64 0,.int .i64 0,.int .i64 0,.int .i64 0,.int .i64 0,.int .i64 0,.int .u32 0] [(0,(8,(.tmp 57))),(8,
 (8,(.tmp 60))),(16,(8,(.tmp 66))),(24,(8,(.tmp 69)))]⟩,m 13 70]) (.seq (.ops [m 71 7,b 72 .add 71 3,⟨some 73,none,.bsl 47 8 0 [] []⟩,m 74 9,⟨some 75,none,
 .app 47 8 64 (.tmp 73) (.tmp 74)⟩,m 76 13,⟨some 77,none,.app 47 8 64 (.tmp 75) (.tmp 76)⟩,m 78 7,b 79 .add 78 2,⟨some 80,none,.bld [.slice none 0 0,.int .i64 0,.int .i64 0,
 .int .i64 0,.int .i64 0] [(0,(1,(.tmp 77))),(1,(1,(.const (.int .i64 2)))),(2,(1,(.tmp 79))),(3,(1,(.const (.int .i64 1))))]⟩,⟨some 81,none,.bld [.slice none 0 0,.int .i64 0,
 .int .i64 0,.int .i64 0,.int .i64 0] [(1,(1,(.const (.int .i64 3))))]⟩,⟨some 82,none,.bsl 49 5 2 [.slice none 0 0,.int .i64 0,.int .i64 0,.int .i64 0,.int .i64 0,.slice none 0 0,
 .int .i64 0,.int .i64 0,.int .i64 0,.int .i64 0] [(0,(5,(.tmp 80))),(5,(5,(.tmp 81)))]⟩,⟨some 83,none,.bld [.int .i64 0,.slice none 0 0] [(0,(1,(.tmp 72))),(1,(1,(.tmp 82)))]⟩,
 ⟨some 14,none,.alc 52 [.int .i64 0,.slice none 0 0]⟩,S 2 14 83]) (.seq (.ops [⟨some 15,none,
 .mv (.const (.slice none 0 0))⟩]) (.seq (.seq (.ops [i 16 0]) (.block 4 (.loop (.seq (.seq (.ops [m 84 16,m 85 8,
 B 86 .lss 84 85]) (.cond (.tmp 86) .skip (.exit 4))) (.seq (.block 5 (.seq (.ops [m 89 15,⟨some 90,none,.bld [.int .i64 0,.int .i64 0,.int .i64 0,.int .i64 0,.int .i64 0,
 .int .i64 0,.int .i64 0,.int .u32 0] [(0,(1,(.const (.int .i64 1))))]⟩,⟨some 91,none,.bld [.int .i64 0,.int .i64 0,.int .i64 0,.int .i64 0,.int .i64 0,.int .i64 0,.int .i64 0,
 .int .u32 0] [(0,(1,(.const (.int .i64 5))))]⟩,⟨some 92,none,.bld [.int .i64 0,.int .i64 0,.int .i64 0,.int .i64 0,.int .i64 0,.int .i64 0,.int .i64 0,.int .u32 0] [(0,(1,
 (.const (.int .i64 10))))]⟩,⟨some 93,none,.bsl 47 8 3 [.int .i64 0,.int .i64 0,.int .i64 0,.int .i64 0,.int .i64 0,.int .i64 0,.int .i64 0,.int .u32 0,.int .i64 0,.int .i64 0,
 .int .i64 0,.int .i64 0,.int .i64 0,.int .i64 0,.int .i64 0,.int .u32 0,.int .i64 0,.int .i64 0,.int .i64 0,.int .i64 0,.int .i64 0,.int .i64 0,.int .i64 0,.int .u32 0] [(0,(8,
 (.tmp 90))),(8,(8,(.tmp 91))),(16,(8,(.tmp 92)))]⟩,⟨some 94,none,.app 47 8 64 (.tmp 89) (.tmp 93)⟩,m 15 94]) (.seq (.ops [i 17 0]) (.block 6 (.loop (.seq (.seq (.ops [m 95 17,
 m 96 7,⟨some 97,none,.bin .mul (.const (.int .i64 2)) (.tmp 96)⟩,B 98 .lss 95 97]) (.cond (.tmp 98) .skip (.exit 6))) (.seq (.block 7 (.seq (.ops [m 101 17,m 102 7,
 B 103 .lss 101 102]) (.cond (.tmp 103) (.ops [m 104 10,⟨(some 105),none,(.bin .add (.tmp 104) (.const (.string ⟨#[0]⟩)))⟩,m 10 105]) (.ops [m 106 10,⟨(some 107),none,
 (.bin .add (.tmp 106) (.const (.string ⟨#[7]⟩)))⟩,m 10 107])))) (.ops [m 99 17,b 100 .add 99 1,m 17 100])))))))) (.ops [m 87 16,b 88 .add 87 1,
 m 16 88])))))) (.seq (.ops [L 108 2 14,m 109 15,⟨some 110,none,.bld [.slice none 0 0,.int .i64 0,.int .i64 0,.int .i64 0,.int .i64 0] [(0,(1,(.tmp 109))),(1,(1,
 (.const (.int .i64 3))))]⟩,⟨some 111,none,.bsl 49 5 1 [.slice none 0 0,.int .i64 0,.int .i64 0,.int .i64 0,.int .i64 0] [(0,(5,(.tmp 110)))]⟩,⟨some 112,none,.bld [.int .i64 0,
 .slice none 0 0] [(0,(1,(.const (.int .i64 1)))),(1,(1,(.tmp 111)))]⟩,⟨some 113,none,.bsl 52 2 2 [.int .i64 0,.slice none 0 0,.int .i64 0,.slice none 0 0] [(0,(2,(.tmp 108))),(2,
 (2,(.tmp 112)))]⟩,⟨some 114,none,.bld [.int .i64 0,.slice none 0 0] [(0,(1,(.const (.int .i64 1)))),(1,(1,(.tmp 113)))]⟩,⟨some 18,none,.alc 24 [.int .i64 0,.slice none 0 0]⟩,
 S 2 18 114]) (.seq (.ops [⟨some 19,none,.alc 55 [.slice none 0 0]⟩]) (.seq (.seq (.ops [i 20 0]) (.block 8 (.loop (.seq (.seq (.ops [m 115 20,m 116 7,b 117 .add 116 3,
 B 118 .lss 115 117]) (.cond (.tmp 118) .skip (.exit 8))) (.seq (.block 9 (.seq (.ops [m 121 20,b 122 .add 121 1,m 21 122]) (.seq (.seq (.ops [m 123 2,m 124 123,⟨some 125,some (124,
 false),.mv (.tmp 21)⟩,⟨some 126,some (124,false),.bin .gtr (.tmp 125) (.const (.int .i64 8))⟩,⟨some 127,none,
 .pick (.tmp 124) (.const (.bool true)) (.tmp 126)⟩]) (.cond (.tmp 127) (.ops [m 128 20,⟨some 129,none,.bin .sub (.const (.int .i64 (-1))) (.tmp 128)⟩,
 m 21 129]) .skip)) (.ops [f 130 0 1 19,l 131 1 130,m 132 21,⟨some 133,none,.bsl 3 1 1 [.int .i64 0] [(0,(1,(.tmp 132)))]⟩,⟨some 134,none,.app 3 1 8 (.tmp 131) (.tmp 133)⟩,
 f 135 0 1 19,s 1 135 134])))) (.ops [m 119 20,b 120 .add 119 1,m 20 120])))))) (.seq (.ops [L 136 1 19,⟨some 137,none,.bsl 3 1 1 [.int .i64 0] [(0,(1,(.const (.int .i64 1))))]⟩,
 ⟨some 138,none,.bld [.slice none 0 0] [(0,(1,(.tmp 137)))]⟩,⟨some 139,none,.bsl 55 1 2 [.slice none 0 0,.slice none 0 0] [(0,(1,(.tmp 136))),(1,(1,(.tmp 138)))]⟩,
 m 22 139]) (.seq (.seq (.ops [L 140 2 18,c1 141 19 140,⟨some 142,none,.un .not (.tmp 141)⟩,m 143 142,⟨some 144,some (143,false),.ld true 2 (.tmp 18)⟩,⟨some 145,some (143,false),
 .mv (.tmp 22)⟩,⟨some 146,some (143,false),.call (.func 20) [.tmp 144,.tmp 145]⟩,⟨some 147,some (143,false),.un .not (.tmp 146)⟩,⟨some 148,none,
 .pick (.tmp 143) (.const (.bool true)) (.tmp 147)⟩]) (.cond (.tmp 148) (.seq (.ops [o 6 false]) .ret) .skip)) (.seq (.ops [L 150 2 18,m 151 22,c2 152 11 150 151,m 149 152,
 e 153 149 0,e 154 149 1,⟨some 23,none,.alc 30 [.slice none 0 0,.int .i64 0]⟩,S 2 23 153,m 24 154]) (.seq (.ops [L 155 2 18,⟨(some 156),none,(.call (.func 13) [(.tmp 155),
 (.const (.string ⟨#[]⟩)),(.const (.int .i64 4000))])⟩,⟨(some 25),none,(.alc 36 [(.int .i64 0),(.string ⟨#[]⟩),(.int .i64 0)])⟩,
 S 3 25 156]) (.seq (.par false (.one (m 157 24) (.one (b 158 .eql 157 0) (.one (m 159 158) (.one ⟨some 160,some (159,true),.fad 1 false 1 (.tmp 25)⟩ (.one ⟨some 161,some (159,
 true),.ld false 1 (.tmp 160)⟩ (.one ⟨some 162,some (159,true),.mv (.tmp 10)⟩ (.one ⟨some 163,some (159,true),.bin .eql (.tmp 161) (.tmp 162)⟩ (.one ⟨some 164,none,
 .pick (.tmp 159) (.tmp 163) (.const (.bool false))⟩ (.one (m 165 164) (.one ⟨some 166,some (165,true),.ld true 2 (.tmp 23)⟩ (.one ⟨some 167,some (165,true),
 .ld true 2 (.tmp 18)⟩ (.one ⟨some 168,some (165,true),.mv (.tmp 22)⟩ (.one ⟨some 169,some (165,true),.fad 2 false 1 (.tmp 25)⟩ (.one ⟨some 170,some (165,true),
 .ld false 1 (.tmp 169)⟩ (.one ⟨some 171,some (165,true),.call (.func 16) [.tmp 167,.tmp 168,.tmp 170]⟩ (.one ⟨(some 172),(some (165,true)),(.call (.func 15) [(.tmp 166),
 (.const (.string ⟨#[]⟩)),(.tmp 171)])⟩ (.one ⟨some 173,some (165,true),.ld true 3 (.tmp 25)⟩ (.one ⟨some 174,some (165,true),.call (.func 14) [.tmp 172,.tmp 173]⟩ (.one ⟨some 175,
 none,.pick (.tmp 165) (.tmp 174) (.const (.bool false))⟩ (.one (m 6 175) .done))))))))))))))))))))) .ret)))))))))))))))))))
theorem f_sclaw29_ChooseZeros : compF Try.prog 5 = some (176, c_sclaw29_ChooseZeros, [.tmp 6]) := by kernel_rfl
def c_scref29_Hold:VC:=(.seq (.ops [X 2 24 0,o 4 false]) (.seq (.seq (.ops [m 6 1,n 7 6,f 8 1 1 2,l 9 1 8,n 10 9,
 B 11 .neq 7 10]) (.cond (.tmp 11) (.seq (.ops [o 4 false]) .ret) .skip)) (.seq (.seq (.ops [i 5 0]) (.block 0 (.loop (.seq (.seq (.ops [m 12 5,m 13 1,n 14 13,
 B 15 .lss 12 14]) (.cond (.tmp 15) .skip (.exit 0))) (.seq (.block 1 (.seq (.par false (.one (f 18 1 1 2) (.one (l 19 1 18) (.one (m 20 5) (.one (x 21 2 19 20) (.one (L 22 2 21) (.one (f 23 1 1 2) (.one (l 24 1 23) (.one (m 25 5) (.one (x 26 2 24 25) (.one (L 27 2 26) (.one (c1 28 24 27) (.one (m 29 1) (.one (m 30 5) (.one (x 31 1 29 30) (.one (L 32 1 31) (.one ⟨some 33,
 none,.call (.func 38) [(.tmp 22),(.tmp 28),(.tmp 32),(.const (.int .i64 8))]⟩ (.one ⟨some 34,none,
 .un .not (.tmp 33)⟩ .done)))))))))))))))))) (.cond (.tmp 34) (.seq (.ops [o 4 false]) .ret) .skip))) (.ops [m 16 5,b 17 .add 16 1,m 5 17])))))) (.seq (.ops [o 4 true]) .ret))))
theorem f_scref29_Hold : compF Try.prog 20 = some (35, c_scref29_Hold, [.tmp 4]) := by kernel_rfl
def c_scref27_Of:VC:=(.seq (.ops [X 1 52 0,⟨some 2,none,.alc 63 [.slice none 0 0,.slice none 0 0]⟩]) (.seq (.ops [f 12 1 1 1,l 13 1 12,n 14 13,
 m 3 14]) (.seq (.par true (.one (m 15 3) (.one (f 16 0 1 1) (.one (l 17 1 16) (.one (m 19 3) (.one (f 20 0 1 1) (.both (.one ⟨some 18,none,.callM true (.func 45) [.tmp 15,
 .tmp 17]⟩ (.one (l 21 1 20) (.both (.one ⟨some 22,none,.callM true (.func 45) [.tmp 19,.tmp 21]⟩ (.one ⟨some 23,none,.bld [.slice none 0 0,.slice none 0 0] [(0,(1,(.tmp 18))),(1,
 (1,(.tmp 22)))]⟩ (.one ⟨some 4,none,.alc 63 [.slice none 0 0,.slice none 0 0]⟩ (.one (S 2 4 23) .done)))) (.one ⟨some 4,none,.alc 63 [.slice none 0 0,
 .slice none 0 0]⟩ (.one ⟨some 22,none,.callM true (.func 45) [.tmp 19,.tmp 21]⟩ (.one ⟨some 23,none,.bld [.slice none 0 0,.slice none 0 0] [(0,(1,(.tmp 18))),(1,(1,
 (.tmp 22)))]⟩ (.one (S 2 4 23) .done))))))) (.both (.one (l 21 1 20) (.both (.one ⟨some 18,none,.callM true (.func 45) [.tmp 15,.tmp 17]⟩ (.both (.one ⟨some 22,none,
 .callM true (.func 45) [.tmp 19,.tmp 21]⟩ (.one ⟨some 23,none,.bld [.slice none 0 0,.slice none 0 0] [(0,(1,(.tmp 18))),(1,(1,(.tmp 22)))]⟩ (.one ⟨some 4,none,
 .alc 63 [.slice none 0 0,.slice none 0 0]⟩ (.one (S 2 4 23) .done)))) (.one ⟨some 4,none,.alc 63 [.slice none 0 0,.slice none 0 0]⟩ (.one ⟨some 22,none,
 .callM true (.func 45) [.tmp 19,.tmp 21]⟩ (.one ⟨some 23,none,.bld [.slice none 0 0,.slice none 0 0] [(0,(1,(.tmp 18))),(1,(1,
 (.tmp 22)))]⟩ (.one (S 2 4 23) .done)))))) (.one ⟨some 4,none,.alc 63 [.slice none 0 0,.slice none 0 0]⟩ (.one ⟨some 18,none,.callM true (.func 45) [.tmp 15,
 .tmp 17]⟩ (.one ⟨some 22,none,.callM true (.func 45) [.tmp 19,.tmp 21]⟩ (.one ⟨some 23,none,.bld [.slice none 0 0,.slice none 0 0] [(0,(1,(.tmp 18))),(1,(1,
 (.tmp 22)))]⟩ (.one (S 2 4 23) .done))))))) (.one ⟨some 4,none,.alc 63 [.slice none 0 0,.slice none 0 0]⟩ (.both (.one ⟨some 18,none,.callM true (.func 45) [.tmp 15,
 .tmp 17]⟩ (.one (l 21 1 20) (.one ⟨some 22,none,.callM true (.func 45) [.tmp 19,.tmp 21]⟩ (.one ⟨some 23,none,.bld [.slice none 0 0,.slice none 0 0] [(0,(1,(.tmp 18))),(1,(1,
 (.tmp 22)))]⟩ (.one (S 2 4 23) .done))))) (.one (l 21 1 20) (.one ⟨some 18,none,.callM true (.func 45) [.tmp 15,.tmp 17]⟩ (.one ⟨some 22,none,.callM true (.func 45) [.tmp 19,
 .tmp 21]⟩ (.one ⟨some 23,none,.bld [.slice none 0 0,.slice none 0 0] [(0,(1,(.tmp 18))),(1,(1,(.tmp 22)))]⟩ (.one (S 2 4 23) .done))))))))))))))) (.seq (.ops [L 24 2 1,c1 25 46 24,
 m 5 25]) (.seq (.seq (.ops [o 6 true]) (.block 0 (.loop (.seq (.seq (.ops [m 26 6]) (.cond (.tmp 26) .skip (.exit 0))) (.block 1 (.seq (.ops [o 6 false]) (.seq (.ops [m 27 3,
 b 28 .sub 27 1,m 7 28]) (.block 2 (.loop (.seq (.seq (.ops [m 29 7,
 b 30 .geq 29 0]) (.cond (.tmp 30) .skip (.exit 2))) (.seq (.block 3 (.seq (.seq (.ops [i 8 0]) (.block 4 (.loop (.seq (.seq (.ops [m 33 8,m 34 5,m 35 7,x 36 1 34 35,l 37 1 36,
 n 38 37,B 39 .lss 33 38]) (.cond (.tmp 39) .skip (.exit 4))) (.seq (.block 5 (.seq (.ops [i 9 0]) (.block 6 (.loop (.seq (.seq (.ops [m 42 9,f 43 0 1 1,l 44 1 43,
 B 45 .lss 42 44]) (.cond (.tmp 45) .skip (.exit 6))) (.seq (.block 7 (.ops [f 48 1 1 4,l 49 1 48,m 50 7,x 51 1 49 50,l 52 1 51,m 53 9,f 54 1 1 4,l 55 1 54,m 56 7,x 57 1 55 56,
 l 58 1 57,m 59 9,x 60 1 58 59,l 61 1 60,m 62 61,⟨some 63,some (62,false),.fad 0 false 1 (.tmp 4)⟩,⟨some 64,some (62,false),.ld false 1 (.tmp 63)⟩,⟨some 65,some (62,false),
 .mv (.tmp 5)⟩,⟨some 66,some (62,false),.mv (.tmp 7)⟩,⟨some 67,some (62,false),.idx 1 (.tmp 65) (.tmp 66)⟩,⟨some 68,some (62,false),.ld false 1 (.tmp 67)⟩,⟨some 69,some (62,false),
 .mv (.tmp 8)⟩,⟨some 70,some (62,false),.idx 1 (.tmp 68) (.tmp 69)⟩,⟨some 71,some (62,false),.ld false 1 (.tmp 70)⟩,⟨some 72,some (62,false),.idx 1 (.tmp 64) (.tmp 71)⟩,⟨some 73,
 some (62,false),.ld false 1 (.tmp 72)⟩,⟨some 74,some (62,false),.mv (.tmp 9)⟩,⟨some 75,some (62,false),.idx 1 (.tmp 73) (.tmp 74)⟩,⟨some 76,some (62,false),.ld false 1 (.tmp 75)⟩,
 ⟨some 77,none,.pick (.tmp 62) (.const (.bool true)) (.tmp 76)⟩,x 78 1 52 53,s 1 78 77])) (.ops [m 46 9,b 47 .add 46 1,m 9 47]))))))) (.ops [m 40 8,b 41 .add 40 1,
 m 8 41])))))) (.seq (.ops [f 79 1 1 1,l 80 1 79,m 81 7,x 82 5 80 81,L 83 5 82,f 84 1 1 4,l 85 1 84,m 86 7,x 87 1 85 86,l 88 1 87,c2 89 47 83 88,
 m 10 89]) (.seq (.ops [i 11 0]) (.block 8 (.loop (.seq (.seq (.ops [m 90 11,f 91 0 1 1,l 92 1 91,
 B 93 .lss 90 92]) (.cond (.tmp 93) .skip (.exit 8))) (.seq (.block 9 (.seq (.ops [m 96 10,m 97 11,x 98 1 96 97,l 99 1 98,m 100 99,⟨some 101,some (100,true),
 .fad 0 false 1 (.tmp 4)⟩,⟨some 102,some (100,true),.ld false 1 (.tmp 101)⟩,⟨some 103,some (100,true),.mv (.tmp 7)⟩,⟨some 104,some (100,true),.idx 1 (.tmp 102) (.tmp 103)⟩,
 ⟨some 105,some (100,true),.ld false 1 (.tmp 104)⟩,⟨some 106,some (100,true),.mv (.tmp 11)⟩,⟨some 107,some (100,true),.idx 1 (.tmp 105) (.tmp 106)⟩,⟨some 108,some (100,true),
 .ld false 1 (.tmp 107)⟩,⟨some 109,some (100,true),.un .not (.tmp 108)⟩,⟨some 110,none,
 .pick (.tmp 100) (.tmp 109) (.const (.bool false))⟩]) (.cond (.tmp 110) (.seq (.ops [f 111 0 1 4,l 112 1 111,m 113 7,x 114 1 112 113,l 115 1 114,m 116 11,x 117 1 115 116,⟨none,
 none,.sto false 1 (.tmp 117) (.const (.bool true))⟩]) (.ops [o 6 true])) .skip))) (.ops [m 94 11,b 95 .add 94 1,m 11 95]))))))))) (.ops [m 31 7,b 32 .sub 31 1,
 m 7 32])))))))))))) (.seq (.ops [L 118 2 4,S 2 2 118]) .ret))))))
theorem f_scref27_Of : compF Try.prog 24 = some (119, c_scref27_Of, [(.cell 2 true 2)]) := by kernel_rfl
def c_scref27_Behind:VC:=(.seq (.ops [X 3 52 0,X 4 63 1,⟨some 6,none,.mv (.const (.slice none 0 0))⟩]) (.seq (.ops [f 11 1 1 3,l 12 1 11,m 13 2,x 14 5 12 13,L 15 5 14,⟨some 7,none,
 .alc 49 [.slice none 0 0,.int .i64 0,.int .i64 0,.int .i64 0,.int .i64 0]⟩,S 5 7 15]) (.seq (.ops [f 16 0 1 7,l 17 1 16,n 18 17,⟨some 19,none,
 .mk 67 1 24 [.slice none 0 0] (.tmp 18) (.tmp 18)⟩,m 8 19]) (.seq (.ops [L 20 5 7,f 21 1 1 4,l 22 1 21,m 23 2,x 24 1 22 23,l 25 1 24,c2 26 48 20 25,
 m 9 26]) (.seq (.seq (.ops [f 27 0 1 7,l 28 1 27,n 29 28,b 30 .sub 29 1,m 10 30]) (.block 0 (.loop (.seq (.seq (.ops [m 31 10,
 b 32 .geq 31 0]) (.cond (.tmp 32) .skip (.exit 0))) (.seq (.block 1 (.seq (.ops [m 35 8,m 36 10,m 37 9,x 38 1 35 36,s 1 38 37]) (.ops [f 39 0 1 7,l 40 1 39,m 41 10,x 42 8 40 41,
 L 43 8 42,m 44 9,c2 45 49 43 44,m 9 45]))) (.ops [m 33 10,b 34 .sub 33 1,m 10 34])))))) (.seq (.ops [m 46 8,m 6 46]) .ret))))))
theorem f_scref27_Behind : compF Try.prog 25 = some (47, c_scref27_Behind, [.tmp 6]) := by kernel_rfl
def c_scref28_Check:VC:=(.seq (.ops [X 4 52 0,X 5 63 1,X 6 55 2,o 8 false]) (.seq (.seq (.par false (.one (L 12 2 4) (.one (L 13 2 5) (.one (c2 14 60 12 13) (.one ⟨some 15,none,
 .un .not (.tmp 14)⟩ (.one (m 16 15) (.one ⟨some 17,some (16,false),.ld true 1 (.tmp 6)⟩ (.one ⟨some 18,some (16,false),.fad 0 false 1 (.tmp 4)⟩ (.one ⟨some 19,some (16,false),
 .ld false 1 (.tmp 18)⟩ (.one ⟨some 20,some (16,false),.mv (.tmp 3)⟩ (.one ⟨some 21,some (16,false),.call (.func 61) [.tmp 17,.tmp 19,.tmp 20]⟩ (.one ⟨some 22,some (16,false),
 .un .not (.tmp 21)⟩ (.one ⟨some 23,none,.pick (.tmp 16) (.const (.bool true)) (.tmp 22)⟩ (.one (m 24 23) (.one ⟨some 25,some (24,false),.ld true 1 (.tmp 6)⟩ (.one ⟨some 26,
 some (24,false),.fad 0 false 1 (.tmp 5)⟩ (.one ⟨some 27,some (24,false),.ld false 1 (.tmp 26)⟩ (.one ⟨some 28,some (24,false),
 .idx 1 (.tmp 27) (.const (.int .i64 0))⟩ (.one ⟨some 29,some (24,false),.ld false 1 (.tmp 28)⟩ (.one ⟨some 30,some (24,false),.call (.func 62) [.tmp 25,.tmp 29]⟩ (.one ⟨some 31,
 some (24,false),.un .not (.tmp 30)⟩ (.one ⟨some 32,none,
 .pick (.tmp 24) (.const (.bool true)) (.tmp 31)⟩ .done)))))))))))))))))))))) (.cond (.tmp 32) (.seq (.ops [o 8 false]) .ret) .skip)) (.seq (.seq (.ops [i 9 0]) (.block 0 (.loop (.seq (.seq (.ops [m 33 9,
 f 34 1 1 4,l 35 1 34,n 36 35,B 37 .lss 33 36]) (.cond (.tmp 37) .skip (.exit 0))) (.seq (.block 1 (.seq (.ops [L 40 2 4,L 41 2 5,m 42 9,c3 43 25 40 41 42,
 m 10 43]) (.seq (.ops [i 11 0]) (.block 2 (.loop (.seq (.seq (.ops [m 44 11,f 45 1 1 4,l 46 1 45,m 47 9,x 48 5 46 47,f 49 0 1 48,l 50 1 49,n 51 50,
 B 52 .lss 44 51]) (.cond (.tmp 52) .skip (.exit 2))) (.seq (.block 3 (.seq (.ops [f 55 1 1 4,l 56 1 55,m 57 9,x 58 5 56 57,f 59 0 1 58,l 60 1 59,m 61 11,x 62 8 60 61,L 63 8 62,
 L 64 1 6,m 65 10,m 66 11,x 67 1 65 66,l 68 1 67,c3 69 63 63 64 68,⟨some 70,none,.un .not (.tmp 69)⟩]) (.cond (.tmp 70) (.seq (.ops [o 8 false]) .ret) .skip))) (.ops [m 53 11,
 b 54 .add 53 1,m 11 54])))))))) (.ops [m 38 9,b 39 .add 38 1,m 9 39])))))) (.seq (.ops [o 8 true]) .ret))))
theorem f_scref28_Check : compF Try.prog 38 = some (71, c_scref28_Check, [.tmp 8]) := by kernel_rfl
def c_scref27_none:VC:=(.seq (.ops [⟨some 4,none,.mv (.const (.slice none 0 0))⟩]) (.seq (.ops [⟨some 5,none,
 .mv (.const (.slice none 0 0))⟩]) (.seq (.seq (.ops [i 6 0]) (.block 0 (.loop (.seq (.seq (.ops [m 7 6,m 8 0,
 B 9 .lss 7 8]) (.cond (.tmp 9) .skip (.exit 0))) (.seq (.block 1 (.ops [m 12 5,m 13 1,⟨some 14,none,.mk 4 1 1 [.bool false] (.tmp 13) (.tmp 13)⟩,⟨some 15,none,
 .bsl 67 1 1 [.slice none 0 0] [(0,(1,(.tmp 14)))]⟩,⟨some 16,none,.app 67 1 24 (.tmp 12) (.tmp 15)⟩,m 5 16])) (.ops [m 10 6,b 11 .add 10 1,m 6 11])))))) (.seq (.ops [m 17 5,
 m 4 17]) .ret))))
theorem f_scref27_none : compF Try.prog 45 = some (18, c_scref27_none, [.tmp 4]) := by kernel_rfl
def c_scref26_Next:VC:=(.seq (.ops [X 1 52 0,⟨some 2,none,.mv (.const (.slice none 0 0))⟩]) (.seq (.ops [f 6 1 1 1,l 7 1 6,n 8 7,⟨some 9,none,
 .mk 53 1 24 [.slice none 0 0] (.tmp 8) (.tmp 8)⟩,m 3 9]) (.seq (.seq (.ops [i 4 0]) (.block 0 (.loop (.seq (.seq (.ops [m 10 4,f 11 1 1 1,l 12 1 11,n 13 12,
 B 14 .lss 10 13]) (.cond (.tmp 14) .skip (.exit 0))) (.seq (.block 1 (.seq (.ops [f 17 1 1 1,l 18 1 17,m 19 4,x 20 5 18 19,L 21 5 20,⟨some 5,none,.alc 49 [.slice none 0 0,
 .int .i64 0,.int .i64 0,.int .i64 0,.int .i64 0]⟩,S 5 5 21]) (.seq (.seq (.ops [f 22 1 1 5,l 23 1 22,b 24 .eql 23 1]) (.cond (.tmp 24) (.ops [m 25 3,m 26 4,f 27 3 1 5,l 28 1 27,
 ⟨some 29,none,.bsl 3 1 1 [.int .i64 0] [(0,(1,(.tmp 28)))]⟩,x 30 1 25 26,s 1 30 29]) .skip)) (.seq (.ops [f 31 1 1 5,l 32 1 31,b 33 .eql 32 2]) (.cond (.tmp 33) (.ops [m 34 3,
 m 35 4,f 36 3 1 5,l 37 1 36,f 38 4 1 5,l 39 1 38,⟨some 40,none,.bsl 3 1 2 [.int .i64 0,.int .i64 0] [(0,(1,(.tmp 37))),(1,(1,(.tmp 39)))]⟩,x 41 1 34 35,
 s 1 41 40]) .skip))))) (.ops [m 15 4,b 16 .add 15 1,m 4 16])))))) (.seq (.ops [m 42 3,m 2 42]) .ret))))
theorem f_scref26_Next : compF Try.prog 46 = some (43, c_scref26_Next, [.tmp 2]) := by kernel_rfl
def c_scref27_ahead:VC:=(.seq (.ops [X 2 49 0,⟨some 4,none,.mv (.const (.slice none 0 0))⟩]) (.seq (.ops [L 7 5 2,m 8 1,c2 9 48 7 8,m 5 9]) (.seq (.seq (.ops [f 10 0 1 2,l 11 1 10,
 n 12 11,b 13 .sub 12 1,m 6 13]) (.block 0 (.loop (.seq (.seq (.ops [m 14 6,b 15 .geq 14 0]) (.cond (.tmp 15) .skip (.exit 0))) (.seq (.block 1 (.ops [f 18 0 1 2,l 19 1 18,m 20 6,
 x 21 8 19 20,L 22 8 21,m 23 5,c2 24 49 22 23,m 5 24])) (.ops [m 16 6,b 17 .sub 16 1,m 6 17])))))) (.seq (.ops [m 25 5,m 4 25]) .ret))))
theorem f_scref27_ahead : compF Try.prog 47 = some (26, c_scref27_ahead, [.tmp 4]) := by kernel_rfl
def c_scref27_last:VC:=(.seq (.ops [X 2 49 0,⟨some 4,none,.mv (.const (.slice none 0 0))⟩]) (.seq (.ops [⟨some 6,none,.bsl 4 1 0 [] []⟩,m 7 1,⟨some 8,none,
 .app 4 1 1 (.tmp 6) (.tmp 7)⟩,m 5 8]) (.seq (.seq (.ops [f 9 1 1 2,l 10 1 9,b 11 .eql 10 2]) (.cond (.tmp 11) (.ops [m 12 5,f 13 2 1 2,l 14 1 13,x 15 1 12 14,⟨none,none,
 .sto false 1 (.tmp 15) (.const (.bool true))⟩]) .skip)) (.seq (.ops [m 16 5,m 4 16]) .ret))))
theorem f_scref27_last : compF Try.prog 48 = some (17, c_scref27_last, [.tmp 4]) := by kernel_rfl
def c_scref27_back:VC:=(.seq (.ops [X 2 47 0,⟨some 4,none,.mv (.const (.slice none 0 0))⟩]) (.seq (.ops [⟨some 9,none,.bsl 4 1 0 [] []⟩,m 10 1,⟨some 11,none,
 .app 4 1 1 (.tmp 9) (.tmp 10)⟩,m 5 11]) (.seq (.seq (.ops [L 12 8 2,c1 13 68 12,m 6 13]) (.seq (.ops [m 14 6,b 15 .geq 14 0]) (.cond (.tmp 15) (.ops [m 16 5,m 17 6,x 18 1 16 17,
 ⟨none,none,.sto false 1 (.tmp 18) (.const (.bool false))⟩]) .skip))) (.seq (.ops [L 19 8 2,c1 20 69 19,
 m 7 20]) (.seq (.seq (.ops [i 8 0]) (.block 0 (.loop (.seq (.seq (.ops [m 21 8,m 22 7,n 23 22,B 24 .lss 21 23]) (.cond (.tmp 24) .skip (.exit 0))) (.seq (.block 1 (.ops [m 27 5,
 m 28 7,m 29 8,x 30 1 28 29,l 31 1 30,x 32 1 27 31,⟨none,none,.sto false 1 (.tmp 32) (.const (.bool true))⟩])) (.ops [m 25 8,b 26 .add 25 1,m 8 26])))))) (.seq (.ops [m 33 5,
 m 4 33]) .ret))))))
theorem f_scref27_back : compF Try.prog 49 = some (34, c_scref27_back, [.tmp 4]) := by kernel_rfl
def c_scref27_Check:VC:=(.seq (.ops [X 2 52 0,X 3 63 1,o 4 false]) (.seq (.seq (.ops [L 8 2 2,L 9 2 3,c2 10 81 8 9,⟨some 11,none,
 .un .not (.tmp 10)⟩]) (.cond (.tmp 11) (.seq (.ops [o 4 false]) .ret) .skip)) (.seq (.ops [L 12 2 2,c1 13 46 12,
 m 5 13]) (.seq (.seq (.ops [i 6 0]) (.block 0 (.loop (.seq (.seq (.ops [m 14 6,f 15 1 1 2,l 16 1 15,n 17 16,
 B 18 .lss 14 17]) (.cond (.tmp 18) .skip (.exit 0))) (.seq (.block 1 (.seq (.seq (.ops [i 7 0]) (.block 2 (.loop (.seq (.seq (.ops [m 21 7,m 22 5,m 23 6,x 24 1 22 23,l 25 1 24,
 n 26 25,B 27 .lss 21 26]) (.cond (.tmp 27) .skip (.exit 2))) (.seq (.block 3 (.seq (.ops [f 30 0 1 3,l 31 1 30,m 32 5,m 33 6,x 34 1 32 33,l 35 1 34,m 36 7,x 37 1 35 36,l 38 1 37,
 x 39 1 31 38,l 40 1 39,f 41 1 1 3,l 42 1 41,m 43 6,x 44 1 42 43,l 45 1 44,c2 46 67 40 45,⟨some 47,none,
 .un .not (.tmp 46)⟩]) (.cond (.tmp 47) (.seq (.ops [o 4 false]) .ret) .skip))) (.ops [m 28 7,b 29 .add 28 1,
 m 7 29])))))) (.seq (.par false (.one (f 48 1 1 2) (.one (l 49 1 48) (.one (m 50 6) (.one (x 51 5 49 50) (.one (L 52 5 51) (.one (f 53 1 1 3) (.one (l 54 1 53) (.one (m 55 6) (.one (x 56 1 54 55) (.one (l 57 1 56) (.one (c2 58 47 52 57) (.one (f 59 0 1 3) (.one (l 60 1 59) (.one (m 61 6) (.one (x 62 1 60 61) (.one (l 63 1 62) (.one (c2 64 67 58 63) (.one ⟨some 65,
 none,.un .not (.tmp 64)⟩ .done))))))))))))))))))) (.cond (.tmp 65) (.seq (.ops [o 4 false]) .ret) .skip)))) (.ops [m 19 6,b 20 .add 19 1,
 m 6 20])))))) (.seq (.ops [o 4 true]) .ret)))))
theorem f_scref27_Check : compF Try.prog 60 = some (66, c_scref27_Check, [.tmp 4]) := by kernel_rfl
def c_scref28_places:VC:=(.seq (.ops [X 3 55 0,o 6 false]) (.seq (.seq (.ops [f 9 0 1 3,l 10 1 9,n 11 10,m 12 1,
 B 13 .neq 11 12]) (.cond (.tmp 13) (.seq (.ops [o 6 false]) .ret) .skip)) (.seq (.seq (.ops [i 7 0]) (.block 0 (.loop (.seq (.seq (.ops [m 14 7,f 15 0 1 3,l 16 1 15,n 17 16,
 B 18 .lss 14 17]) (.cond (.tmp 18) .skip (.exit 0))) (.seq (.block 1 (.seq (.ops [f 21 0 1 3,l 22 1 21,m 23 7,x 24 1 22 23,l 25 1 24,m 8 25]) (.seq (.ops [m 26 8,⟨some 27,none,
 .bin .lss (.tmp 26) (.const (.int .i64 (-4000)))⟩,m 28 27,⟨some 29,some (28,false),.mv (.tmp 8)⟩,⟨some 30,some (28,false),.bin .eql (.tmp 29) (.const (.int .i64 0))⟩,⟨some 31,none,
 .pick (.tmp 28) (.const (.bool true)) (.tmp 30)⟩,m 32 31,⟨some 33,some (32,false),.mv (.tmp 8)⟩,⟨some 34,some (32,false),.bin .gtr (.tmp 33) (.const (.int .i64 0))⟩,⟨some 35,
 some (32,false),.mv (.tmp 34)⟩,⟨some 36,some (35,true),.mv (.tmp 8)⟩,⟨some 37,some (35,true),.mv (.tmp 2)⟩,⟨some 38,some (35,true),.bin .gtr (.tmp 36) (.tmp 37)⟩,⟨some 39,some (32,
 false),.pick (.tmp 35) (.tmp 38) (.const (.bool false))⟩,⟨some 40,none,
 .pick (.tmp 32) (.const (.bool true)) (.tmp 39)⟩]) (.cond (.tmp 40) (.seq (.ops [o 6 false]) .ret) .skip)))) (.ops [m 19 7,b 20 .add 19 1,
 m 7 20])))))) (.seq (.ops [o 6 true]) .ret))))
theorem f_scref28_places : compF Try.prog 61 = some (41, c_scref28_places, [.tmp 6]) := by kernel_rfl
def c_scref28_apart:VC:=(.seq (.ops [X 2 55 0,o 4 false]) (.seq (.seq (.ops [i 5 0]) (.block 0 (.loop (.seq (.seq (.ops [m 7 5,m 8 1,n 9 8,
 B 10 .lss 7 9]) (.cond (.tmp 10) .skip (.exit 0))) (.seq (.block 1 (.seq (.ops [i 6 0]) (.block 2 (.loop (.seq (.seq (.ops [m 13 6,m 14 5,
 B 15 .lss 13 14]) (.cond (.tmp 15) .skip (.exit 2))) (.seq (.block 3 (.seq (.ops [m 18 1,m 19 5,x 20 1 18 19,l 21 1 20,m 22 21,⟨some 23,some (22,true),.mv (.tmp 1)⟩,⟨some 24,
 some (22,true),.mv (.tmp 6)⟩,⟨some 25,some (22,true),.idx 1 (.tmp 23) (.tmp 24)⟩,⟨some 26,some (22,true),.ld false 1 (.tmp 25)⟩,⟨some 27,none,
 .pick (.tmp 22) (.tmp 26) (.const (.bool false))⟩,m 28 27,⟨some 29,some (28,true),.fad 0 false 1 (.tmp 2)⟩,⟨some 30,some (28,true),.ld false 1 (.tmp 29)⟩,⟨some 31,some (28,true),
 .mv (.tmp 5)⟩,⟨some 32,some (28,true),.idx 1 (.tmp 30) (.tmp 31)⟩,⟨some 33,some (28,true),.ld false 1 (.tmp 32)⟩,⟨some 34,some (28,true),.fad 0 false 1 (.tmp 2)⟩,⟨some 35,some (28,
 true),.ld false 1 (.tmp 34)⟩,⟨some 36,some (28,true),.mv (.tmp 6)⟩,⟨some 37,some (28,true),.idx 1 (.tmp 35) (.tmp 36)⟩,⟨some 38,some (28,true),.ld false 1 (.tmp 37)⟩,⟨some 39,
 some (28,true),.bin .eql (.tmp 33) (.tmp 38)⟩,⟨some 40,none,
 .pick (.tmp 28) (.tmp 39) (.const (.bool false))⟩]) (.cond (.tmp 40) (.seq (.ops [o 4 false]) .ret) .skip))) (.ops [m 16 6,b 17 .add 16 1,m 6 17]))))))) (.ops [m 11 5,
 b 12 .add 11 1,m 5 12])))))) (.seq (.ops [o 4 true]) .ret)))
theorem f_scref28_apart : compF Try.prog 62 = some (41, c_scref28_apart, [.tmp 4]) := by kernel_rfl
def c_scref28_one:VC:=(.seq (.ops [X 3 47 0,X 4 55 1,o 6 false]) (.seq (.ops [L 9 8 3,c1 10 68 9,m 7 10]) (.seq (.seq (.ops [i 8 0]) (.block 0 (.loop (.seq (.seq (.ops [m 11 8,
 m 12 2,n 13 12,B 14 .lss 11 13]) (.cond (.tmp 14) .skip (.exit 0))) (.seq (.block 1 (.seq (.seq (.ops [m 17 2,m 18 8,x 19 1 17 18,l 20 1 19,⟨some 21,none,
 .un .not (.tmp 20)⟩]) (.cond (.tmp 21) (.exit 1) .skip)) (.seq (.ops [m 22 7,b 23 .geq 22 0,m 24 23,⟨some 25,some (24,true),.mv (.tmp 8)⟩,⟨some 26,some (24,true),.mv (.tmp 7)⟩,
 ⟨some 27,some (24,true),.bin .neq (.tmp 25) (.tmp 26)⟩,⟨some 28,none,.pick (.tmp 24) (.tmp 27) (.const (.bool false))⟩,m 29 28,⟨some 30,some (29,true),.fad 0 false 1 (.tmp 4)⟩,
 ⟨some 31,some (29,true),.ld false 1 (.tmp 30)⟩,⟨some 32,some (29,true),.mv (.tmp 8)⟩,⟨some 33,some (29,true),.idx 1 (.tmp 31) (.tmp 32)⟩,⟨some 34,some (29,true),
 .ld false 1 (.tmp 33)⟩,⟨some 35,some (29,true),.fad 0 false 1 (.tmp 4)⟩,⟨some 36,some (29,true),.ld false 1 (.tmp 35)⟩,⟨some 37,some (29,true),.mv (.tmp 7)⟩,⟨some 38,some (29,
 true),.idx 1 (.tmp 36) (.tmp 37)⟩,⟨some 39,some (29,true),.ld false 1 (.tmp 38)⟩,⟨some 40,some (29,true),.bin .eql (.tmp 34) (.tmp 39)⟩,⟨some 41,none,
 .pick (.tmp 29) (.tmp 40) (.const (.bool false))⟩,m 42 41,⟨some 43,some (42,false),.fad 0 false 1 (.tmp 3)⟩,⟨some 44,some (42,false),.ld false 1 (.tmp 43)⟩,⟨some 45,some (42,
 false),.bin .eql (.tmp 44) (.const (.int .i64 10))⟩,⟨some 46,some (42,false),.mv (.tmp 45)⟩,⟨some 47,some (46,true),.fad 0 false 1 (.tmp 4)⟩,⟨some 48,some (46,true),
 .ld false 1 (.tmp 47)⟩,⟨some 49,some (46,true),.mv (.tmp 8)⟩,⟨some 50,some (46,true),.idx 1 (.tmp 48) (.tmp 49)⟩,⟨some 51,some (46,true),.ld false 1 (.tmp 50)⟩,⟨some 52,some (46,
 true),.bin .gtr (.tmp 51) (.const (.int .i64 0))⟩,⟨some 53,some (42,false),.pick (.tmp 46) (.tmp 52) (.const (.bool false))⟩,⟨some 54,none,
 .pick (.tmp 42) (.const (.bool true)) (.tmp 53)⟩]) (.cond (.tmp 54) (.seq (.ops [o 6 false]) .ret) .skip)))) (.ops [m 15 8,b 16 .add 15 1,
 m 8 16])))))) (.seq (.ops [o 6 true]) .ret))))
theorem f_scref28_one : compF Try.prog 63 = some (55, c_scref28_one, [.tmp 6]) := by kernel_rfl
def c_scref27_within:VC:=(.seq (.ops [o 4 false]) (.seq (.seq (.ops [i 5 0]) (.block 0 (.loop (.seq (.seq (.ops [m 6 5,m 7 0,n 8 7,
 B 9 .lss 6 8]) (.cond (.tmp 9) .skip (.exit 0))) (.seq (.block 1 (.seq (.ops [m 12 0,m 13 5,x 14 1 12 13,l 15 1 14,m 16 15,⟨some 17,some (16,true),.mv (.tmp 1)⟩,⟨some 18,some (16,
 true),.mv (.tmp 5)⟩,⟨some 19,some (16,true),.idx 1 (.tmp 17) (.tmp 18)⟩,⟨some 20,some (16,true),.ld false 1 (.tmp 19)⟩,⟨some 21,some (16,true),.un .not (.tmp 20)⟩,⟨some 22,none,
 .pick (.tmp 16) (.tmp 21) (.const (.bool false))⟩]) (.cond (.tmp 22) (.seq (.ops [o 4 false]) .ret) .skip))) (.ops [m 10 5,b 11 .add 10 1,
 m 5 11])))))) (.seq (.ops [o 4 true]) .ret)))
theorem f_scref27_within : compF Try.prog 67 = some (23, c_scref27_within, [.tmp 4]) := by kernel_rfl
def c_scref27_Sized:VC:=(.seq (.ops [X 2 52 0,X 3 63 1,o 4 false]) (.seq (.ops [f 5 0 1 3,l 6 1 5,f 7 1 1 2,l 8 1 7,n 9 8,f 10 0 1 2,l 11 1 10,c3 12 97 6 9 11,m 13 12,⟨some 14,
 some (13,true),.fad 1 false 1 (.tmp 3)⟩,⟨some 15,some (13,true),.ld false 1 (.tmp 14)⟩,⟨some 16,some (13,true),.fad 1 false 1 (.tmp 2)⟩,⟨some 17,some (13,true),
 .ld false 1 (.tmp 16)⟩,⟨some 18,some (13,true),.len (.tmp 17)⟩,⟨some 19,some (13,true),.fad 0 false 1 (.tmp 2)⟩,⟨some 20,some (13,true),.ld false 1 (.tmp 19)⟩,⟨some 21,some (13,
 true),.call (.func 97) [.tmp 15,.tmp 18,.tmp 20]⟩,⟨some 22,none,.pick (.tmp 13) (.tmp 21) (.const (.bool false))⟩,m 4 22]) .ret))
theorem f_scref27_Sized : compF Try.prog 81 = some (23, c_scref27_Sized, [.tmp 4]) := by kernel_rfl
def c_scref27_sized:VC:=(.seq (.ops [o 6 false]) (.seq (.seq (.ops [m 8 0,n 9 8,m 10 1,
 B 11 .neq 9 10]) (.cond (.tmp 11) (.seq (.ops [o 6 false]) .ret) .skip)) (.seq (.seq (.ops [i 7 0]) (.block 0 (.loop (.seq (.seq (.ops [m 12 7,m 13 1,
 B 14 .lss 12 13]) (.cond (.tmp 14) .skip (.exit 0))) (.seq (.block 1 (.seq (.ops [m 17 0,m 18 7,x 19 1 17 18,l 20 1 19,n 21 20,m 22 2,
 B 23 .neq 21 22]) (.cond (.tmp 23) (.seq (.ops [o 6 false]) .ret) .skip))) (.ops [m 15 7,b 16 .add 15 1,m 7 16])))))) (.seq (.ops [o 6 true]) .ret))))
theorem f_scref27_sized : compF Try.prog 97 = some (24, c_scref27_sized, [.tmp 6]) := by kernel_rfl
end Go.Proofs.Ytkbhfokbhkmfgaa
