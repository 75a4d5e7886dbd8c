/-
  The functions of this seat, made small by the program: each is what the engine makes of the function of that number. No condition.
-/
import Derived.Test.YtaedcpipilnpcaaGreatUS
import Derived.Test.YtaedcpipilnpcaaGreatRows
import Derived.KernelRfl
set_option linter.unusedVariables false
set_option linter.unusedSimpArgs false
namespace Go.Proofs.YtaedcpipilnpcaaGreat
open Go.V
namespace Z
abbrev m(a b:Nat):VOp:=⟨some a,none,.mv (.tmp b)⟩
abbrev l(a n b:Nat):VOp:=⟨some a,none,.ld false n (.tmp b)⟩
abbrev L(a n b:Nat):VOp:=⟨some a,none,.ld true n (.tmp b)⟩
abbrev f(a o n b:Nat):VOp:=⟨some a,none,.fad o false n (.tmp b)⟩
abbrev F(a o n b:Nat):VOp:=⟨some a,none,.fad o true n (.tmp b)⟩
abbrev x(a n b c:Nat):VOp:=⟨some a,none,.idx n (.tmp b) (.tmp c)⟩
abbrev b(a:Nat)(o:BinOp)(b:Nat)(c:Int):VOp:=⟨some a,none,.bin o (.tmp b) (.const (.int .i64 c))⟩
abbrev B(a:Nat)(o:BinOp)(b c:Nat):VOp:=⟨some a,none,.bin o (.tmp b) (.tmp c)⟩
abbrev k(a b:Nat):VOp:=⟨some a,none,.nck (.tmp b)⟩
abbrev i(a:Nat)(c:Int):VOp:=⟨some a,none,.mv (.const (.int .i64 c))⟩
abbrev n(a b:Nat):VOp:=⟨some a,none,.len (.tmp b)⟩
abbrev o(a:Nat)(c:Bool):VOp:=⟨some a,none,.mv (.const (.bool c))⟩
abbrev X(a n b:Nat):VOp:=⟨some a,none,.box n (.tmp b)⟩
abbrev e(a b n:Nat):VOp:=⟨some a,none,.ext (.tmp b) n⟩
abbrev S(n b c:Nat):VOp:=⟨none,none,.sto true n (.tmp b) (.tmp c)⟩
abbrev s(n b c:Nat):VOp:=⟨none,none,.sto false n (.tmp b) (.tmp c)⟩
abbrev c0(a f:Nat):VOp:=⟨some a,none,.call (.func f) []⟩
abbrev c1(a f x:Nat):VOp:=⟨some a,none,.call (.func f) [.tmp x]⟩
abbrev c2(a f x y:Nat):VOp:=⟨some a,none,.call (.func f) [.tmp x,.tmp y]⟩
abbrev c3(a f x y z:Nat):VOp:=⟨some a,none,.call (.func f) [.tmp x,.tmp y,.tmp z]⟩
abbrev c4(a f x y z w:Nat):VOp:=⟨some a,none,.call (.func f) [.tmp x,.tmp y,.tmp z,.tmp w]⟩
attribute [go_sem] m l L f F x b B k i n o X e S s c0 c1 c2 c3 c4
end Z
open Z
def c_sclaw22_EmitRuns:VC:=(.seq (.ops [X 2 24 0,o 4 false]) (.seq (.seq (.ops [c0 9 4,⟨some 10,none,
 .un .not (.tmp 9)⟩]) (.cond (.tmp 10) (.seq (.ops [o 4 false]) .ret) .skip)) (.seq (.seq (.ops [L 11 2 2,c1 12 5 11,⟨some 13,none,.un .not (.tmp 12)⟩,m 14 13,⟨some 15,some (14,
 false),.mv (.tmp 1)⟩,⟨some 16,some (14,false),.lens (.tmp 15)⟩,⟨some 17,some (14,false),.bin .gtr (.tmp 16) (.const (.int .i64 60))⟩,⟨some 18,none,
 .pick (.tmp 14) (.const (.bool true)) (.tmp 17)⟩]) (.cond (.tmp 18) (.seq (.ops [o 4 true]) .ret) .skip)) (.seq (.ops [L 20 2 2,c1 21 6 20,m 19 21,e 22 19 0,e 23 19 1,⟨some 5,none,
 .alc 29 [.slice none 0 0,.int .i64 0]⟩,S 2 5 22,m 6 23]) (.seq (.seq (.ops [m 24 6,b 25 .neq 24 0]) (.cond (.tmp 25) (.seq (.ops [o 4 false]) .ret) .skip)) (.seq (.ops [L 26 2 2,
 m 27 1,⟨some 28,none,.call (.func 7) [(.tmp 26),(.tmp 27),(.const (.int .i64 200))]⟩,⟨(some 7),none,(.alc 34 [(.int .i64 0),(.string ⟨#[]⟩),(.int .i64 0)])⟩,
 S 3 7 28]) (.seq (.seq (.ops [f 29 0 1 7,l 30 1 29,
 b 31 .eql 30 5]) (.cond (.tmp 31) (.seq (.ops [o 4 true]) .ret) .skip)) (.seq (.par false (.one (L 32 2 5) (.one (m 33 1) (.one (L 34 2 2) (.one (f 35 2 1 7) (.one (l 36 1 35) (.one (c2 37 9 34 36) (.one (c3 38 8 32 33 37) (.one ⟨(some 8),
 none,(.alc 34 [(.int .i64 0),(.string ⟨#[]⟩),(.int .i64 0)])⟩ (.one (S 3 8 38) .done)))))))))) (.seq (.ops [f 39 0 1 7,l 40 1 39,f 41 0 1 8,l 42 1 41,B 43 .eql 40 42,m 44 43,
 ⟨some 45,some (44,true),.fad 1 false 1 (.tmp 7)⟩,⟨some 46,some (44,true),.ld false 1 (.tmp 45)⟩,⟨some 47,some (44,true),.fad 1 false 1 (.tmp 8)⟩,⟨some 48,some (44,true),
 .ld false 1 (.tmp 47)⟩,⟨some 49,some (44,true),.bin .eql (.tmp 46) (.tmp 48)⟩,⟨some 50,none,.pick (.tmp 44) (.tmp 49) (.const (.bool false))⟩,m 4 50]) .ret)))))))))
theorem f_sclaw22_EmitRuns : compF Tryz.prog 3 = some (51, c_sclaw22_EmitRuns, [.tmp 4]) := by kernel_rfl
def c_sclaw22_alive:VC:=(.seq (.ops [o 0 false]) (.seq (.ops [c0 4 10,c1 5 6 4,m 3 5,e 6 3 0,e 7 3 1,⟨some 1,none,.alc 29 [.slice none 0 0,.int .i64 0]⟩,S 2 1 6,
 m 2 7]) (.seq (.ops [m 8 2,b 9 .eql 8 0,m 10 9,⟨some 11,some (10,true),.ld true 2 (.tmp 1)⟩,⟨(some 12),(some (10,true)),(.call (.func 12) [(.tmp 11),(.const (.string ⟨#[]⟩)),
 (.const (.int .i64 300))])⟩,⟨(some 13),(some (10,true)),(.bld [(.int .i64 0),(.string ⟨#[]⟩),(.int .i64 0)] [(0,(1,(.const (.int .i64 1)))),(1,(1,(.const (.string ⟨#[65]⟩))))])⟩,
 ⟨some 14,some (10,true),.call (.func 11) [.tmp 12,.tmp 13]⟩,⟨some 15,none,.pick (.tmp 10) (.tmp 14) (.const (.bool false))⟩,m 0 15]) .ret)))
theorem f_sclaw22_alive : compF Tryz.prog 4 = some (16, c_sclaw22_alive, [.tmp 0]) := by kernel_rfl
def c_sclaw22_few:VC:=(.seq (.ops [X 1 24 0,o 2 false]) (.seq (.ops [L 3 2 1,⟨some 4,none,.call (.func 13) [(.tmp 3),(.const (.int .i64 300))]⟩,m 5 4,⟨some 6,some (5,true),
 .fad 0 false 1 (.tmp 1)⟩,⟨some 7,some (5,true),.ld false 1 (.tmp 6)⟩,⟨some 8,some (5,true),.bin .leq (.tmp 7) (.const (.int .i64 300))⟩,⟨some 9,none,
 .pick (.tmp 5) (.tmp 8) (.const (.bool false))⟩,m 10 9,⟨some 11,some (10,true),.ld true 2 (.tmp 1)⟩,⟨some 12,some (10,true),.call (.func 14) [.tmp 11]⟩,⟨some 13,none,
 .pick (.tmp 10) (.tmp 12) (.const (.bool false))⟩,m 14 13,⟨some 15,some (14,true),.ld true 2 (.tmp 1)⟩,⟨some 16,some (14,true),.call (.func 15) [.tmp 15]⟩,⟨some 17,some (14,true),
 .bin .leq (.tmp 16) (.const (.int .i64 2000))⟩,⟨some 18,none,.pick (.tmp 14) (.tmp 17) (.const (.bool false))⟩,m 2 18]) .ret))
theorem f_sclaw22_few : compF Tryz.prog 5 = some (19, c_sclaw22_few, [.tmp 2]) := by kernel_rfl
def c_emit_Of:VC:=(.seq (.ops [X 1 24 0,⟨some 2,none,.alc 29 [.slice none 0 0,.int .i64 0]⟩,i 3 0]) (.seq (.ops [L 12 2 1,c1 13 16 12,⟨some 4,none,.alc 46 [.slice none 0 0,
 .slice none 0 0,.slice none 0 0,.int .i64 0]⟩,S 4 4 13]) (.seq (.seq (.ops [f 14 3 1 4,l 15 1 14,b 16 .gtr 15 32768]) (.cond (.tmp 16) (.seq (.ops [⟨some 17,none,
 .bld [.slice none 0 0,.int .i64 0] []⟩,S 2 2 17,
 i 3 2]) .ret) .skip)) (.seq (.par false (.one (L 18 2 1) (.one (L 19 4 4) (.one (f 20 1 1 1) (.one (l 21 1 20) (.one (n 22 21) (.one (f 24 1 1 1) (.one (l 25 1 24) (.one (n 26 25) (.both (.one ⟨some 23,
 none,.mk 3 1 8 [.int .i64 0] (.tmp 22) (.tmp 22)⟩ (.one ⟨some 27,none,.mk 44 1 24 [.slice none 0 0] (.tmp 26) (.tmp 26)⟩ (.one ⟨some 28,none,.bld [.int .i64 0,.slice none 0 0,
 .slice none 0 0,.slice none 0 0,.slice none 0 0,.int .i64 0,.slice none 0 0,.slice none 0 0,.slice none 0 0,.slice none 0 0,.int .i64 0,.int .i64 0] [(0,(2,(.tmp 18))),(2,(4,
 (.tmp 19))),(7,(1,(.tmp 23))),(8,(1,(.tmp 27)))]⟩ (.one (X 29 52 28) (.one (m 5 29) .done))))) (.one ⟨some 27,none,
 .mk 44 1 24 [.slice none 0 0] (.tmp 26) (.tmp 26)⟩ (.one ⟨some 23,none,.mk 3 1 8 [.int .i64 0] (.tmp 22) (.tmp 22)⟩ (.one ⟨some 28,none,.bld [.int .i64 0,.slice none 0 0,
 .slice none 0 0,.slice none 0 0,.slice none 0 0,.int .i64 0,.slice none 0 0,.slice none 0 0,.slice none 0 0,.slice none 0 0,.int .i64 0,.int .i64 0] [(0,(2,(.tmp 18))),(2,(4,
 (.tmp 19))),(7,(1,(.tmp 23))),(8,(1,(.tmp 27)))]⟩ (.one (X 29 52 28) (.one (m 5 29) .done))))))))))))))) (.seq (.ops [m 30 5,c1 31 17 30,m 6 31]) (.seq (.seq (.ops [m 32 6,n 33 32,
 b 34 .gtr 33 16384]) (.cond (.tmp 34) (.seq (.ops [⟨some 35,none,.bld [.slice none 0 0,.int .i64 0] []⟩,S 2 2 35,i 3 2]) .ret) .skip)) (.seq (.ops [m 36 6,n 37 36,⟨some 38,none,
 .mk 56 1 4 [.int .u32 0] (.tmp 37) (.tmp 37)⟩,m 7 38]) (.seq (.seq (.ops [m 39 6,n 40 39,
 i 41 0]) (.block 0 (.loop (.seq (.ops [B 42 .lss 41 40]) (.seq (.cond (.tmp 42) .skip (.exit 0)) (.seq (.block 1 (.seq (.ops [m 43 41,x 44 4 39 41,L 45 4 44,⟨some 9,none,
 .alc 55 [.int .i64 0,.int .i64 0,.int .i64 0,.int .i64 0]⟩,m 8 43,S 4 9 45]) (.seq (.ops [L 47 4 9,c1 48 18 47,m 46 48,e 49 46 0,e 50 46 1,m 10 49,
 m 11 50]) (.seq (.seq (.ops [m 51 11,b 52 .neq 51 0]) (.cond (.tmp 52) (.seq (.ops [⟨some 53,none,.bld [.slice none 0 0,.int .i64 0] []⟩,S 2 2 53,
 i 3 2]) .ret) .skip)) (.ops [m 54 7,m 55 8,m 56 10,x 57 1 54 55,s 1 57 56]))))) (.ops [b 58 .add 41 1,m 41 58]))))))) (.seq (.ops [m 59 7,f 60 3 1 4,l 61 1 60,⟨some 62,none,
 .bld [.slice none 0 0,.int .i64 0] [(0,(1,(.tmp 59))),(1,(1,(.tmp 61)))]⟩,S 2 2 62,i 3 0]) .ret)))))))))
theorem f_emit_Of : compF Tryz.prog 6 = some (63, c_emit_Of, [(.cell 2 true 2), (.tmp 3)]) := by kernel_rfl
def c_stack_Run:VC:=(.seq (.ops [X 3 24 0,⟨(some 6),none,(.alc 34 [(.int .i64 0),(.string ⟨#[]⟩),
 (.int .i64 0)])⟩]) (.seq (.par false (.one (L 12 2 3) (.one (f 13 0 1 3) (.one (l 14 1 13) (.one (m 16 1) (.one ⟨some 15,none,
 .mk 56 1 4 [.int .u32 0] (.tmp 14) (.tmp 14)⟩ (.one ⟨(some 17),none,(.bld [(.int .i64 0),(.slice none 0 0),(.slice none 0 0),(.slice none 0 0),(.slice none 0 0),(.string ⟨#[]⟩),
 (.int .i64 0),(.slice none 0 0)] [(0,(2,(.tmp 12))),(2,(1,(.tmp 15))),(5,(1,(.tmp 16)))])⟩ (.one (X 18 67 17) (.one (m 7 18) .done))))))))) (.seq (.ops [f 19 1 1 3,l 20 1 19,
 n 21 20,b 22 .sub 21 1,⟨some 23,none,.bld [.int .i64 0,.int .i64 0] [(0,(1,(.tmp 22))),(1,(1,(.const (.int .i64 0))))]⟩,⟨some 8,none,.alc 69 [.int .i64 0,.int .i64 0]⟩,
 S 2 8 23]) (.seq (.ops [i 9 0,i 10 0]) (.seq .skip (.seq (.block 0 (.loop (.block 1 (.seq (.seq (.ops [m 24 10,m 25 2,
 B 26 .geq 24 25]) (.cond (.tmp 26) (.seq (.ops [i 9 5]) (.exit 0)) .skip)) (.seq (.ops [m 27 10,b 28 .add 27 1,
 m 10 28]) (.seq (.par false (.one (f 29 1 1 3) (.one (l 30 1 29) (.one (f 31 0 1 8) (.one (l 32 1 31) (.one (x 33 5 30 32) (.one (f 34 4 1 33) (.one (l 35 1 34) (.one (f 36 1 1 8) (.one (l 37 1 36) (.one (x 38 4 35 37) (.one (L 39 4 38) (.one ⟨some 11,
 none,.alc 71 [.int .i64 0,.int .i64 0,.int .i64 0,.int .u32 0]⟩ (.one (S 4 11 39) .done)))))))))))))) (.seq (.ops [f 40 1 1 8,l 41 1 40,b 42 .add 41 1,f 43 1 1 8,
 s 1 43 42]) (.seq (.ops [f 44 0 1 11,l 45 1 44]) (.block 2 (.seq (.ops [b 52 .eql 45 8,m 51 52]) (.cond (.tmp 51) (.ops [f 53 1 1 11,l 54 1 53,f 55 1 1 8,
 s 1 55 54]) (.seq (.ops [b 57 .eql 45 9,m 56 57]) (.cond (.tmp 56) (.seq (.ops [m 58 7,k 59 58,F 60 3 1 59,⟨some 61,none,.callM true (.func 19) [.tmp 60]⟩,⟨some 62,none,
 .bin .eql (.tmp 61) (.const (.int .u32 0))⟩]) (.cond (.tmp 62) (.ops [f 63 1 1 11,l 64 1 63,f 65 1 1 8,s 1 65 64]) .skip)) (.seq (.ops [b 67 .eql 45 10,
 m 66 67]) (.cond (.tmp 66) (.seq (.ops [m 68 7,f 69 1 1 3,l 70 1 69,f 71 1 1 11,l 72 1 71,x 73 5 70 72,L 74 5 73,c2 75 20 68 74]) (.seq (.ops [m 76 7,k 77 76,F 78 4 1 77,L 79 2 8,
 c2 80 21 78 79]) (.ops [f 81 1 1 11,l 82 1 81,⟨some 83,none,.bld [.int .i64 0,.int .i64 0] [(0,(1,(.tmp 82))),(1,(1,(.const (.int .i64 0))))]⟩,
 S 2 8 83]))) (.seq (.ops [b 85 .eql 45 11,m 84 85]) (.cond (.tmp 84) (.seq (.seq (.ops [m 86 7,k 87 86,F 88 4 1 87,c1 89 22 88,
 b 90 .eql 89 0]) (.cond (.tmp 90) (.seq (.ops [i 9 1]) (.exit 0)) .skip)) (.ops [m 91 7,k 92 91,F 93 4 1 92,c1 94 23 93,S 2 8 94])) (.seq (.ops [m 46 7,L 47 4 11,c2 48 24 46 47,
 m 9 48]) (.seq (.ops [m 49 9,b 50 .neq 49 0]) (.cond (.tmp 50) (.exit 0) .skip)))))))))))))))))))) (.seq (.ops [m 95 9,m 96 7,k 97 96,f 98 7 1 97,l 99 1 98,⟨some 100,none,
 .see .b2s [.tmp 99]⟩,m 101 10,⟨(some 102),none,(.bld [(.int .i64 0),(.string ⟨#[]⟩),(.int .i64 0)] [(0,(1,(.tmp 95))),(1,(1,(.tmp 100))),(2,(1,(.tmp 101)))])⟩,
 S 3 6 102]) .ret)))))))
theorem f_stack_Run : compF Tryz.prog 7 = some (103, c_stack_Run, [(.cell 6 true 3)]) := by kernel_rfl
def c_exec_Run:VC:=(.seq (.ops [X 3 29 0,⟨(some 6),none,(.alc 34 [(.int .i64 0),(.string ⟨#[]⟩),
 (.int .i64 0)])⟩]) (.seq (.par false (.one (L 8 2 3) (.one (m 9 1) (.one (L 10 2 3) (.one (c1 11 26 10) (.one (m 12 2) (.one (c4 13 25 8 9 11 12) (.one ⟨(some 7),none,
 (.alc 83 [(.int .i64 0),(.int .u32 0),(.int .u32 0),(.int .u32 0),(.int .u32 0),(.int .u32 0),(.int .u32 0),(.int .u32 0),(.int .u32 0),(.int .u32 0),(.int .u32 0),(.int .u32 0),
 (.int .u32 0),(.int .u32 0),(.int .u32 0),(.int .u32 0),(.int .u32 0),(.slice none 0 0),(.int .i64 0),(.string ⟨#[]⟩),(.int .i64 0),
 (.int .i64 0)])⟩ (.one (S 22 7 13) .done))))))))) (.seq (.seq (.ops [f 14 21 1 7,l 15 1 14,b 16 .eql 15 0]) (.cond (.tmp 16) (.ops [f 17 21 1 7,⟨none,none,
 .sto false 1 (.tmp 17) (.const (.int .i64 5))⟩]) .skip)) (.seq (.ops [f 18 21 1 7,l 19 1 18,f 20 19 1 7,l 21 1 20,f 22 20 1 7,l 23 1 22,⟨(some 24),none,(.bld [(.int .i64 0),
 (.string ⟨#[]⟩),(.int .i64 0)] [(0,(1,(.tmp 19))),(1,(1,(.tmp 21))),(2,(1,(.tmp 23)))])⟩,S 3 6 24]) .ret))))
theorem f_exec_Run : compF Tryz.prog 8 = some (25, c_exec_Run, [(.cell 6 true 3)]) := by kernel_rfl
def c_scref22_Fuel:VC:=(.seq (.ops [X 2 24 0,i 4 0]) (.seq (.ops [m 5 1,b 6 .add 5 1,f 7 0 1 2,l 8 1 7,⟨some 9,none,.bin .mul (.const (.int .i64 8)) (.tmp 8)⟩,⟨some 10,none,
 .bin .add (.const (.int .i64 64)) (.tmp 9)⟩,B 11 .mul 6 10,m 4 11]) .ret))
theorem f_scref22_Fuel : compF Tryz.prog 9 = some (12, c_scref22_Fuel, [.tmp 4]) := by kernel_rfl
def c_sclaw22_plain:VC:=(.seq (.ops [⟨some 0,none,.alc 24 [.int .i64 0,.slice none 0 0]⟩]) (.seq (.ops [⟨some 1,none,.bld [.int .i64 0,.int .i64 0,.int .i64 0,.int .u32 0] [(0,(1,
 (.const (.int .i64 1)))),(3,(1,(.const (.int .u32 65))))]⟩,⟨some 2,none,.bld [.int .i64 0,.int .i64 0,.int .i64 0,.int .u32 0] [(0,(1,(.const (.int .i64 13))))]⟩,⟨some 3,none,
 .bld [.int .i64 0,.int .i64 0,.int .i64 0,.int .u32 0] [(0,(1,(.const (.int .i64 11))))]⟩,⟨some 4,none,.bsl 71 4 3 [.int .i64 0,.int .i64 0,.int .i64 0,.int .u32 0,.int .i64 0,
 .int .i64 0,.int .i64 0,.int .u32 0,.int .i64 0,.int .i64 0,.int .i64 0,.int .u32 0] [(0,(4,(.tmp 1))),(4,(4,(.tmp 2))),(8,(4,(.tmp 3)))]⟩,⟨some 5,none,.bld [.int .i64 0,
 .int .i64 0,.int .i64 0,.bool false,.slice none 0 0] [(4,(1,(.tmp 4)))]⟩,⟨some 6,none,.bsl 74 5 1 [.int .i64 0,.int .i64 0,.int .i64 0,.bool false,.slice none 0 0] [(0,(5,
 (.tmp 5)))]⟩,⟨some 7,none,.bld [.int .i64 0,.slice none 0 0] [(1,(1,(.tmp 6)))]⟩,S 2 0 7]) .ret))
theorem f_sclaw22_plain : compF Tryz.prog 10 = some (8, c_sclaw22_plain, [(.cell 0 true 2)]) := by kernel_rfl
def c_scref10_Ends:VC:=(.seq (.ops [X 2 34 0,X 3 34 1,o 4 false]) (.seq (.ops [f 5 0 1 2,l 6 1 5,f 7 0 1 3,l 8 1 7,B 9 .eql 6 8,m 10 9,⟨some 11,some (10,true),
 .fad 1 false 1 (.tmp 2)⟩,⟨some 12,some (10,true),.ld false 1 (.tmp 11)⟩,⟨some 13,some (10,true),.fad 1 false 1 (.tmp 3)⟩,⟨some 14,some (10,true),.ld false 1 (.tmp 13)⟩,⟨some 15,
 some (10,true),.bin .eql (.tmp 12) (.tmp 14)⟩,⟨some 16,none,.pick (.tmp 10) (.tmp 15) (.const (.bool false))⟩,m 4 16]) .ret))
theorem f_scref10_Ends : compF Tryz.prog 11 = some (17, c_scref10_Ends, [.tmp 4]) := by kernel_rfl
def c_scref10_Run:VC:=(.seq (.ops [X 3 29 0,⟨(some 6),none,(.alc 34 [(.int .i64 0),(.string ⟨#[]⟩),
 (.int .i64 0)])⟩]) (.seq (.par false (.one (L 8 2 3) (.one (m 9 1) (.one (L 10 2 3) (.one (c1 11 28 10) (.one (m 12 2) (.one (c4 13 27 8 9 11 12) (.one ⟨(some 7),none,
 (.alc 83 [(.int .i64 0),(.int .u32 0),(.int .u32 0),(.int .u32 0),(.int .u32 0),(.int .u32 0),(.int .u32 0),(.int .u32 0),(.int .u32 0),(.int .u32 0),(.int .u32 0),(.int .u32 0),
 (.int .u32 0),(.int .u32 0),(.int .u32 0),(.int .u32 0),(.int .u32 0),(.slice none 0 0),(.int .i64 0),(.string ⟨#[]⟩),(.int .i64 0),
 (.int .i64 0)])⟩ (.one (S 22 7 13) .done))))))))) (.seq (.seq (.ops [f 14 21 1 7,l 15 1 14,b 16 .eql 15 0]) (.cond (.tmp 16) (.ops [f 17 21 1 7,⟨none,none,
 .sto false 1 (.tmp 17) (.const (.int .i64 5))⟩]) .skip)) (.seq (.ops [f 18 21 1 7,l 19 1 18,f 20 19 1 7,l 21 1 20,f 22 20 1 7,l 23 1 22,⟨(some 24),none,(.bld [(.int .i64 0),
 (.string ⟨#[]⟩),(.int .i64 0)] [(0,(1,(.tmp 19))),(1,(1,(.tmp 21))),(2,(1,(.tmp 23)))])⟩,S 3 6 24]) .ret))))
theorem f_scref10_Run : compF Tryz.prog 12 = some (25, c_scref10_Run, [(.cell 6 true 3)]) := by kernel_rfl
def c_scref20_Few:VC:=(.seq (.ops [X 2 24 0,o 4 false]) (.seq (.ops [f 5 1 1 2,l 6 1 5,n 7 6,b 8 .leq 7 70,m 9 8,⟨some 10,some (9,true),.ld true 2 (.tmp 2)⟩,⟨some 11,some (9,true),
 .call (.func 29) [.tmp 10]⟩,⟨some 12,some (9,true),.mv (.tmp 1)⟩,⟨some 13,some (9,true),.bin .leq (.tmp 11) (.tmp 12)⟩,⟨some 14,none,
 .pick (.tmp 9) (.tmp 13) (.const (.bool false))⟩,m 4 14]) .ret))
theorem f_scref20_Few : compF Tryz.prog 13 = some (15, c_scref20_Few, [.tmp 4]) := by kernel_rfl
def c_scref20_Right:VC:=(.seq (.ops [X 1 24 0,o 2 false]) (.seq (.seq (.ops [f 9 0 1 1,l 10 1 9,b 11 .lss 10 0,m 12 11,⟨some 13,some (12,false),.fad 0 false 1 (.tmp 1)⟩,⟨some 14,
 some (12,false),.ld false 1 (.tmp 13)⟩,⟨some 15,some (12,false),.bin .gtr (.tmp 14) (.const (.int .i64 32768))⟩,⟨some 16,none,.pick (.tmp 12) (.const (.bool true)) (.tmp 15)⟩,
 m 17 16,⟨some 18,some (17,false),.fad 1 false 1 (.tmp 1)⟩,⟨some 19,some (17,false),.ld false 1 (.tmp 18)⟩,⟨some 20,some (17,false),.len (.tmp 19)⟩,⟨some 21,some (17,false),
 .bin .lss (.tmp 20) (.const (.int .i64 1))⟩,⟨some 22,none,.pick (.tmp 17) (.const (.bool true)) (.tmp 21)⟩,m 23 22,⟨some 24,some (23,false),.fad 1 false 1 (.tmp 1)⟩,⟨some 25,
 some (23,false),.ld false 1 (.tmp 24)⟩,⟨some 26,some (23,false),.len (.tmp 25)⟩,⟨some 27,some (23,false),.bin .gtr (.tmp 26) (.const (.int .i64 64))⟩,⟨some 28,none,
 .pick (.tmp 23) (.const (.bool true)) (.tmp 27)⟩]) (.cond (.tmp 28) (.seq (.ops [o 2 false]) .ret) .skip)) (.seq (.seq (.ops [i 3 0]) (.block 0 (.loop (.seq (.seq (.ops [m 29 3,
 f 30 1 1 1,l 31 1 30,n 32 31,B 33 .lss 29 32]) (.cond (.tmp 33) .skip (.exit 0))) (.seq (.block 1 (.seq (.ops [f 36 1 1 1,l 37 1 36,m 38 3,x 39 5 37 38,L 40 5 39,⟨some 4,none,
 .alc 74 [.int .i64 0,.int .i64 0,.int .i64 0,.bool false,.slice none 0 0]⟩,S 5 4 40]) (.seq (.seq (.ops [f 41 0 1 4,l 42 1 41,b 43 .lss 42 0,m 44 43,⟨some 45,some (44,false),
 .fad 0 false 1 (.tmp 4)⟩,⟨some 46,some (44,false),.ld false 1 (.tmp 45)⟩,⟨some 47,some (44,false),.fad 1 false 1 (.tmp 4)⟩,⟨some 48,some (44,false),.ld false 1 (.tmp 47)⟩,⟨some 49,
 some (44,false),.bin .gtr (.tmp 46) (.tmp 48)⟩,⟨some 50,none,.pick (.tmp 44) (.const (.bool true)) (.tmp 49)⟩,m 51 50,⟨some 52,some (51,false),.fad 2 false 1 (.tmp 4)⟩,⟨some 53,
 some (51,false),.ld false 1 (.tmp 52)⟩,⟨some 54,some (51,false),.bin .lss (.tmp 53) (.const (.int .i64 0))⟩,⟨some 55,none,.pick (.tmp 51) (.const (.bool true)) (.tmp 54)⟩,m 56 55,
 ⟨some 57,some (56,false),.fad 1 false 1 (.tmp 4)⟩,⟨some 58,some (56,false),.ld false 1 (.tmp 57)⟩,⟨some 59,some (56,false),.fad 0 false 1 (.tmp 1)⟩,⟨some 60,some (56,false),
 .ld false 1 (.tmp 59)⟩,⟨some 61,some (56,false),.bin .gtr (.tmp 58) (.tmp 60)⟩,⟨some 62,none,.pick (.tmp 56) (.const (.bool true)) (.tmp 61)⟩,m 63 62,⟨some 64,some (63,false),
 .fad 2 false 1 (.tmp 4)⟩,⟨some 65,some (63,false),.ld false 1 (.tmp 64)⟩,⟨some 66,some (63,false),.fad 0 false 1 (.tmp 1)⟩,⟨some 67,some (63,false),.ld false 1 (.tmp 66)⟩,⟨some 68,
 some (63,false),.fad 1 false 1 (.tmp 4)⟩,⟨some 69,some (63,false),.ld false 1 (.tmp 68)⟩,⟨some 70,some (63,false),.bin .sub (.tmp 67) (.tmp 69)⟩,⟨some 71,some (63,false),
 .bin .gtr (.tmp 65) (.tmp 70)⟩,⟨some 72,none,
 .pick (.tmp 63) (.const (.bool true)) (.tmp 71)⟩]) (.cond (.tmp 72) (.seq (.ops [o 2 false]) .ret) .skip)) (.seq (.seq (.ops [i 5 0]) (.block 2 (.loop (.seq (.seq (.ops [m 73 5,
 f 74 4 1 4,l 75 1 74,n 76 75,B 77 .lss 73 76]) (.cond (.tmp 77) .skip (.exit 2))) (.seq (.block 3 (.seq (.ops [L 80 2 1,m 81 3,f 82 4 1 4,l 83 1 82,m 84 5,x 85 4 83 84,L 86 4 85,
 c3 87 30 80 81 86,⟨some 88,none,.un .not (.tmp 87)⟩]) (.cond (.tmp 88) (.seq (.ops [o 2 false]) .ret) .skip))) (.ops [m 78 5,b 79 .add 78 1,m 5 79])))))) (.seq (.ops [L 90 2 1,
 m 91 3,c2 92 31 90 91,m 89 92,e 93 89 0,e 94 89 1,m 6 93,m 7 94]) (.seq (.ops [m 95 7,⟨some 96,none,
 .un .not (.tmp 95)⟩]) (.cond (.tmp 96) (.seq (.ops [o 2 false]) .ret) .skip))))))) (.ops [m 34 3,b 35 .add 34 1,m 3 35])))))) (.seq (.ops [f 97 1 1 1,l 98 1 97,f 99 1 1 1,
 l 100 1 99,n 101 100,b 102 .sub 101 1,x 103 5 98 102,L 104 5 103,⟨some 8,none,.alc 74 [.int .i64 0,.int .i64 0,.int .i64 0,.bool false,.slice none 0 0]⟩,
 S 5 8 104]) (.seq (.ops [f 105 0 1 8,l 106 1 105,b 107 .eql 106 0,m 108 107,⟨some 109,some (108,true),.fad 3 false 1 (.tmp 8)⟩,⟨some 110,some (108,true),.ld false 1 (.tmp 109)⟩,
 ⟨some 111,some (108,true),.un .not (.tmp 110)⟩,⟨some 112,none,.pick (.tmp 108) (.tmp 111) (.const (.bool false))⟩,m 2 112]) .ret)))))
theorem f_scref20_Right : compF Tryz.prog 14 = some (113, c_scref20_Right, [.tmp 2]) := by kernel_rfl
def c_sclaw22_handed:VC:=(.seq (.ops [X 1 24 0,i 2 0]) (.seq (.ops [i 3 0]) (.seq (.seq (.ops [i 4 0]) (.block 0 (.loop (.seq (.seq (.ops [m 7 4,f 8 1 1 1,l 9 1 8,n 10 9,
 B 11 .lss 7 10]) (.cond (.tmp 11) .skip (.exit 0))) (.seq (.block 1 (.seq (.ops [i 5 0]) (.block 2 (.loop (.seq (.seq (.ops [m 14 5,f 15 1 1 1,l 16 1 15,m 17 4,x 18 5 16 17,
 f 19 4 1 18,l 20 1 19,n 21 20,B 22 .lss 14 21]) (.cond (.tmp 22) .skip (.exit 2))) (.seq (.block 3 (.seq (.ops [f 25 1 1 1,l 26 1 25,m 27 4,x 28 5 26 27,f 29 4 1 28,l 30 1 29,
 m 31 5,x 32 4 30 31,L 33 4 32,⟨some 6,none,.alc 71 [.int .i64 0,.int .i64 0,.int .i64 0,.int .u32 0]⟩,S 4 6 33]) (.seq (.ops [f 34 0 1 6,l 35 1 34,
 b 36 .eql 35 10]) (.cond (.tmp 36) (.ops [m 37 3,f 38 1 1 1,l 39 1 38,f 40 1 1 6,l 41 1 40,x 42 5 39 41,f 43 0 1 42,l 44 1 43,B 45 .add 37 44,m 3 45]) .skip)))) (.ops [m 23 5,
 b 24 .add 23 1,m 5 24]))))))) (.ops [m 12 4,b 13 .add 12 1,m 4 13])))))) (.seq (.ops [m 46 3,m 2 46]) .ret))))
theorem f_sclaw22_handed : compF Tryz.prog 15 = some (47, c_sclaw22_handed, [.tmp 2]) := by kernel_rfl
def c_emit_planOf:VC:=(.seq (.ops [X 1 24 0,⟨some 2,none,.alc 46 [.slice none 0 0,.slice none 0 0,.slice none 0 0,.int .i64 0]⟩]) (.seq (.ops [f 11 0 1 1,l 12 1 11,⟨some 13,none,
 .bld [.slice none 0 0,.slice none 0 0,.slice none 0 0,.int .i64 0] [(3,(1,(.tmp 12)))]⟩,⟨some 3,none,.alc 46 [.slice none 0 0,.slice none 0 0,.slice none 0 0,.int .i64 0]⟩,
 S 4 3 13]) (.seq (.ops [f 14 1 1 1,l 15 1 14,n 16 15,b 17 .sub 16 1,m 4 17]) (.seq (.seq (.ops [f 18 1 1 1,l 19 1 18,n 20 19,
 i 21 0]) (.block 0 (.loop (.seq (.ops [B 22 .lss 21 20]) (.seq (.cond (.tmp 22) .skip (.exit 0)) (.seq (.block 1 (.seq (.ops [m 23 21,m 5 23]) (.seq (.ops [L 25 2 1,m 26 5,
 c2 27 32 25 26,m 24 27,e 28 24 0,e 29 24 1,m 6 28,m 7 29]) (.seq (.ops [f 30 0 1 3,l 31 1 30,m 32 6,⟨some 33,none,.bsl 44 1 1 [.slice none 0 0] [(0,(1,(.tmp 32)))]⟩,⟨some 34,none,
 .app 44 1 24 (.tmp 31) (.tmp 33)⟩,f 35 0 1 3,s 1 35 34]) (.seq (.ops [f 36 1 1 3,l 37 1 36,f 38 3 1 3,l 39 1 38,⟨some 40,none,.bsl 3 1 1 [.int .i64 0] [(0,(1,(.tmp 39)))]⟩,
 ⟨some 41,none,.app 3 1 8 (.tmp 37) (.tmp 40)⟩,f 42 1 1 3,s 1 42 41]) (.seq (.seq (.ops [m 43 5,m 44 4,B 45 .neq 43 44]) (.cond (.tmp 45) (.ops [f 46 3 1 3,l 47 1 46,b 48 .add 47 1,
 f 49 3 1 3,s 1 49 48]) .skip)) (.seq (.ops [f 50 2 1 3,l 51 1 50,f 52 3 1 3,l 53 1 52,⟨some 54,none,.bsl 3 1 1 [.int .i64 0] [(0,(1,(.tmp 53)))]⟩,⟨some 55,none,
 .app 3 1 8 (.tmp 51) (.tmp 54)⟩,f 56 2 1 3,s 1 56 55]) (.seq (.ops [i 8 0]) (.seq (.seq (.ops [m 57 6,n 58 57,
 i 59 0]) (.block 2 (.loop (.seq (.ops [B 60 .lss 59 58]) (.seq (.cond (.tmp 60) .skip (.exit 2)) (.seq (.block 3 (.seq (.ops [x 61 1 57 59,l 62 1 61,m 10 62]) (.ops [m 63 8,
 m 64 10,⟨some 65,none,.pur .mx [.tmp 63,.tmp 64]⟩,m 8 65]))) (.ops [b 66 .add 59 1,m 59 66]))))))) (.ops [f 67 3 1 3,l 68 1 67,m 69 8,B 70 .add 68 69,f 71 3 1 3,
 s 1 71 70])))))))))) (.ops [b 72 .add 21 1,m 21 72]))))))) (.seq (.ops [L 73 4 3,S 4 2 73]) .ret)))))
theorem f_emit_planOf : compF Tryz.prog 16 = some (74, c_emit_planOf, [(.cell 2 true 4)]) := by kernel_rfl
def c_emit_generator_whole:VC:=(.seq (.ops [⟨some 2,none,.mv (.const (.slice none 0 0))⟩]) (.seq (.ops [c0 9 33,m 3 9]) (.seq (.ops [m 10 0,k 11 10,F 12 0 2 11,f 13 1 1 12,
 l 14 1 13,n 15 14,b 16 .sub 15 1,m 4 16]) (.seq (.ops [m 17 0,⟨some 18,none,.call (.func 34) [(.tmp 17),(.const (.int .i64 1)),(.const (.int .i64 15)),(.const (.int .i64 0)),
 (.const (.int .i64 1))]⟩]) (.seq (.ops [m 19 0,m 20 4,m 21 3,c3 22 35 19 20 21]) (.seq (.seq (.ops [m 23 4,
 i 24 0]) (.block 0 (.loop (.seq (.ops [B 25 .lss 24 23]) (.seq (.cond (.tmp 25) .skip (.exit 0)) (.seq (.block 1 (.seq (.ops [m 26 24,m 5 26]) (.ops [m 27 0,m 28 5,m 29 3,
 c3 30 35 27 28 29]))) (.ops [b 31 .add 24 1,m 24 31]))))))) (.seq (.ops [m 32 0,k 33 32,f 34 6 1 33,l 35 1 34,n 36 35,⟨some 37,none,.mk 55 4 32 [.int .i64 0,.int .i64 0,
 .int .i64 0,.int .i64 0] (.tmp 36) (.tmp 36)⟩,m 6 37]) (.seq (.ops [m 38 6,m 39 0,k 40 39,f 41 6 1 40,l 42 1 41,⟨some 43,none,.eff (.cpy 4) [.tmp 38,
 .tmp 42]⟩]) (.seq (.seq (.ops [m 44 0,k 45 44,f 46 9 1 45,l 47 1 46,n 48 47,
 i 49 0]) (.block 2 (.loop (.seq (.ops [B 50 .lss 49 48]) (.seq (.cond (.tmp 50) .skip (.exit 2)) (.seq (.block 3 (.seq (.ops [x 51 3 47 49,L 52 3 51,⟨some 8,none,
 .alc 94 [.int .i64 0,.int .i64 0,.int .i64 0]⟩,S 3 8 52]) (.seq (.ops [m 53 6,f 54 0 1 8,l 55 1 54,m 56 0,k 57 56,f 58 7 1 57,l 59 1 58,f 60 1 1 8,l 61 1 60,x 62 1 59 61,l 63 1 62,
 x 64 4 53 55,f 65 3 1 64,s 1 65 63]) (.seq (.ops [f 66 2 1 8,l 67 1 66,b 68 .geq 67 0]) (.cond (.tmp 68) (.ops [m 69 6,f 70 0 1 8,l 71 1 70,m 72 0,k 73 72,f 74 8 1 73,l 75 1 74,
 f 76 1 1 8,l 77 1 76,x 78 1 75 77,l 79 1 78,f 80 2 1 8,l 81 1 80,x 82 1 79 81,l 83 1 82,x 84 4 69 71,f 85 3 1 84,s 1 85 83]) .skip))))) (.ops [b 86 .add 49 1,
 m 49 86]))))))) (.seq (.ops [m 87 6,m 2 87]) .ret))))))))))
theorem f_emit_generator_whole : compF Tryz.prog 17 = some (88, c_emit_generator_whole, [.tmp 2]) := by kernel_rfl
def c_inst_Encode:VC:=(.seq (.ops [X 1 55 0,⟨some 2,none,.mv (.const (.int .u32 0))⟩,i 3 0]) (.seq (.seq (.ops [L 4 4 1,c1 5 36 4,⟨some 6,none,
 .un .not (.tmp 5)⟩]) (.cond (.tmp 6) (.seq (.ops [⟨some 2,none,.mv (.const (.int .u32 0))⟩,i 3 1]) .ret) .skip)) (.seq (.ops [f 7 0 1 1,l 8 1 7,⟨some 9,none,.conv .u32 (.tmp 8)⟩,
 ⟨some 10,none,.bin .shl (.tmp 9) (.const (.int .u64 24))⟩,f 11 1 1 1,l 12 1 11,⟨some 13,none,.conv .u32 (.tmp 12)⟩,⟨some 14,none,.bin .shl (.tmp 13) (.const (.int .u64 20))⟩,
 B 15 .or 10 14,f 16 2 1 1,l 17 1 16,⟨some 18,none,.conv .u32 (.tmp 17)⟩,⟨some 19,none,.bin .shl (.tmp 18) (.const (.int .u64 16))⟩,B 20 .or 15 19,f 21 3 1 1,l 22 1 21,⟨some 23,
 none,.conv .u32 (.tmp 22)⟩,B 24 .or 20 23,m 2 24,i 3 0]) .ret)))
theorem f_inst_Encode : compF Tryz.prog 18 = some (25, c_inst_Encode, [.tmp 2,.tmp 3]) := by kernel_rfl
def c_stack_pile_uint32_pop:VC:=(.seq (.ops [⟨some 2,none,.mv (.const (.int .u32 0))⟩]) (.seq (.ops [m 5 0,k 6 5,f 7 0 1 6,l 8 1 7,n 9 8,b 10 .sub 9 1,m 3 10]) (.seq (.ops [m 11 0,
 k 12 11,f 13 0 1 12,l 14 1 13,m 15 3,x 16 1 14 15,l 17 1 16,m 4 17]) (.seq (.ops [m 18 0,m 19 0,k 20 19,f 21 0 1 20,l 22 1 21,m 23 3,⟨some 24,none,
 .sl 1 (.tmp 22) none (some (.tmp 23))⟩,k 25 18,f 26 0 1 25,s 1 26 24]) (.seq (.ops [m 27 4,m 2 27]) .ret)))))
theorem f_stack_pile_uint32_pop : compF Tryz.prog 19 = some (28, c_stack_pile_uint32_pop, [.tmp 2]) := by kernel_rfl
def c_stack_machine_enter:VC:=(.seq (.ops [X 3 74 1]) (.seq (.ops [m 5 0,k 6 5,f 7 2 1 6,l 8 1 7,f 9 2 1 3,l 10 1 9,f 11 2 1 3,l 12 1 11,f 13 1 1 3,l 14 1 13,B 15 .add 12 14,
 ⟨some 16,none,.sl 1 (.tmp 8) (some (.tmp 10)) (some (.tmp 15))⟩,m 4 16]) (.seq (.ops [m 17 4,⟨none,none,
 .eff (.clr (.int .u32 0)) [.tmp 17]⟩]) (.par false (.one (m 18 4) (.one (m 19 0) (.one (k 20 19) (.one (F 21 3 1 20) (.one (f 22 0 1 3) (.one (l 23 1 22) (.one ⟨some 24,none,
 .callM true (.func 37) [.tmp 21,.tmp 23]⟩ (.one ⟨some 25,none,.eff (.cpy 1) [.tmp 18,.tmp 24]⟩ .done))))))))))))
theorem f_stack_machine_enter : compF Tryz.prog 20 = some (26, c_stack_machine_enter, []) := by kernel_rfl

 def c_stack_pile_stack_frame_push:VC:=(.seq (.ops [X 3 69 1]) (.par false (.one (m 4 0) (.one (m 5 0) (.one (k 6 5) (.one (f 7 0 1 6) (.one (l 8 1 7) (.one (L 9 2 3) (.one ⟨some 10,
 none,.bsl 69 2 1 [.int .i64 0,.int .i64 0] [(0,(2,(.tmp 9)))]⟩ (.one ⟨some 11,none,
 .app 69 2 16 (.tmp 8) (.tmp 10)⟩ (.one (k 12 4) (.one (f 13 0 1 12) (.one (s 1 13 11) .done)))))))))))))
theorem f_stack_pile_stack_frame_push : compF Tryz.prog 21 = some (14, c_stack_pile_stack_frame_push, []) := by kernel_rfl
def c_stack_pile_stack_frame_size:VC:=(.seq (.ops [i 2 0]) (.seq (.ops [m 3 0,k 4 3,f 5 0 1 4,l 6 1 5,n 7 6,m 2 7]) .ret))
theorem f_stack_pile_stack_frame_size : compF Tryz.prog 22 = some (8, c_stack_pile_stack_frame_size, [.tmp 2]) := by kernel_rfl
def c_stack_pile_stack_frame_pop:VC:=(.seq (.ops [⟨some 2,none,.alc 69 [.int .i64 0,.int .i64 0]⟩]) (.seq (.ops [m 5 0,k 6 5,f 7 0 1 6,l 8 1 7,n 9 8,b 10 .sub 9 1,
 m 3 10]) (.seq (.ops [m 11 0,k 12 11,f 13 0 1 12,l 14 1 13,m 15 3,x 16 2 14 15,L 17 2 16,⟨some 4,none,.alc 69 [.int .i64 0,.int .i64 0]⟩,S 2 4 17]) (.seq (.ops [m 18 0,m 19 0,
 k 20 19,f 21 0 1 20,l 22 1 21,m 23 3,⟨some 24,none,.sl 2 (.tmp 22) none (some (.tmp 23))⟩,k 25 18,f 26 0 1 25,s 1 26 24]) (.seq (.ops [L 27 2 4,S 2 2 27]) .ret)))))
theorem f_stack_pile_stack_frame_pop : compF Tryz.prog 23 = some (28, c_stack_pile_stack_frame_pop, [(.cell 2 true 2)]) := by kernel_rfl
def c_stack_machine_do:VC:=(.seq (.ops [X 3 71 1,i 4 0]) (.seq (.seq (.ops [f 13 0 1 3,l 14 1 13]) (.block 0 (.seq (.ops [b 16 .eql 14 1,m 15 16]) (.cond (.tmp 15) (.ops [m 17 0,
 k 18 17,F 19 3 1 18,f 20 3 1 3,l 21 1 20,⟨some 22,none,.callM false (.func 38) [.tmp 19,.tmp 21]⟩]) (.seq (.ops [b 24 .eql 14 2,m 23 24]) (.cond (.tmp 23) (.ops [m 25 0,k 26 25,
 F 27 3 1 26,m 28 0,k 29 28,f 30 2 1 29,l 31 1 30,f 32 1 1 3,l 33 1 32,x 34 1 31 33,l 35 1 34,⟨some 36,none,.callM false (.func 38) [.tmp 27,.tmp 35]⟩]) (.seq (.ops [b 38 .eql 14 3,
 m 37 38]) (.cond (.tmp 37) (.par false (.one (m 39 0) (.one (k 40 39) (.one (f 41 2 1 40) (.one (f 43 1 1 3) (.one (m 45 0) (.one (k 46 45) (.one (F 47 3 1 46) (.both (.one (l 42 1 41) (.both (.one (l 44 1 43) (.one ⟨some 48,
 none,.callM true (.func 19) [.tmp 47]⟩ (.one (x 49 1 42 44) (.one (s 1 49 48) .done)))) (.one ⟨some 48,none,
 .callM true (.func 19) [.tmp 47]⟩ (.one (l 44 1 43) (.one (x 49 1 42 44) (.one (s 1 49 48) .done)))))) (.both (.one (l 44 1 43) (.both (.one (l 42 1 41) (.one ⟨some 48,none,
 .callM true (.func 19) [.tmp 47]⟩ (.one (x 49 1 42 44) (.one (s 1 49 48) .done)))) (.one ⟨some 48,none,
 .callM true (.func 19) [.tmp 47]⟩ (.one (l 42 1 41) (.one (x 49 1 42 44) (.one (s 1 49 48) .done)))))) (.one ⟨some 48,none,
 .callM true (.func 19) [.tmp 47]⟩ (.one (l 42 1 41) (.one (l 44 1 43) (.one (x 49 1 42 44) (.one (s 1 49 48) .done))))))))))))))) (.seq (.ops [b 51 .eql 14 4,
 m 50 51]) (.cond (.tmp 50) (.seq (.ops [m 52 0,k 53 52,F 54 3 1 53,⟨some 55,none,.callM true (.func 19) [.tmp 54]⟩,m 5 55]) (.seq (.seq (.ops [m 56 5,⟨some 57,none,
 .conv .u64 (.tmp 56)⟩,f 58 2 1 3,l 59 1 58,⟨some 60,none,.conv .u64 (.tmp 59)⟩,B 61 .geq 57 60]) (.cond (.tmp 61) (.seq (.ops [i 4 3]) .ret) .skip)) (.ops [m 62 0,k 63 62,
 F 64 3 1 63,m 65 0,k 66 65,f 67 2 1 66,l 68 1 67,f 69 1 1 3,l 70 1 69,m 71 5,⟨some 72,none,.conv .i64 (.tmp 71)⟩,B 73 .add 70 72,x 74 1 68 73,l 75 1 74,⟨some 76,none,
 .callM false (.func 38) [.tmp 64,.tmp 75]⟩]))) (.seq (.ops [b 78 .eql 14 5,m 77 78]) (.cond (.tmp 77) (.seq (.ops [m 79 0,k 80 79,F 81 3 1 80,⟨some 82,none,
 .callM true (.func 19) [.tmp 81]⟩,m 6 82]) (.seq (.ops [m 83 0,k 84 83,F 85 3 1 84,⟨some 86,none,.callM true (.func 19) [.tmp 85]⟩,m 7 86]) (.seq (.seq (.ops [m 87 7,⟨some 88,none,
 .conv .u64 (.tmp 87)⟩,f 89 2 1 3,l 90 1 89,⟨some 91,none,.conv .u64 (.tmp 90)⟩,B 92 .geq 88 91]) (.cond (.tmp 92) (.seq (.ops [i 4 3]) .ret) .skip)) (.ops [m 93 0,k 94 93,
 f 95 2 1 94,l 96 1 95,f 97 1 1 3,l 98 1 97,m 99 7,⟨some 100,none,.conv .i64 (.tmp 99)⟩,B 101 .add 98 100,m 102 6,x 103 1 96 101,s 1 103 102])))) (.seq (.ops [b 105 .eql 14 6,
 m 104 105]) (.cond (.tmp 104) (.seq (.ops [m 106 0,k 107 106,F 108 3 1 107,⟨some 109,none,.callM true (.func 19) [.tmp 108]⟩,m 8 109]) (.seq (.ops [m 110 0,k 111 110,F 112 3 1 111,
 ⟨some 113,none,.callM true (.func 19) [.tmp 112]⟩,m 9 113]) (.seq (.ops [f 115 1 1 3,l 116 1 115,m 117 9,m 118 8,c3 119 39 116 117 118,m 114 119,e 120 114 0,e 121 114 1,m 10 120,
 m 11 121]) (.seq (.seq (.ops [m 122 11,b 123 .neq 122 0]) (.cond (.tmp 123) (.seq (.ops [i 4 2]) .ret) .skip)) (.ops [m 124 0,k 125 124,F 126 3 1 125,m 127 10,⟨some 128,none,
 .callM false (.func 38) [.tmp 126,.tmp 127]⟩]))))) (.seq (.ops [b 130 .eql 14 7,
 m 129 130]) (.cond (.tmp 129) (.par false (.one (m 131 0) (.one (k 132 131) (.one (F 133 3 1 132) (.one (m 134 0) (.one (k 135 134) (.one (F 136 3 1 135) (.one ⟨some 137,none,
 .callM true (.func 19) [.tmp 136]⟩ (.one ⟨some 138,none,.callM true (.func 40) [.tmp 137]⟩ (.one ⟨some 139,none,.callM false (.func 38) [.tmp 133,
 .tmp 138]⟩ .done)))))))))) (.seq (.ops [b 141 .eql 14 12,
 m 140 141]) (.cond (.tmp 140) (.par false (.one (m 142 0) (.one (k 143 142) (.one (F 144 3 1 143) (.one (m 145 0) (.one ⟨some 146,none,
 .callM true (.func 41) [.tmp 145]⟩ (.one ⟨some 147,none,.callM false (.func 38) [.tmp 144,.tmp 146]⟩ .done))))))) (.seq (.ops [b 149 .eql 14 13,
 m 148 149]) (.cond (.tmp 148) (.seq (.ops [m 150 0,k 151 150,F 152 3 1 151,⟨some 153,none,.callM true (.func 19) [.tmp 152]⟩,m 12 153]) (.seq (.seq (.ops [m 154 0,k 155 154,
 f 156 7 1 155,l 157 1 156,n 158 157,b 159 .geq 158 65536]) (.cond (.tmp 159) (.seq (.ops [i 4 4]) .ret) .skip)) (.ops [m 160 0,m 161 0,k 162 161,f 163 7 1 162,l 164 1 163,m 165 12,
 ⟨some 166,none,.conv .u8 (.tmp 165)⟩,⟨some 167,none,.bsl 5 1 1 [.int .u8 0] [(0,(1,(.tmp 166)))]⟩,⟨some 168,none,.app 5 1 1 (.tmp 164) (.tmp 167)⟩,k 169 160,f 170 7 1 169,
 s 1 170 168]))) .skip)))))))))))))))))))) (.seq (.ops [i 4 0]) .ret)))
theorem f_stack_machine_do : compF Tryz.prog 24 = some (171, c_stack_machine_do, [.tmp 4]) := by kernel_rfl
def c_exec_Go:VC:=(.seq (.ops [X 4 29 0,X 6 83 2,⟨(some 8),none,(.alc 83 [(.int .i64 0),(.int .u32 0),(.int .u32 0),(.int .u32 0),(.int .u32 0),(.int .u32 0),(.int .u32 0),
 (.int .u32 0),(.int .u32 0),(.int .u32 0),(.int .u32 0),(.int .u32 0),(.int .u32 0),(.int .u32 0),(.int .u32 0),(.int .u32 0),(.int .u32 0),(.slice none 0 0),(.int .i64 0),
 (.string ⟨#[]⟩),(.int .i64 0),(.int .i64 0)])⟩]) (.seq (.ops [L 10 2 4,m 11 1,L 12 22 6,⟨some 13,none,.callA (.func 42) [.tmp 10,.tmp 11,.tmp 12]⟩,
 m 9 13]) (.seq (.seq (.ops [m 14 9,m 15 3,⟨some 16,none,.callA (.func 43) [.tmp 14,.tmp 15]⟩]) (.block 0 (.range (.tmp 16) [17] (.block 1 .skip)))) (.seq (.ops [m 18 9,c1 19 44 18,
 S 22 8 19]) .ret))))
theorem f_exec_Go : compFB Tryz.prog false 25 = some (20, c_exec_Go, [(.cell 8 true 22)]) := by kernel_rfl
def c_machine_Start:VC:=(.seq (.ops [X 1 29 0,⟨(some 2),none,(.alc 83 [(.int .i64 0),(.int .u32 0),(.int .u32 0),(.int .u32 0),(.int .u32 0),(.int .u32 0),(.int .u32 0),
 (.int .u32 0),(.int .u32 0),(.int .u32 0),(.int .u32 0),(.int .u32 0),(.int .u32 0),(.int .u32 0),(.int .u32 0),(.int .u32 0),(.int .u32 0),(.slice none 0 0),(.int .i64 0),
 (.string ⟨#[]⟩),(.int .i64 0),(.int .i64 0)])⟩]) (.seq (.ops [⟨(some 3),none,(.alc 83 [(.int .i64 0),(.int .u32 0),(.int .u32 0),(.int .u32 0),(.int .u32 0),(.int .u32 0),
 (.int .u32 0),(.int .u32 0),(.int .u32 0),(.int .u32 0),(.int .u32 0),(.int .u32 0),(.int .u32 0),(.int .u32 0),(.int .u32 0),(.int .u32 0),(.int .u32 0),(.slice none 0 0),
 (.int .i64 0),(.string ⟨#[]⟩),(.int .i64 0),(.int .i64 0)])⟩]) (.seq (.seq (.ops [f 4 1 1 1,l 5 1 4,b 6 .gtr 5 0,m 7 6,⟨some 8,some (7,true),.fad 1 false 1 (.tmp 1)⟩,⟨some 9,
 some (7,true),.ld false 1 (.tmp 8)⟩,⟨some 10,some (7,true),.bin .leq (.tmp 9) (.const (.int .i64 32768))⟩,⟨some 11,none,
 .pick (.tmp 7) (.tmp 10) (.const (.bool false))⟩]) (.cond (.tmp 11) (.ops [f 12 1 1 1,l 13 1 12,⟨some 14,none,.mk 56 1 4 [.int .u32 0] (.tmp 13) (.tmp 13)⟩,f 15 17 1 3,
 s 1 15 14]) .skip)) (.seq (.ops [L 16 22 3,S 22 2 16]) .ret))))
theorem f_machine_Start : compF Tryz.prog 26 = some (17, c_machine_Start, [(.cell 2 true 22)]) := by kernel_rfl
def c_scref10_Go:VC:=(.seq (.ops [X 4 29 0,X 6 83 2,⟨(some 8),none,(.alc 83 [(.int .i64 0),(.int .u32 0),(.int .u32 0),(.int .u32 0),(.int .u32 0),(.int .u32 0),(.int .u32 0),
 (.int .u32 0),(.int .u32 0),(.int .u32 0),(.int .u32 0),(.int .u32 0),(.int .u32 0),(.int .u32 0),(.int .u32 0),(.int .u32 0),(.int .u32 0),(.slice none 0 0),(.int .i64 0),
 (.string ⟨#[]⟩),(.int .i64 0),(.int .i64 0)])⟩]) (.seq (.ops [L 12 2 4,m 13 1,L 14 22 6,m 15 3,c4 16 45 12 13 14 15,m 11 16,e 17 11 0,e 18 11 1,⟨(some 9),none,
 (.alc 83 [(.int .i64 0),(.int .u32 0),(.int .u32 0),(.int .u32 0),(.int .u32 0),(.int .u32 0),(.int .u32 0),(.int .u32 0),(.int .u32 0),(.int .u32 0),(.int .u32 0),(.int .u32 0),
 (.int .u32 0),(.int .u32 0),(.int .u32 0),(.int .u32 0),(.int .u32 0),(.slice none 0 0),(.int .i64 0),(.string ⟨#[]⟩),(.int .i64 0),(.int .i64 0)])⟩,S 22 9 17,
 m 10 18]) (.seq (.ops [L 19 22 9,S 22 8 19]) .ret)))
theorem f_scref10_Go : compF Tryz.prog 27 = some (20, c_scref10_Go, [(.cell 8 true 22)]) := by kernel_rfl
def c_scref09_Start:VC:=(.seq (.ops [X 1 29 0,⟨(some 2),none,(.alc 83 [(.int .i64 0),(.int .u32 0),(.int .u32 0),(.int .u32 0),(.int .u32 0),(.int .u32 0),(.int .u32 0),
 (.int .u32 0),(.int .u32 0),(.int .u32 0),(.int .u32 0),(.int .u32 0),(.int .u32 0),(.int .u32 0),(.int .u32 0),(.int .u32 0),(.int .u32 0),(.slice none 0 0),(.int .i64 0),
 (.string ⟨#[]⟩),(.int .i64 0),(.int .i64 0)])⟩]) (.seq (.ops [⟨(some 3),none,(.alc 83 [(.int .i64 0),(.int .u32 0),(.int .u32 0),(.int .u32 0),(.int .u32 0),(.int .u32 0),
 (.int .u32 0),(.int .u32 0),(.int .u32 0),(.int .u32 0),(.int .u32 0),(.int .u32 0),(.int .u32 0),(.int .u32 0),(.int .u32 0),(.int .u32 0),(.int .u32 0),(.slice none 0 0),
 (.int .i64 0),(.string ⟨#[]⟩),(.int .i64 0),(.int .i64 0)])⟩]) (.seq (.seq (.ops [f 4 1 1 1,l 5 1 4,b 6 .gtr 5 0,m 7 6,⟨some 8,some (7,true),.fad 1 false 1 (.tmp 1)⟩,⟨some 9,
 some (7,true),.ld false 1 (.tmp 8)⟩,⟨some 10,some (7,true),.bin .leq (.tmp 9) (.const (.int .i64 32768))⟩,⟨some 11,none,
 .pick (.tmp 7) (.tmp 10) (.const (.bool false))⟩]) (.cond (.tmp 11) (.ops [f 12 1 1 1,l 13 1 12,⟨some 14,none,.mk 56 1 4 [.int .u32 0] (.tmp 13) (.tmp 13)⟩,f 15 17 1 3,
 s 1 15 14]) .skip)) (.seq (.ops [L 16 22 3,S 22 2 16]) .ret))))
theorem f_scref09_Start : compF Tryz.prog 28 = some (17, c_scref09_Start, [(.cell 2 true 22)]) := by kernel_rfl
def c_scref20_Size:VC:=(.seq (.ops [X 1 24 0,i 2 0]) (.seq (.ops [i 3 0]) (.seq (.seq (.ops [i 4 0]) (.block 0 (.loop (.seq (.seq (.ops [m 5 4,f 6 1 1 1,l 7 1 6,n 8 7,
 B 9 .lss 5 8]) (.cond (.tmp 9) .skip (.exit 0))) (.seq (.block 1 (.ops [m 12 3,f 13 1 1 1,l 14 1 13,m 15 4,x 16 5 14 15,f 17 4 1 16,l 18 1 17,n 19 18,B 20 .add 12 19,
 m 3 20])) (.ops [m 10 4,b 11 .add 10 1,m 4 11])))))) (.seq (.ops [m 21 3,m 2 21]) .ret))))
theorem f_scref20_Size : compF Tryz.prog 29 = some (22, c_scref20_Size, [.tmp 2]) := by kernel_rfl
def c_scref20_Fits:VC:=(.seq (.ops [X 3 24 0,X 5 71 2,o 6 false]) (.seq (.seq (.ops [f 7 0 1 5,l 8 1 7,b 9 .neq 8 1,m 10 9,⟨some 11,some (10,true),.fad 3 false 1 (.tmp 5)⟩,
 ⟨some 12,some (10,true),.ld false 1 (.tmp 11)⟩,⟨some 13,some (10,true),.bin .neq (.tmp 12) (.const (.int .u32 0))⟩,⟨some 14,none,.pick (.tmp 10) (.tmp 13) (.const (.bool false))⟩,
 m 15 14,⟨some 16,some (15,false),.fad 0 false 1 (.tmp 5)⟩,⟨some 17,some (15,false),.ld false 1 (.tmp 16)⟩,⟨some 18,some (15,false),.bin .neq (.tmp 17) (.const (.int .i64 4))⟩,
 ⟨some 19,some (15,false),.mv (.tmp 18)⟩,⟨some 20,some (19,true),.fad 0 false 1 (.tmp 5)⟩,⟨some 21,some (19,true),.ld false 1 (.tmp 20)⟩,⟨some 22,some (19,true),
 .bin .neq (.tmp 21) (.const (.int .i64 5))⟩,⟨some 23,some (15,false),.pick (.tmp 19) (.tmp 22) (.const (.bool false))⟩,⟨some 24,some (15,false),.mv (.tmp 23)⟩,⟨some 25,some (24,
 true),.fad 2 false 1 (.tmp 5)⟩,⟨some 26,some (24,true),.ld false 1 (.tmp 25)⟩,⟨some 27,some (24,true),.bin .neq (.tmp 26) (.const (.int .i64 0))⟩,⟨some 28,some (15,false),
 .pick (.tmp 24) (.tmp 27) (.const (.bool false))⟩,⟨some 29,none,
 .pick (.tmp 15) (.const (.bool true)) (.tmp 28)⟩]) (.cond (.tmp 29) (.seq (.ops [o 6 false]) .ret) .skip)) (.seq (.seq (.ops [f 30 0 1 5,
 l 31 1 30]) (.block 0 (.seq (.seq (.ops [b 33 .eql 31 1,m 32 33]) (.cond (.tmp 32) .skip (.seq (.ops [b 34 .eql 31 7,m 32 34]) (.cond (.tmp 32) .skip (.seq (.ops [b 35 .eql 31 11,
 m 32 35]) (.cond (.tmp 32) .skip (.seq (.ops [b 36 .eql 31 12,m 32 36]) (.cond (.tmp 32) .skip (.ops [b 37 .eql 31 13,m 32 37]))))))))) (.cond (.tmp 32) (.seq (.ops [f 38 1 1 5,
 l 39 1 38,b 40 .eql 39 0,m 6 40]) .ret) (.seq (.seq (.ops [b 42 .eql 31 2,m 41 42]) (.cond (.tmp 41) .skip (.ops [b 43 .eql 31 3,
 m 41 43]))) (.cond (.tmp 41) (.seq (.ops [f 44 1 1 5,l 45 1 44,b 46 .geq 45 0,m 47 46,⟨some 48,some (47,true),.fad 1 false 1 (.tmp 5)⟩,⟨some 49,some (47,true),
 .ld false 1 (.tmp 48)⟩,⟨some 50,some (47,true),.fad 0 false 1 (.tmp 3)⟩,⟨some 51,some (47,true),.ld false 1 (.tmp 50)⟩,⟨some 52,some (47,true),.bin .lss (.tmp 49) (.tmp 51)⟩,
 ⟨some 53,none,.pick (.tmp 47) (.tmp 52) (.const (.bool false))⟩,m 6 53]) .ret) (.seq (.seq (.ops [b 55 .eql 31 4,m 54 55]) (.cond (.tmp 54) .skip (.ops [b 56 .eql 31 5,
 m 54 56]))) (.cond (.tmp 54) (.seq (.ops [f 57 1 1 5,l 58 1 57,b 59 .geq 58 0,m 60 59,⟨some 61,some (60,true),.fad 2 false 1 (.tmp 5)⟩,⟨some 62,some (60,true),
 .ld false 1 (.tmp 61)⟩,⟨some 63,some (60,true),.bin .geq (.tmp 62) (.const (.int .i64 1))⟩,⟨some 64,none,.pick (.tmp 60) (.tmp 63) (.const (.bool false))⟩,m 65 64,⟨some 66,
 some (65,true),.fad 2 false 1 (.tmp 5)⟩,⟨some 67,some (65,true),.ld false 1 (.tmp 66)⟩,⟨some 68,some (65,true),.bin .leq (.tmp 67) (.const (.int .i64 4096))⟩,⟨some 69,none,
 .pick (.tmp 65) (.tmp 68) (.const (.bool false))⟩,m 70 69,⟨some 71,some (70,true),.fad 1 false 1 (.tmp 5)⟩,⟨some 72,some (70,true),.ld false 1 (.tmp 71)⟩,⟨some 73,some (70,true),
 .fad 0 false 1 (.tmp 3)⟩,⟨some 74,some (70,true),.ld false 1 (.tmp 73)⟩,⟨some 75,some (70,true),.fad 2 false 1 (.tmp 5)⟩,⟨some 76,some (70,true),.ld false 1 (.tmp 75)⟩,⟨some 77,
 some (70,true),.bin .sub (.tmp 74) (.tmp 76)⟩,⟨some 78,some (70,true),.bin .leq (.tmp 72) (.tmp 77)⟩,⟨some 79,none,.pick (.tmp 70) (.tmp 78) (.const (.bool false))⟩,
 m 6 79]) .ret) (.seq (.ops [b 81 .eql 31 6,m 80 81]) (.cond (.tmp 80) (.seq (.ops [f 82 1 1 5,l 83 1 82,b 84 .geq 83 4,m 85 84,⟨some 86,some (85,true),.fad 1 false 1 (.tmp 5)⟩,
 ⟨some 87,some (85,true),.ld false 1 (.tmp 86)⟩,⟨some 88,some (85,true),.bin .leq (.tmp 87) (.const (.int .i64 15))⟩,⟨some 89,none,.pick (.tmp 85) (.tmp 88) (.const (.bool false))⟩,
 m 6 89]) .ret) (.seq (.seq (.ops [b 91 .eql 31 8,m 90 91]) (.cond (.tmp 90) .skip (.ops [b 92 .eql 31 9,m 90 92]))) (.cond (.tmp 90) (.seq (.ops [f 93 1 1 5,l 94 1 93,
 b 95 .geq 94 0,m 96 95,⟨some 97,some (96,true),.fad 1 false 1 (.tmp 5)⟩,⟨some 98,some (96,true),.ld false 1 (.tmp 97)⟩,⟨some 99,some (96,true),.fad 1 false 1 (.tmp 3)⟩,⟨some 100,
 some (96,true),.ld false 1 (.tmp 99)⟩,⟨some 101,some (96,true),.mv (.tmp 1)⟩,⟨some 102,some (96,true),.idx 5 (.tmp 100) (.tmp 101)⟩,⟨some 103,some (96,true),
 .fad 4 false 1 (.tmp 102)⟩,⟨some 104,some (96,true),.ld false 1 (.tmp 103)⟩,⟨some 105,some (96,true),.len (.tmp 104)⟩,⟨some 106,some (96,true),.bin .lss (.tmp 98) (.tmp 105)⟩,
 ⟨some 107,none,.pick (.tmp 96) (.tmp 106) (.const (.bool false))⟩,m 6 107]) .ret) (.seq (.ops [b 109 .eql 31 10,m 108 109]) (.cond (.tmp 108) (.seq (.ops [f 110 1 1 5,l 111 1 110,
 b 112 .geq 111 0,m 113 112,⟨some 114,some (113,true),.fad 1 false 1 (.tmp 5)⟩,⟨some 115,some (113,true),.ld false 1 (.tmp 114)⟩,⟨some 116,some (113,true),.mv (.tmp 1)⟩,⟨some 117,
 some (113,true),.bin .lss (.tmp 115) (.tmp 116)⟩,⟨some 118,none,.pick (.tmp 113) (.tmp 117) (.const (.bool false))⟩,
 m 6 118]) .ret) .skip)))))))))))))) (.seq (.ops [o 6 false]) .ret))))
theorem f_scref20_Fits : compF Tryz.prog 30 = some (119, c_scref20_Fits, [.tmp 6]) := by kernel_rfl
def c_scref20_Depths:VC:=(.seq (.ops [X 2 24 0,⟨some 4,none,.mv (.const (.slice none 0 0))⟩,o 5 false]) (.seq (.seq (.ops [m 18 1,b 19 .lss 18 0,m 20 19,⟨some 21,some (20,false),
 .mv (.tmp 1)⟩,⟨some 22,some (20,false),.fad 1 false 1 (.tmp 2)⟩,⟨some 23,some (20,false),.ld false 1 (.tmp 22)⟩,⟨some 24,some (20,false),.len (.tmp 23)⟩,⟨some 25,some (20,false),
 .bin .geq (.tmp 21) (.tmp 24)⟩,⟨some 26,none,.pick (.tmp 20) (.const (.bool true)) (.tmp 25)⟩,m 27 26,⟨some 28,some (27,false),.fad 1 false 1 (.tmp 2)⟩,⟨some 29,some (27,false),
 .ld false 1 (.tmp 28)⟩,⟨some 30,some (27,false),.mv (.tmp 1)⟩,⟨some 31,some (27,false),.idx 5 (.tmp 29) (.tmp 30)⟩,⟨some 32,some (27,false),.fad 4 false 1 (.tmp 31)⟩,⟨some 33,
 some (27,false),.ld false 1 (.tmp 32)⟩,⟨some 34,some (27,false),.len (.tmp 33)⟩,⟨some 35,some (27,false),.bin .eql (.tmp 34) (.const (.int .i64 0))⟩,⟨some 36,none,
 .pick (.tmp 27) (.const (.bool true)) (.tmp 35)⟩]) (.cond (.tmp 36) (.seq (.ops [⟨some 4,none,.mv (.const (.slice none 0 0))⟩,o 5 false]) .ret) .skip)) (.seq (.ops [f 37 1 1 2,
 l 38 1 37,m 39 1,x 40 5 38 39,f 41 4 1 40,l 42 1 41,m 6 42]) (.seq (.ops [m 43 6,n 44 43,⟨some 45,none,.mk 3 1 8 [.int .i64 0] (.tmp 44) (.tmp 44)⟩,
 m 7 45]) (.seq (.seq (.ops [i 8 0]) (.block 0 (.loop (.seq (.seq (.ops [m 46 8,m 47 7,n 48 47,B 49 .lss 46 48]) (.cond (.tmp 49) .skip (.exit 0))) (.seq (.block 1 (.ops [m 52 7,
 m 53 8,x 54 1 52 53,⟨none,none,.sto false 1 (.tmp 54) (.const (.int .i64 (-1)))⟩])) (.ops [m 50 8,b 51 .add 50 1,m 8 51])))))) (.seq (.ops [m 55 7,⟨some 56,none,
 .idx 1 (.tmp 55) (.const (.int .i64 0))⟩,⟨none,none,.sto false 1 (.tmp 56) (.const (.int .i64 0))⟩]) (.seq (.ops [⟨some 57,none,.bsl 3 1 1 [.int .i64 0] [(0,(1,
 (.const (.int .i64 0))))]⟩,m 9 57]) (.seq (.block 2 (.loop (.seq (.seq (.ops [m 58 9,n 59 58,b 60 .gtr 59 0]) (.cond (.tmp 60) .skip (.exit 2))) (.block 3 (.seq (.ops [m 61 9,
 ⟨some 62,none,.idx 1 (.tmp 61) (.const (.int .i64 0))⟩,l 63 1 62,m 10 63]) (.seq (.ops [m 64 9,⟨some 65,none,.sl 1 (.tmp 64) (some (.const (.int .i64 1))) none⟩,
 m 9 65]) (.seq (.par false (.one (L 67 2 2) (.one (m 68 1) (.one (m 69 6) (.one (m 70 10) (.one (x 71 4 69 70) (.one (L 72 4 71) (.one ⟨some 73,none,
 .callM true (.func 46) [.tmp 67,.tmp 68,
 .tmp 72]⟩ (.one (m 66 73) (.one (e 74 66 0) (.one (e 75 66 1) (.one (e 76 66 2) (.one (m 11 74) (.one (m 12 75) (.one (m 13 76) .done))))))))))))))) (.seq (.seq (.ops [m 77 13,
 ⟨some 78,none,.un .not (.tmp 77)⟩,m 79 78,⟨some 80,some (79,false),.mv (.tmp 11)⟩,⟨some 81,some (79,false),.bin .lss (.tmp 80) (.const (.int .i64 0))⟩,⟨some 82,none,
 .pick (.tmp 79) (.const (.bool true)) (.tmp 81)⟩,m 83 82,⟨some 84,some (83,false),.mv (.tmp 7)⟩,⟨some 85,some (83,false),.mv (.tmp 10)⟩,⟨some 86,some (83,false),
 .idx 1 (.tmp 84) (.tmp 85)⟩,⟨some 87,some (83,false),.ld false 1 (.tmp 86)⟩,⟨some 88,some (83,false),.mv (.tmp 11)⟩,⟨some 89,some (83,false),.bin .lss (.tmp 87) (.tmp 88)⟩,
 ⟨some 90,none,.pick (.tmp 83) (.const (.bool true)) (.tmp 89)⟩,m 91 90,⟨some 92,some (91,false),.mv (.tmp 6)⟩,⟨some 93,some (91,false),.mv (.tmp 10)⟩,⟨some 94,some (91,false),
 .idx 4 (.tmp 92) (.tmp 93)⟩,⟨some 95,some (91,false),.fad 0 false 1 (.tmp 94)⟩,⟨some 96,some (91,false),.ld false 1 (.tmp 95)⟩,⟨some 97,some (91,false),
 .bin .eql (.tmp 96) (.const (.int .i64 11))⟩,⟨some 98,some (91,false),.mv (.tmp 97)⟩,⟨some 99,some (98,true),.mv (.tmp 7)⟩,⟨some 100,some (98,true),.mv (.tmp 10)⟩,⟨some 101,
 some (98,true),.idx 1 (.tmp 99) (.tmp 100)⟩,⟨some 102,some (98,true),.ld false 1 (.tmp 101)⟩,⟨some 103,some (98,true),.mv (.tmp 11)⟩,⟨some 104,some (98,true),
 .bin .neq (.tmp 102) (.tmp 103)⟩,⟨some 105,some (91,false),.pick (.tmp 98) (.tmp 104) (.const (.bool false))⟩,⟨some 106,none,
 .pick (.tmp 91) (.const (.bool true)) (.tmp 105)⟩]) (.cond (.tmp 106) (.seq (.ops [⟨some 4,none,.mv (.const (.slice none 0 0))⟩,o 5 false]) .ret) .skip)) (.seq (.ops [m 107 7,
 m 108 10,x 109 1 107 108,l 110 1 109,m 111 11,B 112 .sub 110 111,m 113 12,B 114 .add 112 113,m 14 114]) (.seq (.ops [m 115 6,m 116 10,x 117 4 115 116,L 118 4 117,m 119 10,
 c2 120 47 118 119,m 15 120]) (.seq (.ops [i 16 0]) (.block 4 (.loop (.seq (.seq (.ops [m 121 16,m 122 15,n 123 122,
 B 124 .lss 121 123]) (.cond (.tmp 124) .skip (.exit 4))) (.seq (.block 5 (.seq (.ops [m 127 15,m 128 16,x 129 1 127 128,l 130 1 129,m 17 130]) (.seq (.seq (.ops [m 131 17,
 b 132 .lss 131 0,m 133 132,⟨some 134,some (133,false),.mv (.tmp 17)⟩,⟨some 135,some (133,false),.mv (.tmp 6)⟩,⟨some 136,some (133,false),.len (.tmp 135)⟩,⟨some 137,some (133,
 false),.bin .geq (.tmp 134) (.tmp 136)⟩,⟨some 138,none,.pick (.tmp 133) (.const (.bool true)) (.tmp 137)⟩,m 139 138,⟨some 140,some (139,false),.mv (.tmp 7)⟩,⟨some 141,some (139,
 false),.mv (.tmp 17)⟩,⟨some 142,some (139,false),.idx 1 (.tmp 140) (.tmp 141)⟩,⟨some 143,some (139,false),.ld false 1 (.tmp 142)⟩,⟨some 144,some (139,false),
 .bin .geq (.tmp 143) (.const (.int .i64 0))⟩,⟨some 145,some (139,false),.mv (.tmp 144)⟩,⟨some 146,some (145,true),.mv (.tmp 7)⟩,⟨some 147,some (145,true),.mv (.tmp 17)⟩,⟨some 148,
 some (145,true),.idx 1 (.tmp 146) (.tmp 147)⟩,⟨some 149,some (145,true),.ld false 1 (.tmp 148)⟩,⟨some 150,some (145,true),.mv (.tmp 14)⟩,⟨some 151,some (145,true),
 .bin .neq (.tmp 149) (.tmp 150)⟩,⟨some 152,some (139,false),.pick (.tmp 145) (.tmp 151) (.const (.bool false))⟩,⟨some 153,none,
 .pick (.tmp 139) (.const (.bool true)) (.tmp 152)⟩]) (.cond (.tmp 153) (.seq (.ops [⟨some 4,none,.mv (.const (.slice none 0 0))⟩,o 5 false]) .ret) .skip)) (.seq (.ops [m 154 7,
 m 155 17,x 156 1 154 155,l 157 1 156,b 158 .lss 157 0]) (.cond (.tmp 158) (.seq (.ops [m 159 7,m 160 17,m 161 14,x 162 1 159 160,s 1 162 161]) (.ops [m 163 9,m 164 17,⟨some 165,
 none,.bsl 3 1 1 [.int .i64 0] [(0,(1,(.tmp 164)))]⟩,⟨some 166,none,.app 3 1 8 (.tmp 163) (.tmp 165)⟩,m 9 166])) .skip))))) (.ops [m 125 16,b 126 .add 125 1,
 m 16 126])))))))))))))))) (.seq (.ops [m 167 7,m 4 167,o 5 true]) .ret)))))))))
theorem f_scref20_Depths : compF Tryz.prog 31 = some (168, c_scref20_Depths, [.tmp 4,.tmp 5]) := by kernel_rfl
def c_stack_Depths:VC:=(.seq (.ops [X 2 24 0,⟨some 4,none,.mv (.const (.slice none 0 0))⟩,o 5 false]) (.seq (.seq (.ops [m 15 1,b 16 .lss 15 0,m 17 16,⟨some 18,some (17,false),
 .mv (.tmp 1)⟩,⟨some 19,some (17,false),.fad 1 false 1 (.tmp 2)⟩,⟨some 20,some (17,false),.ld false 1 (.tmp 19)⟩,⟨some 21,some (17,false),.len (.tmp 20)⟩,⟨some 22,some (17,false),
 .bin .geq (.tmp 18) (.tmp 21)⟩,⟨some 23,none,.pick (.tmp 17) (.const (.bool true)) (.tmp 22)⟩,m 24 23,⟨some 25,some (24,false),.fad 1 false 1 (.tmp 2)⟩,⟨some 26,some (24,false),
 .ld false 1 (.tmp 25)⟩,⟨some 27,some (24,false),.mv (.tmp 1)⟩,⟨some 28,some (24,false),.idx 5 (.tmp 26) (.tmp 27)⟩,⟨some 29,some (24,false),.fad 4 false 1 (.tmp 28)⟩,⟨some 30,
 some (24,false),.ld false 1 (.tmp 29)⟩,⟨some 31,some (24,false),.len (.tmp 30)⟩,⟨some 32,some (24,false),.bin .eql (.tmp 31) (.const (.int .i64 0))⟩,⟨some 33,none,
 .pick (.tmp 24) (.const (.bool true)) (.tmp 32)⟩]) (.cond (.tmp 33) (.seq (.ops [⟨some 4,none,.mv (.const (.slice none 0 0))⟩,o 5 false]) .ret) .skip)) (.seq (.ops [f 34 1 1 2,
 l 35 1 34,m 36 1,x 37 5 35 36,f 38 4 1 37,l 39 1 38,m 6 39]) (.seq (.ops [m 40 6,n 41 40,⟨some 42,none,.mk 3 1 8 [.int .i64 0] (.tmp 41) (.tmp 41)⟩,
 m 7 42]) (.seq (.seq (.ops [m 43 7,n 44 43,i 45 0]) (.block 0 (.loop (.seq (.ops [B 46 .lss 45 44]) (.seq (.cond (.tmp 46) .skip (.exit 0)) (.seq (.block 1 (.seq (.ops [m 47 45,
 m 8 47]) (.ops [m 48 7,m 49 8,x 50 1 48 49,⟨none,none,.sto false 1 (.tmp 50) (.const (.int .i64 (-1)))⟩]))) (.ops [b 51 .add 45 1,m 45 51]))))))) (.seq (.ops [m 52 7,⟨some 53,none,
 .idx 1 (.tmp 52) (.const (.int .i64 0))⟩,⟨none,none,.sto false 1 (.tmp 53) (.const (.int .i64 0))⟩]) (.seq (.ops [⟨some 9,none,.alc 116 [.slice none 0 0]⟩]) (.seq (.ops [⟨some 54,
 none,.call (.func 48) [(.tmp 9),(.const (.int .i64 0))]⟩]) (.seq (.block 2 (.loop (.seq (.seq (.ops [c1 55 49 9,
 b 56 .gtr 55 0]) (.cond (.tmp 56) .skip (.exit 2))) (.block 3 (.seq (.ops [c1 57 50 9,
 m 10 57]) (.seq (.par false (.one (L 59 2 2) (.one (m 60 1) (.one (m 61 6) (.one (m 62 10) (.one (x 63 4 61 62) (.one (L 64 4 63) (.one (m 65 7) (.one (m 66 10) (.one (x 67 1 65 66) (.one (l 68 1 67) (.one ⟨some 69,
 none,.callM true (.func 51) [.tmp 59,.tmp 60,.tmp 64,
 .tmp 68]⟩ (.one (m 58 69) (.one (e 70 58 0) (.one (e 71 58 1) (.one (m 11 70) (.one (m 12 71) .done))))))))))))))))) (.seq (.seq (.ops [m 72 12,⟨some 73,none,
 .un .not (.tmp 72)⟩]) (.cond (.tmp 73) (.seq (.ops [⟨some 4,none,.mv (.const (.slice none 0 0))⟩,o 5 false]) .ret) .skip)) (.seq (.ops [m 74 6,m 75 10,x 76 4 74 75,L 77 4 76,
 m 78 10,c2 79 52 77 78,n 80 79,i 81 0]) (.block 4 (.loop (.seq (.ops [B 82 .lss 81 80]) (.seq (.cond (.tmp 82) .skip (.exit 4)) (.seq (.block 5 (.seq (.ops [x 83 1 79 81,l 84 1 83,
 m 14 84]) (.seq (.seq (.ops [m 85 14,b 86 .lss 85 0,m 87 86,⟨some 88,some (87,false),.mv (.tmp 14)⟩,⟨some 89,some (87,false),.mv (.tmp 6)⟩,⟨some 90,some (87,false),.len (.tmp 89)⟩,
 ⟨some 91,some (87,false),.bin .geq (.tmp 88) (.tmp 90)⟩,⟨some 92,none,.pick (.tmp 87) (.const (.bool true)) (.tmp 91)⟩,m 93 92,⟨some 94,some (93,false),.mv (.tmp 7)⟩,⟨some 95,
 some (93,false),.mv (.tmp 14)⟩,⟨some 96,some (93,false),.idx 1 (.tmp 94) (.tmp 95)⟩,⟨some 97,some (93,false),.ld false 1 (.tmp 96)⟩,⟨some 98,some (93,false),
 .bin .geq (.tmp 97) (.const (.int .i64 0))⟩,⟨some 99,some (93,false),.mv (.tmp 98)⟩,⟨some 100,some (99,true),.mv (.tmp 7)⟩,⟨some 101,some (99,true),.mv (.tmp 14)⟩,⟨some 102,
 some (99,true),.idx 1 (.tmp 100) (.tmp 101)⟩,⟨some 103,some (99,true),.ld false 1 (.tmp 102)⟩,⟨some 104,some (99,true),.mv (.tmp 11)⟩,⟨some 105,some (99,true),
 .bin .neq (.tmp 103) (.tmp 104)⟩,⟨some 106,some (93,false),.pick (.tmp 99) (.tmp 105) (.const (.bool false))⟩,⟨some 107,none,
 .pick (.tmp 93) (.const (.bool true)) (.tmp 106)⟩]) (.cond (.tmp 107) (.seq (.ops [⟨some 4,none,.mv (.const (.slice none 0 0))⟩,o 5 false]) .ret) .skip)) (.seq (.ops [m 108 7,
 m 109 14,x 110 1 108 109,l 111 1 110,b 112 .lss 111 0]) (.cond (.tmp 112) (.seq (.ops [m 113 7,m 114 14,m 115 11,x 116 1 113 114,s 1 116 115]) (.ops [m 117 14,
 c2 118 48 9 117])) .skip))))) (.ops [b 119 .add 81 1,m 81 119])))))))))))))) (.seq (.ops [m 120 7,m 4 120,o 5 true]) .ret))))))))))
theorem f_stack_Depths : compF Tryz.prog 32 = some (121, c_stack_Depths, [.tmp 4,.tmp 5]) := by kernel_rfl
def c_emit_meanings:VC:=(.seq (.ops [⟨some 0,none,.mv (.const (.map none))⟩]) (.seq (.ops [⟨some 1,none,.eff .mkm []⟩,⟨none,none,.eff .upd [(.tmp 1),(.const (.int .i64 1)),
 (.func 53)]⟩,⟨none,none,.eff .upd [(.tmp 1),(.const (.int .i64 2)),(.func 56)]⟩,⟨none,none,.eff .upd [(.tmp 1),(.const (.int .i64 3)),(.func 57)]⟩,⟨none,none,.eff .upd [(.tmp 1),
 (.const (.int .i64 4)),(.func 59)]⟩,⟨none,none,.eff .upd [(.tmp 1),(.const (.int .i64 5)),(.func 60)]⟩,⟨none,none,.eff .upd [(.tmp 1),(.const (.int .i64 6)),(.func 61)]⟩,⟨none,
 none,.eff .upd [(.tmp 1),(.const (.int .i64 7)),(.func 62)]⟩,⟨none,none,.eff .upd [(.tmp 1),(.const (.int .i64 8)),(.func 63)]⟩,⟨none,none,.eff .upd [(.tmp 1),
 (.const (.int .i64 9)),(.func 65)]⟩,⟨none,none,.eff .upd [(.tmp 1),(.const (.int .i64 10)),(.func 66)]⟩,⟨none,none,.eff .upd [(.tmp 1),(.const (.int .i64 11)),(.func 68)]⟩,⟨none,
 none,.eff .upd [(.tmp 1),(.const (.int .i64 12)),(.func 70)]⟩,⟨none,none,.eff .upd [(.tmp 1),(.const (.int .i64 13)),(.func 71)]⟩,m 2 1,m 0 2]) .ret))
theorem f_emit_meanings : compF Tryz.prog 33 = some (3, c_emit_meanings, [.tmp 0]) := by kernel_rfl
def c_emit_generator_put:VC:=(.ops [m 10 0,m 11 0,k 12 11,f 13 6 1 12,l 14 1 13,m 15 1,m 16 2,m 17 3,m 18 4,⟨some 19,none,.bld [.int .i64 0,.int .i64 0,.int .i64 0,
 .int .i64 0] [(0,(1,(.tmp 15))),(1,(1,(.tmp 16))),(2,(1,(.tmp 17))),(3,(1,(.tmp 18)))]⟩,⟨some 20,none,.bsl 55 4 1 [.int .i64 0,.int .i64 0,.int .i64 0,.int .i64 0] [(0,(4,
 (.tmp 19)))]⟩,⟨some 21,none,.app 55 4 32 (.tmp 14) (.tmp 20)⟩,k 22 10,f 23 6 1 22,s 1 23 21])
theorem f_emit_generator_put : compF Tryz.prog 34 = some (24, c_emit_generator_put, []) := by kernel_rfl
def c_emit_generator_function:VC:=(.seq (.ops [m 9 0,k 10 9,F 11 0 2 10,f 12 1 1 11,l 13 1 12,m 14 1,x 15 5 13 14,L 16 5 15,⟨some 6,none,.alc 74 [.int .i64 0,.int .i64 0,
 .int .i64 0,.bool false,.slice none 0 0]⟩,S 5 6 16]) (.seq (.ops [m 17 0,m 18 1,k 19 17,f 20 10 1 19,s 1 20 18]) (.seq (.ops [m 21 0,k 22 21,f 23 7 1 22,l 24 1 23,m 25 1,m 26 0,
 k 27 26,f 28 6 1 27,l 29 1 28,n 30 29,x 31 1 24 25,s 1 31 30]) (.seq (.seq (.ops [m 32 1,m 33 0,k 34 33,F 35 0 2 34,f 36 1 1 35,l 37 1 36,n 38 37,b 39 .sub 38 1,
 B 40 .neq 32 39]) (.cond (.tmp 40) (.seq (.ops [m 41 0,m 42 0,k 43 42,F 44 2 4 43,f 45 1 1 44,l 46 1 45,m 47 1,x 48 1 46 47,l 49 1 48,⟨some 50,none,.call (.func 34) [(.tmp 41),
 (.const (.int .i64 17)),(.const (.int .i64 14)),(.const (.int .i64 0)),(.tmp 49)]⟩]) (.ops [m 51 0,f 52 2 1 6,l 53 1 52,f 54 0 1 6,l 55 1 54,B 56 .add 53 55,f 57 2 1 6,l 58 1 57,
 f 59 1 1 6,l 60 1 59,B 61 .add 58 60,
 c3 62 72 51 56 61])) .skip)) (.seq (.par false (.one (m 63 0) (.one (k 64 63) (.one (f 65 8 1 64) (.one (l 66 1 65) (.one (m 67 1) (.one (f 68 4 1 6) (.one (l 69 1 68) (.one (n 70 69) (.one ⟨some 71,
 none,.mk 3 1 8 [.int .i64 0] (.tmp 70) (.tmp 70)⟩ (.one (x 72 1 66 67) (.one (s 1 72 71) .done)))))))))))) (.seq (.ops [f 73 4 1 6,l 74 1 73,n 75 74,
 i 76 0]) (.block 0 (.loop (.seq (.ops [B 77 .lss 76 75]) (.seq (.cond (.tmp 77) .skip (.exit 0)) (.seq (.block 1 (.seq (.ops [m 78 76,x 79 4 74 76,L 80 4 79,⟨some 8,none,
 .alc 71 [.int .i64 0,.int .i64 0,.int .i64 0,.int .u32 0]⟩,m 7 78,S 4 8 80]) (.seq (.ops [m 81 0,k 82 81,f 83 8 1 82,l 84 1 83,m 85 1,x 86 1 84 85,l 87 1 86,m 88 7,m 89 0,k 90 89,
 f 91 6 1 90,l 92 1 91,n 93 92,x 94 1 87 88,s 1 94 93]) (.seq (.ops [m 95 0,m 96 0,k 97 96,F 98 2 4 97,f 99 0 1 98,l 100 1 99,m 101 1,x 102 1 100 101,l 103 1 102,m 104 7,
 x 105 1 103 104,l 106 1 105,k 107 95,f 108 11 1 107,s 1 108 106]) (.seq (.ops [m 109 0,k 110 109,f 111 11 1 110,l 112 1 111,b 113 .geq 112 0]) (.cond (.tmp 113) (.ops [m 114 2,
 f 115 0 1 8,l 116 1 115,⟨some 117,none,.see (.look false .nilFunc) [.tmp 114,.tmp 116]⟩,m 118 0,L 119 4 8,⟨some 120,none,.callM false (.tmp 117) [.tmp 118,
 .tmp 119]⟩]) .skip)))))) (.ops [b 121 .add 76 1,m 76 121]))))))))))))
theorem f_emit_generator_function : compF Tryz.prog 35 = some (122, c_emit_generator_function, []) := by kernel_rfl
def c_inst_Right:VC:=(.seq (.ops [X 1 55 0,o 2 false]) (.seq (.seq (.ops [f 5 0 1 1,l 6 1 5,c1 7 73 6,⟨some 8,none,
 .un .not (.tmp 7)⟩]) (.cond (.tmp 8) (.seq (.ops [o 2 false]) .ret) .skip)) (.seq (.ops [f 9 0 1 1,l 10 1 9,c1 11 74 10,⟨(some 3),none,(.alc 126 [(.string ⟨#[]⟩),(.bool false),
 (.bool false),(.int .i64 0)])⟩,S 4 3 11]) (.seq (.ops [i 4 65535]) (.seq (.seq (.ops [f 12 3 1 3,l 13 1 12,
 b 14 .eql 13 2]) (.cond (.tmp 14) (.ops [i 4 15]) .skip)) (.seq (.ops [f 15 1 1 1,l 16 1 15,f 17 1 1 3,l 18 1 17,⟨some 19,none,.call (.func 75) [(.tmp 16),(.const (.int .i64 15)),
 (.tmp 18)]⟩,m 20 19,⟨some 21,some (20,true),.fad 2 false 1 (.tmp 1)⟩,⟨some 22,some (20,true),.ld false 1 (.tmp 21)⟩,⟨some 23,some (20,true),.fad 2 false 1 (.tmp 3)⟩,⟨some 24,
 some (20,true),.ld false 1 (.tmp 23)⟩,⟨some 25,some (20,true),.call (.func 75) [(.tmp 22),(.const (.int .i64 15)),(.tmp 24)]⟩,⟨some 26,none,
 .pick (.tmp 20) (.tmp 25) (.const (.bool false))⟩,m 27 26,⟨some 28,some (27,true),.fad 3 false 1 (.tmp 1)⟩,⟨some 29,some (27,true),.ld false 1 (.tmp 28)⟩,⟨some 30,some (27,true),
 .mv (.tmp 4)⟩,⟨some 31,some (27,true),.fad 3 false 1 (.tmp 3)⟩,⟨some 32,some (27,true),.ld false 1 (.tmp 31)⟩,⟨some 33,some (27,true),.bin .neq (.tmp 32) (.const (.int .i64 0))⟩,
 ⟨some 34,some (27,true),.call (.func 75) [.tmp 29,.tmp 30,.tmp 33]⟩,⟨some 35,none,.pick (.tmp 27) (.tmp 34) (.const (.bool false))⟩,m 2 35]) .ret))))))
theorem f_inst_Right : compF Tryz.prog 36 = some (36, c_inst_Right, [.tmp 2]) := by kernel_rfl
def c_stack_pile_uint32_take:VC:=(.seq (.ops [⟨some 4,none,.mv (.const (.slice none 0 0))⟩]) (.seq (.ops [m 7 0,k 8 7,f 9 0 1 8,l 10 1 9,n 11 10,m 12 1,B 13 .sub 11 12,
 m 5 13]) (.seq (.ops [m 14 0,k 15 14,f 16 0 1 15,l 17 1 16,m 18 5,⟨some 19,none,.sl 1 (.tmp 17) (some (.tmp 18)) none⟩,m 6 19]) (.seq (.ops [m 20 0,m 21 0,k 22 21,f 23 0 1 22,
 l 24 1 23,m 25 5,⟨some 26,none,.sl 1 (.tmp 24) none (some (.tmp 25))⟩,k 27 20,f 28 0 1 27,s 1 28 26]) (.seq (.ops [m 29 6,m 4 29]) .ret)))))
theorem f_stack_pile_uint32_take : compF Tryz.prog 37 = some (30, c_stack_pile_uint32_take, [.tmp 4]) := by kernel_rfl
def c_stack_pile_uint32_push:VC:=(.ops [m 4 0,m 5 0,k 6 5,f 7 0 1 6,l 8 1 7,m 9 1,⟨some 10,none,.bsl 56 1 1 [.int .u32 0] [(0,(1,(.tmp 9)))]⟩,⟨some 11,none,
 .app 56 1 4 (.tmp 8) (.tmp 10)⟩,k 12 4,f 13 0 1 12,s 1 13 11])
theorem f_stack_pile_uint32_push : compF Tryz.prog 38 = some (14, c_stack_pile_uint32_push, []) := by kernel_rfl
def c_word_Apply:VC:=(.seq (.ops [⟨some 6,none,.mv (.const (.int .u32 0))⟩,i 7 0]) (.seq (.seq (.ops [m 8 0]) (.block 0 (.seq (.ops [b 10 .eql 8 4,
 m 9 10]) (.cond (.tmp 9) (.seq (.ops [m 11 1,m 12 2,B 13 .add 11 12,m 6 13,i 7 0]) .ret) (.seq (.ops [b 15 .eql 8 5,m 14 15]) (.cond (.tmp 14) (.seq (.ops [m 16 1,m 17 2,
 B 18 .sub 16 17,m 6 18,i 7 0]) .ret) (.seq (.ops [b 20 .eql 8 6,m 19 20]) (.cond (.tmp 19) (.seq (.ops [m 21 1,m 22 2,B 23 .mul 21 22,m 6 23,
 i 7 0]) .ret) (.seq (.seq (.ops [b 25 .eql 8 7,m 24 25]) (.cond (.tmp 24) .skip (.ops [b 26 .eql 8 8,m 24 26]))) (.cond (.tmp 24) (.seq (.ops [m 27 0,m 28 1,m 29 2,
 c3 30 76 27 28 29,e 31 30 0,e 32 30 1,m 6 31,m 7 32]) .ret) (.seq (.ops [b 34 .eql 8 9,m 33 34]) (.cond (.tmp 33) (.seq (.ops [m 35 1,m 36 2,B 37 .and 35 36,m 6 37,
 i 7 0]) .ret) (.seq (.ops [b 39 .eql 8 10,m 38 39]) (.cond (.tmp 38) (.seq (.ops [m 40 1,m 41 2,B 42 .or 40 41,m 6 42,i 7 0]) .ret) (.seq (.ops [b 44 .eql 8 11,
 m 43 44]) (.cond (.tmp 43) (.seq (.ops [m 45 1,m 46 2,B 47 .xor 45 46,m 6 47,i 7 0]) .ret) (.seq (.seq (.ops [b 49 .eql 8 12,m 48 49]) (.cond (.tmp 48) .skip (.ops [b 50 .eql 8 13,
 m 48 50]))) (.cond (.tmp 48) (.seq (.ops [m 51 0,m 52 1,m 53 2,c3 54 77 51 52 53,m 6 54,i 7 0]) .ret) (.seq (.seq (.ops [b 56 .eql 8 14,
 m 55 56]) (.cond (.tmp 55) .skip (.ops [b 57 .eql 8 15,m 55 57]))) (.cond (.tmp 55) (.seq (.ops [m 58 0,m 59 1,m 60 2,c3 61 78 58 59 60,m 6 61,
 i 7 0]) .ret) .skip)))))))))))))))))))) (.seq (.ops [⟨some 6,none,.mv (.const (.int .u32 0))⟩,i 7 1]) .ret)))
theorem f_word_Apply : compF Tryz.prog 39 = some (62, c_word_Apply, [.tmp 6,.tmp 7]) := by kernel_rfl
def c_stack_not:VC:=(.seq (.ops [⟨some 2,none,.mv (.const (.int .u32 0))⟩]) (.seq (.seq (.ops [m 3 0,⟨some 4,none,
 .bin .eql (.tmp 3) (.const (.int .u32 0))⟩]) (.cond (.tmp 4) (.seq (.ops [⟨some 2,none,.mv (.const (.int .u32 1))⟩]) .ret) .skip)) (.seq (.ops [⟨some 2,none,
 .mv (.const (.int .u32 0))⟩]) .ret)))
theorem f_stack_not : compF Tryz.prog 40 = some (5, c_stack_not, [.tmp 2]) := by kernel_rfl
def c_stack_machine_get:VC:=(.seq (.ops [⟨some 2,none,.mv (.const (.int .u32 0))⟩]) (.seq (.seq (.ops [m 4 0,k 5 4,f 6 6 1 5,l 7 1 6,m 8 0,k 9 8,f 10 5 1 9,l 11 1 10,⟨some 12,none,
 .lens (.tmp 11)⟩,B 13 .geq 7 12]) (.cond (.tmp 13) (.seq (.ops [⟨some 2,none,.mv (.const (.int .u32 256))⟩]) .ret) .skip)) (.seq (.ops [m 14 0,k 15 14,f 16 5 1 15,l 17 1 16,m 18 0,
 k 19 18,f 20 6 1 19,l 21 1 20,⟨some 22,none,.pur .six [.tmp 17,.tmp 21]⟩,m 3 22]) (.seq (.ops [m 23 0,k 24 23,f 25 6 1 24,l 26 1 25,b 27 .add 26 1,k 28 23,f 29 6 1 28,
 s 1 29 27]) (.seq (.ops [m 30 3,⟨some 31,none,.conv .u32 (.tmp 30)⟩,m 2 31]) .ret)))))
theorem f_stack_machine_get : compF Tryz.prog 41 = some (32, c_stack_machine_get, [.tmp 2]) := by kernel_rfl
def c_machine_New:VC:=(.seq (.ops [X 3 29 0,X 5 83 2,⟨some 6,none,.mv (.const (.pointer none))⟩]) (.seq (.ops [f 7 0 1 3,l 8 1 7,m 9 1,L 10 22 5,⟨(some 11),none,
 (.bld [(.slice none 0 0),(.string ⟨#[]⟩),(.int .i64 0),(.int .u32 0),(.int .u32 0),(.int .u32 0),(.int .u32 0),(.int .u32 0),(.int .u32 0),(.int .u32 0),(.int .u32 0),
 (.int .u32 0),(.int .u32 0),(.int .u32 0),(.int .u32 0),(.int .u32 0),(.int .u32 0),(.int .u32 0),(.int .u32 0),(.slice none 0 0),(.int .i64 0),(.string ⟨#[]⟩),(.int .i64 0),
 (.int .i64 0),(.bool false),(.slice none 0 0)] [(0,(1,(.tmp 8))),(1,(1,(.tmp 9))),(2,(22,(.tmp 10)))])⟩,X 12 131 11,m 6 12]) .ret))
theorem f_machine_New : compF Tryz.prog 42 = some (13, c_machine_New, [.tmp 6]) := by kernel_rfl
def c_exec_steps:VC:=(.seq (.ops [X 2 104 0,X 3 3 1,⟨some 4,none,.mv (.const .nilFunc)⟩]) (.seq (.ops [⟨some 5,none,.mkf 79 [.tmp 3,.tmp 2]⟩,m 4 5]) .ret))
theorem f_exec_steps : compF Tryz.prog 43 = some (6, c_exec_steps, [.tmp 4]) := by kernel_rfl
def c_machine_Runner_State:VC:=(.seq (.ops [⟨(some 2),none,(.alc 83 [(.int .i64 0),(.int .u32 0),(.int .u32 0),(.int .u32 0),(.int .u32 0),(.int .u32 0),(.int .u32 0),
 (.int .u32 0),(.int .u32 0),(.int .u32 0),(.int .u32 0),(.int .u32 0),(.int .u32 0),(.int .u32 0),(.int .u32 0),(.int .u32 0),(.int .u32 0),(.slice none 0 0),(.int .i64 0),
 (.string ⟨#[]⟩),(.int .i64 0),(.int .i64 0)])⟩]) (.seq (.seq (.ops [m 3 0,k 4 3,f 5 25 1 4,l 6 1 5,n 7 6,b 8 .gtr 7 0]) (.cond (.tmp 8) (.seq (.ops [m 9 0,k 10 9,F 11 2 22 10,
 f 12 19 1 11,l 13 1 12,m 14 0,k 15 14,f 16 25 1 15,l 17 1 16,⟨some 18,none,.see .b2s [.tmp 17]⟩,B 19 .add 13 18,k 20 9,F 21 2 22 20,f 22 19 1 21,s 1 22 19]) (.ops [m 23 0,k 24 23,
 f 25 25 1 24,⟨none,none,.sto false 1 (.tmp 25) (.const (.slice none 0 0))⟩])) .skip)) (.seq (.ops [m 26 0,k 27 26,f 28 24 1 27,⟨none,none,
 .sto false 1 (.tmp 28) (.const (.bool false))⟩]) (.seq (.ops [m 29 0,k 30 29,F 31 2 22 30,L 32 22 31,S 22 2 32]) .ret))))
theorem f_machine_Runner_State : compF Tryz.prog 44 = some (33, c_machine_Runner_State, [(.cell 2 true 22)]) := by kernel_rfl
def c_scref20_Takes:VC:=(.seq (.ops [X 3 24 0,X 5 71 2,i 6 0,i 7 0,o 8 false]) (.seq (.seq (.ops [f 9 0 1 5,l 10 1 9]) (.block 0 (.seq (.seq (.ops [b 12 .eql 10 1,
 m 11 12]) (.cond (.tmp 11) .skip (.seq (.ops [b 13 .eql 10 2,m 11 13]) (.cond (.tmp 11) .skip (.ops [b 14 .eql 10 12,m 11 14]))))) (.cond (.tmp 11) (.seq (.ops [i 6 0,i 7 1,
 o 8 true]) .ret) (.seq (.seq (.ops [b 16 .eql 10 3,m 15 16]) (.cond (.tmp 15) .skip (.seq (.ops [b 17 .eql 10 9,m 15 17]) (.cond (.tmp 15) .skip (.ops [b 18 .eql 10 13,
 m 15 18]))))) (.cond (.tmp 15) (.seq (.ops [i 6 1,i 7 0,o 8 true]) .ret) (.seq (.seq (.ops [b 20 .eql 10 4,m 19 20]) (.cond (.tmp 19) .skip (.ops [b 21 .eql 10 7,
 m 19 21]))) (.cond (.tmp 19) (.seq (.ops [i 6 1,i 7 1,o 8 true]) .ret) (.seq (.ops [b 23 .eql 10 5,m 22 23]) (.cond (.tmp 22) (.seq (.ops [i 6 2,i 7 0,
 o 8 true]) .ret) (.seq (.ops [b 25 .eql 10 6,m 24 25]) (.cond (.tmp 24) (.seq (.ops [i 6 2,i 7 1,o 8 true]) .ret) (.seq (.ops [b 27 .eql 10 8,
 m 26 27]) (.cond (.tmp 26) (.seq (.ops [i 6 0,i 7 0,o 8 true]) .ret) (.seq (.ops [b 29 .eql 10 10,m 28 29]) (.cond (.tmp 28) (.seq (.seq (.ops [f 30 1 1 5,l 31 1 30,b 32 .lss 31 0,
 m 33 32,⟨some 34,some (33,false),.fad 1 false 1 (.tmp 5)⟩,⟨some 35,some (33,false),.ld false 1 (.tmp 34)⟩,⟨some 36,some (33,false),.fad 1 false 1 (.tmp 3)⟩,⟨some 37,some (33,
 false),.ld false 1 (.tmp 36)⟩,⟨some 38,some (33,false),.len (.tmp 37)⟩,⟨some 39,some (33,false),.bin .geq (.tmp 35) (.tmp 38)⟩,⟨some 40,none,
 .pick (.tmp 33) (.const (.bool true)) (.tmp 39)⟩]) (.cond (.tmp 40) (.seq (.ops [i 6 0,i 7 0,o 8 false]) .ret) .skip)) (.seq (.seq (.ops [f 41 1 1 3,l 42 1 41,f 43 1 1 5,l 44 1 43,
 x 45 5 42 44,f 46 3 1 45,l 47 1 46]) (.cond (.tmp 47) (.seq (.ops [f 48 1 1 3,l 49 1 48,f 50 1 1 5,l 51 1 50,x 52 5 49 51,f 53 0 1 52,l 54 1 53,m 6 54,i 7 1,
 o 8 true]) .ret) .skip)) (.seq (.ops [f 55 1 1 3,l 56 1 55,f 57 1 1 5,l 58 1 57,x 59 5 56 58,f 60 0 1 59,l 61 1 60,m 6 61,i 7 0,o 8 true]) .ret))) (.seq (.ops [b 63 .eql 10 11,
 m 62 63]) (.cond (.tmp 62) (.seq (.seq (.ops [f 64 1 1 3,l 65 1 64,m 66 1,x 67 5 65 66,f 68 3 1 67,l 69 1 68]) (.cond (.tmp 69) (.seq (.ops [i 6 1,i 7 0,
 o 8 true]) .ret) .skip)) (.seq (.ops [i 6 0,i 7 0,o 8 true]) .ret)) .skip)))))))))))))))))) (.seq (.ops [i 6 0,i 7 0,o 8 false]) .ret)))
theorem f_scref20_Takes : compF Tryz.prog 46 = some (70, c_scref20_Takes, [.tmp 6,.tmp 7,.tmp 8]) := by kernel_rfl
def c_scref20_Next:VC:=(.seq (.ops [X 2 71 0,⟨some 4,none,.mv (.const (.slice none 0 0))⟩]) (.seq (.seq (.ops [f 5 0 1 2,l 6 1 5]) (.block 0 (.seq (.ops [b 8 .eql 6 8,
 m 7 8]) (.cond (.tmp 7) (.seq (.ops [f 9 1 1 2,l 10 1 9,⟨some 11,none,.bsl 3 1 1 [.int .i64 0] [(0,(1,(.tmp 10)))]⟩,m 4 11]) .ret) (.seq (.ops [b 13 .eql 6 9,
 m 12 13]) (.cond (.tmp 12) (.seq (.ops [m 14 1,b 15 .add 14 1,f 16 1 1 2,l 17 1 16,⟨some 18,none,.bsl 3 1 2 [.int .i64 0,.int .i64 0] [(0,(1,(.tmp 15))),(1,(1,(.tmp 17)))]⟩,
 m 4 18]) .ret) (.seq (.ops [b 20 .eql 6 11,m 19 20]) (.cond (.tmp 19) (.seq (.ops [⟨some 4,none,.mv (.const (.slice none 0 0))⟩]) .ret) .skip)))))))) (.seq (.ops [m 21 1,
 b 22 .add 21 1,⟨some 23,none,.bsl 3 1 1 [.int .i64 0] [(0,(1,(.tmp 22)))]⟩,m 4 23]) .ret)))
theorem f_scref20_Next : compF Tryz.prog 47 = some (24, c_scref20_Next, [.tmp 4]) := by kernel_rfl
def c_stack_pile_int_push:VC:=(.ops [m 4 0,m 5 0,k 6 5,f 7 0 1 6,l 8 1 7,m 9 1,⟨some 10,none,.bsl 3 1 1 [.int .i64 0] [(0,(1,(.tmp 9)))]⟩,⟨some 11,none,
 .app 3 1 8 (.tmp 8) (.tmp 10)⟩,k 12 4,f 13 0 1 12,s 1 13 11])
theorem f_stack_pile_int_push : compF Tryz.prog 48 = some (14, c_stack_pile_int_push, []) := by kernel_rfl
def c_stack_pile_int_size:VC:=(.seq (.ops [i 2 0]) (.seq (.ops [m 3 0,k 4 3,f 5 0 1 4,l 6 1 5,n 7 6,m 2 7]) .ret))
theorem f_stack_pile_int_size : compF Tryz.prog 49 = some (8, c_stack_pile_int_size, [.tmp 2]) := by kernel_rfl
def c_stack_pile_int_pop:VC:=(.seq (.ops [i 2 0]) (.seq (.ops [m 5 0,k 6 5,f 7 0 1 6,l 8 1 7,n 9 8,b 10 .sub 9 1,m 3 10]) (.seq (.ops [m 11 0,k 12 11,f 13 0 1 12,l 14 1 13,m 15 3,
 x 16 1 14 15,l 17 1 16,m 4 17]) (.seq (.ops [m 18 0,m 19 0,k 20 19,f 21 0 1 20,l 22 1 21,m 23 3,⟨some 24,none,.sl 1 (.tmp 22) none (some (.tmp 23))⟩,k 25 18,f 26 0 1 25,
 s 1 26 24]) (.seq (.ops [m 27 4,m 2 27]) .ret)))))
theorem f_stack_pile_int_pop : compF Tryz.prog 50 = some (28, c_stack_pile_int_pop, [.tmp 2]) := by kernel_rfl
def c_stack_behind:VC:=(.seq (.ops [X 4 24 0,X 6 71 2,i 8 0,o 9 false]) (.seq (.ops [i 10 0,i 11 0]) (.seq (.seq (.ops [f 12 0 1 6,
 l 13 1 12]) (.block 0 (.seq (.seq (.ops [b 15 .eql 13 1,m 14 15]) (.cond (.tmp 14) .skip (.seq (.ops [b 16 .eql 13 2,m 14 16]) (.cond (.tmp 14) .skip (.ops [b 17 .eql 13 12,
 m 14 17]))))) (.cond (.tmp 14) (.ops [i 11 1]) (.seq (.seq (.ops [b 19 .eql 13 3,m 18 19]) (.cond (.tmp 18) .skip (.seq (.ops [b 20 .eql 13 9,
 m 18 20]) (.cond (.tmp 18) .skip (.ops [b 21 .eql 13 13,m 18 21]))))) (.cond (.tmp 18) (.ops [i 10 1]) (.seq (.seq (.ops [b 23 .eql 13 4,
 m 22 23]) (.cond (.tmp 22) .skip (.ops [b 24 .eql 13 7,m 22 24]))) (.cond (.tmp 22) (.ops [i 10 1,i 11 1]) (.seq (.ops [b 26 .eql 13 5,
 m 25 26]) (.cond (.tmp 25) (.ops [i 10 2]) (.seq (.ops [b 28 .eql 13 6,m 27 28]) (.cond (.tmp 27) (.ops [i 10 2,i 11 1]) (.seq (.ops [b 30 .eql 13 8,
 m 29 30]) (.cond (.tmp 29) .skip (.seq (.ops [b 32 .eql 13 10,m 31 32]) (.cond (.tmp 31) (.seq (.seq (.ops [f 33 1 1 6,l 34 1 33,b 35 .lss 34 0,m 36 35,⟨some 37,some (36,false),
 .fad 1 false 1 (.tmp 6)⟩,⟨some 38,some (36,false),.ld false 1 (.tmp 37)⟩,⟨some 39,some (36,false),.fad 1 false 1 (.tmp 4)⟩,⟨some 40,some (36,false),.ld false 1 (.tmp 39)⟩,⟨some 41,
 some (36,false),.len (.tmp 40)⟩,⟨some 42,some (36,false),.bin .geq (.tmp 38) (.tmp 41)⟩,⟨some 43,none,.pick (.tmp 36) (.const (.bool true)) (.tmp 42)⟩,m 44 43,⟨some 45,some (44,
 false),.fad 1 false 1 (.tmp 4)⟩,⟨some 46,some (44,false),.ld false 1 (.tmp 45)⟩,⟨some 47,some (44,false),.fad 1 false 1 (.tmp 6)⟩,⟨some 48,some (44,false),.ld false 1 (.tmp 47)⟩,
 ⟨some 49,some (44,false),.idx 5 (.tmp 46) (.tmp 48)⟩,⟨some 50,some (44,false),.fad 0 false 1 (.tmp 49)⟩,⟨some 51,some (44,false),.ld false 1 (.tmp 50)⟩,⟨some 52,some (44,false),
 .bin .lss (.tmp 51) (.const (.int .i64 0))⟩,⟨some 53,none,.pick (.tmp 44) (.const (.bool true)) (.tmp 52)⟩]) (.cond (.tmp 53) (.seq (.ops [i 8 0,
 o 9 false]) .ret) .skip)) (.par true (.one (f 54 1 1 4) (.one (f 56 1 1 6) (.one (f 61 1 1 4) (.one (l 62 1 61) (.one (f 63 1 1 6) (.one (l 64 1 63) (.one (x 65 5 62 64) (.one (f 66 3 1 65) (.one (l 67 1 66) (.both (.one (l 55 1 54) (.both (.one (l 57 1 56) (.one (x 58 5 55 57) (.one (f 59 0 1 58) (.both (.one (l 60 1 59) (.one ⟨some 68,
 none,.callM true (.func 85) [.tmp 67]⟩ (.one (m 10 60) (.one (m 11 68) .done)))) (.one ⟨some 68,none,
 .callM true (.func 85) [.tmp 67]⟩ (.one (l 60 1 59) (.one (m 10 60) (.one (m 11 68) .done)))))))) (.one ⟨some 68,none,
 .callM true (.func 85) [.tmp 67]⟩ (.one (l 57 1 56) (.one (x 58 5 55 57) (.one (f 59 0 1 58) (.one (l 60 1 59) (.one (m 10 60) (.one (m 11 68) .done))))))))) (.both (.one (l 57 1 56) (.both (.one (l 55 1 54) (.one (x 58 5 55 57) (.one (f 59 0 1 58) (.both (.one (l 60 1 59) (.one ⟨some 68,
 none,.callM true (.func 85) [.tmp 67]⟩ (.one (m 10 60) (.one (m 11 68) .done)))) (.one ⟨some 68,none,
 .callM true (.func 85) [.tmp 67]⟩ (.one (l 60 1 59) (.one (m 10 60) (.one (m 11 68) .done)))))))) (.one ⟨some 68,none,
 .callM true (.func 85) [.tmp 67]⟩ (.one (l 55 1 54) (.one (x 58 5 55 57) (.one (f 59 0 1 58) (.one (l 60 1 59) (.one (m 10 60) (.one (m 11 68) .done))))))))) (.one ⟨some 68,none,
 .callM true (.func 85) [.tmp 67]⟩ (.one (l 55 1 54) (.one (l 57 1 56) (.one (x 58 5 55 57) (.one (f 59 0 1 58) (.one (l 60 1 59) (.one (m 10 60) (.one (m 11 68) .done))))))))))))))))))))) (.seq (.ops [b 70 .eql 13 11,
 m 69 70]) (.cond (.tmp 69) (.seq (.ops [f 71 1 1 4,l 72 1 71,m 73 1,x 74 5 72 73,f 75 3 1 74,l 76 1 75,⟨some 77,none,.callM true (.func 85) [.tmp 76]⟩,
 m 10 77]) (.seq (.ops [m 78 3,m 79 10,B 80 .eql 78 79,i 8 0,m 9 80]) .ret)) (.seq (.ops [i 8 0,o 9 false]) .ret))))))))))))))))))) (.seq (.ops [m 81 3,m 82 10,B 83 .sub 81 82,
 m 84 11,B 85 .add 83 84,m 86 3,m 87 10,B 88 .geq 86 87,m 8 85,m 9 88]) .ret))))
theorem f_stack_behind : compF Tryz.prog 51 = some (89, c_stack_behind, [.tmp 8,.tmp 9]) := by kernel_rfl
def c_stack_next:VC:=(.seq (.ops [X 2 71 0,⟨some 4,none,.mv (.const (.slice none 0 0))⟩]) (.seq (.seq (.ops [f 5 0 1 2,l 6 1 5]) (.block 0 (.seq (.ops [b 8 .eql 6 8,
 m 7 8]) (.cond (.tmp 7) (.seq (.ops [f 9 1 1 2,l 10 1 9,⟨some 11,none,.bsl 3 1 1 [.int .i64 0] [(0,(1,(.tmp 10)))]⟩,m 4 11]) .ret) (.seq (.ops [b 13 .eql 6 9,
 m 12 13]) (.cond (.tmp 12) (.seq (.ops [m 14 1,b 15 .add 14 1,f 16 1 1 2,l 17 1 16,⟨some 18,none,.bsl 3 1 2 [.int .i64 0,.int .i64 0] [(0,(1,(.tmp 15))),(1,(1,(.tmp 17)))]⟩,
 m 4 18]) .ret) (.seq (.ops [b 20 .eql 6 11,m 19 20]) (.cond (.tmp 19) (.seq (.ops [⟨some 4,none,.mv (.const (.slice none 0 0))⟩]) .ret) .skip)))))))) (.seq (.ops [m 21 1,
 b 22 .add 21 1,⟨some 23,none,.bsl 3 1 1 [.int .i64 0] [(0,(1,(.tmp 22)))]⟩,m 4 23]) .ret)))
theorem f_stack_next : compF Tryz.prog 52 = some (24, c_stack_next, [.tmp 4]) := by kernel_rfl
def c_emit_meanings_1:VC:=(.seq (.ops [X 3 71 1]) (.seq (.ops [m 4 0,f 5 3 1 3,l 6 1 5,⟨some 7,none,.call (.func 54) [(.tmp 4),(.const (.int .i64 1)),(.tmp 6)]⟩]) (.ops [m 8 0,
 ⟨some 9,none,.call (.func 55) [(.tmp 8),(.const (.int .i64 1)),(.const (.int .i64 0))]⟩])))
theorem f_emit_meanings_1 : compF Tryz.prog 53 = some (10, c_emit_meanings_1, []) := by kernel_rfl
def c_emit_generator_number:VC:=(.seq (.ops [m 6 0,m 7 1,m 8 2,⟨some 9,none,.bin .and (.tmp 8) (.const (.int .u32 65535))⟩,⟨some 10,none,.conv .i64 (.tmp 9)⟩,⟨some 11,none,
 .call (.func 34) [(.tmp 6),(.const (.int .i64 1)),(.tmp 7),(.const (.int .i64 0)),(.tmp 10)]⟩]) (.seq (.ops [m 12 2,⟨some 13,none,
 .bin .gtr (.tmp 12) (.const (.int .u32 65535))⟩]) (.cond (.tmp 13) (.ops [m 14 0,m 15 1,m 16 2,⟨some 17,none,.bin .shr (.tmp 16) (.const (.int .u64 16))⟩,⟨some 18,none,
 .conv .i64 (.tmp 17)⟩,⟨some 19,none,.call (.func 34) [(.tmp 14),(.const (.int .i64 2)),(.tmp 15),(.const (.int .i64 0)),(.tmp 18)]⟩]) .skip)))
theorem f_emit_generator_number : compF Tryz.prog 54 = some (20, c_emit_generator_number, []) := by kernel_rfl
def c_emit_generator_store:VC:=(.ops [m 6 0,m 7 1,m 8 0,k 9 8,F 10 2 4 9,f 11 2 1 10,l 12 1 11,m 13 0,k 14 13,f 15 10 1 14,l 16 1 15,x 17 1 12 16,l 18 1 17,m 19 0,k 20 19,
 f 21 11 1 20,l 22 1 21,B 23 .add 18 22,m 24 2,B 25 .sub 23 24,⟨some 26,none,.call (.func 34) [(.tmp 6),(.const (.int .i64 17)),(.tmp 7),(.const (.int .i64 0)),(.tmp 25)]⟩])
theorem f_emit_generator_store : compF Tryz.prog 55 = some (27, c_emit_generator_store, []) := by kernel_rfl
def c_emit_meanings_2:VC:=(.seq (.ops [X 3 71 1]) (.seq (.ops [m 4 0,f 5 1 1 3,l 6 1 5,⟨some 7,none,.call (.func 34) [(.tmp 4),(.const (.int .i64 16)),(.const (.int .i64 1)),
 (.const (.int .i64 0)),(.tmp 6)]⟩]) (.ops [m 8 0,⟨some 9,none,.call (.func 55) [(.tmp 8),(.const (.int .i64 1)),(.const (.int .i64 0))]⟩])))
theorem f_emit_meanings_2 : compF Tryz.prog 56 = some (10, c_emit_meanings_2, []) := by kernel_rfl
def c_emit_meanings_3:VC:=(.seq (.ops [X 3 71 1]) (.seq (.ops [m 4 0,⟨some 5,none,.call (.func 58) [(.tmp 4),(.const (.int .i64 1)),(.const (.int .i64 1))]⟩]) (.ops [m 6 0,
 f 7 1 1 3,l 8 1 7,⟨some 9,none,.call (.func 34) [(.tmp 6),(.const (.int .i64 17)),(.const (.int .i64 1)),(.const (.int .i64 0)),(.tmp 8)]⟩])))
theorem f_emit_meanings_3 : compF Tryz.prog 57 = some (10, c_emit_meanings_3, []) := by kernel_rfl
def c_emit_generator_load:VC:=(.ops [m 6 0,m 7 1,m 8 0,k 9 8,F 10 2 4 9,f 11 2 1 10,l 12 1 11,m 13 0,k 14 13,f 15 10 1 14,l 16 1 15,x 17 1 12 16,l 18 1 17,m 19 0,k 20 19,
 f 21 11 1 20,l 22 1 21,B 23 .add 18 22,m 24 2,B 25 .sub 23 24,⟨some 26,none,.call (.func 34) [(.tmp 6),(.const (.int .i64 16)),(.tmp 7),(.const (.int .i64 0)),(.tmp 25)]⟩])
theorem f_emit_generator_load : compF Tryz.prog 58 = some (27, c_emit_generator_load, []) := by kernel_rfl
def c_emit_meanings_4:VC:=(.seq (.ops [X 3 71 1]) (.seq (.ops [m 4 0,⟨some 5,none,.call (.func 58) [(.tmp 4),(.const (.int .i64 1)),(.const (.int .i64 1))]⟩]) (.seq (.ops [m 6 0,
 f 7 2 1 3,l 8 1 7,⟨some 9,none,.call (.func 34) [(.tmp 6),(.const (.int .i64 25)),(.const (.int .i64 1)),(.const (.int .i64 0)),(.tmp 8)]⟩]) (.seq (.ops [m 10 0,f 11 1 1 3,
 l 12 1 11,⟨some 13,none,.call (.func 34) [(.tmp 10),(.const (.int .i64 16)),(.const (.int .i64 1)),(.const (.int .i64 1)),(.tmp 12)]⟩]) (.ops [m 14 0,⟨some 15,none,
 .call (.func 55) [(.tmp 14),(.const (.int .i64 1)),(.const (.int .i64 1))]⟩])))))
theorem f_emit_meanings_4 : compF Tryz.prog 59 = some (16, c_emit_meanings_4, []) := by kernel_rfl
def c_emit_meanings_5:VC:=(.seq (.ops [X 3 71 1]) (.seq (.ops [m 4 0,⟨some 5,none,.call (.func 58) [(.tmp 4),(.const (.int .i64 1)),(.const (.int .i64 2))]⟩]) (.seq (.ops [m 6 0,
 f 7 2 1 3,l 8 1 7,⟨some 9,none,.call (.func 34) [(.tmp 6),(.const (.int .i64 25)),(.const (.int .i64 1)),(.const (.int .i64 0)),(.tmp 8)]⟩]) (.seq (.ops [m 10 0,⟨some 11,none,
 .call (.func 58) [(.tmp 10),(.const (.int .i64 2)),(.const (.int .i64 1))]⟩]) (.ops [m 12 0,f 13 1 1 3,l 14 1 13,⟨some 15,none,.call (.func 34) [(.tmp 12),(.const (.int .i64 17)),
 (.const (.int .i64 2)),(.const (.int .i64 1)),(.tmp 14)]⟩])))))
theorem f_emit_meanings_5 : compF Tryz.prog 60 = some (16, c_emit_meanings_5, []) := by kernel_rfl
def c_emit_meanings_6:VC:=(.seq (.ops [X 3 71 1]) (.seq (.ops [m 4 0,⟨some 5,none,.call (.func 58) [(.tmp 4),(.const (.int .i64 1)),(.const (.int .i64 2))]⟩]) (.seq (.ops [m 6 0,
 ⟨some 7,none,.call (.func 58) [(.tmp 6),(.const (.int .i64 2)),(.const (.int .i64 1))]⟩]) (.seq (.ops [m 8 0,f 9 1 1 3,l 10 1 9,⟨some 11,none,.call (.func 34) [(.tmp 8),(.tmp 10),
 (.const (.int .i64 1)),(.const (.int .i64 1)),(.const (.int .i64 2))]⟩]) (.ops [m 12 0,⟨some 13,none,.call (.func 55) [(.tmp 12),(.const (.int .i64 1)),
 (.const (.int .i64 2))]⟩])))))
theorem f_emit_meanings_6 : compF Tryz.prog 61 = some (14, c_emit_meanings_6, []) := by kernel_rfl
def c_emit_meanings_7:VC:=(.seq (.ops [X 3 71 1]) (.seq (.ops [m 4 0,⟨some 5,none,.call (.func 58) [(.tmp 4),(.const (.int .i64 1)),(.const (.int .i64 1))]⟩]) (.seq (.ops [m 6 0,
 ⟨some 7,none,.call (.func 34) [(.tmp 6),(.const (.int .i64 15)),(.const (.int .i64 1)),(.const (.int .i64 1)),(.const (.int .i64 0))]⟩]) (.ops [m 8 0,⟨some 9,none,
 .call (.func 55) [(.tmp 8),(.const (.int .i64 1)),(.const (.int .i64 1))]⟩]))))
theorem f_emit_meanings_7 : compF Tryz.prog 62 = some (10, c_emit_meanings_7, []) := by kernel_rfl
def c_emit_meanings_8:VC:=(.seq (.ops [X 3 71 1]) (.ops [m 4 0,m 5 0,k 6 5,f 7 10 1 6,l 8 1 7,f 9 1 1 3,l 10 1 9,⟨some 11,none,.call (.func 64) [(.tmp 4),(.const (.int .i64 18)),
 (.const (.int .i64 0)),(.tmp 8),(.tmp 10)]⟩]))
theorem f_emit_meanings_8 : compF Tryz.prog 63 = some (12, c_emit_meanings_8, []) := by kernel_rfl

 def c_emit_generator_hole:VC:=(.seq (.par false (.one (m 10 0) (.one (m 11 0) (.one (k 12 11) (.one (f 13 9 1 12) (.one (l 14 1 13) (.one (m 15 0) (.one (k 16 15) (.one (f 17 6 1 16) (.one (l 18 1 17) (.one (n 19 18) (.one (m 20 3) (.one (m 21 4) (.one ⟨some 22,
 none,.bld [.int .i64 0,.int .i64 0,.int .i64 0] [(0,(1,(.tmp 19))),(1,(1,(.tmp 20))),(2,(1,(.tmp 21)))]⟩ (.one ⟨some 23,none,.bsl 94 3 1 [.int .i64 0,.int .i64 0,.int .i64 0] [(0,
 (3,(.tmp 22)))]⟩ (.one ⟨some 24,none,.app 94 3 24 (.tmp 14) (.tmp 23)⟩ (.one (k 25 10) (.one (f 26 9 1 25) (.one (s 1 26 24) .done))))))))))))))))))) (.ops [m 27 0,m 28 1,m 29 2,
 ⟨some 30,none,.call (.func 34) [(.tmp 27),(.tmp 28),(.tmp 29),(.const (.int .i64 0)),(.const (.int .i64 0))]⟩]))
theorem f_emit_generator_hole : compF Tryz.prog 64 = some (31, c_emit_generator_hole, []) := by kernel_rfl
def c_emit_meanings_9:VC:=(.seq (.ops [X 3 71 1]) (.seq (.ops [m 4 0,⟨some 5,none,.call (.func 58) [(.tmp 4),(.const (.int .i64 1)),(.const (.int .i64 1))]⟩]) (.ops [m 6 0,m 7 0,
 k 8 7,f 9 10 1 8,l 10 1 9,f 11 1 1 3,l 12 1 11,⟨some 13,none,.call (.func 64) [(.tmp 6),(.const (.int .i64 19)),(.const (.int .i64 1)),(.tmp 10),(.tmp 12)]⟩])))
theorem f_emit_meanings_9 : compF Tryz.prog 65 = some (14, c_emit_meanings_9, []) := by kernel_rfl
def c_emit_meanings_10:VC:=(.seq (.ops [X 3 71 1]) (.ops [m 4 0,L 5 4 3,c2 6 67 4 5]))
theorem f_emit_meanings_10 : compF Tryz.prog 66 = some (7, c_emit_meanings_10, []) := by kernel_rfl

 def c_emit_generator_call:VC:=(.seq (.ops [X 3 71 1]) (.seq (.par false (.one (m 6 0) (.one (k 7 6) (.one (F 8 0 2 7) (.one (f 9 1 1 8) (.one (l 10 1 9) (.one (f 11 1 1 3) (.one (l 12 1 11) (.one (x 13 5 10 12) (.one (L 14 5 13) (.one ⟨some 4,
 none,.alc 74 [.int .i64 0,.int .i64 0,.int .i64 0,.bool false,.slice none 0 0]⟩ (.one (S 5 4 14) .done)))))))))))) (.seq (.seq (.ops [f 15 0 1 4,l 16 1 15,
 i 17 0]) (.block 0 (.loop (.seq (.ops [B 18 .lss 17 16]) (.seq (.cond (.tmp 18) .skip (.exit 0)) (.seq (.block 1 (.seq (.ops [m 19 17,m 5 19]) (.seq (.ops [m 20 0,f 21 0 1 4,
 l 22 1 21,m 23 5,B 24 .sub 22 23,⟨some 25,none,.call (.func 58) [(.tmp 20),(.const (.int .i64 1)),(.tmp 24)]⟩]) (.ops [m 26 0,f 27 2 1 4,l 28 1 27,m 29 5,B 30 .add 28 29,⟨some 31,
 none,.call (.func 34) [(.tmp 26),(.const (.int .i64 17)),(.const (.int .i64 1)),(.const (.int .i64 0)),(.tmp 30)]⟩])))) (.ops [b 32 .add 17 1,m 17 32]))))))) (.seq (.ops [m 33 0,
 f 34 1 1 3,l 35 1 34,⟨some 36,none,.call (.func 64) [(.tmp 33),(.const (.int .i64 21)),(.const (.int .i64 14)),(.tmp 35),(.const (.int .i64 (-1)))]⟩]) (.seq (.ops [f 37 3 1 4,
 l 38 1 37]) (.cond (.tmp 38) (.ops [m 39 0,f 40 0 1 4,l 41 1 40,⟨some 42,none,.call (.func 55) [(.tmp 39),(.const (.int .i64 1)),(.tmp 41)]⟩]) .skip))))))
theorem f_emit_generator_call : compF Tryz.prog 67 = some (43, c_emit_generator_call, []) := by kernel_rfl
def c_emit_meanings_11:VC:=(.seq (.ops [X 3 71 1]) (.ops [m 4 0,c1 5 69 4]))
theorem f_emit_meanings_11 : compF Tryz.prog 68 = some (6, c_emit_meanings_11, []) := by kernel_rfl
def c_emit_generator_leave:VC:=(.seq (.seq (.ops [m 2 0,k 3 2,f 4 10 1 3,l 5 1 4,m 6 0,k 7 6,F 8 0 2 7,f 9 1 1 8,l 10 1 9,n 11 10,b 12 .sub 11 1,
 B 13 .eql 5 12]) (.cond (.tmp 13) (.seq (.ops [m 14 0,⟨some 15,none,.call (.func 34) [(.tmp 14),(.const (.int .i64 26)),(.const (.int .i64 0)),(.const (.int .i64 0)),
 (.const (.int .i64 0))]⟩]) .ret) .skip)) (.seq (.seq (.ops [m 16 0,k 17 16,F 18 0 2 17,f 19 1 1 18,l 20 1 19,m 21 0,k 22 21,f 23 10 1 22,l 24 1 23,x 25 5 20 24,f 26 3 1 25,
 l 27 1 26]) (.cond (.tmp 27) (.ops [m 28 0,⟨some 29,none,.call (.func 58) [(.tmp 28),(.const (.int .i64 1)),(.const (.int .i64 1))]⟩]) .skip)) (.seq (.ops [m 30 0,m 31 0,k 32 31,
 F 33 2 4 32,f 34 1 1 33,l 35 1 34,m 36 0,k 37 36,f 38 10 1 37,l 39 1 38,x 40 1 35 39,l 41 1 40,⟨some 42,none,.call (.func 34) [(.tmp 30),(.const (.int .i64 16)),
 (.const (.int .i64 14)),(.const (.int .i64 0)),(.tmp 41)]⟩]) (.ops [m 43 0,⟨some 44,none,.call (.func 34) [(.tmp 43),(.const (.int .i64 22)),(.const (.int .i64 14)),
 (.const (.int .i64 0)),(.const (.int .i64 0))]⟩]))))
theorem f_emit_generator_leave : compF Tryz.prog 69 = some (45, c_emit_generator_leave, []) := by kernel_rfl
def c_emit_meanings_12:VC:=(.seq (.ops [X 3 71 1]) (.seq (.ops [m 4 0,⟨some 5,none,.call (.func 34) [(.tmp 4),(.const (.int .i64 23)),(.const (.int .i64 1)),(.const (.int .i64 0)),
 (.const (.int .i64 0))]⟩]) (.ops [m 6 0,⟨some 7,none,.call (.func 55) [(.tmp 6),(.const (.int .i64 1)),(.const (.int .i64 0))]⟩])))
theorem f_emit_meanings_12 : compF Tryz.prog 70 = some (8, c_emit_meanings_12, []) := by kernel_rfl
def c_emit_meanings_13:VC:=(.seq (.ops [X 3 71 1]) (.seq (.ops [m 4 0,⟨some 5,none,.call (.func 58) [(.tmp 4),(.const (.int .i64 1)),(.const (.int .i64 1))]⟩]) (.ops [m 6 0,
 ⟨some 7,none,.call (.func 34) [(.tmp 6),(.const (.int .i64 24)),(.const (.int .i64 1)),(.const (.int .i64 0)),(.const (.int .i64 0))]⟩])))
theorem f_emit_meanings_13 : compF Tryz.prog 71 = some (8, c_emit_meanings_13, []) := by kernel_rfl
def c_emit_generator_clear:VC:=(.seq (.seq (.ops [m 8 2,m 9 1,B 10 .sub 8 9,b 11 .leq 10 6]) (.cond (.tmp 11) (.seq (.seq (.ops [m 12 1,
 m 6 12]) (.block 0 (.loop (.seq (.seq (.ops [m 13 6,m 14 2,B 15 .lss 13 14]) (.cond (.tmp 15) .skip (.exit 0))) (.seq (.block 1 (.ops [m 18 0,m 19 6,⟨some 20,none,
 .call (.func 34) [(.tmp 18),(.const (.int .i64 17)),(.const (.int .i64 0)),(.const (.int .i64 0)),(.tmp 19)]⟩])) (.ops [m 16 6,b 17 .add 16 1,
 m 6 17])))))) .ret) .skip)) (.seq (.ops [m 21 0,m 22 1,⟨some 23,none,.call (.func 34) [(.tmp 21),(.const (.int .i64 1)),(.const (.int .i64 1)),(.const (.int .i64 0)),
 (.tmp 22)]⟩]) (.seq (.ops [m 24 0,m 25 2,⟨some 26,none,.call (.func 34) [(.tmp 24),(.const (.int .i64 1)),(.const (.int .i64 2)),(.const (.int .i64 0)),
 (.tmp 25)]⟩]) (.seq (.ops [m 27 0,k 28 27,f 29 6 1 28,l 30 1 29,n 31 30,m 7 31]) (.seq (.ops [m 32 0,⟨some 33,none,.call (.func 34) [(.tmp 32),(.const (.int .i64 17)),
 (.const (.int .i64 0)),(.const (.int .i64 1)),(.const (.int .i64 0))]⟩]) (.seq (.ops [m 34 0,⟨some 35,none,.call (.func 34) [(.tmp 34),(.const (.int .i64 4)),
 (.const (.int .i64 1)),(.const (.int .i64 1)),(.const (.int .i64 15))]⟩]) (.seq (.ops [m 36 0,⟨some 37,none,.call (.func 34) [(.tmp 36),(.const (.int .i64 14)),
 (.const (.int .i64 3)),(.const (.int .i64 1)),(.const (.int .i64 2))]⟩]) (.ops [m 38 0,m 39 7,⟨some 40,none,.call (.func 34) [(.tmp 38),(.const (.int .i64 20)),
 (.const (.int .i64 3)),(.const (.int .i64 0)),(.tmp 39)]⟩]))))))))
theorem f_emit_generator_clear : compF Tryz.prog 72 = some (41, c_emit_generator_clear, []) := by kernel_rfl
def c_inst_known:VC:=(.seq (.ops [o 2 false]) (.seq (.ops [m 3 0,c1 4 74 3,⟨some 5,none,.fld 0 false 1 (.tmp 4)⟩,⟨(some 6),none,(.bin .neq (.tmp 5) (.const (.string ⟨#[]⟩)))⟩,
 m 2 6]) .ret))
theorem f_inst_known : compF Tryz.prog 73 = some (7, c_inst_known, [.tmp 2]) := by kernel_rfl
def c_inst_shapeOf:VC:=(.seq (.ops [⟨(some 2),none,(.alc 126 [(.string ⟨#[]⟩),(.bool false),(.bool false),
 (.int .i64 0)])⟩]) (.seq (.seq (.ops [m 3 0]) (.block 0 (.seq (.ops [b 5 .eql 3 1,m 4 5]) (.cond (.tmp 4) (.seq (.ops [⟨(some 6),none,(.bld [(.string ⟨#[]⟩),(.bool false),
 (.bool false),(.int .i64 0)] [(0,(1,(.const (.string ⟨#[108,105]⟩)))),(1,(1,(.const (.bool true)))),(2,(1,(.const (.bool false)))),(3,(1,(.const (.int .i64 1))))])⟩,
 S 4 2 6]) .ret) (.seq (.ops [b 8 .eql 3 2,m 7 8]) (.cond (.tmp 7) (.seq (.ops [⟨(some 9),none,(.bld [(.string ⟨#[]⟩),(.bool false),(.bool false),(.int .i64 0)] [(0,(1,
 (.const (.string ⟨#[108,117,105]⟩)))),(1,(1,(.const (.bool true)))),(2,(1,(.const (.bool false)))),(3,(1,(.const (.int .i64 1))))])⟩,S 4 2 9]) .ret) (.seq (.ops [b 11 .eql 3 3,
 m 10 11]) (.cond (.tmp 10) (.seq (.ops [⟨(some 12),none,(.bld [(.string ⟨#[]⟩),(.bool false),(.bool false),(.int .i64 0)] [(0,(1,(.const (.string ⟨#[109,111,118]⟩)))),(1,(1,
 (.const (.bool true)))),(2,(1,(.const (.bool true)))),(3,(1,(.const (.int .i64 0))))])⟩,S 4 2 12]) .ret) (.seq (.ops [b 14 .eql 3 4,
 m 13 14]) (.cond (.tmp 13) (.seq (.ops [⟨(some 15),none,(.bld [(.string ⟨#[]⟩),(.bool false),(.bool false),(.int .i64 0)] [(0,(1,(.const (.string ⟨#[97,100,100]⟩)))),(1,(1,
 (.const (.bool true)))),(2,(1,(.const (.bool true)))),(3,(1,(.const (.int .i64 2))))])⟩,S 4 2 15]) .ret) (.seq (.ops [b 17 .eql 3 5,
 m 16 17]) (.cond (.tmp 16) (.seq (.ops [⟨(some 18),none,(.bld [(.string ⟨#[]⟩),(.bool false),(.bool false),(.int .i64 0)] [(0,(1,(.const (.string ⟨#[115,117,98]⟩)))),(1,(1,
 (.const (.bool true)))),(2,(1,(.const (.bool true)))),(3,(1,(.const (.int .i64 2))))])⟩,S 4 2 18]) .ret) (.seq (.ops [b 20 .eql 3 6,
 m 19 20]) (.cond (.tmp 19) (.seq (.ops [⟨(some 21),none,(.bld [(.string ⟨#[]⟩),(.bool false),(.bool false),(.int .i64 0)] [(0,(1,(.const (.string ⟨#[109,117,108]⟩)))),(1,(1,
 (.const (.bool true)))),(2,(1,(.const (.bool true)))),(3,(1,(.const (.int .i64 2))))])⟩,S 4 2 21]) .ret) (.seq (.ops [b 23 .eql 3 7,
 m 22 23]) (.cond (.tmp 22) (.seq (.ops [⟨(some 24),none,(.bld [(.string ⟨#[]⟩),(.bool false),(.bool false),(.int .i64 0)] [(0,(1,(.const (.string ⟨#[100,105,118]⟩)))),(1,(1,
 (.const (.bool true)))),(2,(1,(.const (.bool true)))),(3,(1,(.const (.int .i64 2))))])⟩,S 4 2 24]) .ret) (.seq (.ops [b 26 .eql 3 8,
 m 25 26]) (.cond (.tmp 25) (.seq (.ops [⟨(some 27),none,(.bld [(.string ⟨#[]⟩),(.bool false),(.bool false),(.int .i64 0)] [(0,(1,(.const (.string ⟨#[109,111,100]⟩)))),(1,(1,
 (.const (.bool true)))),(2,(1,(.const (.bool true)))),(3,(1,(.const (.int .i64 2))))])⟩,S 4 2 27]) .ret) (.seq (.ops [b 29 .eql 3 9,
 m 28 29]) (.cond (.tmp 28) (.seq (.ops [⟨(some 30),none,(.bld [(.string ⟨#[]⟩),(.bool false),(.bool false),(.int .i64 0)] [(0,(1,(.const (.string ⟨#[97,110,100]⟩)))),(1,(1,
 (.const (.bool true)))),(2,(1,(.const (.bool true)))),(3,(1,(.const (.int .i64 2))))])⟩,S 4 2 30]) .ret) (.seq (.ops [b 32 .eql 3 10,
 m 31 32]) (.cond (.tmp 31) (.seq (.ops [⟨(some 33),none,(.bld [(.string ⟨#[]⟩),(.bool false),(.bool false),(.int .i64 0)] [(0,(1,(.const (.string ⟨#[111,114]⟩)))),(1,(1,
 (.const (.bool true)))),(2,(1,(.const (.bool true)))),(3,(1,(.const (.int .i64 2))))])⟩,S 4 2 33]) .ret) (.seq (.ops [b 35 .eql 3 11,
 m 34 35]) (.cond (.tmp 34) (.seq (.ops [⟨(some 36),none,(.bld [(.string ⟨#[]⟩),(.bool false),(.bool false),(.int .i64 0)] [(0,(1,(.const (.string ⟨#[120,111,114]⟩)))),(1,(1,
 (.const (.bool true)))),(2,(1,(.const (.bool true)))),(3,(1,(.const (.int .i64 2))))])⟩,S 4 2 36]) .ret) (.seq (.ops [b 38 .eql 3 12,
 m 37 38]) (.cond (.tmp 37) (.seq (.ops [⟨(some 39),none,(.bld [(.string ⟨#[]⟩),(.bool false),(.bool false),(.int .i64 0)] [(0,(1,(.const (.string ⟨#[115,104,108]⟩)))),(1,(1,
 (.const (.bool true)))),(2,(1,(.const (.bool true)))),(3,(1,(.const (.int .i64 2))))])⟩,S 4 2 39]) .ret) (.seq (.ops [b 41 .eql 3 13,
 m 40 41]) (.cond (.tmp 40) (.seq (.ops [⟨(some 42),none,(.bld [(.string ⟨#[]⟩),(.bool false),(.bool false),(.int .i64 0)] [(0,(1,(.const (.string ⟨#[115,104,114]⟩)))),(1,(1,
 (.const (.bool true)))),(2,(1,(.const (.bool true)))),(3,(1,(.const (.int .i64 2))))])⟩,S 4 2 42]) .ret) (.seq (.ops [b 44 .eql 3 14,
 m 43 44]) (.cond (.tmp 43) (.seq (.ops [⟨(some 45),none,(.bld [(.string ⟨#[]⟩),(.bool false),(.bool false),(.int .i64 0)] [(0,(1,(.const (.string ⟨#[108,116]⟩)))),(1,(1,
 (.const (.bool true)))),(2,(1,(.const (.bool true)))),(3,(1,(.const (.int .i64 2))))])⟩,S 4 2 45]) .ret) (.seq (.ops [b 47 .eql 3 15,
 m 46 47]) (.cond (.tmp 46) (.seq (.ops [⟨(some 48),none,(.bld [(.string ⟨#[]⟩),(.bool false),(.bool false),(.int .i64 0)] [(0,(1,(.const (.string ⟨#[101,113]⟩)))),(1,(1,
 (.const (.bool true)))),(2,(1,(.const (.bool true)))),(3,(1,(.const (.int .i64 2))))])⟩,S 4 2 48]) .ret) (.seq (.ops [b 50 .eql 3 16,
 m 49 50]) (.cond (.tmp 49) (.seq (.ops [⟨(some 51),none,(.bld [(.string ⟨#[]⟩),(.bool false),(.bool false),(.int .i64 0)] [(0,(1,(.const (.string ⟨#[108,100]⟩)))),(1,(1,
 (.const (.bool true)))),(2,(1,(.const (.bool true)))),(3,(1,(.const (.int .i64 1))))])⟩,S 4 2 51]) .ret) (.seq (.ops [b 53 .eql 3 17,
 m 52 53]) (.cond (.tmp 52) (.seq (.ops [⟨(some 54),none,(.bld [(.string ⟨#[]⟩),(.bool false),(.bool false),(.int .i64 0)] [(0,(1,(.const (.string ⟨#[115,116]⟩)))),(1,(1,
 (.const (.bool true)))),(2,(1,(.const (.bool true)))),(3,(1,(.const (.int .i64 1))))])⟩,S 4 2 54]) .ret) (.seq (.ops [b 56 .eql 3 18,
 m 55 56]) (.cond (.tmp 55) (.seq (.ops [⟨(some 57),none,(.bld [(.string ⟨#[]⟩),(.bool false),(.bool false),(.int .i64 0)] [(0,(1,(.const (.string ⟨#[106,109,112]⟩)))),(1,(1,
 (.const (.bool false)))),(2,(1,(.const (.bool false)))),(3,(1,(.const (.int .i64 1))))])⟩,S 4 2 57]) .ret) (.seq (.ops [b 59 .eql 3 19,
 m 58 59]) (.cond (.tmp 58) (.seq (.ops [⟨(some 60),none,(.bld [(.string ⟨#[]⟩),(.bool false),(.bool false),(.int .i64 0)] [(0,(1,(.const (.string ⟨#[106,122]⟩)))),(1,(1,
 (.const (.bool true)))),(2,(1,(.const (.bool false)))),(3,(1,(.const (.int .i64 1))))])⟩,S 4 2 60]) .ret) (.seq (.ops [b 62 .eql 3 20,
 m 61 62]) (.cond (.tmp 61) (.seq (.ops [⟨(some 63),none,(.bld [(.string ⟨#[]⟩),(.bool false),(.bool false),(.int .i64 0)] [(0,(1,(.const (.string ⟨#[106,110,122]⟩)))),(1,(1,
 (.const (.bool true)))),(2,(1,(.const (.bool false)))),(3,(1,(.const (.int .i64 1))))])⟩,S 4 2 63]) .ret) (.seq (.ops [b 65 .eql 3 21,
 m 64 65]) (.cond (.tmp 64) (.seq (.ops [⟨(some 66),none,(.bld [(.string ⟨#[]⟩),(.bool false),(.bool false),(.int .i64 0)] [(0,(1,(.const (.string ⟨#[99,97,108,108]⟩)))),(1,(1,
 (.const (.bool true)))),(2,(1,(.const (.bool false)))),(3,(1,(.const (.int .i64 1))))])⟩,S 4 2 66]) .ret) (.seq (.ops [b 68 .eql 3 22,
 m 67 68]) (.cond (.tmp 67) (.seq (.ops [⟨(some 69),none,(.bld [(.string ⟨#[]⟩),(.bool false),(.bool false),(.int .i64 0)] [(0,(1,(.const (.string ⟨#[114,101,116]⟩)))),(1,(1,
 (.const (.bool true)))),(2,(1,(.const (.bool false)))),(3,(1,(.const (.int .i64 0))))])⟩,S 4 2 69]) .ret) (.seq (.ops [b 71 .eql 3 23,
 m 70 71]) (.cond (.tmp 70) (.seq (.ops [⟨(some 72),none,(.bld [(.string ⟨#[]⟩),(.bool false),(.bool false),(.int .i64 0)] [(0,(1,(.const (.string ⟨#[103,101,116]⟩)))),(1,(1,
 (.const (.bool true)))),(2,(1,(.const (.bool false)))),(3,(1,(.const (.int .i64 0))))])⟩,S 4 2 72]) .ret) (.seq (.ops [b 74 .eql 3 24,
 m 73 74]) (.cond (.tmp 73) (.seq (.ops [⟨(some 75),none,(.bld [(.string ⟨#[]⟩),(.bool false),(.bool false),(.int .i64 0)] [(0,(1,(.const (.string ⟨#[112,117,116]⟩)))),(1,(1,
 (.const (.bool true)))),(2,(1,(.const (.bool false)))),(3,(1,(.const (.int .i64 0))))])⟩,S 4 2 75]) .ret) (.seq (.ops [b 77 .eql 3 25,
 m 76 77]) (.cond (.tmp 76) (.seq (.ops [⟨(some 78),none,(.bld [(.string ⟨#[]⟩),(.bool false),(.bool false),(.int .i64 0)] [(0,(1,(.const (.string ⟨#[99,104,107]⟩)))),(1,(1,
 (.const (.bool true)))),(2,(1,(.const (.bool false)))),(3,(1,(.const (.int .i64 1))))])⟩,S 4 2 78]) .ret) (.seq (.ops [b 80 .eql 3 26,
 m 79 80]) (.cond (.tmp 79) (.seq (.ops [⟨(some 81),none,(.bld [(.string ⟨#[]⟩),(.bool false),(.bool false),(.int .i64 0)] [(0,(1,(.const (.string ⟨#[104,97,108,116]⟩)))),(1,(1,
 (.const (.bool false)))),(2,(1,(.const (.bool false)))),(3,(1,(.const (.int .i64 0))))])⟩,S 4 2 81]) .ret) (.seq (.ops [b 83 .eql 3 27,
 m 82 83]) (.cond (.tmp 82) (.seq (.ops [⟨(some 84),none,(.bld [(.string ⟨#[]⟩),(.bool false),(.bool false),(.int .i64 0)] [(0,(1,(.const (.string ⟨#[108,100,99]⟩)))),(1,(1,
 (.const (.bool true)))),(2,(1,(.const (.bool true)))),(3,(1,(.const (.int .i64 1))))])⟩,
 S 4 2 84]) .ret) .skip)))))))))))))))))))))))))))))))))))))))))))))))))))))))) (.seq (.ops [⟨(some 85),none,(.bld [(.string ⟨#[]⟩),(.bool false),(.bool false),(.int .i64 0)] [])⟩,
 S 4 2 85]) .ret)))
theorem f_inst_shapeOf : compF Tryz.prog 74 = some (86, c_inst_shapeOf, [(.cell 2 true 4)]) := by kernel_rfl
def c_inst_within:VC:=(.seq (.ops [o 6 false]) (.seq (.seq (.ops [m 7 2,⟨some 8,none,.un .not (.tmp 7)⟩]) (.cond (.tmp 8) (.seq (.ops [m 9 0,b 10 .eql 9 0,
 m 6 10]) .ret) .skip)) (.seq (.ops [m 11 0,b 12 .geq 11 0,m 13 12,⟨some 14,some (13,true),.mv (.tmp 0)⟩,⟨some 15,some (13,true),.mv (.tmp 1)⟩,⟨some 16,some (13,true),
 .bin .leq (.tmp 14) (.tmp 15)⟩,⟨some 17,none,.pick (.tmp 13) (.tmp 16) (.const (.bool false))⟩,m 6 17]) .ret)))
theorem f_inst_within : compF Tryz.prog 75 = some (18, c_inst_within, [.tmp 6]) := by kernel_rfl
def c_word_divide:VC:=(.seq (.ops [⟨some 6,none,.mv (.const (.int .u32 0))⟩,i 7 0]) (.seq (.seq (.ops [m 8 2,⟨some 9,none,
 .bin .eql (.tmp 8) (.const (.int .u32 0))⟩]) (.cond (.tmp 9) (.seq (.ops [⟨some 6,none,.mv (.const (.int .u32 0))⟩,i 7 14]) .ret) .skip)) (.seq (.seq (.ops [m 10 0,
 b 11 .eql 10 7]) (.cond (.tmp 11) (.seq (.ops [m 12 1,m 13 2,B 14 .quo 12 13,m 6 14,i 7 0]) .ret) .skip)) (.seq (.ops [m 15 1,m 16 2,B 17 .rem 15 16,m 6 17,i 7 0]) .ret))))
theorem f_word_divide : compF Tryz.prog 76 = some (18, c_word_divide, [.tmp 6,.tmp 7]) := by kernel_rfl
def c_word_shift:VC:=(.seq (.ops [⟨some 6,none,.mv (.const (.int .u32 0))⟩]) (.seq (.block 0 (.seq (.ops [m 8 2,⟨some 9,none,.bin .gtr (.tmp 8) (.const (.int .u32 31))⟩,
 m 7 9]) (.cond (.tmp 7) (.seq (.ops [⟨some 6,none,.mv (.const (.int .u32 0))⟩]) .ret) (.seq (.ops [m 11 0,b 12 .eql 11 12,m 10 12]) (.cond (.tmp 10) (.seq (.ops [m 13 1,m 14 2,
 B 15 .shl 13 14,m 6 15]) .ret) .skip))))) (.seq (.ops [m 16 1,m 17 2,B 18 .shr 16 17,m 6 18]) .ret)))
theorem f_word_shift : compF Tryz.prog 77 = some (19, c_word_shift, [.tmp 6]) := by kernel_rfl
def c_word_compare:VC:=(.seq (.ops [⟨some 6,none,.mv (.const (.int .u32 0))⟩]) (.seq (.block 0 (.seq (.block 2 (.block 1 (.seq (.seq (.seq (.ops [m 8 0,b 9 .eql 8 14,m 10 9,
 ⟨some 11,some (10,true),.mv (.tmp 1)⟩,⟨some 12,some (10,true),.mv (.tmp 2)⟩,⟨some 13,some (10,true),.bin .lss (.tmp 11) (.tmp 12)⟩,⟨some 14,none,
 .pick (.tmp 10) (.tmp 13) (.const (.bool false))⟩,m 7 14]) (.cond (.tmp 7) (.exit 1) .skip)) (.seq (.ops [m 16 0,b 17 .eql 16 15,m 18 17,⟨some 19,some (18,true),.mv (.tmp 1)⟩,
 ⟨some 20,some (18,true),.mv (.tmp 2)⟩,⟨some 21,some (18,true),.bin .eql (.tmp 19) (.tmp 20)⟩,⟨some 22,none,.pick (.tmp 18) (.tmp 21) (.const (.bool false))⟩,
 m 15 22]) (.cond (.tmp 15) (.exit 2) .skip))) (.exit 0)))) (.seq (.seq (.ops [⟨some 6,none,.mv (.const (.int .u32 1))⟩]) .ret) (.exit 0)))) (.seq (.ops [⟨some 6,none,
 .mv (.const (.int .u32 0))⟩]) .ret)))
theorem f_word_compare : compF Tryz.prog 78 = some (23, c_word_compare, [.tmp 6]) := by kernel_rfl
def c_exec_steps_1:VC:=(.seq (.ops [i 4 0]) (.block 0 (.loop (.seq (.seq (.ops [m 6 4,l 7 1 1,B 8 .lss 6 7,m 9 8,⟨some 10,some (9,true),.ld false 1 (.tmp 2)⟩,⟨some 11,some (9,
 true),.call (.func 80) [.tmp 10]⟩,⟨some 12,none,.pick (.tmp 9) (.tmp 11) (.const (.bool false))⟩]) (.cond (.tmp 12) .skip (.exit 0))) (.seq (.block 1 (.seq (.ops [l 15 1 2,
 c1 16 81 15,m 5 16]) (.seq (.ops [l 17 1 2,c1 18 82 17,m 19 18,⟨some 20,some (19,true),.mv (.tmp 0)⟩,⟨some 21,some (19,true),.mv (.tmp 5)⟩,⟨some 22,some (19,true),
 .ycal (.tmp 20) [.tmp 21]⟩,⟨some 23,some (19,true),.un .not (.tmp 22)⟩,⟨some 24,none,
 .pick (.tmp 19) (.tmp 23) (.const (.bool false))⟩]) (.cond (.tmp 24) .ret .skip)))) (.ops [m 13 4,b 14 .add 13 1,m 4 14]))))))
theorem f_exec_steps_1 : compFB Tryz.prog true 79 = some (25, c_exec_steps_1, []) := by kernel_rfl
def c_machine_Runner_Going:VC:=(.seq (.ops [o 2 false]) (.seq (.ops [m 3 0,k 4 3,F 5 2 22 4,f 6 21 1 5,l 7 1 6,b 8 .eql 7 0,m 2 8]) .ret))
theorem f_machine_Runner_Going : compF Tryz.prog 80 = some (9, c_machine_Runner_Going, [.tmp 2]) := by kernel_rfl
def c_machine_Runner_PC:VC:=(.seq (.ops [i 2 0]) (.seq (.ops [m 3 0,k 4 3,F 5 2 22 4,f 6 0 1 5,l 7 1 6,m 2 7]) .ret))
theorem f_machine_Runner_PC : compF Tryz.prog 81 = some (8, c_machine_Runner_PC, [.tmp 2]) := by kernel_rfl
def c_machine_Runner_Step:VC:=(.seq (.ops [o 2 false]) (.seq (.seq (.ops [m 6 0,k 7 6,F 8 2 22 7,f 9 21 1 8,l 10 1 9,
 b 11 .neq 10 0]) (.cond (.tmp 11) (.seq (.ops [o 2 false]) .ret) .skip)) (.seq (.seq (.ops [m 12 0,k 13 12,F 14 2 22 13,f 15 0 1 14,l 16 1 15,b 17 .lss 16 0,m 18 17,⟨some 19,
 some (18,false),.mv (.tmp 0)⟩,⟨some 20,some (18,false),.nck (.tmp 19)⟩,⟨some 21,some (18,false),.fad 2 true 22 (.tmp 20)⟩,⟨some 22,some (18,false),.fad 0 false 1 (.tmp 21)⟩,
 ⟨some 23,some (18,false),.ld false 1 (.tmp 22)⟩,⟨some 24,some (18,false),.mv (.tmp 0)⟩,⟨some 25,some (18,false),.nck (.tmp 24)⟩,⟨some 26,some (18,false),.fad 0 false 1 (.tmp 25)⟩,
 ⟨some 27,some (18,false),.ld false 1 (.tmp 26)⟩,⟨some 28,some (18,false),.len (.tmp 27)⟩,⟨some 29,some (18,false),.bin .geq (.tmp 23) (.tmp 28)⟩,⟨some 30,none,
 .pick (.tmp 18) (.const (.bool true)) (.tmp 29)⟩]) (.cond (.tmp 30) (.seq (.ops [m 31 0,k 32 31,F 33 2 22 32,f 34 21 1 33,⟨none,none,
 .sto false 1 (.tmp 34) (.const (.int .i64 7))⟩]) (.seq (.ops [o 2 false]) .ret)) .skip)) (.seq (.ops [m 35 0,k 36 35,F 37 2 22 36,f 38 20 1 37,l 39 1 38,b 40 .add 39 1,k 41 35,
 F 42 2 22 41,f 43 20 1 42,
 s 1 43 40]) (.seq (.par false (.one (m 45 0) (.one (k 46 45) (.one (f 47 0 1 46) (.one (l 48 1 47) (.one (m 49 0) (.one (k 50 49) (.one (F 51 2 22 50) (.one (f 52 0 1 51) (.one (l 53 1 52) (.one (x 54 1 48 53) (.one (l 55 1 54) (.one (c1 56 86 55) (.one (m 44 56) (.one (e 57 44 0) (.one (e 58 44 1) (.one ⟨some 3,
 none,.alc 55 [.int .i64 0,.int .i64 0,.int .i64 0,.int .i64 0]⟩ (.one (S 4 3 57) (.one (m 4 58) .done))))))))))))))))))) (.seq (.seq (.ops [m 59 4,
 b 60 .neq 59 0]) (.cond (.tmp 60) (.seq (.ops [m 61 0,k 62 61,F 63 2 22 62,f 64 21 1 63,⟨none,none,
 .sto false 1 (.tmp 64) (.const (.int .i64 6))⟩]) (.seq (.ops [o 2 true]) .ret)) .skip)) (.seq (.seq (.ops [m 65 0,L 66 4 3,c2 67 87 65 66,m 5 67]) (.seq (.ops [m 68 5,
 b 69 .neq 68 0]) (.cond (.tmp 69) (.ops [m 70 0,m 71 5,k 72 70,F 73 2 22 72,f 74 21 1 73,s 1 74 71]) .skip))) (.seq (.ops [o 2 true]) .ret))))))))
theorem f_machine_Runner_Step : compF Tryz.prog 82 = some (75, c_machine_Runner_Step, [.tmp 2]) := by kernel_rfl
def c_scref10_Code:VC:=(.seq (.ops [X 1 29 0,⟨some 2,none,.mv (.const (.slice none 0 0))⟩,⟨some 3,none,.mv (.const (.slice none 0 0))⟩]) (.seq (.ops [f 9 0 1 1,l 10 1 9,n 11 10,
 ⟨some 12,none,.mk 55 4 32 [.int .i64 0,.int .i64 0,.int .i64 0,.int .i64 0] (.tmp 11) (.tmp 11)⟩,m 4 12]) (.seq (.ops [f 13 0 1 1,l 14 1 13,n 15 14,⟨some 16,none,
 .mk 4 1 1 [.bool false] (.tmp 15) (.tmp 15)⟩,m 5 16]) (.seq (.seq (.ops [i 6 0]) (.block 0 (.loop (.seq (.seq (.ops [m 17 6,f 18 0 1 1,l 19 1 18,n 20 19,
 B 21 .lss 17 20]) (.cond (.tmp 21) .skip (.exit 0))) (.seq (.block 1 (.seq (.ops [f 25 0 1 1,l 26 1 25,m 27 6,x 28 1 26 27,l 29 1 28,c1 30 88 29,m 24 30,e 31 24 0,e 32 24 1,
 ⟨some 7,none,.alc 55 [.int .i64 0,.int .i64 0,.int .i64 0,.int .i64 0]⟩,S 4 7 31,m 8 32]) (.ops [m 33 4,m 34 6,m 35 5,m 36 6,L 37 4 7,m 38 8,b 39 .eql 38 0,x 40 4 33 34,S 4 40 37,
 x 41 1 35 36,s 1 41 39]))) (.ops [m 22 6,b 23 .add 22 1,m 6 23])))))) (.seq (.ops [m 42 4,m 43 5,m 2 42,m 3 43]) .ret)))))
theorem f_scref10_Code : compF Tryz.prog 83 = some (44, c_scref10_Code, [.tmp 2,.tmp 3]) := by kernel_rfl
def c_stack_count:VC:=(.seq (.ops [i 2 0]) (.seq (.seq (.ops [m 3 0]) (.cond (.tmp 3) (.seq (.ops [i 2 1]) .ret) .skip)) (.seq (.ops [i 2 0]) .ret)))
theorem f_stack_count : compF Tryz.prog 85 = some (4, c_stack_count, [.tmp 2]) := by kernel_rfl
def c_inst_Decode:VC:=(.seq (.ops [⟨some 2,none,.alc 55 [.int .i64 0,.int .i64 0,.int .i64 0,.int .i64 0]⟩,i 3 0]) (.seq (.ops [m 5 0,⟨some 6,none,
 .bin .shr (.tmp 5) (.const (.int .u64 24))⟩,⟨some 7,none,.conv .i64 (.tmp 6)⟩,m 8 0,⟨some 9,none,.bin .shr (.tmp 8) (.const (.int .u64 20))⟩,⟨some 10,none,
 .bin .and (.tmp 9) (.const (.int .u32 15))⟩,⟨some 11,none,.conv .i64 (.tmp 10)⟩,m 12 0,⟨some 13,none,.bin .shr (.tmp 12) (.const (.int .u64 16))⟩,⟨some 14,none,
 .bin .and (.tmp 13) (.const (.int .u32 15))⟩,⟨some 15,none,.conv .i64 (.tmp 14)⟩,m 16 0,⟨some 17,none,.bin .and (.tmp 16) (.const (.int .u32 65535))⟩,⟨some 18,none,
 .conv .i64 (.tmp 17)⟩,⟨some 19,none,.bld [.int .i64 0,.int .i64 0,.int .i64 0,.int .i64 0] [(0,(1,(.tmp 7))),(1,(1,(.tmp 11))),(2,(1,(.tmp 15))),(3,(1,(.tmp 18)))]⟩,⟨some 4,none,
 .alc 55 [.int .i64 0,.int .i64 0,.int .i64 0,.int .i64 0]⟩,S 4 4 19]) (.seq (.seq (.ops [L 20 4 4,c1 21 36 20,⟨some 22,none,
 .un .not (.tmp 21)⟩]) (.cond (.tmp 22) (.seq (.ops [⟨some 23,none,.bld [.int .i64 0,.int .i64 0,.int .i64 0,.int .i64 0] []⟩,S 4 2 23,i 3 7]) .ret) .skip)) (.seq (.ops [L 24 4 4,
 S 4 2 24,i 3 0]) .ret))))
theorem f_inst_Decode : compF Tryz.prog 86 = some (25, c_inst_Decode, [(.cell 2 true 4), (.tmp 3)]) := by kernel_rfl
def c_machine_Runner_do:VC:=(.seq (.ops [X 3 55 1,i 4 0]) (.seq (.ops [m 8 0,k 9 8,F 10 2 22 9,F 11 1 16 10,m 5 11]) (.seq (.seq (.ops [f 12 0 1 3,
 l 13 1 12]) (.block 0 (.seq (.seq (.ops [b 41 .eql 13 18,m 40 41]) (.cond (.tmp 40) .skip (.seq (.ops [b 42 .eql 13 19,
 m 40 42]) (.cond (.tmp 40) .skip (.seq (.ops [b 43 .eql 13 20,m 40 43]) (.cond (.tmp 40) .skip (.seq (.ops [b 44 .eql 13 21,m 40 44]) (.cond (.tmp 40) .skip (.ops [b 45 .eql 13 22,
 m 40 45]))))))))) (.cond (.tmp 40) (.seq (.ops [m 46 0,L 47 4 3,c2 48 93 46 47]) (.seq (.ops [i 4 0]) .ret)) (.seq (.ops [b 50 .eql 13 1,m 49 50]) (.cond (.tmp 49) (.ops [m 51 5,
 f 52 1 1 3,l 53 1 52,f 54 3 1 3,l 55 1 54,⟨some 56,none,.conv .u32 (.tmp 55)⟩,k 57 51,⟨some 58,none,.aidx 16 false 1 (.tmp 57) (.tmp 53)⟩,s 1 58 56]) (.seq (.ops [b 60 .eql 13 2,
 m 59 60]) (.cond (.tmp 59) (.ops [m 61 5,f 62 1 1 3,l 63 1 62,m 64 5,f 65 1 1 3,l 66 1 65,k 67 64,⟨some 68,none,.aidx 16 false 1 (.tmp 67) (.tmp 66)⟩,l 69 1 68,⟨some 70,none,
 .bin .and (.tmp 69) (.const (.int .u32 65535))⟩,f 71 3 1 3,l 72 1 71,⟨some 73,none,.conv .u32 (.tmp 72)⟩,⟨some 74,none,.bin .shl (.tmp 73) (.const (.int .u64 16))⟩,B 75 .or 70 74,
 k 76 61,⟨some 77,none,.aidx 16 false 1 (.tmp 76) (.tmp 63)⟩,s 1 77 75]) (.seq (.ops [b 79 .eql 13 3,m 78 79]) (.cond (.tmp 78) (.ops [m 80 5,f 81 1 1 3,l 82 1 81,m 83 5,f 84 2 1 3,
 l 85 1 84,k 86 83,⟨some 87,none,.aidx 16 false 1 (.tmp 86) (.tmp 85)⟩,l 88 1 87,k 89 80,⟨some 90,none,.aidx 16 false 1 (.tmp 89) (.tmp 82)⟩,
 s 1 90 88]) (.seq (.seq (.ops [b 92 .eql 13 16,m 91 92]) (.cond (.tmp 91) .skip (.seq (.ops [b 93 .eql 13 17,m 91 93]) (.cond (.tmp 91) .skip (.ops [b 94 .eql 13 27,
 m 91 94]))))) (.cond (.tmp 91) (.seq (.ops [m 95 0,L 96 4 3,c2 97 94 95 96,⟨some 98,none,
 .un .not (.tmp 97)⟩]) (.cond (.tmp 98) (.seq (.ops [i 4 8]) .ret) .skip)) (.seq (.ops [b 100 .eql 13 23,m 99 100]) (.cond (.tmp 99) (.ops [m 101 0,f 102 1 1 3,l 103 1 102,
 c2 104 95 101 103]) (.seq (.ops [b 106 .eql 13 24,m 105 106]) (.cond (.tmp 105) (.seq (.seq (.ops [m 107 0,k 108 107,F 109 2 22 108,f 110 19 1 109,l 111 1 110,⟨some 112,none,
 .lens (.tmp 111)⟩,m 113 0,k 114 113,f 115 25 1 114,l 116 1 115,n 117 116,B 118 .add 112 117,
 b 119 .geq 118 65536]) (.cond (.tmp 119) (.seq (.ops [i 4 4]) .ret) .skip)) (.par false (.one (m 120 0) (.one (m 121 0) (.one (k 122 121) (.one (f 123 25 1 122) (.one (l 124 1 123) (.one (m 125 5) (.one (f 126 1 1 3) (.one (l 127 1 126) (.one (k 128 125) (.one ⟨some 129,
 none,.aidx 16 false 1 (.tmp 128) (.tmp 127)⟩ (.one (l 130 1 129) (.one ⟨some 131,none,.conv .u8 (.tmp 130)⟩ (.one ⟨some 132,none,.bsl 5 1 1 [.int .u8 0] [(0,(1,
 (.tmp 131)))]⟩ (.one ⟨some 133,none,
 .app 5 1 1 (.tmp 124) (.tmp 132)⟩ (.one (k 134 120) (.one (f 135 25 1 134) (.one (s 1 135 133) .done))))))))))))))))))) (.seq (.ops [b 137 .eql 13 25,
 m 136 137]) (.cond (.tmp 136) (.seq (.ops [m 138 5,f 139 1 1 3,l 140 1 139,k 141 138,⟨some 142,none,.aidx 16 false 1 (.tmp 141) (.tmp 140)⟩,l 143 1 142,f 144 3 1 3,l 145 1 144,
 ⟨some 146,none,.conv .u32 (.tmp 145)⟩,B 147 .geq 143 146]) (.cond (.tmp 147) (.seq (.ops [i 4 3]) .ret) .skip)) (.seq (.ops [b 149 .eql 13 26,
 m 148 149]) (.cond (.tmp 148) (.seq (.ops [i 4 1]) .ret) (.seq (.par false (.one (f 15 0 1 3) (.one (l 16 1 15) (.one (m 17 5) (.one (f 18 2 1 3) (.one (l 19 1 18) (.one (k 20 17) (.one ⟨some 21,
 none,.aidx 16 false 1 (.tmp 20) (.tmp 19)⟩ (.one (l 22 1 21) (.one (m 23 5) (.one (f 24 3 1 3) (.one (l 25 1 24) (.one (k 26 23) (.one ⟨some 27,none,
 .aidx 16 false 1 (.tmp 26) (.tmp 25)⟩ (.one (l 28 1 27) (.one (c3 29 39 16 22 28) (.one (m 14 29) (.one (e 30 14 0) (.one (e 31 14 1) (.one (m 6 30) (.one (m 7 31) .done))))))))))))))))))))) (.seq (.seq (.ops [m 32 7,
 b 33 .neq 32 0]) (.cond (.tmp 33) (.seq (.ops [i 4 2]) .ret) .skip)) (.ops [m 34 5,f 35 1 1 3,l 36 1 35,m 37 6,k 38 34,⟨some 39,none,.aidx 16 false 1 (.tmp 38) (.tmp 36)⟩,
 s 1 39 37]))))))))))))))))))))))) (.seq (.ops [m 150 0,k 151 150,F 152 2 22 151,f 153 0 1 152,l 154 1 153,b 155 .add 154 1,k 156 150,F 157 2 22 156,f 158 0 1 157,
 s 1 158 155]) (.seq (.ops [i 4 0]) .ret)))))
theorem f_machine_Runner_do : compF Tryz.prog 87 = some (159, c_machine_Runner_do, [.tmp 4]) := by kernel_rfl
def c_scref07_Decode:VC:=(.seq (.ops [⟨some 2,none,.alc 55 [.int .i64 0,.int .i64 0,.int .i64 0,.int .i64 0]⟩,i 3 0]) (.seq (.ops [m 5 0,⟨some 6,none,
 .bin .quo (.tmp 5) (.const (.int .u32 16777216))⟩,⟨some 7,none,.conv .i64 (.tmp 6)⟩,m 8 0,⟨some 9,none,.bin .quo (.tmp 8) (.const (.int .u32 1048576))⟩,⟨some 10,none,
 .bin .rem (.tmp 9) (.const (.int .u32 16))⟩,⟨some 11,none,.conv .i64 (.tmp 10)⟩,m 12 0,⟨some 13,none,.bin .quo (.tmp 12) (.const (.int .u32 65536))⟩,⟨some 14,none,
 .bin .rem (.tmp 13) (.const (.int .u32 16))⟩,⟨some 15,none,.conv .i64 (.tmp 14)⟩,m 16 0,⟨some 17,none,.bin .rem (.tmp 16) (.const (.int .u32 65536))⟩,⟨some 18,none,
 .conv .i64 (.tmp 17)⟩,⟨some 19,none,.bld [.int .i64 0,.int .i64 0,.int .i64 0,.int .i64 0] [(0,(1,(.tmp 7))),(1,(1,(.tmp 11))),(2,(1,(.tmp 15))),(3,(1,(.tmp 18)))]⟩,⟨some 4,none,
 .alc 55 [.int .i64 0,.int .i64 0,.int .i64 0,.int .i64 0]⟩,S 4 4 19]) (.seq (.seq (.ops [L 20 4 4,c1 21 96 20,⟨some 22,none,
 .un .not (.tmp 21)⟩]) (.cond (.tmp 22) (.seq (.ops [⟨some 23,none,.bld [.int .i64 0,.int .i64 0,.int .i64 0,.int .i64 0] []⟩,S 4 2 23,i 3 7]) .ret) .skip)) (.seq (.ops [L 24 4 4,
 S 4 2 24,i 3 0]) .ret))))
theorem f_scref07_Decode : compF Tryz.prog 88 = some (25, c_scref07_Decode, [(.cell 2 true 4), (.tmp 3)]) := by kernel_rfl
def c_scref10_work_set:VC:=(.seq (.ops [m 6 0,m 7 1,m 8 2,k 9 6,F 10 0 22 9,F 11 1 16 10,⟨some 12,none,.aidx 16 false 1 (.tmp 11) (.tmp 7)⟩,s 1 12 8]) (.ops [m 13 0,k 14 13,
 F 15 0 22 14,f 16 0 1 15,l 17 1 16,b 18 .add 17 1,k 19 13,F 20 0 22 19,f 21 0 1 20,s 1 21 18]))
theorem f_scref10_work_set : compF Tryz.prog 89 = some (22, c_scref10_work_set, []) := by kernel_rfl
def c_scref10_fetch:VC:=(.seq (.ops [⟨some 6,none,.mv (.const (.int .u32 0))⟩,o 7 false]) (.seq (.ops [m 9 1,m 10 2,⟨some 11,none,.conv .u32 (.tmp 10)⟩,B 12 .add 9 11,
 m 8 12]) (.seq (.seq (.ops [m 13 8,⟨some 14,none,.conv .u64 (.tmp 13)⟩,m 15 0,n 16 15,⟨some 17,none,.conv .u64 (.tmp 16)⟩,B 18 .geq 14 17]) (.cond (.tmp 18) (.seq (.ops [⟨some 6,
 none,.mv (.const (.int .u32 0))⟩,o 7 false]) .ret) .skip)) (.seq (.ops [m 19 0,m 20 8,x 21 1 19 20,l 22 1 21,m 6 22,o 7 true]) .ret))))
theorem f_scref10_fetch : compF Tryz.prog 90 = some (23, c_scref10_fetch, [.tmp 6,.tmp 7]) := by kernel_rfl
def c_scref10_work_jump:VC:=(.seq (.ops [m 6 1]) (.cond (.tmp 6) (.ops [m 7 0,m 8 2,k 9 7,F 10 0 22 9,f 11 0 1 10,s 1 11 8]) (.ops [m 12 0,k 13 12,F 14 0 22 13,f 15 0 1 14,
 l 16 1 15,b 17 .add 16 1,k 18 12,F 19 0 22 18,f 20 0 1 19,s 1 20 17])))
theorem f_scref10_work_jump : compF Tryz.prog 91 = some (21, c_scref10_work_jump, []) := by kernel_rfl
def c_scref01_Apply:VC:=(.seq (.ops [⟨some 6,none,.mv (.const (.int .u32 0))⟩,i 7 0]) (.seq (.ops [m 10 1,⟨some 11,none,.conv .u64 (.tmp 10)⟩,m 12 2,⟨some 13,none,
 .conv .u64 (.tmp 12)⟩,m 8 11,m 9 13]) (.seq (.seq (.ops [m 14 0]) (.block 0 (.seq (.ops [b 16 .eql 14 4,m 15 16]) (.cond (.tmp 15) (.seq (.ops [m 17 8,m 18 9,B 19 .add 17 18,
 ⟨some 20,none,.bin .rem (.tmp 19) (.const (.int .u64 4294967296))⟩,⟨some 21,none,.conv .u32 (.tmp 20)⟩,m 6 21,i 7 0]) .ret) (.seq (.ops [b 23 .eql 14 5,
 m 22 23]) (.cond (.tmp 22) (.seq (.ops [m 24 8,⟨some 25,none,.bin .add (.tmp 24) (.const (.int .u64 4294967296))⟩,m 26 9,B 27 .sub 25 26,⟨some 28,none,
 .bin .rem (.tmp 27) (.const (.int .u64 4294967296))⟩,⟨some 29,none,.conv .u32 (.tmp 28)⟩,m 6 29,i 7 0]) .ret) (.seq (.ops [b 31 .eql 14 6,
 m 30 31]) (.cond (.tmp 30) (.seq (.ops [m 32 8,m 33 9,B 34 .mul 32 33,⟨some 35,none,.bin .rem (.tmp 34) (.const (.int .u64 4294967296))⟩,⟨some 36,none,.conv .u32 (.tmp 35)⟩,m 6 36,
 i 7 0]) .ret) (.seq (.ops [b 38 .eql 14 7,m 37 38]) (.cond (.tmp 37) (.seq (.seq (.ops [m 39 2,⟨some 40,none,
 .bin .eql (.tmp 39) (.const (.int .u32 0))⟩]) (.cond (.tmp 40) (.seq (.ops [⟨some 6,none,.mv (.const (.int .u32 0))⟩,i 7 14]) .ret) .skip)) (.seq (.ops [m 41 8,m 42 9,
 B 43 .quo 41 42,⟨some 44,none,.conv .u32 (.tmp 43)⟩,m 6 44,i 7 0]) .ret)) (.seq (.ops [b 46 .eql 14 8,m 45 46]) (.cond (.tmp 45) (.seq (.seq (.ops [m 47 2,⟨some 48,none,
 .bin .eql (.tmp 47) (.const (.int .u32 0))⟩]) (.cond (.tmp 48) (.seq (.ops [⟨some 6,none,.mv (.const (.int .u32 0))⟩,i 7 14]) .ret) .skip)) (.seq (.ops [m 49 8,m 50 9,
 B 51 .rem 49 50,⟨some 52,none,.conv .u32 (.tmp 51)⟩,m 6 52,i 7 0]) .ret)) (.seq (.seq (.ops [b 54 .eql 14 9,m 53 54]) (.cond (.tmp 53) .skip (.seq (.ops [b 55 .eql 14 10,
 m 53 55]) (.cond (.tmp 53) .skip (.ops [b 56 .eql 14 11,m 53 56]))))) (.cond (.tmp 53) (.seq (.ops [m 57 0,m 58 1,m 59 2,c3 60 97 57 58 59,m 6 60,
 i 7 0]) .ret) (.seq (.seq (.ops [b 62 .eql 14 12,m 61 62]) (.cond (.tmp 61) .skip (.ops [b 63 .eql 14 13,m 61 63]))) (.cond (.tmp 61) (.seq (.ops [m 64 0,m 65 1,m 66 2,
 c3 67 98 64 65 66,m 6 67,i 7 0]) .ret) (.seq (.ops [b 69 .eql 14 14,m 68 69]) (.cond (.tmp 68) (.seq (.ops [m 70 1,m 71 2,B 72 .lss 70 71,c1 73 99 72,m 6 73,
 i 7 0]) .ret) (.seq (.ops [b 75 .eql 14 15,m 74 75]) (.cond (.tmp 74) (.seq (.ops [m 76 1,m 77 2,B 78 .eql 76 77,c1 79 99 78,m 6 79,
 i 7 0]) .ret) .skip)))))))))))))))))))) (.seq (.ops [⟨some 6,none,.mv (.const (.int .u32 0))⟩,i 7 1]) .ret))))
theorem f_scref01_Apply : compF Tryz.prog 92 = some (80, c_scref01_Apply, [.tmp 6,.tmp 7]) := by kernel_rfl
def c_machine_Runner_jump:VC:=(.seq (.ops [X 3 55 1]) (.seq (.ops [m 6 0,k 7 6,F 8 2 22 7,F 9 1 16 8,m 4 9]) (.seq (.ops [m 10 0,k 11 10,F 12 2 22 11,f 13 0 1 12,l 14 1 13,
 b 15 .add 14 1,m 5 15]) (.seq (.seq (.ops [f 16 0 1 3,
 l 17 1 16]) (.block 0 (.seq (.block 5 (.seq (.block 4 (.seq (.block 3 (.seq (.block 2 (.seq (.block 1 (.seq (.seq (.seq (.ops [b 19 .eql 17 19,
 m 18 19]) (.cond (.tmp 18) (.exit 1) .skip)) (.seq (.seq (.ops [b 21 .eql 17 20,m 20 21]) (.cond (.tmp 20) (.exit 2) .skip)) (.seq (.seq (.ops [b 23 .eql 17 21,
 m 22 23]) (.cond (.tmp 22) (.exit 3) .skip)) (.seq (.seq (.ops [b 25 .eql 17 18,m 24 25]) (.cond (.tmp 24) (.exit 4) .skip)) (.seq (.ops [b 27 .eql 17 22,
 m 26 27]) (.cond (.tmp 26) (.exit 5) .skip)))))) (.exit 0))) (.seq (.seq (.ops [m 28 4,f 29 1 1 3,l 30 1 29,k 31 28,⟨some 32,none,.aidx 16 false 1 (.tmp 31) (.tmp 30)⟩,l 33 1 32,
 ⟨some 34,none,.bin .eql (.tmp 33) (.const (.int .u32 0))⟩]) (.cond (.tmp 34) (.ops [f 35 3 1 3,l 36 1 35,m 5 36]) .skip)) (.exit 0)))) (.seq (.seq (.ops [m 37 4,f 38 1 1 3,
 l 39 1 38,k 40 37,⟨some 41,none,.aidx 16 false 1 (.tmp 40) (.tmp 39)⟩,l 42 1 41,⟨some 43,none,.bin .neq (.tmp 42) (.const (.int .u32 0))⟩]) (.cond (.tmp 43) (.ops [f 44 3 1 3,
 l 45 1 44,m 5 45]) .skip)) (.exit 0)))) (.ops [m 46 4,f 47 1 1 3,l 48 1 47,m 49 5,⟨some 50,none,.conv .u32 (.tmp 49)⟩,k 51 46,⟨some 52,none,.aidx 16 false 1 (.tmp 51) (.tmp 48)⟩,
 s 1 52 50]))) (.seq (.ops [f 53 3 1 3,l 54 1 53,m 5 54]) (.exit 0)))) (.seq (.ops [m 55 4,f 56 1 1 3,l 57 1 56,k 58 55,⟨some 59,none,.aidx 16 false 1 (.tmp 58) (.tmp 57)⟩,
 l 60 1 59,⟨some 61,none,.conv .i64 (.tmp 60)⟩,m 5 61]) (.exit 0))))) (.ops [m 62 0,m 63 5,k 64 62,F 65 2 22 64,f 66 0 1 65,s 1 66 63])))))
theorem f_machine_Runner_jump : compF Tryz.prog 93 = some (67, c_machine_Runner_jump, []) := by kernel_rfl
def c_machine_Runner_move:VC:=(.seq (.ops [X 3 55 1,o 4 false]) (.seq (.ops [m 6 0,f 7 2 1 3,l 8 1 7,k 9 6,F 10 2 22 9,F 11 1 16 10,⟨some 12,none,
 .aidx 16 false 1 (.tmp 11) (.tmp 8)⟩,l 13 1 12,f 14 3 1 3,l 15 1 14,⟨some 16,none,.conv .u32 (.tmp 15)⟩,B 17 .add 13 16,⟨some 18,none,.conv .i64 (.tmp 17)⟩,
 m 5 18]) (.seq (.seq (.ops [f 19 0 1 3,l 20 1 19,b 21 .eql 20 27]) (.cond (.tmp 21) (.seq (.seq (.ops [m 22 5,m 23 0,k 24 23,f 25 0 1 24,l 26 1 25,n 27 26,
 B 28 .geq 22 27]) (.cond (.tmp 28) (.seq (.ops [o 4 false]) .ret) .skip)) (.seq (.ops [m 29 0,f 30 1 1 3,l 31 1 30,m 32 0,k 33 32,f 34 0 1 33,l 35 1 34,m 36 5,x 37 1 35 36,
 l 38 1 37,k 39 29,F 40 2 22 39,F 41 1 16 40,⟨some 42,none,.aidx 16 false 1 (.tmp 41) (.tmp 31)⟩,s 1 42 38]) (.seq (.ops [o 4 true]) .ret))) .skip)) (.seq (.seq (.ops [m 43 5,
 m 44 0,k 45 44,F 46 2 22 45,f 47 17 1 46,l 48 1 47,n 49 48,B 50 .geq 43 49]) (.cond (.tmp 50) (.seq (.ops [o 4 false]) .ret) .skip)) (.seq (.seq (.ops [f 51 0 1 3,l 52 1 51,
 b 53 .eql 52 16]) (.cond (.tmp 53) (.seq (.ops [m 54 0,f 55 1 1 3,l 56 1 55,m 57 0,k 58 57,F 59 2 22 58,f 60 17 1 59,l 61 1 60,m 62 5,x 63 1 61 62,l 64 1 63,k 65 54,F 66 2 22 65,
 F 67 1 16 66,⟨some 68,none,.aidx 16 false 1 (.tmp 67) (.tmp 56)⟩,s 1 68 64]) (.seq (.ops [o 4 true]) .ret)) .skip)) (.seq (.seq (.ops [m 69 0,k 70 69,f 71 24 1 70,l 72 1 71,
 ⟨some 73,none,.un .not (.tmp 72)⟩]) (.cond (.tmp 73) (.seq (.ops [m 74 0,m 75 0,k 76 75,F 77 2 22 76,f 78 17 1 77,l 79 1 78,c1 80 100 79,k 81 74,F 82 2 22 81,f 83 17 1 82,
 s 1 83 80]) (.ops [m 84 0,k 85 84,f 86 24 1 85,⟨none,none,.sto false 1 (.tmp 86) (.const (.bool true))⟩])) .skip)) (.seq (.ops [m 87 0,k 88 87,F 89 2 22 88,f 90 17 1 89,l 91 1 90,
 m 92 5,m 93 0,f 94 1 1 3,l 95 1 94,k 96 93,F 97 2 22 96,F 98 1 16 97,⟨some 99,none,.aidx 16 false 1 (.tmp 98) (.tmp 95)⟩,l 100 1 99,x 101 1 91 92,
 s 1 101 100]) (.seq (.ops [o 4 true]) .ret))))))))
theorem f_machine_Runner_move : compF Tryz.prog 94 = some (102, c_machine_Runner_move, [.tmp 4]) := by kernel_rfl
def c_machine_Runner_get:VC:=(.seq (.seq (.ops [m 4 0,k 5 4,F 6 2 22 5,f 7 18 1 6,l 8 1 7,b 9 .lss 8 0,m 10 9,⟨some 11,some (10,false),.mv (.tmp 0)⟩,⟨some 12,some (10,false),
 .nck (.tmp 11)⟩,⟨some 13,some (10,false),.fad 2 true 22 (.tmp 12)⟩,⟨some 14,some (10,false),.fad 18 false 1 (.tmp 13)⟩,⟨some 15,some (10,false),.ld false 1 (.tmp 14)⟩,⟨some 16,
 some (10,false),.mv (.tmp 0)⟩,⟨some 17,some (10,false),.nck (.tmp 16)⟩,⟨some 18,some (10,false),.fad 1 false 1 (.tmp 17)⟩,⟨some 19,some (10,false),.ld false 1 (.tmp 18)⟩,⟨some 20,
 some (10,false),.lens (.tmp 19)⟩,⟨some 21,some (10,false),.bin .geq (.tmp 15) (.tmp 20)⟩,⟨some 22,none,
 .pick (.tmp 10) (.const (.bool true)) (.tmp 21)⟩]) (.cond (.tmp 22) (.seq (.ops [m 23 0,m 24 1,k 25 23,F 26 2 22 25,F 27 1 16 26,⟨some 28,none,
 .aidx 16 false 1 (.tmp 27) (.tmp 24)⟩,⟨none,none,.sto false 1 (.tmp 28) (.const (.int .u32 256))⟩]) .ret) .skip)) (.seq (.ops [m 29 0,m 30 1,m 31 0,k 32 31,f 33 1 1 32,l 34 1 33,
 m 35 0,k 36 35,F 37 2 22 36,f 38 18 1 37,l 39 1 38,⟨some 40,none,.pur .six [.tmp 34,.tmp 39]⟩,⟨some 41,none,.conv .u32 (.tmp 40)⟩,k 42 29,F 43 2 22 42,F 44 1 16 43,⟨some 45,none,
 .aidx 16 false 1 (.tmp 44) (.tmp 30)⟩,s 1 45 41]) (.ops [m 46 0,k 47 46,F 48 2 22 47,f 49 18 1 48,l 50 1 49,b 51 .add 50 1,k 52 46,F 53 2 22 52,f 54 18 1 53,s 1 54 51])))
theorem f_machine_Runner_get : compF Tryz.prog 95 = some (55, c_machine_Runner_get, []) := by kernel_rfl
def c_scref07_Right:VC:=(.seq (.ops [X 1 55 0,o 2 false]) (.seq (.ops [f 5 0 1 1,l 6 1 5,c1 7 101 6,m 3 7]) (.seq (.ops [i 4 65535]) (.seq (.seq (.ops [m 8 3,⟨some 9,none,
 .call (.func 102) [(.tmp 8),(.const (.int .u8 114))]⟩]) (.cond (.tmp 9) (.ops [i 4 15]) .skip)) (.seq (.par false (.one (m 10 3) (.one ⟨(some 11),none,
 (.bin .neq (.tmp 10) (.const (.string ⟨#[63]⟩)))⟩ (.one (m 12 11) (.one ⟨some 13,some (12,true),.mv (.tmp 3)⟩ (.one ⟨some 14,some (12,true),.call (.func 102) [(.tmp 13),
 (.const (.int .u8 97))]⟩ (.one ⟨some 15,some (12,true),.fad 1 false 1 (.tmp 1)⟩ (.one ⟨some 16,some (12,true),.ld false 1 (.tmp 15)⟩ (.one ⟨some 17,some (12,true),
 .call (.func 103) [(.tmp 14),(.tmp 16),(.const (.int .i64 15))]⟩ (.one ⟨some 18,none,.pick (.tmp 12) (.tmp 17) (.const (.bool false))⟩ (.one (m 19 18) (.one ⟨some 20,some (19,
 true),.mv (.tmp 3)⟩ (.one ⟨some 21,some (19,true),.call (.func 102) [(.tmp 20),(.const (.int .u8 98))]⟩ (.one ⟨some 22,some (19,true),.fad 2 false 1 (.tmp 1)⟩ (.one ⟨some 23,
 some (19,true),.ld false 1 (.tmp 22)⟩ (.one ⟨some 24,some (19,true),.call (.func 103) [(.tmp 21),(.tmp 23),(.const (.int .i64 15))]⟩ (.one ⟨some 25,none,
 .pick (.tmp 19) (.tmp 24) (.const (.bool false))⟩ (.one (m 26 25) (.one ⟨some 27,some (26,true),.mv (.tmp 3)⟩ (.one ⟨some 28,some (26,true),.call (.func 102) [(.tmp 27),
 (.const (.int .u8 99))]⟩ (.one ⟨some 29,some (26,true),.mv (.tmp 28)⟩ (.one ⟨some 30,some (29,false),.mv (.tmp 3)⟩ (.one ⟨some 31,some (29,false),.call (.func 102) [(.tmp 30),
 (.const (.int .u8 114))]⟩ (.one ⟨some 32,some (26,true),.pick (.tmp 29) (.const (.bool true)) (.tmp 31)⟩ (.one ⟨some 33,some (26,true),.fad 3 false 1 (.tmp 1)⟩ (.one ⟨some 34,
 some (26,true),.ld false 1 (.tmp 33)⟩ (.one ⟨some 35,some (26,true),.mv (.tmp 4)⟩ (.one ⟨some 36,some (26,true),.call (.func 103) [.tmp 32,.tmp 34,.tmp 35]⟩ (.one ⟨some 37,none,
 .pick (.tmp 26) (.tmp 36) (.const (.bool false))⟩ (.one (m 2 37) .done)))))))))))))))))))))))))))))) .ret)))))
theorem f_scref07_Right : compF Tryz.prog 96 = some (38, c_scref07_Right, [.tmp 2]) := by kernel_rfl
def c_scref01_both:VC:=(.seq (.ops [⟨some 6,none,.mv (.const (.int .u32 0))⟩]) (.seq (.ops [m 11 1,c1 12 104 11,m 13 2,c1 14 104 13,m 7 12,
 m 8 14]) (.seq (.seq (.ops [i 9 0]) (.block 0 (.loop (.seq (.seq (.ops [m 15 9,b 16 .lss 15 32]) (.cond (.tmp 16) .skip (.exit 0))) (.seq (.block 1 (.seq (.ops [m 19 7,m 20 9,
 x 21 1 19 20,l 22 1 21,m 23 8,m 24 9,x 25 1 23 24,l 26 1 25,B 27 .add 22 26,m 10 27]) (.seq (.ops [m 28 7,m 29 9,x 30 1 28 29,⟨none,none,
 .sto false 1 (.tmp 30) (.const (.int .i64 0))⟩]) (.seq (.ops [m 31 10,b 32 .eql 31 2,m 33 32,⟨some 34,some (33,true),.mv (.tmp 0)⟩,⟨some 35,some (33,true),
 .bin .neq (.tmp 34) (.const (.int .i64 11))⟩,⟨some 36,none,.pick (.tmp 33) (.tmp 35) (.const (.bool false))⟩,m 37 36,⟨some 38,some (37,false),.mv (.tmp 10)⟩,⟨some 39,some (37,
 false),.bin .eql (.tmp 38) (.const (.int .i64 1))⟩,⟨some 40,some (37,false),.mv (.tmp 39)⟩,⟨some 41,some (40,true),.mv (.tmp 0)⟩,⟨some 42,some (40,true),
 .bin .neq (.tmp 41) (.const (.int .i64 9))⟩,⟨some 43,some (37,false),.pick (.tmp 40) (.tmp 42) (.const (.bool false))⟩,⟨some 44,none,
 .pick (.tmp 37) (.const (.bool true)) (.tmp 43)⟩]) (.cond (.tmp 44) (.ops [m 45 7,m 46 9,x 47 1 45 46,⟨none,none,
 .sto false 1 (.tmp 47) (.const (.int .i64 1))⟩]) .skip))))) (.ops [m 17 9,b 18 .add 17 1,m 9 18])))))) (.seq (.ops [m 48 7,c1 49 105 48,m 6 49]) .ret))))
theorem f_scref01_both : compF Tryz.prog 97 = some (50, c_scref01_both, [.tmp 6]) := by kernel_rfl
def c_scref01_shift:VC:=(.seq (.ops [⟨some 6,none,.mv (.const (.int .u32 0))⟩]) (.seq (.seq (.ops [m 9 2,⟨some 10,none,
 .bin .geq (.tmp 9) (.const (.int .u32 32))⟩]) (.cond (.tmp 10) (.seq (.ops [⟨some 6,none,.mv (.const (.int .u32 0))⟩]) .ret) .skip)) (.seq (.ops [m 11 1,⟨some 12,none,
 .conv .u64 (.tmp 11)⟩,m 7 12]) (.seq (.seq (.ops [⟨some 8,none,.mv (.const (.int .u32 0))⟩]) (.block 0 (.loop (.seq (.seq (.ops [m 13 8,m 14 2,
 B 15 .lss 13 14]) (.cond (.tmp 15) .skip (.exit 0))) (.seq (.block 1 (.seq (.ops [m 18 0,b 19 .eql 18 12]) (.cond (.tmp 19) (.ops [m 20 7,⟨some 21,none,
 .bin .mul (.const (.int .u64 2)) (.tmp 20)⟩,⟨some 22,none,.bin .rem (.tmp 21) (.const (.int .u64 4294967296))⟩,m 7 22]) (.ops [m 23 7,⟨some 24,none,
 .bin .quo (.tmp 23) (.const (.int .u64 2))⟩,m 7 24])))) (.ops [m 16 8,⟨some 17,none,.bin .add (.tmp 16) (.const (.int .u32 1))⟩,m 8 17])))))) (.seq (.ops [m 25 7,⟨some 26,none,
 .conv .u32 (.tmp 25)⟩,m 6 26]) .ret)))))
theorem f_scref01_shift : compF Tryz.prog 98 = some (27, c_scref01_shift, [.tmp 6]) := by kernel_rfl
def c_scref01_flag:VC:=(.seq (.ops [⟨some 2,none,.mv (.const (.int .u32 0))⟩]) (.seq (.seq (.ops [m 3 0]) (.cond (.tmp 3) (.seq (.ops [⟨some 2,none,
 .mv (.const (.int .u32 1))⟩]) .ret) .skip)) (.seq (.ops [⟨some 2,none,.mv (.const (.int .u32 0))⟩]) .ret)))
theorem f_scref01_flag : compF Tryz.prog 99 = some (4, c_scref01_flag, [.tmp 2]) := by kernel_rfl
def c_slices_Clone__uint32uint32:VC:=(.seq (.ops [⟨some 2,none,.mv (.const (.slice none 0 0))⟩]) (.seq (.seq (.ops [m 3 0,⟨some 4,none,
 .pur (.nils false) [.tmp 3]⟩]) (.cond (.tmp 4) (.seq (.ops [⟨some 2,none,.mv (.const (.slice none 0 0))⟩]) .ret) .skip)) (.seq (.ops [⟨some 5,none,.bsl 56 1 0 [] []⟩,m 6 0,⟨some 7,
 none,.app 56 1 4 (.tmp 5) (.tmp 6)⟩,m 2 7]) .ret)))
theorem f_slices_Clone__uint32uint32 : compF Tryz.prog 100 = some (8, c_slices_Clone__uint32uint32, [.tmp 2]) := by kernel_rfl
def c_scref07_Parts:VC:=(.seq (.ops [⟨(some 2),none,(.mv (.const (.string ⟨#[]⟩)))⟩]) (.seq (.seq (.ops [m 3 0]) (.block 0 (.seq (.seq (.ops [b 5 .eql 3 1,
 m 4 5]) (.cond (.tmp 4) .skip (.seq (.ops [b 6 .eql 3 2,m 4 6]) (.cond (.tmp 4) .skip (.seq (.ops [b 7 .eql 3 19,m 4 7]) (.cond (.tmp 4) .skip (.seq (.ops [b 8 .eql 3 20,
 m 4 8]) (.cond (.tmp 4) .skip (.seq (.ops [b 9 .eql 3 21,m 4 9]) (.cond (.tmp 4) .skip (.ops [b 10 .eql 3 25,m 4 10]))))))))))) (.cond (.tmp 4) (.seq (.ops [⟨(some 2),none,
 (.mv (.const (.string ⟨#[97,99]⟩)))⟩]) .ret) (.seq (.ops [b 12 .eql 3 3,m 11 12]) (.cond (.tmp 11) (.seq (.ops [⟨(some 2),none,(.mv (.const (.string ⟨#[97,
 98]⟩)))⟩]) .ret) (.seq (.seq (.ops [b 14 .eql 3 16,m 13 14]) (.cond (.tmp 13) .skip (.seq (.ops [b 15 .eql 3 17,m 13 15]) (.cond (.tmp 13) .skip (.ops [b 16 .eql 3 27,
 m 13 16]))))) (.cond (.tmp 13) (.seq (.ops [⟨(some 2),none,(.mv (.const (.string ⟨#[97,98,99]⟩)))⟩]) .ret) (.seq (.ops [b 18 .eql 3 18,
 m 17 18]) (.cond (.tmp 17) (.seq (.ops [⟨(some 2),none,(.mv (.const (.string ⟨#[99]⟩)))⟩]) .ret) (.seq (.seq (.ops [b 20 .eql 3 22,
 m 19 20]) (.cond (.tmp 19) .skip (.seq (.ops [b 21 .eql 3 23,m 19 21]) (.cond (.tmp 19) .skip (.ops [b 22 .eql 3 24,m 19 22]))))) (.cond (.tmp 19) (.seq (.ops [⟨(some 2),none,
 (.mv (.const (.string ⟨#[97]⟩)))⟩]) .ret) (.seq (.ops [b 24 .eql 3 26,m 23 24]) (.cond (.tmp 23) (.seq (.ops [⟨(some 2),none,
 (.mv (.const (.string ⟨#[]⟩)))⟩]) .ret) .skip)))))))))))))) (.seq (.seq (.ops [m 25 0,b 26 .geq 25 4,m 27 26,⟨some 28,some (27,true),.mv (.tmp 0)⟩,⟨some 29,some (27,true),
 .bin .leq (.tmp 28) (.const (.int .i64 15))⟩,⟨some 30,none,.pick (.tmp 27) (.tmp 29) (.const (.bool false))⟩]) (.cond (.tmp 30) (.seq (.ops [⟨(some 2),none,
 (.mv (.const (.string ⟨#[97,98,114]⟩)))⟩]) .ret) .skip)) (.seq (.ops [⟨(some 2),none,(.mv (.const (.string ⟨#[63]⟩)))⟩]) .ret))))
theorem f_scref07_Parts : compF Tryz.prog 101 = some (31, c_scref07_Parts, [.tmp 2]) := by kernel_rfl
def c_scref07_has:VC:=(.seq (.ops [o 4 false]) (.seq (.seq (.ops [i 5 0]) (.block 0 (.loop (.seq (.seq (.ops [m 6 5,m 7 0,⟨some 8,none,.lens (.tmp 7)⟩,
 B 9 .lss 6 8]) (.cond (.tmp 9) .skip (.exit 0))) (.seq (.block 1 (.seq (.ops [m 12 0,m 13 5,⟨some 14,none,.pur .six [.tmp 12,.tmp 13]⟩,m 15 1,
 B 16 .eql 14 15]) (.cond (.tmp 16) (.seq (.ops [o 4 true]) .ret) .skip))) (.ops [m 10 5,b 11 .add 10 1,m 5 11])))))) (.seq (.ops [o 4 false]) .ret)))
theorem f_scref07_has : compF Tryz.prog 102 = some (17, c_scref07_has, [.tmp 4]) := by kernel_rfl
def c_scref07_within:VC:=(.seq (.ops [o 6 false]) (.seq (.seq (.ops [m 7 0,⟨some 8,none,.un .not (.tmp 7)⟩]) (.cond (.tmp 8) (.seq (.ops [m 9 1,b 10 .eql 9 0,
 m 6 10]) .ret) .skip)) (.seq (.ops [m 11 1,b 12 .geq 11 0,m 13 12,⟨some 14,some (13,true),.mv (.tmp 1)⟩,⟨some 15,some (13,true),.mv (.tmp 2)⟩,⟨some 16,some (13,true),
 .bin .leq (.tmp 14) (.tmp 15)⟩,⟨some 17,none,.pick (.tmp 13) (.tmp 16) (.const (.bool false))⟩,m 6 17]) .ret)))
theorem f_scref07_within : compF Tryz.prog 103 = some (18, c_scref07_within, [.tmp 6]) := by kernel_rfl
def c_scref01_Bits:VC:=(.seq (.ops [⟨some 2,none,.mv (.const (.slice none 0 0))⟩]) (.seq (.ops [⟨some 3,none,
 .mv (.const (.slice none 0 0))⟩]) (.seq (.seq (.ops [i 4 0]) (.block 0 (.loop (.seq (.seq (.ops [m 5 4,
 b 6 .lss 5 32]) (.cond (.tmp 6) .skip (.exit 0))) (.seq (.block 1 (.seq (.ops [m 9 3,m 10 0,⟨some 11,none,.bin .rem (.tmp 10) (.const (.int .u32 2))⟩,⟨some 12,none,
 .conv .i64 (.tmp 11)⟩,⟨some 13,none,.bsl 3 1 1 [.int .i64 0] [(0,(1,(.tmp 12)))]⟩,⟨some 14,none,.app 3 1 8 (.tmp 9) (.tmp 13)⟩,m 3 14]) (.ops [m 15 0,⟨some 16,none,
 .bin .quo (.tmp 15) (.const (.int .u32 2))⟩,m 0 16]))) (.ops [m 7 4,b 8 .add 7 1,m 4 8])))))) (.seq (.ops [m 17 3,m 2 17]) .ret))))
theorem f_scref01_Bits : compF Tryz.prog 104 = some (18, c_scref01_Bits, [.tmp 2]) := by kernel_rfl
def c_scref01_Of:VC:=(.seq (.ops [⟨some 2,none,.mv (.const (.int .u32 0))⟩]) (.seq (.ops [⟨some 3,none,.mv (.const (.int .u64 0))⟩]) (.seq (.seq (.ops [m 5 0,n 6 5,b 7 .sub 6 1,
 m 4 7]) (.block 0 (.loop (.seq (.seq (.ops [m 8 4,b 9 .geq 8 0]) (.cond (.tmp 9) .skip (.exit 0))) (.seq (.block 1 (.ops [m 12 3,⟨some 13,none,
 .bin .mul (.const (.int .u64 2)) (.tmp 12)⟩,m 14 0,m 15 4,x 16 1 14 15,l 17 1 16,⟨some 18,none,.conv .u64 (.tmp 17)⟩,B 19 .add 13 18,m 3 19])) (.ops [m 10 4,b 11 .sub 10 1,
 m 4 11])))))) (.seq (.ops [m 20 3,⟨some 21,none,.bin .rem (.tmp 20) (.const (.int .u64 4294967296))⟩,⟨some 22,none,.conv .u32 (.tmp 21)⟩,m 2 22]) .ret))))
theorem f_scref01_Of : compF Tryz.prog 105 = some (23, c_scref01_Of, [.tmp 2]) := by kernel_rfl
theorem hmix : Tryz.prog.follows .mixedOrders = true := by kernel_rfl
end Go.Proofs.YtaedcpipilnpcaaGreat
