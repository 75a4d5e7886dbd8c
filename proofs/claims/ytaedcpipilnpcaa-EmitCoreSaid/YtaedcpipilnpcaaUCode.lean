/-
  The functions of this seat, made small by the program: each is what the engine makes of the function of that number. No condition.
-/
import Derived.Test.YtaedcpipilnpcaaUS
import Derived.Test.YtaedcpipilnpcaaRows
import Derived.KernelRfl
set_option linter.unusedVariables false
set_option linter.unusedSimpArgs false
namespace Go.Proofs.Ytaedcpipilnpcaa
open Go.V
namespace Z
abbrev m(a b:Nat):VOp:=⟨some a,none,.mv (.tmp b)⟩
abbrev l(a n b:Nat):VOp:=⟨some a,none,.ld false n (.tmp b)⟩
abbrev L(a n b:Nat):VOp:=⟨some a,none,.ld true n (.tmp b)⟩
abbrev f(a o n b:Nat):VOp:=⟨some a,none,.fad o false n (.tmp b)⟩
abbrev F(a o n b:Nat):VOp:=⟨some a,none,.fad o true n (.tmp b)⟩
abbrev x(a n b c:Nat):VOp:=⟨some a,none,.idx n (.tmp b) (.tmp c)⟩
abbrev b(a:Nat)(o:BinOp)(b:Nat)(c:Int):VOp:=⟨some a,none,.bin o (.tmp b) (.const (.int .i64 c))⟩
abbrev B(a:Nat)(o:BinOp)(b c:Nat):VOp:=⟨some a,none,.bin o (.tmp b) (.tmp c)⟩
abbrev k(a b:Nat):VOp:=⟨some a,none,.nck (.tmp b)⟩
abbrev i(a:Nat)(c:Int):VOp:=⟨some a,none,.mv (.const (.int .i64 c))⟩
abbrev n(a b:Nat):VOp:=⟨some a,none,.len (.tmp b)⟩
abbrev o(a:Nat)(c:Bool):VOp:=⟨some a,none,.mv (.const (.bool c))⟩
abbrev X(a n b:Nat):VOp:=⟨some a,none,.box n (.tmp b)⟩
abbrev e(a b n:Nat):VOp:=⟨some a,none,.ext (.tmp b) n⟩
abbrev S(n b c:Nat):VOp:=⟨none,none,.sto true n (.tmp b) (.tmp c)⟩
abbrev s(n b c:Nat):VOp:=⟨none,none,.sto false n (.tmp b) (.tmp c)⟩
abbrev c0(a f:Nat):VOp:=⟨some a,none,.call (.func f) []⟩
abbrev c1(a f x:Nat):VOp:=⟨some a,none,.call (.func f) [.tmp x]⟩
abbrev c2(a f x y:Nat):VOp:=⟨some a,none,.call (.func f) [.tmp x,.tmp y]⟩
abbrev c3(a f x y z:Nat):VOp:=⟨some a,none,.call (.func f) [.tmp x,.tmp y,.tmp z]⟩
abbrev c4(a f x y z w:Nat):VOp:=⟨some a,none,.call (.func f) [.tmp x,.tmp y,.tmp z,.tmp w]⟩
attribute [go_sem] m l L f F x b B k i n o X e S s c0 c1 c2 c3 c4
end Z
open Z
def c_sclaw22_EmitCore:VC:=(.seq (.ops [o 4 false]) (.seq (.seq (.ops [c0 11 7,⟨some 12,none,
 .un .not (.tmp 11)⟩]) (.cond (.tmp 12) (.seq (.ops [o 4 false]) .ret) .skip)) (.seq (.ops [m 13 0,⟨some 14,none,.bin .rem (.tmp 13) (.const (.int .u8 20))⟩,⟨some 15,none,
 .conv .u32 (.tmp 14)⟩,m 5 15]) (.seq (.ops [m 16 5,⟨some 17,none,.bld [.int .i64 0,.int .i64 0,.int .u32 0,.int .i64 0,.int .i64 0,.slice none 0 0] [(0,(1,(.const (.int .i64 1)))),
 (2,(1,(.tmp 16)))]⟩,⟨some 18,none,.bsl 54 6 1 [.int .i64 0,.int .i64 0,.int .u32 0,.int .i64 0,.int .i64 0,.slice none 0 0] [(0,(6,(.tmp 17)))]⟩,⟨some 19,none,.bld [.int .i64 0,
 .int .i64 0,.int .i64 0,.slice none 0 0,.slice none 0 0,.slice none 0 0] [(0,(1,(.const (.int .i64 1)))),(3,(1,(.tmp 18)))]⟩,⟨some 20,none,.bld [.int .i64 0,.int .i64 0,
 .int .u32 0,.int .i64 0,.int .i64 0,.slice none 0 0] [(0,(1,(.const (.int .i64 2))))]⟩,⟨some 21,none,.bsl 54 6 1 [.int .i64 0,.int .i64 0,.int .u32 0,.int .i64 0,.int .i64 0,
 .slice none 0 0] [(0,(6,(.tmp 20)))]⟩,⟨some 22,none,.bld [.int .i64 0,.int .i64 0,.int .u32 0,.int .i64 0,.int .i64 0,.slice none 0 0] [(0,(1,(.const (.int .i64 2))))]⟩,m 23 1,
 ⟨some 24,none,.bld [.int .i64 0,.int .i64 0,.int .u32 0,.int .i64 0,.int .i64 0,.slice none 0 0] [(0,(1,(.const (.int .i64 1)))),(2,(1,(.tmp 23)))]⟩,⟨some 25,none,
 .bsl 54 6 2 [.int .i64 0,.int .i64 0,.int .u32 0,.int .i64 0,.int .i64 0,.slice none 0 0,.int .i64 0,.int .i64 0,.int .u32 0,.int .i64 0,.int .i64 0,.slice none 0 0] [(0,(6,
 (.tmp 22))),(6,(6,(.tmp 24)))]⟩,⟨some 26,none,.bld [.int .i64 0,.int .i64 0,.int .u32 0,.int .i64 0,.int .i64 0,.slice none 0 0] [(0,(1,(.const (.int .i64 6)))),(1,(1,
 (.const (.int .i64 4)))),(5,(1,(.tmp 25)))]⟩,⟨some 27,none,.bsl 54 6 1 [.int .i64 0,.int .i64 0,.int .u32 0,.int .i64 0,.int .i64 0,.slice none 0 0] [(0,(6,(.tmp 26)))]⟩,⟨some 28,
 none,.bld [.int .i64 0,.int .i64 0,.int .i64 0,.slice none 0 0,.slice none 0 0,.slice none 0 0] [(0,(1,(.const (.int .i64 3)))),(3,(1,(.tmp 27)))]⟩,⟨some 29,none,.bld [.int .i64 0,
 .int .i64 0,.int .u32 0,.int .i64 0,.int .i64 0,.slice none 0 0] [(0,(1,(.const (.int .i64 2))))]⟩,⟨some 30,none,.bld [.int .i64 0,.int .i64 0,.int .u32 0,.int .i64 0,.int .i64 0,
 .slice none 0 0] [(0,(1,(.const (.int .i64 1)))),(2,(1,(.const (.int .u32 1))))]⟩,⟨some 31,none,.bsl 54 6 2 [.int .i64 0,.int .i64 0,.int .u32 0,.int .i64 0,.int .i64 0,
 .slice none 0 0,.int .i64 0,.int .i64 0,.int .u32 0,.int .i64 0,.int .i64 0,.slice none 0 0] [(0,(6,(.tmp 29))),(6,(6,(.tmp 30)))]⟩,⟨some 32,none,.bld [.int .i64 0,.int .i64 0,
 .int .u32 0,.int .i64 0,.int .i64 0,.slice none 0 0] [(0,(1,(.const (.int .i64 6)))),(1,(1,(.const (.int .i64 5)))),(5,(1,(.tmp 31)))]⟩,⟨some 33,none,.bsl 54 6 1 [.int .i64 0,
 .int .i64 0,.int .u32 0,.int .i64 0,.int .i64 0,.slice none 0 0] [(0,(6,(.tmp 32)))]⟩,⟨some 34,none,.bld [.int .i64 0,.int .i64 0,.int .i64 0,.slice none 0 0,.slice none 0 0,
 .slice none 0 0] [(0,(1,(.const (.int .i64 1)))),(3,(1,(.tmp 33)))]⟩,⟨some 35,none,.bsl 57 6 2 [.int .i64 0,.int .i64 0,.int .i64 0,.slice none 0 0,.slice none 0 0,.slice none 0 0,
 .int .i64 0,.int .i64 0,.int .i64 0,.slice none 0 0,.slice none 0 0,.slice none 0 0] [(0,(6,(.tmp 28))),(6,(6,(.tmp 34)))]⟩,⟨some 36,none,.bld [.int .i64 0,.int .i64 0,.int .i64 0,
 .slice none 0 0,.slice none 0 0,.slice none 0 0] [(0,(1,(.const (.int .i64 5)))),(3,(1,(.tmp 21))),(4,(1,(.tmp 35)))]⟩,⟨some 37,none,.bsl 57 6 2 [.int .i64 0,.int .i64 0,
 .int .i64 0,.slice none 0 0,.slice none 0 0,.slice none 0 0,.int .i64 0,.int .i64 0,.int .i64 0,.slice none 0 0,.slice none 0 0,.slice none 0 0] [(0,(6,(.tmp 19))),(6,(6,
 (.tmp 36)))]⟩,⟨some 38,none,.bld [.int .i64 0,.int .i64 0,.int .i64 0,.bool false,.slice none 0 0] [(4,(1,(.tmp 37)))]⟩,⟨some 39,none,.bsl 59 5 1 [.int .i64 0,.int .i64 0,
 .int .i64 0,.bool false,.slice none 0 0] [(0,(5,(.tmp 38)))]⟩,⟨some 40,none,.bld [.int .i64 0,.slice none 0 0] [(0,(1,(.const (.int .i64 1)))),(1,(1,(.tmp 39)))]⟩,⟨some 6,none,
 .alc 62 [.int .i64 0,.slice none 0 0]⟩,S 2 6 40]) (.seq (.ops [m 41 5,⟨some 42,none,.bld [.int .i64 0,.int .i64 0,.int .i64 0,.int .u32 0] [(0,(1,(.const (.int .i64 1)))),(3,(1,
 (.tmp 41)))]⟩,⟨some 43,none,.bld [.int .i64 0,.int .i64 0,.int .i64 0,.int .u32 0] [(0,(1,(.const (.int .i64 3))))]⟩,⟨some 44,none,.bld [.int .i64 0,.int .i64 0,.int .i64 0,
 .int .u32 0] [(0,(1,(.const (.int .i64 2))))]⟩,⟨some 45,none,.bld [.int .i64 0,.int .i64 0,.int .i64 0,.int .u32 0] [(0,(1,(.const (.int .i64 9)))),(1,(1,
 (.const (.int .i64 13))))]⟩,⟨some 46,none,.bld [.int .i64 0,.int .i64 0,.int .i64 0,.int .u32 0] [(0,(1,(.const (.int .i64 2))))]⟩,m 47 1,⟨some 48,none,.bld [.int .i64 0,
 .int .i64 0,.int .i64 0,.int .u32 0] [(0,(1,(.const (.int .i64 1)))),(3,(1,(.tmp 47)))]⟩,⟨some 49,none,.bld [.int .i64 0,.int .i64 0,.int .i64 0,.int .u32 0] [(0,(1,
 (.const (.int .i64 6)))),(1,(1,(.const (.int .i64 4))))]⟩,⟨some 50,none,.bld [.int .i64 0,.int .i64 0,.int .i64 0,.int .u32 0] [(0,(1,(.const (.int .i64 13))))]⟩,⟨some 51,none,
 .bld [.int .i64 0,.int .i64 0,.int .i64 0,.int .u32 0] [(0,(1,(.const (.int .i64 2))))]⟩,⟨some 52,none,.bld [.int .i64 0,.int .i64 0,.int .i64 0,.int .u32 0] [(0,(1,
 (.const (.int .i64 1)))),(3,(1,(.const (.int .u32 1))))]⟩,⟨some 53,none,.bld [.int .i64 0,.int .i64 0,.int .i64 0,.int .u32 0] [(0,(1,(.const (.int .i64 6)))),(1,(1,
 (.const (.int .i64 5))))]⟩,⟨some 54,none,.bld [.int .i64 0,.int .i64 0,.int .i64 0,.int .u32 0] [(0,(1,(.const (.int .i64 3))))]⟩,⟨some 55,none,.bld [.int .i64 0,.int .i64 0,
 .int .i64 0,.int .u32 0] [(0,(1,(.const (.int .i64 8)))),(1,(1,(.const (.int .i64 2))))]⟩,⟨some 56,none,.bld [.int .i64 0,.int .i64 0,.int .i64 0,.int .u32 0] [(0,(1,
 (.const (.int .i64 11))))]⟩,⟨some 57,none,.bsl 32 4 14 [.int .i64 0,.int .i64 0,.int .i64 0,.int .u32 0,.int .i64 0,.int .i64 0,.int .i64 0,.int .u32 0,.int .i64 0,.int .i64 0,
 .int .i64 0,.int .u32 0,.int .i64 0,.int .i64 0,.int .i64 0,.int .u32 0,.int .i64 0,.int .i64 0,.int .i64 0,.int .u32 0,.int .i64 0,.int .i64 0,.int .i64 0,.int .u32 0,.int .i64 0,
 .int .i64 0,.int .i64 0,.int .u32 0,.int .i64 0,.int .i64 0,.int .i64 0,.int .u32 0,.int .i64 0,.int .i64 0,.int .i64 0,.int .u32 0,.int .i64 0,.int .i64 0,.int .i64 0,.int .u32 0,
 .int .i64 0,.int .i64 0,.int .i64 0,.int .u32 0,.int .i64 0,.int .i64 0,.int .i64 0,.int .u32 0,.int .i64 0,.int .i64 0,.int .i64 0,.int .u32 0,.int .i64 0,.int .i64 0,.int .i64 0,
 .int .u32 0] [(0,(4,(.tmp 42))),(4,(4,(.tmp 43))),(8,(4,(.tmp 44))),(12,(4,(.tmp 45))),(16,(4,(.tmp 46))),(20,(4,(.tmp 48))),(24,(4,(.tmp 49))),(28,(4,(.tmp 50))),(32,(4,
 (.tmp 51))),(36,(4,(.tmp 52))),(40,(4,(.tmp 53))),(44,(4,(.tmp 54))),(48,(4,(.tmp 55))),(52,(4,(.tmp 56)))]⟩,⟨some 58,none,.bld [.int .i64 0,.int .i64 0,.int .i64 0,.bool false,
 .slice none 0 0] [(4,(1,(.tmp 57)))]⟩,⟨some 59,none,.bsl 29 5 1 [.int .i64 0,.int .i64 0,.int .i64 0,.bool false,.slice none 0 0] [(0,(5,(.tmp 58)))]⟩,⟨some 60,none,
 .bld [.int .i64 0,.slice none 0 0] [(0,(1,(.const (.int .i64 1)))),(1,(1,(.tmp 59)))]⟩,⟨some 7,none,.alc 24 [.int .i64 0,.slice none 0 0]⟩,S 2 7 60]) (.seq (.ops [L 62 2 7,
 c1 63 10 62,m 61 63,e 64 61 0,e 65 61 1,⟨some 8,none,.alc 38 [.slice none 0 0,.int .i64 0]⟩,S 2 8 64,m 9 65]) (.seq (.ops [L 66 2 6,⟨(some 67),none,(.call (.func 19) [(.tmp 66),
 (.const (.string ⟨#[]⟩)),(.const (.int .i64 100))])⟩,⟨(some 10),none,(.alc 34 [(.int .i64 0),(.string ⟨#[]⟩),(.int .i64 0)])⟩,
 S 3 10 67]) (.seq (.par false (.one (m 68 9) (.one (b 69 .eql 68 0) (.one (m 70 69) (.one ⟨some 71,some (70,true),.ld true 2 (.tmp 8)⟩ (.one ⟨some 72,some (70,true),
 .ld true 2 (.tmp 7)⟩ (.one ⟨some 73,some (70,true),.call (.func 11) [(.tmp 72),(.const (.int .i64 300))]⟩ (.one ⟨(some 74),(some (70,true)),(.call (.func 13) [(.tmp 71),
 (.const (.string ⟨#[]⟩)),(.tmp 73)])⟩ (.one ⟨some 75,some (70,true),.ld true 3 (.tmp 10)⟩ (.one ⟨some 76,some (70,true),.call (.func 20) [.tmp 74,.tmp 75]⟩ (.one ⟨some 77,none,
 .pick (.tmp 70) (.tmp 76) (.const (.bool false))⟩ (.one (m 4 77) .done)))))))))))) .ret))))))))
theorem f_sclaw22_EmitCore : compF Try.prog 6 = some (78, c_sclaw22_EmitCore, [.tmp 4]) := by kernel_rfl
def c_sclaw22_alive:VC:=(.seq (.ops [o 0 false]) (.seq (.ops [c0 4 21,c1 5 10 4,m 3 5,e 6 3 0,e 7 3 1,⟨some 1,none,.alc 38 [.slice none 0 0,.int .i64 0]⟩,S 2 1 6,
 m 2 7]) (.seq (.ops [m 8 2,b 9 .eql 8 0,m 10 9,⟨some 11,some (10,true),.ld true 2 (.tmp 1)⟩,⟨(some 12),(some (10,true)),(.call (.func 13) [(.tmp 11),(.const (.string ⟨#[]⟩)),
 (.const (.int .i64 300))])⟩,⟨(some 13),(some (10,true)),(.bld [(.int .i64 0),(.string ⟨#[]⟩),(.int .i64 0)] [(0,(1,(.const (.int .i64 1)))),(1,(1,(.const (.string ⟨#[65]⟩))))])⟩,
 ⟨some 14,some (10,true),.call (.func 20) [.tmp 12,.tmp 13]⟩,⟨some 15,none,.pick (.tmp 10) (.tmp 14) (.const (.bool false))⟩,m 0 15]) .ret)))
theorem f_sclaw22_alive : compF Try.prog 7 = some (16, c_sclaw22_alive, [.tmp 0]) := by kernel_rfl
def c_emit_Of:VC:=(.seq (.ops [X 1 24 0,⟨some 2,none,.alc 38 [.slice none 0 0,.int .i64 0]⟩,i 3 0]) (.seq (.ops [L 12 2 1,c1 13 25 12,⟨some 4,none,.alc 77 [.slice none 0 0,
 .slice none 0 0,.slice none 0 0,.int .i64 0]⟩,S 4 4 13]) (.seq (.seq (.ops [f 14 3 1 4,l 15 1 14,b 16 .gtr 15 32768]) (.cond (.tmp 16) (.seq (.ops [⟨some 17,none,
 .bld [.slice none 0 0,.int .i64 0] []⟩,S 2 2 17,
 i 3 2]) .ret) .skip)) (.seq (.par false (.one (L 18 2 1) (.one (L 19 4 4) (.one (f 20 1 1 1) (.one (l 21 1 20) (.one (n 22 21) (.one (f 24 1 1 1) (.one (l 25 1 24) (.one (n 26 25) (.both (.one ⟨some 23,
 none,.mk 3 1 8 [.int .i64 0] (.tmp 22) (.tmp 22)⟩ (.one ⟨some 27,none,.mk 75 1 24 [.slice none 0 0] (.tmp 26) (.tmp 26)⟩ (.one ⟨some 28,none,.bld [.int .i64 0,.slice none 0 0,
 .slice none 0 0,.slice none 0 0,.slice none 0 0,.int .i64 0,.slice none 0 0,.slice none 0 0,.slice none 0 0,.slice none 0 0,.int .i64 0,.int .i64 0] [(0,(2,(.tmp 18))),(2,(4,
 (.tmp 19))),(7,(1,(.tmp 23))),(8,(1,(.tmp 27)))]⟩ (.one (X 29 83 28) (.one (m 5 29) .done))))) (.one ⟨some 27,none,
 .mk 75 1 24 [.slice none 0 0] (.tmp 26) (.tmp 26)⟩ (.one ⟨some 23,none,.mk 3 1 8 [.int .i64 0] (.tmp 22) (.tmp 22)⟩ (.one ⟨some 28,none,.bld [.int .i64 0,.slice none 0 0,
 .slice none 0 0,.slice none 0 0,.slice none 0 0,.int .i64 0,.slice none 0 0,.slice none 0 0,.slice none 0 0,.slice none 0 0,.int .i64 0,.int .i64 0] [(0,(2,(.tmp 18))),(2,(4,
 (.tmp 19))),(7,(1,(.tmp 23))),(8,(1,(.tmp 27)))]⟩ (.one (X 29 83 28) (.one (m 5 29) .done))))))))))))))) (.seq (.ops [m 30 5,c1 31 26 30,m 6 31]) (.seq (.seq (.ops [m 32 6,n 33 32,
 b 34 .gtr 33 16384]) (.cond (.tmp 34) (.seq (.ops [⟨some 35,none,.bld [.slice none 0 0,.int .i64 0] []⟩,S 2 2 35,i 3 2]) .ret) .skip)) (.seq (.ops [m 36 6,n 37 36,⟨some 38,none,
 .mk 30 1 4 [.int .u32 0] (.tmp 37) (.tmp 37)⟩,m 7 38]) (.seq (.seq (.ops [m 39 6,n 40 39,
 i 41 0]) (.block 0 (.loop (.seq (.ops [B 42 .lss 41 40]) (.seq (.cond (.tmp 42) .skip (.exit 0)) (.seq (.block 1 (.seq (.ops [m 43 41,x 44 4 39 41,L 45 4 44,⟨some 9,none,
 .alc 86 [.int .i64 0,.int .i64 0,.int .i64 0,.int .i64 0]⟩,m 8 43,S 4 9 45]) (.seq (.ops [L 47 4 9,c1 48 27 47,m 46 48,e 49 46 0,e 50 46 1,m 10 49,
 m 11 50]) (.seq (.seq (.ops [m 51 11,b 52 .neq 51 0]) (.cond (.tmp 52) (.seq (.ops [⟨some 53,none,.bld [.slice none 0 0,.int .i64 0] []⟩,S 2 2 53,
 i 3 2]) .ret) .skip)) (.ops [m 54 7,m 55 8,m 56 10,x 57 1 54 55,s 1 57 56]))))) (.ops [b 58 .add 41 1,m 41 58]))))))) (.seq (.ops [m 59 7,f 60 3 1 4,l 61 1 60,⟨some 62,none,
 .bld [.slice none 0 0,.int .i64 0] [(0,(1,(.tmp 59))),(1,(1,(.tmp 61)))]⟩,S 2 2 62,i 3 0]) .ret)))))))))
theorem f_emit_Of : compF Try.prog 10 = some (63, c_emit_Of, [(.cell 2 true 2), (.tmp 3)]) := by kernel_rfl
def c_scref22_Fuel:VC:=(.seq (.ops [X 2 24 0,i 4 0]) (.seq (.ops [m 5 1,b 6 .add 5 1,f 7 0 1 2,l 8 1 7,⟨some 9,none,.bin .mul (.const (.int .i64 8)) (.tmp 8)⟩,⟨some 10,none,
 .bin .add (.const (.int .i64 64)) (.tmp 9)⟩,B 11 .mul 6 10,m 4 11]) .ret))
theorem f_scref22_Fuel : compF Try.prog 11 = some (12, c_scref22_Fuel, [.tmp 4]) := by kernel_rfl
def c_scref10_Run:VC:=(.seq (.ops [X 3 38 0,⟨(some 6),none,(.alc 34 [(.int .i64 0),(.string ⟨#[]⟩),
 (.int .i64 0)])⟩]) (.seq (.par false (.one (L 8 2 3) (.one (m 9 1) (.one (L 10 2 3) (.one (c1 11 29 10) (.one (m 12 2) (.one (c4 13 28 8 9 11 12) (.one ⟨(some 7),none,
 (.alc 91 [(.int .i64 0),(.int .u32 0),(.int .u32 0),(.int .u32 0),(.int .u32 0),(.int .u32 0),(.int .u32 0),(.int .u32 0),(.int .u32 0),(.int .u32 0),(.int .u32 0),(.int .u32 0),
 (.int .u32 0),(.int .u32 0),(.int .u32 0),(.int .u32 0),(.int .u32 0),(.slice none 0 0),(.int .i64 0),(.string ⟨#[]⟩),(.int .i64 0),
 (.int .i64 0)])⟩ (.one (S 22 7 13) .done))))))))) (.seq (.seq (.ops [f 14 21 1 7,l 15 1 14,b 16 .eql 15 0]) (.cond (.tmp 16) (.ops [f 17 21 1 7,⟨none,none,
 .sto false 1 (.tmp 17) (.const (.int .i64 5))⟩]) .skip)) (.seq (.ops [f 18 21 1 7,l 19 1 18,f 20 19 1 7,l 21 1 20,f 22 20 1 7,l 23 1 22,⟨(some 24),none,(.bld [(.int .i64 0),
 (.string ⟨#[]⟩),(.int .i64 0)] [(0,(1,(.tmp 19))),(1,(1,(.tmp 21))),(2,(1,(.tmp 23)))])⟩,S 3 6 24]) .ret))))
theorem f_scref10_Run : compF Try.prog 13 = some (25, c_scref10_Run, [(.cell 6 true 3)]) := by kernel_rfl
def c_scref19_Run:VC:=(.seq (.ops [X 3 62 0,⟨(some 6),none,(.alc 34 [(.int .i64 0),(.string ⟨#[]⟩),(.int .i64 0)])⟩]) (.seq (.seq (.ops [f 8 1 1 3,l 9 1 8,n 10 9,
 b 11 .eql 10 0]) (.cond (.tmp 11) (.seq (.ops [⟨(some 12),none,(.bld [(.int .i64 0),(.string ⟨#[]⟩),(.int .i64 0)] [])⟩,
 S 3 6 12]) .ret) .skip)) (.seq (.par false (.one (L 13 2 3) (.one (f 14 0 1 3) (.one (l 15 1 14) (.one (m 17 1) (.one (m 18 2) (.one ⟨some 16,none,
 .mk 30 1 4 [.int .u32 0] (.tmp 15) (.tmp 15)⟩ (.one ⟨(some 19),none,(.bld [(.int .i64 0),(.slice none 0 0),(.slice none 0 0),(.string ⟨#[]⟩),(.int .i64 0),(.slice none 0 0),
 (.int .i64 0),(.int .i64 0),(.int .i64 0),(.bool false),(.int .u32 0)] [(0,(2,(.tmp 13))),(2,(1,(.tmp 16))),(3,(1,(.tmp 17))),(7,(1,
 (.tmp 18)))])⟩ (.one (X 20 99 19) (.one (m 7 20) .done)))))))))) (.seq (.ops [m 21 7,f 22 1 1 3,l 23 1 22,f 24 1 1 3,l 25 1 24,n 26 25,b 27 .sub 26 1,x 28 5 23 27,f 29 4 1 28,
 l 30 1 29,c2 31 32 21 30]) (.seq (.seq (.ops [m 32 7,k 33 32,f 34 8 1 33,l 35 1 34,b 36 .eql 35 0]) (.cond (.tmp 36) (.ops [m 37 7,k 38 37,f 39 8 1 38,⟨none,none,
 .sto false 1 (.tmp 39) (.const (.int .i64 1))⟩]) .skip)) (.seq (.ops [m 40 7,k 41 40,f 42 8 1 41,l 43 1 42,m 44 7,k 45 44,f 46 5 1 45,l 47 1 46,⟨some 48,none,.see .b2s [.tmp 47]⟩,
 m 49 7,k 50 49,f 51 6 1 50,l 52 1 51,⟨(some 53),none,(.bld [(.int .i64 0),(.string ⟨#[]⟩),(.int .i64 0)] [(0,(1,(.tmp 43))),(1,(1,(.tmp 48))),(2,(1,(.tmp 52)))])⟩,
 S 3 6 53]) .ret))))))
theorem f_scref19_Run : compF Try.prog 19 = some (54, c_scref19_Run, [(.cell 6 true 3)]) := by kernel_rfl
def c_scref10_Ends:VC:=(.seq (.ops [X 2 34 0,X 3 34 1,o 4 false]) (.seq (.ops [f 5 0 1 2,l 6 1 5,f 7 0 1 3,l 8 1 7,B 9 .eql 6 8,m 10 9,⟨some 11,some (10,true),
 .fad 1 false 1 (.tmp 2)⟩,⟨some 12,some (10,true),.ld false 1 (.tmp 11)⟩,⟨some 13,some (10,true),.fad 1 false 1 (.tmp 3)⟩,⟨some 14,some (10,true),.ld false 1 (.tmp 13)⟩,⟨some 15,
 some (10,true),.bin .eql (.tmp 12) (.tmp 14)⟩,⟨some 16,none,.pick (.tmp 10) (.tmp 15) (.const (.bool false))⟩,m 4 16]) .ret))
theorem f_scref10_Ends : compF Try.prog 20 = some (17, c_scref10_Ends, [.tmp 4]) := by kernel_rfl
def c_sclaw22_plain:VC:=(.seq (.ops [⟨some 0,none,.alc 24 [.int .i64 0,.slice none 0 0]⟩]) (.seq (.ops [⟨some 1,none,.bld [.int .i64 0,.int .i64 0,.int .i64 0,.int .u32 0] [(0,(1,
 (.const (.int .i64 1)))),(3,(1,(.const (.int .u32 65))))]⟩,⟨some 2,none,.bld [.int .i64 0,.int .i64 0,.int .i64 0,.int .u32 0] [(0,(1,(.const (.int .i64 13))))]⟩,⟨some 3,none,
 .bld [.int .i64 0,.int .i64 0,.int .i64 0,.int .u32 0] [(0,(1,(.const (.int .i64 11))))]⟩,⟨some 4,none,.bsl 32 4 3 [.int .i64 0,.int .i64 0,.int .i64 0,.int .u32 0,.int .i64 0,
 .int .i64 0,.int .i64 0,.int .u32 0,.int .i64 0,.int .i64 0,.int .i64 0,.int .u32 0] [(0,(4,(.tmp 1))),(4,(4,(.tmp 2))),(8,(4,(.tmp 3)))]⟩,⟨some 5,none,.bld [.int .i64 0,
 .int .i64 0,.int .i64 0,.bool false,.slice none 0 0] [(4,(1,(.tmp 4)))]⟩,⟨some 6,none,.bsl 29 5 1 [.int .i64 0,.int .i64 0,.int .i64 0,.bool false,.slice none 0 0] [(0,(5,
 (.tmp 5)))]⟩,⟨some 7,none,.bld [.int .i64 0,.slice none 0 0] [(1,(1,(.tmp 6)))]⟩,S 2 0 7]) .ret))
theorem f_sclaw22_plain : compF Try.prog 21 = some (8, c_sclaw22_plain, [(.cell 0 true 2)]) := by kernel_rfl
def c_emit_planOf:VC:=(.seq (.ops [X 1 24 0,⟨some 2,none,.alc 77 [.slice none 0 0,.slice none 0 0,.slice none 0 0,.int .i64 0]⟩]) (.seq (.ops [f 11 0 1 1,l 12 1 11,⟨some 13,none,
 .bld [.slice none 0 0,.slice none 0 0,.slice none 0 0,.int .i64 0] [(3,(1,(.tmp 12)))]⟩,⟨some 3,none,.alc 77 [.slice none 0 0,.slice none 0 0,.slice none 0 0,.int .i64 0]⟩,
 S 4 3 13]) (.seq (.ops [f 14 1 1 1,l 15 1 14,n 16 15,b 17 .sub 16 1,m 4 17]) (.seq (.seq (.ops [f 18 1 1 1,l 19 1 18,n 20 19,
 i 21 0]) (.block 0 (.loop (.seq (.ops [B 22 .lss 21 20]) (.seq (.cond (.tmp 22) .skip (.exit 0)) (.seq (.block 1 (.seq (.ops [m 23 21,m 5 23]) (.seq (.ops [L 25 2 1,m 26 5,
 c2 27 39 25 26,m 24 27,e 28 24 0,e 29 24 1,m 6 28,m 7 29]) (.seq (.ops [f 30 0 1 3,l 31 1 30,m 32 6,⟨some 33,none,.bsl 75 1 1 [.slice none 0 0] [(0,(1,(.tmp 32)))]⟩,⟨some 34,none,
 .app 75 1 24 (.tmp 31) (.tmp 33)⟩,f 35 0 1 3,s 1 35 34]) (.seq (.ops [f 36 1 1 3,l 37 1 36,f 38 3 1 3,l 39 1 38,⟨some 40,none,.bsl 3 1 1 [.int .i64 0] [(0,(1,(.tmp 39)))]⟩,
 ⟨some 41,none,.app 3 1 8 (.tmp 37) (.tmp 40)⟩,f 42 1 1 3,s 1 42 41]) (.seq (.seq (.ops [m 43 5,m 44 4,B 45 .neq 43 44]) (.cond (.tmp 45) (.ops [f 46 3 1 3,l 47 1 46,b 48 .add 47 1,
 f 49 3 1 3,s 1 49 48]) .skip)) (.seq (.ops [f 50 2 1 3,l 51 1 50,f 52 3 1 3,l 53 1 52,⟨some 54,none,.bsl 3 1 1 [.int .i64 0] [(0,(1,(.tmp 53)))]⟩,⟨some 55,none,
 .app 3 1 8 (.tmp 51) (.tmp 54)⟩,f 56 2 1 3,s 1 56 55]) (.seq (.ops [i 8 0]) (.seq (.seq (.ops [m 57 6,n 58 57,
 i 59 0]) (.block 2 (.loop (.seq (.ops [B 60 .lss 59 58]) (.seq (.cond (.tmp 60) .skip (.exit 2)) (.seq (.block 3 (.seq (.ops [x 61 1 57 59,l 62 1 61,m 10 62]) (.ops [m 63 8,
 m 64 10,⟨some 65,none,.pur .mx [.tmp 63,.tmp 64]⟩,m 8 65]))) (.ops [b 66 .add 59 1,m 59 66]))))))) (.ops [f 67 3 1 3,l 68 1 67,m 69 8,B 70 .add 68 69,f 71 3 1 3,
 s 1 71 70])))))))))) (.ops [b 72 .add 21 1,m 21 72]))))))) (.seq (.ops [L 73 4 3,S 4 2 73]) .ret)))))
theorem f_emit_planOf : compF Try.prog 25 = some (74, c_emit_planOf, [(.cell 2 true 4)]) := by kernel_rfl
def c_emit_generator_whole:VC:=(.seq (.ops [⟨some 2,none,.mv (.const (.slice none 0 0))⟩]) (.seq (.ops [c0 9 40,m 3 9]) (.seq (.ops [m 10 0,k 11 10,F 12 0 2 11,f 13 1 1 12,
 l 14 1 13,n 15 14,b 16 .sub 15 1,m 4 16]) (.seq (.ops [m 17 0,⟨some 18,none,.call (.func 41) [(.tmp 17),(.const (.int .i64 1)),(.const (.int .i64 15)),(.const (.int .i64 0)),
 (.const (.int .i64 1))]⟩]) (.seq (.ops [m 19 0,m 20 4,m 21 3,c3 22 42 19 20 21]) (.seq (.seq (.ops [m 23 4,
 i 24 0]) (.block 0 (.loop (.seq (.ops [B 25 .lss 24 23]) (.seq (.cond (.tmp 25) .skip (.exit 0)) (.seq (.block 1 (.seq (.ops [m 26 24,m 5 26]) (.ops [m 27 0,m 28 5,m 29 3,
 c3 30 42 27 28 29]))) (.ops [b 31 .add 24 1,m 24 31]))))))) (.seq (.ops [m 32 0,k 33 32,f 34 6 1 33,l 35 1 34,n 36 35,⟨some 37,none,.mk 86 4 32 [.int .i64 0,.int .i64 0,
 .int .i64 0,.int .i64 0] (.tmp 36) (.tmp 36)⟩,m 6 37]) (.seq (.ops [m 38 6,m 39 0,k 40 39,f 41 6 1 40,l 42 1 41,⟨some 43,none,.eff (.cpy 4) [.tmp 38,
 .tmp 42]⟩]) (.seq (.seq (.ops [m 44 0,k 45 44,f 46 9 1 45,l 47 1 46,n 48 47,
 i 49 0]) (.block 2 (.loop (.seq (.ops [B 50 .lss 49 48]) (.seq (.cond (.tmp 50) .skip (.exit 2)) (.seq (.block 3 (.seq (.ops [x 51 3 47 49,L 52 3 51,⟨some 8,none,
 .alc 110 [.int .i64 0,.int .i64 0,.int .i64 0]⟩,S 3 8 52]) (.seq (.ops [m 53 6,f 54 0 1 8,l 55 1 54,m 56 0,k 57 56,f 58 7 1 57,l 59 1 58,f 60 1 1 8,l 61 1 60,x 62 1 59 61,
 l 63 1 62,x 64 4 53 55,f 65 3 1 64,s 1 65 63]) (.seq (.ops [f 66 2 1 8,l 67 1 66,b 68 .geq 67 0]) (.cond (.tmp 68) (.ops [m 69 6,f 70 0 1 8,l 71 1 70,m 72 0,k 73 72,f 74 8 1 73,
 l 75 1 74,f 76 1 1 8,l 77 1 76,x 78 1 75 77,l 79 1 78,f 80 2 1 8,l 81 1 80,x 82 1 79 81,l 83 1 82,x 84 4 69 71,f 85 3 1 84,s 1 85 83]) .skip))))) (.ops [b 86 .add 49 1,
 m 49 86]))))))) (.seq (.ops [m 87 6,m 2 87]) .ret))))))))))
theorem f_emit_generator_whole : compF Try.prog 26 = some (88, c_emit_generator_whole, [.tmp 2]) := by kernel_rfl
def c_inst_Encode:VC:=(.seq (.ops [X 1 86 0,⟨some 2,none,.mv (.const (.int .u32 0))⟩,i 3 0]) (.seq (.seq (.ops [L 4 4 1,c1 5 43 4,⟨some 6,none,
 .un .not (.tmp 5)⟩]) (.cond (.tmp 6) (.seq (.ops [⟨some 2,none,.mv (.const (.int .u32 0))⟩,i 3 1]) .ret) .skip)) (.seq (.ops [f 7 0 1 1,l 8 1 7,⟨some 9,none,.conv .u32 (.tmp 8)⟩,
 ⟨some 10,none,.bin .shl (.tmp 9) (.const (.int .u64 24))⟩,f 11 1 1 1,l 12 1 11,⟨some 13,none,.conv .u32 (.tmp 12)⟩,⟨some 14,none,.bin .shl (.tmp 13) (.const (.int .u64 20))⟩,
 B 15 .or 10 14,f 16 2 1 1,l 17 1 16,⟨some 18,none,.conv .u32 (.tmp 17)⟩,⟨some 19,none,.bin .shl (.tmp 18) (.const (.int .u64 16))⟩,B 20 .or 15 19,f 21 3 1 1,l 22 1 21,⟨some 23,
 none,.conv .u32 (.tmp 22)⟩,B 24 .or 20 23,m 2 24,i 3 0]) .ret)))
theorem f_inst_Encode : compF Try.prog 27 = some (25, c_inst_Encode, [.tmp 2,.tmp 3]) := by kernel_rfl
def c_scref10_Go:VC:=(.seq (.ops [X 4 38 0,X 6 91 2,⟨(some 8),none,(.alc 91 [(.int .i64 0),(.int .u32 0),(.int .u32 0),(.int .u32 0),(.int .u32 0),(.int .u32 0),(.int .u32 0),
 (.int .u32 0),(.int .u32 0),(.int .u32 0),(.int .u32 0),(.int .u32 0),(.int .u32 0),(.int .u32 0),(.int .u32 0),(.int .u32 0),(.int .u32 0),(.slice none 0 0),(.int .i64 0),
 (.string ⟨#[]⟩),(.int .i64 0),(.int .i64 0)])⟩]) (.seq (.ops [L 12 2 4,m 13 1,L 14 22 6,m 15 3,c4 16 44 12 13 14 15,m 11 16,e 17 11 0,e 18 11 1,⟨(some 9),none,
 (.alc 91 [(.int .i64 0),(.int .u32 0),(.int .u32 0),(.int .u32 0),(.int .u32 0),(.int .u32 0),(.int .u32 0),(.int .u32 0),(.int .u32 0),(.int .u32 0),(.int .u32 0),(.int .u32 0),
 (.int .u32 0),(.int .u32 0),(.int .u32 0),(.int .u32 0),(.int .u32 0),(.slice none 0 0),(.int .i64 0),(.string ⟨#[]⟩),(.int .i64 0),(.int .i64 0)])⟩,S 22 9 17,
 m 10 18]) (.seq (.ops [L 19 22 9,S 22 8 19]) .ret)))
theorem f_scref10_Go : compF Try.prog 28 = some (20, c_scref10_Go, [(.cell 8 true 22)]) := by kernel_rfl
def c_scref09_Start:VC:=(.seq (.ops [X 1 38 0,⟨(some 2),none,(.alc 91 [(.int .i64 0),(.int .u32 0),(.int .u32 0),(.int .u32 0),(.int .u32 0),(.int .u32 0),(.int .u32 0),
 (.int .u32 0),(.int .u32 0),(.int .u32 0),(.int .u32 0),(.int .u32 0),(.int .u32 0),(.int .u32 0),(.int .u32 0),(.int .u32 0),(.int .u32 0),(.slice none 0 0),(.int .i64 0),
 (.string ⟨#[]⟩),(.int .i64 0),(.int .i64 0)])⟩]) (.seq (.ops [⟨(some 3),none,(.alc 91 [(.int .i64 0),(.int .u32 0),(.int .u32 0),(.int .u32 0),(.int .u32 0),(.int .u32 0),
 (.int .u32 0),(.int .u32 0),(.int .u32 0),(.int .u32 0),(.int .u32 0),(.int .u32 0),(.int .u32 0),(.int .u32 0),(.int .u32 0),(.int .u32 0),(.int .u32 0),(.slice none 0 0),
 (.int .i64 0),(.string ⟨#[]⟩),(.int .i64 0),(.int .i64 0)])⟩]) (.seq (.seq (.ops [f 4 1 1 1,l 5 1 4,b 6 .gtr 5 0,m 7 6,⟨some 8,some (7,true),.fad 1 false 1 (.tmp 1)⟩,⟨some 9,
 some (7,true),.ld false 1 (.tmp 8)⟩,⟨some 10,some (7,true),.bin .leq (.tmp 9) (.const (.int .i64 32768))⟩,⟨some 11,none,
 .pick (.tmp 7) (.tmp 10) (.const (.bool false))⟩]) (.cond (.tmp 11) (.ops [f 12 1 1 1,l 13 1 12,⟨some 14,none,.mk 30 1 4 [.int .u32 0] (.tmp 13) (.tmp 13)⟩,f 15 17 1 3,
 s 1 15 14]) .skip)) (.seq (.ops [L 16 22 3,S 22 2 16]) .ret))))
theorem f_scref09_Start : compF Try.prog 29 = some (17, c_scref09_Start, [(.cell 2 true 22)]) := by kernel_rfl
def c_scref19_runner_stmts:VC:=(.seq (.ops [i 4 0]) (.block 0 (.loop (.seq (.seq (.ops [m 5 4,m 6 1,n 7 6,B 8 .lss 5 7,m 9 8,⟨some 10,some (9,true),.mv (.tmp 0)⟩,⟨some 11,some (9,
 true),.nck (.tmp 10)⟩,⟨some 12,some (9,true),.fad 8 false 1 (.tmp 11)⟩,⟨some 13,some (9,true),.ld false 1 (.tmp 12)⟩,⟨some 14,some (9,true),
 .bin .eql (.tmp 13) (.const (.int .i64 0))⟩,⟨some 15,none,.pick (.tmp 9) (.tmp 14) (.const (.bool false))⟩,m 16 15,⟨some 17,some (16,true),.mv (.tmp 0)⟩,⟨some 18,some (16,true),
 .nck (.tmp 17)⟩,⟨some 19,some (16,true),.fad 9 false 1 (.tmp 18)⟩,⟨some 20,some (16,true),.ld false 1 (.tmp 19)⟩,⟨some 21,some (16,true),.un .not (.tmp 20)⟩,⟨some 22,none,
 .pick (.tmp 16) (.tmp 21) (.const (.bool false))⟩]) (.cond (.tmp 22) .skip (.exit 0))) (.seq (.block 1 (.ops [m 25 0,m 26 1,m 27 4,x 28 6 26 27,L 29 6 28,
 c2 30 47 25 29])) (.ops [m 23 4,b 24 .add 23 1,m 4 24]))))))
theorem f_scref19_runner_stmts : compF Try.prog 32 = some (31, c_scref19_runner_stmts, []) := by kernel_rfl
def c_scref01_Apply:VC:=(.seq (.ops [⟨some 6,none,.mv (.const (.int .u32 0))⟩,i 7 0]) (.seq (.ops [m 10 1,⟨some 11,none,.conv .u64 (.tmp 10)⟩,m 12 2,⟨some 13,none,
 .conv .u64 (.tmp 12)⟩,m 8 11,m 9 13]) (.seq (.seq (.ops [m 14 0]) (.block 0 (.seq (.ops [b 16 .eql 14 4,m 15 16]) (.cond (.tmp 15) (.seq (.ops [m 17 8,m 18 9,B 19 .add 17 18,
 ⟨some 20,none,.bin .rem (.tmp 19) (.const (.int .u64 4294967296))⟩,⟨some 21,none,.conv .u32 (.tmp 20)⟩,m 6 21,i 7 0]) .ret) (.seq (.ops [b 23 .eql 14 5,
 m 22 23]) (.cond (.tmp 22) (.seq (.ops [m 24 8,⟨some 25,none,.bin .add (.tmp 24) (.const (.int .u64 4294967296))⟩,m 26 9,B 27 .sub 25 26,⟨some 28,none,
 .bin .rem (.tmp 27) (.const (.int .u64 4294967296))⟩,⟨some 29,none,.conv .u32 (.tmp 28)⟩,m 6 29,i 7 0]) .ret) (.seq (.ops [b 31 .eql 14 6,
 m 30 31]) (.cond (.tmp 30) (.seq (.ops [m 32 8,m 33 9,B 34 .mul 32 33,⟨some 35,none,.bin .rem (.tmp 34) (.const (.int .u64 4294967296))⟩,⟨some 36,none,.conv .u32 (.tmp 35)⟩,m 6 36,
 i 7 0]) .ret) (.seq (.ops [b 38 .eql 14 7,m 37 38]) (.cond (.tmp 37) (.seq (.seq (.ops [m 39 2,⟨some 40,none,
 .bin .eql (.tmp 39) (.const (.int .u32 0))⟩]) (.cond (.tmp 40) (.seq (.ops [⟨some 6,none,.mv (.const (.int .u32 0))⟩,i 7 14]) .ret) .skip)) (.seq (.ops [m 41 8,m 42 9,
 B 43 .quo 41 42,⟨some 44,none,.conv .u32 (.tmp 43)⟩,m 6 44,i 7 0]) .ret)) (.seq (.ops [b 46 .eql 14 8,m 45 46]) (.cond (.tmp 45) (.seq (.seq (.ops [m 47 2,⟨some 48,none,
 .bin .eql (.tmp 47) (.const (.int .u32 0))⟩]) (.cond (.tmp 48) (.seq (.ops [⟨some 6,none,.mv (.const (.int .u32 0))⟩,i 7 14]) .ret) .skip)) (.seq (.ops [m 49 8,m 50 9,
 B 51 .rem 49 50,⟨some 52,none,.conv .u32 (.tmp 51)⟩,m 6 52,i 7 0]) .ret)) (.seq (.seq (.ops [b 54 .eql 14 9,m 53 54]) (.cond (.tmp 53) .skip (.seq (.ops [b 55 .eql 14 10,
 m 53 55]) (.cond (.tmp 53) .skip (.ops [b 56 .eql 14 11,m 53 56]))))) (.cond (.tmp 53) (.seq (.ops [m 57 0,m 58 1,m 59 2,c3 60 48 57 58 59,m 6 60,
 i 7 0]) .ret) (.seq (.seq (.ops [b 62 .eql 14 12,m 61 62]) (.cond (.tmp 61) .skip (.ops [b 63 .eql 14 13,m 61 63]))) (.cond (.tmp 61) (.seq (.ops [m 64 0,m 65 1,m 66 2,
 c3 67 49 64 65 66,m 6 67,i 7 0]) .ret) (.seq (.ops [b 69 .eql 14 14,m 68 69]) (.cond (.tmp 68) (.seq (.ops [m 70 1,m 71 2,B 72 .lss 70 71,c1 73 50 72,m 6 73,
 i 7 0]) .ret) (.seq (.ops [b 75 .eql 14 15,m 74 75]) (.cond (.tmp 74) (.seq (.ops [m 76 1,m 77 2,B 78 .eql 76 77,c1 79 50 78,m 6 79,
 i 7 0]) .ret) .skip)))))))))))))))))))) (.seq (.ops [⟨some 6,none,.mv (.const (.int .u32 0))⟩,i 7 1]) .ret))))
theorem f_scref01_Apply : compF Try.prog 36 = some (80, c_scref01_Apply, [.tmp 6,.tmp 7]) := by kernel_rfl
def c_stack_Depths:VC:=(.seq (.ops [X 2 24 0,⟨some 4,none,.mv (.const (.slice none 0 0))⟩,o 5 false]) (.seq (.seq (.ops [m 15 1,b 16 .lss 15 0,m 17 16,⟨some 18,some (17,false),
 .mv (.tmp 1)⟩,⟨some 19,some (17,false),.fad 1 false 1 (.tmp 2)⟩,⟨some 20,some (17,false),.ld false 1 (.tmp 19)⟩,⟨some 21,some (17,false),.len (.tmp 20)⟩,⟨some 22,some (17,false),
 .bin .geq (.tmp 18) (.tmp 21)⟩,⟨some 23,none,.pick (.tmp 17) (.const (.bool true)) (.tmp 22)⟩,m 24 23,⟨some 25,some (24,false),.fad 1 false 1 (.tmp 2)⟩,⟨some 26,some (24,false),
 .ld false 1 (.tmp 25)⟩,⟨some 27,some (24,false),.mv (.tmp 1)⟩,⟨some 28,some (24,false),.idx 5 (.tmp 26) (.tmp 27)⟩,⟨some 29,some (24,false),.fad 4 false 1 (.tmp 28)⟩,⟨some 30,
 some (24,false),.ld false 1 (.tmp 29)⟩,⟨some 31,some (24,false),.len (.tmp 30)⟩,⟨some 32,some (24,false),.bin .eql (.tmp 31) (.const (.int .i64 0))⟩,⟨some 33,none,
 .pick (.tmp 24) (.const (.bool true)) (.tmp 32)⟩]) (.cond (.tmp 33) (.seq (.ops [⟨some 4,none,.mv (.const (.slice none 0 0))⟩,o 5 false]) .ret) .skip)) (.seq (.ops [f 34 1 1 2,
 l 35 1 34,m 36 1,x 37 5 35 36,f 38 4 1 37,l 39 1 38,m 6 39]) (.seq (.ops [m 40 6,n 41 40,⟨some 42,none,.mk 3 1 8 [.int .i64 0] (.tmp 41) (.tmp 41)⟩,
 m 7 42]) (.seq (.seq (.ops [m 43 7,n 44 43,i 45 0]) (.block 0 (.loop (.seq (.ops [B 46 .lss 45 44]) (.seq (.cond (.tmp 46) .skip (.exit 0)) (.seq (.block 1 (.seq (.ops [m 47 45,
 m 8 47]) (.ops [m 48 7,m 49 8,x 50 1 48 49,⟨none,none,.sto false 1 (.tmp 50) (.const (.int .i64 (-1)))⟩]))) (.ops [b 51 .add 45 1,m 45 51]))))))) (.seq (.ops [m 52 7,⟨some 53,none,
 .idx 1 (.tmp 52) (.const (.int .i64 0))⟩,⟨none,none,.sto false 1 (.tmp 53) (.const (.int .i64 0))⟩]) (.seq (.ops [⟨some 9,none,.alc 123 [.slice none 0 0]⟩]) (.seq (.ops [⟨some 54,
 none,.call (.func 51) [(.tmp 9),(.const (.int .i64 0))]⟩]) (.seq (.block 2 (.loop (.seq (.seq (.ops [c1 55 52 9,
 b 56 .gtr 55 0]) (.cond (.tmp 56) .skip (.exit 2))) (.block 3 (.seq (.ops [c1 57 53 9,
 m 10 57]) (.seq (.par false (.one (L 59 2 2) (.one (m 60 1) (.one (m 61 6) (.one (m 62 10) (.one (x 63 4 61 62) (.one (L 64 4 63) (.one (m 65 7) (.one (m 66 10) (.one (x 67 1 65 66) (.one (l 68 1 67) (.one ⟨some 69,
 none,.callM true (.func 54) [.tmp 59,.tmp 60,.tmp 64,
 .tmp 68]⟩ (.one (m 58 69) (.one (e 70 58 0) (.one (e 71 58 1) (.one (m 11 70) (.one (m 12 71) .done))))))))))))))))) (.seq (.seq (.ops [m 72 12,⟨some 73,none,
 .un .not (.tmp 72)⟩]) (.cond (.tmp 73) (.seq (.ops [⟨some 4,none,.mv (.const (.slice none 0 0))⟩,o 5 false]) .ret) .skip)) (.seq (.ops [m 74 6,m 75 10,x 76 4 74 75,L 77 4 76,
 m 78 10,c2 79 55 77 78,n 80 79,i 81 0]) (.block 4 (.loop (.seq (.ops [B 82 .lss 81 80]) (.seq (.cond (.tmp 82) .skip (.exit 4)) (.seq (.block 5 (.seq (.ops [x 83 1 79 81,l 84 1 83,
 m 14 84]) (.seq (.seq (.ops [m 85 14,b 86 .lss 85 0,m 87 86,⟨some 88,some (87,false),.mv (.tmp 14)⟩,⟨some 89,some (87,false),.mv (.tmp 6)⟩,⟨some 90,some (87,false),.len (.tmp 89)⟩,
 ⟨some 91,some (87,false),.bin .geq (.tmp 88) (.tmp 90)⟩,⟨some 92,none,.pick (.tmp 87) (.const (.bool true)) (.tmp 91)⟩,m 93 92,⟨some 94,some (93,false),.mv (.tmp 7)⟩,⟨some 95,
 some (93,false),.mv (.tmp 14)⟩,⟨some 96,some (93,false),.idx 1 (.tmp 94) (.tmp 95)⟩,⟨some 97,some (93,false),.ld false 1 (.tmp 96)⟩,⟨some 98,some (93,false),
 .bin .geq (.tmp 97) (.const (.int .i64 0))⟩,⟨some 99,some (93,false),.mv (.tmp 98)⟩,⟨some 100,some (99,true),.mv (.tmp 7)⟩,⟨some 101,some (99,true),.mv (.tmp 14)⟩,⟨some 102,
 some (99,true),.idx 1 (.tmp 100) (.tmp 101)⟩,⟨some 103,some (99,true),.ld false 1 (.tmp 102)⟩,⟨some 104,some (99,true),.mv (.tmp 11)⟩,⟨some 105,some (99,true),
 .bin .neq (.tmp 103) (.tmp 104)⟩,⟨some 106,some (93,false),.pick (.tmp 99) (.tmp 105) (.const (.bool false))⟩,⟨some 107,none,
 .pick (.tmp 93) (.const (.bool true)) (.tmp 106)⟩]) (.cond (.tmp 107) (.seq (.ops [⟨some 4,none,.mv (.const (.slice none 0 0))⟩,o 5 false]) .ret) .skip)) (.seq (.ops [m 108 7,
 m 109 14,x 110 1 108 109,l 111 1 110,b 112 .lss 111 0]) (.cond (.tmp 112) (.seq (.ops [m 113 7,m 114 14,m 115 11,x 116 1 113 114,s 1 116 115]) (.ops [m 117 14,
 c2 118 51 9 117])) .skip))))) (.ops [b 119 .add 81 1,m 81 119])))))))))))))) (.seq (.ops [m 120 7,m 4 120,o 5 true]) .ret))))))))))
theorem f_stack_Depths : compF Try.prog 39 = some (121, c_stack_Depths, [.tmp 4,.tmp 5]) := by kernel_rfl
def c_emit_meanings:VC:=(.seq (.ops [⟨some 0,none,.mv (.const (.map none))⟩]) (.seq (.ops [⟨some 1,none,.eff .mkm []⟩,⟨none,none,.eff .upd [(.tmp 1),(.const (.int .i64 1)),
 (.func 56)]⟩,⟨none,none,.eff .upd [(.tmp 1),(.const (.int .i64 2)),(.func 59)]⟩,⟨none,none,.eff .upd [(.tmp 1),(.const (.int .i64 3)),(.func 60)]⟩,⟨none,none,.eff .upd [(.tmp 1),
 (.const (.int .i64 4)),(.func 62)]⟩,⟨none,none,.eff .upd [(.tmp 1),(.const (.int .i64 5)),(.func 63)]⟩,⟨none,none,.eff .upd [(.tmp 1),(.const (.int .i64 6)),(.func 64)]⟩,⟨none,
 none,.eff .upd [(.tmp 1),(.const (.int .i64 7)),(.func 65)]⟩,⟨none,none,.eff .upd [(.tmp 1),(.const (.int .i64 8)),(.func 66)]⟩,⟨none,none,.eff .upd [(.tmp 1),
 (.const (.int .i64 9)),(.func 68)]⟩,⟨none,none,.eff .upd [(.tmp 1),(.const (.int .i64 10)),(.func 69)]⟩,⟨none,none,.eff .upd [(.tmp 1),(.const (.int .i64 11)),(.func 71)]⟩,⟨none,
 none,.eff .upd [(.tmp 1),(.const (.int .i64 12)),(.func 73)]⟩,⟨none,none,.eff .upd [(.tmp 1),(.const (.int .i64 13)),(.func 74)]⟩,m 2 1,m 0 2]) .ret))
theorem f_emit_meanings : compF Try.prog 40 = some (3, c_emit_meanings, [.tmp 0]) := by kernel_rfl
def c_emit_generator_put:VC:=(.ops [m 10 0,m 11 0,k 12 11,f 13 6 1 12,l 14 1 13,m 15 1,m 16 2,m 17 3,m 18 4,⟨some 19,none,.bld [.int .i64 0,.int .i64 0,.int .i64 0,
 .int .i64 0] [(0,(1,(.tmp 15))),(1,(1,(.tmp 16))),(2,(1,(.tmp 17))),(3,(1,(.tmp 18)))]⟩,⟨some 20,none,.bsl 86 4 1 [.int .i64 0,.int .i64 0,.int .i64 0,.int .i64 0] [(0,(4,
 (.tmp 19)))]⟩,⟨some 21,none,.app 86 4 32 (.tmp 14) (.tmp 20)⟩,k 22 10,f 23 6 1 22,s 1 23 21])
theorem f_emit_generator_put : compF Try.prog 41 = some (24, c_emit_generator_put, []) := by kernel_rfl
def c_emit_generator_function:VC:=(.seq (.ops [m 9 0,k 10 9,F 11 0 2 10,f 12 1 1 11,l 13 1 12,m 14 1,x 15 5 13 14,L 16 5 15,⟨some 6,none,.alc 29 [.int .i64 0,.int .i64 0,
 .int .i64 0,.bool false,.slice none 0 0]⟩,S 5 6 16]) (.seq (.ops [m 17 0,m 18 1,k 19 17,f 20 10 1 19,s 1 20 18]) (.seq (.ops [m 21 0,k 22 21,f 23 7 1 22,l 24 1 23,m 25 1,m 26 0,
 k 27 26,f 28 6 1 27,l 29 1 28,n 30 29,x 31 1 24 25,s 1 31 30]) (.seq (.seq (.ops [m 32 1,m 33 0,k 34 33,F 35 0 2 34,f 36 1 1 35,l 37 1 36,n 38 37,b 39 .sub 38 1,
 B 40 .neq 32 39]) (.cond (.tmp 40) (.seq (.ops [m 41 0,m 42 0,k 43 42,F 44 2 4 43,f 45 1 1 44,l 46 1 45,m 47 1,x 48 1 46 47,l 49 1 48,⟨some 50,none,.call (.func 41) [(.tmp 41),
 (.const (.int .i64 17)),(.const (.int .i64 14)),(.const (.int .i64 0)),(.tmp 49)]⟩]) (.ops [m 51 0,f 52 2 1 6,l 53 1 52,f 54 0 1 6,l 55 1 54,B 56 .add 53 55,f 57 2 1 6,l 58 1 57,
 f 59 1 1 6,l 60 1 59,B 61 .add 58 60,
 c3 62 75 51 56 61])) .skip)) (.seq (.par false (.one (m 63 0) (.one (k 64 63) (.one (f 65 8 1 64) (.one (l 66 1 65) (.one (m 67 1) (.one (f 68 4 1 6) (.one (l 69 1 68) (.one (n 70 69) (.one ⟨some 71,
 none,.mk 3 1 8 [.int .i64 0] (.tmp 70) (.tmp 70)⟩ (.one (x 72 1 66 67) (.one (s 1 72 71) .done)))))))))))) (.seq (.ops [f 73 4 1 6,l 74 1 73,n 75 74,
 i 76 0]) (.block 0 (.loop (.seq (.ops [B 77 .lss 76 75]) (.seq (.cond (.tmp 77) .skip (.exit 0)) (.seq (.block 1 (.seq (.ops [m 78 76,x 79 4 74 76,L 80 4 79,⟨some 8,none,
 .alc 32 [.int .i64 0,.int .i64 0,.int .i64 0,.int .u32 0]⟩,m 7 78,S 4 8 80]) (.seq (.ops [m 81 0,k 82 81,f 83 8 1 82,l 84 1 83,m 85 1,x 86 1 84 85,l 87 1 86,m 88 7,m 89 0,k 90 89,
 f 91 6 1 90,l 92 1 91,n 93 92,x 94 1 87 88,s 1 94 93]) (.seq (.ops [m 95 0,m 96 0,k 97 96,F 98 2 4 97,f 99 0 1 98,l 100 1 99,m 101 1,x 102 1 100 101,l 103 1 102,m 104 7,
 x 105 1 103 104,l 106 1 105,k 107 95,f 108 11 1 107,s 1 108 106]) (.seq (.ops [m 109 0,k 110 109,f 111 11 1 110,l 112 1 111,b 113 .geq 112 0]) (.cond (.tmp 113) (.ops [m 114 2,
 f 115 0 1 8,l 116 1 115,⟨some 117,none,.see (.look false .nilFunc) [.tmp 114,.tmp 116]⟩,m 118 0,L 119 4 8,⟨some 120,none,.callM false (.tmp 117) [.tmp 118,
 .tmp 119]⟩]) .skip)))))) (.ops [b 121 .add 76 1,m 76 121]))))))))))))
theorem f_emit_generator_function : compF Try.prog 42 = some (122, c_emit_generator_function, []) := by kernel_rfl
def c_inst_Right:VC:=(.seq (.ops [X 1 86 0,o 2 false]) (.seq (.seq (.ops [f 5 0 1 1,l 6 1 5,c1 7 76 6,⟨some 8,none,
 .un .not (.tmp 7)⟩]) (.cond (.tmp 8) (.seq (.ops [o 2 false]) .ret) .skip)) (.seq (.ops [f 9 0 1 1,l 10 1 9,c1 11 77 10,⟨(some 3),none,(.alc 133 [(.string ⟨#[]⟩),(.bool false),
 (.bool false),(.int .i64 0)])⟩,S 4 3 11]) (.seq (.ops [i 4 65535]) (.seq (.seq (.ops [f 12 3 1 3,l 13 1 12,
 b 14 .eql 13 2]) (.cond (.tmp 14) (.ops [i 4 15]) .skip)) (.seq (.ops [f 15 1 1 1,l 16 1 15,f 17 1 1 3,l 18 1 17,⟨some 19,none,.call (.func 78) [(.tmp 16),(.const (.int .i64 15)),
 (.tmp 18)]⟩,m 20 19,⟨some 21,some (20,true),.fad 2 false 1 (.tmp 1)⟩,⟨some 22,some (20,true),.ld false 1 (.tmp 21)⟩,⟨some 23,some (20,true),.fad 2 false 1 (.tmp 3)⟩,⟨some 24,
 some (20,true),.ld false 1 (.tmp 23)⟩,⟨some 25,some (20,true),.call (.func 78) [(.tmp 22),(.const (.int .i64 15)),(.tmp 24)]⟩,⟨some 26,none,
 .pick (.tmp 20) (.tmp 25) (.const (.bool false))⟩,m 27 26,⟨some 28,some (27,true),.fad 3 false 1 (.tmp 1)⟩,⟨some 29,some (27,true),.ld false 1 (.tmp 28)⟩,⟨some 30,some (27,true),
 .mv (.tmp 4)⟩,⟨some 31,some (27,true),.fad 3 false 1 (.tmp 3)⟩,⟨some 32,some (27,true),.ld false 1 (.tmp 31)⟩,⟨some 33,some (27,true),.bin .neq (.tmp 32) (.const (.int .i64 0))⟩,
 ⟨some 34,some (27,true),.call (.func 78) [.tmp 29,.tmp 30,.tmp 33]⟩,⟨some 35,none,.pick (.tmp 27) (.tmp 34) (.const (.bool false))⟩,m 2 35]) .ret))))))
theorem f_inst_Right : compF Try.prog 43 = some (36, c_inst_Right, [.tmp 2]) := by kernel_rfl
def c_scref19_runner_stmt:VC:=(.seq (.ops [X 3 57 1]) (.seq (.seq (.ops [f 8 0 1 3,l 9 1 8]) (.block 0 (.seq (.ops [b 11 .eql 9 6,m 10 11]) (.cond (.tmp 10) (.seq (.ops [m 12 0,
 f 13 1 1 3,l 14 1 13,f 15 3 1 3,l 16 1 15,c3 17 81 12 14 16]) .ret) (.seq (.ops [b 19 .eql 9 5,m 18 19]) (.cond (.tmp 18) (.seq (.block 1 (.loop (.seq (.seq (.ops [m 20 0,k 21 20,
 f 22 8 1 21,l 23 1 22,b 24 .eql 23 0,m 25 24,⟨some 26,some (25,true),.mv (.tmp 0)⟩,⟨some 27,some (25,true),.nck (.tmp 26)⟩,⟨some 28,some (25,true),.fad 9 false 1 (.tmp 27)⟩,
 ⟨some 29,some (25,true),.ld false 1 (.tmp 28)⟩,⟨some 30,some (25,true),.un .not (.tmp 29)⟩,⟨some 31,none,
 .pick (.tmp 25) (.tmp 30) (.const (.bool false))⟩]) (.cond (.tmp 31) .skip (.exit 1))) (.block 2 (.seq (.seq (.ops [m 32 0,c1 33 82 32,⟨some 34,none,
 .un .not (.tmp 33)⟩]) (.cond (.tmp 34) .ret .skip)) (.seq (.ops [m 35 0,f 36 3 1 3,l 37 1 36,⟨some 38,none,.idx 6 (.tmp 37) (.const (.int .i64 0))⟩,L 39 6 38,c2 40 83 35 39,
 m 4 40]) (.seq (.seq (.ops [m 41 0,k 42 41,f 43 8 1 42,l 44 1 43,b 45 .neq 44 0,m 46 45,⟨some 47,some (46,false),.mv (.tmp 4)⟩,⟨some 48,some (46,false),
 .bin .eql (.tmp 47) (.const (.int .u32 0))⟩,⟨some 49,none,.pick (.tmp 46) (.const (.bool true)) (.tmp 48)⟩]) (.cond (.tmp 49) .ret .skip)) (.ops [m 50 0,f 51 4 1 3,l 52 1 51,
 c2 53 32 50 52])))))))) .ret) (.seq (.ops [b 55 .eql 9 7,m 54 55]) (.cond (.tmp 54) (.seq (.ops [⟨some 5,none,.mv (.const (.int .u32 0))⟩]) (.seq (.seq (.ops [f 56 3 1 3,l 57 1 56,
 n 58 57,b 59 .gtr 58 0]) (.cond (.tmp 59) (.ops [m 60 0,f 61 3 1 3,l 62 1 61,⟨some 63,none,.idx 6 (.tmp 62) (.const (.int .i64 0))⟩,L 64 6 63,c2 65 83 60 64,
 m 5 65]) .skip)) (.seq (.seq (.ops [m 66 0,k 67 66,f 68 8 1 67,l 69 1 68,b 70 .eql 69 0]) (.cond (.tmp 70) (.seq (.ops [m 71 0,m 72 5,k 73 71,f 74 10 1 73,
 s 1 74 72]) (.ops [m 75 0,k 76 75,f 77 9 1 76,⟨none,none,.sto false 1 (.tmp 77) (.const (.bool true))⟩])) .skip)) .ret))) .skip)))))))) (.seq (.ops [m 78 0,f 79 3 1 3,l 80 1 79,
 ⟨some 81,none,.idx 6 (.tmp 80) (.const (.int .i64 0))⟩,L 82 6 81,c2 83 83 78 82,m 6 83]) (.seq (.seq (.ops [m 84 0,k 85 84,f 86 8 1 85,l 87 1 86,
 b 88 .neq 87 0]) (.cond (.tmp 88) .ret .skip)) (.seq (.ops [f 89 0 1 3,l 90 1 89]) (.block 3 (.seq (.ops [b 102 .eql 90 1,m 101 102]) (.cond (.tmp 101) (.ops [m 103 0,k 104 103,
 f 105 2 1 104,l 106 1 105,f 107 1 1 3,l 108 1 107,m 109 6,x 110 1 106 108,s 1 110 109]) (.seq (.ops [b 112 .eql 90 2,m 111 112]) (.cond (.tmp 111) (.seq (.ops [m 113 0,f 114 3 1 3,
 l 115 1 114,⟨some 116,none,.idx 6 (.tmp 115) (.const (.int .i64 1))⟩,L 117 6 116,c2 118 83 113 117,m 7 118]) (.seq (.seq (.ops [m 119 0,k 120 119,f 121 8 1 120,l 122 1 121,
 b 123 .neq 122 0]) (.cond (.tmp 123) .ret .skip)) (.seq (.seq (.ops [m 124 6,⟨some 125,none,.conv .u64 (.tmp 124)⟩,f 126 2 1 3,l 127 1 126,⟨some 128,none,.conv .u64 (.tmp 127)⟩,
 B 129 .geq 125 128]) (.cond (.tmp 129) (.seq (.ops [m 130 0,k 131 130,f 132 8 1 131,⟨none,none,.sto false 1 (.tmp 132) (.const (.int .i64 3))⟩]) .ret) .skip)) (.ops [m 133 0,
 k 134 133,f 135 2 1 134,l 136 1 135,f 137 1 1 3,l 138 1 137,m 139 6,⟨some 140,none,.conv .i64 (.tmp 139)⟩,B 141 .add 138 140,m 142 7,x 143 1 136 141,
 s 1 143 142])))) (.seq (.ops [b 145 .eql 90 3,m 144 145]) (.cond (.tmp 144) (.seq (.seq (.ops [m 146 0,k 147 146,f 148 5 1 147,l 149 1 148,n 150 149,
 b 151 .geq 150 65536]) (.cond (.tmp 151) (.seq (.ops [m 152 0,k 153 152,f 154 8 1 153,⟨none,none,.sto false 1 (.tmp 154) (.const (.int .i64 4))⟩]) .ret) .skip)) (.ops [m 155 0,
 m 156 0,k 157 156,f 158 5 1 157,l 159 1 158,m 160 6,⟨some 161,none,.bin .rem (.tmp 160) (.const (.int .u32 256))⟩,⟨some 162,none,.conv .u8 (.tmp 161)⟩,⟨some 163,none,
 .bsl 5 1 1 [.int .u8 0] [(0,(1,(.tmp 162)))]⟩,⟨some 164,none,.app 5 1 1 (.tmp 159) (.tmp 163)⟩,k 165 155,f 166 5 1 165,s 1 166 164])) (.seq (.ops [m 91 6,⟨some 92,none,
 .bin .neq (.tmp 91) (.const (.int .u32 0))⟩]) (.cond (.tmp 92) (.ops [m 93 0,f 94 4 1 3,l 95 1 94,c2 96 32 93 95]) (.ops [m 97 0,f 98 5 1 3,l 99 1 98,
 c2 100 32 97 99])))))))))))))))
theorem f_scref19_runner_stmt : compF Try.prog 47 = some (167, c_scref19_runner_stmt, []) := by kernel_rfl
def c_scref01_both:VC:=(.seq (.ops [⟨some 6,none,.mv (.const (.int .u32 0))⟩]) (.seq (.ops [m 11 1,c1 12 84 11,m 13 2,c1 14 84 13,m 7 12,
 m 8 14]) (.seq (.seq (.ops [i 9 0]) (.block 0 (.loop (.seq (.seq (.ops [m 15 9,b 16 .lss 15 32]) (.cond (.tmp 16) .skip (.exit 0))) (.seq (.block 1 (.seq (.ops [m 19 7,m 20 9,
 x 21 1 19 20,l 22 1 21,m 23 8,m 24 9,x 25 1 23 24,l 26 1 25,B 27 .add 22 26,m 10 27]) (.seq (.ops [m 28 7,m 29 9,x 30 1 28 29,⟨none,none,
 .sto false 1 (.tmp 30) (.const (.int .i64 0))⟩]) (.seq (.ops [m 31 10,b 32 .eql 31 2,m 33 32,⟨some 34,some (33,true),.mv (.tmp 0)⟩,⟨some 35,some (33,true),
 .bin .neq (.tmp 34) (.const (.int .i64 11))⟩,⟨some 36,none,.pick (.tmp 33) (.tmp 35) (.const (.bool false))⟩,m 37 36,⟨some 38,some (37,false),.mv (.tmp 10)⟩,⟨some 39,some (37,
 false),.bin .eql (.tmp 38) (.const (.int .i64 1))⟩,⟨some 40,some (37,false),.mv (.tmp 39)⟩,⟨some 41,some (40,true),.mv (.tmp 0)⟩,⟨some 42,some (40,true),
 .bin .neq (.tmp 41) (.const (.int .i64 9))⟩,⟨some 43,some (37,false),.pick (.tmp 40) (.tmp 42) (.const (.bool false))⟩,⟨some 44,none,
 .pick (.tmp 37) (.const (.bool true)) (.tmp 43)⟩]) (.cond (.tmp 44) (.ops [m 45 7,m 46 9,x 47 1 45 46,⟨none,none,
 .sto false 1 (.tmp 47) (.const (.int .i64 1))⟩]) .skip))))) (.ops [m 17 9,b 18 .add 17 1,m 9 18])))))) (.seq (.ops [m 48 7,c1 49 85 48,m 6 49]) .ret))))
theorem f_scref01_both : compF Try.prog 48 = some (50, c_scref01_both, [.tmp 6]) := by kernel_rfl
def c_scref01_shift:VC:=(.seq (.ops [⟨some 6,none,.mv (.const (.int .u32 0))⟩]) (.seq (.seq (.ops [m 9 2,⟨some 10,none,
 .bin .geq (.tmp 9) (.const (.int .u32 32))⟩]) (.cond (.tmp 10) (.seq (.ops [⟨some 6,none,.mv (.const (.int .u32 0))⟩]) .ret) .skip)) (.seq (.ops [m 11 1,⟨some 12,none,
 .conv .u64 (.tmp 11)⟩,m 7 12]) (.seq (.seq (.ops [⟨some 8,none,.mv (.const (.int .u32 0))⟩]) (.block 0 (.loop (.seq (.seq (.ops [m 13 8,m 14 2,
 B 15 .lss 13 14]) (.cond (.tmp 15) .skip (.exit 0))) (.seq (.block 1 (.seq (.ops [m 18 0,b 19 .eql 18 12]) (.cond (.tmp 19) (.ops [m 20 7,⟨some 21,none,
 .bin .mul (.const (.int .u64 2)) (.tmp 20)⟩,⟨some 22,none,.bin .rem (.tmp 21) (.const (.int .u64 4294967296))⟩,m 7 22]) (.ops [m 23 7,⟨some 24,none,
 .bin .quo (.tmp 23) (.const (.int .u64 2))⟩,m 7 24])))) (.ops [m 16 8,⟨some 17,none,.bin .add (.tmp 16) (.const (.int .u32 1))⟩,m 8 17])))))) (.seq (.ops [m 25 7,⟨some 26,none,
 .conv .u32 (.tmp 25)⟩,m 6 26]) .ret)))))
theorem f_scref01_shift : compF Try.prog 49 = some (27, c_scref01_shift, [.tmp 6]) := by kernel_rfl
def c_scref01_flag:VC:=(.seq (.ops [⟨some 2,none,.mv (.const (.int .u32 0))⟩]) (.seq (.seq (.ops [m 3 0]) (.cond (.tmp 3) (.seq (.ops [⟨some 2,none,
 .mv (.const (.int .u32 1))⟩]) .ret) .skip)) (.seq (.ops [⟨some 2,none,.mv (.const (.int .u32 0))⟩]) .ret)))
theorem f_scref01_flag : compF Try.prog 50 = some (4, c_scref01_flag, [.tmp 2]) := by kernel_rfl
def c_stack_pile_int_push:VC:=(.ops [m 4 0,m 5 0,k 6 5,f 7 0 1 6,l 8 1 7,m 9 1,⟨some 10,none,.bsl 3 1 1 [.int .i64 0] [(0,(1,(.tmp 9)))]⟩,⟨some 11,none,
 .app 3 1 8 (.tmp 8) (.tmp 10)⟩,k 12 4,f 13 0 1 12,s 1 13 11])
theorem f_stack_pile_int_push : compF Try.prog 51 = some (14, c_stack_pile_int_push, []) := by kernel_rfl
def c_stack_pile_int_size:VC:=(.seq (.ops [i 2 0]) (.seq (.ops [m 3 0,k 4 3,f 5 0 1 4,l 6 1 5,n 7 6,m 2 7]) .ret))
theorem f_stack_pile_int_size : compF Try.prog 52 = some (8, c_stack_pile_int_size, [.tmp 2]) := by kernel_rfl
def c_stack_pile_int_pop:VC:=(.seq (.ops [i 2 0]) (.seq (.ops [m 5 0,k 6 5,f 7 0 1 6,l 8 1 7,n 9 8,b 10 .sub 9 1,m 3 10]) (.seq (.ops [m 11 0,k 12 11,f 13 0 1 12,l 14 1 13,m 15 3,
 x 16 1 14 15,l 17 1 16,m 4 17]) (.seq (.ops [m 18 0,m 19 0,k 20 19,f 21 0 1 20,l 22 1 21,m 23 3,⟨some 24,none,.sl 1 (.tmp 22) none (some (.tmp 23))⟩,k 25 18,f 26 0 1 25,
 s 1 26 24]) (.seq (.ops [m 27 4,m 2 27]) .ret)))))
theorem f_stack_pile_int_pop : compF Try.prog 53 = some (28, c_stack_pile_int_pop, [.tmp 2]) := by kernel_rfl
def c_stack_behind:VC:=(.seq (.ops [X 4 24 0,X 6 32 2,i 8 0,o 9 false]) (.seq (.ops [i 10 0,i 11 0]) (.seq (.seq (.ops [f 12 0 1 6,
 l 13 1 12]) (.block 0 (.seq (.seq (.ops [b 15 .eql 13 1,m 14 15]) (.cond (.tmp 14) .skip (.seq (.ops [b 16 .eql 13 2,m 14 16]) (.cond (.tmp 14) .skip (.ops [b 17 .eql 13 12,
 m 14 17]))))) (.cond (.tmp 14) (.ops [i 11 1]) (.seq (.seq (.ops [b 19 .eql 13 3,m 18 19]) (.cond (.tmp 18) .skip (.seq (.ops [b 20 .eql 13 9,
 m 18 20]) (.cond (.tmp 18) .skip (.ops [b 21 .eql 13 13,m 18 21]))))) (.cond (.tmp 18) (.ops [i 10 1]) (.seq (.seq (.ops [b 23 .eql 13 4,
 m 22 23]) (.cond (.tmp 22) .skip (.ops [b 24 .eql 13 7,m 22 24]))) (.cond (.tmp 22) (.ops [i 10 1,i 11 1]) (.seq (.ops [b 26 .eql 13 5,
 m 25 26]) (.cond (.tmp 25) (.ops [i 10 2]) (.seq (.ops [b 28 .eql 13 6,m 27 28]) (.cond (.tmp 27) (.ops [i 10 2,i 11 1]) (.seq (.ops [b 30 .eql 13 8,
 m 29 30]) (.cond (.tmp 29) .skip (.seq (.ops [b 32 .eql 13 10,m 31 32]) (.cond (.tmp 31) (.seq (.seq (.ops [f 33 1 1 6,l 34 1 33,b 35 .lss 34 0,m 36 35,⟨some 37,some (36,false),
 .fad 1 false 1 (.tmp 6)⟩,⟨some 38,some (36,false),.ld false 1 (.tmp 37)⟩,⟨some 39,some (36,false),.fad 1 false 1 (.tmp 4)⟩,⟨some 40,some (36,false),.ld false 1 (.tmp 39)⟩,⟨some 41,
 some (36,false),.len (.tmp 40)⟩,⟨some 42,some (36,false),.bin .geq (.tmp 38) (.tmp 41)⟩,⟨some 43,none,.pick (.tmp 36) (.const (.bool true)) (.tmp 42)⟩,m 44 43,⟨some 45,some (44,
 false),.fad 1 false 1 (.tmp 4)⟩,⟨some 46,some (44,false),.ld false 1 (.tmp 45)⟩,⟨some 47,some (44,false),.fad 1 false 1 (.tmp 6)⟩,⟨some 48,some (44,false),.ld false 1 (.tmp 47)⟩,
 ⟨some 49,some (44,false),.idx 5 (.tmp 46) (.tmp 48)⟩,⟨some 50,some (44,false),.fad 0 false 1 (.tmp 49)⟩,⟨some 51,some (44,false),.ld false 1 (.tmp 50)⟩,⟨some 52,some (44,false),
 .bin .lss (.tmp 51) (.const (.int .i64 0))⟩,⟨some 53,none,.pick (.tmp 44) (.const (.bool true)) (.tmp 52)⟩]) (.cond (.tmp 53) (.seq (.ops [i 8 0,
 o 9 false]) .ret) .skip)) (.par true (.one (f 54 1 1 4) (.one (f 56 1 1 6) (.one (f 61 1 1 4) (.one (l 62 1 61) (.one (f 63 1 1 6) (.one (l 64 1 63) (.one (x 65 5 62 64) (.one (f 66 3 1 65) (.one (l 67 1 66) (.both (.one (l 55 1 54) (.both (.one (l 57 1 56) (.one (x 58 5 55 57) (.one (f 59 0 1 58) (.both (.one (l 60 1 59) (.one ⟨some 68,
 none,.callM true (.func 86) [.tmp 67]⟩ (.one (m 10 60) (.one (m 11 68) .done)))) (.one ⟨some 68,none,
 .callM true (.func 86) [.tmp 67]⟩ (.one (l 60 1 59) (.one (m 10 60) (.one (m 11 68) .done)))))))) (.one ⟨some 68,none,
 .callM true (.func 86) [.tmp 67]⟩ (.one (l 57 1 56) (.one (x 58 5 55 57) (.one (f 59 0 1 58) (.one (l 60 1 59) (.one (m 10 60) (.one (m 11 68) .done))))))))) (.both (.one (l 57 1 56) (.both (.one (l 55 1 54) (.one (x 58 5 55 57) (.one (f 59 0 1 58) (.both (.one (l 60 1 59) (.one ⟨some 68,
 none,.callM true (.func 86) [.tmp 67]⟩ (.one (m 10 60) (.one (m 11 68) .done)))) (.one ⟨some 68,none,
 .callM true (.func 86) [.tmp 67]⟩ (.one (l 60 1 59) (.one (m 10 60) (.one (m 11 68) .done)))))))) (.one ⟨some 68,none,
 .callM true (.func 86) [.tmp 67]⟩ (.one (l 55 1 54) (.one (x 58 5 55 57) (.one (f 59 0 1 58) (.one (l 60 1 59) (.one (m 10 60) (.one (m 11 68) .done))))))))) (.one ⟨some 68,none,
 .callM true (.func 86) [.tmp 67]⟩ (.one (l 55 1 54) (.one (l 57 1 56) (.one (x 58 5 55 57) (.one (f 59 0 1 58) (.one (l 60 1 59) (.one (m 10 60) (.one (m 11 68) .done))))))))))))))))))))) (.seq (.ops [b 70 .eql 13 11,
 m 69 70]) (.cond (.tmp 69) (.seq (.ops [f 71 1 1 4,l 72 1 71,m 73 1,x 74 5 72 73,f 75 3 1 74,l 76 1 75,⟨some 77,none,.callM true (.func 86) [.tmp 76]⟩,
 m 10 77]) (.seq (.ops [m 78 3,m 79 10,B 80 .eql 78 79,i 8 0,m 9 80]) .ret)) (.seq (.ops [i 8 0,o 9 false]) .ret))))))))))))))))))) (.seq (.ops [m 81 3,m 82 10,B 83 .sub 81 82,
 m 84 11,B 85 .add 83 84,m 86 3,m 87 10,B 88 .geq 86 87,m 8 85,m 9 88]) .ret))))
theorem f_stack_behind : compF Try.prog 54 = some (89, c_stack_behind, [.tmp 8,.tmp 9]) := by kernel_rfl
def c_stack_next:VC:=(.seq (.ops [X 2 32 0,⟨some 4,none,.mv (.const (.slice none 0 0))⟩]) (.seq (.seq (.ops [f 5 0 1 2,l 6 1 5]) (.block 0 (.seq (.ops [b 8 .eql 6 8,
 m 7 8]) (.cond (.tmp 7) (.seq (.ops [f 9 1 1 2,l 10 1 9,⟨some 11,none,.bsl 3 1 1 [.int .i64 0] [(0,(1,(.tmp 10)))]⟩,m 4 11]) .ret) (.seq (.ops [b 13 .eql 6 9,
 m 12 13]) (.cond (.tmp 12) (.seq (.ops [m 14 1,b 15 .add 14 1,f 16 1 1 2,l 17 1 16,⟨some 18,none,.bsl 3 1 2 [.int .i64 0,.int .i64 0] [(0,(1,(.tmp 15))),(1,(1,(.tmp 17)))]⟩,
 m 4 18]) .ret) (.seq (.ops [b 20 .eql 6 11,m 19 20]) (.cond (.tmp 19) (.seq (.ops [⟨some 4,none,.mv (.const (.slice none 0 0))⟩]) .ret) .skip)))))))) (.seq (.ops [m 21 1,
 b 22 .add 21 1,⟨some 23,none,.bsl 3 1 1 [.int .i64 0] [(0,(1,(.tmp 22)))]⟩,m 4 23]) .ret)))
theorem f_stack_next : compF Try.prog 55 = some (24, c_stack_next, [.tmp 4]) := by kernel_rfl
def c_emit_meanings_1:VC:=(.seq (.ops [X 3 32 1]) (.seq (.ops [m 4 0,f 5 3 1 3,l 6 1 5,⟨some 7,none,.call (.func 57) [(.tmp 4),(.const (.int .i64 1)),(.tmp 6)]⟩]) (.ops [m 8 0,
 ⟨some 9,none,.call (.func 58) [(.tmp 8),(.const (.int .i64 1)),(.const (.int .i64 0))]⟩])))
theorem f_emit_meanings_1 : compF Try.prog 56 = some (10, c_emit_meanings_1, []) := by kernel_rfl
def c_emit_generator_number:VC:=(.seq (.ops [m 6 0,m 7 1,m 8 2,⟨some 9,none,.bin .and (.tmp 8) (.const (.int .u32 65535))⟩,⟨some 10,none,.conv .i64 (.tmp 9)⟩,⟨some 11,none,
 .call (.func 41) [(.tmp 6),(.const (.int .i64 1)),(.tmp 7),(.const (.int .i64 0)),(.tmp 10)]⟩]) (.seq (.ops [m 12 2,⟨some 13,none,
 .bin .gtr (.tmp 12) (.const (.int .u32 65535))⟩]) (.cond (.tmp 13) (.ops [m 14 0,m 15 1,m 16 2,⟨some 17,none,.bin .shr (.tmp 16) (.const (.int .u64 16))⟩,⟨some 18,none,
 .conv .i64 (.tmp 17)⟩,⟨some 19,none,.call (.func 41) [(.tmp 14),(.const (.int .i64 2)),(.tmp 15),(.const (.int .i64 0)),(.tmp 18)]⟩]) .skip)))
theorem f_emit_generator_number : compF Try.prog 57 = some (20, c_emit_generator_number, []) := by kernel_rfl
def c_emit_generator_store:VC:=(.ops [m 6 0,m 7 1,m 8 0,k 9 8,F 10 2 4 9,f 11 2 1 10,l 12 1 11,m 13 0,k 14 13,f 15 10 1 14,l 16 1 15,x 17 1 12 16,l 18 1 17,m 19 0,k 20 19,
 f 21 11 1 20,l 22 1 21,B 23 .add 18 22,m 24 2,B 25 .sub 23 24,⟨some 26,none,.call (.func 41) [(.tmp 6),(.const (.int .i64 17)),(.tmp 7),(.const (.int .i64 0)),(.tmp 25)]⟩])
theorem f_emit_generator_store : compF Try.prog 58 = some (27, c_emit_generator_store, []) := by kernel_rfl
def c_emit_meanings_2:VC:=(.seq (.ops [X 3 32 1]) (.seq (.ops [m 4 0,f 5 1 1 3,l 6 1 5,⟨some 7,none,.call (.func 41) [(.tmp 4),(.const (.int .i64 16)),(.const (.int .i64 1)),
 (.const (.int .i64 0)),(.tmp 6)]⟩]) (.ops [m 8 0,⟨some 9,none,.call (.func 58) [(.tmp 8),(.const (.int .i64 1)),(.const (.int .i64 0))]⟩])))
theorem f_emit_meanings_2 : compF Try.prog 59 = some (10, c_emit_meanings_2, []) := by kernel_rfl
def c_emit_meanings_3:VC:=(.seq (.ops [X 3 32 1]) (.seq (.ops [m 4 0,⟨some 5,none,.call (.func 61) [(.tmp 4),(.const (.int .i64 1)),(.const (.int .i64 1))]⟩]) (.ops [m 6 0,
 f 7 1 1 3,l 8 1 7,⟨some 9,none,.call (.func 41) [(.tmp 6),(.const (.int .i64 17)),(.const (.int .i64 1)),(.const (.int .i64 0)),(.tmp 8)]⟩])))
theorem f_emit_meanings_3 : compF Try.prog 60 = some (10, c_emit_meanings_3, []) := by kernel_rfl
def c_emit_generator_load:VC:=(.ops [m 6 0,m 7 1,m 8 0,k 9 8,F 10 2 4 9,f 11 2 1 10,l 12 1 11,m 13 0,k 14 13,f 15 10 1 14,l 16 1 15,x 17 1 12 16,l 18 1 17,m 19 0,k 20 19,
 f 21 11 1 20,l 22 1 21,B 23 .add 18 22,m 24 2,B 25 .sub 23 24,⟨some 26,none,.call (.func 41) [(.tmp 6),(.const (.int .i64 16)),(.tmp 7),(.const (.int .i64 0)),(.tmp 25)]⟩])
theorem f_emit_generator_load : compF Try.prog 61 = some (27, c_emit_generator_load, []) := by kernel_rfl
def c_emit_meanings_4:VC:=(.seq (.ops [X 3 32 1]) (.seq (.ops [m 4 0,⟨some 5,none,.call (.func 61) [(.tmp 4),(.const (.int .i64 1)),(.const (.int .i64 1))]⟩]) (.seq (.ops [m 6 0,
 f 7 2 1 3,l 8 1 7,⟨some 9,none,.call (.func 41) [(.tmp 6),(.const (.int .i64 25)),(.const (.int .i64 1)),(.const (.int .i64 0)),(.tmp 8)]⟩]) (.seq (.ops [m 10 0,f 11 1 1 3,
 l 12 1 11,⟨some 13,none,.call (.func 41) [(.tmp 10),(.const (.int .i64 16)),(.const (.int .i64 1)),(.const (.int .i64 1)),(.tmp 12)]⟩]) (.ops [m 14 0,⟨some 15,none,
 .call (.func 58) [(.tmp 14),(.const (.int .i64 1)),(.const (.int .i64 1))]⟩])))))
theorem f_emit_meanings_4 : compF Try.prog 62 = some (16, c_emit_meanings_4, []) := by kernel_rfl
def c_emit_meanings_5:VC:=(.seq (.ops [X 3 32 1]) (.seq (.ops [m 4 0,⟨some 5,none,.call (.func 61) [(.tmp 4),(.const (.int .i64 1)),(.const (.int .i64 2))]⟩]) (.seq (.ops [m 6 0,
 f 7 2 1 3,l 8 1 7,⟨some 9,none,.call (.func 41) [(.tmp 6),(.const (.int .i64 25)),(.const (.int .i64 1)),(.const (.int .i64 0)),(.tmp 8)]⟩]) (.seq (.ops [m 10 0,⟨some 11,none,
 .call (.func 61) [(.tmp 10),(.const (.int .i64 2)),(.const (.int .i64 1))]⟩]) (.ops [m 12 0,f 13 1 1 3,l 14 1 13,⟨some 15,none,.call (.func 41) [(.tmp 12),(.const (.int .i64 17)),
 (.const (.int .i64 2)),(.const (.int .i64 1)),(.tmp 14)]⟩])))))
theorem f_emit_meanings_5 : compF Try.prog 63 = some (16, c_emit_meanings_5, []) := by kernel_rfl
def c_emit_meanings_6:VC:=(.seq (.ops [X 3 32 1]) (.seq (.ops [m 4 0,⟨some 5,none,.call (.func 61) [(.tmp 4),(.const (.int .i64 1)),(.const (.int .i64 2))]⟩]) (.seq (.ops [m 6 0,
 ⟨some 7,none,.call (.func 61) [(.tmp 6),(.const (.int .i64 2)),(.const (.int .i64 1))]⟩]) (.seq (.ops [m 8 0,f 9 1 1 3,l 10 1 9,⟨some 11,none,.call (.func 41) [(.tmp 8),(.tmp 10),
 (.const (.int .i64 1)),(.const (.int .i64 1)),(.const (.int .i64 2))]⟩]) (.ops [m 12 0,⟨some 13,none,.call (.func 58) [(.tmp 12),(.const (.int .i64 1)),
 (.const (.int .i64 2))]⟩])))))
theorem f_emit_meanings_6 : compF Try.prog 64 = some (14, c_emit_meanings_6, []) := by kernel_rfl
def c_emit_meanings_7:VC:=(.seq (.ops [X 3 32 1]) (.seq (.ops [m 4 0,⟨some 5,none,.call (.func 61) [(.tmp 4),(.const (.int .i64 1)),(.const (.int .i64 1))]⟩]) (.seq (.ops [m 6 0,
 ⟨some 7,none,.call (.func 41) [(.tmp 6),(.const (.int .i64 15)),(.const (.int .i64 1)),(.const (.int .i64 1)),(.const (.int .i64 0))]⟩]) (.ops [m 8 0,⟨some 9,none,
 .call (.func 58) [(.tmp 8),(.const (.int .i64 1)),(.const (.int .i64 1))]⟩]))))
theorem f_emit_meanings_7 : compF Try.prog 65 = some (10, c_emit_meanings_7, []) := by kernel_rfl
def c_emit_meanings_8:VC:=(.seq (.ops [X 3 32 1]) (.ops [m 4 0,m 5 0,k 6 5,f 7 10 1 6,l 8 1 7,f 9 1 1 3,l 10 1 9,⟨some 11,none,.call (.func 67) [(.tmp 4),(.const (.int .i64 18)),
 (.const (.int .i64 0)),(.tmp 8),(.tmp 10)]⟩]))
theorem f_emit_meanings_8 : compF Try.prog 66 = some (12, c_emit_meanings_8, []) := by kernel_rfl

 def c_emit_generator_hole:VC:=(.seq (.par false (.one (m 10 0) (.one (m 11 0) (.one (k 12 11) (.one (f 13 9 1 12) (.one (l 14 1 13) (.one (m 15 0) (.one (k 16 15) (.one (f 17 6 1 16) (.one (l 18 1 17) (.one (n 19 18) (.one (m 20 3) (.one (m 21 4) (.one ⟨some 22,
 none,.bld [.int .i64 0,.int .i64 0,.int .i64 0] [(0,(1,(.tmp 19))),(1,(1,(.tmp 20))),(2,(1,(.tmp 21)))]⟩ (.one ⟨some 23,none,.bsl 110 3 1 [.int .i64 0,.int .i64 0,.int .i64 0] [(0,
 (3,(.tmp 22)))]⟩ (.one ⟨some 24,none,.app 110 3 24 (.tmp 14) (.tmp 23)⟩ (.one (k 25 10) (.one (f 26 9 1 25) (.one (s 1 26 24) .done))))))))))))))))))) (.ops [m 27 0,m 28 1,m 29 2,
 ⟨some 30,none,.call (.func 41) [(.tmp 27),(.tmp 28),(.tmp 29),(.const (.int .i64 0)),(.const (.int .i64 0))]⟩]))
theorem f_emit_generator_hole : compF Try.prog 67 = some (31, c_emit_generator_hole, []) := by kernel_rfl
def c_emit_meanings_9:VC:=(.seq (.ops [X 3 32 1]) (.seq (.ops [m 4 0,⟨some 5,none,.call (.func 61) [(.tmp 4),(.const (.int .i64 1)),(.const (.int .i64 1))]⟩]) (.ops [m 6 0,m 7 0,
 k 8 7,f 9 10 1 8,l 10 1 9,f 11 1 1 3,l 12 1 11,⟨some 13,none,.call (.func 67) [(.tmp 6),(.const (.int .i64 19)),(.const (.int .i64 1)),(.tmp 10),(.tmp 12)]⟩])))
theorem f_emit_meanings_9 : compF Try.prog 68 = some (14, c_emit_meanings_9, []) := by kernel_rfl
def c_emit_meanings_10:VC:=(.seq (.ops [X 3 32 1]) (.ops [m 4 0,L 5 4 3,c2 6 70 4 5]))
theorem f_emit_meanings_10 : compF Try.prog 69 = some (7, c_emit_meanings_10, []) := by kernel_rfl

 def c_emit_generator_call:VC:=(.seq (.ops [X 3 32 1]) (.seq (.par false (.one (m 6 0) (.one (k 7 6) (.one (F 8 0 2 7) (.one (f 9 1 1 8) (.one (l 10 1 9) (.one (f 11 1 1 3) (.one (l 12 1 11) (.one (x 13 5 10 12) (.one (L 14 5 13) (.one ⟨some 4,
 none,.alc 29 [.int .i64 0,.int .i64 0,.int .i64 0,.bool false,.slice none 0 0]⟩ (.one (S 5 4 14) .done)))))))))))) (.seq (.seq (.ops [f 15 0 1 4,l 16 1 15,
 i 17 0]) (.block 0 (.loop (.seq (.ops [B 18 .lss 17 16]) (.seq (.cond (.tmp 18) .skip (.exit 0)) (.seq (.block 1 (.seq (.ops [m 19 17,m 5 19]) (.seq (.ops [m 20 0,f 21 0 1 4,
 l 22 1 21,m 23 5,B 24 .sub 22 23,⟨some 25,none,.call (.func 61) [(.tmp 20),(.const (.int .i64 1)),(.tmp 24)]⟩]) (.ops [m 26 0,f 27 2 1 4,l 28 1 27,m 29 5,B 30 .add 28 29,⟨some 31,
 none,.call (.func 41) [(.tmp 26),(.const (.int .i64 17)),(.const (.int .i64 1)),(.const (.int .i64 0)),(.tmp 30)]⟩])))) (.ops [b 32 .add 17 1,m 17 32]))))))) (.seq (.ops [m 33 0,
 f 34 1 1 3,l 35 1 34,⟨some 36,none,.call (.func 67) [(.tmp 33),(.const (.int .i64 21)),(.const (.int .i64 14)),(.tmp 35),(.const (.int .i64 (-1)))]⟩]) (.seq (.ops [f 37 3 1 4,
 l 38 1 37]) (.cond (.tmp 38) (.ops [m 39 0,f 40 0 1 4,l 41 1 40,⟨some 42,none,.call (.func 58) [(.tmp 39),(.const (.int .i64 1)),(.tmp 41)]⟩]) .skip))))))
theorem f_emit_generator_call : compF Try.prog 70 = some (43, c_emit_generator_call, []) := by kernel_rfl
def c_emit_meanings_11:VC:=(.seq (.ops [X 3 32 1]) (.ops [m 4 0,c1 5 72 4]))
theorem f_emit_meanings_11 : compF Try.prog 71 = some (6, c_emit_meanings_11, []) := by kernel_rfl
def c_emit_generator_leave:VC:=(.seq (.seq (.ops [m 2 0,k 3 2,f 4 10 1 3,l 5 1 4,m 6 0,k 7 6,F 8 0 2 7,f 9 1 1 8,l 10 1 9,n 11 10,b 12 .sub 11 1,
 B 13 .eql 5 12]) (.cond (.tmp 13) (.seq (.ops [m 14 0,⟨some 15,none,.call (.func 41) [(.tmp 14),(.const (.int .i64 26)),(.const (.int .i64 0)),(.const (.int .i64 0)),
 (.const (.int .i64 0))]⟩]) .ret) .skip)) (.seq (.seq (.ops [m 16 0,k 17 16,F 18 0 2 17,f 19 1 1 18,l 20 1 19,m 21 0,k 22 21,f 23 10 1 22,l 24 1 23,x 25 5 20 24,f 26 3 1 25,
 l 27 1 26]) (.cond (.tmp 27) (.ops [m 28 0,⟨some 29,none,.call (.func 61) [(.tmp 28),(.const (.int .i64 1)),(.const (.int .i64 1))]⟩]) .skip)) (.seq (.ops [m 30 0,m 31 0,k 32 31,
 F 33 2 4 32,f 34 1 1 33,l 35 1 34,m 36 0,k 37 36,f 38 10 1 37,l 39 1 38,x 40 1 35 39,l 41 1 40,⟨some 42,none,.call (.func 41) [(.tmp 30),(.const (.int .i64 16)),
 (.const (.int .i64 14)),(.const (.int .i64 0)),(.tmp 41)]⟩]) (.ops [m 43 0,⟨some 44,none,.call (.func 41) [(.tmp 43),(.const (.int .i64 22)),(.const (.int .i64 14)),
 (.const (.int .i64 0)),(.const (.int .i64 0))]⟩]))))
theorem f_emit_generator_leave : compF Try.prog 72 = some (45, c_emit_generator_leave, []) := by kernel_rfl
def c_emit_meanings_12:VC:=(.seq (.ops [X 3 32 1]) (.seq (.ops [m 4 0,⟨some 5,none,.call (.func 41) [(.tmp 4),(.const (.int .i64 23)),(.const (.int .i64 1)),(.const (.int .i64 0)),
 (.const (.int .i64 0))]⟩]) (.ops [m 6 0,⟨some 7,none,.call (.func 58) [(.tmp 6),(.const (.int .i64 1)),(.const (.int .i64 0))]⟩])))
theorem f_emit_meanings_12 : compF Try.prog 73 = some (8, c_emit_meanings_12, []) := by kernel_rfl
def c_emit_meanings_13:VC:=(.seq (.ops [X 3 32 1]) (.seq (.ops [m 4 0,⟨some 5,none,.call (.func 61) [(.tmp 4),(.const (.int .i64 1)),(.const (.int .i64 1))]⟩]) (.ops [m 6 0,
 ⟨some 7,none,.call (.func 41) [(.tmp 6),(.const (.int .i64 24)),(.const (.int .i64 1)),(.const (.int .i64 0)),(.const (.int .i64 0))]⟩])))
theorem f_emit_meanings_13 : compF Try.prog 74 = some (8, c_emit_meanings_13, []) := by kernel_rfl
def c_emit_generator_clear:VC:=(.seq (.seq (.ops [m 8 2,m 9 1,B 10 .sub 8 9,b 11 .leq 10 6]) (.cond (.tmp 11) (.seq (.seq (.ops [m 12 1,
 m 6 12]) (.block 0 (.loop (.seq (.seq (.ops [m 13 6,m 14 2,B 15 .lss 13 14]) (.cond (.tmp 15) .skip (.exit 0))) (.seq (.block 1 (.ops [m 18 0,m 19 6,⟨some 20,none,
 .call (.func 41) [(.tmp 18),(.const (.int .i64 17)),(.const (.int .i64 0)),(.const (.int .i64 0)),(.tmp 19)]⟩])) (.ops [m 16 6,b 17 .add 16 1,
 m 6 17])))))) .ret) .skip)) (.seq (.ops [m 21 0,m 22 1,⟨some 23,none,.call (.func 41) [(.tmp 21),(.const (.int .i64 1)),(.const (.int .i64 1)),(.const (.int .i64 0)),
 (.tmp 22)]⟩]) (.seq (.ops [m 24 0,m 25 2,⟨some 26,none,.call (.func 41) [(.tmp 24),(.const (.int .i64 1)),(.const (.int .i64 2)),(.const (.int .i64 0)),
 (.tmp 25)]⟩]) (.seq (.ops [m 27 0,k 28 27,f 29 6 1 28,l 30 1 29,n 31 30,m 7 31]) (.seq (.ops [m 32 0,⟨some 33,none,.call (.func 41) [(.tmp 32),(.const (.int .i64 17)),
 (.const (.int .i64 0)),(.const (.int .i64 1)),(.const (.int .i64 0))]⟩]) (.seq (.ops [m 34 0,⟨some 35,none,.call (.func 41) [(.tmp 34),(.const (.int .i64 4)),
 (.const (.int .i64 1)),(.const (.int .i64 1)),(.const (.int .i64 15))]⟩]) (.seq (.ops [m 36 0,⟨some 37,none,.call (.func 41) [(.tmp 36),(.const (.int .i64 14)),
 (.const (.int .i64 3)),(.const (.int .i64 1)),(.const (.int .i64 2))]⟩]) (.ops [m 38 0,m 39 7,⟨some 40,none,.call (.func 41) [(.tmp 38),(.const (.int .i64 20)),
 (.const (.int .i64 3)),(.const (.int .i64 0)),(.tmp 39)]⟩]))))))))
theorem f_emit_generator_clear : compF Try.prog 75 = some (41, c_emit_generator_clear, []) := by kernel_rfl
def c_inst_known:VC:=(.seq (.ops [o 2 false]) (.seq (.ops [m 3 0,c1 4 77 3,⟨some 5,none,.fld 0 false 1 (.tmp 4)⟩,⟨(some 6),none,(.bin .neq (.tmp 5) (.const (.string ⟨#[]⟩)))⟩,
 m 2 6]) .ret))
theorem f_inst_known : compF Try.prog 76 = some (7, c_inst_known, [.tmp 2]) := by kernel_rfl
def c_inst_shapeOf:VC:=(.seq (.ops [⟨(some 2),none,(.alc 133 [(.string ⟨#[]⟩),(.bool false),(.bool false),
 (.int .i64 0)])⟩]) (.seq (.seq (.ops [m 3 0]) (.block 0 (.seq (.ops [b 5 .eql 3 1,m 4 5]) (.cond (.tmp 4) (.seq (.ops [⟨(some 6),none,(.bld [(.string ⟨#[]⟩),(.bool false),
 (.bool false),(.int .i64 0)] [(0,(1,(.const (.string ⟨#[108,105]⟩)))),(1,(1,(.const (.bool true)))),(2,(1,(.const (.bool false)))),(3,(1,(.const (.int .i64 1))))])⟩,
 S 4 2 6]) .ret) (.seq (.ops [b 8 .eql 3 2,m 7 8]) (.cond (.tmp 7) (.seq (.ops [⟨(some 9),none,(.bld [(.string ⟨#[]⟩),(.bool false),(.bool false),(.int .i64 0)] [(0,(1,
 (.const (.string ⟨#[108,117,105]⟩)))),(1,(1,(.const (.bool true)))),(2,(1,(.const (.bool false)))),(3,(1,(.const (.int .i64 1))))])⟩,S 4 2 9]) .ret) (.seq (.ops [b 11 .eql 3 3,
 m 10 11]) (.cond (.tmp 10) (.seq (.ops [⟨(some 12),none,(.bld [(.string ⟨#[]⟩),(.bool false),(.bool false),(.int .i64 0)] [(0,(1,(.const (.string ⟨#[109,111,118]⟩)))),(1,(1,
 (.const (.bool true)))),(2,(1,(.const (.bool true)))),(3,(1,(.const (.int .i64 0))))])⟩,S 4 2 12]) .ret) (.seq (.ops [b 14 .eql 3 4,
 m 13 14]) (.cond (.tmp 13) (.seq (.ops [⟨(some 15),none,(.bld [(.string ⟨#[]⟩),(.bool false),(.bool false),(.int .i64 0)] [(0,(1,(.const (.string ⟨#[97,100,100]⟩)))),(1,(1,
 (.const (.bool true)))),(2,(1,(.const (.bool true)))),(3,(1,(.const (.int .i64 2))))])⟩,S 4 2 15]) .ret) (.seq (.ops [b 17 .eql 3 5,
 m 16 17]) (.cond (.tmp 16) (.seq (.ops [⟨(some 18),none,(.bld [(.string ⟨#[]⟩),(.bool false),(.bool false),(.int .i64 0)] [(0,(1,(.const (.string ⟨#[115,117,98]⟩)))),(1,(1,
 (.const (.bool true)))),(2,(1,(.const (.bool true)))),(3,(1,(.const (.int .i64 2))))])⟩,S 4 2 18]) .ret) (.seq (.ops [b 20 .eql 3 6,
 m 19 20]) (.cond (.tmp 19) (.seq (.ops [⟨(some 21),none,(.bld [(.string ⟨#[]⟩),(.bool false),(.bool false),(.int .i64 0)] [(0,(1,(.const (.string ⟨#[109,117,108]⟩)))),(1,(1,
 (.const (.bool true)))),(2,(1,(.const (.bool true)))),(3,(1,(.const (.int .i64 2))))])⟩,S 4 2 21]) .ret) (.seq (.ops [b 23 .eql 3 7,
 m 22 23]) (.cond (.tmp 22) (.seq (.ops [⟨(some 24),none,(.bld [(.string ⟨#[]⟩),(.bool false),(.bool false),(.int .i64 0)] [(0,(1,(.const (.string ⟨#[100,105,118]⟩)))),(1,(1,
 (.const (.bool true)))),(2,(1,(.const (.bool true)))),(3,(1,(.const (.int .i64 2))))])⟩,S 4 2 24]) .ret) (.seq (.ops [b 26 .eql 3 8,
 m 25 26]) (.cond (.tmp 25) (.seq (.ops [⟨(some 27),none,(.bld [(.string ⟨#[]⟩),(.bool false),(.bool false),(.int .i64 0)] [(0,(1,(.const (.string ⟨#[109,111,100]⟩)))),(1,(1,
 (.const (.bool true)))),(2,(1,(.const (.bool true)))),(3,(1,(.const (.int .i64 2))))])⟩,S 4 2 27]) .ret) (.seq (.ops [b 29 .eql 3 9,
 m 28 29]) (.cond (.tmp 28) (.seq (.ops [⟨(some 30),none,(.bld [(.string ⟨#[]⟩),(.bool false),(.bool false),(.int .i64 0)] [(0,(1,(.const (.string ⟨#[97,110,100]⟩)))),(1,(1,
 (.const (.bool true)))),(2,(1,(.const (.bool true)))),(3,(1,(.const (.int .i64 2))))])⟩,S 4 2 30]) .ret) (.seq (.ops [b 32 .eql 3 10,
 m 31 32]) (.cond (.tmp 31) (.seq (.ops [⟨(some 33),none,(.bld [(.string ⟨#[]⟩),(.bool false),(.bool false),(.int .i64 0)] [(0,(1,(.const (.string ⟨#[111,114]⟩)))),(1,(1,
 (.const (.bool true)))),(2,(1,(.const (.bool true)))),(3,(1,(.const (.int .i64 2))))])⟩,S 4 2 33]) .ret) (.seq (.ops [b 35 .eql 3 11,
 m 34 35]) (.cond (.tmp 34) (.seq (.ops [⟨(some 36),none,(.bld [(.string ⟨#[]⟩),(.bool false),(.bool false),(.int .i64 0)] [(0,(1,(.const (.string ⟨#[120,111,114]⟩)))),(1,(1,
 (.const (.bool true)))),(2,(1,(.const (.bool true)))),(3,(1,(.const (.int .i64 2))))])⟩,S 4 2 36]) .ret) (.seq (.ops [b 38 .eql 3 12,
 m 37 38]) (.cond (.tmp 37) (.seq (.ops [⟨(some 39),none,(.bld [(.string ⟨#[]⟩),(.bool false),(.bool false),(.int .i64 0)] [(0,(1,(.const (.string ⟨#[115,104,108]⟩)))),(1,(1,
 (.const (.bool true)))),(2,(1,(.const (.bool true)))),(3,(1,(.const (.int .i64 2))))])⟩,S 4 2 39]) .ret) (.seq (.ops [b 41 .eql 3 13,
 m 40 41]) (.cond (.tmp 40) (.seq (.ops [⟨(some 42),none,(.bld [(.string ⟨#[]⟩),(.bool false),(.bool false),(.int .i64 0)] [(0,(1,(.const (.string ⟨#[115,104,114]⟩)))),(1,(1,
 (.const (.bool true)))),(2,(1,(.const (.bool true)))),(3,(1,(.const (.int .i64 2))))])⟩,S 4 2 42]) .ret) (.seq (.ops [b 44 .eql 3 14,
 m 43 44]) (.cond (.tmp 43) (.seq (.ops [⟨(some 45),none,(.bld [(.string ⟨#[]⟩),(.bool false),(.bool false),(.int .i64 0)] [(0,(1,(.const (.string ⟨#[108,116]⟩)))),(1,(1,
 (.const (.bool true)))),(2,(1,(.const (.bool true)))),(3,(1,(.const (.int .i64 2))))])⟩,S 4 2 45]) .ret) (.seq (.ops [b 47 .eql 3 15,
 m 46 47]) (.cond (.tmp 46) (.seq (.ops [⟨(some 48),none,(.bld [(.string ⟨#[]⟩),(.bool false),(.bool false),(.int .i64 0)] [(0,(1,(.const (.string ⟨#[101,113]⟩)))),(1,(1,
 (.const (.bool true)))),(2,(1,(.const (.bool true)))),(3,(1,(.const (.int .i64 2))))])⟩,S 4 2 48]) .ret) (.seq (.ops [b 50 .eql 3 16,
 m 49 50]) (.cond (.tmp 49) (.seq (.ops [⟨(some 51),none,(.bld [(.string ⟨#[]⟩),(.bool false),(.bool false),(.int .i64 0)] [(0,(1,(.const (.string ⟨#[108,100]⟩)))),(1,(1,
 (.const (.bool true)))),(2,(1,(.const (.bool true)))),(3,(1,(.const (.int .i64 1))))])⟩,S 4 2 51]) .ret) (.seq (.ops [b 53 .eql 3 17,
 m 52 53]) (.cond (.tmp 52) (.seq (.ops [⟨(some 54),none,(.bld [(.string ⟨#[]⟩),(.bool false),(.bool false),(.int .i64 0)] [(0,(1,(.const (.string ⟨#[115,116]⟩)))),(1,(1,
 (.const (.bool true)))),(2,(1,(.const (.bool true)))),(3,(1,(.const (.int .i64 1))))])⟩,S 4 2 54]) .ret) (.seq (.ops [b 56 .eql 3 18,
 m 55 56]) (.cond (.tmp 55) (.seq (.ops [⟨(some 57),none,(.bld [(.string ⟨#[]⟩),(.bool false),(.bool false),(.int .i64 0)] [(0,(1,(.const (.string ⟨#[106,109,112]⟩)))),(1,(1,
 (.const (.bool false)))),(2,(1,(.const (.bool false)))),(3,(1,(.const (.int .i64 1))))])⟩,S 4 2 57]) .ret) (.seq (.ops [b 59 .eql 3 19,
 m 58 59]) (.cond (.tmp 58) (.seq (.ops [⟨(some 60),none,(.bld [(.string ⟨#[]⟩),(.bool false),(.bool false),(.int .i64 0)] [(0,(1,(.const (.string ⟨#[106,122]⟩)))),(1,(1,
 (.const (.bool true)))),(2,(1,(.const (.bool false)))),(3,(1,(.const (.int .i64 1))))])⟩,S 4 2 60]) .ret) (.seq (.ops [b 62 .eql 3 20,
 m 61 62]) (.cond (.tmp 61) (.seq (.ops [⟨(some 63),none,(.bld [(.string ⟨#[]⟩),(.bool false),(.bool false),(.int .i64 0)] [(0,(1,(.const (.string ⟨#[106,110,122]⟩)))),(1,(1,
 (.const (.bool true)))),(2,(1,(.const (.bool false)))),(3,(1,(.const (.int .i64 1))))])⟩,S 4 2 63]) .ret) (.seq (.ops [b 65 .eql 3 21,
 m 64 65]) (.cond (.tmp 64) (.seq (.ops [⟨(some 66),none,(.bld [(.string ⟨#[]⟩),(.bool false),(.bool false),(.int .i64 0)] [(0,(1,(.const (.string ⟨#[99,97,108,108]⟩)))),(1,(1,
 (.const (.bool true)))),(2,(1,(.const (.bool false)))),(3,(1,(.const (.int .i64 1))))])⟩,S 4 2 66]) .ret) (.seq (.ops [b 68 .eql 3 22,
 m 67 68]) (.cond (.tmp 67) (.seq (.ops [⟨(some 69),none,(.bld [(.string ⟨#[]⟩),(.bool false),(.bool false),(.int .i64 0)] [(0,(1,(.const (.string ⟨#[114,101,116]⟩)))),(1,(1,
 (.const (.bool true)))),(2,(1,(.const (.bool false)))),(3,(1,(.const (.int .i64 0))))])⟩,S 4 2 69]) .ret) (.seq (.ops [b 71 .eql 3 23,
 m 70 71]) (.cond (.tmp 70) (.seq (.ops [⟨(some 72),none,(.bld [(.string ⟨#[]⟩),(.bool false),(.bool false),(.int .i64 0)] [(0,(1,(.const (.string ⟨#[103,101,116]⟩)))),(1,(1,
 (.const (.bool true)))),(2,(1,(.const (.bool false)))),(3,(1,(.const (.int .i64 0))))])⟩,S 4 2 72]) .ret) (.seq (.ops [b 74 .eql 3 24,
 m 73 74]) (.cond (.tmp 73) (.seq (.ops [⟨(some 75),none,(.bld [(.string ⟨#[]⟩),(.bool false),(.bool false),(.int .i64 0)] [(0,(1,(.const (.string ⟨#[112,117,116]⟩)))),(1,(1,
 (.const (.bool true)))),(2,(1,(.const (.bool false)))),(3,(1,(.const (.int .i64 0))))])⟩,S 4 2 75]) .ret) (.seq (.ops [b 77 .eql 3 25,
 m 76 77]) (.cond (.tmp 76) (.seq (.ops [⟨(some 78),none,(.bld [(.string ⟨#[]⟩),(.bool false),(.bool false),(.int .i64 0)] [(0,(1,(.const (.string ⟨#[99,104,107]⟩)))),(1,(1,
 (.const (.bool true)))),(2,(1,(.const (.bool false)))),(3,(1,(.const (.int .i64 1))))])⟩,S 4 2 78]) .ret) (.seq (.ops [b 80 .eql 3 26,
 m 79 80]) (.cond (.tmp 79) (.seq (.ops [⟨(some 81),none,(.bld [(.string ⟨#[]⟩),(.bool false),(.bool false),(.int .i64 0)] [(0,(1,(.const (.string ⟨#[104,97,108,116]⟩)))),(1,(1,
 (.const (.bool false)))),(2,(1,(.const (.bool false)))),(3,(1,(.const (.int .i64 0))))])⟩,S 4 2 81]) .ret) (.seq (.ops [b 83 .eql 3 27,
 m 82 83]) (.cond (.tmp 82) (.seq (.ops [⟨(some 84),none,(.bld [(.string ⟨#[]⟩),(.bool false),(.bool false),(.int .i64 0)] [(0,(1,(.const (.string ⟨#[108,100,99]⟩)))),(1,(1,
 (.const (.bool true)))),(2,(1,(.const (.bool true)))),(3,(1,(.const (.int .i64 1))))])⟩,
 S 4 2 84]) .ret) .skip)))))))))))))))))))))))))))))))))))))))))))))))))))))))) (.seq (.ops [⟨(some 85),none,(.bld [(.string ⟨#[]⟩),(.bool false),(.bool false),(.int .i64 0)] [])⟩,
 S 4 2 85]) .ret)))
theorem f_inst_shapeOf : compF Try.prog 77 = some (86, c_inst_shapeOf, [(.cell 2 true 4)]) := by kernel_rfl
def c_inst_within:VC:=(.seq (.ops [o 6 false]) (.seq (.seq (.ops [m 7 2,⟨some 8,none,.un .not (.tmp 7)⟩]) (.cond (.tmp 8) (.seq (.ops [m 9 0,b 10 .eql 9 0,
 m 6 10]) .ret) .skip)) (.seq (.ops [m 11 0,b 12 .geq 11 0,m 13 12,⟨some 14,some (13,true),.mv (.tmp 0)⟩,⟨some 15,some (13,true),.mv (.tmp 1)⟩,⟨some 16,some (13,true),
 .bin .leq (.tmp 14) (.tmp 15)⟩,⟨some 17,none,.pick (.tmp 13) (.tmp 16) (.const (.bool false))⟩,m 6 17]) .ret)))
theorem f_inst_within : compF Try.prog 78 = some (18, c_inst_within, [.tmp 6]) := by kernel_rfl
def c_scref10_Code:VC:=(.seq (.ops [X 1 38 0,⟨some 2,none,.mv (.const (.slice none 0 0))⟩,⟨some 3,none,.mv (.const (.slice none 0 0))⟩]) (.seq (.ops [f 9 0 1 1,l 10 1 9,n 11 10,
 ⟨some 12,none,.mk 86 4 32 [.int .i64 0,.int .i64 0,.int .i64 0,.int .i64 0] (.tmp 11) (.tmp 11)⟩,m 4 12]) (.seq (.ops [f 13 0 1 1,l 14 1 13,n 15 14,⟨some 16,none,
 .mk 4 1 1 [.bool false] (.tmp 15) (.tmp 15)⟩,m 5 16]) (.seq (.seq (.ops [i 6 0]) (.block 0 (.loop (.seq (.seq (.ops [m 17 6,f 18 0 1 1,l 19 1 18,n 20 19,
 B 21 .lss 17 20]) (.cond (.tmp 21) .skip (.exit 0))) (.seq (.block 1 (.seq (.ops [f 25 0 1 1,l 26 1 25,m 27 6,x 28 1 26 27,l 29 1 28,c1 30 87 29,m 24 30,e 31 24 0,e 32 24 1,
 ⟨some 7,none,.alc 86 [.int .i64 0,.int .i64 0,.int .i64 0,.int .i64 0]⟩,S 4 7 31,m 8 32]) (.ops [m 33 4,m 34 6,m 35 5,m 36 6,L 37 4 7,m 38 8,b 39 .eql 38 0,x 40 4 33 34,S 4 40 37,
 x 41 1 35 36,s 1 41 39]))) (.ops [m 22 6,b 23 .add 22 1,m 6 23])))))) (.seq (.ops [m 42 4,m 43 5,m 2 42,m 3 43]) .ret)))))
theorem f_scref10_Code : compF Try.prog 79 = some (44, c_scref10_Code, [.tmp 2,.tmp 3]) := by kernel_rfl
def c_scref19_runner_tick:VC:=(.seq (.ops [o 2 false]) (.seq (.seq (.ops [m 3 0,k 4 3,f 5 6 1 4,l 6 1 5,m 7 0,k 8 7,f 9 7 1 8,l 10 1 9,
 B 11 .geq 6 10]) (.cond (.tmp 11) (.seq (.ops [m 12 0,k 13 12,f 14 8 1 13,⟨none,none,
 .sto false 1 (.tmp 14) (.const (.int .i64 5))⟩]) (.seq (.ops [o 2 false]) .ret)) .skip)) (.seq (.ops [m 15 0,k 16 15,f 17 6 1 16,l 18 1 17,b 19 .add 18 1,k 20 15,f 21 6 1 20,
 s 1 21 19]) (.seq (.ops [o 2 true]) .ret))))
theorem f_scref19_runner_tick : compF Try.prog 82 = some (22, c_scref19_runner_tick, [.tmp 2]) := by kernel_rfl
def c_scref19_runner_expr:VC:=(.seq (.ops [X 3 54 1,⟨some 4,none,.mv (.const (.int .u32 0))⟩]) (.seq (.seq (.ops [f 10 0 1 3,l 11 1 10]) (.block 0 (.seq (.ops [b 13 .eql 11 1,
 m 12 13]) (.cond (.tmp 12) (.seq (.ops [f 14 2 1 3,l 15 1 14,m 4 15]) .ret) (.seq (.ops [b 17 .eql 11 2,m 16 17]) (.cond (.tmp 16) (.seq (.ops [m 18 0,k 19 18,f 20 2 1 19,
 l 21 1 20,f 22 3 1 3,l 23 1 22,x 24 1 21 23,l 25 1 24,m 4 25]) .ret) (.seq (.ops [b 27 .eql 11 3,m 26 27]) (.cond (.tmp 26) (.seq (.ops [m 28 0,f 29 5 1 3,l 30 1 29,⟨some 31,none,
 .idx 6 (.tmp 30) (.const (.int .i64 0))⟩,L 32 6 31,c2 33 83 28 32,m 5 33]) (.seq (.seq (.ops [m 34 0,k 35 34,f 36 8 1 35,l 37 1 36,
 b 38 .neq 37 0]) (.cond (.tmp 38) (.seq (.ops [⟨some 4,none,.mv (.const (.int .u32 0))⟩]) .ret) .skip)) (.seq (.seq (.ops [m 39 5,⟨some 40,none,.conv .u64 (.tmp 39)⟩,f 41 4 1 3,
 l 42 1 41,⟨some 43,none,.conv .u64 (.tmp 42)⟩,B 44 .geq 40 43]) (.cond (.tmp 44) (.seq (.ops [m 45 0,k 46 45,f 47 8 1 46,⟨none,none,
 .sto false 1 (.tmp 47) (.const (.int .i64 3))⟩]) (.seq (.ops [⟨some 4,none,.mv (.const (.int .u32 0))⟩]) .ret)) .skip)) (.seq (.ops [m 48 0,k 49 48,f 50 2 1 49,l 51 1 50,
 f 52 3 1 3,l 53 1 52,m 54 5,⟨some 55,none,.conv .i64 (.tmp 54)⟩,B 56 .add 53 55,x 57 1 51 56,l 58 1 57,m 4 58]) .ret)))) (.seq (.ops [b 60 .eql 11 4,
 m 59 60]) (.cond (.tmp 59) (.seq (.ops [m 61 0,f 62 3 1 3,l 63 1 62,f 64 5 1 3,l 65 1 64,c3 66 81 61 63 65,m 4 66]) .ret) (.seq (.ops [b 68 .eql 11 5,
 m 67 68]) (.cond (.tmp 67) (.seq (.seq (.ops [m 69 0,k 70 69,f 71 4 1 70,l 72 1 71,m 73 0,k 74 73,f 75 3 1 74,l 76 1 75,⟨some 77,none,.lens (.tmp 76)⟩,
 B 78 .geq 72 77]) (.cond (.tmp 78) (.seq (.ops [⟨some 4,none,.mv (.const (.int .u32 256))⟩]) .ret) .skip)) (.seq (.ops [m 79 0,k 80 79,f 81 4 1 80,l 82 1 81,b 83 .add 82 1,k 84 79,
 f 85 4 1 84,s 1 85 83]) (.seq (.ops [m 86 0,k 87 86,f 88 3 1 87,l 89 1 88,m 90 0,k 91 90,f 92 4 1 91,l 93 1 92,b 94 .sub 93 1,⟨some 95,none,.pur .six [.tmp 89,.tmp 94]⟩,⟨some 96,
 none,.conv .u32 (.tmp 95)⟩,m 4 96]) .ret))) .skip)))))))))))) (.seq (.ops [m 97 0,f 98 5 1 3,l 99 1 98,⟨some 100,none,.idx 6 (.tmp 99) (.const (.int .i64 0))⟩,L 101 6 100,
 c2 102 83 97 101,m 6 102]) (.seq (.seq (.ops [m 103 0,k 104 103,f 105 8 1 104,l 106 1 105,b 107 .neq 106 0]) (.cond (.tmp 107) (.seq (.ops [⟨some 4,none,
 .mv (.const (.int .u32 0))⟩]) .ret) .skip)) (.seq (.seq (.ops [f 108 0 1 3,l 109 1 108]) (.block 1 (.seq (.ops [b 111 .eql 109 7,m 110 111]) (.cond (.tmp 110) (.seq (.ops [m 112 6,
 ⟨some 113,none,.bin .eql (.tmp 112) (.const (.int .u32 0))⟩,c1 114 91 113,m 4 114]) .ret) (.seq (.ops [b 116 .eql 109 8,m 115 116]) (.cond (.tmp 115) (.seq (.seq (.ops [m 117 6,
 ⟨some 118,none,.bin .eql (.tmp 117) (.const (.int .u32 0))⟩]) (.cond (.tmp 118) (.seq (.ops [⟨some 4,none,.mv (.const (.int .u32 0))⟩]) .ret) .skip)) (.seq (.ops [m 119 0,
 f 120 5 1 3,l 121 1 120,⟨some 122,none,.idx 6 (.tmp 121) (.const (.int .i64 1))⟩,L 123 6 122,c2 124 83 119 123,⟨some 125,none,.bin .neq (.tmp 124) (.const (.int .u32 0))⟩,
 c1 126 91 125,m 4 126]) .ret)) (.seq (.ops [b 128 .eql 109 9,m 127 128]) (.cond (.tmp 127) (.seq (.seq (.ops [m 129 6,⟨some 130,none,
 .bin .neq (.tmp 129) (.const (.int .u32 0))⟩]) (.cond (.tmp 130) (.seq (.ops [⟨some 4,none,.mv (.const (.int .u32 1))⟩]) .ret) .skip)) (.seq (.ops [m 131 0,f 132 5 1 3,l 133 1 132,
 ⟨some 134,none,.idx 6 (.tmp 133) (.const (.int .i64 1))⟩,L 135 6 134,c2 136 83 131 135,⟨some 137,none,.bin .neq (.tmp 136) (.const (.int .u32 0))⟩,c1 138 91 137,
 m 4 138]) .ret)) .skip)))))))) (.seq (.ops [m 139 0,f 140 5 1 3,l 141 1 140,⟨some 142,none,.idx 6 (.tmp 141) (.const (.int .i64 1))⟩,L 143 6 142,c2 144 83 139 143,
 m 7 144]) (.seq (.seq (.ops [m 145 0,k 146 145,f 147 8 1 146,l 148 1 147,b 149 .neq 148 0]) (.cond (.tmp 149) (.seq (.ops [⟨some 4,none,
 .mv (.const (.int .u32 0))⟩]) .ret) .skip)) (.seq (.ops [f 151 1 1 3,l 152 1 151,m 153 6,m 154 7,c3 155 36 152 153 154,m 150 155,e 156 150 0,e 157 150 1,m 8 156,
 m 9 157]) (.seq (.seq (.ops [m 158 9,b 159 .neq 158 0]) (.cond (.tmp 159) (.ops [m 160 0,k 161 160,f 162 8 1 161,⟨none,none,
 .sto false 1 (.tmp 162) (.const (.int .i64 2))⟩]) .skip)) (.seq (.ops [m 163 8,m 4 163]) .ret))))))))))
theorem f_scref19_runner_expr : compF Try.prog 83 = some (164, c_scref19_runner_expr, [.tmp 4]) := by kernel_rfl
def c_scref01_Bits:VC:=(.seq (.ops [⟨some 2,none,.mv (.const (.slice none 0 0))⟩]) (.seq (.ops [⟨some 3,none,
 .mv (.const (.slice none 0 0))⟩]) (.seq (.seq (.ops [i 4 0]) (.block 0 (.loop (.seq (.seq (.ops [m 5 4,
 b 6 .lss 5 32]) (.cond (.tmp 6) .skip (.exit 0))) (.seq (.block 1 (.seq (.ops [m 9 3,m 10 0,⟨some 11,none,.bin .rem (.tmp 10) (.const (.int .u32 2))⟩,⟨some 12,none,
 .conv .i64 (.tmp 11)⟩,⟨some 13,none,.bsl 3 1 1 [.int .i64 0] [(0,(1,(.tmp 12)))]⟩,⟨some 14,none,.app 3 1 8 (.tmp 9) (.tmp 13)⟩,m 3 14]) (.ops [m 15 0,⟨some 16,none,
 .bin .quo (.tmp 15) (.const (.int .u32 2))⟩,m 0 16]))) (.ops [m 7 4,b 8 .add 7 1,m 4 8])))))) (.seq (.ops [m 17 3,m 2 17]) .ret))))
theorem f_scref01_Bits : compF Try.prog 84 = some (18, c_scref01_Bits, [.tmp 2]) := by kernel_rfl
def c_scref01_Of:VC:=(.seq (.ops [⟨some 2,none,.mv (.const (.int .u32 0))⟩]) (.seq (.ops [⟨some 3,none,.mv (.const (.int .u64 0))⟩]) (.seq (.seq (.ops [m 5 0,n 6 5,b 7 .sub 6 1,
 m 4 7]) (.block 0 (.loop (.seq (.seq (.ops [m 8 4,b 9 .geq 8 0]) (.cond (.tmp 9) .skip (.exit 0))) (.seq (.block 1 (.ops [m 12 3,⟨some 13,none,
 .bin .mul (.const (.int .u64 2)) (.tmp 12)⟩,m 14 0,m 15 4,x 16 1 14 15,l 17 1 16,⟨some 18,none,.conv .u64 (.tmp 17)⟩,B 19 .add 13 18,m 3 19])) (.ops [m 10 4,b 11 .sub 10 1,
 m 4 11])))))) (.seq (.ops [m 20 3,⟨some 21,none,.bin .rem (.tmp 20) (.const (.int .u64 4294967296))⟩,⟨some 22,none,.conv .u32 (.tmp 21)⟩,m 2 22]) .ret))))
theorem f_scref01_Of : compF Try.prog 85 = some (23, c_scref01_Of, [.tmp 2]) := by kernel_rfl
def c_stack_count:VC:=(.seq (.ops [i 2 0]) (.seq (.seq (.ops [m 3 0]) (.cond (.tmp 3) (.seq (.ops [i 2 1]) .ret) .skip)) (.seq (.ops [i 2 0]) .ret)))
theorem f_stack_count : compF Try.prog 86 = some (4, c_stack_count, [.tmp 2]) := by kernel_rfl
def c_scref07_Decode:VC:=(.seq (.ops [⟨some 2,none,.alc 86 [.int .i64 0,.int .i64 0,.int .i64 0,.int .i64 0]⟩,i 3 0]) (.seq (.ops [m 5 0,⟨some 6,none,
 .bin .quo (.tmp 5) (.const (.int .u32 16777216))⟩,⟨some 7,none,.conv .i64 (.tmp 6)⟩,m 8 0,⟨some 9,none,.bin .quo (.tmp 8) (.const (.int .u32 1048576))⟩,⟨some 10,none,
 .bin .rem (.tmp 9) (.const (.int .u32 16))⟩,⟨some 11,none,.conv .i64 (.tmp 10)⟩,m 12 0,⟨some 13,none,.bin .quo (.tmp 12) (.const (.int .u32 65536))⟩,⟨some 14,none,
 .bin .rem (.tmp 13) (.const (.int .u32 16))⟩,⟨some 15,none,.conv .i64 (.tmp 14)⟩,m 16 0,⟨some 17,none,.bin .rem (.tmp 16) (.const (.int .u32 65536))⟩,⟨some 18,none,
 .conv .i64 (.tmp 17)⟩,⟨some 19,none,.bld [.int .i64 0,.int .i64 0,.int .i64 0,.int .i64 0] [(0,(1,(.tmp 7))),(1,(1,(.tmp 11))),(2,(1,(.tmp 15))),(3,(1,(.tmp 18)))]⟩,⟨some 4,none,
 .alc 86 [.int .i64 0,.int .i64 0,.int .i64 0,.int .i64 0]⟩,S 4 4 19]) (.seq (.seq (.ops [L 20 4 4,c1 21 92 20,⟨some 22,none,
 .un .not (.tmp 21)⟩]) (.cond (.tmp 22) (.seq (.ops [⟨some 23,none,.bld [.int .i64 0,.int .i64 0,.int .i64 0,.int .i64 0] []⟩,S 4 2 23,i 3 7]) .ret) .skip)) (.seq (.ops [L 24 4 4,
 S 4 2 24,i 3 0]) .ret))))
theorem f_scref07_Decode : compF Try.prog 87 = some (25, c_scref07_Decode, [(.cell 2 true 4), (.tmp 3)]) := by kernel_rfl
def c_scref10_work_set:VC:=(.seq (.ops [m 6 0,m 7 1,m 8 2,k 9 6,F 10 0 22 9,F 11 1 16 10,⟨some 12,none,.aidx 16 false 1 (.tmp 11) (.tmp 7)⟩,s 1 12 8]) (.ops [m 13 0,k 14 13,
 F 15 0 22 14,f 16 0 1 15,l 17 1 16,b 18 .add 17 1,k 19 13,F 20 0 22 19,f 21 0 1 20,s 1 21 18]))
theorem f_scref10_work_set : compF Try.prog 88 = some (22, c_scref10_work_set, []) := by kernel_rfl
def c_scref10_fetch:VC:=(.seq (.ops [⟨some 6,none,.mv (.const (.int .u32 0))⟩,o 7 false]) (.seq (.ops [m 9 1,m 10 2,⟨some 11,none,.conv .u32 (.tmp 10)⟩,B 12 .add 9 11,
 m 8 12]) (.seq (.seq (.ops [m 13 8,⟨some 14,none,.conv .u64 (.tmp 13)⟩,m 15 0,n 16 15,⟨some 17,none,.conv .u64 (.tmp 16)⟩,B 18 .geq 14 17]) (.cond (.tmp 18) (.seq (.ops [⟨some 6,
 none,.mv (.const (.int .u32 0))⟩,o 7 false]) .ret) .skip)) (.seq (.ops [m 19 0,m 20 8,x 21 1 19 20,l 22 1 21,m 6 22,o 7 true]) .ret))))
theorem f_scref10_fetch : compF Try.prog 89 = some (23, c_scref10_fetch, [.tmp 6,.tmp 7]) := by kernel_rfl
def c_scref10_work_jump:VC:=(.seq (.ops [m 6 1]) (.cond (.tmp 6) (.ops [m 7 0,m 8 2,k 9 7,F 10 0 22 9,f 11 0 1 10,s 1 11 8]) (.ops [m 12 0,k 13 12,F 14 0 22 13,f 15 0 1 14,
 l 16 1 15,b 17 .add 16 1,k 18 12,F 19 0 22 18,f 20 0 1 19,s 1 20 17])))
theorem f_scref10_work_jump : compF Try.prog 90 = some (21, c_scref10_work_jump, []) := by kernel_rfl
def c_scref07_Right:VC:=(.seq (.ops [X 1 86 0,o 2 false]) (.seq (.ops [f 5 0 1 1,l 6 1 5,c1 7 93 6,m 3 7]) (.seq (.ops [i 4 65535]) (.seq (.seq (.ops [m 8 3,⟨some 9,none,
 .call (.func 94) [(.tmp 8),(.const (.int .u8 114))]⟩]) (.cond (.tmp 9) (.ops [i 4 15]) .skip)) (.seq (.par false (.one (m 10 3) (.one ⟨(some 11),none,
 (.bin .neq (.tmp 10) (.const (.string ⟨#[63]⟩)))⟩ (.one (m 12 11) (.one ⟨some 13,some (12,true),.mv (.tmp 3)⟩ (.one ⟨some 14,some (12,true),.call (.func 94) [(.tmp 13),
 (.const (.int .u8 97))]⟩ (.one ⟨some 15,some (12,true),.fad 1 false 1 (.tmp 1)⟩ (.one ⟨some 16,some (12,true),.ld false 1 (.tmp 15)⟩ (.one ⟨some 17,some (12,true),
 .call (.func 95) [(.tmp 14),(.tmp 16),(.const (.int .i64 15))]⟩ (.one ⟨some 18,none,.pick (.tmp 12) (.tmp 17) (.const (.bool false))⟩ (.one (m 19 18) (.one ⟨some 20,some (19,true),
 .mv (.tmp 3)⟩ (.one ⟨some 21,some (19,true),.call (.func 94) [(.tmp 20),(.const (.int .u8 98))]⟩ (.one ⟨some 22,some (19,true),.fad 2 false 1 (.tmp 1)⟩ (.one ⟨some 23,some (19,
 true),.ld false 1 (.tmp 22)⟩ (.one ⟨some 24,some (19,true),.call (.func 95) [(.tmp 21),(.tmp 23),(.const (.int .i64 15))]⟩ (.one ⟨some 25,none,
 .pick (.tmp 19) (.tmp 24) (.const (.bool false))⟩ (.one (m 26 25) (.one ⟨some 27,some (26,true),.mv (.tmp 3)⟩ (.one ⟨some 28,some (26,true),.call (.func 94) [(.tmp 27),
 (.const (.int .u8 99))]⟩ (.one ⟨some 29,some (26,true),.mv (.tmp 28)⟩ (.one ⟨some 30,some (29,false),.mv (.tmp 3)⟩ (.one ⟨some 31,some (29,false),.call (.func 94) [(.tmp 30),
 (.const (.int .u8 114))]⟩ (.one ⟨some 32,some (26,true),.pick (.tmp 29) (.const (.bool true)) (.tmp 31)⟩ (.one ⟨some 33,some (26,true),.fad 3 false 1 (.tmp 1)⟩ (.one ⟨some 34,
 some (26,true),.ld false 1 (.tmp 33)⟩ (.one ⟨some 35,some (26,true),.mv (.tmp 4)⟩ (.one ⟨some 36,some (26,true),.call (.func 95) [.tmp 32,.tmp 34,.tmp 35]⟩ (.one ⟨some 37,none,
 .pick (.tmp 26) (.tmp 36) (.const (.bool false))⟩ (.one (m 2 37) .done)))))))))))))))))))))))))))))) .ret)))))
theorem f_scref07_Right : compF Try.prog 92 = some (38, c_scref07_Right, [.tmp 2]) := by kernel_rfl
def c_scref07_Parts:VC:=(.seq (.ops [⟨(some 2),none,(.mv (.const (.string ⟨#[]⟩)))⟩]) (.seq (.seq (.ops [m 3 0]) (.block 0 (.seq (.seq (.ops [b 5 .eql 3 1,
 m 4 5]) (.cond (.tmp 4) .skip (.seq (.ops [b 6 .eql 3 2,m 4 6]) (.cond (.tmp 4) .skip (.seq (.ops [b 7 .eql 3 19,m 4 7]) (.cond (.tmp 4) .skip (.seq (.ops [b 8 .eql 3 20,
 m 4 8]) (.cond (.tmp 4) .skip (.seq (.ops [b 9 .eql 3 21,m 4 9]) (.cond (.tmp 4) .skip (.ops [b 10 .eql 3 25,m 4 10]))))))))))) (.cond (.tmp 4) (.seq (.ops [⟨(some 2),none,
 (.mv (.const (.string ⟨#[97,99]⟩)))⟩]) .ret) (.seq (.ops [b 12 .eql 3 3,m 11 12]) (.cond (.tmp 11) (.seq (.ops [⟨(some 2),none,(.mv (.const (.string ⟨#[97,
 98]⟩)))⟩]) .ret) (.seq (.seq (.ops [b 14 .eql 3 16,m 13 14]) (.cond (.tmp 13) .skip (.seq (.ops [b 15 .eql 3 17,m 13 15]) (.cond (.tmp 13) .skip (.ops [b 16 .eql 3 27,
 m 13 16]))))) (.cond (.tmp 13) (.seq (.ops [⟨(some 2),none,(.mv (.const (.string ⟨#[97,98,99]⟩)))⟩]) .ret) (.seq (.ops [b 18 .eql 3 18,
 m 17 18]) (.cond (.tmp 17) (.seq (.ops [⟨(some 2),none,(.mv (.const (.string ⟨#[99]⟩)))⟩]) .ret) (.seq (.seq (.ops [b 20 .eql 3 22,
 m 19 20]) (.cond (.tmp 19) .skip (.seq (.ops [b 21 .eql 3 23,m 19 21]) (.cond (.tmp 19) .skip (.ops [b 22 .eql 3 24,m 19 22]))))) (.cond (.tmp 19) (.seq (.ops [⟨(some 2),none,
 (.mv (.const (.string ⟨#[97]⟩)))⟩]) .ret) (.seq (.ops [b 24 .eql 3 26,m 23 24]) (.cond (.tmp 23) (.seq (.ops [⟨(some 2),none,
 (.mv (.const (.string ⟨#[]⟩)))⟩]) .ret) .skip)))))))))))))) (.seq (.seq (.ops [m 25 0,b 26 .geq 25 4,m 27 26,⟨some 28,some (27,true),.mv (.tmp 0)⟩,⟨some 29,some (27,true),
 .bin .leq (.tmp 28) (.const (.int .i64 15))⟩,⟨some 30,none,.pick (.tmp 27) (.tmp 29) (.const (.bool false))⟩]) (.cond (.tmp 30) (.seq (.ops [⟨(some 2),none,
 (.mv (.const (.string ⟨#[97,98,114]⟩)))⟩]) .ret) .skip)) (.seq (.ops [⟨(some 2),none,(.mv (.const (.string ⟨#[63]⟩)))⟩]) .ret))))
theorem f_scref07_Parts : compF Try.prog 93 = some (31, c_scref07_Parts, [.tmp 2]) := by kernel_rfl
def c_scref07_has:VC:=(.seq (.ops [o 4 false]) (.seq (.seq (.ops [i 5 0]) (.block 0 (.loop (.seq (.seq (.ops [m 6 5,m 7 0,⟨some 8,none,.lens (.tmp 7)⟩,
 B 9 .lss 6 8]) (.cond (.tmp 9) .skip (.exit 0))) (.seq (.block 1 (.seq (.ops [m 12 0,m 13 5,⟨some 14,none,.pur .six [.tmp 12,.tmp 13]⟩,m 15 1,
 B 16 .eql 14 15]) (.cond (.tmp 16) (.seq (.ops [o 4 true]) .ret) .skip))) (.ops [m 10 5,b 11 .add 10 1,m 5 11])))))) (.seq (.ops [o 4 false]) .ret)))
theorem f_scref07_has : compF Try.prog 94 = some (17, c_scref07_has, [.tmp 4]) := by kernel_rfl
def c_scref07_within:VC:=(.seq (.ops [o 6 false]) (.seq (.seq (.ops [m 7 0,⟨some 8,none,.un .not (.tmp 7)⟩]) (.cond (.tmp 8) (.seq (.ops [m 9 1,b 10 .eql 9 0,
 m 6 10]) .ret) .skip)) (.seq (.ops [m 11 1,b 12 .geq 11 0,m 13 12,⟨some 14,some (13,true),.mv (.tmp 1)⟩,⟨some 15,some (13,true),.mv (.tmp 2)⟩,⟨some 16,some (13,true),
 .bin .leq (.tmp 14) (.tmp 15)⟩,⟨some 17,none,.pick (.tmp 13) (.tmp 16) (.const (.bool false))⟩,m 6 17]) .ret)))
theorem f_scref07_within : compF Try.prog 95 = some (18, c_scref07_within, [.tmp 6]) := by kernel_rfl
theorem hmix : Try.prog.follows .mixedOrders = true := by kernel_rfl
end Go.Proofs.Ytaedcpipilnpcaa
