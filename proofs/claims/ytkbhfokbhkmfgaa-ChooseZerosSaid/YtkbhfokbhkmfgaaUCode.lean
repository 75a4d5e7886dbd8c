/-
  The functions of this seat, made small by the program: each is what the engine makes of the function of that number. No condition.
-/
import Derived.Test.YtkbhfokbhkmfgaaUS
import Derived.Test.YtkbhfokbhkmfgaaRows
import Derived.KernelRfl
set_option linter.unusedVariables false
set_option linter.unusedSimpArgs false
namespace Go.Proofs.Ytkbhfokbhkmfgaa
open Go.V
namespace Z
abbrev m(a b:Nat):VOp:=⟨some a,none,.mv (.tmp b)⟩
abbrev l(a n b:Nat):VOp:=⟨some a,none,.ld false n (.tmp b)⟩
abbrev L(a n b:Nat):VOp:=⟨some a,none,.ld true n (.tmp b)⟩
abbrev f(a o n b:Nat):VOp:=⟨some a,none,.fad o false n (.tmp b)⟩
abbrev F(a o n b:Nat):VOp:=⟨some a,none,.fad o true n (.tmp b)⟩
abbrev x(a n b c:Nat):VOp:=⟨some a,none,.idx n (.tmp b) (.tmp c)⟩
abbrev b(a:Nat)(o:BinOp)(b:Nat)(c:Int):VOp:=⟨some a,none,.bin o (.tmp b) (.const (.int .i64 c))⟩
abbrev B(a:Nat)(o:BinOp)(b c:Nat):VOp:=⟨some a,none,.bin o (.tmp b) (.tmp c)⟩
abbrev k(a b:Nat):VOp:=⟨some a,none,.nck (.tmp b)⟩
abbrev i(a:Nat)(c:Int):VOp:=⟨some a,none,.mv (.const (.int .i64 c))⟩
abbrev n(a b:Nat):VOp:=⟨some a,none,.len (.tmp b)⟩
abbrev o(a:Nat)(c:Bool):VOp:=⟨some a,none,.mv (.const (.bool c))⟩
abbrev X(a n b:Nat):VOp:=⟨some a,none,.box n (.tmp b)⟩
abbrev e(a b n:Nat):VOp:=⟨some a,none,.ext (.tmp b) n⟩
abbrev S(n b c:Nat):VOp:=⟨none,none,.sto true n (.tmp b) (.tmp c)⟩
abbrev s(n b c:Nat):VOp:=⟨none,none,.sto false n (.tmp b) (.tmp c)⟩
abbrev c0(a f:Nat):VOp:=⟨some a,none,.call (.func f) []⟩
abbrev c1(a f x:Nat):VOp:=⟨some a,none,.call (.func f) [.tmp x]⟩
abbrev c2(a f x y:Nat):VOp:=⟨some a,none,.call (.func f) [.tmp x,.tmp y]⟩
abbrev c3(a f x y z:Nat):VOp:=⟨some a,none,.call (.func f) [.tmp x,.tmp y,.tmp z]⟩
abbrev c4(a f x y z w:Nat):VOp:=⟨some a,none,.call (.func f) [.tmp x,.tmp y,.tmp z,.tmp w]⟩
attribute [go_sem] m l L f F x b B k i n o X e S s c0 c1 c2 c3 c4
end Z
open Z
def c_sclaw29_alive:VC:=(.seq (.ops [o 0 false]) (.seq (.ops [⟨(some 6),none,(.bld [(.int .i64 0),(.string ⟨#[]⟩),(.int .i64 0)] [(0,(1,(.const (.int .i64 1)))),(1,(1,
 (.const (.string ⟨#[65]⟩))))])⟩,⟨(some 1),none,(.alc 36 [(.int .i64 0),(.string ⟨#[]⟩),(.int .i64 0)])⟩,S 3 1 6]) (.seq (.ops [c0 8 28,⟨some 9,none,.bsl 3 1 1 [.int .i64 0] [(0,(1,
 (.const (.int .i64 1))))]⟩,⟨some 10,none,.bld [.slice none 0 0] [(0,(1,(.tmp 9)))]⟩,⟨some 11,none,.bsl 55 1 1 [.slice none 0 0] [(0,(1,(.tmp 10)))]⟩,c2 12 11 8 11,m 7 12,e 13 7 0,
 e 14 7 1,⟨some 2,none,.alc 30 [.slice none 0 0,.int .i64 0]⟩,S 2 2 13,m 3 14]) (.seq (.ops [c0 16 28,⟨some 17,none,.bsl 3 1 1 [.int .i64 0] [(0,(1,(.const (.int .i64 (-1)))))]⟩,
 ⟨some 18,none,.bld [.slice none 0 0] [(0,(1,(.tmp 17)))]⟩,⟨some 19,none,.bsl 55 1 1 [.slice none 0 0] [(0,(1,(.tmp 18)))]⟩,c2 20 11 16 19,m 15 20,e 21 15 0,e 22 15 1,⟨some 4,none,
 .alc 30 [.slice none 0 0,.int .i64 0]⟩,S 2 4 21,m 5 22]) (.seq (.par false (.one (m 23 3) (.one (b 24 .eql 23 0) (.one (m 25 24) (.one ⟨some 26,some (25,true),
 .mv (.tmp 5)⟩ (.one ⟨some 27,some (25,true),.bin .eql (.tmp 26) (.const (.int .i64 0))⟩ (.one ⟨some 28,none,
 .pick (.tmp 25) (.tmp 27) (.const (.bool false))⟩ (.one (m 29 28) (.one ⟨some 30,some (29,true),.ld true 2 (.tmp 2)⟩ (.one ⟨(some 31),(some (29,true)),(.call (.func 15) [(.tmp 30),
 (.const (.string ⟨#[]⟩)),(.const (.int .i64 300))])⟩ (.one ⟨some 32,some (29,true),.ld true 3 (.tmp 1)⟩ (.one ⟨some 33,some (29,true),.call (.func 14) [.tmp 31,
 .tmp 32]⟩ (.one ⟨some 34,none,.pick (.tmp 29) (.tmp 33) (.const (.bool false))⟩ (.one (m 35 34) (.one ⟨some 36,some (35,true),.ld true 2 (.tmp 4)⟩ (.one ⟨(some 37),(some (35,
 true)),(.call (.func 15) [(.tmp 36),(.const (.string ⟨#[]⟩)),(.const (.int .i64 300))])⟩ (.one ⟨some 38,some (35,true),.ld true 3 (.tmp 1)⟩ (.one ⟨some 39,some (35,true),
 .call (.func 14) [.tmp 37,.tmp 38]⟩ (.one ⟨some 40,none,.pick (.tmp 35) (.tmp 39) (.const (.bool false))⟩ (.one (m 0 40) .done)))))))))))))))))))) .ret)))))
theorem f_sclaw29_alive : compF Try.prog 9 = some (41, c_sclaw29_alive, [.tmp 0]) := by kernel_rfl
def c_choose_Of:VC:=(.seq (.ops [X 2 24 0,⟨some 4,none,.alc 30 [.slice none 0 0,.int .i64 0]⟩,
 i 5 0]) (.seq (.par true (.one (L 13 2 2) (.one (f 14 1 1 2) (.one (l 15 1 14) (.one (n 16 15) (.one (f 18 1 1 2) (.one (l 19 1 18) (.one (n 20 19) (.one (f 22 1 1 2) (.one (l 23 1 22) (.one (n 24 23) (.both (.one ⟨some 17,
 none,.mk 3 1 8 [.int .i64 0] (.tmp 16) (.tmp 16)⟩ (.both (.one ⟨some 21,none,.mk 53 1 24 [.slice none 0 0] (.tmp 20) (.tmp 20)⟩ (.both (.one ⟨some 25,none,
 .mk 3 1 8 [.int .i64 0] (.tmp 24) (.tmp 24)⟩ (.one ⟨some 26,none,.bld [.int .i64 0,.slice none 0 0,.slice none 0 0,.slice none 0 0,.slice none 0 0,.slice none 0 0,.slice none 0 0,
 .int .i64 0,.int .i64 0,.slice none 0 0] [(0,(2,(.tmp 13))),(4,(1,(.tmp 17))),(5,(1,(.tmp 21))),(6,(1,(.tmp 25)))]⟩ (.one ⟨some 6,none,.alc 75 [.int .i64 0,.slice none 0 0,
 .slice none 0 0,.slice none 0 0,.slice none 0 0,.slice none 0 0,.slice none 0 0,.int .i64 0,.int .i64 0,.slice none 0 0]⟩ (.one (S 10 6 26) .done)))) (.one ⟨some 6,none,
 .alc 75 [.int .i64 0,.slice none 0 0,.slice none 0 0,.slice none 0 0,.slice none 0 0,.slice none 0 0,.slice none 0 0,.int .i64 0,.int .i64 0,.slice none 0 0]⟩ (.one ⟨some 25,none,
 .mk 3 1 8 [.int .i64 0] (.tmp 24) (.tmp 24)⟩ (.one ⟨some 26,none,.bld [.int .i64 0,.slice none 0 0,.slice none 0 0,.slice none 0 0,.slice none 0 0,.slice none 0 0,.slice none 0 0,
 .int .i64 0,.int .i64 0,.slice none 0 0] [(0,(2,(.tmp 13))),(4,(1,(.tmp 17))),(5,(1,(.tmp 21))),(6,(1,(.tmp 25)))]⟩ (.one (S 10 6 26) .done)))))) (.both (.one ⟨some 25,none,
 .mk 3 1 8 [.int .i64 0] (.tmp 24) (.tmp 24)⟩ (.both (.one ⟨some 21,none,.mk 53 1 24 [.slice none 0 0] (.tmp 20) (.tmp 20)⟩ (.one ⟨some 26,none,.bld [.int .i64 0,.slice none 0 0,
 .slice none 0 0,.slice none 0 0,.slice none 0 0,.slice none 0 0,.slice none 0 0,.int .i64 0,.int .i64 0,.slice none 0 0] [(0,(2,(.tmp 13))),(4,(1,(.tmp 17))),(5,(1,(.tmp 21))),(6,
 (1,(.tmp 25)))]⟩ (.one ⟨some 6,none,.alc 75 [.int .i64 0,.slice none 0 0,.slice none 0 0,.slice none 0 0,.slice none 0 0,.slice none 0 0,.slice none 0 0,.int .i64 0,.int .i64 0,
 .slice none 0 0]⟩ (.one (S 10 6 26) .done)))) (.one ⟨some 6,none,.alc 75 [.int .i64 0,.slice none 0 0,.slice none 0 0,.slice none 0 0,.slice none 0 0,.slice none 0 0,
 .slice none 0 0,.int .i64 0,.int .i64 0,.slice none 0 0]⟩ (.one ⟨some 21,none,.mk 53 1 24 [.slice none 0 0] (.tmp 20) (.tmp 20)⟩ (.one ⟨some 26,none,.bld [.int .i64 0,
 .slice none 0 0,.slice none 0 0,.slice none 0 0,.slice none 0 0,.slice none 0 0,.slice none 0 0,.int .i64 0,.int .i64 0,.slice none 0 0] [(0,(2,(.tmp 13))),(4,(1,(.tmp 17))),(5,(1,
 (.tmp 21))),(6,(1,(.tmp 25)))]⟩ (.one (S 10 6 26) .done)))))) (.one ⟨some 6,none,.alc 75 [.int .i64 0,.slice none 0 0,.slice none 0 0,.slice none 0 0,.slice none 0 0,
 .slice none 0 0,.slice none 0 0,.int .i64 0,.int .i64 0,.slice none 0 0]⟩ (.both (.one ⟨some 21,none,.mk 53 1 24 [.slice none 0 0] (.tmp 20) (.tmp 20)⟩ (.one ⟨some 25,none,
 .mk 3 1 8 [.int .i64 0] (.tmp 24) (.tmp 24)⟩ (.one ⟨some 26,none,.bld [.int .i64 0,.slice none 0 0,.slice none 0 0,.slice none 0 0,.slice none 0 0,.slice none 0 0,.slice none 0 0,
 .int .i64 0,.int .i64 0,.slice none 0 0] [(0,(2,(.tmp 13))),(4,(1,(.tmp 17))),(5,(1,(.tmp 21))),(6,(1,(.tmp 25)))]⟩ (.one (S 10 6 26) .done)))) (.one ⟨some 25,none,
 .mk 3 1 8 [.int .i64 0] (.tmp 24) (.tmp 24)⟩ (.one ⟨some 21,none,.mk 53 1 24 [.slice none 0 0] (.tmp 20) (.tmp 20)⟩ (.one ⟨some 26,none,.bld [.int .i64 0,.slice none 0 0,
 .slice none 0 0,.slice none 0 0,.slice none 0 0,.slice none 0 0,.slice none 0 0,.int .i64 0,.int .i64 0,.slice none 0 0] [(0,(2,(.tmp 13))),(4,(1,(.tmp 17))),(5,(1,(.tmp 21))),(6,
 (1,(.tmp 25)))]⟩ (.one (S 10 6 26) .done))))))))) (.both (.one ⟨some 21,none,.mk 53 1 24 [.slice none 0 0] (.tmp 20) (.tmp 20)⟩ (.both (.one ⟨some 17,none,
 .mk 3 1 8 [.int .i64 0] (.tmp 16) (.tmp 16)⟩ (.both (.one ⟨some 25,none,.mk 3 1 8 [.int .i64 0] (.tmp 24) (.tmp 24)⟩ (.one ⟨some 26,none,.bld [.int .i64 0,.slice none 0 0,
 .slice none 0 0,.slice none 0 0,.slice none 0 0,.slice none 0 0,.slice none 0 0,.int .i64 0,.int .i64 0,.slice none 0 0] [(0,(2,(.tmp 13))),(4,(1,(.tmp 17))),(5,(1,(.tmp 21))),(6,
 (1,(.tmp 25)))]⟩ (.one ⟨some 6,none,.alc 75 [.int .i64 0,.slice none 0 0,.slice none 0 0,.slice none 0 0,.slice none 0 0,.slice none 0 0,.slice none 0 0,.int .i64 0,.int .i64 0,
 .slice none 0 0]⟩ (.one (S 10 6 26) .done)))) (.one ⟨some 6,none,.alc 75 [.int .i64 0,.slice none 0 0,.slice none 0 0,.slice none 0 0,.slice none 0 0,.slice none 0 0,
 .slice none 0 0,.int .i64 0,.int .i64 0,.slice none 0 0]⟩ (.one ⟨some 25,none,.mk 3 1 8 [.int .i64 0] (.tmp 24) (.tmp 24)⟩ (.one ⟨some 26,none,.bld [.int .i64 0,.slice none 0 0,
 .slice none 0 0,.slice none 0 0,.slice none 0 0,.slice none 0 0,.slice none 0 0,.int .i64 0,.int .i64 0,.slice none 0 0] [(0,(2,(.tmp 13))),(4,(1,(.tmp 17))),(5,(1,(.tmp 21))),(6,
 (1,(.tmp 25)))]⟩ (.one (S 10 6 26) .done)))))) (.both (.one ⟨some 25,none,.mk 3 1 8 [.int .i64 0] (.tmp 24) (.tmp 24)⟩ (.both (.one ⟨some 17,none,
 .mk 3 1 8 [.int .i64 0] (.tmp 16) (.tmp 16)⟩ (.one ⟨some 26,none,.bld [.int .i64 0,.slice none 0 0,.slice none 0 0,.slice none 0 0,.slice none 0 0,.slice none 0 0,.slice none 0 0,
 .int .i64 0,.int .i64 0,.slice none 0 0] [(0,(2,(.tmp 13))),(4,(1,(.tmp 17))),(5,(1,(.tmp 21))),(6,(1,(.tmp 25)))]⟩ (.one ⟨some 6,none,.alc 75 [.int .i64 0,.slice none 0 0,
 .slice none 0 0,.slice none 0 0,.slice none 0 0,.slice none 0 0,.slice none 0 0,.int .i64 0,.int .i64 0,.slice none 0 0]⟩ (.one (S 10 6 26) .done)))) (.one ⟨some 6,none,
 .alc 75 [.int .i64 0,.slice none 0 0,.slice none 0 0,.slice none 0 0,.slice none 0 0,.slice none 0 0,.slice none 0 0,.int .i64 0,.int .i64 0,.slice none 0 0]⟩ (.one ⟨some 17,none,
 .mk 3 1 8 [.int .i64 0] (.tmp 16) (.tmp 16)⟩ (.one ⟨some 26,none,.bld [.int .i64 0,.slice none 0 0,.slice none 0 0,.slice none 0 0,.slice none 0 0,.slice none 0 0,.slice none 0 0,
 .int .i64 0,.int .i64 0,.slice none 0 0] [(0,(2,(.tmp 13))),(4,(1,(.tmp 17))),(5,(1,(.tmp 21))),(6,(1,(.tmp 25)))]⟩ (.one (S 10 6 26) .done)))))) (.one ⟨some 6,none,
 .alc 75 [.int .i64 0,.slice none 0 0,.slice none 0 0,.slice none 0 0,.slice none 0 0,.slice none 0 0,.slice none 0 0,.int .i64 0,.int .i64 0,
 .slice none 0 0]⟩ (.both (.one ⟨some 17,none,.mk 3 1 8 [.int .i64 0] (.tmp 16) (.tmp 16)⟩ (.one ⟨some 25,none,.mk 3 1 8 [.int .i64 0] (.tmp 24) (.tmp 24)⟩ (.one ⟨some 26,none,
 .bld [.int .i64 0,.slice none 0 0,.slice none 0 0,.slice none 0 0,.slice none 0 0,.slice none 0 0,.slice none 0 0,.int .i64 0,.int .i64 0,.slice none 0 0] [(0,(2,(.tmp 13))),(4,(1,
 (.tmp 17))),(5,(1,(.tmp 21))),(6,(1,(.tmp 25)))]⟩ (.one (S 10 6 26) .done)))) (.one ⟨some 25,none,.mk 3 1 8 [.int .i64 0] (.tmp 24) (.tmp 24)⟩ (.one ⟨some 17,none,
 .mk 3 1 8 [.int .i64 0] (.tmp 16) (.tmp 16)⟩ (.one ⟨some 26,none,.bld [.int .i64 0,.slice none 0 0,.slice none 0 0,.slice none 0 0,.slice none 0 0,.slice none 0 0,.slice none 0 0,
 .int .i64 0,.int .i64 0,.slice none 0 0] [(0,(2,(.tmp 13))),(4,(1,(.tmp 17))),(5,(1,(.tmp 21))),(6,(1,(.tmp 25)))]⟩ (.one (S 10 6 26) .done))))))))) (.both (.one ⟨some 25,none,
 .mk 3 1 8 [.int .i64 0] (.tmp 24) (.tmp 24)⟩ (.both (.one ⟨some 17,none,.mk 3 1 8 [.int .i64 0] (.tmp 16) (.tmp 16)⟩ (.both (.one ⟨some 21,none,
 .mk 53 1 24 [.slice none 0 0] (.tmp 20) (.tmp 20)⟩ (.one ⟨some 26,none,.bld [.int .i64 0,.slice none 0 0,.slice none 0 0,.slice none 0 0,.slice none 0 0,.slice none 0 0,
 .slice none 0 0,.int .i64 0,.int .i64 0,.slice none 0 0] [(0,(2,(.tmp 13))),(4,(1,(.tmp 17))),(5,(1,(.tmp 21))),(6,(1,(.tmp 25)))]⟩ (.one ⟨some 6,none,.alc 75 [.int .i64 0,
 .slice none 0 0,.slice none 0 0,.slice none 0 0,.slice none 0 0,.slice none 0 0,.slice none 0 0,.int .i64 0,.int .i64 0,.slice none 0 0]⟩ (.one (S 10 6 26) .done)))) (.one ⟨some 6,
 none,.alc 75 [.int .i64 0,.slice none 0 0,.slice none 0 0,.slice none 0 0,.slice none 0 0,.slice none 0 0,.slice none 0 0,.int .i64 0,.int .i64 0,.slice none 0 0]⟩ (.one ⟨some 21,
 none,.mk 53 1 24 [.slice none 0 0] (.tmp 20) (.tmp 20)⟩ (.one ⟨some 26,none,.bld [.int .i64 0,.slice none 0 0,.slice none 0 0,.slice none 0 0,.slice none 0 0,.slice none 0 0,
 .slice none 0 0,.int .i64 0,.int .i64 0,.slice none 0 0] [(0,(2,(.tmp 13))),(4,(1,(.tmp 17))),(5,(1,(.tmp 21))),(6,(1,
 (.tmp 25)))]⟩ (.one (S 10 6 26) .done)))))) (.both (.one ⟨some 21,none,.mk 53 1 24 [.slice none 0 0] (.tmp 20) (.tmp 20)⟩ (.both (.one ⟨some 17,none,
 .mk 3 1 8 [.int .i64 0] (.tmp 16) (.tmp 16)⟩ (.one ⟨some 26,none,.bld [.int .i64 0,.slice none 0 0,.slice none 0 0,.slice none 0 0,.slice none 0 0,.slice none 0 0,.slice none 0 0,
 .int .i64 0,.int .i64 0,.slice none 0 0] [(0,(2,(.tmp 13))),(4,(1,(.tmp 17))),(5,(1,(.tmp 21))),(6,(1,(.tmp 25)))]⟩ (.one ⟨some 6,none,.alc 75 [.int .i64 0,.slice none 0 0,
 .slice none 0 0,.slice none 0 0,.slice none 0 0,.slice none 0 0,.slice none 0 0,.int .i64 0,.int .i64 0,.slice none 0 0]⟩ (.one (S 10 6 26) .done)))) (.one ⟨some 6,none,
 .alc 75 [.int .i64 0,.slice none 0 0,.slice none 0 0,.slice none 0 0,.slice none 0 0,.slice none 0 0,.slice none 0 0,.int .i64 0,.int .i64 0,.slice none 0 0]⟩ (.one ⟨some 17,none,
 .mk 3 1 8 [.int .i64 0] (.tmp 16) (.tmp 16)⟩ (.one ⟨some 26,none,.bld [.int .i64 0,.slice none 0 0,.slice none 0 0,.slice none 0 0,.slice none 0 0,.slice none 0 0,.slice none 0 0,
 .int .i64 0,.int .i64 0,.slice none 0 0] [(0,(2,(.tmp 13))),(4,(1,(.tmp 17))),(5,(1,(.tmp 21))),(6,(1,(.tmp 25)))]⟩ (.one (S 10 6 26) .done)))))) (.one ⟨some 6,none,
 .alc 75 [.int .i64 0,.slice none 0 0,.slice none 0 0,.slice none 0 0,.slice none 0 0,.slice none 0 0,.slice none 0 0,.int .i64 0,.int .i64 0,
 .slice none 0 0]⟩ (.both (.one ⟨some 17,none,.mk 3 1 8 [.int .i64 0] (.tmp 16) (.tmp 16)⟩ (.one ⟨some 21,none,.mk 53 1 24 [.slice none 0 0] (.tmp 20) (.tmp 20)⟩ (.one ⟨some 26,
 none,.bld [.int .i64 0,.slice none 0 0,.slice none 0 0,.slice none 0 0,.slice none 0 0,.slice none 0 0,.slice none 0 0,.int .i64 0,.int .i64 0,.slice none 0 0] [(0,(2,(.tmp 13))),
 (4,(1,(.tmp 17))),(5,(1,(.tmp 21))),(6,(1,(.tmp 25)))]⟩ (.one (S 10 6 26) .done)))) (.one ⟨some 21,none,.mk 53 1 24 [.slice none 0 0] (.tmp 20) (.tmp 20)⟩ (.one ⟨some 17,none,
 .mk 3 1 8 [.int .i64 0] (.tmp 16) (.tmp 16)⟩ (.one ⟨some 26,none,.bld [.int .i64 0,.slice none 0 0,.slice none 0 0,.slice none 0 0,.slice none 0 0,.slice none 0 0,.slice none 0 0,
 .int .i64 0,.int .i64 0,.slice none 0 0] [(0,(2,(.tmp 13))),(4,(1,(.tmp 17))),(5,(1,(.tmp 21))),(6,(1,(.tmp 25)))]⟩ (.one (S 10 6 26) .done))))))))) (.one ⟨some 6,none,
 .alc 75 [.int .i64 0,.slice none 0 0,.slice none 0 0,.slice none 0 0,.slice none 0 0,.slice none 0 0,.slice none 0 0,.int .i64 0,.int .i64 0,
 .slice none 0 0]⟩ (.both (.one ⟨some 17,none,.mk 3 1 8 [.int .i64 0] (.tmp 16) (.tmp 16)⟩ (.both (.one ⟨some 21,none,
 .mk 53 1 24 [.slice none 0 0] (.tmp 20) (.tmp 20)⟩ (.one ⟨some 25,none,.mk 3 1 8 [.int .i64 0] (.tmp 24) (.tmp 24)⟩ (.one ⟨some 26,none,.bld [.int .i64 0,.slice none 0 0,
 .slice none 0 0,.slice none 0 0,.slice none 0 0,.slice none 0 0,.slice none 0 0,.int .i64 0,.int .i64 0,.slice none 0 0] [(0,(2,(.tmp 13))),(4,(1,(.tmp 17))),(5,(1,(.tmp 21))),(6,
 (1,(.tmp 25)))]⟩ (.one (S 10 6 26) .done)))) (.one ⟨some 25,none,.mk 3 1 8 [.int .i64 0] (.tmp 24) (.tmp 24)⟩ (.one ⟨some 21,none,
 .mk 53 1 24 [.slice none 0 0] (.tmp 20) (.tmp 20)⟩ (.one ⟨some 26,none,.bld [.int .i64 0,.slice none 0 0,.slice none 0 0,.slice none 0 0,.slice none 0 0,.slice none 0 0,
 .slice none 0 0,.int .i64 0,.int .i64 0,.slice none 0 0] [(0,(2,(.tmp 13))),(4,(1,(.tmp 17))),(5,(1,(.tmp 21))),(6,(1,
 (.tmp 25)))]⟩ (.one (S 10 6 26) .done)))))) (.both (.one ⟨some 21,none,.mk 53 1 24 [.slice none 0 0] (.tmp 20) (.tmp 20)⟩ (.both (.one ⟨some 17,none,
 .mk 3 1 8 [.int .i64 0] (.tmp 16) (.tmp 16)⟩ (.one ⟨some 25,none,.mk 3 1 8 [.int .i64 0] (.tmp 24) (.tmp 24)⟩ (.one ⟨some 26,none,.bld [.int .i64 0,.slice none 0 0,.slice none 0 0,
 .slice none 0 0,.slice none 0 0,.slice none 0 0,.slice none 0 0,.int .i64 0,.int .i64 0,.slice none 0 0] [(0,(2,(.tmp 13))),(4,(1,(.tmp 17))),(5,(1,(.tmp 21))),(6,(1,
 (.tmp 25)))]⟩ (.one (S 10 6 26) .done)))) (.one ⟨some 25,none,.mk 3 1 8 [.int .i64 0] (.tmp 24) (.tmp 24)⟩ (.one ⟨some 17,none,
 .mk 3 1 8 [.int .i64 0] (.tmp 16) (.tmp 16)⟩ (.one ⟨some 26,none,.bld [.int .i64 0,.slice none 0 0,.slice none 0 0,.slice none 0 0,.slice none 0 0,.slice none 0 0,.slice none 0 0,
 .int .i64 0,.int .i64 0,.slice none 0 0] [(0,(2,(.tmp 13))),(4,(1,(.tmp 17))),(5,(1,(.tmp 21))),(6,(1,(.tmp 25)))]⟩ (.one (S 10 6 26) .done)))))) (.one ⟨some 25,none,
 .mk 3 1 8 [.int .i64 0] (.tmp 24) (.tmp 24)⟩ (.both (.one ⟨some 17,none,.mk 3 1 8 [.int .i64 0] (.tmp 16) (.tmp 16)⟩ (.one ⟨some 21,none,
 .mk 53 1 24 [.slice none 0 0] (.tmp 20) (.tmp 20)⟩ (.one ⟨some 26,none,.bld [.int .i64 0,.slice none 0 0,.slice none 0 0,.slice none 0 0,.slice none 0 0,.slice none 0 0,
 .slice none 0 0,.int .i64 0,.int .i64 0,.slice none 0 0] [(0,(2,(.tmp 13))),(4,(1,(.tmp 17))),(5,(1,(.tmp 21))),(6,(1,(.tmp 25)))]⟩ (.one (S 10 6 26) .done)))) (.one ⟨some 21,none,
 .mk 53 1 24 [.slice none 0 0] (.tmp 20) (.tmp 20)⟩ (.one ⟨some 17,none,.mk 3 1 8 [.int .i64 0] (.tmp 16) (.tmp 16)⟩ (.one ⟨some 26,none,.bld [.int .i64 0,.slice none 0 0,
 .slice none 0 0,.slice none 0 0,.slice none 0 0,.slice none 0 0,.slice none 0 0,.int .i64 0,.int .i64 0,.slice none 0 0] [(0,(2,(.tmp 13))),(4,(1,(.tmp 17))),(5,(1,(.tmp 21))),(6,
 (1,(.tmp 25)))]⟩ (.one (S 10 6 26) .done))))))))))))))))))))))) (.seq (.ops [f 27 0 1 2,l 28 1 27,m 7 28]) (.seq (.seq (.ops [f 29 1 1 2,l 30 1 29,n 31 30,
 i 32 0]) (.block 0 (.loop (.seq (.ops [B 33 .lss 32 31]) (.seq (.cond (.tmp 33) .skip (.exit 0)) (.seq (.block 1 (.seq (.ops [m 34 32,m 8 34]) (.seq (.ops [f 35 6 1 6,l 36 1 35,
 m 37 8,m 38 7,x 39 1 36 37,s 1 39 38]) (.ops [m 40 7,m 41 1,m 42 8,x 43 1 41 42,L 44 1 43,c1 45 30 44,B 46 .add 40 45,m 7 46])))) (.ops [b 47 .add 32 1,
 m 32 47]))))))) (.seq (.ops [m 48 7,f 49 7 1 6,s 1 49 48]) (.seq (.ops [m 50 7,f 51 1 1 2,l 52 1 51,n 53 52,b 54 .sub 53 1,B 55 .add 50 54,m 7 55]) (.seq (.seq (.ops [m 56 7,
 b 57 .gtr 56 32768]) (.cond (.tmp 57) (.seq (.ops [⟨some 58,none,.bld [.slice none 0 0,.int .i64 0] []⟩,S 2 4 58,i 5 2]) .ret) .skip)) (.seq (.ops [f 59 1 1 2,l 60 1 59,n 61 60,
 b 62 .sub 61 1,m 9 62]) (.seq (.ops [m 63 9,m 64 1,m 65 9,x 66 1 64 65,L 67 1 66,c3 68 31 6 63 67]) (.seq (.seq (.ops [i 10 0]) (.block 2 (.loop (.seq (.seq (.ops [m 69 10,m 70 9,
 B 71 .lss 69 70]) (.cond (.tmp 71) .skip (.exit 2))) (.seq (.block 3 (.seq (.ops [m 74 10,m 75 1,m 76 10,x 77 1 75 76,L 78 1 77,c3 79 31 6 74 78]) (.seq (.ops [f 80 2 1 6,
 l 81 1 80,n 82 81,b 83 .gtr 82 16384]) (.cond (.tmp 83) (.seq (.ops [⟨some 84,none,.bld [.slice none 0 0,.int .i64 0] []⟩,S 2 4 84,i 5 2]) .ret) .skip)))) (.ops [m 72 10,
 b 73 .add 72 1,m 10 73])))))) (.seq (.seq (.ops [f 85 2 1 6,l 86 1 85,n 87 86,b 88 .gtr 87 16384]) (.cond (.tmp 88) (.seq (.ops [⟨some 89,none,.bld [.slice none 0 0,
 .int .i64 0] []⟩,S 2 4 89,i 5 2]) .ret) .skip)) (.seq (.ops [c1 91 32 6,m 90 91,e 92 90 0,e 93 90 1,m 11 92,m 12 93]) (.seq (.seq (.ops [m 94 12,
 b 95 .neq 94 0]) (.cond (.tmp 95) (.seq (.ops [⟨some 96,none,.bld [.slice none 0 0,.int .i64 0] []⟩,S 2 4 96,i 5 2]) .ret) .skip)) (.seq (.ops [m 97 11,m 98 7,⟨some 99,none,
 .bld [.slice none 0 0,.int .i64 0] [(0,(1,(.tmp 97))),(1,(1,(.tmp 98)))]⟩,S 2 4 99,i 5 0]) .ret))))))))))))))
theorem f_choose_Of : compF Try.prog 11 = some (100, c_choose_Of, [(.cell 4 true 2), (.tmp 5)]) := by kernel_rfl
def c_scref24_Run:VC:=(.seq (.ops [X 3 24 0,⟨(some 6),none,(.alc 36 [(.int .i64 0),(.string ⟨#[]⟩),(.int .i64 0)])⟩]) (.seq (.seq (.ops [f 8 1 1 3,l 9 1 8,n 10 9,
 b 11 .eql 10 0]) (.cond (.tmp 11) (.seq (.ops [⟨(some 12),none,(.bld [(.int .i64 0),(.string ⟨#[]⟩),(.int .i64 0)] [])⟩,S 3 6 12]) .ret) .skip)) (.seq (.seq (.ops [m 13 2,
 b 14 .lss 13 0]) (.cond (.tmp 14) (.ops [i 2 0]) .skip)) (.seq (.par false (.one (L 15 2 3) (.one (m 16 1) (.one (m 17 2) (.one (f 18 0 1 3) (.one (l 19 1 18) (.one ⟨some 20,none,
 .mk 45 1 4 [.int .u32 0] (.tmp 19) (.tmp 19)⟩ (.one ⟨(some 21),none,(.bld [(.int .i64 0),(.slice none 0 0),(.string ⟨#[]⟩),(.int .i64 0),(.slice none 0 0),(.slice none 0 0),
 (.int .i64 0),(.int .i64 0),(.int .i64 0)] [(0,(2,(.tmp 15))),(2,(1,(.tmp 16))),(3,(1,(.tmp 17))),(4,(1,
 (.tmp 20)))])⟩ (.one (X 22 83 21) (.one (m 7 22) .done)))))))))) (.seq (.ops [m 23 7,f 24 1 1 3,l 25 1 24,n 26 25,b 27 .sub 26 1,c2 28 33 23 27]) (.seq (.seq (.ops [m 29 7,k 30 29,
 f 31 8 1 30,l 32 1 31,b 33 .eql 32 0]) (.cond (.tmp 33) (.ops [m 34 7,k 35 34,f 36 8 1 35,⟨none,none,.sto false 1 (.tmp 36) (.const (.int .i64 1))⟩]) .skip)) (.seq (.ops [m 37 7,
 k 38 37,f 39 8 1 38,l 40 1 39,m 41 7,k 42 41,f 43 5 1 42,l 44 1 43,⟨some 45,none,.see .b2s [.tmp 44]⟩,m 46 7,k 47 46,f 48 7 1 47,l 49 1 48,⟨(some 50),none,(.bld [(.int .i64 0),
 (.string ⟨#[]⟩),(.int .i64 0)] [(0,(1,(.tmp 40))),(1,(1,(.tmp 45))),(2,(1,(.tmp 49)))])⟩,S 3 6 50]) .ret)))))))
theorem f_scref24_Run : compF Try.prog 13 = some (51, c_scref24_Run, [(.cell 6 true 3)]) := by kernel_rfl
def c_scref10_Ends:VC:=(.seq (.ops [X 2 36 0,X 3 36 1,o 4 false]) (.seq (.ops [f 5 0 1 2,l 6 1 5,f 7 0 1 3,l 8 1 7,B 9 .eql 6 8,m 10 9,⟨some 11,some (10,true),
 .fad 1 false 1 (.tmp 2)⟩,⟨some 12,some (10,true),.ld false 1 (.tmp 11)⟩,⟨some 13,some (10,true),.fad 1 false 1 (.tmp 3)⟩,⟨some 14,some (10,true),.ld false 1 (.tmp 13)⟩,⟨some 15,
 some (10,true),.bin .eql (.tmp 12) (.tmp 14)⟩,⟨some 16,none,.pick (.tmp 10) (.tmp 15) (.const (.bool false))⟩,m 4 16]) .ret))
theorem f_scref10_Ends : compF Try.prog 14 = some (17, c_scref10_Ends, [.tmp 4]) := by kernel_rfl
def c_scref10_Run:VC:=(.seq (.ops [X 3 30 0,⟨(some 6),none,(.alc 36 [(.int .i64 0),(.string ⟨#[]⟩),
 (.int .i64 0)])⟩]) (.seq (.par false (.one (L 8 2 3) (.one (m 9 1) (.one (L 10 2 3) (.one (c1 11 35 10) (.one (m 12 2) (.one (c4 13 34 8 9 11 12) (.one ⟨(some 7),none,
 (.alc 87 [(.int .i64 0),(.int .u32 0),(.int .u32 0),(.int .u32 0),(.int .u32 0),(.int .u32 0),(.int .u32 0),(.int .u32 0),(.int .u32 0),(.int .u32 0),(.int .u32 0),(.int .u32 0),
 (.int .u32 0),(.int .u32 0),(.int .u32 0),(.int .u32 0),(.int .u32 0),(.slice none 0 0),(.int .i64 0),(.string ⟨#[]⟩),(.int .i64 0),
 (.int .i64 0)])⟩ (.one (S 22 7 13) .done))))))))) (.seq (.seq (.ops [f 14 21 1 7,l 15 1 14,b 16 .eql 15 0]) (.cond (.tmp 16) (.ops [f 17 21 1 7,⟨none,none,
 .sto false 1 (.tmp 17) (.const (.int .i64 5))⟩]) .skip)) (.seq (.ops [f 18 21 1 7,l 19 1 18,f 20 19 1 7,l 21 1 20,f 22 20 1 7,l 23 1 22,⟨(some 24),none,(.bld [(.int .i64 0),
 (.string ⟨#[]⟩),(.int .i64 0)] [(0,(1,(.tmp 19))),(1,(1,(.tmp 21))),(2,(1,(.tmp 23)))])⟩,S 3 6 24]) .ret))))
theorem f_scref10_Run : compF Try.prog 15 = some (25, c_scref10_Run, [(.cell 6 true 3)]) := by kernel_rfl
def c_scref29_Fuel:VC:=(.seq (.ops [X 3 24 0,
 i 6 0]) (.seq (.par false (.one (m 7 2) (.one (b 8 .add 7 1) (.one (f 9 0 1 3) (.one (l 10 1 9) (.one (m 11 1) (.one (c1 12 18 11) (.one (B 13 .add 10 12) (.one ⟨some 14,none,
 .bin .mul (.const (.int .i64 8)) (.tmp 13)⟩ (.one ⟨some 15,none,.bin .add (.const (.int .i64 64)) (.tmp 14)⟩ (.one (B 16 .mul 8 15) (.one (m 6 16) .done)))))))))))) .ret))
theorem f_scref29_Fuel : compF Try.prog 16 = some (17, c_scref29_Fuel, [.tmp 6]) := by kernel_rfl
def c_scref29_Words:VC:=(.seq (.ops [i 2 0]) (.seq (.ops [i 3 0]) (.seq (.seq (.ops [i 4 0]) (.block 0 (.loop (.seq (.seq (.ops [m 5 4,m 6 0,n 7 6,
 B 8 .lss 5 7]) (.cond (.tmp 8) .skip (.exit 0))) (.seq (.block 1 (.ops [m 11 3,m 12 0,m 13 4,x 14 1 12 13,L 15 1 14,c1 16 36 15,B 17 .add 11 16,m 3 17])) (.ops [m 9 4,
 b 10 .add 9 1,m 4 10])))))) (.seq (.ops [m 18 3,m 2 18]) .ret))))
theorem f_scref29_Words : compF Try.prog 18 = some (19, c_scref29_Words, [.tmp 2]) := by kernel_rfl
def c_scref24_Right:VC:=(.seq (.ops [X 1 24 0,o 2 false]) (.seq (.seq (.ops [f 4 0 1 1,l 5 1 4,b 6 .lss 5 0,m 7 6,⟨some 8,some (7,false),.fad 0 false 1 (.tmp 1)⟩,⟨some 9,some (7,
 false),.ld false 1 (.tmp 8)⟩,⟨some 10,some (7,false),.bin .gtr (.tmp 9) (.const (.int .i64 1048576))⟩,⟨some 11,none,.pick (.tmp 7) (.const (.bool true)) (.tmp 10)⟩,m 12 11,
 ⟨some 13,some (12,false),.fad 1 false 1 (.tmp 1)⟩,⟨some 14,some (12,false),.ld false 1 (.tmp 13)⟩,⟨some 15,some (12,false),.len (.tmp 14)⟩,⟨some 16,some (12,false),
 .bin .eql (.tmp 15) (.const (.int .i64 0))⟩,⟨some 17,none,
 .pick (.tmp 12) (.const (.bool true)) (.tmp 16)⟩]) (.cond (.tmp 17) (.seq (.ops [o 2 false]) .ret) .skip)) (.seq (.seq (.ops [i 3 0]) (.block 0 (.loop (.seq (.seq (.ops [m 18 3,
 f 19 1 1 1,l 20 1 19,n 21 20,B 22 .lss 18 21]) (.cond (.tmp 22) .skip (.exit 0))) (.seq (.block 1 (.seq (.ops [f 25 1 1 1,l 26 1 25,m 27 3,x 28 2 26 27,L 29 2 28,m 30 3,f 31 0 1 1,
 l 32 1 31,c3 33 37 29 30 32,⟨some 34,none,.un .not (.tmp 33)⟩]) (.cond (.tmp 34) (.seq (.ops [o 2 false]) .ret) .skip))) (.ops [m 23 3,b 24 .add 23 1,
 m 3 24])))))) (.seq (.ops [o 2 true]) .ret))))
theorem f_scref24_Right : compF Try.prog 19 = some (35, c_scref24_Right, [.tmp 2]) := by kernel_rfl
def c_live_Of:VC:=(.seq (.ops [X 1 52 0,⟨some 2,none,.alc 63 [.slice none 0 0,.slice none 0 0]⟩]) (.seq (.ops [L 10 2 1,⟨some 11,none,.callA (.func 40) [.tmp 10]⟩,
 m 3 11]) (.seq (.block 0 (.loop (.seq (.seq (.ops [m 12 3,k 13 12,f 14 6 1 13,l 15 1 14,n 16 15,b 17 .gtr 16 0]) (.cond (.tmp 17) .skip (.exit 0))) (.block 1 (.seq (.ops [m 18 3,
 k 19 18,f 20 6 1 19,l 21 1 20,n 22 21,b 23 .sub 22 1,m 4 23]) (.seq (.ops [m 24 3,k 25 24,f 26 6 1 25,l 27 1 26,m 28 4,x 29 1 27 28,l 30 1 29,m 5 30]) (.seq (.ops [m 31 3,m 32 3,
 k 33 32,f 34 6 1 33,l 35 1 34,m 36 4,⟨some 37,none,.sl 1 (.tmp 35) none (some (.tmp 36))⟩,k 38 31,f 39 6 1 38,s 1 39 37]) (.seq (.ops [m 40 3,k 41 40,f 42 7 1 41,l 43 1 42,m 44 5,
 x 45 1 43 44,⟨none,none,.sto false 1 (.tmp 45) (.const (.bool false))⟩]) (.seq (.ops [m 46 3,m 47 5,c2 48 41 46 47]) (.cond (.tmp 48) (.seq (.ops [m 49 3,k 50 49,f 51 1 1 50,
 l 52 1 51,m 53 5,x 54 1 52 53,l 55 1 54,n 56 55,
 i 57 0]) (.block 2 (.loop (.seq (.ops [B 58 .lss 57 56]) (.seq (.cond (.tmp 58) .skip (.exit 2)) (.seq (.block 3 (.seq (.ops [x 59 1 55 57,l 60 1 59,m 7 60]) (.ops [m 61 3,m 62 7,
 c2 63 42 61 62]))) (.ops [b 64 .add 57 1,m 57 64]))))))) .skip)))))))))) (.seq (.ops [⟨some 8,none,.alc 63 [.slice none 0 0,.slice none 0 0]⟩]) (.seq (.seq (.ops [f 65 1 1 1,
 l 66 1 65,n 67 66,i 68 0]) (.block 4 (.loop (.seq (.ops [B 69 .lss 68 67]) (.seq (.cond (.tmp 69) .skip (.exit 4)) (.seq (.block 5 (.seq (.ops [m 70 68,
 m 9 70]) (.seq (.par false (.one (f 71 0 1 8) (.one (m 73 3) (.one (k 74 73) (.one (f 75 4 1 74) (.one (l 76 1 75) (.one (m 77 9) (.one (x 78 1 76 77) (.one (l 79 1 78) (.one (f 80 0 1 1) (.one (l 81 1 80) (.both (.one (l 72 1 71) (.one ⟨some 82,
 none,.callM true (.func 43) [.tmp 79,.tmp 81]⟩ (.one ⟨some 83,none,.bsl 67 1 1 [.slice none 0 0] [(0,(1,(.tmp 82)))]⟩ (.one ⟨some 84,none,
 .app 67 1 24 (.tmp 72) (.tmp 83)⟩ (.one (f 85 0 1 8) (.one (s 1 85 84) .done)))))) (.one ⟨some 82,none,.callM true (.func 43) [.tmp 79,.tmp 81]⟩ (.one (l 72 1 71) (.one ⟨some 83,
 none,.bsl 67 1 1 [.slice none 0 0] [(0,(1,(.tmp 82)))]⟩ (.one ⟨some 84,none,
 .app 67 1 24 (.tmp 72) (.tmp 83)⟩ (.one (f 85 0 1 8) (.one (s 1 85 84) .done)))))))))))))))))) (.par false (.one (f 86 1 1 8) (.one (m 88 3) (.one (k 89 88) (.one (f 90 5 1 89) (.one (l 91 1 90) (.one (m 92 9) (.one (x 93 1 91 92) (.one (l 94 1 93) (.one (f 95 0 1 1) (.one (l 96 1 95) (.both (.one (l 87 1 86) (.one ⟨some 97,
 none,.callM true (.func 43) [.tmp 94,.tmp 96]⟩ (.one ⟨some 98,none,.bsl 67 1 1 [.slice none 0 0] [(0,(1,(.tmp 97)))]⟩ (.one ⟨some 99,none,
 .app 67 1 24 (.tmp 87) (.tmp 98)⟩ (.one (f 100 1 1 8) (.one (s 1 100 99) .done)))))) (.one ⟨some 97,none,.callM true (.func 43) [.tmp 94,.tmp 96]⟩ (.one (l 87 1 86) (.one ⟨some 98,
 none,.bsl 67 1 1 [.slice none 0 0] [(0,(1,(.tmp 97)))]⟩ (.one ⟨some 99,none,
 .app 67 1 24 (.tmp 87) (.tmp 98)⟩ (.one (f 100 1 1 8) (.one (s 1 100 99) .done))))))))))))))))))))) (.ops [b 101 .add 68 1,m 68 101]))))))) (.seq (.ops [L 102 2 8,
 S 2 2 102]) .ret))))))
theorem f_live_Of : compF Try.prog 22 = some (103, c_live_Of, [(.cell 2 true 2)]) := by kernel_rfl
def c_sclaw29_plain:VC:=(.seq (.ops [⟨some 0,none,.alc 24 [.int .i64 0,.slice none 0 0]⟩]) (.seq (.ops [⟨some 1,none,.bld [.int .i64 0,.int .i64 0,.int .i64 0,.int .i64 0,
 .int .i64 0,.int .i64 0,.int .i64 0,.int .u32 0] [(0,(1,(.const (.int .i64 1)))),(7,(1,(.const (.int .u32 65))))]⟩,⟨some 2,none,.bld [.int .i64 0,.int .i64 0,.int .i64 0,
 .int .i64 0,.int .i64 0,.int .i64 0,.int .i64 0,.int .u32 0] [(0,(1,(.const (.int .i64 9))))]⟩,⟨some 3,none,.bsl 47 8 2 [.int .i64 0,.int .i64 0,.int .i64 0,.int .i64 0,
 .int .i64 0,.int .i64 0,.int .i64 0,.int .u32 0,.int .i64 0,.int .i64 0,.int .i64 0,.int .i64 0,.int .i64 0,.int .i64 0,.int .i64 0,.int .u32 0] [(0,(8,(.tmp 1))),(8,(8,
 (.tmp 2)))]⟩,⟨some 4,none,.bld [.slice none 0 0,.int .i64 0,.int .i64 0,.int .i64 0,.int .i64 0] [(0,(1,(.tmp 3))),(1,(1,(.const (.int .i64 3))))]⟩,⟨some 5,none,
 .bsl 49 5 1 [.slice none 0 0,.int .i64 0,.int .i64 0,.int .i64 0,.int .i64 0] [(0,(5,(.tmp 4)))]⟩,⟨some 6,none,.bld [.int .i64 0,.slice none 0 0] [(0,(1,(.const (.int .i64 1)))),
 (1,(1,(.tmp 5)))]⟩,⟨some 7,none,.bsl 52 2 1 [.int .i64 0,.slice none 0 0] [(0,(2,(.tmp 6)))]⟩,⟨some 8,none,.bld [.int .i64 0,.slice none 0 0] [(1,(1,(.tmp 7)))]⟩,S 2 0 8]) .ret))
theorem f_sclaw29_plain : compF Try.prog 28 = some (9, c_sclaw29_plain, [(.cell 0 true 2)]) := by kernel_rfl
def c_alloc_Words:VC:=(.seq (.ops [X 1 55 0,i 2 0]) (.seq (.ops [i 3 0]) (.seq (.seq (.ops [f 6 0 1 1,l 7 1 6,n 8 7,
 i 9 0]) (.block 0 (.loop (.seq (.ops [B 10 .lss 9 8]) (.seq (.cond (.tmp 10) .skip (.exit 0)) (.seq (.block 1 (.seq (.ops [x 11 1 7 9,l 12 1 11,m 5 12]) (.seq (.ops [m 13 5,
 b 14 .lss 13 0]) (.cond (.tmp 14) (.ops [m 15 3,m 16 5,⟨some 17,none,.un .neg (.tmp 16)⟩,⟨some 18,none,.pur .mx [.tmp 15,.tmp 17]⟩,m 3 18]) .skip)))) (.ops [b 19 .add 9 1,
 m 9 19]))))))) (.seq (.ops [m 20 3,m 2 20]) .ret))))
theorem f_alloc_Words : compF Try.prog 30 = some (21, c_alloc_Words, [.tmp 2]) := by kernel_rfl
def c_choose_writer_function:VC:=(.seq (.ops [X 5 55 2]) (.seq (.ops [m 14 0,k 15 14,F 16 0 2 15,f 17 1 1 16,l 18 1 17,m 19 1,x 20 2 18 19,L 21 2 20,⟨some 6,none,
 .alc 52 [.int .i64 0,.slice none 0 0]⟩,
 S 2 6 21]) (.seq (.par false (.one (m 22 0) (.one (m 23 0) (.one (m 24 1) (.one (f 25 0 1 5) (.one (k 27 22) (.one (f 28 8 1 27) (.both (.one (l 26 1 25) (.one (s 1 28 24) (.one (k 29 23) (.one (f 30 9 1 29) (.one (s 1 30 26) .done))))) (.one (s 1 28 24) (.one (l 26 1 25) (.one (k 29 23) (.one (f 30 9 1 29) (.one (s 1 30 26) .done))))))))))))) (.seq (.ops [m 31 0,
 k 32 31,f 33 4 1 32,l 34 1 33,m 35 1,m 36 0,k 37 36,f 38 2 1 37,l 39 1 38,n 40 39,x 41 1 34 35,s 1 41 40]) (.seq (.seq (.ops [m 42 1,m 43 0,k 44 43,F 45 0 2 44,f 46 1 1 45,
 l 47 1 46,n 48 47,b 49 .sub 48 1,B 50 .neq 42 49]) (.cond (.tmp 50) (.ops [m 51 0,m 52 0,k 53 52,f 54 7 1 53,l 55 1 54,m 56 1,B 57 .add 55 56,⟨some 58,none,
 .callM false (.func 50) [(.tmp 51),(.const (.int .i64 17)),(.const (.int .i64 12)),(.const (.int .i64 0)),(.tmp 57)]⟩]) .skip)) (.seq (.seq (.ops [L 59 2 6,c1 60 22 59,⟨some 61,
 none,.fld 0 false 1 (.tmp 60)⟩,⟨some 62,none,.idx 1 (.tmp 61) (.const (.int .i64 0))⟩,l 63 1 62,n 64 63,
 i 65 0]) (.block 0 (.loop (.seq (.ops [B 66 .lss 65 64]) (.seq (.cond (.tmp 66) .skip (.exit 0)) (.seq (.block 1 (.seq (.ops [m 67 65,x 68 1 63 65,l 69 1 68,m 7 67,
 m 8 69]) (.seq (.seq (.ops [m 70 8,⟨some 71,none,.un .not (.tmp 70)⟩]) (.cond (.tmp 71) (.exit 1) .skip)) (.seq (.ops [m 72 0,k 73 72,f 74 9 1 73,l 75 1 74,m 76 7,x 77 1 75 76,
 l 78 1 77,m 9 78]) (.seq (.ops [m 79 9,b 80 .gtr 79 0]) (.cond (.tmp 80) (.ops [m 81 0,m 82 9,⟨some 83,none,.callM false (.func 50) [(.tmp 81),(.const (.int .i64 1)),(.tmp 82),
 (.const (.int .i64 0)),(.const (.int .i64 0))]⟩]) (.ops [m 84 0,m 85 7,⟨some 86,none,.callM false (.func 51) [(.tmp 84),(.tmp 85),
 (.const (.int .i64 0))]⟩]))))))) (.ops [b 87 .add 65 1,
 m 65 87]))))))) (.seq (.par false (.one (m 88 0) (.one (k 89 88) (.one (f 90 5 1 89) (.one (l 91 1 90) (.one (m 92 1) (.one (f 93 1 1 6) (.one (l 94 1 93) (.one (n 95 94) (.one ⟨some 96,
 none,.mk 3 1 8 [.int .i64 0] (.tmp 95) (.tmp 95)⟩ (.one (x 97 1 91 92) (.one (s 1 97 96) .done)))))))))))) (.seq (.ops [f 98 1 1 6,l 99 1 98,n 100 99,
 i 101 0]) (.block 2 (.loop (.seq (.ops [B 102 .lss 101 100]) (.seq (.cond (.tmp 102) .skip (.exit 2)) (.seq (.block 3 (.seq (.ops [m 103 101,x 104 5 99 101,L 105 5 104,⟨some 11,
 none,.alc 49 [.slice none 0 0,.int .i64 0,.int .i64 0,.int .i64 0,.int .i64 0]⟩,m 10 103,S 5 11 105]) (.seq (.ops [m 106 0,k 107 106,f 108 5 1 107,l 109 1 108,m 110 1,
 x 111 1 109 110,l 112 1 111,m 113 10,m 114 0,k 115 114,f 116 2 1 115,l 117 1 116,n 118 117,x 119 1 112 113,s 1 119 118]) (.seq (.seq (.ops [f 120 0 1 11,l 121 1 120,n 122 121,
 i 123 0]) (.block 4 (.loop (.seq (.ops [B 124 .lss 123 122]) (.seq (.cond (.tmp 124) .skip (.exit 4)) (.seq (.block 5 (.seq (.ops [x 125 8 121 123,L 126 8 125,⟨some 13,none,
 .alc 47 [.int .i64 0,.int .i64 0,.int .i64 0,.int .i64 0,.int .i64 0,.int .i64 0,.int .i64 0,.int .u32 0]⟩,S 8 13 126]) (.ops [m 127 0,L 128 8 13,
 c2 129 52 127 128]))) (.ops [b 130 .add 123 1,m 123 130]))))))) (.ops [m 131 0,L 132 5 11,m 133 10,b 134 .add 133 1,c3 135 53 131 132 134]))))) (.ops [b 136 .add 101 1,
 m 101 136]))))))))))))))
theorem f_choose_writer_function : compF Try.prog 31 = some (137, c_choose_writer_function, []) := by kernel_rfl
def c_choose_writer_finish:VC:=(.seq (.ops [⟨some 2,none,.mv (.const (.slice none 0 0))⟩,i 3 0]) (.seq (.seq (.ops [m 12 0,k 13 12,f 14 3 1 13,l 15 1 14,n 16 15,
 i 17 0]) (.block 0 (.loop (.seq (.ops [B 18 .lss 17 16]) (.seq (.cond (.tmp 18) .skip (.exit 0)) (.seq (.block 1 (.seq (.ops [x 19 3 15 17,L 20 3 19,⟨some 5,none,
 .alc 113 [.int .i64 0,.int .i64 0,.int .i64 0]⟩,S 3 5 20]) (.seq (.ops [m 21 0,k 22 21,f 23 4 1 22,l 24 1 23,f 25 1 1 5,l 26 1 25,x 27 1 24 26,l 28 1 27,
 m 6 28]) (.seq (.seq (.ops [f 29 2 1 5,l 30 1 29,b 31 .geq 30 0]) (.cond (.tmp 31) (.ops [m 32 0,k 33 32,f 34 5 1 33,l 35 1 34,f 36 1 1 5,l 37 1 36,x 38 1 35 37,l 39 1 38,
 f 40 2 1 5,l 41 1 40,x 42 1 39 41,l 43 1 42,m 6 43]) .skip)) (.ops [m 44 0,k 45 44,f 46 2 1 45,l 47 1 46,f 48 0 1 5,l 49 1 48,m 50 6,x 51 4 47 49,f 52 3 1 51,
 s 1 52 50]))))) (.ops [b 53 .add 17 1,m 17 53]))))))) (.seq (.ops [m 54 0,k 55 54,f 56 2 1 55,l 57 1 56,n 58 57,⟨some 59,none,.mk 45 1 4 [.int .u32 0] (.tmp 58) (.tmp 58)⟩,
 m 7 59]) (.seq (.seq (.ops [m 60 0,k 61 60,f 62 2 1 61,l 63 1 62,n 64 63,
 i 65 0]) (.block 2 (.loop (.seq (.ops [B 66 .lss 65 64]) (.seq (.cond (.tmp 66) .skip (.exit 2)) (.seq (.block 3 (.seq (.ops [m 67 65,x 68 4 63 65,L 69 4 68,⟨some 9,none,
 .alc 115 [.int .i64 0,.int .i64 0,.int .i64 0,.int .i64 0]⟩,m 8 67,S 4 9 69]) (.seq (.ops [L 71 4 9,c1 72 54 71,m 70 72,e 73 70 0,e 74 70 1,m 10 73,
 m 11 74]) (.seq (.seq (.ops [m 75 11,b 76 .neq 75 0]) (.cond (.tmp 76) (.seq (.ops [m 77 11,⟨some 2,none,.mv (.const (.slice none 0 0))⟩,m 3 77]) .ret) .skip)) (.ops [m 78 7,
 m 79 8,m 80 10,x 81 1 78 79,s 1 81 80]))))) (.ops [b 82 .add 65 1,m 65 82]))))))) (.seq (.ops [m 83 7,m 2 83,i 3 0]) .ret)))))
theorem f_choose_writer_finish : compF Try.prog 32 = some (84, c_choose_writer_finish, [.tmp 2,.tmp 3]) := by kernel_rfl
def c_scref24_runner_fun:VC:=(.seq (.ops [m 9 0,k 10 9,F 11 0 2 10,f 12 1 1 11,l 13 1 12,m 14 1,x 15 2 13 14,L 16 2 15,⟨some 4,none,.alc 52 [.int .i64 0,.slice none 0 0]⟩,
 S 2 4 16]) (.seq (.ops [f 17 0 1 4,l 18 1 17,⟨some 19,none,.mk 45 1 4 [.int .u32 0] (.tmp 18) (.tmp 18)⟩,m 5 19]) (.seq (.ops [i 6 0]) (.block 0 (.loop (.seq (.seq (.ops [m 20 0,
 k 21 20,f 22 8 1 21,l 23 1 22,b 24 .eql 23 0]) (.cond (.tmp 24) .skip (.exit 0))) (.block 1 (.seq (.ops [f 25 1 1 4,l 26 1 25,m 27 6,x 28 5 26 27,L 29 5 28,⟨some 7,none,
 .alc 49 [.slice none 0 0,.int .i64 0,.int .i64 0,.int .i64 0,.int .i64 0]⟩,S 5 7 29]) (.seq (.seq (.ops [i 8 0]) (.block 2 (.loop (.seq (.seq (.ops [m 30 8,f 31 0 1 7,l 32 1 31,
 n 33 32,B 34 .lss 30 33]) (.cond (.tmp 34) .skip (.exit 2))) (.seq (.block 3 (.seq (.seq (.ops [m 37 0,c1 38 55 37,⟨some 39,none,
 .un .not (.tmp 38)⟩]) (.cond (.tmp 39) .ret .skip)) (.seq (.ops [m 40 0,f 41 0 1 7,l 42 1 41,m 43 8,x 44 8 42 43,L 45 8 44,m 46 5,c3 47 56 40 45 46]) (.seq (.ops [m 48 0,k 49 48,
 f 50 8 1 49,l 51 1 50,b 52 .neq 51 0]) (.cond (.tmp 52) .ret .skip))))) (.ops [m 35 8,b 36 .add 35 1,m 8 36])))))) (.seq (.seq (.ops [m 53 0,c1 54 55 53,⟨some 55,none,
 .un .not (.tmp 54)⟩,m 56 55,⟨some 57,some (56,false),.fad 1 false 1 (.tmp 7)⟩,⟨some 58,some (56,false),.ld false 1 (.tmp 57)⟩,⟨some 59,some (56,false),
 .bin .eql (.tmp 58) (.const (.int .i64 3))⟩,⟨some 60,none,.pick (.tmp 56) (.const (.bool true)) (.tmp 59)⟩]) (.cond (.tmp 60) .ret .skip)) (.seq (.ops [f 61 3 1 7,l 62 1 61,
 m 6 62]) (.seq (.ops [f 63 1 1 7,l 64 1 63,b 65 .eql 64 2,m 66 65,⟨some 67,some (66,true),.mv (.tmp 5)⟩,⟨some 68,some (66,true),.fad 2 false 1 (.tmp 7)⟩,⟨some 69,some (66,true),
 .ld false 1 (.tmp 68)⟩,⟨some 70,some (66,true),.idx 1 (.tmp 67) (.tmp 69)⟩,⟨some 71,some (66,true),.ld false 1 (.tmp 70)⟩,⟨some 72,some (66,true),
 .bin .eql (.tmp 71) (.const (.int .u32 0))⟩,⟨some 73,none,.pick (.tmp 66) (.tmp 72) (.const (.bool false))⟩]) (.cond (.tmp 73) (.ops [f 74 4 1 7,l 75 1 74,
 m 6 75]) .skip)))))))))))))
theorem f_scref24_runner_fun : compF Try.prog 33 = some (76, c_scref24_runner_fun, []) := by kernel_rfl
def c_scref10_Go:VC:=(.seq (.ops [X 4 30 0,X 6 87 2,⟨(some 8),none,(.alc 87 [(.int .i64 0),(.int .u32 0),(.int .u32 0),(.int .u32 0),(.int .u32 0),(.int .u32 0),(.int .u32 0),
 (.int .u32 0),(.int .u32 0),(.int .u32 0),(.int .u32 0),(.int .u32 0),(.int .u32 0),(.int .u32 0),(.int .u32 0),(.int .u32 0),(.int .u32 0),(.slice none 0 0),(.int .i64 0),
 (.string ⟨#[]⟩),(.int .i64 0),(.int .i64 0)])⟩]) (.seq (.ops [L 12 2 4,m 13 1,L 14 22 6,m 15 3,c4 16 57 12 13 14 15,m 11 16,e 17 11 0,e 18 11 1,⟨(some 9),none,
 (.alc 87 [(.int .i64 0),(.int .u32 0),(.int .u32 0),(.int .u32 0),(.int .u32 0),(.int .u32 0),(.int .u32 0),(.int .u32 0),(.int .u32 0),(.int .u32 0),(.int .u32 0),(.int .u32 0),
 (.int .u32 0),(.int .u32 0),(.int .u32 0),(.int .u32 0),(.int .u32 0),(.slice none 0 0),(.int .i64 0),(.string ⟨#[]⟩),(.int .i64 0),(.int .i64 0)])⟩,S 22 9 17,
 m 10 18]) (.seq (.ops [L 19 22 9,S 22 8 19]) .ret)))
theorem f_scref10_Go : compF Try.prog 34 = some (20, c_scref10_Go, [(.cell 8 true 22)]) := by kernel_rfl
def c_scref09_Start:VC:=(.seq (.ops [X 1 30 0,⟨(some 2),none,(.alc 87 [(.int .i64 0),(.int .u32 0),(.int .u32 0),(.int .u32 0),(.int .u32 0),(.int .u32 0),(.int .u32 0),
 (.int .u32 0),(.int .u32 0),(.int .u32 0),(.int .u32 0),(.int .u32 0),(.int .u32 0),(.int .u32 0),(.int .u32 0),(.int .u32 0),(.int .u32 0),(.slice none 0 0),(.int .i64 0),
 (.string ⟨#[]⟩),(.int .i64 0),(.int .i64 0)])⟩]) (.seq (.ops [⟨(some 3),none,(.alc 87 [(.int .i64 0),(.int .u32 0),(.int .u32 0),(.int .u32 0),(.int .u32 0),(.int .u32 0),
 (.int .u32 0),(.int .u32 0),(.int .u32 0),(.int .u32 0),(.int .u32 0),(.int .u32 0),(.int .u32 0),(.int .u32 0),(.int .u32 0),(.int .u32 0),(.int .u32 0),(.slice none 0 0),
 (.int .i64 0),(.string ⟨#[]⟩),(.int .i64 0),(.int .i64 0)])⟩]) (.seq (.seq (.ops [f 4 1 1 1,l 5 1 4,b 6 .gtr 5 0,m 7 6,⟨some 8,some (7,true),.fad 1 false 1 (.tmp 1)⟩,⟨some 9,
 some (7,true),.ld false 1 (.tmp 8)⟩,⟨some 10,some (7,true),.bin .leq (.tmp 9) (.const (.int .i64 32768))⟩,⟨some 11,none,
 .pick (.tmp 7) (.tmp 10) (.const (.bool false))⟩]) (.cond (.tmp 11) (.ops [f 12 1 1 1,l 13 1 12,⟨some 14,none,.mk 45 1 4 [.int .u32 0] (.tmp 13) (.tmp 13)⟩,f 15 17 1 3,
 s 1 15 14]) .skip)) (.seq (.ops [L 16 22 3,S 22 2 16]) .ret))))
theorem f_scref09_Start : compF Try.prog 35 = some (17, c_scref09_Start, [(.cell 2 true 22)]) := by kernel_rfl
def c_scref28_Words:VC:=(.seq (.ops [X 1 55 0,i 2 0]) (.seq (.ops [i 3 0]) (.seq (.seq (.ops [i 4 0]) (.block 0 (.loop (.seq (.seq (.ops [m 5 4,f 6 0 1 1,l 7 1 6,n 8 7,
 B 9 .lss 5 8]) (.cond (.tmp 9) .skip (.exit 0))) (.seq (.block 1 (.seq (.ops [f 12 0 1 1,l 13 1 12,m 14 4,x 15 1 13 14,l 16 1 15,b 17 .lss 16 0,m 18 17,⟨some 19,some (18,true),
 .fad 0 false 1 (.tmp 1)⟩,⟨some 20,some (18,true),.ld false 1 (.tmp 19)⟩,⟨some 21,some (18,true),.mv (.tmp 4)⟩,⟨some 22,some (18,true),.idx 1 (.tmp 20) (.tmp 21)⟩,⟨some 23,some (18,
 true),.ld false 1 (.tmp 22)⟩,⟨some 24,some (18,true),.un .neg (.tmp 23)⟩,⟨some 25,some (18,true),.mv (.tmp 3)⟩,⟨some 26,some (18,true),.bin .gtr (.tmp 24) (.tmp 25)⟩,⟨some 27,none,
 .pick (.tmp 18) (.tmp 26) (.const (.bool false))⟩]) (.cond (.tmp 27) (.ops [f 28 0 1 1,l 29 1 28,m 30 4,x 31 1 29 30,l 32 1 31,⟨some 33,none,.un .neg (.tmp 32)⟩,
 m 3 33]) .skip))) (.ops [m 10 4,b 11 .add 10 1,m 4 11])))))) (.seq (.ops [m 34 3,m 2 34]) .ret))))
theorem f_scref28_Words : compF Try.prog 36 = some (35, c_scref28_Words, [.tmp 2]) := by kernel_rfl
def c_scref24_One:VC:=(.seq (.ops [X 3 52 0,o 6 false]) (.seq (.seq (.ops [f 9 0 1 3,l 10 1 9,b 11 .lss 10 0,m 12 11,⟨some 13,some (12,false),.fad 0 false 1 (.tmp 3)⟩,⟨some 14,
 some (12,false),.ld false 1 (.tmp 13)⟩,⟨some 15,some (12,false),.bin .gtr (.tmp 14) (.const (.int .i64 4000))⟩,⟨some 16,none,.pick (.tmp 12) (.const (.bool true)) (.tmp 15)⟩,
 m 17 16,⟨some 18,some (17,false),.fad 1 false 1 (.tmp 3)⟩,⟨some 19,some (17,false),.ld false 1 (.tmp 18)⟩,⟨some 20,some (17,false),.len (.tmp 19)⟩,⟨some 21,some (17,false),
 .bin .eql (.tmp 20) (.const (.int .i64 0))⟩,⟨some 22,none,
 .pick (.tmp 17) (.const (.bool true)) (.tmp 21)⟩]) (.cond (.tmp 22) (.seq (.ops [o 6 false]) .ret) .skip)) (.seq (.seq (.ops [i 7 0]) (.block 0 (.loop (.seq (.seq (.ops [m 23 7,
 f 24 1 1 3,l 25 1 24,n 26 25,B 27 .lss 23 26]) (.cond (.tmp 27) .skip (.exit 0))) (.seq (.block 1 (.seq (.seq (.ops [f 30 1 1 3,l 31 1 30,m 32 7,x 33 5 31 32,L 34 5 33,f 35 1 1 3,
 l 36 1 35,n 37 36,f 38 0 1 3,l 39 1 38,c3 40 58 34 37 39,⟨some 41,none,
 .un .not (.tmp 40)⟩]) (.cond (.tmp 41) (.seq (.ops [o 6 false]) .ret) .skip)) (.seq (.ops [i 8 0]) (.block 2 (.loop (.seq (.seq (.ops [m 42 8,f 43 1 1 3,l 44 1 43,m 45 7,
 x 46 5 44 45,f 47 0 1 46,l 48 1 47,n 49 48,B 50 .lss 42 49]) (.cond (.tmp 50) .skip (.exit 2))) (.seq (.block 3 (.seq (.ops [f 53 1 1 3,l 54 1 53,m 55 7,x 56 5 54 55,f 57 0 1 56,
 l 58 1 57,m 59 8,x 60 8 58 59,L 61 8 60,m 62 1,f 63 0 1 3,l 64 1 63,m 65 2,c4 66 59 61 62 64 65,⟨some 67,none,
 .un .not (.tmp 66)⟩]) (.cond (.tmp 67) (.seq (.ops [o 6 false]) .ret) .skip))) (.ops [m 51 8,b 52 .add 51 1,m 8 52])))))))) (.ops [m 28 7,b 29 .add 28 1,
 m 7 29])))))) (.seq (.ops [o 6 true]) .ret))))
theorem f_scref24_One : compF Try.prog 37 = some (68, c_scref24_One, [.tmp 6]) := by kernel_rfl
def c_live_solverOf:VC:=(.seq (.ops [X 1 52 0,⟨some 2,none,.mv (.const (.pointer none))⟩]) (.seq (.ops [f 12 1 1 1,l 13 1 12,n 14 13,
 m 3 14]) (.seq (.par false (.one (L 15 2 1) (.one (c1 16 64 15) (.one (m 17 3) (.one (m 19 3) (.both (.one ⟨some 18,none,
 .mk 53 1 24 [.slice none 0 0] (.tmp 17) (.tmp 17)⟩ (.one ⟨some 20,none,.mk 4 1 1 [.bool false] (.tmp 19) (.tmp 19)⟩ (.one ⟨some 21,none,.bld [.slice none 0 0,.slice none 0 0,
 .slice none 0 0,.slice none 0 0,.slice none 0 0,.slice none 0 0,.slice none 0 0,.slice none 0 0] [(0,(1,(.tmp 16))),(1,(1,(.tmp 18))),(7,(1,
 (.tmp 20)))]⟩ (.one (X 22 97 21) (.one (m 4 22) .done))))) (.one ⟨some 20,none,.mk 4 1 1 [.bool false] (.tmp 19) (.tmp 19)⟩ (.one ⟨some 18,none,
 .mk 53 1 24 [.slice none 0 0] (.tmp 17) (.tmp 17)⟩ (.one ⟨some 21,none,.bld [.slice none 0 0,.slice none 0 0,.slice none 0 0,.slice none 0 0,.slice none 0 0,.slice none 0 0,
 .slice none 0 0,.slice none 0 0] [(0,(1,(.tmp 16))),(1,(1,(.tmp 18))),(7,(1,(.tmp 20)))]⟩ (.one (X 22 97 21) (.one (m 4 22) .done))))))))))) (.seq (.seq (.ops [m 23 4,k 24 23,
 f 25 0 1 24,l 26 1 25,n 27 26,i 28 0]) (.block 0 (.loop (.seq (.ops [B 29 .lss 28 27]) (.seq (.cond (.tmp 29) .skip (.exit 0)) (.seq (.block 1 (.seq (.ops [m 30 28,x 31 1 26 28,
 l 32 1 31,m 5 30,m 6 32]) (.seq (.seq (.ops [m 33 6,n 34 33,
 i 35 0]) (.block 2 (.loop (.seq (.ops [B 36 .lss 35 34]) (.seq (.cond (.tmp 36) .skip (.exit 2)) (.seq (.block 3 (.seq (.ops [x 37 1 33 35,l 38 1 37,
 m 8 38]) (.par false (.one (m 39 4) (.one (m 43 8) (.one (m 44 4) (.one (k 45 44) (.one (f 46 1 1 45) (.one (l 47 1 46) (.one (m 48 8) (.one (x 49 1 47 48) (.one (l 50 1 49) (.one (m 51 5) (.both (.one (k 40 39) (.both (.one (f 41 1 1 40) (.both (.one (l 42 1 41) (.one ⟨some 52,
 none,.bsl 3 1 1 [.int .i64 0] [(0,(1,(.tmp 51)))]⟩ (.one ⟨some 53,none,.app 3 1 8 (.tmp 50) (.tmp 52)⟩ (.one (x 54 1 42 43) (.one (s 1 54 53) .done))))) (.one ⟨some 52,none,
 .bsl 3 1 1 [.int .i64 0] [(0,(1,(.tmp 51)))]⟩ (.both (.one (l 42 1 41) (.one ⟨some 53,none,
 .app 3 1 8 (.tmp 50) (.tmp 52)⟩ (.one (x 54 1 42 43) (.one (s 1 54 53) .done)))) (.one ⟨some 53,none,
 .app 3 1 8 (.tmp 50) (.tmp 52)⟩ (.one (l 42 1 41) (.one (x 54 1 42 43) (.one (s 1 54 53) .done)))))))) (.one ⟨some 52,none,.bsl 3 1 1 [.int .i64 0] [(0,(1,
 (.tmp 51)))]⟩ (.both (.one (f 41 1 1 40) (.both (.one (l 42 1 41) (.one ⟨some 53,none,
 .app 3 1 8 (.tmp 50) (.tmp 52)⟩ (.one (x 54 1 42 43) (.one (s 1 54 53) .done)))) (.one ⟨some 53,none,
 .app 3 1 8 (.tmp 50) (.tmp 52)⟩ (.one (l 42 1 41) (.one (x 54 1 42 43) (.one (s 1 54 53) .done)))))) (.one ⟨some 53,none,
 .app 3 1 8 (.tmp 50) (.tmp 52)⟩ (.one (f 41 1 1 40) (.one (l 42 1 41) (.one (x 54 1 42 43) (.one (s 1 54 53) .done))))))))) (.one ⟨some 52,none,.bsl 3 1 1 [.int .i64 0] [(0,(1,
 (.tmp 51)))]⟩ (.both (.one (k 40 39) (.both (.one (f 41 1 1 40) (.both (.one (l 42 1 41) (.one ⟨some 53,none,
 .app 3 1 8 (.tmp 50) (.tmp 52)⟩ (.one (x 54 1 42 43) (.one (s 1 54 53) .done)))) (.one ⟨some 53,none,
 .app 3 1 8 (.tmp 50) (.tmp 52)⟩ (.one (l 42 1 41) (.one (x 54 1 42 43) (.one (s 1 54 53) .done)))))) (.one ⟨some 53,none,
 .app 3 1 8 (.tmp 50) (.tmp 52)⟩ (.one (f 41 1 1 40) (.one (l 42 1 41) (.one (x 54 1 42 43) (.one (s 1 54 53) .done))))))) (.one ⟨some 53,none,
 .app 3 1 8 (.tmp 50) (.tmp 52)⟩ (.one (k 40 39) (.one (f 41 1 1 40) (.one (l 42 1 41) (.one (x 54 1 42 43) (.one (s 1 54 53) .done)))))))))))))))))))))) (.ops [b 55 .add 35 1,
 m 35 55]))))))) (.seq (.par false (.one (f 57 1 1 1) (.one (l 58 1 57) (.one (m 59 5) (.one (x 60 5 58 59) (.one (L 61 5 60) (.one (f 62 0 1 1) (.one (l 63 1 62) (.one (c2 64 65 61 63) (.one (m 56 64) (.one (e 65 56 0) (.one (e 66 56 1) (.one (m 9 65) (.one (m 10 66) .done)))))))))))))) (.seq (.ops [m 67 4,
 m 68 4,k 69 68,f 70 2 1 69,l 71 1 70,m 72 9,⟨some 73,none,.bsl 100 1 1 [.slice none 0 0] [(0,(1,(.tmp 72)))]⟩,⟨some 74,none,.app 100 1 24 (.tmp 71) (.tmp 73)⟩,k 75 67,f 76 2 1 75,
 s 1 76 74]) (.seq (.ops [m 77 4,m 78 4,k 79 78,f 80 3 1 79,l 81 1 80,m 82 10,⟨some 83,none,.bsl 100 1 1 [.slice none 0 0] [(0,(1,(.tmp 82)))]⟩,⟨some 84,none,
 .app 100 1 24 (.tmp 81) (.tmp 83)⟩,k 85 77,f 86 3 1 85,
 s 1 86 84]) (.seq (.par false (.one (m 87 4) (.one (m 88 4) (.one (k 89 88) (.one (f 90 4 1 89) (.one (f 92 0 1 1) (.one (l 93 1 92) (.both (.one (l 91 1 90) (.one ⟨some 94,none,
 .callM true (.func 66) [.tmp 93]⟩ (.one ⟨some 95,none,.bsl 100 1 1 [.slice none 0 0] [(0,(1,(.tmp 94)))]⟩ (.one ⟨some 96,none,
 .app 100 1 24 (.tmp 91) (.tmp 95)⟩ (.one (k 97 87) (.one (f 98 4 1 97) (.one (s 1 98 96) .done))))))) (.one ⟨some 94,none,
 .callM true (.func 66) [.tmp 93]⟩ (.one (l 91 1 90) (.one ⟨some 95,none,.bsl 100 1 1 [.slice none 0 0] [(0,(1,(.tmp 94)))]⟩ (.one ⟨some 96,none,
 .app 100 1 24 (.tmp 91) (.tmp 95)⟩ (.one (k 97 87) (.one (f 98 4 1 97) (.one (s 1 98 96) .done))))))))))))))) (.par false (.one (m 99 4) (.one (m 100 4) (.one (k 101 100) (.one (f 102 5 1 101) (.one (f 104 0 1 1) (.one (l 105 1 104) (.both (.one (l 103 1 102) (.one ⟨some 106,
 none,.callM true (.func 66) [.tmp 105]⟩ (.one ⟨some 107,none,.bsl 100 1 1 [.slice none 0 0] [(0,(1,(.tmp 106)))]⟩ (.one ⟨some 108,none,
 .app 100 1 24 (.tmp 103) (.tmp 107)⟩ (.one (k 109 99) (.one (f 110 5 1 109) (.one (s 1 110 108) .done))))))) (.one ⟨some 106,none,
 .callM true (.func 66) [.tmp 105]⟩ (.one (l 103 1 102) (.one ⟨some 107,none,.bsl 100 1 1 [.slice none 0 0] [(0,(1,(.tmp 106)))]⟩ (.one ⟨some 108,none,
 .app 100 1 24 (.tmp 103) (.tmp 107)⟩ (.one (k 109 99) (.one (f 110 5 1 109) (.one (s 1 110 108) .done)))))))))))))))))))))) (.ops [b 111 .add 28 1,
 m 28 111]))))))) (.seq (.seq (.ops [m 112 3,
 i 113 0]) (.block 4 (.loop (.seq (.ops [B 114 .lss 113 112]) (.seq (.cond (.tmp 114) .skip (.exit 4)) (.seq (.block 5 (.seq (.ops [m 115 113,m 11 115]) (.ops [m 116 4,m 117 11,
 c2 118 42 116 117]))) (.ops [b 119 .add 113 1,m 113 119]))))))) (.seq (.ops [m 120 4,m 2 120]) .ret))))))
theorem f_live_solverOf : compF Try.prog 40 = some (121, c_live_solverOf, [.tmp 2]) := by kernel_rfl
def c_live_solver_grow:VC:=(.seq (.ops [o 4 false]) (.seq (.ops [m 13 0,k 14 13,f 15 5 1 14,l 16 1 15,m 17 1,x 18 1 16 17,l 19 1 18,m 5 19,o 6 false]) (.seq (.seq (.ops [m 20 0,
 k 21 20,f 22 0 1 21,l 23 1 22,m 24 1,x 25 1 23 24,l 26 1 25,n 27 26,
 i 28 0]) (.block 0 (.loop (.seq (.ops [B 29 .lss 28 27]) (.seq (.cond (.tmp 29) .skip (.exit 0)) (.seq (.block 1 (.seq (.ops [x 30 1 26 28,l 31 1 30,m 8 31]) (.seq (.ops [m 32 0,
 k 33 32,f 34 4 1 33,l 35 1 34,m 36 8,x 37 1 35 36,l 38 1 37,n 39 38,
 i 40 0]) (.block 2 (.loop (.seq (.ops [B 41 .lss 40 39]) (.seq (.cond (.tmp 41) .skip (.exit 2)) (.seq (.block 3 (.seq (.ops [m 42 40,x 43 1 38 40,l 44 1 43,m 9 42,
 m 10 44]) (.ops [m 45 5,m 46 9,x 47 1 45 46,l 48 1 47,m 49 10,B 50 .or 48 49,x 51 1 45 46,s 1 51 50]))) (.ops [b 52 .add 40 1,m 40 52]))))))))) (.ops [b 53 .add 28 1,
 m 28 53]))))))) (.seq (.seq (.ops [m 54 5,n 55 54,
 i 56 0]) (.block 4 (.loop (.seq (.ops [B 57 .lss 56 55]) (.seq (.cond (.tmp 57) .skip (.exit 4)) (.seq (.block 5 (.seq (.ops [m 58 56,m 11 58]) (.seq (.ops [m 59 0,k 60 59,
 f 61 2 1 60,l 62 1 61,m 63 1,x 64 1 62 63,l 65 1 64,m 66 11,x 67 1 65 66,l 68 1 67,m 69 5,m 70 11,x 71 1 69 70,l 72 1 71,m 73 0,k 74 73,f 75 3 1 74,l 76 1 75,m 77 1,x 78 1 76 77,
 l 79 1 78,m 80 11,x 81 1 79 80,l 82 1 81,B 83 .andNot 72 82,B 84 .or 68 83,m 12 84]) (.seq (.ops [m 85 12,m 86 0,k 87 86,f 88 4 1 87,l 89 1 88,m 90 1,x 91 1 89 90,l 92 1 91,
 m 93 11,x 94 1 92 93,l 95 1 94,B 96 .neq 85 95]) (.cond (.tmp 96) (.seq (.ops [m 97 0,k 98 97,f 99 4 1 98,l 100 1 99,m 101 1,x 102 1 100 101,l 103 1 102,m 104 11,m 105 12,
 x 106 1 103 104,s 1 106 105]) (.ops [o 6 true])) .skip))))) (.ops [b 107 .add 56 1,m 56 107]))))))) (.seq (.ops [m 108 6,m 4 108]) .ret)))))
theorem f_live_solver_grow : compF Try.prog 41 = some (109, c_live_solver_grow, [.tmp 4]) := by kernel_rfl
def c_live_solver_wait:VC:=(.seq (.ops [m 4 0,k 5 4,f 6 7 1 5,l 7 1 6,m 8 1,x 9 1 7 8,l 10 1 9,⟨some 11,none,.un .not (.tmp 10)⟩]) (.cond (.tmp 11) (.seq (.ops [m 12 0,k 13 12,
 f 14 7 1 13,l 15 1 14,m 16 1,x 17 1 15 16,⟨none,none,.sto false 1 (.tmp 17) (.const (.bool true))⟩]) (.ops [m 18 0,m 19 0,k 20 19,f 21 6 1 20,l 22 1 21,m 23 1,⟨some 24,none,
 .bsl 3 1 1 [.int .i64 0] [(0,(1,(.tmp 23)))]⟩,⟨some 25,none,.app 3 1 8 (.tmp 22) (.tmp 24)⟩,k 26 18,f 27 6 1 26,s 1 27 25])) .skip))
theorem f_live_solver_wait : compF Try.prog 42 = some (28, c_live_solver_wait, []) := by kernel_rfl
def c_live_row_spread:VC:=(.seq (.ops [⟨some 4,none,.mv (.const (.slice none 0 0))⟩]) (.seq (.ops [m 7 1,⟨some 8,none,.mk 4 1 1 [.bool false] (.tmp 7) (.tmp 7)⟩,
 m 5 8]) (.seq (.seq (.ops [m 9 5,n 10 9,i 11 0]) (.block 0 (.loop (.seq (.ops [B 12 .lss 11 10]) (.seq (.cond (.tmp 12) .skip (.exit 0)) (.seq (.block 1 (.seq (.ops [m 13 11,
 m 6 13]) (.ops [m 14 5,m 15 6,m 16 0,m 17 6,b 18 .quo 17 64,x 19 1 16 18,l 20 1 19,m 21 6,b 22 .rem 21 64,B 23 .shr 20 22,⟨some 24,none,.bin .and (.tmp 23) (.const (.int .u64 1))⟩,
 ⟨some 25,none,.bin .eql (.tmp 24) (.const (.int .u64 1))⟩,x 26 1 14 15,s 1 26 25]))) (.ops [b 27 .add 11 1,m 11 27]))))))) (.seq (.ops [m 28 5,m 4 28]) .ret))))
theorem f_live_row_spread : compF Try.prog 43 = some (29, c_live_row_spread, [.tmp 4]) := by kernel_rfl
def c_choose_writer_put:VC:=(.ops [m 10 0,m 11 0,k 12 11,f 13 2 1 12,l 14 1 13,m 15 1,m 16 2,m 17 3,m 18 4,⟨some 19,none,.bld [.int .i64 0,.int .i64 0,.int .i64 0,.int .i64 0] [(0,
 (1,(.tmp 15))),(1,(1,(.tmp 16))),(2,(1,(.tmp 17))),(3,(1,(.tmp 18)))]⟩,⟨some 20,none,.bsl 115 4 1 [.int .i64 0,.int .i64 0,.int .i64 0,.int .i64 0] [(0,(4,(.tmp 19)))]⟩,⟨some 21,
 none,.app 115 4 32 (.tmp 14) (.tmp 20)⟩,k 22 10,f 23 2 1 22,s 1 23 21])
theorem f_choose_writer_put : compF Try.prog 50 = some (24, c_choose_writer_put, []) := by kernel_rfl
def c_choose_writer_keep:VC:=(.seq (.ops [m 7 0,k 8 7,f 9 9 1 8,l 10 1 9,m 11 1,x 12 1 10 11,l 13 1 12,m 6 13]) (.seq (.ops [m 14 6,b 15 .lss 14 0]) (.cond (.tmp 15) (.ops [m 16 0,
 m 17 2,m 18 0,m 19 6,⟨some 20,none,.callM false (.func 70) [.tmp 18,.tmp 19]⟩,⟨some 21,none,.callM false (.func 50) [(.tmp 16),(.const (.int .i64 17)),(.tmp 17),
 (.const (.int .i64 0)),(.tmp 20)]⟩]) .skip)))
theorem f_choose_writer_keep : compF Try.prog 51 = some (22, c_choose_writer_keep, []) := by kernel_rfl
def c_choose_writer_instruction:VC:=(.seq (.ops [X 3 47 1]) (.seq (.ops [m 13 0,⟨some 14,none,.mkb 71 [.tmp 13]⟩,m 4 14]) (.seq (.ops [f 15 0 1 3,
 l 16 1 15]) (.block 0 (.seq (.ops [b 18 .eql 16 1,m 17 18]) (.cond (.tmp 17) (.ops [m 19 0,f 20 1 1 3,l 21 1 20,f 22 7 1 3,l 23 1 22,⟨some 24,none,.callM false (.func 72) [.tmp 19,
 .tmp 21,.tmp 23]⟩]) (.seq (.ops [b 26 .eql 16 2,m 25 26]) (.cond (.tmp 25) (.ops [m 27 0,f 28 1 1 3,l 29 1 28,f 30 2 1 3,l 31 1 30,⟨some 32,none,.callM false (.func 73) [.tmp 27,
 .tmp 29,.tmp 31]⟩]) (.seq (.ops [b 34 .eql 16 3,
 m 33 34]) (.cond (.tmp 33) (.seq (.par false (.one (m 35 4) (.one (f 36 2 1 3) (.one (l 37 1 36) (.one (m 39 4) (.one (m 43 0) (.both (.one ⟨some 38,none,
 .callM false (.tmp 35) [(.tmp 37),(.const (.int .i64 9))]⟩ (.one (f 40 3 1 3) (.one (l 41 1 40) (.both (.one ⟨some 42,none,.callM false (.tmp 39) [(.tmp 41),
 (.const (.int .i64 10))]⟩ (.one (f 44 1 1 3) (.one (l 45 1 44) (.one ⟨some 46,none,.callM false (.func 74) [.tmp 43,
 .tmp 45]⟩ (.one (m 5 38) (.one (m 6 42) (.one (m 7 46) .done))))))) (.one (f 44 1 1 3) (.both (.one ⟨some 42,none,.callM false (.tmp 39) [(.tmp 41),
 (.const (.int .i64 10))]⟩ (.one (l 45 1 44) (.one ⟨some 46,none,.callM false (.func 74) [.tmp 43,
 .tmp 45]⟩ (.one (m 5 38) (.one (m 6 42) (.one (m 7 46) .done)))))) (.one (l 45 1 44) (.one ⟨some 42,none,.callM false (.tmp 39) [(.tmp 41),(.const (.int .i64 10))]⟩ (.one ⟨some 46,
 none,.callM false (.func 74) [.tmp 43,.tmp 45]⟩ (.one (m 5 38) (.one (m 6 42) (.one (m 7 46) .done)))))))))))) (.both (.one (f 40 3 1 3) (.both (.one ⟨some 38,none,
 .callM false (.tmp 35) [(.tmp 37),(.const (.int .i64 9))]⟩ (.one (l 41 1 40) (.both (.one ⟨some 42,none,.callM false (.tmp 39) [(.tmp 41),
 (.const (.int .i64 10))]⟩ (.one (f 44 1 1 3) (.one (l 45 1 44) (.one ⟨some 46,none,.callM false (.func 74) [.tmp 43,
 .tmp 45]⟩ (.one (m 5 38) (.one (m 6 42) (.one (m 7 46) .done))))))) (.one (f 44 1 1 3) (.both (.one ⟨some 42,none,.callM false (.tmp 39) [(.tmp 41),
 (.const (.int .i64 10))]⟩ (.one (l 45 1 44) (.one ⟨some 46,none,.callM false (.func 74) [.tmp 43,
 .tmp 45]⟩ (.one (m 5 38) (.one (m 6 42) (.one (m 7 46) .done)))))) (.one (l 45 1 44) (.one ⟨some 42,none,.callM false (.tmp 39) [(.tmp 41),(.const (.int .i64 10))]⟩ (.one ⟨some 46,
 none,.callM false (.func 74) [.tmp 43,.tmp 45]⟩ (.one (m 5 38) (.one (m 6 42) (.one (m 7 46) .done))))))))))) (.both (.one (l 41 1 40) (.both (.one ⟨some 38,none,
 .callM false (.tmp 35) [(.tmp 37),(.const (.int .i64 9))]⟩ (.both (.one ⟨some 42,none,.callM false (.tmp 39) [(.tmp 41),
 (.const (.int .i64 10))]⟩ (.one (f 44 1 1 3) (.one (l 45 1 44) (.one ⟨some 46,none,.callM false (.func 74) [.tmp 43,
 .tmp 45]⟩ (.one (m 5 38) (.one (m 6 42) (.one (m 7 46) .done))))))) (.one (f 44 1 1 3) (.both (.one ⟨some 42,none,.callM false (.tmp 39) [(.tmp 41),
 (.const (.int .i64 10))]⟩ (.one (l 45 1 44) (.one ⟨some 46,none,.callM false (.func 74) [.tmp 43,
 .tmp 45]⟩ (.one (m 5 38) (.one (m 6 42) (.one (m 7 46) .done)))))) (.one (l 45 1 44) (.one ⟨some 42,none,.callM false (.tmp 39) [(.tmp 41),(.const (.int .i64 10))]⟩ (.one ⟨some 46,
 none,.callM false (.func 74) [.tmp 43,.tmp 45]⟩ (.one (m 5 38) (.one (m 6 42) (.one (m 7 46) .done)))))))))) (.one (f 44 1 1 3) (.both (.one ⟨some 38,none,
 .callM false (.tmp 35) [(.tmp 37),(.const (.int .i64 9))]⟩ (.both (.one ⟨some 42,none,.callM false (.tmp 39) [(.tmp 41),(.const (.int .i64 10))]⟩ (.one (l 45 1 44) (.one ⟨some 46,
 none,.callM false (.func 74) [.tmp 43,.tmp 45]⟩ (.one (m 5 38) (.one (m 6 42) (.one (m 7 46) .done)))))) (.one (l 45 1 44) (.one ⟨some 42,none,.callM false (.tmp 39) [(.tmp 41),
 (.const (.int .i64 10))]⟩ (.one ⟨some 46,none,.callM false (.func 74) [.tmp 43,
 .tmp 45]⟩ (.one (m 5 38) (.one (m 6 42) (.one (m 7 46) .done)))))))) (.one (l 45 1 44) (.one ⟨some 38,none,.callM false (.tmp 35) [(.tmp 37),
 (.const (.int .i64 9))]⟩ (.one ⟨some 42,none,.callM false (.tmp 39) [(.tmp 41),(.const (.int .i64 10))]⟩ (.one ⟨some 46,none,.callM false (.func 74) [.tmp 43,
 .tmp 45]⟩ (.one (m 5 38) (.one (m 6 42) (.one (m 7 46) .done))))))))))) (.one (f 44 1 1 3) (.both (.one ⟨some 38,none,.callM false (.tmp 35) [(.tmp 37),
 (.const (.int .i64 9))]⟩ (.one (l 41 1 40) (.both (.one ⟨some 42,none,.callM false (.tmp 39) [(.tmp 41),(.const (.int .i64 10))]⟩ (.one (l 45 1 44) (.one ⟨some 46,none,
 .callM false (.func 74) [.tmp 43,.tmp 45]⟩ (.one (m 5 38) (.one (m 6 42) (.one (m 7 46) .done)))))) (.one (l 45 1 44) (.one ⟨some 42,none,.callM false (.tmp 39) [(.tmp 41),
 (.const (.int .i64 10))]⟩ (.one ⟨some 46,none,.callM false (.func 74) [.tmp 43,
 .tmp 45]⟩ (.one (m 5 38) (.one (m 6 42) (.one (m 7 46) .done))))))))) (.both (.one (l 41 1 40) (.both (.one ⟨some 38,none,.callM false (.tmp 35) [(.tmp 37),
 (.const (.int .i64 9))]⟩ (.both (.one ⟨some 42,none,.callM false (.tmp 39) [(.tmp 41),(.const (.int .i64 10))]⟩ (.one (l 45 1 44) (.one ⟨some 46,none,
 .callM false (.func 74) [.tmp 43,.tmp 45]⟩ (.one (m 5 38) (.one (m 6 42) (.one (m 7 46) .done)))))) (.one (l 45 1 44) (.one ⟨some 42,none,.callM false (.tmp 39) [(.tmp 41),
 (.const (.int .i64 10))]⟩ (.one ⟨some 46,none,.callM false (.func 74) [.tmp 43,
 .tmp 45]⟩ (.one (m 5 38) (.one (m 6 42) (.one (m 7 46) .done)))))))) (.one (l 45 1 44) (.one ⟨some 38,none,.callM false (.tmp 35) [(.tmp 37),
 (.const (.int .i64 9))]⟩ (.one ⟨some 42,none,.callM false (.tmp 39) [(.tmp 41),(.const (.int .i64 10))]⟩ (.one ⟨some 46,none,.callM false (.func 74) [.tmp 43,
 .tmp 45]⟩ (.one (m 5 38) (.one (m 6 42) (.one (m 7 46) .done))))))))) (.one (l 45 1 44) (.both (.one ⟨some 38,none,.callM false (.tmp 35) [(.tmp 37),
 (.const (.int .i64 9))]⟩ (.one (l 41 1 40) (.one ⟨some 42,none,.callM false (.tmp 39) [(.tmp 41),(.const (.int .i64 10))]⟩ (.one ⟨some 46,none,.callM false (.func 74) [.tmp 43,
 .tmp 45]⟩ (.one (m 5 38) (.one (m 6 42) (.one (m 7 46) .done))))))) (.one (l 41 1 40) (.one ⟨some 38,none,.callM false (.tmp 35) [(.tmp 37),(.const (.int .i64 9))]⟩ (.one ⟨some 42,
 none,.callM false (.tmp 39) [(.tmp 41),(.const (.int .i64 10))]⟩ (.one ⟨some 46,none,.callM false (.func 74) [.tmp 43,
 .tmp 45]⟩ (.one (m 5 38) (.one (m 6 42) (.one (m 7 46) .done))))))))))))))) (.one (f 44 1 1 3) (.both (.one ⟨some 38,none,.callM false (.tmp 35) [(.tmp 37),
 (.const (.int .i64 9))]⟩ (.one (f 40 3 1 3) (.one (l 41 1 40) (.both (.one ⟨some 42,none,.callM false (.tmp 39) [(.tmp 41),
 (.const (.int .i64 10))]⟩ (.one (l 45 1 44) (.one ⟨some 46,none,.callM false (.func 74) [.tmp 43,
 .tmp 45]⟩ (.one (m 5 38) (.one (m 6 42) (.one (m 7 46) .done)))))) (.one (l 45 1 44) (.one ⟨some 42,none,.callM false (.tmp 39) [(.tmp 41),(.const (.int .i64 10))]⟩ (.one ⟨some 46,
 none,.callM false (.func 74) [.tmp 43,.tmp 45]⟩ (.one (m 5 38) (.one (m 6 42) (.one (m 7 46) .done)))))))))) (.both (.one (f 40 3 1 3) (.both (.one ⟨some 38,none,
 .callM false (.tmp 35) [(.tmp 37),(.const (.int .i64 9))]⟩ (.one (l 41 1 40) (.both (.one ⟨some 42,none,.callM false (.tmp 39) [(.tmp 41),
 (.const (.int .i64 10))]⟩ (.one (l 45 1 44) (.one ⟨some 46,none,.callM false (.func 74) [.tmp 43,
 .tmp 45]⟩ (.one (m 5 38) (.one (m 6 42) (.one (m 7 46) .done)))))) (.one (l 45 1 44) (.one ⟨some 42,none,.callM false (.tmp 39) [(.tmp 41),(.const (.int .i64 10))]⟩ (.one ⟨some 46,
 none,.callM false (.func 74) [.tmp 43,.tmp 45]⟩ (.one (m 5 38) (.one (m 6 42) (.one (m 7 46) .done))))))))) (.both (.one (l 41 1 40) (.both (.one ⟨some 38,none,
 .callM false (.tmp 35) [(.tmp 37),(.const (.int .i64 9))]⟩ (.both (.one ⟨some 42,none,.callM false (.tmp 39) [(.tmp 41),(.const (.int .i64 10))]⟩ (.one (l 45 1 44) (.one ⟨some 46,
 none,.callM false (.func 74) [.tmp 43,.tmp 45]⟩ (.one (m 5 38) (.one (m 6 42) (.one (m 7 46) .done)))))) (.one (l 45 1 44) (.one ⟨some 42,none,.callM false (.tmp 39) [(.tmp 41),
 (.const (.int .i64 10))]⟩ (.one ⟨some 46,none,.callM false (.func 74) [.tmp 43,
 .tmp 45]⟩ (.one (m 5 38) (.one (m 6 42) (.one (m 7 46) .done)))))))) (.one (l 45 1 44) (.one ⟨some 38,none,.callM false (.tmp 35) [(.tmp 37),
 (.const (.int .i64 9))]⟩ (.one ⟨some 42,none,.callM false (.tmp 39) [(.tmp 41),(.const (.int .i64 10))]⟩ (.one ⟨some 46,none,.callM false (.func 74) [.tmp 43,
 .tmp 45]⟩ (.one (m 5 38) (.one (m 6 42) (.one (m 7 46) .done))))))))) (.one (l 45 1 44) (.both (.one ⟨some 38,none,.callM false (.tmp 35) [(.tmp 37),
 (.const (.int .i64 9))]⟩ (.one (l 41 1 40) (.one ⟨some 42,none,.callM false (.tmp 39) [(.tmp 41),(.const (.int .i64 10))]⟩ (.one ⟨some 46,none,.callM false (.func 74) [.tmp 43,
 .tmp 45]⟩ (.one (m 5 38) (.one (m 6 42) (.one (m 7 46) .done))))))) (.one (l 41 1 40) (.one ⟨some 38,none,.callM false (.tmp 35) [(.tmp 37),(.const (.int .i64 9))]⟩ (.one ⟨some 42,
 none,.callM false (.tmp 39) [(.tmp 41),(.const (.int .i64 10))]⟩ (.one ⟨some 46,none,.callM false (.func 74) [.tmp 43,
 .tmp 45]⟩ (.one (m 5 38) (.one (m 6 42) (.one (m 7 46) .done)))))))))))) (.one (l 45 1 44) (.both (.one ⟨some 38,none,.callM false (.tmp 35) [(.tmp 37),
 (.const (.int .i64 9))]⟩ (.one (f 40 3 1 3) (.one (l 41 1 40) (.one ⟨some 42,none,.callM false (.tmp 39) [(.tmp 41),(.const (.int .i64 10))]⟩ (.one ⟨some 46,none,
 .callM false (.func 74) [.tmp 43,.tmp 45]⟩ (.one (m 5 38) (.one (m 6 42) (.one (m 7 46) .done)))))))) (.one (f 40 3 1 3) (.both (.one ⟨some 38,none,
 .callM false (.tmp 35) [(.tmp 37),(.const (.int .i64 9))]⟩ (.one (l 41 1 40) (.one ⟨some 42,none,.callM false (.tmp 39) [(.tmp 41),(.const (.int .i64 10))]⟩ (.one ⟨some 46,none,
 .callM false (.func 74) [.tmp 43,.tmp 45]⟩ (.one (m 5 38) (.one (m 6 42) (.one (m 7 46) .done))))))) (.one (l 41 1 40) (.one ⟨some 38,none,.callM false (.tmp 35) [(.tmp 37),
 (.const (.int .i64 9))]⟩ (.one ⟨some 42,none,.callM false (.tmp 39) [(.tmp 41),(.const (.int .i64 10))]⟩ (.one ⟨some 46,none,.callM false (.func 74) [.tmp 43,
 .tmp 45]⟩ (.one (m 5 38) (.one (m 6 42) (.one (m 7 46) .done)))))))))))))))))))))) (.seq (.ops [m 47 0,f 48 4 1 3,l 49 1 48,m 50 7,m 51 5,m 52 6,⟨some 53,none,
 .callM false (.func 50) [.tmp 47,.tmp 49,.tmp 50,.tmp 51,.tmp 52]⟩]) (.ops [m 54 0,f 55 1 1 3,l 56 1 55,m 57 7,⟨some 58,none,.callM false (.func 51) [.tmp 54,.tmp 56,
 .tmp 57]⟩]))) (.seq (.ops [b 60 .eql 16 4,m 59 60]) (.cond (.tmp 59) (.seq (.ops [m 61 0,f 62 1 1 3,l 63 1 62,⟨some 64,none,.callM false (.func 74) [.tmp 61,.tmp 63]⟩,
 m 8 64]) (.seq (.ops [m 65 0,m 66 8,f 67 5 1 3,l 68 1 67,⟨some 69,none,.callM false (.func 50) [(.tmp 65),(.const (.int .i64 16)),(.tmp 66),(.const (.int .i64 0)),
 (.tmp 68)]⟩]) (.ops [m 70 0,f 71 1 1 3,l 72 1 71,m 73 8,⟨some 74,none,.callM false (.func 51) [.tmp 70,.tmp 72,.tmp 73]⟩]))) (.seq (.ops [b 76 .eql 16 5,
 m 75 76]) (.cond (.tmp 75) (.par false (.one (m 77 0) (.one (m 78 4) (.one (f 79 2 1 3) (.one (l 80 1 79) (.both (.one ⟨some 81,none,.callM false (.tmp 78) [(.tmp 80),
 (.const (.int .i64 9))]⟩ (.one (f 82 5 1 3) (.one (l 83 1 82) (.one ⟨some 84,none,.callM false (.func 50) [(.tmp 77),(.const (.int .i64 17)),(.tmp 81),(.const (.int .i64 0)),
 (.tmp 83)]⟩ .done)))) (.one (f 82 5 1 3) (.both (.one ⟨some 81,none,.callM false (.tmp 78) [(.tmp 80),(.const (.int .i64 9))]⟩ (.one (l 83 1 82) (.one ⟨some 84,none,
 .callM false (.func 50) [(.tmp 77),(.const (.int .i64 17)),(.tmp 81),(.const (.int .i64 0)),(.tmp 83)]⟩ .done))) (.one (l 83 1 82) (.one ⟨some 81,none,
 .callM false (.tmp 78) [(.tmp 80),(.const (.int .i64 9))]⟩ (.one ⟨some 84,none,.callM false (.func 50) [(.tmp 77),(.const (.int .i64 17)),(.tmp 81),(.const (.int .i64 0)),
 (.tmp 83)]⟩ .done))))))))))) (.seq (.ops [b 86 .eql 16 6,
 m 85 86]) (.cond (.tmp 85) (.seq (.par false (.one (m 87 4) (.one (f 88 2 1 3) (.one (l 89 1 88) (.one (m 91 0) (.both (.one ⟨some 90,none,.callM false (.tmp 87) [(.tmp 89),
 (.const (.int .i64 9))]⟩ (.one (f 92 1 1 3) (.one (l 93 1 92) (.one ⟨some 94,none,.callM false (.func 74) [.tmp 91,
 .tmp 93]⟩ (.one (m 9 90) (.one (m 10 94) .done)))))) (.one (f 92 1 1 3) (.both (.one ⟨some 90,none,.callM false (.tmp 87) [(.tmp 89),
 (.const (.int .i64 9))]⟩ (.one (l 93 1 92) (.one ⟨some 94,none,.callM false (.func 74) [.tmp 91,
 .tmp 93]⟩ (.one (m 9 90) (.one (m 10 94) .done))))) (.one (l 93 1 92) (.one ⟨some 90,none,.callM false (.tmp 87) [(.tmp 89),(.const (.int .i64 9))]⟩ (.one ⟨some 94,none,
 .callM false (.func 74) [.tmp 91,.tmp 93]⟩ (.one (m 9 90) (.one (m 10 94) .done))))))))))))) (.seq (.ops [m 95 0,m 96 9,f 97 6 1 3,l 98 1 97,⟨some 99,none,
 .callM false (.func 50) [(.tmp 95),(.const (.int .i64 25)),(.tmp 96),(.const (.int .i64 0)),(.tmp 98)]⟩]) (.seq (.ops [m 100 0,m 101 10,m 102 9,f 103 5 1 3,l 104 1 103,⟨some 105,
 none,.callM false (.func 50) [(.tmp 100),(.const (.int .i64 16)),(.tmp 101),(.tmp 102),(.tmp 104)]⟩]) (.ops [m 106 0,f 107 1 1 3,l 108 1 107,m 109 10,⟨some 110,none,
 .callM false (.func 51) [.tmp 106,.tmp 108,.tmp 109]⟩])))) (.seq (.ops [b 112 .eql 16 7,m 111 112]) (.cond (.tmp 111) (.seq (.ops [m 113 4,f 114 2 1 3,l 115 1 114,⟨some 116,none,
 .callM false (.tmp 113) [(.tmp 115),(.const (.int .i64 9))]⟩,m 11 116]) (.seq (.ops [m 117 0,m 118 11,f 119 6 1 3,l 120 1 119,⟨some 121,none,.callM false (.func 50) [(.tmp 117),
 (.const (.int .i64 25)),(.tmp 118),(.const (.int .i64 0)),
 (.tmp 120)]⟩]) (.par false (.one (m 122 0) (.one (m 123 4) (.one (f 124 3 1 3) (.one (l 125 1 124) (.one (m 127 11) (.both (.one ⟨some 126,none,.callM false (.tmp 123) [(.tmp 125),
 (.const (.int .i64 10))]⟩ (.one (f 128 5 1 3) (.one (l 129 1 128) (.one ⟨some 130,none,.callM false (.func 50) [(.tmp 122),(.const (.int .i64 17)),(.tmp 126),(.tmp 127),
 (.tmp 129)]⟩ .done)))) (.one (f 128 5 1 3) (.both (.one ⟨some 126,none,.callM false (.tmp 123) [(.tmp 125),(.const (.int .i64 10))]⟩ (.one (l 129 1 128) (.one ⟨some 130,none,
 .callM false (.func 50) [(.tmp 122),(.const (.int .i64 17)),(.tmp 126),(.tmp 127),(.tmp 129)]⟩ .done))) (.one (l 129 1 128) (.one ⟨some 126,none,
 .callM false (.tmp 123) [(.tmp 125),(.const (.int .i64 10))]⟩ (.one ⟨some 130,none,.callM false (.func 50) [(.tmp 122),(.const (.int .i64 17)),(.tmp 126),(.tmp 127),
 (.tmp 129)]⟩ .done)))))))))))))) (.seq (.ops [b 132 .eql 16 8,m 131 132]) (.cond (.tmp 131) (.seq (.ops [m 133 0,f 134 1 1 3,l 135 1 134,⟨some 136,none,
 .callM false (.func 74) [.tmp 133,.tmp 135]⟩,m 12 136]) (.seq (.ops [m 137 0,m 138 12,⟨some 139,none,.callM false (.func 50) [(.tmp 137),(.const (.int .i64 23)),(.tmp 138),
 (.const (.int .i64 0)),(.const (.int .i64 0))]⟩]) (.ops [m 140 0,f 141 1 1 3,l 142 1 141,m 143 12,⟨some 144,none,.callM false (.func 51) [.tmp 140,.tmp 142,
 .tmp 143]⟩]))) (.seq (.ops [b 146 .eql 16 9,m 145 146]) (.cond (.tmp 145) (.ops [m 147 0,m 148 4,f 149 2 1 3,l 150 1 149,⟨some 151,none,.callM false (.tmp 148) [(.tmp 150),
 (.const (.int .i64 9))]⟩,⟨some 152,none,.callM false (.func 50) [(.tmp 147),(.const (.int .i64 24)),(.tmp 151),(.const (.int .i64 0)),
 (.const (.int .i64 0))]⟩]) (.seq (.ops [b 154 .eql 16 10,m 153 154]) (.cond (.tmp 153) (.ops [m 155 0,f 156 5 1 3,l 157 1 156,⟨some 158,none,.callM false (.func 75) [(.tmp 155),
 (.const (.int .i64 21)),(.const (.int .i64 12)),(.tmp 157),(.const (.int .i64 (-1)))]⟩]) .skip))))))))))))))))))))))))
theorem f_choose_writer_instruction : compF Try.prog 52 = some (159, c_choose_writer_instruction, []) := by kernel_rfl
def c_choose_writer_end:VC:=(.seq (.ops [X 4 49 1]) (.seq (.ops [f 7 1 1 4,l 8 1 7]) (.block 0 (.seq (.ops [b 10 .eql 8 1,m 9 10]) (.cond (.tmp 9) (.seq (.ops [f 11 3 1 4,
 l 12 1 11,m 13 2,B 14 .neq 12 13]) (.cond (.tmp 14) (.ops [m 15 0,m 16 0,k 17 16,f 18 8 1 17,l 19 1 18,f 20 3 1 4,l 21 1 20,⟨some 22,none,.callM false (.func 75) [(.tmp 15),
 (.const (.int .i64 18)),(.const (.int .i64 0)),(.tmp 19),(.tmp 21)]⟩]) .skip)) (.seq (.ops [b 24 .eql 8 2,m 23 24]) (.cond (.tmp 23) (.seq (.ops [m 25 0,f 26 2 1 4,l 27 1 26,
 ⟨some 28,none,.callM false (.func 71) [(.tmp 25),(.tmp 27),(.const (.int .i64 9))]⟩,m 6 28]) (.seq (.seq (.ops [f 29 3 1 4,l 30 1 29,m 31 2,
 B 32 .eql 30 31]) (.cond (.tmp 32) (.seq (.ops [m 33 0,m 34 6,m 35 0,k 36 35,f 37 8 1 36,l 38 1 37,f 39 4 1 4,l 40 1 39,⟨some 41,none,.callM false (.func 75) [(.tmp 33),
 (.const (.int .i64 19)),(.tmp 34),(.tmp 38),(.tmp 40)]⟩]) .ret) .skip)) (.seq (.ops [m 42 0,m 43 6,m 44 0,k 45 44,f 46 8 1 45,l 47 1 46,f 48 3 1 4,l 49 1 48,⟨some 50,none,
 .callM false (.func 75) [(.tmp 42),(.const (.int .i64 20)),(.tmp 43),(.tmp 47),(.tmp 49)]⟩]) (.seq (.ops [f 51 4 1 4,l 52 1 51,m 53 2,
 B 54 .neq 52 53]) (.cond (.tmp 54) (.ops [m 55 0,m 56 0,k 57 56,f 58 8 1 57,l 59 1 58,f 60 4 1 4,l 61 1 60,⟨some 62,none,.callM false (.func 75) [(.tmp 55),(.const (.int .i64 18)),
 (.const (.int .i64 0)),(.tmp 59),(.tmp 61)]⟩]) .skip))))) (.seq (.ops [b 64 .eql 8 3,m 63 64]) (.cond (.tmp 63) (.seq (.seq (.ops [m 65 0,k 66 65,f 67 8 1 66,l 68 1 67,m 69 0,
 k 70 69,F 71 0 2 70,f 72 1 1 71,l 73 1 72,n 74 73,b 75 .sub 74 1,B 76 .eql 68 75]) (.cond (.tmp 76) (.seq (.ops [m 77 0,⟨some 78,none,.callM false (.func 50) [(.tmp 77),
 (.const (.int .i64 26)),(.const (.int .i64 0)),(.const (.int .i64 0)),(.const (.int .i64 0))]⟩]) .ret) .skip)) (.seq (.ops [m 79 0,m 80 0,k 81 80,f 82 7 1 81,l 83 1 82,m 84 0,
 k 85 84,f 86 8 1 85,l 87 1 86,B 88 .add 83 87,⟨some 89,none,.callM false (.func 50) [(.tmp 79),(.const (.int .i64 16)),(.const (.int .i64 12)),(.const (.int .i64 0)),
 (.tmp 88)]⟩]) (.ops [m 90 0,⟨some 91,none,.callM false (.func 50) [(.tmp 90),(.const (.int .i64 22)),(.const (.int .i64 12)),(.const (.int .i64 0)),
 (.const (.int .i64 0))]⟩]))) .skip)))))))))
theorem f_choose_writer_end : compF Try.prog 53 = some (92, c_choose_writer_end, []) := by kernel_rfl
def c_inst_Encode:VC:=(.seq (.ops [X 1 115 0,⟨some 2,none,.mv (.const (.int .u32 0))⟩,i 3 0]) (.seq (.seq (.ops [L 4 4 1,c1 5 76 4,⟨some 6,none,
 .un .not (.tmp 5)⟩]) (.cond (.tmp 6) (.seq (.ops [⟨some 2,none,.mv (.const (.int .u32 0))⟩,i 3 1]) .ret) .skip)) (.seq (.ops [f 7 0 1 1,l 8 1 7,⟨some 9,none,.conv .u32 (.tmp 8)⟩,
 ⟨some 10,none,.bin .shl (.tmp 9) (.const (.int .u64 24))⟩,f 11 1 1 1,l 12 1 11,⟨some 13,none,.conv .u32 (.tmp 12)⟩,⟨some 14,none,.bin .shl (.tmp 13) (.const (.int .u64 20))⟩,
 B 15 .or 10 14,f 16 2 1 1,l 17 1 16,⟨some 18,none,.conv .u32 (.tmp 17)⟩,⟨some 19,none,.bin .shl (.tmp 18) (.const (.int .u64 16))⟩,B 20 .or 15 19,f 21 3 1 1,l 22 1 21,⟨some 23,
 none,.conv .u32 (.tmp 22)⟩,B 24 .or 20 23,m 2 24,i 3 0]) .ret)))
theorem f_inst_Encode : compF Try.prog 54 = some (25, c_inst_Encode, [.tmp 2,.tmp 3]) := by kernel_rfl
def c_scref24_runner_step:VC:=(.seq (.ops [o 2 false]) (.seq (.seq (.ops [m 3 0,k 4 3,f 5 7 1 4,l 6 1 5,m 7 0,k 8 7,f 9 3 1 8,l 10 1 9,
 B 11 .geq 6 10]) (.cond (.tmp 11) (.seq (.ops [m 12 0,k 13 12,f 14 8 1 13,⟨none,none,
 .sto false 1 (.tmp 14) (.const (.int .i64 5))⟩]) (.seq (.ops [o 2 false]) .ret)) .skip)) (.seq (.ops [m 15 0,k 16 15,f 17 7 1 16,l 18 1 17,b 19 .add 18 1,k 20 15,f 21 7 1 20,
 s 1 21 19]) (.seq (.ops [o 2 true]) .ret))))
theorem f_scref24_runner_step : compF Try.prog 55 = some (22, c_scref24_runner_step, [.tmp 2]) := by kernel_rfl
def c_scref24_runner_one:VC:=(.seq (.ops [X 4 47 1]) (.seq (.ops [f 8 0 1 4,l 9 1 8]) (.block 0 (.seq (.ops [b 11 .eql 9 1,m 10 11]) (.cond (.tmp 10) (.ops [m 12 2,f 13 1 1 4,
 l 14 1 13,f 15 7 1 4,l 16 1 15,x 17 1 12 14,s 1 17 16]) (.seq (.ops [b 19 .eql 9 2,m 18 19]) (.cond (.tmp 18) (.ops [m 20 2,f 21 1 1 4,l 22 1 21,m 23 2,f 24 2 1 4,l 25 1 24,
 x 26 1 23 25,l 27 1 26,x 28 1 20 22,s 1 28 27]) (.seq (.ops [b 30 .eql 9 3,
 m 29 30]) (.cond (.tmp 29) (.seq (.par false (.one (f 32 4 1 4) (.one (l 33 1 32) (.one (m 34 2) (.one (f 35 2 1 4) (.one (l 36 1 35) (.one (x 37 1 34 36) (.one (l 38 1 37) (.one (m 39 2) (.one (f 40 3 1 4) (.one (l 41 1 40) (.one (x 42 1 39 41) (.one (l 43 1 42) (.one (c3 44 77 33 38 43) (.one (m 31 44) (.one (e 45 31 0) (.one (e 46 31 1) (.one (m 6 45) (.one (m 7 46) .done))))))))))))))))))) (.seq (.seq (.ops [m 47 7,
 b 48 .neq 47 0]) (.cond (.tmp 48) (.seq (.ops [m 49 0,k 50 49,f 51 8 1 50,⟨none,none,.sto false 1 (.tmp 51) (.const (.int .i64 2))⟩]) .ret) .skip)) (.ops [m 52 2,f 53 1 1 4,
 l 54 1 53,m 55 6,x 56 1 52 54,s 1 56 55]))) (.seq (.ops [b 58 .eql 9 4,m 57 58]) (.cond (.tmp 57) (.ops [m 59 2,f 60 1 1 4,l 61 1 60,m 62 0,k 63 62,f 64 4 1 63,l 65 1 64,
 f 66 5 1 4,l 67 1 66,x 68 1 65 67,l 69 1 68,x 70 1 59 61,s 1 70 69]) (.seq (.ops [b 72 .eql 9 5,m 71 72]) (.cond (.tmp 71) (.ops [m 73 0,k 74 73,f 75 4 1 74,l 76 1 75,f 77 5 1 4,
 l 78 1 77,m 79 2,f 80 2 1 4,l 81 1 80,x 82 1 79 81,l 83 1 82,x 84 1 76 78,s 1 84 83]) (.seq (.seq (.ops [b 86 .eql 9 6,m 85 86]) (.cond (.tmp 85) .skip (.ops [b 87 .eql 9 7,
 m 85 87]))) (.cond (.tmp 85) (.seq (.seq (.ops [m 88 2,f 89 2 1 4,l 90 1 89,x 91 1 88 90,l 92 1 91,⟨some 93,none,.conv .u64 (.tmp 92)⟩,f 94 6 1 4,l 95 1 94,⟨some 96,none,
 .conv .u64 (.tmp 95)⟩,B 97 .geq 93 96]) (.cond (.tmp 97) (.seq (.ops [m 98 0,k 99 98,f 100 8 1 99,⟨none,none,
 .sto false 1 (.tmp 100) (.const (.int .i64 3))⟩]) .ret) .skip)) (.seq (.ops [f 101 0 1 4,l 102 1 101,b 103 .eql 102 6]) (.cond (.tmp 103) (.ops [m 104 2,f 105 1 1 4,l 106 1 105,
 m 107 0,k 108 107,f 109 4 1 108,l 110 1 109,f 111 5 1 4,l 112 1 111,m 113 2,f 114 2 1 4,l 115 1 114,x 116 1 113 115,l 117 1 116,⟨some 118,none,.conv .i64 (.tmp 117)⟩,
 B 119 .add 112 118,x 120 1 110 119,l 121 1 120,x 122 1 104 106,s 1 122 121]) (.ops [m 123 0,k 124 123,f 125 4 1 124,l 126 1 125,f 127 5 1 4,l 128 1 127,m 129 2,f 130 2 1 4,
 l 131 1 130,x 132 1 129 131,l 133 1 132,⟨some 134,none,.conv .i64 (.tmp 133)⟩,B 135 .add 128 134,m 136 2,f 137 3 1 4,l 138 1 137,x 139 1 136 138,l 140 1 139,x 141 1 126 135,
 s 1 141 140])))) (.seq (.ops [b 143 .eql 9 8,m 142 143]) (.cond (.tmp 142) (.seq (.ops [m 144 2,f 145 1 1 4,l 146 1 145,x 147 1 144 146,⟨none,none,
 .sto false 1 (.tmp 147) (.const (.int .u32 256))⟩]) (.seq (.ops [m 148 0,k 149 148,f 150 6 1 149,l 151 1 150,m 152 0,k 153 152,f 154 2 1 153,l 155 1 154,⟨some 156,none,
 .lens (.tmp 155)⟩,B 157 .lss 151 156]) (.cond (.tmp 157) (.seq (.ops [m 158 2,f 159 1 1 4,l 160 1 159,m 161 0,k 162 161,f 163 2 1 162,l 164 1 163,m 165 0,k 166 165,f 167 6 1 166,
 l 168 1 167,⟨some 169,none,.pur .six [.tmp 164,.tmp 168]⟩,⟨some 170,none,.conv .u32 (.tmp 169)⟩,x 171 1 158 160,s 1 171 170]) (.ops [m 172 0,k 173 172,f 174 6 1 173,l 175 1 174,
 b 176 .add 175 1,k 177 172,f 178 6 1 177,s 1 178 176])) .skip))) (.seq (.ops [b 180 .eql 9 9,m 179 180]) (.cond (.tmp 179) (.seq (.seq (.ops [m 181 0,k 182 181,f 183 5 1 182,
 l 184 1 183,n 185 184,b 186 .geq 185 65536]) (.cond (.tmp 186) (.seq (.ops [m 187 0,k 188 187,f 189 8 1 188,⟨none,none,
 .sto false 1 (.tmp 189) (.const (.int .i64 4))⟩]) .ret) .skip)) (.par false (.one (m 190 0) (.one (m 191 0) (.one (k 192 191) (.one (f 193 5 1 192) (.one (l 194 1 193) (.one (m 195 2) (.one (f 196 2 1 4) (.one (l 197 1 196) (.one (x 198 1 195 197) (.one (l 199 1 198) (.one ⟨some 200,
 none,.conv .u8 (.tmp 199)⟩ (.one ⟨some 201,none,.bsl 5 1 1 [.int .u8 0] [(0,(1,(.tmp 200)))]⟩ (.one ⟨some 202,none,
 .app 5 1 1 (.tmp 194) (.tmp 201)⟩ (.one (k 203 190) (.one (f 204 5 1 203) (.one (s 1 204 202) .done)))))))))))))))))) (.seq (.ops [b 206 .eql 9 10,
 m 205 206]) (.cond (.tmp 205) (.ops [m 207 0,f 208 5 1 4,l 209 1 208,c2 210 33 207 209]) .skip)))))))))))))))))))))
theorem f_scref24_runner_one : compF Try.prog 56 = some (211, c_scref24_runner_one, []) := by kernel_rfl
def c_scref24_ends:VC:=(.seq (.ops [X 3 49 0,o 6 false]) (.seq (.seq (.ops [f 7 1 1 3,l 8 1 7]) (.block 0 (.seq (.ops [b 10 .eql 8 1,
 m 9 10]) (.cond (.tmp 9) (.seq (.ops [f 11 3 1 3,l 12 1 11,m 13 1,c2 14 80 12 13,m 15 14,⟨some 16,some (15,true),.fad 2 false 1 (.tmp 3)⟩,⟨some 17,some (15,true),
 .ld false 1 (.tmp 16)⟩,⟨some 18,some (15,true),.bin .eql (.tmp 17) (.const (.int .i64 0))⟩,⟨some 19,none,.pick (.tmp 15) (.tmp 18) (.const (.bool false))⟩,m 20 19,⟨some 21,
 some (20,true),.fad 4 false 1 (.tmp 3)⟩,⟨some 22,some (20,true),.ld false 1 (.tmp 21)⟩,⟨some 23,some (20,true),.bin .eql (.tmp 22) (.const (.int .i64 0))⟩,⟨some 24,none,
 .pick (.tmp 20) (.tmp 23) (.const (.bool false))⟩,m 6 24]) .ret) (.seq (.ops [b 26 .eql 8 2,m 25 26]) (.cond (.tmp 25) (.seq (.ops [f 27 3 1 3,l 28 1 27,m 29 1,c2 30 80 28 29,
 m 31 30,⟨some 32,some (31,true),.fad 4 false 1 (.tmp 3)⟩,⟨some 33,some (31,true),.ld false 1 (.tmp 32)⟩,⟨some 34,some (31,true),.mv (.tmp 1)⟩,⟨some 35,some (31,true),
 .call (.func 80) [.tmp 33,.tmp 34]⟩,⟨some 36,none,.pick (.tmp 31) (.tmp 35) (.const (.bool false))⟩,m 37 36,⟨some 38,some (37,true),.fad 2 false 1 (.tmp 3)⟩,⟨some 39,some (37,
 true),.ld false 1 (.tmp 38)⟩,⟨some 40,some (37,true),.mv (.tmp 2)⟩,⟨some 41,some (37,true),.call (.func 80) [.tmp 39,.tmp 40]⟩,⟨some 42,none,
 .pick (.tmp 37) (.tmp 41) (.const (.bool false))⟩,m 6 42]) .ret) .skip)))))) (.seq (.ops [f 43 1 1 3,l 44 1 43,b 45 .eql 44 3,m 46 45,⟨some 47,some (46,true),
 .fad 2 false 1 (.tmp 3)⟩,⟨some 48,some (46,true),.ld false 1 (.tmp 47)⟩,⟨some 49,some (46,true),.bin .eql (.tmp 48) (.const (.int .i64 0))⟩,⟨some 50,none,
 .pick (.tmp 46) (.tmp 49) (.const (.bool false))⟩,m 51 50,⟨some 52,some (51,true),.fad 3 false 1 (.tmp 3)⟩,⟨some 53,some (51,true),.ld false 1 (.tmp 52)⟩,⟨some 54,some (51,true),
 .bin .eql (.tmp 53) (.const (.int .i64 0))⟩,⟨some 55,none,.pick (.tmp 51) (.tmp 54) (.const (.bool false))⟩,m 56 55,⟨some 57,some (56,true),.fad 4 false 1 (.tmp 3)⟩,⟨some 58,
 some (56,true),.ld false 1 (.tmp 57)⟩,⟨some 59,some (56,true),.bin .eql (.tmp 58) (.const (.int .i64 0))⟩,⟨some 60,none,.pick (.tmp 56) (.tmp 59) (.const (.bool false))⟩,
 m 6 60]) .ret)))
theorem f_scref24_ends : compF Try.prog 58 = some (61, c_scref24_ends, [.tmp 6]) := by kernel_rfl
def c_scref24_fits:VC:=(.seq (.ops [X 4 47 0,o 8 false]) (.seq (.seq (.ops [f 12 0 1 4,l 13 1 12,b 14 .lss 13 1,m 15 14,⟨some 16,some (15,false),.fad 0 false 1 (.tmp 4)⟩,⟨some 17,
 some (15,false),.ld false 1 (.tmp 16)⟩,⟨some 18,some (15,false),.bin .gtr (.tmp 17) (.const (.int .i64 10))⟩,⟨some 19,none,
 .pick (.tmp 15) (.const (.bool true)) (.tmp 18)⟩]) (.cond (.tmp 19) (.seq (.ops [o 8 false]) .ret) .skip)) (.seq (.ops [f 20 0 1 4,l 21 1 20,⟨some 22,none,.bld [.int .i64 0,
 .int .i64 0,.int .i64 0,.int .i64 0,.int .i64 0,.int .i64 0,.int .i64 0,.int .u32 0] [(0,(1,(.tmp 21)))]⟩,⟨some 9,none,.alc 47 [.int .i64 0,.int .i64 0,.int .i64 0,.int .i64 0,
 .int .i64 0,.int .i64 0,.int .i64 0,.int .u32 0]⟩,S 8 9 22]) (.seq (.seq (.ops [L 23 8 4,c1 24 68 23,b 25 .geq 24 0,m 26 25,⟨some 27,some (26,false),.fad 0 false 1 (.tmp 4)⟩,
 ⟨some 28,some (26,false),.ld false 1 (.tmp 27)⟩,⟨some 29,some (26,false),.bin .eql (.tmp 28) (.const (.int .i64 1))⟩,⟨some 30,none,.pick (.tmp 26) (.const (.bool true)) (.tmp 29)⟩,
 m 31 30,⟨some 32,some (31,false),.fad 0 false 1 (.tmp 4)⟩,⟨some 33,some (31,false),.ld false 1 (.tmp 32)⟩,⟨some 34,some (31,false),.bin .eql (.tmp 33) (.const (.int .i64 2))⟩,
 ⟨some 35,none,.pick (.tmp 31) (.const (.bool true)) (.tmp 34)⟩,m 36 35,⟨some 37,some (36,false),.fad 0 false 1 (.tmp 4)⟩,⟨some 38,some (36,false),.ld false 1 (.tmp 37)⟩,⟨some 39,
 some (36,false),.bin .eql (.tmp 38) (.const (.int .i64 3))⟩,⟨some 40,none,.pick (.tmp 36) (.const (.bool true)) (.tmp 39)⟩,m 41 40,⟨some 42,some (41,false),
 .fad 0 false 1 (.tmp 4)⟩,⟨some 43,some (41,false),.ld false 1 (.tmp 42)⟩,⟨some 44,some (41,false),.bin .eql (.tmp 43) (.const (.int .i64 4))⟩,⟨some 45,none,
 .pick (.tmp 41) (.const (.bool true)) (.tmp 44)⟩,m 46 45,⟨some 47,some (46,false),.fad 0 false 1 (.tmp 4)⟩,⟨some 48,some (46,false),.ld false 1 (.tmp 47)⟩,⟨some 49,some (46,false),
 .bin .eql (.tmp 48) (.const (.int .i64 6))⟩,⟨some 50,none,.pick (.tmp 46) (.const (.bool true)) (.tmp 49)⟩,m 51 50,⟨some 52,some (51,false),.fad 0 false 1 (.tmp 4)⟩,⟨some 53,
 some (51,false),.ld false 1 (.tmp 52)⟩,⟨some 54,some (51,false),.bin .eql (.tmp 53) (.const (.int .i64 8))⟩,⟨some 55,none,
 .pick (.tmp 51) (.const (.bool true)) (.tmp 54)⟩]) (.cond (.tmp 55) (.seq (.ops [f 56 1 1 4,l 57 1 56,f 58 1 1 9,s 1 58 57]) (.seq (.ops [f 59 1 1 4,l 60 1 59,m 61 2,
 c2 62 80 60 61,⟨some 63,none,.un .not (.tmp 62)⟩]) (.cond (.tmp 63) (.seq (.ops [o 8 false]) .ret) .skip))) .skip)) (.seq (.ops [L 64 8 4,c1 65 69 64,
 m 10 65]) (.seq (.seq (.ops [i 11 0]) (.block 0 (.loop (.seq (.seq (.ops [m 66 11,m 67 10,n 68 67,
 B 69 .lss 66 68]) (.cond (.tmp 69) .skip (.exit 0))) (.seq (.block 1 (.seq (.ops [m 72 10,m 73 11,x 74 1 72 73,l 75 1 74,m 76 2,c2 77 80 75 76,⟨some 78,none,
 .un .not (.tmp 77)⟩]) (.cond (.tmp 78) (.seq (.ops [o 8 false]) .ret) .skip))) (.ops [m 70 11,b 71 .add 70 1,m 11 71])))))) (.seq (.seq (.ops [m 79 10,n 80 79,
 b 81 .gtr 80 0]) (.cond (.tmp 81) (.ops [f 82 2 1 4,l 83 1 82,f 84 2 1 9,s 1 84 83]) .skip)) (.seq (.seq (.ops [m 85 10,n 86 85,b 87 .gtr 86 1]) (.cond (.tmp 87) (.ops [f 88 3 1 4,
 l 89 1 88,f 90 3 1 9,s 1 90 89]) .skip)) (.seq (.seq (.ops [f 91 0 1 4,l 92 1 91]) (.block 2 (.seq (.ops [b 94 .eql 92 1,m 93 94]) (.cond (.tmp 93) (.ops [f 95 7 1 4,l 96 1 95,
 f 97 7 1 9,s 1 97 96]) (.seq (.ops [b 99 .eql 92 3,m 98 99]) (.cond (.tmp 98) (.seq (.ops [f 100 4 1 4,l 101 1 100,f 102 4 1 9,s 1 102 101]) (.seq (.ops [f 103 4 1 4,l 104 1 103,
 b 105 .lss 104 4,m 106 105,⟨some 107,some (106,false),.fad 4 false 1 (.tmp 4)⟩,⟨some 108,some (106,false),.ld false 1 (.tmp 107)⟩,⟨some 109,some (106,false),
 .bin .gtr (.tmp 108) (.const (.int .i64 15))⟩,⟨some 110,none,
 .pick (.tmp 106) (.const (.bool true)) (.tmp 109)⟩]) (.cond (.tmp 110) (.seq (.ops [o 8 false]) .ret) .skip))) (.seq (.seq (.ops [b 112 .eql 92 4,
 m 111 112]) (.cond (.tmp 111) .skip (.ops [b 113 .eql 92 5,m 111 113]))) (.cond (.tmp 111) (.seq (.ops [f 114 5 1 4,l 115 1 114,f 116 5 1 9,s 1 116 115]) (.seq (.ops [f 117 5 1 4,
 l 118 1 117,m 119 3,c2 120 80 118 119,⟨some 121,none,.un .not (.tmp 120)⟩]) (.cond (.tmp 121) (.seq (.ops [o 8 false]) .ret) .skip))) (.seq (.seq (.ops [b 123 .eql 92 6,
 m 122 123]) (.cond (.tmp 122) .skip (.ops [b 124 .eql 92 7,
 m 122 124]))) (.cond (.tmp 122) (.seq (.par false (.one (f 125 5 1 4) (.one (l 126 1 125) (.one (f 127 6 1 4) (.one (f 129 5 1 9) (.both (.one (l 128 1 127) (.one (s 1 129 126) (.one (f 130 6 1 9) (.one (s 1 130 128) .done)))) (.one (s 1 129 126) (.one (l 128 1 127) (.one (f 130 6 1 9) (.one (s 1 130 128) .done)))))))))) (.seq (.ops [f 131 6 1 4,
 l 132 1 131,b 133 .lss 132 1,m 134 133,⟨some 135,some (134,false),.fad 6 false 1 (.tmp 4)⟩,⟨some 136,some (134,false),.ld false 1 (.tmp 135)⟩,⟨some 137,some (134,false),
 .bin .gtr (.tmp 136) (.const (.int .i64 4096))⟩,⟨some 138,none,.pick (.tmp 134) (.const (.bool true)) (.tmp 137)⟩,m 139 138,⟨some 140,some (139,false),.fad 5 false 1 (.tmp 4)⟩,
 ⟨some 141,some (139,false),.ld false 1 (.tmp 140)⟩,⟨some 142,some (139,false),.bin .lss (.tmp 141) (.const (.int .i64 0))⟩,⟨some 143,none,
 .pick (.tmp 139) (.const (.bool true)) (.tmp 142)⟩,m 144 143,⟨some 145,some (144,false),.fad 5 false 1 (.tmp 4)⟩,⟨some 146,some (144,false),.ld false 1 (.tmp 145)⟩,⟨some 147,
 some (144,false),.mv (.tmp 3)⟩,⟨some 148,some (144,false),.fad 6 false 1 (.tmp 4)⟩,⟨some 149,some (144,false),.ld false 1 (.tmp 148)⟩,⟨some 150,some (144,false),
 .bin .sub (.tmp 147) (.tmp 149)⟩,⟨some 151,some (144,false),.bin .gtr (.tmp 146) (.tmp 150)⟩,⟨some 152,none,
 .pick (.tmp 144) (.const (.bool true)) (.tmp 151)⟩]) (.cond (.tmp 152) (.seq (.ops [o 8 false]) .ret) .skip))) (.seq (.ops [b 154 .eql 92 10,
 m 153 154]) (.cond (.tmp 153) (.seq (.ops [f 155 5 1 4,l 156 1 155,f 157 5 1 9,s 1 157 156]) (.seq (.ops [f 158 5 1 4,l 159 1 158,m 160 1,c2 161 80 159 160,⟨some 162,none,
 .un .not (.tmp 161)⟩]) (.cond (.tmp 162) (.seq (.ops [o 8 false]) .ret) .skip))) .skip)))))))))))) (.seq (.ops [L 163 8 4,L 164 8 9,⟨some 165,none,.pur (.eqv false [.int,.int,.int,
 .int,.int,.int,.int,.int]) [.tmp 163,.tmp 164]⟩,m 8 165]) .ret))))))))))
theorem f_scref24_fits : compF Try.prog 59 = some (166, c_scref24_fits, [.tmp 8]) := by kernel_rfl
def c_flow_Next:VC:=(.seq (.ops [X 1 52 0,⟨some 2,none,.mv (.const (.slice none 0 0))⟩]) (.seq (.ops [f 6 1 1 1,l 7 1 6,n 8 7,⟨some 9,none,
 .mk 53 1 24 [.slice none 0 0] (.tmp 8) (.tmp 8)⟩,m 3 9]) (.seq (.seq (.ops [f 10 1 1 1,l 11 1 10,n 12 11,
 i 13 0]) (.block 0 (.loop (.seq (.ops [B 14 .lss 13 12]) (.seq (.cond (.tmp 14) .skip (.exit 0)) (.seq (.block 1 (.seq (.ops [m 15 13,x 16 5 11 13,L 17 5 16,⟨some 5,none,
 .alc 49 [.slice none 0 0,.int .i64 0,.int .i64 0,.int .i64 0,.int .i64 0]⟩,m 4 15,S 5 5 17]) (.seq (.ops [f 18 1 1 5,l 19 1 18]) (.block 2 (.seq (.ops [b 21 .eql 19 1,
 m 20 21]) (.cond (.tmp 20) (.ops [m 22 3,m 23 4,f 24 3 1 5,l 25 1 24,⟨some 26,none,.bsl 3 1 1 [.int .i64 0] [(0,(1,(.tmp 25)))]⟩,x 27 1 22 23,
 s 1 27 26]) (.seq (.ops [b 29 .eql 19 2,m 28 29]) (.cond (.tmp 28) (.ops [m 30 3,m 31 4,f 32 3 1 5,l 33 1 32,f 34 4 1 5,l 35 1 34,⟨some 36,none,.bsl 3 1 2 [.int .i64 0,
 .int .i64 0] [(0,(1,(.tmp 33))),(1,(1,(.tmp 35)))]⟩,x 37 1 30 31,s 1 37 36]) .skip)))))))) (.ops [b 38 .add 13 1,m 13 38]))))))) (.seq (.ops [m 39 3,m 2 39]) .ret))))
theorem f_flow_Next : compF Try.prog 64 = some (40, c_flow_Next, [.tmp 2]) := by kernel_rfl
def c_live_touch:VC:=(.seq (.ops [X 2 49 0,⟨some 4,none,.alc 100 [.slice none 0 0]⟩,⟨some 5,none,.alc 100 [.slice none 0 0]⟩]) (.seq (.ops [m 10 1,⟨some 11,none,
 .callM true (.func 66) [.tmp 10]⟩,m 12 1,⟨some 13,none,.callM true (.func 66) [.tmp 12]⟩,s 1 4 11,s 1 5 13]) (.seq (.seq (.ops [f 14 1 1 2,l 15 1 14,
 b 16 .eql 15 2]) (.cond (.tmp 16) (.ops [l 17 1 4,f 18 2 1 2,l 19 1 18,c2 20 82 17 19]) .skip)) (.seq (.seq (.ops [f 21 0 1 2,l 22 1 21,n 23 22,⟨some 24,none,
 .callA (.func 83) [.tmp 23]⟩]) (.block 0 (.range (.tmp 24) [25] (.seq (.ops [m 6 25]) (.block 1 (.seq (.seq (.ops [f 26 0 1 2,l 27 1 26,m 28 6,x 29 8 27 28,L 30 8 29,c1 31 84 30,
 m 7 31]) (.seq (.ops [m 32 7,b 33 .geq 32 0]) (.cond (.tmp 33) (.seq (.ops [l 34 1 4,m 35 7,c2 36 85 34 35]) (.ops [l 37 1 5,m 38 7,
 c2 39 82 37 38])) .skip))) (.seq (.ops [f 40 0 1 2,l 41 1 40,m 42 6,x 43 8 41 42,L 44 8 43,c1 45 86 44,n 46 45,
 i 47 0]) (.block 2 (.loop (.seq (.ops [B 48 .lss 47 46]) (.seq (.cond (.tmp 48) .skip (.exit 2)) (.seq (.block 3 (.seq (.ops [x 49 1 45 47,l 50 1 49,m 9 50]) (.ops [l 51 1 4,
 m 52 9,c2 53 82 51 52]))) (.ops [b 54 .add 47 1,
 m 47 54]))))))))))))) (.seq (.par false (.one (l 55 1 4) (.both (.one (l 56 1 5) (.one (s 1 4 55) (.one (s 1 5 56) .done))) (.one (s 1 4 55) (.one (l 56 1 5) (.one (s 1 5 56) .done)))))) .ret)))))
theorem f_live_touch : compFB Try.prog false 65 = some (57, c_live_touch, [(.cell 4 false 1), (.cell 5 false 1)]) := by kernel_rfl
def c_live_rowOf:VC:=(.seq (.ops [⟨some 2,none,.mv (.const (.slice none 0 0))⟩]) (.seq (.ops [m 3 0,b 4 .add 3 63,b 5 .quo 4 64,⟨some 6,none,
 .mk 130 1 8 [.int .u64 0] (.tmp 5) (.tmp 5)⟩,m 2 6]) .ret))
theorem f_live_rowOf : compF Try.prog 66 = some (7, c_live_rowOf, [.tmp 2]) := by kernel_rfl
def c_scref24_Sets:VC:=(.seq (.ops [X 1 47 0,i 2 0]) (.seq (.seq (.ops [f 3 0 1 1,l 4 1 3]) (.block 0 (.seq (.seq (.ops [b 6 .eql 4 1,
 m 5 6]) (.cond (.tmp 5) .skip (.seq (.ops [b 7 .eql 4 2,m 5 7]) (.cond (.tmp 5) .skip (.seq (.ops [b 8 .eql 4 3,m 5 8]) (.cond (.tmp 5) .skip (.seq (.ops [b 9 .eql 4 4,
 m 5 9]) (.cond (.tmp 5) .skip (.seq (.ops [b 10 .eql 4 6,m 5 10]) (.cond (.tmp 5) .skip (.ops [b 11 .eql 4 8,m 5 11]))))))))))) (.cond (.tmp 5) (.seq (.ops [f 12 1 1 1,l 13 1 12,
 m 2 13]) .ret) .skip)))) (.seq (.ops [⟨some 2,none,.mv (.const (.int .i64 (-1)))⟩]) .ret)))
theorem f_scref24_Sets : compF Try.prog 68 = some (14, c_scref24_Sets, [.tmp 2]) := by kernel_rfl
def c_scref24_Uses:VC:=(.seq (.ops [X 1 47 0,⟨some 2,none,.mv (.const (.slice none 0 0))⟩]) (.seq (.seq (.ops [f 3 0 1 1,l 4 1 3]) (.block 0 (.seq (.seq (.ops [b 6 .eql 4 2,
 m 5 6]) (.cond (.tmp 5) .skip (.seq (.ops [b 7 .eql 4 5,m 5 7]) (.cond (.tmp 5) .skip (.seq (.ops [b 8 .eql 4 6,m 5 8]) (.cond (.tmp 5) .skip (.ops [b 9 .eql 4 9,
 m 5 9]))))))) (.cond (.tmp 5) (.seq (.ops [f 10 2 1 1,l 11 1 10,⟨some 12,none,.bsl 3 1 1 [.int .i64 0] [(0,(1,(.tmp 11)))]⟩,m 2 12]) .ret) (.seq (.seq (.ops [b 14 .eql 4 3,
 m 13 14]) (.cond (.tmp 13) .skip (.ops [b 15 .eql 4 7,m 13 15]))) (.cond (.tmp 13) (.seq (.ops [f 16 2 1 1,l 17 1 16,f 18 3 1 1,l 19 1 18,⟨some 20,none,.bsl 3 1 2 [.int .i64 0,
 .int .i64 0] [(0,(1,(.tmp 17))),(1,(1,(.tmp 19)))]⟩,m 2 20]) .ret) .skip)))))) (.seq (.ops [⟨some 2,none,.mv (.const (.slice none 0 0))⟩]) .ret)))
theorem f_scref24_Uses : compF Try.prog 69 = some (21, c_scref24_Uses, [.tmp 2]) := by kernel_rfl
def c_choose_writer_own:VC:=(.seq (.ops [i 4 0]) (.seq (.ops [m 5 0,k 6 5,f 7 6 1 6,l 8 1 7,m 9 0,k 10 9,f 11 8 1 10,l 12 1 11,x 13 1 8 12,l 14 1 13,m 15 1,B 16 .sub 14 15,
 b 17 .sub 16 1,m 4 17]) .ret))
theorem f_choose_writer_own : compF Try.prog 70 = some (18, c_choose_writer_own, [.tmp 4]) := by kernel_rfl
def c_choose_writer_fetch:VC:=(.seq (.ops [i 6 0]) (.seq (.ops [m 8 0,k 9 8,f 10 9 1 9,l 11 1 10,m 12 1,x 13 1 11 12,l 14 1 13,m 7 14]) (.seq (.seq (.ops [m 15 7,
 b 16 .gtr 15 0]) (.cond (.tmp 16) (.seq (.ops [m 17 7,m 6 17]) .ret) .skip)) (.seq (.ops [m 18 0,m 19 2,m 20 0,m 21 7,⟨some 22,none,.callM false (.func 70) [.tmp 20,.tmp 21]⟩,
 ⟨some 23,none,.callM false (.func 50) [(.tmp 18),(.const (.int .i64 16)),(.tmp 19),(.const (.int .i64 0)),(.tmp 22)]⟩]) (.seq (.ops [m 24 2,m 6 24]) .ret)))))
theorem f_choose_writer_fetch : compF Try.prog 71 = some (25, c_choose_writer_fetch, [.tmp 6]) := by kernel_rfl
def c_choose_writer_constant:VC:=(.seq (.seq (.ops [m 7 2,⟨some 8,none,.bin .eql (.tmp 7) (.const (.int .u32 0))⟩,m 9 8,⟨some 10,some (9,true),.mv (.tmp 0)⟩,⟨some 11,some (9,true),
 .nck (.tmp 10)⟩,⟨some 12,some (9,true),.fad 9 false 1 (.tmp 11)⟩,⟨some 13,some (9,true),.ld false 1 (.tmp 12)⟩,⟨some 14,some (9,true),.mv (.tmp 1)⟩,⟨some 15,some (9,true),
 .idx 1 (.tmp 13) (.tmp 14)⟩,⟨some 16,some (9,true),.ld false 1 (.tmp 15)⟩,⟨some 17,some (9,true),.bin .lss (.tmp 16) (.const (.int .i64 0))⟩,⟨some 18,none,
 .pick (.tmp 9) (.tmp 17) (.const (.bool false))⟩]) (.cond (.tmp 18) (.seq (.ops [m 19 0,m 20 1,⟨some 21,none,.callM false (.func 51) [(.tmp 19),(.tmp 20),
 (.const (.int .i64 0))]⟩]) .ret) .skip)) (.seq (.ops [m 22 0,m 23 1,⟨some 24,none,.callM false (.func 74) [.tmp 22,.tmp 23]⟩,m 6 24]) (.seq (.ops [m 25 0,m 26 6,m 27 2,⟨some 28,
 none,.bin .and (.tmp 27) (.const (.int .u32 65535))⟩,⟨some 29,none,.conv .i64 (.tmp 28)⟩,⟨some 30,none,.callM false (.func 50) [(.tmp 25),(.const (.int .i64 1)),(.tmp 26),
 (.const (.int .i64 0)),(.tmp 29)]⟩]) (.seq (.seq (.ops [m 31 2,⟨some 32,none,.bin .shr (.tmp 31) (.const (.int .u64 16))⟩,⟨some 33,none,
 .bin .neq (.tmp 32) (.const (.int .u32 0))⟩]) (.cond (.tmp 33) (.ops [m 34 0,m 35 6,m 36 2,⟨some 37,none,.bin .shr (.tmp 36) (.const (.int .u64 16))⟩,⟨some 38,none,
 .conv .i64 (.tmp 37)⟩,⟨some 39,none,.callM false (.func 50) [(.tmp 34),(.const (.int .i64 2)),(.tmp 35),(.const (.int .i64 0)),(.tmp 38)]⟩]) .skip)) (.ops [m 40 0,m 41 1,m 42 6,
 ⟨some 43,none,.callM false (.func 51) [.tmp 40,.tmp 41,.tmp 42]⟩])))))
theorem f_choose_writer_constant : compF Try.prog 72 = some (44, c_choose_writer_constant, []) := by kernel_rfl
def c_choose_writer_copied:VC:=(.seq (.seq (.ops [m 8 0,k 9 8,f 10 9 1 9,l 11 1 10,m 12 1,x 13 1 11 12,l 14 1 13,m 15 0,k 16 15,f 17 9 1 16,l 18 1 17,m 19 2,x 20 1 18 19,l 21 1 20,
 B 22 .eql 14 21]) (.cond (.tmp 22) .ret .skip)) (.seq (.seq (.ops [m 23 0,k 24 23,f 25 9 1 24,l 26 1 25,m 27 1,x 28 1 26 27,l 29 1 28,m 6 29]) (.seq (.ops [m 30 6,
 b 31 .gtr 30 0]) (.cond (.tmp 31) (.seq (.seq (.ops [m 32 0,m 33 2,m 34 6,⟨some 35,none,.callM false (.func 71) [.tmp 32,.tmp 33,.tmp 34]⟩,m 7 35]) (.seq (.ops [m 36 7,m 37 6,
 B 38 .neq 36 37]) (.cond (.tmp 38) (.ops [m 39 0,m 40 6,m 41 7,⟨some 42,none,.callM false (.func 50) [(.tmp 39),(.const (.int .i64 3)),(.tmp 40),(.tmp 41),
 (.const (.int .i64 0))]⟩]) .skip))) .ret) .skip))) (.ops [m 43 0,m 44 1,m 45 0,m 46 2,⟨some 47,none,.callM false (.func 71) [(.tmp 45),(.tmp 46),(.const (.int .i64 9))]⟩,⟨some 48,
 none,.callM false (.func 51) [.tmp 43,.tmp 44,.tmp 47]⟩])))
theorem f_choose_writer_copied : compF Try.prog 73 = some (49, c_choose_writer_copied, []) := by kernel_rfl
def c_choose_writer_into:VC:=(.seq (.ops [i 4 0]) (.seq (.seq (.ops [m 6 0,k 7 6,f 8 9 1 7,l 9 1 8,m 10 1,x 11 1 9 10,l 12 1 11,m 5 12]) (.seq (.ops [m 13 5,
 b 14 .gtr 13 0]) (.cond (.tmp 14) (.seq (.ops [m 15 5,m 4 15]) .ret) .skip))) (.seq (.ops [i 4 11]) .ret)))
theorem f_choose_writer_into : compF Try.prog 74 = some (16, c_choose_writer_into, [.tmp 4]) := by kernel_rfl

 def c_choose_writer_jump:VC:=(.seq (.par false (.one (m 10 0) (.one (m 11 0) (.one (k 12 11) (.one (f 13 3 1 12) (.one (l 14 1 13) (.one (m 15 0) (.one (k 16 15) (.one (f 17 2 1 16) (.one (l 18 1 17) (.one (n 19 18) (.one (m 20 3) (.one (m 21 4) (.one ⟨some 22,
 none,.bld [.int .i64 0,.int .i64 0,.int .i64 0] [(0,(1,(.tmp 19))),(1,(1,(.tmp 20))),(2,(1,(.tmp 21)))]⟩ (.one ⟨some 23,none,.bsl 113 3 1 [.int .i64 0,.int .i64 0,.int .i64 0] [(0,
 (3,(.tmp 22)))]⟩ (.one ⟨some 24,none,.app 113 3 24 (.tmp 14) (.tmp 23)⟩ (.one (k 25 10) (.one (f 26 3 1 25) (.one (s 1 26 24) .done))))))))))))))))))) (.ops [m 27 0,m 28 1,m 29 2,
 ⟨some 30,none,.callM false (.func 50) [(.tmp 27),(.tmp 28),(.tmp 29),(.const (.int .i64 0)),(.const (.int .i64 0))]⟩]))
theorem f_choose_writer_jump : compF Try.prog 75 = some (31, c_choose_writer_jump, []) := by kernel_rfl
def c_inst_Right:VC:=(.seq (.ops [X 1 115 0,o 2 false]) (.seq (.seq (.ops [f 5 0 1 1,l 6 1 5,c1 7 87 6,⟨some 8,none,
 .un .not (.tmp 7)⟩]) (.cond (.tmp 8) (.seq (.ops [o 2 false]) .ret) .skip)) (.seq (.ops [f 9 0 1 1,l 10 1 9,c1 11 88 10,⟨(some 3),none,(.alc 148 [(.string ⟨#[]⟩),(.bool false),
 (.bool false),(.int .i64 0)])⟩,S 4 3 11]) (.seq (.ops [i 4 65535]) (.seq (.seq (.ops [f 12 3 1 3,l 13 1 12,
 b 14 .eql 13 2]) (.cond (.tmp 14) (.ops [i 4 15]) .skip)) (.seq (.ops [f 15 1 1 1,l 16 1 15,f 17 1 1 3,l 18 1 17,⟨some 19,none,.call (.func 89) [(.tmp 16),(.const (.int .i64 15)),
 (.tmp 18)]⟩,m 20 19,⟨some 21,some (20,true),.fad 2 false 1 (.tmp 1)⟩,⟨some 22,some (20,true),.ld false 1 (.tmp 21)⟩,⟨some 23,some (20,true),.fad 2 false 1 (.tmp 3)⟩,⟨some 24,
 some (20,true),.ld false 1 (.tmp 23)⟩,⟨some 25,some (20,true),.call (.func 89) [(.tmp 22),(.const (.int .i64 15)),(.tmp 24)]⟩,⟨some 26,none,
 .pick (.tmp 20) (.tmp 25) (.const (.bool false))⟩,m 27 26,⟨some 28,some (27,true),.fad 3 false 1 (.tmp 1)⟩,⟨some 29,some (27,true),.ld false 1 (.tmp 28)⟩,⟨some 30,some (27,true),
 .mv (.tmp 4)⟩,⟨some 31,some (27,true),.fad 3 false 1 (.tmp 3)⟩,⟨some 32,some (27,true),.ld false 1 (.tmp 31)⟩,⟨some 33,some (27,true),.bin .neq (.tmp 32) (.const (.int .i64 0))⟩,
 ⟨some 34,some (27,true),.call (.func 89) [.tmp 29,.tmp 30,.tmp 33]⟩,⟨some 35,none,.pick (.tmp 27) (.tmp 34) (.const (.bool false))⟩,m 2 35]) .ret))))))
theorem f_inst_Right : compF Try.prog 76 = some (36, c_inst_Right, [.tmp 2]) := by kernel_rfl
def c_scref01_Apply:VC:=(.seq (.ops [⟨some 6,none,.mv (.const (.int .u32 0))⟩,i 7 0]) (.seq (.ops [m 10 1,⟨some 11,none,.conv .u64 (.tmp 10)⟩,m 12 2,⟨some 13,none,
 .conv .u64 (.tmp 12)⟩,m 8 11,m 9 13]) (.seq (.seq (.ops [m 14 0]) (.block 0 (.seq (.ops [b 16 .eql 14 4,m 15 16]) (.cond (.tmp 15) (.seq (.ops [m 17 8,m 18 9,B 19 .add 17 18,
 ⟨some 20,none,.bin .rem (.tmp 19) (.const (.int .u64 4294967296))⟩,⟨some 21,none,.conv .u32 (.tmp 20)⟩,m 6 21,i 7 0]) .ret) (.seq (.ops [b 23 .eql 14 5,
 m 22 23]) (.cond (.tmp 22) (.seq (.ops [m 24 8,⟨some 25,none,.bin .add (.tmp 24) (.const (.int .u64 4294967296))⟩,m 26 9,B 27 .sub 25 26,⟨some 28,none,
 .bin .rem (.tmp 27) (.const (.int .u64 4294967296))⟩,⟨some 29,none,.conv .u32 (.tmp 28)⟩,m 6 29,i 7 0]) .ret) (.seq (.ops [b 31 .eql 14 6,
 m 30 31]) (.cond (.tmp 30) (.seq (.ops [m 32 8,m 33 9,B 34 .mul 32 33,⟨some 35,none,.bin .rem (.tmp 34) (.const (.int .u64 4294967296))⟩,⟨some 36,none,.conv .u32 (.tmp 35)⟩,m 6 36,
 i 7 0]) .ret) (.seq (.ops [b 38 .eql 14 7,m 37 38]) (.cond (.tmp 37) (.seq (.seq (.ops [m 39 2,⟨some 40,none,
 .bin .eql (.tmp 39) (.const (.int .u32 0))⟩]) (.cond (.tmp 40) (.seq (.ops [⟨some 6,none,.mv (.const (.int .u32 0))⟩,i 7 14]) .ret) .skip)) (.seq (.ops [m 41 8,m 42 9,
 B 43 .quo 41 42,⟨some 44,none,.conv .u32 (.tmp 43)⟩,m 6 44,i 7 0]) .ret)) (.seq (.ops [b 46 .eql 14 8,m 45 46]) (.cond (.tmp 45) (.seq (.seq (.ops [m 47 2,⟨some 48,none,
 .bin .eql (.tmp 47) (.const (.int .u32 0))⟩]) (.cond (.tmp 48) (.seq (.ops [⟨some 6,none,.mv (.const (.int .u32 0))⟩,i 7 14]) .ret) .skip)) (.seq (.ops [m 49 8,m 50 9,
 B 51 .rem 49 50,⟨some 52,none,.conv .u32 (.tmp 51)⟩,m 6 52,i 7 0]) .ret)) (.seq (.seq (.ops [b 54 .eql 14 9,m 53 54]) (.cond (.tmp 53) .skip (.seq (.ops [b 55 .eql 14 10,
 m 53 55]) (.cond (.tmp 53) .skip (.ops [b 56 .eql 14 11,m 53 56]))))) (.cond (.tmp 53) (.seq (.ops [m 57 0,m 58 1,m 59 2,c3 60 90 57 58 59,m 6 60,
 i 7 0]) .ret) (.seq (.seq (.ops [b 62 .eql 14 12,m 61 62]) (.cond (.tmp 61) .skip (.ops [b 63 .eql 14 13,m 61 63]))) (.cond (.tmp 61) (.seq (.ops [m 64 0,m 65 1,m 66 2,
 c3 67 91 64 65 66,m 6 67,i 7 0]) .ret) (.seq (.ops [b 69 .eql 14 14,m 68 69]) (.cond (.tmp 68) (.seq (.ops [m 70 1,m 71 2,B 72 .lss 70 71,c1 73 92 72,m 6 73,
 i 7 0]) .ret) (.seq (.ops [b 75 .eql 14 15,m 74 75]) (.cond (.tmp 74) (.seq (.ops [m 76 1,m 77 2,B 78 .eql 76 77,c1 79 92 78,m 6 79,
 i 7 0]) .ret) .skip)))))))))))))))))))) (.seq (.ops [⟨some 6,none,.mv (.const (.int .u32 0))⟩,i 7 1]) .ret))))
theorem f_scref01_Apply : compF Try.prog 77 = some (80, c_scref01_Apply, [.tmp 6,.tmp 7]) := by kernel_rfl
def c_scref10_Code:VC:=(.seq (.ops [X 1 30 0,⟨some 2,none,.mv (.const (.slice none 0 0))⟩,⟨some 3,none,.mv (.const (.slice none 0 0))⟩]) (.seq (.ops [f 9 0 1 1,l 10 1 9,n 11 10,
 ⟨some 12,none,.mk 115 4 32 [.int .i64 0,.int .i64 0,.int .i64 0,.int .i64 0] (.tmp 11) (.tmp 11)⟩,m 4 12]) (.seq (.ops [f 13 0 1 1,l 14 1 13,n 15 14,⟨some 16,none,
 .mk 4 1 1 [.bool false] (.tmp 15) (.tmp 15)⟩,m 5 16]) (.seq (.seq (.ops [i 6 0]) (.block 0 (.loop (.seq (.seq (.ops [m 17 6,f 18 0 1 1,l 19 1 18,n 20 19,
 B 21 .lss 17 20]) (.cond (.tmp 21) .skip (.exit 0))) (.seq (.block 1 (.seq (.ops [f 25 0 1 1,l 26 1 25,m 27 6,x 28 1 26 27,l 29 1 28,c1 30 93 29,m 24 30,e 31 24 0,e 32 24 1,
 ⟨some 7,none,.alc 115 [.int .i64 0,.int .i64 0,.int .i64 0,.int .i64 0]⟩,S 4 7 31,m 8 32]) (.ops [m 33 4,m 34 6,m 35 5,m 36 6,L 37 4 7,m 38 8,b 39 .eql 38 0,x 40 4 33 34,S 4 40 37,
 x 41 1 35 36,s 1 41 39]))) (.ops [m 22 6,b 23 .add 22 1,m 6 23])))))) (.seq (.ops [m 42 4,m 43 5,m 2 42,m 3 43]) .ret)))))
theorem f_scref10_Code : compF Try.prog 78 = some (44, c_scref10_Code, [.tmp 2,.tmp 3]) := by kernel_rfl
def c_scref24_within:VC:=(.seq (.ops [o 4 false]) (.seq (.ops [m 5 0,b 6 .geq 5 0,m 7 6,⟨some 8,some (7,true),.mv (.tmp 0)⟩,⟨some 9,some (7,true),.mv (.tmp 1)⟩,⟨some 10,some (7,
 true),.bin .lss (.tmp 8) (.tmp 9)⟩,⟨some 11,none,.pick (.tmp 7) (.tmp 10) (.const (.bool false))⟩,m 4 11]) .ret))
theorem f_scref24_within : compF Try.prog 80 = some (12, c_scref24_within, [.tmp 4]) := by kernel_rfl
def c_live_row_add:VC:=(.ops [m 4 0,m 5 1,b 6 .quo 5 64,x 7 1 4 6,l 8 1 7,m 9 1,b 10 .rem 9 64,⟨some 11,none,.bin .shl (.const (.int .u64 1)) (.tmp 10)⟩,B 12 .or 8 11,x 13 1 4 6,
 s 1 13 12])
theorem f_live_row_add : compF Try.prog 82 = some (14, c_live_row_add, []) := by kernel_rfl
def c_live_down:VC:=(.seq (.ops [X 1 3 0,⟨some 2,none,.mv (.const .nilFunc)⟩]) (.seq (.ops [⟨some 3,none,.mkf 98 [.tmp 1]⟩,m 2 3]) .ret))
theorem f_live_down : compF Try.prog 83 = some (4, c_live_down, [.tmp 2]) := by kernel_rfl
def c_block_Sets:VC:=(.seq (.ops [X 1 47 0,i 2 0]) (.seq (.seq (.ops [f 3 0 1 1,l 4 1 3,c1 5 99 4]) (.cond (.tmp 5) (.seq (.ops [f 6 1 1 1,l 7 1 6,
 m 2 7]) .ret) .skip)) (.seq (.ops [⟨some 2,none,.mv (.const (.int .i64 (-1)))⟩]) .ret)))
theorem f_block_Sets : compF Try.prog 84 = some (8, c_block_Sets, [.tmp 2]) := by kernel_rfl
def c_live_row_remove:VC:=(.ops [m 4 0,m 5 1,b 6 .quo 5 64,x 7 1 4 6,l 8 1 7,m 9 1,b 10 .rem 9 64,⟨some 11,none,.bin .shl (.const (.int .u64 1)) (.tmp 10)⟩,B 12 .andNot 8 11,
 x 13 1 4 6,s 1 13 12])
theorem f_live_row_remove : compF Try.prog 85 = some (14, c_live_row_remove, []) := by kernel_rfl
def c_block_Uses:VC:=(.seq (.ops [X 1 47 0,⟨some 2,none,.mv (.const (.slice none 0 0))⟩]) (.seq (.seq (.ops [f 3 0 1 1,l 4 1 3,c1 5 100 4]) (.block 0 (.seq (.ops [b 7 .eql 5 1,
 m 6 7]) (.cond (.tmp 6) (.seq (.ops [f 8 2 1 1,l 9 1 8,⟨some 10,none,.bsl 3 1 1 [.int .i64 0] [(0,(1,(.tmp 9)))]⟩,m 2 10]) .ret) (.seq (.ops [b 12 .eql 5 2,
 m 11 12]) (.cond (.tmp 11) (.seq (.ops [f 13 2 1 1,l 14 1 13,f 15 3 1 1,l 16 1 15,⟨some 17,none,.bsl 3 1 2 [.int .i64 0,.int .i64 0] [(0,(1,(.tmp 14))),(1,(1,(.tmp 16)))]⟩,
 m 2 17]) .ret) .skip)))))) (.seq (.ops [⟨some 2,none,.mv (.const (.slice none 0 0))⟩]) .ret)))
theorem f_block_Uses : compF Try.prog 86 = some (18, c_block_Uses, [.tmp 2]) := by kernel_rfl
def c_inst_known:VC:=(.seq (.ops [o 2 false]) (.seq (.ops [m 3 0,c1 4 88 3,⟨some 5,none,.fld 0 false 1 (.tmp 4)⟩,⟨(some 6),none,(.bin .neq (.tmp 5) (.const (.string ⟨#[]⟩)))⟩,
 m 2 6]) .ret))
theorem f_inst_known : compF Try.prog 87 = some (7, c_inst_known, [.tmp 2]) := by kernel_rfl
def c_inst_shapeOf:VC:=(.seq (.ops [⟨(some 2),none,(.alc 148 [(.string ⟨#[]⟩),(.bool false),(.bool false),
 (.int .i64 0)])⟩]) (.seq (.seq (.ops [m 3 0]) (.block 0 (.seq (.ops [b 5 .eql 3 1,m 4 5]) (.cond (.tmp 4) (.seq (.ops [⟨(some 6),none,(.bld [(.string ⟨#[]⟩),(.bool false),
 (.bool false),(.int .i64 0)] [(0,(1,(.const (.string ⟨#[108,105]⟩)))),(1,(1,(.const (.bool true)))),(2,(1,(.const (.bool false)))),(3,(1,(.const (.int .i64 1))))])⟩,
 S 4 2 6]) .ret) (.seq (.ops [b 8 .eql 3 2,m 7 8]) (.cond (.tmp 7) (.seq (.ops [⟨(some 9),none,(.bld [(.string ⟨#[]⟩),(.bool false),(.bool false),(.int .i64 0)] [(0,(1,
 (.const (.string ⟨#[108,117,105]⟩)))),(1,(1,(.const (.bool true)))),(2,(1,(.const (.bool false)))),(3,(1,(.const (.int .i64 1))))])⟩,S 4 2 9]) .ret) (.seq (.ops [b 11 .eql 3 3,
 m 10 11]) (.cond (.tmp 10) (.seq (.ops [⟨(some 12),none,(.bld [(.string ⟨#[]⟩),(.bool false),(.bool false),(.int .i64 0)] [(0,(1,(.const (.string ⟨#[109,111,118]⟩)))),(1,(1,
 (.const (.bool true)))),(2,(1,(.const (.bool true)))),(3,(1,(.const (.int .i64 0))))])⟩,S 4 2 12]) .ret) (.seq (.ops [b 14 .eql 3 4,
 m 13 14]) (.cond (.tmp 13) (.seq (.ops [⟨(some 15),none,(.bld [(.string ⟨#[]⟩),(.bool false),(.bool false),(.int .i64 0)] [(0,(1,(.const (.string ⟨#[97,100,100]⟩)))),(1,(1,
 (.const (.bool true)))),(2,(1,(.const (.bool true)))),(3,(1,(.const (.int .i64 2))))])⟩,S 4 2 15]) .ret) (.seq (.ops [b 17 .eql 3 5,
 m 16 17]) (.cond (.tmp 16) (.seq (.ops [⟨(some 18),none,(.bld [(.string ⟨#[]⟩),(.bool false),(.bool false),(.int .i64 0)] [(0,(1,(.const (.string ⟨#[115,117,98]⟩)))),(1,(1,
 (.const (.bool true)))),(2,(1,(.const (.bool true)))),(3,(1,(.const (.int .i64 2))))])⟩,S 4 2 18]) .ret) (.seq (.ops [b 20 .eql 3 6,
 m 19 20]) (.cond (.tmp 19) (.seq (.ops [⟨(some 21),none,(.bld [(.string ⟨#[]⟩),(.bool false),(.bool false),(.int .i64 0)] [(0,(1,(.const (.string ⟨#[109,117,108]⟩)))),(1,(1,
 (.const (.bool true)))),(2,(1,(.const (.bool true)))),(3,(1,(.const (.int .i64 2))))])⟩,S 4 2 21]) .ret) (.seq (.ops [b 23 .eql 3 7,
 m 22 23]) (.cond (.tmp 22) (.seq (.ops [⟨(some 24),none,(.bld [(.string ⟨#[]⟩),(.bool false),(.bool false),(.int .i64 0)] [(0,(1,(.const (.string ⟨#[100,105,118]⟩)))),(1,(1,
 (.const (.bool true)))),(2,(1,(.const (.bool true)))),(3,(1,(.const (.int .i64 2))))])⟩,S 4 2 24]) .ret) (.seq (.ops [b 26 .eql 3 8,
 m 25 26]) (.cond (.tmp 25) (.seq (.ops [⟨(some 27),none,(.bld [(.string ⟨#[]⟩),(.bool false),(.bool false),(.int .i64 0)] [(0,(1,(.const (.string ⟨#[109,111,100]⟩)))),(1,(1,
 (.const (.bool true)))),(2,(1,(.const (.bool true)))),(3,(1,(.const (.int .i64 2))))])⟩,S 4 2 27]) .ret) (.seq (.ops [b 29 .eql 3 9,
 m 28 29]) (.cond (.tmp 28) (.seq (.ops [⟨(some 30),none,(.bld [(.string ⟨#[]⟩),(.bool false),(.bool false),(.int .i64 0)] [(0,(1,(.const (.string ⟨#[97,110,100]⟩)))),(1,(1,
 (.const (.bool true)))),(2,(1,(.const (.bool true)))),(3,(1,(.const (.int .i64 2))))])⟩,S 4 2 30]) .ret) (.seq (.ops [b 32 .eql 3 10,
 m 31 32]) (.cond (.tmp 31) (.seq (.ops [⟨(some 33),none,(.bld [(.string ⟨#[]⟩),(.bool false),(.bool false),(.int .i64 0)] [(0,(1,(.const (.string ⟨#[111,114]⟩)))),(1,(1,
 (.const (.bool true)))),(2,(1,(.const (.bool true)))),(3,(1,(.const (.int .i64 2))))])⟩,S 4 2 33]) .ret) (.seq (.ops [b 35 .eql 3 11,
 m 34 35]) (.cond (.tmp 34) (.seq (.ops [⟨(some 36),none,(.bld [(.string ⟨#[]⟩),(.bool false),(.bool false),(.int .i64 0)] [(0,(1,(.const (.string ⟨#[120,111,114]⟩)))),(1,(1,
 (.const (.bool true)))),(2,(1,(.const (.bool true)))),(3,(1,(.const (.int .i64 2))))])⟩,S 4 2 36]) .ret) (.seq (.ops [b 38 .eql 3 12,
 m 37 38]) (.cond (.tmp 37) (.seq (.ops [⟨(some 39),none,(.bld [(.string ⟨#[]⟩),(.bool false),(.bool false),(.int .i64 0)] [(0,(1,(.const (.string ⟨#[115,104,108]⟩)))),(1,(1,
 (.const (.bool true)))),(2,(1,(.const (.bool true)))),(3,(1,(.const (.int .i64 2))))])⟩,S 4 2 39]) .ret) (.seq (.ops [b 41 .eql 3 13,
 m 40 41]) (.cond (.tmp 40) (.seq (.ops [⟨(some 42),none,(.bld [(.string ⟨#[]⟩),(.bool false),(.bool false),(.int .i64 0)] [(0,(1,(.const (.string ⟨#[115,104,114]⟩)))),(1,(1,
 (.const (.bool true)))),(2,(1,(.const (.bool true)))),(3,(1,(.const (.int .i64 2))))])⟩,S 4 2 42]) .ret) (.seq (.ops [b 44 .eql 3 14,
 m 43 44]) (.cond (.tmp 43) (.seq (.ops [⟨(some 45),none,(.bld [(.string ⟨#[]⟩),(.bool false),(.bool false),(.int .i64 0)] [(0,(1,(.const (.string ⟨#[108,116]⟩)))),(1,(1,
 (.const (.bool true)))),(2,(1,(.const (.bool true)))),(3,(1,(.const (.int .i64 2))))])⟩,S 4 2 45]) .ret) (.seq (.ops [b 47 .eql 3 15,
 m 46 47]) (.cond (.tmp 46) (.seq (.ops [⟨(some 48),none,(.bld [(.string ⟨#[]⟩),(.bool false),(.bool false),(.int .i64 0)] [(0,(1,(.const (.string ⟨#[101,113]⟩)))),(1,(1,
 (.const (.bool true)))),(2,(1,(.const (.bool true)))),(3,(1,(.const (.int .i64 2))))])⟩,S 4 2 48]) .ret) (.seq (.ops [b 50 .eql 3 16,
 m 49 50]) (.cond (.tmp 49) (.seq (.ops [⟨(some 51),none,(.bld [(.string ⟨#[]⟩),(.bool false),(.bool false),(.int .i64 0)] [(0,(1,(.const (.string ⟨#[108,100]⟩)))),(1,(1,
 (.const (.bool true)))),(2,(1,(.const (.bool true)))),(3,(1,(.const (.int .i64 1))))])⟩,S 4 2 51]) .ret) (.seq (.ops [b 53 .eql 3 17,
 m 52 53]) (.cond (.tmp 52) (.seq (.ops [⟨(some 54),none,(.bld [(.string ⟨#[]⟩),(.bool false),(.bool false),(.int .i64 0)] [(0,(1,(.const (.string ⟨#[115,116]⟩)))),(1,(1,
 (.const (.bool true)))),(2,(1,(.const (.bool true)))),(3,(1,(.const (.int .i64 1))))])⟩,S 4 2 54]) .ret) (.seq (.ops [b 56 .eql 3 18,
 m 55 56]) (.cond (.tmp 55) (.seq (.ops [⟨(some 57),none,(.bld [(.string ⟨#[]⟩),(.bool false),(.bool false),(.int .i64 0)] [(0,(1,(.const (.string ⟨#[106,109,112]⟩)))),(1,(1,
 (.const (.bool false)))),(2,(1,(.const (.bool false)))),(3,(1,(.const (.int .i64 1))))])⟩,S 4 2 57]) .ret) (.seq (.ops [b 59 .eql 3 19,
 m 58 59]) (.cond (.tmp 58) (.seq (.ops [⟨(some 60),none,(.bld [(.string ⟨#[]⟩),(.bool false),(.bool false),(.int .i64 0)] [(0,(1,(.const (.string ⟨#[106,122]⟩)))),(1,(1,
 (.const (.bool true)))),(2,(1,(.const (.bool false)))),(3,(1,(.const (.int .i64 1))))])⟩,S 4 2 60]) .ret) (.seq (.ops [b 62 .eql 3 20,
 m 61 62]) (.cond (.tmp 61) (.seq (.ops [⟨(some 63),none,(.bld [(.string ⟨#[]⟩),(.bool false),(.bool false),(.int .i64 0)] [(0,(1,(.const (.string ⟨#[106,110,122]⟩)))),(1,(1,
 (.const (.bool true)))),(2,(1,(.const (.bool false)))),(3,(1,(.const (.int .i64 1))))])⟩,S 4 2 63]) .ret) (.seq (.ops [b 65 .eql 3 21,
 m 64 65]) (.cond (.tmp 64) (.seq (.ops [⟨(some 66),none,(.bld [(.string ⟨#[]⟩),(.bool false),(.bool false),(.int .i64 0)] [(0,(1,(.const (.string ⟨#[99,97,108,108]⟩)))),(1,(1,
 (.const (.bool true)))),(2,(1,(.const (.bool false)))),(3,(1,(.const (.int .i64 1))))])⟩,S 4 2 66]) .ret) (.seq (.ops [b 68 .eql 3 22,
 m 67 68]) (.cond (.tmp 67) (.seq (.ops [⟨(some 69),none,(.bld [(.string ⟨#[]⟩),(.bool false),(.bool false),(.int .i64 0)] [(0,(1,(.const (.string ⟨#[114,101,116]⟩)))),(1,(1,
 (.const (.bool true)))),(2,(1,(.const (.bool false)))),(3,(1,(.const (.int .i64 0))))])⟩,S 4 2 69]) .ret) (.seq (.ops [b 71 .eql 3 23,
 m 70 71]) (.cond (.tmp 70) (.seq (.ops [⟨(some 72),none,(.bld [(.string ⟨#[]⟩),(.bool false),(.bool false),(.int .i64 0)] [(0,(1,(.const (.string ⟨#[103,101,116]⟩)))),(1,(1,
 (.const (.bool true)))),(2,(1,(.const (.bool false)))),(3,(1,(.const (.int .i64 0))))])⟩,S 4 2 72]) .ret) (.seq (.ops [b 74 .eql 3 24,
 m 73 74]) (.cond (.tmp 73) (.seq (.ops [⟨(some 75),none,(.bld [(.string ⟨#[]⟩),(.bool false),(.bool false),(.int .i64 0)] [(0,(1,(.const (.string ⟨#[112,117,116]⟩)))),(1,(1,
 (.const (.bool true)))),(2,(1,(.const (.bool false)))),(3,(1,(.const (.int .i64 0))))])⟩,S 4 2 75]) .ret) (.seq (.ops [b 77 .eql 3 25,
 m 76 77]) (.cond (.tmp 76) (.seq (.ops [⟨(some 78),none,(.bld [(.string ⟨#[]⟩),(.bool false),(.bool false),(.int .i64 0)] [(0,(1,(.const (.string ⟨#[99,104,107]⟩)))),(1,(1,
 (.const (.bool true)))),(2,(1,(.const (.bool false)))),(3,(1,(.const (.int .i64 1))))])⟩,S 4 2 78]) .ret) (.seq (.ops [b 80 .eql 3 26,
 m 79 80]) (.cond (.tmp 79) (.seq (.ops [⟨(some 81),none,(.bld [(.string ⟨#[]⟩),(.bool false),(.bool false),(.int .i64 0)] [(0,(1,(.const (.string ⟨#[104,97,108,116]⟩)))),(1,(1,
 (.const (.bool false)))),(2,(1,(.const (.bool false)))),(3,(1,(.const (.int .i64 0))))])⟩,S 4 2 81]) .ret) (.seq (.ops [b 83 .eql 3 27,
 m 82 83]) (.cond (.tmp 82) (.seq (.ops [⟨(some 84),none,(.bld [(.string ⟨#[]⟩),(.bool false),(.bool false),(.int .i64 0)] [(0,(1,(.const (.string ⟨#[108,100,99]⟩)))),(1,(1,
 (.const (.bool true)))),(2,(1,(.const (.bool true)))),(3,(1,(.const (.int .i64 1))))])⟩,
 S 4 2 84]) .ret) .skip)))))))))))))))))))))))))))))))))))))))))))))))))))))))) (.seq (.ops [⟨(some 85),none,(.bld [(.string ⟨#[]⟩),(.bool false),(.bool false),(.int .i64 0)] [])⟩,
 S 4 2 85]) .ret)))
theorem f_inst_shapeOf : compF Try.prog 88 = some (86, c_inst_shapeOf, [(.cell 2 true 4)]) := by kernel_rfl
def c_inst_within:VC:=(.seq (.ops [o 6 false]) (.seq (.seq (.ops [m 7 2,⟨some 8,none,.un .not (.tmp 7)⟩]) (.cond (.tmp 8) (.seq (.ops [m 9 0,b 10 .eql 9 0,
 m 6 10]) .ret) .skip)) (.seq (.ops [m 11 0,b 12 .geq 11 0,m 13 12,⟨some 14,some (13,true),.mv (.tmp 0)⟩,⟨some 15,some (13,true),.mv (.tmp 1)⟩,⟨some 16,some (13,true),
 .bin .leq (.tmp 14) (.tmp 15)⟩,⟨some 17,none,.pick (.tmp 13) (.tmp 16) (.const (.bool false))⟩,m 6 17]) .ret)))
theorem f_inst_within : compF Try.prog 89 = some (18, c_inst_within, [.tmp 6]) := by kernel_rfl
def c_scref01_both:VC:=(.seq (.ops [⟨some 6,none,.mv (.const (.int .u32 0))⟩]) (.seq (.ops [m 11 1,c1 12 101 11,m 13 2,c1 14 101 13,m 7 12,
 m 8 14]) (.seq (.seq (.ops [i 9 0]) (.block 0 (.loop (.seq (.seq (.ops [m 15 9,b 16 .lss 15 32]) (.cond (.tmp 16) .skip (.exit 0))) (.seq (.block 1 (.seq (.ops [m 19 7,m 20 9,
 x 21 1 19 20,l 22 1 21,m 23 8,m 24 9,x 25 1 23 24,l 26 1 25,B 27 .add 22 26,m 10 27]) (.seq (.ops [m 28 7,m 29 9,x 30 1 28 29,⟨none,none,
 .sto false 1 (.tmp 30) (.const (.int .i64 0))⟩]) (.seq (.ops [m 31 10,b 32 .eql 31 2,m 33 32,⟨some 34,some (33,true),.mv (.tmp 0)⟩,⟨some 35,some (33,true),
 .bin .neq (.tmp 34) (.const (.int .i64 11))⟩,⟨some 36,none,.pick (.tmp 33) (.tmp 35) (.const (.bool false))⟩,m 37 36,⟨some 38,some (37,false),.mv (.tmp 10)⟩,⟨some 39,some (37,
 false),.bin .eql (.tmp 38) (.const (.int .i64 1))⟩,⟨some 40,some (37,false),.mv (.tmp 39)⟩,⟨some 41,some (40,true),.mv (.tmp 0)⟩,⟨some 42,some (40,true),
 .bin .neq (.tmp 41) (.const (.int .i64 9))⟩,⟨some 43,some (37,false),.pick (.tmp 40) (.tmp 42) (.const (.bool false))⟩,⟨some 44,none,
 .pick (.tmp 37) (.const (.bool true)) (.tmp 43)⟩]) (.cond (.tmp 44) (.ops [m 45 7,m 46 9,x 47 1 45 46,⟨none,none,
 .sto false 1 (.tmp 47) (.const (.int .i64 1))⟩]) .skip))))) (.ops [m 17 9,b 18 .add 17 1,m 9 18])))))) (.seq (.ops [m 48 7,c1 49 102 48,m 6 49]) .ret))))
theorem f_scref01_both : compF Try.prog 90 = some (50, c_scref01_both, [.tmp 6]) := by kernel_rfl
def c_scref01_shift:VC:=(.seq (.ops [⟨some 6,none,.mv (.const (.int .u32 0))⟩]) (.seq (.seq (.ops [m 9 2,⟨some 10,none,
 .bin .geq (.tmp 9) (.const (.int .u32 32))⟩]) (.cond (.tmp 10) (.seq (.ops [⟨some 6,none,.mv (.const (.int .u32 0))⟩]) .ret) .skip)) (.seq (.ops [m 11 1,⟨some 12,none,
 .conv .u64 (.tmp 11)⟩,m 7 12]) (.seq (.seq (.ops [⟨some 8,none,.mv (.const (.int .u32 0))⟩]) (.block 0 (.loop (.seq (.seq (.ops [m 13 8,m 14 2,
 B 15 .lss 13 14]) (.cond (.tmp 15) .skip (.exit 0))) (.seq (.block 1 (.seq (.ops [m 18 0,b 19 .eql 18 12]) (.cond (.tmp 19) (.ops [m 20 7,⟨some 21,none,
 .bin .mul (.const (.int .u64 2)) (.tmp 20)⟩,⟨some 22,none,.bin .rem (.tmp 21) (.const (.int .u64 4294967296))⟩,m 7 22]) (.ops [m 23 7,⟨some 24,none,
 .bin .quo (.tmp 23) (.const (.int .u64 2))⟩,m 7 24])))) (.ops [m 16 8,⟨some 17,none,.bin .add (.tmp 16) (.const (.int .u32 1))⟩,m 8 17])))))) (.seq (.ops [m 25 7,⟨some 26,none,
 .conv .u32 (.tmp 25)⟩,m 6 26]) .ret)))))
theorem f_scref01_shift : compF Try.prog 91 = some (27, c_scref01_shift, [.tmp 6]) := by kernel_rfl
def c_scref01_flag:VC:=(.seq (.ops [⟨some 2,none,.mv (.const (.int .u32 0))⟩]) (.seq (.seq (.ops [m 3 0]) (.cond (.tmp 3) (.seq (.ops [⟨some 2,none,
 .mv (.const (.int .u32 1))⟩]) .ret) .skip)) (.seq (.ops [⟨some 2,none,.mv (.const (.int .u32 0))⟩]) .ret)))
theorem f_scref01_flag : compF Try.prog 92 = some (4, c_scref01_flag, [.tmp 2]) := by kernel_rfl
def c_scref07_Decode:VC:=(.seq (.ops [⟨some 2,none,.alc 115 [.int .i64 0,.int .i64 0,.int .i64 0,.int .i64 0]⟩,i 3 0]) (.seq (.ops [m 5 0,⟨some 6,none,
 .bin .quo (.tmp 5) (.const (.int .u32 16777216))⟩,⟨some 7,none,.conv .i64 (.tmp 6)⟩,m 8 0,⟨some 9,none,.bin .quo (.tmp 8) (.const (.int .u32 1048576))⟩,⟨some 10,none,
 .bin .rem (.tmp 9) (.const (.int .u32 16))⟩,⟨some 11,none,.conv .i64 (.tmp 10)⟩,m 12 0,⟨some 13,none,.bin .quo (.tmp 12) (.const (.int .u32 65536))⟩,⟨some 14,none,
 .bin .rem (.tmp 13) (.const (.int .u32 16))⟩,⟨some 15,none,.conv .i64 (.tmp 14)⟩,m 16 0,⟨some 17,none,.bin .rem (.tmp 16) (.const (.int .u32 65536))⟩,⟨some 18,none,
 .conv .i64 (.tmp 17)⟩,⟨some 19,none,.bld [.int .i64 0,.int .i64 0,.int .i64 0,.int .i64 0] [(0,(1,(.tmp 7))),(1,(1,(.tmp 11))),(2,(1,(.tmp 15))),(3,(1,(.tmp 18)))]⟩,⟨some 4,none,
 .alc 115 [.int .i64 0,.int .i64 0,.int .i64 0,.int .i64 0]⟩,S 4 4 19]) (.seq (.seq (.ops [L 20 4 4,c1 21 103 20,⟨some 22,none,
 .un .not (.tmp 21)⟩]) (.cond (.tmp 22) (.seq (.ops [⟨some 23,none,.bld [.int .i64 0,.int .i64 0,.int .i64 0,.int .i64 0] []⟩,S 4 2 23,i 3 7]) .ret) .skip)) (.seq (.ops [L 24 4 4,
 S 4 2 24,i 3 0]) .ret))))
theorem f_scref07_Decode : compF Try.prog 93 = some (25, c_scref07_Decode, [(.cell 2 true 4), (.tmp 3)]) := by kernel_rfl
def c_scref10_work_set:VC:=(.seq (.ops [m 6 0,m 7 1,m 8 2,k 9 6,F 10 0 22 9,F 11 1 16 10,⟨some 12,none,.aidx 16 false 1 (.tmp 11) (.tmp 7)⟩,s 1 12 8]) (.ops [m 13 0,k 14 13,
 F 15 0 22 14,f 16 0 1 15,l 17 1 16,b 18 .add 17 1,k 19 13,F 20 0 22 19,f 21 0 1 20,s 1 21 18]))
theorem f_scref10_work_set : compF Try.prog 94 = some (22, c_scref10_work_set, []) := by kernel_rfl
def c_scref10_fetch:VC:=(.seq (.ops [⟨some 6,none,.mv (.const (.int .u32 0))⟩,o 7 false]) (.seq (.ops [m 9 1,m 10 2,⟨some 11,none,.conv .u32 (.tmp 10)⟩,B 12 .add 9 11,
 m 8 12]) (.seq (.seq (.ops [m 13 8,⟨some 14,none,.conv .u64 (.tmp 13)⟩,m 15 0,n 16 15,⟨some 17,none,.conv .u64 (.tmp 16)⟩,B 18 .geq 14 17]) (.cond (.tmp 18) (.seq (.ops [⟨some 6,
 none,.mv (.const (.int .u32 0))⟩,o 7 false]) .ret) .skip)) (.seq (.ops [m 19 0,m 20 8,x 21 1 19 20,l 22 1 21,m 6 22,o 7 true]) .ret))))
theorem f_scref10_fetch : compF Try.prog 95 = some (23, c_scref10_fetch, [.tmp 6,.tmp 7]) := by kernel_rfl
def c_scref10_work_jump:VC:=(.seq (.ops [m 6 1]) (.cond (.tmp 6) (.ops [m 7 0,m 8 2,k 9 7,F 10 0 22 9,f 11 0 1 10,s 1 11 8]) (.ops [m 12 0,k 13 12,F 14 0 22 13,f 15 0 1 14,
 l 16 1 15,b 17 .add 16 1,k 18 12,F 19 0 22 18,f 20 0 1 19,s 1 20 17])))
theorem f_scref10_work_jump : compF Try.prog 96 = some (21, c_scref10_work_jump, []) := by kernel_rfl
def c_live_down_1:VC:=(.seq (.ops [l 4 1 1,b 5 .sub 4 1,m 3 5]) (.block 0 (.loop (.seq (.seq (.ops [m 6 3,
 b 7 .geq 6 0]) (.cond (.tmp 7) .skip (.exit 0))) (.seq (.block 1 (.seq (.ops [m 10 0,m 11 3,⟨some 12,none,.ycal (.tmp 10) [.tmp 11]⟩,⟨some 13,none,
 .un .not (.tmp 12)⟩]) (.cond (.tmp 13) .ret .skip))) (.ops [m 8 3,b 9 .sub 8 1,m 3 9]))))))
theorem f_live_down_1 : compFB Try.prog true 98 = some (14, c_live_down_1, []) := by kernel_rfl
def c_block_sets:VC:=(.seq (.ops [o 2 false]) (.seq (.seq (.ops [m 3 0]) (.block 0 (.seq (.seq (.ops [b 5 .eql 3 1,m 4 5]) (.cond (.tmp 4) .skip (.seq (.ops [b 6 .eql 3 2,
 m 4 6]) (.cond (.tmp 4) .skip (.seq (.ops [b 7 .eql 3 3,m 4 7]) (.cond (.tmp 4) .skip (.seq (.ops [b 8 .eql 3 4,m 4 8]) (.cond (.tmp 4) .skip (.seq (.ops [b 9 .eql 3 6,
 m 4 9]) (.cond (.tmp 4) .skip (.ops [b 10 .eql 3 8,m 4 10]))))))))))) (.cond (.tmp 4) (.seq (.ops [o 2 true]) .ret) .skip)))) (.seq (.ops [o 2 false]) .ret)))
theorem f_block_sets : compF Try.prog 99 = some (11, c_block_sets, [.tmp 2]) := by kernel_rfl
def c_block_reads:VC:=(.seq (.ops [i 2 0]) (.seq (.seq (.ops [m 3 0]) (.block 0 (.seq (.seq (.ops [b 5 .eql 3 2,m 4 5]) (.cond (.tmp 4) .skip (.seq (.ops [b 6 .eql 3 5,
 m 4 6]) (.cond (.tmp 4) .skip (.seq (.ops [b 7 .eql 3 6,m 4 7]) (.cond (.tmp 4) .skip (.ops [b 8 .eql 3 9,
 m 4 8]))))))) (.cond (.tmp 4) (.seq (.ops [i 2 1]) .ret) (.seq (.seq (.ops [b 10 .eql 3 3,m 9 10]) (.cond (.tmp 9) .skip (.ops [b 11 .eql 3 7,
 m 9 11]))) (.cond (.tmp 9) (.seq (.ops [i 2 2]) .ret) .skip)))))) (.seq (.ops [i 2 0]) .ret)))
theorem f_block_reads : compF Try.prog 100 = some (12, c_block_reads, [.tmp 2]) := by kernel_rfl
def c_scref01_Bits:VC:=(.seq (.ops [⟨some 2,none,.mv (.const (.slice none 0 0))⟩]) (.seq (.ops [⟨some 3,none,
 .mv (.const (.slice none 0 0))⟩]) (.seq (.seq (.ops [i 4 0]) (.block 0 (.loop (.seq (.seq (.ops [m 5 4,
 b 6 .lss 5 32]) (.cond (.tmp 6) .skip (.exit 0))) (.seq (.block 1 (.seq (.ops [m 9 3,m 10 0,⟨some 11,none,.bin .rem (.tmp 10) (.const (.int .u32 2))⟩,⟨some 12,none,
 .conv .i64 (.tmp 11)⟩,⟨some 13,none,.bsl 3 1 1 [.int .i64 0] [(0,(1,(.tmp 12)))]⟩,⟨some 14,none,.app 3 1 8 (.tmp 9) (.tmp 13)⟩,m 3 14]) (.ops [m 15 0,⟨some 16,none,
 .bin .quo (.tmp 15) (.const (.int .u32 2))⟩,m 0 16]))) (.ops [m 7 4,b 8 .add 7 1,m 4 8])))))) (.seq (.ops [m 17 3,m 2 17]) .ret))))
theorem f_scref01_Bits : compF Try.prog 101 = some (18, c_scref01_Bits, [.tmp 2]) := by kernel_rfl
def c_scref01_Of:VC:=(.seq (.ops [⟨some 2,none,.mv (.const (.int .u32 0))⟩]) (.seq (.ops [⟨some 3,none,.mv (.const (.int .u64 0))⟩]) (.seq (.seq (.ops [m 5 0,n 6 5,b 7 .sub 6 1,
 m 4 7]) (.block 0 (.loop (.seq (.seq (.ops [m 8 4,b 9 .geq 8 0]) (.cond (.tmp 9) .skip (.exit 0))) (.seq (.block 1 (.ops [m 12 3,⟨some 13,none,
 .bin .mul (.const (.int .u64 2)) (.tmp 12)⟩,m 14 0,m 15 4,x 16 1 14 15,l 17 1 16,⟨some 18,none,.conv .u64 (.tmp 17)⟩,B 19 .add 13 18,m 3 19])) (.ops [m 10 4,b 11 .sub 10 1,
 m 4 11])))))) (.seq (.ops [m 20 3,⟨some 21,none,.bin .rem (.tmp 20) (.const (.int .u64 4294967296))⟩,⟨some 22,none,.conv .u32 (.tmp 21)⟩,m 2 22]) .ret))))
theorem f_scref01_Of : compF Try.prog 102 = some (23, c_scref01_Of, [.tmp 2]) := by kernel_rfl
def c_scref07_Right:VC:=(.seq (.ops [X 1 115 0,o 2 false]) (.seq (.ops [f 5 0 1 1,l 6 1 5,c1 7 104 6,m 3 7]) (.seq (.ops [i 4 65535]) (.seq (.seq (.ops [m 8 3,⟨some 9,none,
 .call (.func 105) [(.tmp 8),(.const (.int .u8 114))]⟩]) (.cond (.tmp 9) (.ops [i 4 15]) .skip)) (.seq (.par false (.one (m 10 3) (.one ⟨(some 11),none,
 (.bin .neq (.tmp 10) (.const (.string ⟨#[63]⟩)))⟩ (.one (m 12 11) (.one ⟨some 13,some (12,true),.mv (.tmp 3)⟩ (.one ⟨some 14,some (12,true),.call (.func 105) [(.tmp 13),
 (.const (.int .u8 97))]⟩ (.one ⟨some 15,some (12,true),.fad 1 false 1 (.tmp 1)⟩ (.one ⟨some 16,some (12,true),.ld false 1 (.tmp 15)⟩ (.one ⟨some 17,some (12,true),
 .call (.func 106) [(.tmp 14),(.tmp 16),(.const (.int .i64 15))]⟩ (.one ⟨some 18,none,.pick (.tmp 12) (.tmp 17) (.const (.bool false))⟩ (.one (m 19 18) (.one ⟨some 20,some (19,
 true),.mv (.tmp 3)⟩ (.one ⟨some 21,some (19,true),.call (.func 105) [(.tmp 20),(.const (.int .u8 98))]⟩ (.one ⟨some 22,some (19,true),.fad 2 false 1 (.tmp 1)⟩ (.one ⟨some 23,
 some (19,true),.ld false 1 (.tmp 22)⟩ (.one ⟨some 24,some (19,true),.call (.func 106) [(.tmp 21),(.tmp 23),(.const (.int .i64 15))]⟩ (.one ⟨some 25,none,
 .pick (.tmp 19) (.tmp 24) (.const (.bool false))⟩ (.one (m 26 25) (.one ⟨some 27,some (26,true),.mv (.tmp 3)⟩ (.one ⟨some 28,some (26,true),.call (.func 105) [(.tmp 27),
 (.const (.int .u8 99))]⟩ (.one ⟨some 29,some (26,true),.mv (.tmp 28)⟩ (.one ⟨some 30,some (29,false),.mv (.tmp 3)⟩ (.one ⟨some 31,some (29,false),.call (.func 105) [(.tmp 30),
 (.const (.int .u8 114))]⟩ (.one ⟨some 32,some (26,true),.pick (.tmp 29) (.const (.bool true)) (.tmp 31)⟩ (.one ⟨some 33,some (26,true),.fad 3 false 1 (.tmp 1)⟩ (.one ⟨some 34,
 some (26,true),.ld false 1 (.tmp 33)⟩ (.one ⟨some 35,some (26,true),.mv (.tmp 4)⟩ (.one ⟨some 36,some (26,true),.call (.func 106) [.tmp 32,.tmp 34,.tmp 35]⟩ (.one ⟨some 37,none,
 .pick (.tmp 26) (.tmp 36) (.const (.bool false))⟩ (.one (m 2 37) .done)))))))))))))))))))))))))))))) .ret)))))
theorem f_scref07_Right : compF Try.prog 103 = some (38, c_scref07_Right, [.tmp 2]) := by kernel_rfl
def c_scref07_Parts:VC:=(.seq (.ops [⟨(some 2),none,(.mv (.const (.string ⟨#[]⟩)))⟩]) (.seq (.seq (.ops [m 3 0]) (.block 0 (.seq (.seq (.ops [b 5 .eql 3 1,
 m 4 5]) (.cond (.tmp 4) .skip (.seq (.ops [b 6 .eql 3 2,m 4 6]) (.cond (.tmp 4) .skip (.seq (.ops [b 7 .eql 3 19,m 4 7]) (.cond (.tmp 4) .skip (.seq (.ops [b 8 .eql 3 20,
 m 4 8]) (.cond (.tmp 4) .skip (.seq (.ops [b 9 .eql 3 21,m 4 9]) (.cond (.tmp 4) .skip (.ops [b 10 .eql 3 25,m 4 10]))))))))))) (.cond (.tmp 4) (.seq (.ops [⟨(some 2),none,
 (.mv (.const (.string ⟨#[97,99]⟩)))⟩]) .ret) (.seq (.ops [b 12 .eql 3 3,m 11 12]) (.cond (.tmp 11) (.seq (.ops [⟨(some 2),none,(.mv (.const (.string ⟨#[97,
 98]⟩)))⟩]) .ret) (.seq (.seq (.ops [b 14 .eql 3 16,m 13 14]) (.cond (.tmp 13) .skip (.seq (.ops [b 15 .eql 3 17,m 13 15]) (.cond (.tmp 13) .skip (.ops [b 16 .eql 3 27,
 m 13 16]))))) (.cond (.tmp 13) (.seq (.ops [⟨(some 2),none,(.mv (.const (.string ⟨#[97,98,99]⟩)))⟩]) .ret) (.seq (.ops [b 18 .eql 3 18,
 m 17 18]) (.cond (.tmp 17) (.seq (.ops [⟨(some 2),none,(.mv (.const (.string ⟨#[99]⟩)))⟩]) .ret) (.seq (.seq (.ops [b 20 .eql 3 22,
 m 19 20]) (.cond (.tmp 19) .skip (.seq (.ops [b 21 .eql 3 23,m 19 21]) (.cond (.tmp 19) .skip (.ops [b 22 .eql 3 24,m 19 22]))))) (.cond (.tmp 19) (.seq (.ops [⟨(some 2),none,
 (.mv (.const (.string ⟨#[97]⟩)))⟩]) .ret) (.seq (.ops [b 24 .eql 3 26,m 23 24]) (.cond (.tmp 23) (.seq (.ops [⟨(some 2),none,
 (.mv (.const (.string ⟨#[]⟩)))⟩]) .ret) .skip)))))))))))))) (.seq (.seq (.ops [m 25 0,b 26 .geq 25 4,m 27 26,⟨some 28,some (27,true),.mv (.tmp 0)⟩,⟨some 29,some (27,true),
 .bin .leq (.tmp 28) (.const (.int .i64 15))⟩,⟨some 30,none,.pick (.tmp 27) (.tmp 29) (.const (.bool false))⟩]) (.cond (.tmp 30) (.seq (.ops [⟨(some 2),none,
 (.mv (.const (.string ⟨#[97,98,114]⟩)))⟩]) .ret) .skip)) (.seq (.ops [⟨(some 2),none,(.mv (.const (.string ⟨#[63]⟩)))⟩]) .ret))))
theorem f_scref07_Parts : compF Try.prog 104 = some (31, c_scref07_Parts, [.tmp 2]) := by kernel_rfl
def c_scref07_has:VC:=(.seq (.ops [o 4 false]) (.seq (.seq (.ops [i 5 0]) (.block 0 (.loop (.seq (.seq (.ops [m 6 5,m 7 0,⟨some 8,none,.lens (.tmp 7)⟩,
 B 9 .lss 6 8]) (.cond (.tmp 9) .skip (.exit 0))) (.seq (.block 1 (.seq (.ops [m 12 0,m 13 5,⟨some 14,none,.pur .six [.tmp 12,.tmp 13]⟩,m 15 1,
 B 16 .eql 14 15]) (.cond (.tmp 16) (.seq (.ops [o 4 true]) .ret) .skip))) (.ops [m 10 5,b 11 .add 10 1,m 5 11])))))) (.seq (.ops [o 4 false]) .ret)))
theorem f_scref07_has : compF Try.prog 105 = some (17, c_scref07_has, [.tmp 4]) := by kernel_rfl
def c_scref07_within:VC:=(.seq (.ops [o 6 false]) (.seq (.seq (.ops [m 7 0,⟨some 8,none,.un .not (.tmp 7)⟩]) (.cond (.tmp 8) (.seq (.ops [m 9 1,b 10 .eql 9 0,
 m 6 10]) .ret) .skip)) (.seq (.ops [m 11 1,b 12 .geq 11 0,m 13 12,⟨some 14,some (13,true),.mv (.tmp 1)⟩,⟨some 15,some (13,true),.mv (.tmp 2)⟩,⟨some 16,some (13,true),
 .bin .leq (.tmp 14) (.tmp 15)⟩,⟨some 17,none,.pick (.tmp 13) (.tmp 16) (.const (.bool false))⟩,m 6 17]) .ret)))
theorem f_scref07_within : compF Try.prog 106 = some (18, c_scref07_within, [.tmp 6]) := by kernel_rfl
theorem hmix : Try.prog.follows .mixedOrders = true := by kernel_rfl
end Go.Proofs.Ytkbhfokbhkmfgaa
