/-
  The functions of this seat, made small by the program: each is what the engine makes of the function of that number. No condition.
-/
import Derived.Test.YtkbhfokbhkmfgaaGreatUS
import Derived.Test.YtkbhfokbhkmfgaaGreatRows
import Derived.KernelRfl
set_option linter.unusedVariables false
set_option linter.unusedSimpArgs false
namespace Go.Proofs.YtkbhfokbhkmfgaaGreat
open Go.V
namespace Z
abbrev m(a b:Nat):VOp:=⟨some a,none,.mv (.tmp b)⟩
abbrev l(a n b:Nat):VOp:=⟨some a,none,.ld false n (.tmp b)⟩
abbrev L(a n b:Nat):VOp:=⟨some a,none,.ld true n (.tmp b)⟩
abbrev f(a o n b:Nat):VOp:=⟨some a,none,.fad o false n (.tmp b)⟩
abbrev F(a o n b:Nat):VOp:=⟨some a,none,.fad o true n (.tmp b)⟩
abbrev x(a n b c:Nat):VOp:=⟨some a,none,.idx n (.tmp b) (.tmp c)⟩
abbrev b(a:Nat)(o:BinOp)(b:Nat)(c:Int):VOp:=⟨some a,none,.bin o (.tmp b) (.const (.int .i64 c))⟩
abbrev B(a:Nat)(o:BinOp)(b c:Nat):VOp:=⟨some a,none,.bin o (.tmp b) (.tmp c)⟩
abbrev k(a b:Nat):VOp:=⟨some a,none,.nck (.tmp b)⟩
abbrev i(a:Nat)(c:Int):VOp:=⟨some a,none,.mv (.const (.int .i64 c))⟩
abbrev n(a b:Nat):VOp:=⟨some a,none,.len (.tmp b)⟩
abbrev o(a:Nat)(c:Bool):VOp:=⟨some a,none,.mv (.const (.bool c))⟩
abbrev X(a n b:Nat):VOp:=⟨some a,none,.box n (.tmp b)⟩
abbrev e(a b n:Nat):VOp:=⟨some a,none,.ext (.tmp b) n⟩
abbrev S(n b c:Nat):VOp:=⟨none,none,.sto true n (.tmp b) (.tmp c)⟩
abbrev s(n b c:Nat):VOp:=⟨none,none,.sto false n (.tmp b) (.tmp c)⟩
abbrev c0(a f:Nat):VOp:=⟨some a,none,.call (.func f) []⟩
abbrev c1(a f x:Nat):VOp:=⟨some a,none,.call (.func f) [.tmp x]⟩
abbrev c2(a f x y:Nat):VOp:=⟨some a,none,.call (.func f) [.tmp x,.tmp y]⟩
abbrev c3(a f x y z:Nat):VOp:=⟨some a,none,.call (.func f) [.tmp x,.tmp y,.tmp z]⟩
abbrev c4(a f x y z w:Nat):VOp:=⟨some a,none,.call (.func f) [.tmp x,.tmp y,.tmp z,.tmp w]⟩
attribute [go_sem] m l L f F x b B k i n o X e S s c0 c1 c2 c3 c4
abbrev q(a:Nat)(k:K):VOp:=⟨some a,none,k⟩
abbrev Q(a g:Nat)(v:Bool)(k:K):VOp:=⟨some a,some (g,v),k⟩
abbrev t(a:Nat):Operand:=.tmp a
abbrev zs:Value:=.slice none 0 0
abbrev zi:Value:=.int .i64 0
def O:List VOp→PT→PT
 | [],r=>r
 | a::l,r=>.one a (O l r)
attribute [go_sem ↓] O
attribute [go_sem] q Q t zs zi
end Z
open Z
def a3N:VC:=(.seq (.ops [X 2 24 0,o 4 false]) (.seq (.seq (.ops [c0 11 4,q 12 (.un .not (t 11))]) (.cond (t 12) (.seq (.ops [o 4 false]) .ret) .skip)) (.seq (.seq (.ops [L 13 2 2,c1 14 5 13,
 q 15 (.un .not (t 14)),m 16 15,Q 17 16 false (.mv (t 1)),Q 18 16 false (.lens (t 17)),Q 19 16 false (.bin .gtr (t 18) (.const (.int .i64 60))),
 q 20 (.pick (t 16) (.const (.bool true)) (t 19))]) (.cond (t 20) (.seq (.ops [o 4 true]) .ret) .skip)) (.seq (.ops [q 5 (.mv (.const zs))]) (.seq (.seq (.ops [i 6 0]) (.block 0 (.loop (.seq (.seq (.ops [m 21 6,
 f 22 1 1 2,l 23 1 22,n 24 23,B 25 .lss 21 24]) (.cond (t 25) .skip (.exit 0))) (.seq (.block 1 (.par false (O [m 28 5,f 29 1 1 2,l 30 1 29,m 31 6,x 32 2 30 31,L 33 2 32,f 34 1 1 2,
 l 35 1 34,m 36 6,x 37 2 35 36,L 38 2 37,c1 39 7 38,q 40 (.callM true (.func 6) [t 33,t 39,(.const (.int .i64 8))]),q 41 (.bsl 30 1 1 [zs] [(0,1,t 40)]),
 q 42 (.app 30 1 24 (t 28) (t 41)),m 5 42] .done))) (.ops [m 26 6,b 27 .add 26 1,m 6 27])))))) (.seq (.seq (.ops [m 43 5,c1 44 8 43,
 b 45 .gtr 44 600]) (.cond (t 45) (.seq (.ops [o 4 true]) .ret) .skip)) (.seq (.ops [L 47 2 2,m 48 5,c2 49 9 47 48,m 46 49,e 50 46 0,e 51 46 1,q 7 (.alc 42 [zs,zi]),S 2 7 50,
 m 8 51]) (.seq (.seq (.ops [m 52 8,b 53 .neq 52 0]) (.cond (t 53) (.seq (.ops [o 4 false]) .ret) .skip)) (.seq (.ops [L 54 2 2,m 55 1,q 56 (.call (.func 10) [t 54,t 55,
 (.const (.int .i64 300))]),q 9 (.alc 47 [zi,(.string ⟨#[]⟩),zi]),S 3 9 56]) (.seq (.seq (.ops [f 57 0 1 9,l 58 1 57,
 b 59 .eql 58 5]) (.cond (t 59) (.seq (.ops [o 4 true]) .ret) .skip)) (.seq (.par false (O [L 60 2 7,m 61 1,L 62 2 2,m 63 5,f 64 2 1 9,l 65 1 64,c3 66 12 62 63 65,c3 67 11 60 61 66,
 q 10 (.alc 47 [zi,(.string ⟨#[]⟩),zi]),S 3 10 67] .done)) (.seq (.ops [f 68 0 1 9,l 69 1 68,f 70 0 1 10,l 71 1 70,B 72 .eql 69 71,m 73 72,Q 74 73 true (.fad 1 false 1 (t 9)),
 Q 75 73 true (.ld false 1 (t 74)),Q 76 73 true (.fad 1 false 1 (t 10)),Q 77 73 true (.ld false 1 (t 76)),Q 78 73 true (.bin .eql (t 75) (t 77)),
 q 79 (.pick (t 73) (t 78) (.const (.bool false))),m 4 79]) .ret))))))))))))
theorem a7Y : a0z Tryz.prog 3 = some (80, a3N, [.tmp 4]) := by kernel_rfl
def a7n:VC:=(.seq (.ops [o 0 false]) (.seq (.ops [q 6 (.bld [zi,(.string ⟨#[]⟩),zi] [(0,(1,(.const (.int .i64 1)))),(1,(1,(.const (.string ⟨#[65]⟩))))]),q 1 (.alc 47 [zi,(.string ⟨#[]⟩),zi]),
 S 3 1 6]) (.seq (.ops [c0 8 13,q 9 (.bsl 3 1 1 [zi] [(0,(1,(.const (.int .i64 1))))]),q 10 (.bld [zs] [(0,1,t 9)]),q 11 (.bsl 30 1 1 [zs] [(0,1,t 10)]),c2 12 9 8 11,m 7 12,
 e 13 7 0,e 14 7 1,q 2 (.alc 42 [zs,zi]),S 2 2 13,m 3 14]) (.seq (.ops [c0 16 13,q 17 (.bsl 3 1 1 [zi] [(0,(1,(.const (.int .i64 (-1)))))]),q 18 (.bld [zs] [(0,1,t 17)]),
 q 19 (.bsl 30 1 1 [zs] [(0,1,t 18)]),c2 20 9 16 19,m 15 20,e 21 15 0,e 22 15 1,q 4 (.alc 42 [zs,zi]),S 2 4 21,m 5 22]) (.seq (.par false (O [m 23 3,b 24 .eql 23 0,m 25 24,
 Q 26 25 true (.mv (t 5)),Q 27 25 true (.bin .eql (t 26) (.const zi)),q 28 (.pick (t 25) (t 27) (.const (.bool false))),m 29 28,Q 30 29 true (.ld true 2 (t 2)),
 Q 31 29 true (.call (.func 15) [t 30,(.const (.string ⟨#[]⟩)),(.const (.int .i64 300))]),Q 32 29 true (.ld true 3 (t 1)),Q 33 29 true (.call (.func 14) [t 31,t 32]),
 q 34 (.pick (t 29) (t 33) (.const (.bool false))),m 35 34,Q 36 35 true (.ld true 2 (t 4)),Q 37 35 true (.call (.func 15) [t 36,(.const (.string ⟨#[]⟩)),(.const (.int .i64 300))]),
 Q 38 35 true (.ld true 3 (t 1)),Q 39 35 true (.call (.func 14) [t 37,t 38]),q 40 (.pick (t 35) (t 39) (.const (.bool false))),m 0 40] .done)) .ret)))))
theorem b2G : a0z Tryz.prog 4 = some (41, a7n, [.tmp 0]) := by kernel_rfl
def a3T:VC:=(.seq (.ops [X 1 24 0,o 2 false]) (.seq (.seq (.ops [f 7 0 1 1,l 8 1 7,b 9 .gtr 8 400,m 10 9,Q 11 10 false (.fad 1 false 1 (t 1)),Q 12 10 false (.ld false 1 (t 11)),
 Q 13 10 false (.len (t 12)),Q 14 10 false (.bin .gtr (t 13) (.const (.int .i64 20))),
 q 15 (.pick (t 10) (.const (.bool true)) (t 14))]) (.cond (t 15) (.seq (.ops [o 2 false]) .ret) .skip)) (.seq (.ops [i 3 0]) (.seq (.seq (.ops [i 4 0]) (.block 0 (.loop (.seq (.seq (.ops [m 16 4,
 f 17 1 1 1,l 18 1 17,n 19 18,B 20 .lss 16 19]) (.cond (t 20) .skip (.exit 0))) (.seq (.block 1 (.seq (.ops [f 23 1 1 1,l 24 1 23,m 25 4,x 26 2 24 25,L 27 2 26,q 5 (.alc 34 [zi,
 zs]),S 2 5 27]) (.seq (.seq (.ops [f 28 1 1 5,l 29 1 28,n 30 29,b 31 .gtr 30 60,m 32 31,Q 33 32 false (.fad 0 false 1 (t 5)),Q 34 32 false (.ld false 1 (t 33)),
 Q 35 32 false (.bin .gtr (t 34) (.const (.int .i64 30))),
 q 36 (.pick (t 32) (.const (.bool true)) (t 35))]) (.cond (t 36) (.seq (.ops [o 2 false]) .ret) .skip)) (.seq (.ops [i 6 0]) (.block 2 (.loop (.seq (.seq (.ops [m 37 6,f 38 1 1 5,
 l 39 1 38,n 40 39,B 41 .lss 37 40]) (.cond (t 41) .skip (.exit 2))) (.seq (.block 3 (.seq (.ops [m 44 3,b 45 .add 44 1,f 46 1 1 5,l 47 1 46,m 48 6,x 49 5 47 48,f 50 0 1 49,
 l 51 1 50,n 52 51,B 53 .add 45 52,m 3 53]) (.seq (.ops [m 54 3,b 55 .gtr 54 400]) (.cond (t 55) (.seq (.ops [o 2 false]) .ret) .skip)))) (.ops [m 42 6,b 43 .add 42 1,
 m 6 43]))))))))) (.ops [m 21 4,b 22 .add 21 1,m 4 22])))))) (.seq (.ops [L 56 2 1,c1 57 16 56,m 2 57]) .ret)))))
theorem b4R : a0z Tryz.prog 5 = some (58, a3T, [.tmp 2]) := by kernel_rfl
def b4p:VC:=(.seq (.ops [X 3 34 0,X 4 37 1,q 6 (.alc 30 [zs])]) (.seq (.ops [L 17 2 3,L 18 2 4,c2 19 17 17 18,m 16 19,e 20 16 0,e 21 16 1,m 7 20,m 8 21]) (.seq (.ops [f 22 0 1 3,l 23 1 22,
 q 24 (.mk 3 1 8 [zi] (t 23) (t 23)),m 9 24]) (.seq (.ops [m 25 2,q 26 (.pur .mx [t 25,(.const zi)]),b 27 .add 26 1,q 28 (.mk 3 1 8 [zi] (t 27) (t 27)),
 m 10 28]) (.seq (.ops [f 29 0 1 3,l 30 1 29,b 31 .add 30 2,q 32 (.mk 3 1 8 [zi] (t 31) (t 31)),m 11 32]) (.seq (.seq (.ops [m 33 9,n 34 33,
 i 35 0]) (.block 0 (.loop (.seq (.ops [B 36 .lss 35 34]) (.seq (.cond (t 36) .skip (.exit 0)) (.seq (.block 1 (.seq (.ops [m 37 35,m 12 37]) (.seq (.ops [m 38 12,b 39 .add 38 1,
 m 13 39]) (.seq (.seq (.ops [i 14 0]) (.block 2 (.loop (.seq (.seq (.ops [m 40 14,m 41 12,
 B 42 .lss 40 41]) (.cond (t 42) .skip (.exit 2))) (.seq (.block 3 (.seq (.seq (.ops [m 45 7,m 46 12,x 47 1 45 46,l 48 1 47,m 49 14,c2 50 18 48 49,q 51 (.un .not (t 50)),m 52 51,
 Q 53 52 true (.mv (t 7)),Q 54 52 true (.mv (t 14)),Q 55 52 true (.idx 1 (t 53) (t 54)),Q 56 52 true (.ld false 1 (t 55)),Q 57 52 true (.mv (t 12)),
 Q 58 52 true (.call (.func 18) [t 56,t 57]),Q 59 52 true (.un .not (t 58)),q 60 (.pick (t 52) (t 59) (.const (.bool false)))]) (.cond (t 60) (.exit 3) .skip)) (.seq (.ops [m 61 9,
 m 62 14,x 63 1 61 62,l 64 1 63,m 15 64]) (.seq (.ops [m 65 15,b 66 .gtr 65 0]) (.cond (t 66) (.ops [m 67 10,m 68 15,m 69 13,x 70 1 67 68,s 1 70 69]) (.ops [m 71 11,m 72 15,
 q 73 (.un .neg (t 72)),m 74 13,x 75 1 71 73,s 1 75 74])))))) (.ops [m 43 14,b 44 .add 43 1,m 14 44])))))) (.ops [m 76 9,m 77 12,m 78 10,m 79 11,m 80 13,m 81 8,m 82 12,
 c2 83 18 81 82,c4 84 19 78 79 80 83,x 85 1 76 77,s 1 85 84]))))) (.ops [b 86 .add 35 1,m 35 86]))))))) (.seq (.ops [m 87 9,q 88 (.bld [zs] [(0,1,t 87)]),S 1 6 88]) .ret)))))))
theorem c0e : a0z Tryz.prog 6 = some (89, b4p, [(.cell 6 true 1)]) := by kernel_rfl
def b6v:VC:=(.seq (.ops [X 1 34 0,q 2 (.alc 37 [zs,zs])]) (.seq (.ops [L 10 2 1,q 11 (.callA (.func 20) [t 10]),m 3 11]) (.seq (.block 0 (.loop (.seq (.seq (.ops [m 12 3,k 13 12,f 14 6 1 13,
 l 15 1 14,n 16 15,b 17 .gtr 16 0]) (.cond (t 17) .skip (.exit 0))) (.block 1 (.seq (.ops [m 18 3,k 19 18,f 20 6 1 19,l 21 1 20,n 22 21,b 23 .sub 22 1,m 4 23]) (.seq (.ops [m 24 3,
 k 25 24,f 26 6 1 25,l 27 1 26,m 28 4,x 29 1 27 28,l 30 1 29,m 5 30]) (.seq (.ops [m 31 3,m 32 3,k 33 32,f 34 6 1 33,l 35 1 34,m 36 4,q 37 (.sl 1 (t 35) none (some (t 36))),k 38 31,
 f 39 6 1 38,s 1 39 37]) (.seq (.ops [m 40 3,k 41 40,f 42 7 1 41,l 43 1 42,m 44 5,x 45 1 43 44,⟨none,none,.sto false 1 (t 45) (.const (.bool false))⟩]) (.seq (.ops [m 46 3,m 47 5,
 c2 48 21 46 47]) (.cond (t 48) (.seq (.ops [m 49 3,k 50 49,f 51 1 1 50,l 52 1 51,m 53 5,x 54 1 52 53,l 55 1 54,n 56 55,
 i 57 0]) (.block 2 (.loop (.seq (.ops [B 58 .lss 57 56]) (.seq (.cond (t 58) .skip (.exit 2)) (.seq (.block 3 (.seq (.ops [x 59 1 55 57,l 60 1 59,m 7 60]) (.ops [m 61 3,m 62 7,
 c2 63 22 61 62]))) (.ops [b 64 .add 57 1,m 57 64]))))))) .skip)))))))))) (.seq (.ops [q 8 (.alc 37 [zs,zs])]) (.seq (.seq (.ops [f 65 1 1 1,l 66 1 65,n 67 66,
 i 68 0]) (.block 4 (.loop (.seq (.ops [B 69 .lss 68 67]) (.seq (.cond (t 69) .skip (.exit 4)) (.seq (.block 5 (.seq (.ops [m 70 68,m 9 70]) (.seq (.par false (O [f 71 0 1 8,m 73 3,
 k 74 73,f 75 4 1 74,l 76 1 75,m 77 9,x 78 1 76 77,l 79 1 78,f 80 0 1 1,l 81 1 80] (.both (O [l 72 1 71,q 82 (.callM true (.func 23) [t 79,t 81]),q 83 (.bsl 68 1 1 [zs] [(0,1,
 t 82)]),q 84 (.app 68 1 24 (t 72) (t 83)),f 85 0 1 8,s 1 85 84] .done) (O [q 82 (.callM true (.func 23) [t 79,t 81]),l 72 1 71,q 83 (.bsl 68 1 1 [zs] [(0,1,t 82)]),
 q 84 (.app 68 1 24 (t 72) (t 83)),f 85 0 1 8,s 1 85 84] .done)))) (.par false (O [f 86 1 1 8,m 88 3,k 89 88,f 90 5 1 89,l 91 1 90,m 92 9,x 93 1 91 92,l 94 1 93,f 95 0 1 1,
 l 96 1 95] (.both (O [l 87 1 86,q 97 (.callM true (.func 23) [t 94,t 96]),q 98 (.bsl 68 1 1 [zs] [(0,1,t 97)]),q 99 (.app 68 1 24 (t 87) (t 98)),f 100 1 1 8,
 s 1 100 99] .done) (O [q 97 (.callM true (.func 23) [t 94,t 96]),l 87 1 86,q 98 (.bsl 68 1 1 [zs] [(0,1,t 97)]),q 99 (.app 68 1 24 (t 87) (t 98)),f 100 1 1 8,
 s 1 100 99] .done))))))) (.ops [b 101 .add 68 1,m 68 101]))))))) (.seq (.ops [L 102 2 8,S 2 2 102]) .ret))))))
theorem c1r : a0z Tryz.prog 7 = some (103, b6v, [(.cell 2 true 2)]) := by kernel_rfl
def a7o:VC:=(.seq (.ops [i 2 0]) (.seq (.ops [i 3 0]) (.seq (.seq (.ops [i 4 0]) (.block 0 (.loop (.seq (.seq (.ops [m 5 4,m 6 0,n 7 6,
 B 8 .lss 5 7]) (.cond (t 8) .skip (.exit 0))) (.seq (.block 1 (.ops [m 11 3,m 12 0,m 13 4,x 14 1 12 13,L 15 1 14,c1 16 24 15,B 17 .add 11 16,m 3 17])) (.ops [m 9 4,b 10 .add 9 1,
 m 4 10])))))) (.seq (.ops [m 18 3,m 2 18]) .ret))))
theorem b2H : a0z Tryz.prog 8 = some (19, a7o, [.tmp 2]) := by kernel_rfl
def a1a:VC:=(.seq (.ops [X 2 24 0,q 4 (.alc 42 [zs,zi]),i 5 0]) (.seq (.par true (O [L 13 2 2,f 14 1 1 2,l 15 1 14,n 16 15,f 18 1 1 2,l 19 1 18,n 20 19,f 22 1 1 2,l 23 1 22,
 n 24 23] (.both (.one (q 17 (.mk 3 1 8 [zi] (t 16) (t 16))) (.both (.one (q 21 (.mk 28 1 24 [zs] (t 20) (t 20))) (.both (O [q 25 (.mk 3 1 8 [zi] (t 24) (t 24)),q 26 (.bld [zi,zs,
 zs,zs,zs,zs,zs,zi,zi,zs] [(0,2,t 13),(4,1,t 17),(5,1,t 21),(6,1,t 25)]),q 6 (.alc 78 [zi,zs,zs,zs,zs,zs,zs,zi,zi,zs]),S 10 6 26] .done) (O [q 6 (.alc 78 [zi,zs,zs,zs,zs,zs,zs,zi,
 zi,zs]),q 25 (.mk 3 1 8 [zi] (t 24) (t 24)),q 26 (.bld [zi,zs,zs,zs,zs,zs,zs,zi,zi,zs] [(0,2,t 13),(4,1,t 17),(5,1,t 21),(6,1,t 25)]),
 S 10 6 26] .done))) (.both (.one (q 25 (.mk 3 1 8 [zi] (t 24) (t 24))) (.both (O [q 21 (.mk 28 1 24 [zs] (t 20) (t 20)),q 26 (.bld [zi,zs,zs,zs,zs,zs,zs,zi,zi,zs] [(0,2,t 13),(4,1,
 t 17),(5,1,t 21),(6,1,t 25)]),q 6 (.alc 78 [zi,zs,zs,zs,zs,zs,zs,zi,zi,zs]),S 10 6 26] .done) (O [q 6 (.alc 78 [zi,zs,zs,zs,zs,zs,zs,zi,zi,zs]),
 q 21 (.mk 28 1 24 [zs] (t 20) (t 20)),q 26 (.bld [zi,zs,zs,zs,zs,zs,zs,zi,zi,zs] [(0,2,t 13),(4,1,t 17),(5,1,t 21),(6,1,t 25)]),S 10 6 26] .done))) (.one (q 6 (.alc 78 [zi,zs,zs,
 zs,zs,zs,zs,zi,zi,zs])) (.both (O [q 21 (.mk 28 1 24 [zs] (t 20) (t 20)),q 25 (.mk 3 1 8 [zi] (t 24) (t 24)),q 26 (.bld [zi,zs,zs,zs,zs,zs,zs,zi,zi,zs] [(0,2,t 13),(4,1,t 17),(5,1,
 t 21),(6,1,t 25)]),S 10 6 26] .done) (O [q 25 (.mk 3 1 8 [zi] (t 24) (t 24)),q 21 (.mk 28 1 24 [zs] (t 20) (t 20)),q 26 (.bld [zi,zs,zs,zs,zs,zs,zs,zi,zi,zs] [(0,2,t 13),(4,1,
 t 17),(5,1,t 21),(6,1,t 25)]),
 S 10 6 26] .done)))))) (.both (.one (q 21 (.mk 28 1 24 [zs] (t 20) (t 20))) (.both (.one (q 17 (.mk 3 1 8 [zi] (t 16) (t 16))) (.both (O [q 25 (.mk 3 1 8 [zi] (t 24) (t 24)),
 q 26 (.bld [zi,zs,zs,zs,zs,zs,zs,zi,zi,zs] [(0,2,t 13),(4,1,t 17),(5,1,t 21),(6,1,t 25)]),q 6 (.alc 78 [zi,zs,zs,zs,zs,zs,zs,zi,zi,zs]),S 10 6 26] .done) (O [q 6 (.alc 78 [zi,zs,
 zs,zs,zs,zs,zs,zi,zi,zs]),q 25 (.mk 3 1 8 [zi] (t 24) (t 24)),q 26 (.bld [zi,zs,zs,zs,zs,zs,zs,zi,zi,zs] [(0,2,t 13),(4,1,t 17),(5,1,t 21),(6,1,t 25)]),
 S 10 6 26] .done))) (.both (.one (q 25 (.mk 3 1 8 [zi] (t 24) (t 24))) (.both (O [q 17 (.mk 3 1 8 [zi] (t 16) (t 16)),q 26 (.bld [zi,zs,zs,zs,zs,zs,zs,zi,zi,zs] [(0,2,t 13),(4,1,
 t 17),(5,1,t 21),(6,1,t 25)]),q 6 (.alc 78 [zi,zs,zs,zs,zs,zs,zs,zi,zi,zs]),S 10 6 26] .done) (O [q 6 (.alc 78 [zi,zs,zs,zs,zs,zs,zs,zi,zi,zs]),q 17 (.mk 3 1 8 [zi] (t 16) (t 16)),
 q 26 (.bld [zi,zs,zs,zs,zs,zs,zs,zi,zi,zs] [(0,2,t 13),(4,1,t 17),(5,1,t 21),(6,1,t 25)]),S 10 6 26] .done))) (.one (q 6 (.alc 78 [zi,zs,zs,zs,zs,zs,zs,zi,zi,
 zs])) (.both (O [q 17 (.mk 3 1 8 [zi] (t 16) (t 16)),q 25 (.mk 3 1 8 [zi] (t 24) (t 24)),q 26 (.bld [zi,zs,zs,zs,zs,zs,zs,zi,zi,zs] [(0,2,t 13),(4,1,t 17),(5,1,t 21),(6,1,t 25)]),
 S 10 6 26] .done) (O [q 25 (.mk 3 1 8 [zi] (t 24) (t 24)),q 17 (.mk 3 1 8 [zi] (t 16) (t 16)),q 26 (.bld [zi,zs,zs,zs,zs,zs,zs,zi,zi,zs] [(0,2,t 13),(4,1,t 17),(5,1,t 21),(6,1,
 t 25)]),
 S 10 6 26] .done)))))) (.both (.one (q 25 (.mk 3 1 8 [zi] (t 24) (t 24))) (.both (.one (q 17 (.mk 3 1 8 [zi] (t 16) (t 16))) (.both (O [q 21 (.mk 28 1 24 [zs] (t 20) (t 20)),
 q 26 (.bld [zi,zs,zs,zs,zs,zs,zs,zi,zi,zs] [(0,2,t 13),(4,1,t 17),(5,1,t 21),(6,1,t 25)]),q 6 (.alc 78 [zi,zs,zs,zs,zs,zs,zs,zi,zi,zs]),S 10 6 26] .done) (O [q 6 (.alc 78 [zi,zs,
 zs,zs,zs,zs,zs,zi,zi,zs]),q 21 (.mk 28 1 24 [zs] (t 20) (t 20)),q 26 (.bld [zi,zs,zs,zs,zs,zs,zs,zi,zi,zs] [(0,2,t 13),(4,1,t 17),(5,1,t 21),(6,1,t 25)]),
 S 10 6 26] .done))) (.both (.one (q 21 (.mk 28 1 24 [zs] (t 20) (t 20))) (.both (O [q 17 (.mk 3 1 8 [zi] (t 16) (t 16)),q 26 (.bld [zi,zs,zs,zs,zs,zs,zs,zi,zi,zs] [(0,2,t 13),(4,1,
 t 17),(5,1,t 21),(6,1,t 25)]),q 6 (.alc 78 [zi,zs,zs,zs,zs,zs,zs,zi,zi,zs]),S 10 6 26] .done) (O [q 6 (.alc 78 [zi,zs,zs,zs,zs,zs,zs,zi,zi,zs]),q 17 (.mk 3 1 8 [zi] (t 16) (t 16)),
 q 26 (.bld [zi,zs,zs,zs,zs,zs,zs,zi,zi,zs] [(0,2,t 13),(4,1,t 17),(5,1,t 21),(6,1,t 25)]),S 10 6 26] .done))) (.one (q 6 (.alc 78 [zi,zs,zs,zs,zs,zs,zs,zi,zi,
 zs])) (.both (O [q 17 (.mk 3 1 8 [zi] (t 16) (t 16)),q 21 (.mk 28 1 24 [zs] (t 20) (t 20)),q 26 (.bld [zi,zs,zs,zs,zs,zs,zs,zi,zi,zs] [(0,2,t 13),(4,1,t 17),(5,1,t 21),(6,1,
 t 25)]),S 10 6 26] .done) (O [q 21 (.mk 28 1 24 [zs] (t 20) (t 20)),q 17 (.mk 3 1 8 [zi] (t 16) (t 16)),q 26 (.bld [zi,zs,zs,zs,zs,zs,zs,zi,zi,zs] [(0,2,t 13),(4,1,t 17),(5,1,
 t 21),(6,1,t 25)]),S 10 6 26] .done)))))) (.one (q 6 (.alc 78 [zi,zs,zs,zs,zs,zs,zs,zi,zi,
 zs])) (.both (.one (q 17 (.mk 3 1 8 [zi] (t 16) (t 16))) (.both (O [q 21 (.mk 28 1 24 [zs] (t 20) (t 20)),q 25 (.mk 3 1 8 [zi] (t 24) (t 24)),q 26 (.bld [zi,zs,zs,zs,zs,zs,zs,zi,
 zi,zs] [(0,2,t 13),(4,1,t 17),(5,1,t 21),(6,1,t 25)]),S 10 6 26] .done) (O [q 25 (.mk 3 1 8 [zi] (t 24) (t 24)),q 21 (.mk 28 1 24 [zs] (t 20) (t 20)),q 26 (.bld [zi,zs,zs,zs,zs,zs,
 zs,zi,zi,zs] [(0,2,t 13),(4,1,t 17),(5,1,t 21),(6,1,t 25)]),S 10 6 26] .done))) (.both (.one (q 21 (.mk 28 1 24 [zs] (t 20) (t 20))) (.both (O [q 17 (.mk 3 1 8 [zi] (t 16) (t 16)),
 q 25 (.mk 3 1 8 [zi] (t 24) (t 24)),q 26 (.bld [zi,zs,zs,zs,zs,zs,zs,zi,zi,zs] [(0,2,t 13),(4,1,t 17),(5,1,t 21),(6,1,t 25)]),
 S 10 6 26] .done) (O [q 25 (.mk 3 1 8 [zi] (t 24) (t 24)),q 17 (.mk 3 1 8 [zi] (t 16) (t 16)),q 26 (.bld [zi,zs,zs,zs,zs,zs,zs,zi,zi,zs] [(0,2,t 13),(4,1,t 17),(5,1,t 21),(6,1,
 t 25)]),S 10 6 26] .done))) (.one (q 25 (.mk 3 1 8 [zi] (t 24) (t 24))) (.both (O [q 17 (.mk 3 1 8 [zi] (t 16) (t 16)),q 21 (.mk 28 1 24 [zs] (t 20) (t 20)),q 26 (.bld [zi,zs,zs,
 zs,zs,zs,zs,zi,zi,zs] [(0,2,t 13),(4,1,t 17),(5,1,t 21),(6,1,t 25)]),S 10 6 26] .done) (O [q 21 (.mk 28 1 24 [zs] (t 20) (t 20)),q 17 (.mk 3 1 8 [zi] (t 16) (t 16)),q 26 (.bld [zi,
 zs,zs,zs,zs,zs,zs,zi,zi,zs] [(0,2,t 13),(4,1,t 17),(5,1,t 21),(6,1,t 25)]),S 10 6 26] .done))))))))))) (.seq (.ops [f 27 0 1 2,l 28 1 27,m 7 28]) (.seq (.seq (.ops [f 29 1 1 2,
 l 30 1 29,n 31 30,i 32 0]) (.block 0 (.loop (.seq (.ops [B 33 .lss 32 31]) (.seq (.cond (t 33) .skip (.exit 0)) (.seq (.block 1 (.seq (.ops [m 34 32,
 m 8 34]) (.seq (.ops [f 35 6 1 6,l 36 1 35,m 37 8,m 38 7,x 39 1 36 37,s 1 39 38]) (.ops [m 40 7,m 41 1,m 42 8,x 43 1 41 42,L 44 1 43,c1 45 25 44,B 46 .add 40 45,
 m 7 46])))) (.ops [b 47 .add 32 1,m 32 47]))))))) (.seq (.ops [m 48 7,f 49 7 1 6,s 1 49 48]) (.seq (.ops [m 50 7,f 51 1 1 2,l 52 1 51,n 53 52,b 54 .sub 53 1,B 55 .add 50 54,
 m 7 55]) (.seq (.seq (.ops [m 56 7,b 57 .gtr 56 32768]) (.cond (t 57) (.seq (.ops [q 58 (.bld [zs,zi] []),S 2 4 58,i 5 2]) .ret) .skip)) (.seq (.ops [f 59 1 1 2,l 60 1 59,n 61 60,
 b 62 .sub 61 1,m 9 62]) (.seq (.ops [m 63 9,m 64 1,m 65 9,x 66 1 64 65,L 67 1 66,c3 68 26 6 63 67]) (.seq (.seq (.ops [i 10 0]) (.block 2 (.loop (.seq (.seq (.ops [m 69 10,m 70 9,
 B 71 .lss 69 70]) (.cond (t 71) .skip (.exit 2))) (.seq (.block 3 (.seq (.ops [m 74 10,m 75 1,m 76 10,x 77 1 75 76,L 78 1 77,c3 79 26 6 74 78]) (.seq (.ops [f 80 2 1 6,l 81 1 80,
 n 82 81,b 83 .gtr 82 16384]) (.cond (t 83) (.seq (.ops [q 84 (.bld [zs,zi] []),S 2 4 84,i 5 2]) .ret) .skip)))) (.ops [m 72 10,b 73 .add 72 1,
 m 10 73])))))) (.seq (.seq (.ops [f 85 2 1 6,l 86 1 85,n 87 86,b 88 .gtr 87 16384]) (.cond (t 88) (.seq (.ops [q 89 (.bld [zs,zi] []),S 2 4 89,
 i 5 2]) .ret) .skip)) (.seq (.ops [c1 91 27 6,m 90 91,e 92 90 0,e 93 90 1,m 11 92,m 12 93]) (.seq (.seq (.ops [m 94 12,b 95 .neq 94 0]) (.cond (t 95) (.seq (.ops [q 96 (.bld [zs,
 zi] []),S 2 4 96,i 5 2]) .ret) .skip)) (.seq (.ops [m 97 11,m 98 7,q 99 (.bld [zs,zi] [(0,1,t 97),(1,1,t 98)]),S 2 4 99,i 5 0]) .ret))))))))))))))
theorem b7T : a0z Tryz.prog 9 = some (100, a1a, [(.cell 4 true 2), (.tmp 5)]) := by kernel_rfl
def a0J:VC:=(.seq (.ops [X 3 24 0,q 6 (.alc 47 [zi,(.string ⟨#[]⟩),zi])]) (.seq (.par false (O [f 15 1 1 3,l 16 1 15,f 17 0 1 3,l 18 1 17,f 20 1 1 3,l 21 1 20,n 22 21,
 m 24 1] (.both (O [q 19 (.mk 93 1 4 [.int .u32 0] (t 18) (t 18)),q 23 (.mk 40 1 24 [zs] (t 22) (t 22)),q 25 (.bld [zs,zs,zs,(.string ⟨#[]⟩),zi,zs] [(0,1,t 16),(1,1,t 19),(2,1,
 t 23),(3,1,t 24)]),X 26 86 25,m 7 26] .done) (O [q 23 (.mk 40 1 24 [zs] (t 22) (t 22)),q 19 (.mk 93 1 4 [.int .u32 0] (t 18) (t 18)),q 25 (.bld [zs,zs,zs,(.string ⟨#[]⟩),zi,
 zs] [(0,1,t 16),(1,1,t 19),(2,1,t 23),(3,1,t 24)]),X 26 86 25,m 7 26] .done)))) (.seq (.ops [m 27 7,f 28 1 1 3,l 29 1 28,n 30 29,b 31 .sub 30 1,c2 32 28 27 31,q 8 (.alc 88 [zi,zi,
 zi,zs]),S 4 8 32]) (.seq (.ops [q 9 (.mv (.const zs))]) (.seq (.ops [i 10 0,i 11 0]) (.seq .skip (.seq (.block 0 (.loop (.block 1 (.seq (.seq (.ops [m 33 11,m 34 2,
 B 35 .geq 33 34]) (.cond (t 35) (.seq (.ops [i 10 5]) (.exit 0)) .skip)) (.seq (.ops [m 36 11,b 37 .add 36 1,m 11 37]) (.seq (.ops [f 38 1 1 3,l 39 1 38,f 40 0 1 8,l 41 1 40,
 x 42 2 39 41,f 43 1 1 42,l 44 1 43,f 45 1 1 8,l 46 1 45,x 47 5 44 46,m 12 47]) (.seq (.seq (.ops [f 48 2 1 8,l 49 1 48,m 50 12,k 51 50,f 52 0 1 51,l 53 1 52,n 54 53,
 B 55 .lss 49 54]) (.cond (t 55) (.seq (.ops [m 56 12,k 57 56,f 58 0 1 57,l 59 1 58,f 60 2 1 8,l 61 1 60,x 62 8 59 61,m 13 62]) (.seq (.ops [f 63 2 1 8,l 64 1 63,b 65 .add 64 1,
 f 66 2 1 8,s 1 66 65]) (.seq (.seq (.ops [m 67 13,k 68 67,f 69 0 1 68,l 70 1 69,b 71 .eql 70 10]) (.cond (t 71) (.seq (.ops [m 72 9,L 73 4 8,q 74 (.bsl 88 4 1 [zi,zi,zi,zs] [(0,4,
 t 73)]),q 75 (.app 88 4 48 (t 72) (t 74)),m 9 75]) (.ops [m 76 7,m 77 13,k 78 77,f 79 5 1 78,l 80 1 79,c2 81 28 76 80,S 4 8 81])) (.seq (.ops [m 82 7,m 83 13,f 84 3 1 8,l 85 1 84,
 c3 86 29 82 83 85,m 10 86]) (.seq (.ops [m 87 10,b 88 .neq 87 0]) (.cond (t 88) (.exit 0) .skip))))) (.exit 1)))) .skip)) (.seq (.ops [m 89 12,k 90 89,f 91 1 1 90,
 l 92 1 91]) (.block 2 (.seq (.ops [b 94 .eql 92 1,m 93 94]) (.cond (t 93) (.ops [m 95 12,k 96 95,f 97 3 1 96,l 98 1 97,f 99 1 1 8,s 1 99 98,f 100 2 1 8,⟨none,none,
 .sto false 1 (t 100) (.const zi)⟩]) (.seq (.ops [b 102 .eql 92 2,m 101 102]) (.cond (t 101) (.seq (.ops [m 103 12,k 104 103,f 105 4 1 104,l 106 1 105,
 m 14 106]) (.seq (.seq (.ops [f 107 3 1 8,l 108 1 107,m 109 12,k 110 109,f 111 2 1 110,l 112 1 111,x 113 1 108 112,l 114 1 113,
 q 115 (.bin .neq (t 114) (.const (.int .u32 0)))]) (.cond (t 115) (.ops [m 116 12,k 117 116,f 118 3 1 117,l 119 1 118,m 14 119]) .skip)) (.ops [m 120 14,f 121 1 1 8,s 1 121 120,
 f 122 2 1 8,⟨none,none,.sto false 1 (t 122) (.const zi)⟩]))) (.seq (.ops [b 124 .eql 92 3,m 123 124]) (.cond (t 123) (.seq (.seq (.ops [m 125 9,n 126 125,
 b 127 .eql 126 0]) (.cond (t 127) (.seq (.ops [i 10 1]) (.exit 0)) .skip)) (.seq (.ops [m 128 9,m 129 9,n 130 129,b 131 .sub 130 1,x 132 4 128 131,L 133 4 132,
 S 4 8 133]) (.ops [m 134 9,m 135 9,n 136 135,b 137 .sub 136 1,q 138 (.sl 4 (t 134) none (some (t 137))),m 9 138]))) .skip))))))))))))))) (.seq (.ops [m 139 10,m 140 7,k 141 140,
 f 142 5 1 141,l 143 1 142,q 144 (.see .b2s [t 143]),m 145 11,q 146 (.bld [zi,(.string ⟨#[]⟩),zi] [(0,1,t 139),(1,1,t 144),(2,1,t 145)]),S 3 6 146]) .ret))))))))
theorem b7U : a0z Tryz.prog 10 = some (147, a0J, [(.cell 6 true 3)]) := by kernel_rfl
def b4q:VC:=(.seq (.ops [X 3 42 0,q 6 (.alc 47 [zi,(.string ⟨#[]⟩),zi])]) (.seq (.par false (O [L 8 2 3,m 9 1,L 10 2 3,c1 11 31 10,m 12 2,c4 13 30 8 9 11 12,q 7 (.alc 99 [zi,(.int .u32 0),
 (.int .u32 0),(.int .u32 0),(.int .u32 0),(.int .u32 0),(.int .u32 0),(.int .u32 0),(.int .u32 0),(.int .u32 0),(.int .u32 0),(.int .u32 0),(.int .u32 0),(.int .u32 0),
 (.int .u32 0),(.int .u32 0),(.int .u32 0),zs,zi,(.string ⟨#[]⟩),zi,zi]),S 22 7 13] .done)) (.seq (.seq (.ops [f 14 21 1 7,l 15 1 14,
 b 16 .eql 15 0]) (.cond (t 16) (.ops [f 17 21 1 7,⟨none,none,.sto false 1 (t 17) (.const (.int .i64 5))⟩]) .skip)) (.seq (.ops [f 18 21 1 7,l 19 1 18,f 20 19 1 7,l 21 1 20,
 f 22 20 1 7,l 23 1 22,q 24 (.bld [zi,(.string ⟨#[]⟩),zi] [(0,1,t 19),(1,1,t 21),(2,1,t 23)]),S 3 6 24]) .ret))))
theorem c0f : a0z Tryz.prog 11 = some (25, b4q, [(.cell 6 true 3)]) := by kernel_rfl
def a8k:VC:=(.seq (.ops [X 3 24 0,i 6 0]) (.seq (.par false (O [m 7 2,b 8 .add 7 1,f 9 0 1 3,l 10 1 9,m 11 1,c1 12 8 11,B 13 .add 10 12,q 14 (.bin .mul (.const (.int .i64 8)) (t 13)),
 q 15 (.bin .add (.const (.int .i64 64)) (t 14)),B 16 .mul 8 15,m 6 16] .done)) .ret))
theorem b3C : a0z Tryz.prog 12 = some (17, a8k, [.tmp 6]) := by kernel_rfl
def a7p:VC:=(.seq (.ops [q 0 (.alc 24 [zi,zs])]) (.seq (.ops [q 1 (.bld [zi,zi,zi,zi,zi,zi,zi,.int .u32 0] [(0,(1,(.const (.int .i64 1)))),(7,(1,(.const (.int .u32 65))))]),q 2 (.bld [zi,zi,
 zi,zi,zi,zi,zi,.int .u32 0] [(0,(1,(.const (.int .i64 9))))]),q 3 (.bsl 95 8 2 [zi,zi,zi,zi,zi,zi,zi,.int .u32 0,zi,zi,zi,zi,zi,zi,zi,.int .u32 0] [(0,8,t 1),(8,8,t 2)]),
 q 4 (.bld [zs,zi,zi,zi,zi] [(0,1,t 3),(1,(1,(.const (.int .i64 3))))]),q 5 (.bsl 56 5 1 [zs,zi,zi,zi,zi] [(0,5,t 4)]),q 6 (.bld [zi,zs] [(0,(1,(.const (.int .i64 1)))),(1,1,t 5)]),
 q 7 (.bsl 34 2 1 [zi,zs] [(0,2,t 6)]),q 8 (.bld [zi,zs] [(1,1,t 7)]),S 2 0 8]) .ret))
theorem b2I : a0z Tryz.prog 13 = some (9, a7p, [(.cell 0 true 2)]) := by kernel_rfl
def a5a:VC:=(.seq (.ops [X 2 47 0,X 3 47 1,o 4 false]) (.seq (.ops [f 5 0 1 2,l 6 1 5,f 7 0 1 3,l 8 1 7,B 9 .eql 6 8,m 10 9,Q 11 10 true (.fad 1 false 1 (t 2)),
 Q 12 10 true (.ld false 1 (t 11)),Q 13 10 true (.fad 1 false 1 (t 3)),Q 14 10 true (.ld false 1 (t 13)),Q 15 10 true (.bin .eql (t 12) (t 14)),
 q 16 (.pick (t 10) (t 15) (.const (.bool false))),m 4 16]) .ret))
theorem b3D : a0z Tryz.prog 14 = some (17, a5a, [.tmp 4]) := by kernel_rfl
def a9l:VC:=(.seq (.ops [X 3 42 0,q 6 (.alc 47 [zi,(.string ⟨#[]⟩),zi])]) (.seq (.par false (O [L 8 2 3,m 9 1,L 10 2 3,c1 11 33 10,m 12 2,c4 13 32 8 9 11 12,q 7 (.alc 99 [zi,(.int .u32 0),
 (.int .u32 0),(.int .u32 0),(.int .u32 0),(.int .u32 0),(.int .u32 0),(.int .u32 0),(.int .u32 0),(.int .u32 0),(.int .u32 0),(.int .u32 0),(.int .u32 0),(.int .u32 0),
 (.int .u32 0),(.int .u32 0),(.int .u32 0),zs,zi,(.string ⟨#[]⟩),zi,zi]),S 22 7 13] .done)) (.seq (.seq (.ops [f 14 21 1 7,l 15 1 14,
 b 16 .eql 15 0]) (.cond (t 16) (.ops [f 17 21 1 7,⟨none,none,.sto false 1 (t 17) (.const (.int .i64 5))⟩]) .skip)) (.seq (.ops [f 18 21 1 7,l 19 1 18,f 20 19 1 7,l 21 1 20,
 f 22 20 1 7,l 23 1 22,q 24 (.bld [zi,(.string ⟨#[]⟩),zi] [(0,1,t 19),(1,1,t 21),(2,1,t 23)]),S 3 6 24]) .ret))))
theorem b4S : a0z Tryz.prog 15 = some (25, a9l, [(.cell 6 true 3)]) := by kernel_rfl
def a1V:VC:=(.seq (.ops [X 1 24 0,o 2 false]) (.seq (.seq (.ops [f 4 0 1 1,l 5 1 4,b 6 .lss 5 0,m 7 6,Q 8 7 false (.fad 0 false 1 (t 1)),Q 9 7 false (.ld false 1 (t 8)),
 Q 10 7 false (.bin .gtr (t 9) (.const (.int .i64 1048576))),q 11 (.pick (t 7) (.const (.bool true)) (t 10)),m 12 11,Q 13 12 false (.fad 1 false 1 (t 1)),
 Q 14 12 false (.ld false 1 (t 13)),Q 15 12 false (.len (t 14)),Q 16 12 false (.bin .eql (t 15) (.const zi)),
 q 17 (.pick (t 12) (.const (.bool true)) (t 16))]) (.cond (t 17) (.seq (.ops [o 2 false]) .ret) .skip)) (.seq (.seq (.ops [i 3 0]) (.block 0 (.loop (.seq (.seq (.ops [m 18 3,
 f 19 1 1 1,l 20 1 19,n 21 20,B 22 .lss 18 21]) (.cond (t 22) .skip (.exit 0))) (.seq (.block 1 (.seq (.ops [f 25 1 1 1,l 26 1 25,m 27 3,x 28 2 26 27,L 29 2 28,m 30 3,f 31 0 1 1,
 l 32 1 31,c3 33 34 29 30 32,q 34 (.un .not (t 33))]) (.cond (t 34) (.seq (.ops [o 2 false]) .ret) .skip))) (.ops [m 23 3,b 24 .add 23 1,
 m 3 24])))))) (.seq (.ops [o 2 true]) .ret))))
theorem b2J : a0z Tryz.prog 16 = some (35, a1V, [.tmp 2]) := by kernel_rfl
def a7q:VC:=(.seq (.ops [X 2 34 0,X 3 37 1,q 4 (.mv (.const zs)),q 5 (.mv (.const zs))]) (.seq (.ops [f 19 0 1 2,l 20 1 19,q 21 (.mk 59 1 24 [zs] (t 20) (t 20)),
 m 6 21]) (.seq (.seq (.ops [m 22 6,n 23 22,i 24 0]) (.block 0 (.loop (.seq (.ops [B 25 .lss 24 23]) (.seq (.cond (t 25) .skip (.exit 0)) (.seq (.block 1 (.seq (.ops [m 26 24,
 m 7 26]) (.ops [m 27 6,m 28 7,f 29 0 1 2,l 30 1 29,c1 31 35 30,x 32 1 27 28,s 1 32 31]))) (.ops [b 33 .add 24 1,m 24 33]))))))) (.seq (.ops [f 34 0 1 2,l 35 1 34,c1 36 35 35,
 m 8 36]) (.seq (.ops [f 37 0 1 3,l 38 1 37,q 39 (.idx 1 (t 38) (.const zi)),l 40 1 39,c1 41 36 40,m 9 41]) (.seq (.seq (.ops [m 42 6,n 43 42,
 i 44 0]) (.block 2 (.loop (.seq (.ops [B 45 .lss 44 43]) (.seq (.cond (t 45) .skip (.exit 2)) (.seq (.block 3 (.seq (.ops [m 46 44,m 10 46]) (.seq (.ops [m 47 9,m 48 10,
 c2 49 18 47 48]) (.cond (t 49) (.ops [m 50 6,m 51 10,x 52 1 50 51,l 53 1 52,m 54 9,c2 55 37 53 54]) .skip)))) (.ops [b 56 .add 44 1,m 44 56]))))))) (.seq (.seq (.ops [f 57 1 1 2,
 l 58 1 57,n 59 58,i 60 0]) (.block 4 (.loop (.seq (.ops [B 61 .lss 60 59]) (.seq (.cond (t 61) .skip (.exit 4)) (.seq (.block 5 (.seq (.ops [m 62 60,x 63 5 58 60,L 64 5 63,
 q 12 (.alc 56 [zs,zi,zi,zi,zi]),m 11 62,S 5 12 64]) (.seq (.ops [f 65 1 1 3,l 66 1 65,m 67 11,x 68 1 66 67,l 69 1 68,c1 70 36 69,m 13 70]) (.seq (.seq (.ops [f 71 1 1 12,l 72 1 71,
 b 73 .eql 72 2]) (.cond (t 73) (.ops [m 74 13,f 75 2 1 12,l 76 1 75,c2 77 38 74 76]) .skip)) (.seq (.ops [f 78 0 1 12,l 79 1 78,n 80 79,b 81 .sub 80 1,
 m 14 81]) (.block 6 (.loop (.seq (.seq (.ops [m 82 14,b 83 .geq 82 0]) (.cond (t 83) .skip (.exit 6))) (.seq (.block 7 (.seq (.ops [f 86 0 1 12,l 87 1 86,m 88 14,x 89 8 87 88,
 L 90 8 89,q 15 (.alc 95 [zi,zi,zi,zi,zi,zi,zi,.int .u32 0]),S 8 15 90]) (.seq (.seq (.ops [f 91 0 1 15,l 92 1 91,b 93 .eql 92 10]) (.cond (t 93) (.ops [m 94 8,m 95 13,
 c2 96 37 94 95]) .skip)) (.seq (.seq (.ops [L 97 8 15,c1 98 39 97,m 16 98]) (.seq (.ops [m 99 16,b 100 .geq 99 0]) (.cond (t 100) (.seq (.ops [m 101 6,m 102 16,x 103 1 101 102,
 l 104 1 103,m 105 13,c2 106 37 104 105]) (.ops [m 107 13,m 108 16,c2 109 40 107 108])) .skip))) (.seq (.ops [L 110 8 15,c1 111 41 110,n 112 111,
 i 113 0]) (.block 8 (.loop (.seq (.ops [B 114 .lss 113 112]) (.seq (.cond (t 114) .skip (.exit 8)) (.seq (.block 9 (.seq (.ops [x 115 1 111 113,l 116 1 115,
 m 18 116]) (.ops [m 117 13,m 118 18,c2 119 38 117 118]))) (.ops [b 120 .add 113 1,m 113 120]))))))))))) (.ops [m 84 14,b 85 .sub 84 1,m 14 85])))))))))) (.ops [b 121 .add 60 1,
 m 60 121]))))))) (.seq (.ops [m 122 6,m 123 8,m 4 122,m 5 123]) .ret))))))))
theorem b2K : a0z Tryz.prog 17 = some (124, a7q, [.tmp 4,.tmp 5]) := by kernel_rfl
def a5U:VC:=(.seq (.ops [o 4 false]) (.seq (.ops [m 5 0,m 6 1,b 7 .quo 6 64,x 8 1 5 7,l 9 1 8,m 10 1,b 11 .rem 10 64,B 12 .shr 9 11,q 13 (.bin .and (t 12) (.const (.int .u64 1))),
 q 14 (.bin .neq (t 13) (.const (.int .u64 0))),m 4 14]) .ret))
theorem b1T : a0z Tryz.prog 18 = some (15, a5U, [.tmp 4]) := by kernel_rfl
def a7r:VC:=(.seq (.ops [i 8 0]) (.seq (.seq (.ops [m 11 3,q 12 (.un .not (t 11))]) (.cond (t 12) (.seq (.ops [i 9 1]) (.block 0 (.loop (.seq (.seq (.ops [m 13 9,m 14 0,n 15 14,
 B 16 .lss 13 15]) (.cond (t 16) .skip (.exit 0))) (.seq (.block 1 (.seq (.ops [m 19 0,m 20 9,x 21 1 19 20,l 22 1 21,m 23 2,B 24 .neq 22 23]) (.cond (t 24) (.seq (.ops [m 25 9,
 m 8 25]) .ret) .skip))) (.ops [m 17 9,b 18 .add 17 1,m 9 18])))))) .skip)) (.seq (.ops [i 10 1]) (.seq (.block 2 (.loop (.seq (.seq (.ops [m 26 1,m 27 10,x 28 1 26 27,l 29 1 28,
 m 30 2,B 31 .eql 29 30]) (.cond (t 31) .skip (.exit 2))) (.block 3 (.ops [m 32 10,b 33 .add 32 1,m 10 33]))))) (.seq (.ops [m 34 10,q 35 (.un .neg (t 34)),m 8 35]) .ret)))))
theorem b6w : a0z Tryz.prog 19 = some (36, a7r, [.tmp 8]) := by kernel_rfl
def c_live_solverOf:VC:=(.seq (.ops [X 1 34 0,q 2 (.mv (.const (.pointer none)))]) (.seq (.ops [f 12 1 1 1,l 13 1 12,n 14 13,m 3 14]) (.seq (.par false (O [L 15 2 1,c1 16 42 15,m 17 3,
 m 19 3] (.both (O [q 18 (.mk 28 1 24 [zs] (t 17) (t 17)),q 20 (.mk 4 1 1 [.bool false] (t 19) (t 19)),q 21 (.bld [zs,zs,zs,zs,zs,zs,zs,zs] [(0,1,t 16),(1,1,t 18),(7,1,t 20)]),
 X 22 70 21,m 4 22] .done) (O [q 20 (.mk 4 1 1 [.bool false] (t 19) (t 19)),q 18 (.mk 28 1 24 [zs] (t 17) (t 17)),q 21 (.bld [zs,zs,zs,zs,zs,zs,zs,zs] [(0,1,t 16),(1,1,t 18),(7,1,
 t 20)]),X 22 70 21,m 4 22] .done)))) (.seq (.seq (.ops [m 23 4,k 24 23,f 25 0 1 24,l 26 1 25,n 27 26,
 i 28 0]) (.block 0 (.loop (.seq (.ops [B 29 .lss 28 27]) (.seq (.cond (t 29) .skip (.exit 0)) (.seq (.block 1 (.seq (.ops [m 30 28,x 31 1 26 28,l 32 1 31,m 5 30,
 m 6 32]) (.seq (.seq (.ops [m 33 6,n 34 33,i 35 0]) (.block 2 (.loop (.seq (.ops [B 36 .lss 35 34]) (.seq (.cond (t 36) .skip (.exit 2)) (.seq (.block 3 (.seq (.ops [x 37 1 33 35,
 l 38 1 37,m 8 38]) (.par false (O [m 39 4,m 43 8,m 44 4,k 45 44,f 46 1 1 45,l 47 1 46,m 48 8,x 49 1 47 48,l 50 1 49,
 m 51 5] (.both (.one (k 40 39) (.both (.one (f 41 1 1 40) (.both (O [l 42 1 41,q 52 (.bsl 3 1 1 [zi] [(0,1,t 51)]),q 53 (.app 3 1 8 (t 50) (t 52)),x 54 1 42 43,
 s 1 54 53] .done) (.one (q 52 (.bsl 3 1 1 [zi] [(0,1,t 51)])) (.both (O [l 42 1 41,q 53 (.app 3 1 8 (t 50) (t 52)),x 54 1 42 43,
 s 1 54 53] .done) (O [q 53 (.app 3 1 8 (t 50) (t 52)),l 42 1 41,x 54 1 42 43,s 1 54 53] .done))))) (.one (q 52 (.bsl 3 1 1 [zi] [(0,1,
 t 51)])) (.both (.one (f 41 1 1 40) (.both (O [l 42 1 41,q 53 (.app 3 1 8 (t 50) (t 52)),x 54 1 42 43,s 1 54 53] .done) (O [q 53 (.app 3 1 8 (t 50) (t 52)),l 42 1 41,x 54 1 42 43,
 s 1 54 53] .done))) (O [q 53 (.app 3 1 8 (t 50) (t 52)),f 41 1 1 40,l 42 1 41,x 54 1 42 43,s 1 54 53] .done))))) (.one (q 52 (.bsl 3 1 1 [zi] [(0,1,
 t 51)])) (.both (.one (k 40 39) (.both (.one (f 41 1 1 40) (.both (O [l 42 1 41,q 53 (.app 3 1 8 (t 50) (t 52)),x 54 1 42 43,s 1 54 53] .done) (O [q 53 (.app 3 1 8 (t 50) (t 52)),
 l 42 1 41,x 54 1 42 43,s 1 54 53] .done))) (O [q 53 (.app 3 1 8 (t 50) (t 52)),f 41 1 1 40,l 42 1 41,x 54 1 42 43,s 1 54 53] .done))) (O [q 53 (.app 3 1 8 (t 50) (t 52)),k 40 39,
 f 41 1 1 40,l 42 1 41,x 54 1 42 43,s 1 54 53] .done)))))))) (.ops [b 55 .add 35 1,m 35 55]))))))) (.seq (.par false (O [f 57 1 1 1,l 58 1 57,m 59 5,x 60 5 58 59,L 61 5 60,
 f 62 0 1 1,l 63 1 62,c2 64 43 61 63,m 56 64,e 65 56 0,e 66 56 1,m 9 65,m 10 66] .done)) (.seq (.ops [m 67 4,m 68 4,k 69 68,f 70 2 1 69,l 71 1 70,m 72 9,q 73 (.bsl 72 1 1 [zs] [(0,
 1,t 72)]),q 74 (.app 72 1 24 (t 71) (t 73)),k 75 67,f 76 2 1 75,s 1 76 74]) (.seq (.ops [m 77 4,m 78 4,k 79 78,f 80 3 1 79,l 81 1 80,m 82 10,q 83 (.bsl 72 1 1 [zs] [(0,1,t 82)]),
 q 84 (.app 72 1 24 (t 81) (t 83)),k 85 77,f 86 3 1 85,s 1 86 84]) (.seq (.par false (O [m 87 4,m 88 4,k 89 88,f 90 4 1 89,f 92 0 1 1,l 93 1 92] (.both (O [l 91 1 90,
 q 94 (.callM true (.func 44) [t 93]),q 95 (.bsl 72 1 1 [zs] [(0,1,t 94)]),q 96 (.app 72 1 24 (t 91) (t 95)),k 97 87,f 98 4 1 97,
 s 1 98 96] .done) (O [q 94 (.callM true (.func 44) [t 93]),l 91 1 90,q 95 (.bsl 72 1 1 [zs] [(0,1,t 94)]),q 96 (.app 72 1 24 (t 91) (t 95)),k 97 87,f 98 4 1 97,
 s 1 98 96] .done)))) (.par false (O [m 99 4,m 100 4,k 101 100,f 102 5 1 101,f 104 0 1 1,l 105 1 104] (.both (O [l 103 1 102,q 106 (.callM true (.func 44) [t 105]),
 q 107 (.bsl 72 1 1 [zs] [(0,1,t 106)]),q 108 (.app 72 1 24 (t 103) (t 107)),k 109 99,f 110 5 1 109,s 1 110 108] .done) (O [q 106 (.callM true (.func 44) [t 105]),l 103 1 102,
 q 107 (.bsl 72 1 1 [zs] [(0,1,t 106)]),q 108 (.app 72 1 24 (t 103) (t 107)),k 109 99,f 110 5 1 109,s 1 110 108] .done))))))))))) (.ops [b 111 .add 28 1,
 m 28 111]))))))) (.seq (.seq (.ops [m 112 3,
 i 113 0]) (.block 4 (.loop (.seq (.ops [B 114 .lss 113 112]) (.seq (.cond (t 114) .skip (.exit 4)) (.seq (.block 5 (.seq (.ops [m 115 113,m 11 115]) (.ops [m 116 4,m 117 11,
 c2 118 22 116 117]))) (.ops [b 119 .add 113 1,m 113 119]))))))) (.seq (.ops [m 120 4,m 2 120]) .ret))))))
theorem b2L : a0z Tryz.prog 20 = some (121, c_live_solverOf, [.tmp 2]) := by kernel_rfl
def a4T:VC:=(.seq (.ops [o 4 false]) (.seq (.ops [m 13 0,k 14 13,f 15 5 1 14,l 16 1 15,m 17 1,x 18 1 16 17,l 19 1 18,m 5 19,o 6 false]) (.seq (.seq (.ops [m 20 0,k 21 20,f 22 0 1 21,l 23 1 22,
 m 24 1,x 25 1 23 24,l 26 1 25,n 27 26,i 28 0]) (.block 0 (.loop (.seq (.ops [B 29 .lss 28 27]) (.seq (.cond (t 29) .skip (.exit 0)) (.seq (.block 1 (.seq (.ops [x 30 1 26 28,
 l 31 1 30,m 8 31]) (.seq (.ops [m 32 0,k 33 32,f 34 4 1 33,l 35 1 34,m 36 8,x 37 1 35 36,l 38 1 37,n 39 38,
 i 40 0]) (.block 2 (.loop (.seq (.ops [B 41 .lss 40 39]) (.seq (.cond (t 41) .skip (.exit 2)) (.seq (.block 3 (.seq (.ops [m 42 40,x 43 1 38 40,l 44 1 43,m 9 42,
 m 10 44]) (.ops [m 45 5,m 46 9,x 47 1 45 46,l 48 1 47,m 49 10,B 50 .or 48 49,x 51 1 45 46,s 1 51 50]))) (.ops [b 52 .add 40 1,m 40 52]))))))))) (.ops [b 53 .add 28 1,
 m 28 53]))))))) (.seq (.seq (.ops [m 54 5,n 55 54,
 i 56 0]) (.block 4 (.loop (.seq (.ops [B 57 .lss 56 55]) (.seq (.cond (t 57) .skip (.exit 4)) (.seq (.block 5 (.seq (.ops [m 58 56,m 11 58]) (.seq (.ops [m 59 0,k 60 59,
 f 61 2 1 60,l 62 1 61,m 63 1,x 64 1 62 63,l 65 1 64,m 66 11,x 67 1 65 66,l 68 1 67,m 69 5,m 70 11,x 71 1 69 70,l 72 1 71,m 73 0,k 74 73,f 75 3 1 74,l 76 1 75,m 77 1,x 78 1 76 77,
 l 79 1 78,m 80 11,x 81 1 79 80,l 82 1 81,B 83 .andNot 72 82,B 84 .or 68 83,m 12 84]) (.seq (.ops [m 85 12,m 86 0,k 87 86,f 88 4 1 87,l 89 1 88,m 90 1,x 91 1 89 90,l 92 1 91,
 m 93 11,x 94 1 92 93,l 95 1 94,B 96 .neq 85 95]) (.cond (t 96) (.seq (.ops [m 97 0,k 98 97,f 99 4 1 98,l 100 1 99,m 101 1,x 102 1 100 101,l 103 1 102,m 104 11,m 105 12,
 x 106 1 103 104,s 1 106 105]) (.ops [o 6 true])) .skip))))) (.ops [b 107 .add 56 1,m 56 107]))))))) (.seq (.ops [m 108 6,m 4 108]) .ret)))))
theorem a9m : a0z Tryz.prog 21 = some (109, a4T, [.tmp 4]) := by kernel_rfl
def a1R:VC:=(.seq (.ops [m 4 0,k 5 4,f 6 7 1 5,l 7 1 6,m 8 1,x 9 1 7 8,l 10 1 9,q 11 (.un .not (t 10))]) (.cond (t 11) (.seq (.ops [m 12 0,k 13 12,f 14 7 1 13,l 15 1 14,m 16 1,x 17 1 15 16,
 ⟨none,none,.sto false 1 (t 17) (.const (.bool true))⟩]) (.ops [m 18 0,m 19 0,k 20 19,f 21 6 1 20,l 22 1 21,m 23 1,q 24 (.bsl 3 1 1 [zi] [(0,1,t 23)]),
 q 25 (.app 3 1 8 (t 22) (t 24)),k 26 18,f 27 6 1 26,s 1 27 25])) .skip))
theorem a9n : a0z Tryz.prog 22 = some (28, a1R, []) := by kernel_rfl
def a5i:VC:=(.seq (.ops [q 4 (.mv (.const zs))]) (.seq (.ops [m 7 1,q 8 (.mk 4 1 1 [.bool false] (t 7) (t 7)),m 5 8]) (.seq (.seq (.ops [m 9 5,n 10 9,
 i 11 0]) (.block 0 (.loop (.seq (.ops [B 12 .lss 11 10]) (.seq (.cond (t 12) .skip (.exit 0)) (.seq (.block 1 (.seq (.ops [m 13 11,m 6 13]) (.ops [m 14 5,m 15 6,m 16 0,m 17 6,
 b 18 .quo 17 64,x 19 1 16 18,l 20 1 19,m 21 6,b 22 .rem 21 64,B 23 .shr 20 22,q 24 (.bin .and (t 23) (.const (.int .u64 1))),q 25 (.bin .eql (t 24) (.const (.int .u64 1))),
 x 26 1 14 15,s 1 26 25]))) (.ops [b 27 .add 11 1,m 11 27]))))))) (.seq (.ops [m 28 5,m 4 28]) .ret))))
theorem b0j : a0z Tryz.prog 23 = some (29, a5i, [.tmp 4]) := by kernel_rfl
def a7s:VC:=(.seq (.ops [X 1 30 0,i 2 0]) (.seq (.ops [i 3 0]) (.seq (.seq (.ops [i 4 0]) (.block 0 (.loop (.seq (.seq (.ops [m 5 4,f 6 0 1 1,l 7 1 6,n 8 7,
 B 9 .lss 5 8]) (.cond (t 9) .skip (.exit 0))) (.seq (.block 1 (.seq (.ops [f 12 0 1 1,l 13 1 12,m 14 4,x 15 1 13 14,l 16 1 15,b 17 .lss 16 0,m 18 17,
 Q 19 18 true (.fad 0 false 1 (t 1)),Q 20 18 true (.ld false 1 (t 19)),Q 21 18 true (.mv (t 4)),Q 22 18 true (.idx 1 (t 20) (t 21)),Q 23 18 true (.ld false 1 (t 22)),
 Q 24 18 true (.un .neg (t 23)),Q 25 18 true (.mv (t 3)),Q 26 18 true (.bin .gtr (t 24) (t 25)),q 27 (.pick (t 18) (t 26) (.const (.bool false)))]) (.cond (t 27) (.ops [f 28 0 1 1,
 l 29 1 28,m 30 4,x 31 1 29 30,l 32 1 31,q 33 (.un .neg (t 32)),m 3 33]) .skip))) (.ops [m 10 4,b 11 .add 10 1,m 4 11])))))) (.seq (.ops [m 34 3,m 2 34]) .ret))))
theorem b2M : a0z Tryz.prog 24 = some (35, a7s, [.tmp 2]) := by kernel_rfl
def a9o:VC:=(.seq (.ops [X 1 30 0,i 2 0]) (.seq (.ops [i 3 0]) (.seq (.seq (.ops [f 6 0 1 1,l 7 1 6,n 8 7,
 i 9 0]) (.block 0 (.loop (.seq (.ops [B 10 .lss 9 8]) (.seq (.cond (t 10) .skip (.exit 0)) (.seq (.block 1 (.seq (.ops [x 11 1 7 9,l 12 1 11,m 5 12]) (.seq (.ops [m 13 5,
 b 14 .lss 13 0]) (.cond (t 14) (.ops [m 15 3,m 16 5,q 17 (.un .neg (t 16)),q 18 (.pur .mx [t 15,t 17]),m 3 18]) .skip)))) (.ops [b 19 .add 9 1,m 9 19]))))))) (.seq (.ops [m 20 3,
 m 2 20]) .ret))))
theorem b4T : a0z Tryz.prog 25 = some (21, a9o, [.tmp 2]) := by kernel_rfl
def a0g:VC:=(.seq (.ops [X 5 30 2]) (.seq (.ops [m 14 0,k 15 14,F 16 0 2 15,f 17 1 1 16,l 18 1 17,m 19 1,x 20 2 18 19,L 21 2 20,q 6 (.alc 34 [zi,zs]),S 2 6 21]) (.seq (.par false (O [m 22 0,
 m 23 0,m 24 1,f 25 0 1 5,k 27 22,f 28 8 1 27] (.both (O [l 26 1 25,s 1 28 24,k 29 23,f 30 9 1 29,s 1 30 26] .done) (O [s 1 28 24,l 26 1 25,k 29 23,f 30 9 1 29,
 s 1 30 26] .done)))) (.seq (.ops [m 31 0,k 32 31,f 33 4 1 32,l 34 1 33,m 35 1,m 36 0,k 37 36,f 38 2 1 37,l 39 1 38,n 40 39,x 41 1 34 35,s 1 41 40]) (.seq (.seq (.ops [m 42 1,
 m 43 0,k 44 43,F 45 0 2 44,f 46 1 1 45,l 47 1 46,n 48 47,b 49 .sub 48 1,B 50 .neq 42 49]) (.cond (t 50) (.ops [m 51 0,m 52 0,k 53 52,f 54 7 1 53,l 55 1 54,m 56 1,B 57 .add 55 56,
 q 58 (.callM false (.func 45) [t 51,(.const (.int .i64 17)),(.const (.int .i64 12)),(.const zi),t 57])]) .skip)) (.seq (.seq (.ops [L 59 2 6,c1 60 7 59,
 q 61 (.fld 0 false 1 (t 60)),q 62 (.idx 1 (t 61) (.const zi)),l 63 1 62,n 64 63,
 i 65 0]) (.block 0 (.loop (.seq (.ops [B 66 .lss 65 64]) (.seq (.cond (t 66) .skip (.exit 0)) (.seq (.block 1 (.seq (.ops [m 67 65,x 68 1 63 65,l 69 1 68,m 7 67,
 m 8 69]) (.seq (.seq (.ops [m 70 8,q 71 (.un .not (t 70))]) (.cond (t 71) (.exit 1) .skip)) (.seq (.ops [m 72 0,k 73 72,f 74 9 1 73,l 75 1 74,m 76 7,x 77 1 75 76,l 78 1 77,
 m 9 78]) (.seq (.ops [m 79 9,b 80 .gtr 79 0]) (.cond (t 80) (.ops [m 81 0,m 82 9,q 83 (.callM false (.func 45) [t 81,(.const (.int .i64 1)),t 82,(.const zi),
 (.const zi)])]) (.ops [m 84 0,m 85 7,q 86 (.callM false (.func 46) [t 84,t 85,(.const zi)])]))))))) (.ops [b 87 .add 65 1,m 65 87]))))))) (.seq (.par false (O [m 88 0,k 89 88,
 f 90 5 1 89,l 91 1 90,m 92 1,f 93 1 1 6,l 94 1 93,n 95 94,q 96 (.mk 3 1 8 [zi] (t 95) (t 95)),x 97 1 91 92,s 1 97 96] .done)) (.seq (.ops [f 98 1 1 6,l 99 1 98,n 100 99,
 i 101 0]) (.block 2 (.loop (.seq (.ops [B 102 .lss 101 100]) (.seq (.cond (t 102) .skip (.exit 2)) (.seq (.block 3 (.seq (.ops [m 103 101,x 104 5 99 101,L 105 5 104,
 q 11 (.alc 56 [zs,zi,zi,zi,zi]),m 10 103,S 5 11 105]) (.seq (.ops [m 106 0,k 107 106,f 108 5 1 107,l 109 1 108,m 110 1,x 111 1 109 110,l 112 1 111,m 113 10,m 114 0,k 115 114,
 f 116 2 1 115,l 117 1 116,n 118 117,x 119 1 112 113,s 1 119 118]) (.seq (.seq (.ops [f 120 0 1 11,l 121 1 120,n 122 121,
 i 123 0]) (.block 4 (.loop (.seq (.ops [B 124 .lss 123 122]) (.seq (.cond (t 124) .skip (.exit 4)) (.seq (.block 5 (.seq (.ops [x 125 8 121 123,L 126 8 125,q 13 (.alc 95 [zi,zi,zi,
 zi,zi,zi,zi,.int .u32 0]),S 8 13 126]) (.ops [m 127 0,L 128 8 13,c2 129 47 127 128]))) (.ops [b 130 .add 123 1,m 123 130]))))))) (.ops [m 131 0,L 132 5 11,m 133 10,
 b 134 .add 133 1,c3 135 48 131 132 134]))))) (.ops [b 136 .add 101 1,m 101 136]))))))))))))))
theorem a5j : a0z Tryz.prog 26 = some (137, a0g, []) := by kernel_rfl
def a2Y:VC:=(.seq (.ops [q 2 (.mv (.const zs)),i 3 0]) (.seq (.seq (.ops [m 12 0,k 13 12,f 14 3 1 13,l 15 1 14,n 16 15,
 i 17 0]) (.block 0 (.loop (.seq (.ops [B 18 .lss 17 16]) (.seq (.cond (t 18) .skip (.exit 0)) (.seq (.block 1 (.seq (.ops [x 19 3 15 17,L 20 3 19,q 5 (.alc 119 [zi,zi,zi]),
 S 3 5 20]) (.seq (.ops [m 21 0,k 22 21,f 23 4 1 22,l 24 1 23,f 25 1 1 5,l 26 1 25,x 27 1 24 26,l 28 1 27,m 6 28]) (.seq (.seq (.ops [f 29 2 1 5,l 30 1 29,
 b 31 .geq 30 0]) (.cond (t 31) (.ops [m 32 0,k 33 32,f 34 5 1 33,l 35 1 34,f 36 1 1 5,l 37 1 36,x 38 1 35 37,l 39 1 38,f 40 2 1 5,l 41 1 40,x 42 1 39 41,l 43 1 42,
 m 6 43]) .skip)) (.ops [m 44 0,k 45 44,f 46 2 1 45,l 47 1 46,f 48 0 1 5,l 49 1 48,m 50 6,x 51 4 47 49,f 52 3 1 51,s 1 52 50]))))) (.ops [b 53 .add 17 1,
 m 17 53]))))))) (.seq (.ops [m 54 0,k 55 54,f 56 2 1 55,l 57 1 56,n 58 57,q 59 (.mk 93 1 4 [.int .u32 0] (t 58) (t 58)),m 7 59]) (.seq (.seq (.ops [m 60 0,k 61 60,f 62 2 1 61,
 l 63 1 62,n 64 63,i 65 0]) (.block 2 (.loop (.seq (.ops [B 66 .lss 65 64]) (.seq (.cond (t 66) .skip (.exit 2)) (.seq (.block 3 (.seq (.ops [m 67 65,x 68 4 63 65,L 69 4 68,
 q 9 (.alc 121 [zi,zi,zi,zi]),m 8 67,S 4 9 69]) (.seq (.ops [L 71 4 9,c1 72 49 71,m 70 72,e 73 70 0,e 74 70 1,m 10 73,m 11 74]) (.seq (.seq (.ops [m 75 11,
 b 76 .neq 75 0]) (.cond (t 76) (.seq (.ops [m 77 11,q 2 (.mv (.const zs)),m 3 77]) .ret) .skip)) (.ops [m 78 7,m 79 8,m 80 10,x 81 1 78 79,s 1 81 80]))))) (.ops [b 82 .add 65 1,
 m 65 82]))))))) (.seq (.ops [m 83 7,m 2 83,i 3 0]) .ret)))))
theorem a5Y : a0z Tryz.prog 27 = some (84, a2Y, [.tmp 2,.tmp 3]) := by kernel_rfl
def a1W:VC:=(.seq (.ops [q 4 (.alc 88 [zi,zi,zi,zs])]) (.seq (.seq (.ops [m 5 0,k 6 5,f 7 2 1 6,l 8 1 7,m 9 1,x 10 1 8 9,l 11 1 10,
 q 12 (.eff (.nilr false) [t 11])]) (.cond (t 12) (.par false (O [m 13 0,k 14 13,f 15 2 1 14,l 16 1 15,m 17 1,m 18 0,k 19 18,f 20 0 1 19,l 21 1 20,m 22 1,x 23 2 21 22,f 24 0 1 23,
 l 25 1 24,q 26 (.mk 93 1 4 [.int .u32 0] (t 25) (t 25)),x 27 1 16 17,s 1 27 26] .done)) .skip)) (.seq (.ops [m 28 0,k 29 28,f 30 2 1 29,l 31 1 30,m 32 1,x 33 1 31 32,l 34 1 33,
 ⟨none,none,.eff (.clr (.int .u32 0)) [t 34]⟩]) (.seq (.ops [m 35 1,m 36 0,k 37 36,f 38 2 1 37,l 39 1 38,m 40 1,x 41 1 39 40,l 42 1 41,q 43 (.bld [zi,zi,zi,zs] [(0,1,t 35),(3,1,
 t 42)]),S 4 4 43]) .ret))))
theorem a7t : a0z Tryz.prog 28 = some (44, a1W, [(.cell 4 true 4)]) := by kernel_rfl
def a0w:VC:=(.seq (.ops [i 6 0]) (.seq (.seq (.ops [m 9 1,k 10 9,f 11 0 1 10,l 12 1 11]) (.block 0 (.seq (.ops [b 14 .eql 12 1,m 13 14]) (.cond (t 13) (.ops [m 15 2,m 16 1,k 17 16,f 18 1 1 17,
 l 19 1 18,m 20 1,k 21 20,f 22 7 1 21,l 23 1 22,x 24 1 15 19,s 1 24 23]) (.seq (.ops [b 26 .eql 12 2,m 25 26]) (.cond (t 25) (.ops [m 27 2,m 28 1,k 29 28,f 30 1 1 29,l 31 1 30,
 m 32 2,m 33 1,k 34 33,f 35 2 1 34,l 36 1 35,x 37 1 32 36,l 38 1 37,x 39 1 27 31,s 1 39 38]) (.seq (.ops [b 41 .eql 12 3,m 40 41]) (.cond (t 40) (.seq (.par false (O [m 43 1,
 k 44 43,f 45 4 1 44,l 46 1 45,m 47 2,m 48 1,k 49 48,f 50 2 1 49,l 51 1 50,x 52 1 47 51,l 53 1 52,m 54 2,m 55 1,k 56 55,f 57 3 1 56,l 58 1 57,x 59 1 54 58,l 60 1 59,
 c3 61 50 46 53 60,m 42 61,e 62 42 0,e 63 42 1,m 7 62,m 8 63] .done)) (.seq (.seq (.ops [m 64 8,b 65 .neq 64 0]) (.cond (t 65) (.seq (.ops [i 6 2]) .ret) .skip)) (.ops [m 66 2,
 m 67 1,k 68 67,f 69 1 1 68,l 70 1 69,m 71 7,x 72 1 66 70,s 1 72 71]))) (.seq (.ops [b 74 .eql 12 4,m 73 74]) (.cond (t 73) (.ops [m 75 2,m 76 1,k 77 76,f 78 1 1 77,l 79 1 78,
 m 80 0,k 81 80,f 82 1 1 81,l 83 1 82,m 84 1,k 85 84,f 86 5 1 85,l 87 1 86,x 88 1 83 87,l 89 1 88,x 90 1 75 79,s 1 90 89]) (.seq (.ops [b 92 .eql 12 5,
 m 91 92]) (.cond (t 91) (.ops [m 93 0,k 94 93,f 95 1 1 94,l 96 1 95,m 97 1,k 98 97,f 99 5 1 98,l 100 1 99,m 101 2,m 102 1,k 103 102,f 104 2 1 103,l 105 1 104,x 106 1 101 105,
 l 107 1 106,x 108 1 96 100,s 1 108 107]) (.seq (.ops [b 110 .eql 12 6,m 109 110]) (.cond (t 109) (.seq (.seq (.ops [m 111 2,m 112 1,k 113 112,f 114 2 1 113,l 115 1 114,
 x 116 1 111 115,l 117 1 116,q 118 (.conv .u64 (t 117)),m 119 1,k 120 119,f 121 6 1 120,l 122 1 121,q 123 (.conv .u64 (t 122)),
 B 124 .geq 118 123]) (.cond (t 124) (.seq (.ops [i 6 3]) .ret) .skip)) (.ops [m 125 2,m 126 1,k 127 126,f 128 1 1 127,l 129 1 128,m 130 0,k 131 130,f 132 1 1 131,l 133 1 132,
 m 134 1,k 135 134,f 136 5 1 135,l 137 1 136,m 138 2,m 139 1,k 140 139,f 141 2 1 140,l 142 1 141,x 143 1 138 142,l 144 1 143,q 145 (.conv .i64 (t 144)),B 146 .add 137 145,
 x 147 1 133 146,l 148 1 147,x 149 1 125 129,s 1 149 148])) (.seq (.ops [b 151 .eql 12 7,m 150 151]) (.cond (t 150) (.seq (.seq (.ops [m 152 2,m 153 1,k 154 153,f 155 2 1 154,
 l 156 1 155,x 157 1 152 156,l 158 1 157,q 159 (.conv .u64 (t 158)),m 160 1,k 161 160,f 162 6 1 161,l 163 1 162,q 164 (.conv .u64 (t 163)),
 B 165 .geq 159 164]) (.cond (t 165) (.seq (.ops [i 6 3]) .ret) .skip)) (.ops [m 166 0,k 167 166,f 168 1 1 167,l 169 1 168,m 170 1,k 171 170,f 172 5 1 171,l 173 1 172,m 174 2,
 m 175 1,k 176 175,f 177 2 1 176,l 178 1 177,x 179 1 174 178,l 180 1 179,q 181 (.conv .i64 (t 180)),B 182 .add 173 181,m 183 2,m 184 1,k 185 184,f 186 3 1 185,l 187 1 186,
 x 188 1 183 187,l 189 1 188,x 190 1 169 182,s 1 190 189])) (.seq (.ops [b 192 .eql 12 8,m 191 192]) (.cond (t 191) (.par false (O [m 193 2,m 194 1,k 195 194,f 196 1 1 195,
 m 198 0] (.both (O [l 197 1 196,q 199 (.callM true (.func 51) [t 198]),x 200 1 193 197,s 1 200 199] .done) (O [q 199 (.callM true (.func 51) [t 198]),l 197 1 196,x 200 1 193 197,
 s 1 200 199] .done)))) (.seq (.ops [b 202 .eql 12 9,m 201 202]) (.cond (t 201) (.seq (.seq (.ops [m 203 0,k 204 203,f 205 5 1 204,l 206 1 205,n 207 206,
 b 208 .geq 207 65536]) (.cond (t 208) (.seq (.ops [i 6 4]) .ret) .skip)) (.par false (O [m 209 0,m 210 0,k 211 210,f 212 5 1 211,l 213 1 212,m 214 2,m 215 1,k 216 215,
 f 217 2 1 216,l 218 1 217,x 219 1 214 218,l 220 1 219,q 221 (.conv .u8 (t 220)),q 222 (.bsl 5 1 1 [.int .u8 0] [(0,1,t 221)]),q 223 (.app 5 1 1 (t 213) (t 222)),k 224 209,
 f 225 5 1 224,s 1 225 223] .done))) .skip)))))))))))))))))))) (.seq (.ops [i 6 0]) .ret)))
theorem a9p : a0z Tryz.prog 29 = some (226, a0w, [.tmp 6]) := by kernel_rfl
def b6x:VC:=(.seq (.ops [X 4 42 0,X 6 99 2,q 8 (.alc 99 [zi,(.int .u32 0),(.int .u32 0),(.int .u32 0),(.int .u32 0),(.int .u32 0),(.int .u32 0),(.int .u32 0),(.int .u32 0),(.int .u32 0),
 (.int .u32 0),(.int .u32 0),(.int .u32 0),(.int .u32 0),(.int .u32 0),(.int .u32 0),(.int .u32 0),zs,zi,(.string ⟨#[]⟩),zi,zi])]) (.seq (.ops [L 10 2 4,m 11 1,L 12 22 6,
 q 13 (.callA (.func 52) [t 10,t 11,t 12]),m 9 13]) (.seq (.seq (.ops [m 14 9,m 15 3,q 16 (.callA (.func 53) [t 14,
 t 15])]) (.block 0 (.range (t 16) [17] (.block 1 .skip)))) (.seq (.ops [m 18 9,c1 19 54 18,S 22 8 19]) .ret))))
theorem c1s : b4m Tryz.prog false 30 = some (20, b6x, [(.cell 8 true 22)]) := by kernel_rfl
def a2P:VC:=(.seq (.ops [X 1 42 0,q 2 (.alc 99 [zi,(.int .u32 0),(.int .u32 0),(.int .u32 0),(.int .u32 0),(.int .u32 0),(.int .u32 0),(.int .u32 0),(.int .u32 0),(.int .u32 0),(.int .u32 0),
 (.int .u32 0),(.int .u32 0),(.int .u32 0),(.int .u32 0),(.int .u32 0),(.int .u32 0),zs,zi,(.string ⟨#[]⟩),zi,zi])]) (.seq (.ops [q 3 (.alc 99 [zi,(.int .u32 0),(.int .u32 0),
 (.int .u32 0),(.int .u32 0),(.int .u32 0),(.int .u32 0),(.int .u32 0),(.int .u32 0),(.int .u32 0),(.int .u32 0),(.int .u32 0),(.int .u32 0),(.int .u32 0),(.int .u32 0),
 (.int .u32 0),(.int .u32 0),zs,zi,(.string ⟨#[]⟩),zi,zi])]) (.seq (.seq (.ops [f 4 1 1 1,l 5 1 4,b 6 .gtr 5 0,m 7 6,Q 8 7 true (.fad 1 false 1 (t 1)),
 Q 9 7 true (.ld false 1 (t 8)),Q 10 7 true (.bin .leq (t 9) (.const (.int .i64 32768))),q 11 (.pick (t 7) (t 10) (.const (.bool false)))]) (.cond (t 11) (.ops [f 12 1 1 1,
 l 13 1 12,q 14 (.mk 93 1 4 [.int .u32 0] (t 13) (t 13)),f 15 17 1 3,s 1 15 14]) .skip)) (.seq (.ops [L 16 22 3,S 22 2 16]) .ret))))
theorem b2N : a0z Tryz.prog 31 = some (17, a2P, [(.cell 2 true 22)]) := by kernel_rfl
def b1y:VC:=(.seq (.ops [X 4 42 0,X 6 99 2,q 8 (.alc 99 [zi,(.int .u32 0),(.int .u32 0),(.int .u32 0),(.int .u32 0),(.int .u32 0),(.int .u32 0),(.int .u32 0),(.int .u32 0),(.int .u32 0),
 (.int .u32 0),(.int .u32 0),(.int .u32 0),(.int .u32 0),(.int .u32 0),(.int .u32 0),(.int .u32 0),zs,zi,(.string ⟨#[]⟩),zi,zi])]) (.seq (.ops [L 12 2 4,m 13 1,L 14 22 6,m 15 3,
 c4 16 55 12 13 14 15,m 11 16,e 17 11 0,e 18 11 1,q 9 (.alc 99 [zi,(.int .u32 0),(.int .u32 0),(.int .u32 0),(.int .u32 0),(.int .u32 0),(.int .u32 0),(.int .u32 0),(.int .u32 0),
 (.int .u32 0),(.int .u32 0),(.int .u32 0),(.int .u32 0),(.int .u32 0),(.int .u32 0),(.int .u32 0),(.int .u32 0),zs,zi,(.string ⟨#[]⟩),zi,zi]),S 22 9 17,
 m 10 18]) (.seq (.ops [L 19 22 9,S 22 8 19]) .ret)))
theorem b6y : a0z Tryz.prog 32 = some (20, b1y, [(.cell 8 true 22)]) := by kernel_rfl
def a2Q:VC:=(.seq (.ops [X 1 42 0,q 2 (.alc 99 [zi,(.int .u32 0),(.int .u32 0),(.int .u32 0),(.int .u32 0),(.int .u32 0),(.int .u32 0),(.int .u32 0),(.int .u32 0),(.int .u32 0),(.int .u32 0),
 (.int .u32 0),(.int .u32 0),(.int .u32 0),(.int .u32 0),(.int .u32 0),(.int .u32 0),zs,zi,(.string ⟨#[]⟩),zi,zi])]) (.seq (.ops [q 3 (.alc 99 [zi,(.int .u32 0),(.int .u32 0),
 (.int .u32 0),(.int .u32 0),(.int .u32 0),(.int .u32 0),(.int .u32 0),(.int .u32 0),(.int .u32 0),(.int .u32 0),(.int .u32 0),(.int .u32 0),(.int .u32 0),(.int .u32 0),
 (.int .u32 0),(.int .u32 0),zs,zi,(.string ⟨#[]⟩),zi,zi])]) (.seq (.seq (.ops [f 4 1 1 1,l 5 1 4,b 6 .gtr 5 0,m 7 6,Q 8 7 true (.fad 1 false 1 (t 1)),
 Q 9 7 true (.ld false 1 (t 8)),Q 10 7 true (.bin .leq (t 9) (.const (.int .i64 32768))),q 11 (.pick (t 7) (t 10) (.const (.bool false)))]) (.cond (t 11) (.ops [f 12 1 1 1,
 l 13 1 12,q 14 (.mk 93 1 4 [.int .u32 0] (t 13) (t 13)),f 15 17 1 3,s 1 15 14]) .skip)) (.seq (.ops [L 16 22 3,S 22 2 16]) .ret))))
theorem b2O : a0z Tryz.prog 33 = some (17, a2Q, [(.cell 2 true 22)]) := by kernel_rfl
def a2R:VC:=(.seq (.ops [X 3 34 0,o 6 false]) (.seq (.seq (.ops [f 9 0 1 3,l 10 1 9,b 11 .lss 10 0,m 12 11,Q 13 12 false (.fad 0 false 1 (t 3)),Q 14 12 false (.ld false 1 (t 13)),
 Q 15 12 false (.bin .gtr (t 14) (.const (.int .i64 4000))),q 16 (.pick (t 12) (.const (.bool true)) (t 15)),m 17 16,Q 18 17 false (.fad 1 false 1 (t 3)),
 Q 19 17 false (.ld false 1 (t 18)),Q 20 17 false (.len (t 19)),Q 21 17 false (.bin .eql (t 20) (.const zi)),
 q 22 (.pick (t 17) (.const (.bool true)) (t 21))]) (.cond (t 22) (.seq (.ops [o 6 false]) .ret) .skip)) (.seq (.seq (.ops [i 7 0]) (.block 0 (.loop (.seq (.seq (.ops [m 23 7,
 f 24 1 1 3,l 25 1 24,n 26 25,B 27 .lss 23 26]) (.cond (t 27) .skip (.exit 0))) (.seq (.block 1 (.seq (.seq (.ops [f 30 1 1 3,l 31 1 30,m 32 7,x 33 5 31 32,L 34 5 33,f 35 1 1 3,
 l 36 1 35,n 37 36,f 38 0 1 3,l 39 1 38,c3 40 56 34 37 39,
 q 41 (.un .not (t 40))]) (.cond (t 41) (.seq (.ops [o 6 false]) .ret) .skip)) (.seq (.ops [i 8 0]) (.block 2 (.loop (.seq (.seq (.ops [m 42 8,f 43 1 1 3,l 44 1 43,m 45 7,
 x 46 5 44 45,f 47 0 1 46,l 48 1 47,n 49 48,B 50 .lss 42 49]) (.cond (t 50) .skip (.exit 2))) (.seq (.block 3 (.seq (.ops [f 53 1 1 3,l 54 1 53,m 55 7,x 56 5 54 55,f 57 0 1 56,
 l 58 1 57,m 59 8,x 60 8 58 59,L 61 8 60,m 62 1,f 63 0 1 3,l 64 1 63,m 65 2,c4 66 57 61 62 64 65,
 q 67 (.un .not (t 66))]) (.cond (t 67) (.seq (.ops [o 6 false]) .ret) .skip))) (.ops [m 51 8,b 52 .add 51 1,m 8 52])))))))) (.ops [m 28 7,b 29 .add 28 1,
 m 7 29])))))) (.seq (.ops [o 6 true]) .ret))))
theorem b4U : a0z Tryz.prog 34 = some (68, a2R, [.tmp 6]) := by kernel_rfl
def a7u:VC:=(.seq (.ops [q 2 (.mv (.const zs))]) (.seq (.ops [m 3 0,b 4 .add 3 63,b 5 .quo 4 64,q 6 (.mk 108 1 8 [.int .u64 0] (t 5) (t 5)),m 2 6]) .ret))
theorem b2P : a0z Tryz.prog 35 = some (7, a7u, [.tmp 2]) := by kernel_rfl
def a7v:VC:=(.seq (.ops [q 2 (.mv (.const zs))]) (.seq (.ops [m 6 0,n 7 6,c1 8 35 7,m 3 8]) (.seq (.seq (.ops [m 9 0,n 10 9,
 i 11 0]) (.block 0 (.loop (.seq (.ops [B 12 .lss 11 10]) (.seq (.cond (t 12) .skip (.exit 0)) (.seq (.block 1 (.seq (.ops [m 13 11,x 14 1 9 11,l 15 1 14,m 4 13,
 m 5 15]) (.seq (.ops [m 16 5]) (.cond (t 16) (.ops [m 17 3,m 18 4,c2 19 38 17 18]) .skip)))) (.ops [b 20 .add 11 1,m 11 20]))))))) (.seq (.ops [m 21 3,m 2 21]) .ret))))
theorem b2Q : a0z Tryz.prog 36 = some (22, a7v, [.tmp 2]) := by kernel_rfl
def a4e:VC:=(.seq (.ops [m 6 1,n 7 6,i 8 0]) (.block 0 (.loop (.seq (.ops [B 9 .lss 8 7]) (.seq (.cond (t 9) .skip (.exit 0)) (.seq (.block 1 (.seq (.ops [m 10 8,x 11 1 6 8,l 12 1 11,m 4 10,
 m 5 12]) (.ops [m 13 0,m 14 4,x 15 1 13 14,l 16 1 15,m 17 5,B 18 .or 16 17,x 19 1 13 14,s 1 19 18]))) (.ops [b 20 .add 8 1,m 8 20])))))))
theorem a8I : a0z Tryz.prog 37 = some (21, a4e, []) := by kernel_rfl
def a5V:VC:=(.ops [m 4 0,m 5 1,b 6 .quo 5 64,x 7 1 4 6,l 8 1 7,m 9 1,b 10 .rem 9 64,q 11 (.bin .shl (.const (.int .u64 1)) (t 10)),B 12 .or 8 11,x 13 1 4 6,s 1 13 12])
theorem b1U : a0z Tryz.prog 38 = some (14, a5V, []) := by kernel_rfl
def b1z:VC:=(.seq (.ops [X 1 95 0,i 2 0]) (.seq (.seq (.ops [f 3 0 1 1,l 4 1 3,c1 5 58 4]) (.cond (t 5) (.seq (.ops [f 6 1 1 1,l 7 1 6,
 m 2 7]) .ret) .skip)) (.seq (.ops [q 2 (.mv (.const (.int .i64 (-1))))]) .ret)))
theorem b6z : a0z Tryz.prog 39 = some (8, b1z, [.tmp 2]) := by kernel_rfl
def a5k:VC:=(.ops [m 4 0,m 5 1,b 6 .quo 5 64,x 7 1 4 6,l 8 1 7,m 9 1,b 10 .rem 9 64,q 11 (.bin .shl (.const (.int .u64 1)) (t 10)),B 12 .andNot 8 11,x 13 1 4 6,s 1 13 12])
theorem b0k : a0z Tryz.prog 40 = some (14, a5k, []) := by kernel_rfl
def b1A:VC:=(.seq (.ops [X 1 95 0,q 2 (.mv (.const zs))]) (.seq (.seq (.ops [f 3 0 1 1,l 4 1 3,c1 5 59 4]) (.block 0 (.seq (.ops [b 7 .eql 5 1,m 6 7]) (.cond (t 6) (.seq (.ops [f 8 2 1 1,
 l 9 1 8,q 10 (.bsl 3 1 1 [zi] [(0,1,t 9)]),m 2 10]) .ret) (.seq (.ops [b 12 .eql 5 2,m 11 12]) (.cond (t 11) (.seq (.ops [f 13 2 1 1,l 14 1 13,f 15 3 1 1,l 16 1 15,
 q 17 (.bsl 3 1 2 [zi,zi] [(0,1,t 14),(1,1,t 16)]),m 2 17]) .ret) .skip)))))) (.seq (.ops [q 2 (.mv (.const zs))]) .ret)))
theorem b6A : a0z Tryz.prog 41 = some (18, b1A, [.tmp 2]) := by kernel_rfl
def b2R:VC:=(.seq (.ops [X 1 34 0,q 2 (.mv (.const zs))]) (.seq (.ops [f 6 1 1 1,l 7 1 6,n 8 7,q 9 (.mk 28 1 24 [zs] (t 8) (t 8)),m 3 9]) (.seq (.seq (.ops [f 10 1 1 1,l 11 1 10,n 12 11,
 i 13 0]) (.block 0 (.loop (.seq (.ops [B 14 .lss 13 12]) (.seq (.cond (t 14) .skip (.exit 0)) (.seq (.block 1 (.seq (.ops [m 15 13,x 16 5 11 13,L 17 5 16,q 5 (.alc 56 [zs,zi,zi,zi,
 zi]),m 4 15,S 5 5 17]) (.seq (.ops [f 18 1 1 5,l 19 1 18]) (.block 2 (.seq (.ops [b 21 .eql 19 1,m 20 21]) (.cond (t 20) (.ops [m 22 3,m 23 4,f 24 3 1 5,l 25 1 24,
 q 26 (.bsl 3 1 1 [zi] [(0,1,t 25)]),x 27 1 22 23,s 1 27 26]) (.seq (.ops [b 29 .eql 19 2,m 28 29]) (.cond (t 28) (.ops [m 30 3,m 31 4,f 32 3 1 5,l 33 1 32,f 34 4 1 5,l 35 1 34,
 q 36 (.bsl 3 1 2 [zi,zi] [(0,1,t 33),(1,1,t 35)]),x 37 1 30 31,s 1 37 36]) .skip)))))))) (.ops [b 38 .add 13 1,m 13 38]))))))) (.seq (.ops [m 39 3,m 2 39]) .ret))))
theorem b7V : a0z Tryz.prog 42 = some (40, b2R, [.tmp 2]) := by kernel_rfl
def b1B:VC:=(.seq (.ops [X 2 56 0,q 4 (.alc 72 [zs]),q 5 (.alc 72 [zs])]) (.seq (.ops [m 10 1,q 11 (.callM true (.func 44) [t 10]),m 12 1,q 13 (.callM true (.func 44) [t 12]),s 1 4 11,
 s 1 5 13]) (.seq (.seq (.ops [f 14 1 1 2,l 15 1 14,b 16 .eql 15 2]) (.cond (t 16) (.ops [l 17 1 4,f 18 2 1 2,l 19 1 18,c2 20 60 17 19]) .skip)) (.seq (.seq (.ops [f 21 0 1 2,
 l 22 1 21,n 23 22,q 24 (.callA (.func 61) [t 23])]) (.block 0 (.range (t 24) [25] (.seq (.ops [m 6 25]) (.block 1 (.seq (.seq (.ops [f 26 0 1 2,l 27 1 26,m 28 6,x 29 8 27 28,
 L 30 8 29,c1 31 39 30,m 7 31]) (.seq (.ops [m 32 7,b 33 .geq 32 0]) (.cond (t 33) (.seq (.ops [l 34 1 4,m 35 7,c2 36 62 34 35]) (.ops [l 37 1 5,m 38 7,
 c2 39 60 37 38])) .skip))) (.seq (.ops [f 40 0 1 2,l 41 1 40,m 42 6,x 43 8 41 42,L 44 8 43,c1 45 41 44,n 46 45,
 i 47 0]) (.block 2 (.loop (.seq (.ops [B 48 .lss 47 46]) (.seq (.cond (t 48) .skip (.exit 2)) (.seq (.block 3 (.seq (.ops [x 49 1 45 47,l 50 1 49,m 9 50]) (.ops [l 51 1 4,m 52 9,
 c2 53 60 51 52]))) (.ops [b 54 .add 47 1,m 47 54]))))))))))))) (.seq (.par false (.one (l 55 1 4) (.both (O [l 56 1 5,s 1 4 55,s 1 5 56] .done) (O [s 1 4 55,l 56 1 5,
 s 1 5 56] .done)))) .ret)))))
theorem b6B : b4m Tryz.prog false 43 = some (57, b1B, [(.cell 4 false 1), (.cell 5 false 1)]) := by kernel_rfl
def b1C:VC:=(.seq (.ops [q 2 (.mv (.const zs))]) (.seq (.ops [m 3 0,b 4 .add 3 63,b 5 .quo 4 64,q 6 (.mk 108 1 8 [.int .u64 0] (t 5) (t 5)),m 2 6]) .ret))
theorem b6C : a0z Tryz.prog 44 = some (7, b1C, [.tmp 2]) := by kernel_rfl
def a4f:VC:=(.ops [m 10 0,m 11 0,k 12 11,f 13 2 1 12,l 14 1 13,m 15 1,m 16 2,m 17 3,m 18 4,q 19 (.bld [zi,zi,zi,zi] [(0,1,t 15),(1,1,t 16),(2,1,t 17),(3,1,t 18)]),q 20 (.bsl 121 4 1 [zi,zi,zi,
 zi] [(0,4,t 19)]),q 21 (.app 121 4 32 (t 14) (t 20)),k 22 10,f 23 2 1 22,s 1 23 21])
theorem a8J : a0z Tryz.prog 45 = some (24, a4f, []) := by kernel_rfl
def a2h:VC:=(.seq (.ops [m 7 0,k 8 7,f 9 9 1 8,l 10 1 9,m 11 1,x 12 1 10 11,l 13 1 12,m 6 13]) (.seq (.ops [m 14 6,b 15 .lss 14 0]) (.cond (t 15) (.ops [m 16 0,m 17 2,m 18 0,m 19 6,
 q 20 (.callM false (.func 63) [t 18,t 19]),q 21 (.callM false (.func 45) [t 16,(.const (.int .i64 17)),t 17,(.const zi),t 20])]) .skip)))
theorem a7Z : a0z Tryz.prog 46 = some (22, a2h, []) := by kernel_rfl
def a1X:VC:=(.seq (.ops [X 3 95 1]) (.seq (.ops [m 13 0,q 14 (.mkb 64 [t 13]),m 4 14]) (.seq (.ops [f 15 0 1 3,l 16 1 15]) (.block 0 (.seq (.ops [b 18 .eql 16 1,
 m 17 18]) (.cond (t 17) (.ops [m 19 0,f 20 1 1 3,l 21 1 20,f 22 7 1 3,l 23 1 22,q 24 (.callM false (.func 65) [t 19,t 21,t 23])]) (.seq (.ops [b 26 .eql 16 2,
 m 25 26]) (.cond (t 25) (.ops [m 27 0,f 28 1 1 3,l 29 1 28,f 30 2 1 3,l 31 1 30,q 32 (.callM false (.func 66) [t 27,t 29,t 31])]) (.seq (.ops [b 34 .eql 16 3,
 m 33 34]) (.cond (t 33) (.seq (.par false (O [m 35 4,f 36 2 1 3,l 37 1 36,m 39 4,m 43 0] (.both (O [q 38 (.callM false (t 35) [t 37,(.const (.int .i64 9))]),f 40 3 1 3,
 l 41 1 40] (.both (O [q 42 (.callM false (t 39) [t 41,(.const (.int .i64 10))]),f 44 1 1 3,l 45 1 44,q 46 (.callM false (.func 67) [t 43,t 45]),m 5 38,m 6 42,
 m 7 46] .done) (.one (f 44 1 1 3) (.both (O [q 42 (.callM false (t 39) [t 41,(.const (.int .i64 10))]),l 45 1 44,q 46 (.callM false (.func 67) [t 43,t 45]),m 5 38,m 6 42,
 m 7 46] .done) (O [l 45 1 44,q 42 (.callM false (t 39) [t 41,(.const (.int .i64 10))]),q 46 (.callM false (.func 67) [t 43,t 45]),m 5 38,m 6 42,
 m 7 46] .done))))) (.both (.one (f 40 3 1 3) (.both (O [q 38 (.callM false (t 35) [t 37,(.const (.int .i64 9))]),l 41 1 40] (.both (O [q 42 (.callM false (t 39) [t 41,
 (.const (.int .i64 10))]),f 44 1 1 3,l 45 1 44,q 46 (.callM false (.func 67) [t 43,t 45]),m 5 38,m 6 42,
 m 7 46] .done) (.one (f 44 1 1 3) (.both (O [q 42 (.callM false (t 39) [t 41,(.const (.int .i64 10))]),l 45 1 44,q 46 (.callM false (.func 67) [t 43,t 45]),m 5 38,m 6 42,
 m 7 46] .done) (O [l 45 1 44,q 42 (.callM false (t 39) [t 41,(.const (.int .i64 10))]),q 46 (.callM false (.func 67) [t 43,t 45]),m 5 38,m 6 42,
 m 7 46] .done))))) (.both (.one (l 41 1 40) (.both (.one (q 38 (.callM false (t 35) [t 37,(.const (.int .i64 9))])) (.both (O [q 42 (.callM false (t 39) [t 41,
 (.const (.int .i64 10))]),f 44 1 1 3,l 45 1 44,q 46 (.callM false (.func 67) [t 43,t 45]),m 5 38,m 6 42,
 m 7 46] .done) (.one (f 44 1 1 3) (.both (O [q 42 (.callM false (t 39) [t 41,(.const (.int .i64 10))]),l 45 1 44,q 46 (.callM false (.func 67) [t 43,t 45]),m 5 38,m 6 42,
 m 7 46] .done) (O [l 45 1 44,q 42 (.callM false (t 39) [t 41,(.const (.int .i64 10))]),q 46 (.callM false (.func 67) [t 43,t 45]),m 5 38,m 6 42,
 m 7 46] .done))))) (.one (f 44 1 1 3) (.both (.one (q 38 (.callM false (t 35) [t 37,(.const (.int .i64 9))])) (.both (O [q 42 (.callM false (t 39) [t 41,(.const (.int .i64 10))]),
 l 45 1 44,q 46 (.callM false (.func 67) [t 43,t 45]),m 5 38,m 6 42,m 7 46] .done) (O [l 45 1 44,q 42 (.callM false (t 39) [t 41,(.const (.int .i64 10))]),
 q 46 (.callM false (.func 67) [t 43,t 45]),m 5 38,m 6 42,m 7 46] .done))) (O [l 45 1 44,q 38 (.callM false (t 35) [t 37,(.const (.int .i64 9))]),q 42 (.callM false (t 39) [t 41,
 (.const (.int .i64 10))]),q 46 (.callM false (.func 67) [t 43,t 45]),m 5 38,m 6 42,m 7 46] .done))))) (.one (f 44 1 1 3) (.both (O [q 38 (.callM false (t 35) [t 37,
 (.const (.int .i64 9))]),l 41 1 40] (.both (O [q 42 (.callM false (t 39) [t 41,(.const (.int .i64 10))]),l 45 1 44,q 46 (.callM false (.func 67) [t 43,t 45]),m 5 38,m 6 42,
 m 7 46] .done) (O [l 45 1 44,q 42 (.callM false (t 39) [t 41,(.const (.int .i64 10))]),q 46 (.callM false (.func 67) [t 43,t 45]),m 5 38,m 6 42,
 m 7 46] .done))) (.both (.one (l 41 1 40) (.both (.one (q 38 (.callM false (t 35) [t 37,(.const (.int .i64 9))])) (.both (O [q 42 (.callM false (t 39) [t 41,
 (.const (.int .i64 10))]),l 45 1 44,q 46 (.callM false (.func 67) [t 43,t 45]),m 5 38,m 6 42,m 7 46] .done) (O [l 45 1 44,q 42 (.callM false (t 39) [t 41,(.const (.int .i64 10))]),
 q 46 (.callM false (.func 67) [t 43,t 45]),m 5 38,m 6 42,m 7 46] .done))) (O [l 45 1 44,q 38 (.callM false (t 35) [t 37,(.const (.int .i64 9))]),q 42 (.callM false (t 39) [t 41,
 (.const (.int .i64 10))]),q 46 (.callM false (.func 67) [t 43,t 45]),m 5 38,m 6 42,m 7 46] .done))) (.one (l 45 1 44) (.both (O [q 38 (.callM false (t 35) [t 37,
 (.const (.int .i64 9))]),l 41 1 40,q 42 (.callM false (t 39) [t 41,(.const (.int .i64 10))]),q 46 (.callM false (.func 67) [t 43,t 45]),m 5 38,m 6 42,m 7 46] .done) (O [l 41 1 40,
 q 38 (.callM false (t 35) [t 37,(.const (.int .i64 9))]),q 42 (.callM false (t 39) [t 41,(.const (.int .i64 10))]),q 46 (.callM false (.func 67) [t 43,t 45]),m 5 38,m 6 42,
 m 7 46] .done))))))))) (.one (f 44 1 1 3) (.both (O [q 38 (.callM false (t 35) [t 37,(.const (.int .i64 9))]),f 40 3 1 3,l 41 1 40] (.both (O [q 42 (.callM false (t 39) [t 41,
 (.const (.int .i64 10))]),l 45 1 44,q 46 (.callM false (.func 67) [t 43,t 45]),m 5 38,m 6 42,m 7 46] .done) (O [l 45 1 44,q 42 (.callM false (t 39) [t 41,(.const (.int .i64 10))]),
 q 46 (.callM false (.func 67) [t 43,t 45]),m 5 38,m 6 42,m 7 46] .done))) (.both (.one (f 40 3 1 3) (.both (O [q 38 (.callM false (t 35) [t 37,(.const (.int .i64 9))]),
 l 41 1 40] (.both (O [q 42 (.callM false (t 39) [t 41,(.const (.int .i64 10))]),l 45 1 44,q 46 (.callM false (.func 67) [t 43,t 45]),m 5 38,m 6 42,m 7 46] .done) (O [l 45 1 44,
 q 42 (.callM false (t 39) [t 41,(.const (.int .i64 10))]),q 46 (.callM false (.func 67) [t 43,t 45]),m 5 38,m 6 42,
 m 7 46] .done))) (.both (.one (l 41 1 40) (.both (.one (q 38 (.callM false (t 35) [t 37,(.const (.int .i64 9))])) (.both (O [q 42 (.callM false (t 39) [t 41,
 (.const (.int .i64 10))]),l 45 1 44,q 46 (.callM false (.func 67) [t 43,t 45]),m 5 38,m 6 42,m 7 46] .done) (O [l 45 1 44,q 42 (.callM false (t 39) [t 41,(.const (.int .i64 10))]),
 q 46 (.callM false (.func 67) [t 43,t 45]),m 5 38,m 6 42,m 7 46] .done))) (O [l 45 1 44,q 38 (.callM false (t 35) [t 37,(.const (.int .i64 9))]),q 42 (.callM false (t 39) [t 41,
 (.const (.int .i64 10))]),q 46 (.callM false (.func 67) [t 43,t 45]),m 5 38,m 6 42,m 7 46] .done))) (.one (l 45 1 44) (.both (O [q 38 (.callM false (t 35) [t 37,
 (.const (.int .i64 9))]),l 41 1 40,q 42 (.callM false (t 39) [t 41,(.const (.int .i64 10))]),q 46 (.callM false (.func 67) [t 43,t 45]),m 5 38,m 6 42,m 7 46] .done) (O [l 41 1 40,
 q 38 (.callM false (t 35) [t 37,(.const (.int .i64 9))]),q 42 (.callM false (t 39) [t 41,(.const (.int .i64 10))]),q 46 (.callM false (.func 67) [t 43,t 45]),m 5 38,m 6 42,
 m 7 46] .done)))))) (.one (l 45 1 44) (.both (O [q 38 (.callM false (t 35) [t 37,(.const (.int .i64 9))]),f 40 3 1 3,l 41 1 40,q 42 (.callM false (t 39) [t 41,
 (.const (.int .i64 10))]),q 46 (.callM false (.func 67) [t 43,t 45]),m 5 38,m 6 42,m 7 46] .done) (.one (f 40 3 1 3) (.both (O [q 38 (.callM false (t 35) [t 37,
 (.const (.int .i64 9))]),l 41 1 40,q 42 (.callM false (t 39) [t 41,(.const (.int .i64 10))]),q 46 (.callM false (.func 67) [t 43,t 45]),m 5 38,m 6 42,m 7 46] .done) (O [l 41 1 40,
 q 38 (.callM false (t 35) [t 37,(.const (.int .i64 9))]),q 42 (.callM false (t 39) [t 41,(.const (.int .i64 10))]),q 46 (.callM false (.func 67) [t 43,t 45]),m 5 38,m 6 42,
 m 7 46] .done)))))))))))) (.seq (.ops [m 47 0,f 48 4 1 3,l 49 1 48,m 50 7,m 51 5,m 52 6,q 53 (.callM false (.func 45) [t 47,t 49,t 50,t 51,t 52])]) (.ops [m 54 0,f 55 1 1 3,
 l 56 1 55,m 57 7,q 58 (.callM false (.func 46) [t 54,t 56,t 57])]))) (.seq (.ops [b 60 .eql 16 4,m 59 60]) (.cond (t 59) (.seq (.ops [m 61 0,f 62 1 1 3,l 63 1 62,
 q 64 (.callM false (.func 67) [t 61,t 63]),m 8 64]) (.seq (.ops [m 65 0,m 66 8,f 67 5 1 3,l 68 1 67,q 69 (.callM false (.func 45) [t 65,(.const (.int .i64 16)),t 66,(.const zi),
 t 68])]) (.ops [m 70 0,f 71 1 1 3,l 72 1 71,m 73 8,q 74 (.callM false (.func 46) [t 70,t 72,t 73])]))) (.seq (.ops [b 76 .eql 16 5,m 75 76]) (.cond (t 75) (.par false (O [m 77 0,
 m 78 4,f 79 2 1 3,l 80 1 79] (.both (O [q 81 (.callM false (t 78) [t 80,(.const (.int .i64 9))]),f 82 5 1 3,l 83 1 82,q 84 (.callM false (.func 45) [t 77,(.const (.int .i64 17)),
 t 81,(.const zi),t 83])] .done) (.one (f 82 5 1 3) (.both (O [q 81 (.callM false (t 78) [t 80,(.const (.int .i64 9))]),l 83 1 82,q 84 (.callM false (.func 45) [t 77,
 (.const (.int .i64 17)),t 81,(.const zi),t 83])] .done) (O [l 83 1 82,q 81 (.callM false (t 78) [t 80,(.const (.int .i64 9))]),q 84 (.callM false (.func 45) [t 77,
 (.const (.int .i64 17)),t 81,(.const zi),t 83])] .done)))))) (.seq (.ops [b 86 .eql 16 6,m 85 86]) (.cond (t 85) (.seq (.par false (O [m 87 4,f 88 2 1 3,l 89 1 88,
 m 91 0] (.both (O [q 90 (.callM false (t 87) [t 89,(.const (.int .i64 9))]),f 92 1 1 3,l 93 1 92,q 94 (.callM false (.func 67) [t 91,t 93]),m 9 90,
 m 10 94] .done) (.one (f 92 1 1 3) (.both (O [q 90 (.callM false (t 87) [t 89,(.const (.int .i64 9))]),l 93 1 92,q 94 (.callM false (.func 67) [t 91,t 93]),m 9 90,
 m 10 94] .done) (O [l 93 1 92,q 90 (.callM false (t 87) [t 89,(.const (.int .i64 9))]),q 94 (.callM false (.func 67) [t 91,t 93]),m 9 90,m 10 94] .done)))))) (.seq (.ops [m 95 0,
 m 96 9,f 97 6 1 3,l 98 1 97,q 99 (.callM false (.func 45) [t 95,(.const (.int .i64 25)),t 96,(.const zi),t 98])]) (.seq (.ops [m 100 0,m 101 10,m 102 9,f 103 5 1 3,l 104 1 103,
 q 105 (.callM false (.func 45) [t 100,(.const (.int .i64 16)),t 101,t 102,t 104])]) (.ops [m 106 0,f 107 1 1 3,l 108 1 107,m 109 10,q 110 (.callM false (.func 46) [t 106,t 108,
 t 109])])))) (.seq (.ops [b 112 .eql 16 7,m 111 112]) (.cond (t 111) (.seq (.ops [m 113 4,f 114 2 1 3,l 115 1 114,q 116 (.callM false (t 113) [t 115,(.const (.int .i64 9))]),
 m 11 116]) (.seq (.ops [m 117 0,m 118 11,f 119 6 1 3,l 120 1 119,q 121 (.callM false (.func 45) [t 117,(.const (.int .i64 25)),t 118,(.const zi),t 120])]) (.par false (O [m 122 0,
 m 123 4,f 124 3 1 3,l 125 1 124,m 127 11] (.both (O [q 126 (.callM false (t 123) [t 125,(.const (.int .i64 10))]),f 128 5 1 3,l 129 1 128,q 130 (.callM false (.func 45) [t 122,
 (.const (.int .i64 17)),t 126,t 127,t 129])] .done) (.one (f 128 5 1 3) (.both (O [q 126 (.callM false (t 123) [t 125,(.const (.int .i64 10))]),l 129 1 128,
 q 130 (.callM false (.func 45) [t 122,(.const (.int .i64 17)),t 126,t 127,t 129])] .done) (O [l 129 1 128,q 126 (.callM false (t 123) [t 125,(.const (.int .i64 10))]),
 q 130 (.callM false (.func 45) [t 122,(.const (.int .i64 17)),t 126,t 127,t 129])] .done)))))))) (.seq (.ops [b 132 .eql 16 8,m 131 132]) (.cond (t 131) (.seq (.ops [m 133 0,
 f 134 1 1 3,l 135 1 134,q 136 (.callM false (.func 67) [t 133,t 135]),m 12 136]) (.seq (.ops [m 137 0,m 138 12,q 139 (.callM false (.func 45) [t 137,(.const (.int .i64 23)),t 138,
 (.const zi),(.const zi)])]) (.ops [m 140 0,f 141 1 1 3,l 142 1 141,m 143 12,q 144 (.callM false (.func 46) [t 140,t 142,t 143])]))) (.seq (.ops [b 146 .eql 16 9,
 m 145 146]) (.cond (t 145) (.ops [m 147 0,m 148 4,f 149 2 1 3,l 150 1 149,q 151 (.callM false (t 148) [t 150,(.const (.int .i64 9))]),q 152 (.callM false (.func 45) [t 147,
 (.const (.int .i64 24)),t 151,(.const zi),(.const zi)])]) (.seq (.ops [b 154 .eql 16 10,m 153 154]) (.cond (t 153) (.ops [m 155 0,f 156 5 1 3,l 157 1 156,
 q 158 (.callM false (.func 68) [t 155,(.const (.int .i64 21)),(.const (.int .i64 12)),t 157,(.const (.int .i64 (-1)))])]) .skip))))))))))))))))))))))))
theorem a4g : a0z Tryz.prog 47 = some (159, a1X, []) := by kernel_rfl
def a4h:VC:=(.seq (.ops [X 4 56 1]) (.seq (.ops [f 7 1 1 4,l 8 1 7]) (.block 0 (.seq (.ops [b 10 .eql 8 1,m 9 10]) (.cond (t 9) (.seq (.ops [f 11 3 1 4,l 12 1 11,m 13 2,
 B 14 .neq 12 13]) (.cond (t 14) (.ops [m 15 0,m 16 0,k 17 16,f 18 8 1 17,l 19 1 18,f 20 3 1 4,l 21 1 20,q 22 (.callM false (.func 68) [t 15,(.const (.int .i64 18)),(.const zi),
 t 19,t 21])]) .skip)) (.seq (.ops [b 24 .eql 8 2,m 23 24]) (.cond (t 23) (.seq (.ops [m 25 0,f 26 2 1 4,l 27 1 26,q 28 (.callM false (.func 64) [t 25,t 27,(.const (.int .i64 9))]),
 m 6 28]) (.seq (.seq (.ops [f 29 3 1 4,l 30 1 29,m 31 2,B 32 .eql 30 31]) (.cond (t 32) (.seq (.ops [m 33 0,m 34 6,m 35 0,k 36 35,f 37 8 1 36,l 38 1 37,f 39 4 1 4,l 40 1 39,
 q 41 (.callM false (.func 68) [t 33,(.const (.int .i64 19)),t 34,t 38,t 40])]) .ret) .skip)) (.seq (.ops [m 42 0,m 43 6,m 44 0,k 45 44,f 46 8 1 45,l 47 1 46,f 48 3 1 4,l 49 1 48,
 q 50 (.callM false (.func 68) [t 42,(.const (.int .i64 20)),t 43,t 47,t 49])]) (.seq (.ops [f 51 4 1 4,l 52 1 51,m 53 2,B 54 .neq 52 53]) (.cond (t 54) (.ops [m 55 0,m 56 0,
 k 57 56,f 58 8 1 57,l 59 1 58,f 60 4 1 4,l 61 1 60,q 62 (.callM false (.func 68) [t 55,(.const (.int .i64 18)),(.const zi),t 59,t 61])]) .skip))))) (.seq (.ops [b 64 .eql 8 3,
 m 63 64]) (.cond (t 63) (.seq (.seq (.ops [m 65 0,k 66 65,f 67 8 1 66,l 68 1 67,m 69 0,k 70 69,F 71 0 2 70,f 72 1 1 71,l 73 1 72,n 74 73,b 75 .sub 74 1,
 B 76 .eql 68 75]) (.cond (t 76) (.seq (.ops [m 77 0,q 78 (.callM false (.func 45) [t 77,(.const (.int .i64 26)),(.const zi),(.const zi),
 (.const zi)])]) .ret) .skip)) (.seq (.ops [m 79 0,m 80 0,k 81 80,f 82 7 1 81,l 83 1 82,m 84 0,k 85 84,f 86 8 1 85,l 87 1 86,B 88 .add 83 87,q 89 (.callM false (.func 45) [t 79,
 (.const (.int .i64 16)),(.const (.int .i64 12)),(.const zi),t 88])]) (.ops [m 90 0,q 91 (.callM false (.func 45) [t 90,(.const (.int .i64 22)),(.const (.int .i64 12)),(.const zi),
 (.const zi)])]))) .skip)))))))))
theorem a8K : a0z Tryz.prog 48 = some (92, a4h, []) := by kernel_rfl
def a9q:VC:=(.seq (.ops [X 1 121 0,q 2 (.mv (.const (.int .u32 0))),i 3 0]) (.seq (.seq (.ops [L 4 4 1,c1 5 69 4,
 q 6 (.un .not (t 5))]) (.cond (t 6) (.seq (.ops [q 2 (.mv (.const (.int .u32 0))),i 3 1]) .ret) .skip)) (.seq (.ops [f 7 0 1 1,l 8 1 7,q 9 (.conv .u32 (t 8)),
 q 10 (.bin .shl (t 9) (.const (.int .u64 24))),f 11 1 1 1,l 12 1 11,q 13 (.conv .u32 (t 12)),q 14 (.bin .shl (t 13) (.const (.int .u64 20))),B 15 .or 10 14,f 16 2 1 1,l 17 1 16,
 q 18 (.conv .u32 (t 17)),q 19 (.bin .shl (t 18) (.const (.int .u64 16))),B 20 .or 15 19,f 21 3 1 1,l 22 1 21,q 23 (.conv .u32 (t 22)),B 24 .or 20 23,m 2 24,i 3 0]) .ret)))
theorem b4V : a0z Tryz.prog 49 = some (25, a9q, [.tmp 2,.tmp 3]) := by kernel_rfl
def a2I:VC:=(.seq (.ops [q 6 (.mv (.const (.int .u32 0))),i 7 0]) (.seq (.seq (.ops [m 8 0]) (.block 0 (.seq (.ops [b 10 .eql 8 4,m 9 10]) (.cond (t 9) (.seq (.ops [m 11 1,m 12 2,
 B 13 .add 11 12,m 6 13,i 7 0]) .ret) (.seq (.ops [b 15 .eql 8 5,m 14 15]) (.cond (t 14) (.seq (.ops [m 16 1,m 17 2,B 18 .sub 16 17,m 6 18,i 7 0]) .ret) (.seq (.ops [b 20 .eql 8 6,
 m 19 20]) (.cond (t 19) (.seq (.ops [m 21 1,m 22 2,B 23 .mul 21 22,m 6 23,i 7 0]) .ret) (.seq (.seq (.ops [b 25 .eql 8 7,m 24 25]) (.cond (t 24) .skip (.ops [b 26 .eql 8 8,
 m 24 26]))) (.cond (t 24) (.seq (.ops [m 27 0,m 28 1,m 29 2,c3 30 70 27 28 29,e 31 30 0,e 32 30 1,m 6 31,m 7 32]) .ret) (.seq (.ops [b 34 .eql 8 9,
 m 33 34]) (.cond (t 33) (.seq (.ops [m 35 1,m 36 2,B 37 .and 35 36,m 6 37,i 7 0]) .ret) (.seq (.ops [b 39 .eql 8 10,m 38 39]) (.cond (t 38) (.seq (.ops [m 40 1,m 41 2,
 B 42 .or 40 41,m 6 42,i 7 0]) .ret) (.seq (.ops [b 44 .eql 8 11,m 43 44]) (.cond (t 43) (.seq (.ops [m 45 1,m 46 2,B 47 .xor 45 46,m 6 47,
 i 7 0]) .ret) (.seq (.seq (.ops [b 49 .eql 8 12,m 48 49]) (.cond (t 48) .skip (.ops [b 50 .eql 8 13,m 48 50]))) (.cond (t 48) (.seq (.ops [m 51 0,m 52 1,m 53 2,c3 54 71 51 52 53,
 m 6 54,i 7 0]) .ret) (.seq (.seq (.ops [b 56 .eql 8 14,m 55 56]) (.cond (t 55) .skip (.ops [b 57 .eql 8 15,m 55 57]))) (.cond (t 55) (.seq (.ops [m 58 0,m 59 1,m 60 2,
 c3 61 72 58 59 60,m 6 61,i 7 0]) .ret) .skip)))))))))))))))))))) (.seq (.ops [q 6 (.mv (.const (.int .u32 0))),i 7 1]) .ret)))
theorem b6D : a0z Tryz.prog 50 = some (62, a2I, [.tmp 6,.tmp 7]) := by kernel_rfl
def a2u:VC:=(.seq (.ops [q 2 (.mv (.const (.int .u32 0)))]) (.seq (.seq (.ops [m 4 0,k 5 4,f 6 4 1 5,l 7 1 6,m 8 0,k 9 8,f 10 3 1 9,l 11 1 10,q 12 (.lens (t 11)),
 B 13 .geq 7 12]) (.cond (t 13) (.seq (.ops [q 2 (.mv (.const (.int .u32 256)))]) .ret) .skip)) (.seq (.ops [m 14 0,k 15 14,f 16 3 1 15,l 17 1 16,m 18 0,k 19 18,f 20 4 1 19,
 l 21 1 20,q 22 (.pur .six [t 17,t 21]),m 3 22]) (.seq (.ops [m 23 0,k 24 23,f 25 4 1 24,l 26 1 25,b 27 .add 26 1,k 28 23,f 29 4 1 28,s 1 29 27]) (.seq (.ops [m 30 3,
 q 31 (.conv .u32 (t 30)),m 2 31]) .ret)))))
theorem a8L : a0z Tryz.prog 51 = some (32, a2u, [.tmp 2]) := by kernel_rfl
def a9r:VC:=(.seq (.ops [X 3 42 0,X 5 99 2,q 6 (.mv (.const (.pointer none)))]) (.seq (.ops [f 7 0 1 3,l 8 1 7,m 9 1,L 10 22 5,q 11 (.bld [zs,(.string ⟨#[]⟩),zi,(.int .u32 0),(.int .u32 0),
 (.int .u32 0),(.int .u32 0),(.int .u32 0),(.int .u32 0),(.int .u32 0),(.int .u32 0),(.int .u32 0),(.int .u32 0),(.int .u32 0),(.int .u32 0),(.int .u32 0),(.int .u32 0),
 (.int .u32 0),(.int .u32 0),zs,zi,(.string ⟨#[]⟩),zi,zi,(.bool false),zs] [(0,1,t 8),(1,1,t 9),(2,22,t 10)]),X 12 144 11,m 6 12]) .ret))
theorem b4W : a0z Tryz.prog 52 = some (13, a9r, [.tmp 6]) := by kernel_rfl
def b1D:VC:=(.seq (.ops [X 2 126 0,X 3 3 1,q 4 (.mv (.const .nilFunc))]) (.seq (.ops [q 5 (.mkf 73 [t 3,t 2]),m 4 5]) .ret))
theorem b6E : a0z Tryz.prog 53 = some (6, b1D, [.tmp 4]) := by kernel_rfl
def a1s:VC:=(.seq (.ops [q 2 (.alc 99 [zi,(.int .u32 0),(.int .u32 0),(.int .u32 0),(.int .u32 0),(.int .u32 0),(.int .u32 0),(.int .u32 0),(.int .u32 0),(.int .u32 0),(.int .u32 0),
 (.int .u32 0),(.int .u32 0),(.int .u32 0),(.int .u32 0),(.int .u32 0),(.int .u32 0),zs,zi,(.string ⟨#[]⟩),zi,zi])]) (.seq (.seq (.ops [m 3 0,k 4 3,f 5 25 1 4,l 6 1 5,n 7 6,
 b 8 .gtr 7 0]) (.cond (t 8) (.seq (.ops [m 9 0,k 10 9,F 11 2 22 10,f 12 19 1 11,l 13 1 12,m 14 0,k 15 14,f 16 25 1 15,l 17 1 16,q 18 (.see .b2s [t 17]),B 19 .add 13 18,k 20 9,
 F 21 2 22 20,f 22 19 1 21,s 1 22 19]) (.ops [m 23 0,k 24 23,f 25 25 1 24,⟨none,none,.sto false 1 (t 25) (.const zs)⟩])) .skip)) (.seq (.ops [m 26 0,k 27 26,f 28 24 1 27,⟨none,none,
 .sto false 1 (t 28) (.const (.bool false))⟩]) (.seq (.ops [m 29 0,k 30 29,F 31 2 22 30,L 32 22 31,S 22 2 32]) .ret))))
theorem a5Z : a0z Tryz.prog 54 = some (33, a1s, [(.cell 2 true 22)]) := by kernel_rfl
def a2n:VC:=(.seq (.ops [X 3 56 0,o 6 false]) (.seq (.seq (.ops [f 7 1 1 3,l 8 1 7]) (.block 0 (.seq (.ops [b 10 .eql 8 1,m 9 10]) (.cond (t 9) (.seq (.ops [f 11 3 1 3,l 12 1 11,m 13 1,
 c2 14 79 12 13,m 15 14,Q 16 15 true (.fad 2 false 1 (t 3)),Q 17 15 true (.ld false 1 (t 16)),Q 18 15 true (.bin .eql (t 17) (.const zi)),
 q 19 (.pick (t 15) (t 18) (.const (.bool false))),m 20 19,Q 21 20 true (.fad 4 false 1 (t 3)),Q 22 20 true (.ld false 1 (t 21)),Q 23 20 true (.bin .eql (t 22) (.const zi)),
 q 24 (.pick (t 20) (t 23) (.const (.bool false))),m 6 24]) .ret) (.seq (.ops [b 26 .eql 8 2,m 25 26]) (.cond (t 25) (.seq (.ops [f 27 3 1 3,l 28 1 27,m 29 1,c2 30 79 28 29,m 31 30,
 Q 32 31 true (.fad 4 false 1 (t 3)),Q 33 31 true (.ld false 1 (t 32)),Q 34 31 true (.mv (t 1)),Q 35 31 true (.call (.func 79) [t 33,t 34]),
 q 36 (.pick (t 31) (t 35) (.const (.bool false))),m 37 36,Q 38 37 true (.fad 2 false 1 (t 3)),Q 39 37 true (.ld false 1 (t 38)),Q 40 37 true (.mv (t 2)),
 Q 41 37 true (.call (.func 79) [t 39,t 40]),q 42 (.pick (t 37) (t 41) (.const (.bool false))),m 6 42]) .ret) .skip)))))) (.seq (.ops [f 43 1 1 3,l 44 1 43,b 45 .eql 44 3,m 46 45,
 Q 47 46 true (.fad 2 false 1 (t 3)),Q 48 46 true (.ld false 1 (t 47)),Q 49 46 true (.bin .eql (t 48) (.const zi)),q 50 (.pick (t 46) (t 49) (.const (.bool false))),m 51 50,
 Q 52 51 true (.fad 3 false 1 (t 3)),Q 53 51 true (.ld false 1 (t 52)),Q 54 51 true (.bin .eql (t 53) (.const zi)),q 55 (.pick (t 51) (t 54) (.const (.bool false))),m 56 55,
 Q 57 56 true (.fad 4 false 1 (t 3)),Q 58 56 true (.ld false 1 (t 57)),Q 59 56 true (.bin .eql (t 58) (.const zi)),q 60 (.pick (t 56) (t 59) (.const (.bool false))),m 6 60]) .ret)))
theorem b3E : a0z Tryz.prog 56 = some (61, a2n, [.tmp 6]) := by kernel_rfl
def a0o:VC:=(.seq (.ops [X 4 95 0,o 8 false]) (.seq (.seq (.ops [f 12 0 1 4,l 13 1 12,b 14 .lss 13 1,m 15 14,Q 16 15 false (.fad 0 false 1 (t 4)),Q 17 15 false (.ld false 1 (t 16)),
 Q 18 15 false (.bin .gtr (t 17) (.const (.int .i64 10))),
 q 19 (.pick (t 15) (.const (.bool true)) (t 18))]) (.cond (t 19) (.seq (.ops [o 8 false]) .ret) .skip)) (.seq (.ops [f 20 0 1 4,l 21 1 20,q 22 (.bld [zi,zi,zi,zi,zi,zi,zi,
 .int .u32 0] [(0,1,t 21)]),q 9 (.alc 95 [zi,zi,zi,zi,zi,zi,zi,.int .u32 0]),S 8 9 22]) (.seq (.seq (.ops [L 23 8 4,c1 24 80 23,b 25 .geq 24 0,m 26 25,
 Q 27 26 false (.fad 0 false 1 (t 4)),Q 28 26 false (.ld false 1 (t 27)),Q 29 26 false (.bin .eql (t 28) (.const (.int .i64 1))),q 30 (.pick (t 26) (.const (.bool true)) (t 29)),
 m 31 30,Q 32 31 false (.fad 0 false 1 (t 4)),Q 33 31 false (.ld false 1 (t 32)),Q 34 31 false (.bin .eql (t 33) (.const (.int .i64 2))),
 q 35 (.pick (t 31) (.const (.bool true)) (t 34)),m 36 35,Q 37 36 false (.fad 0 false 1 (t 4)),Q 38 36 false (.ld false 1 (t 37)),
 Q 39 36 false (.bin .eql (t 38) (.const (.int .i64 3))),q 40 (.pick (t 36) (.const (.bool true)) (t 39)),m 41 40,Q 42 41 false (.fad 0 false 1 (t 4)),
 Q 43 41 false (.ld false 1 (t 42)),Q 44 41 false (.bin .eql (t 43) (.const (.int .i64 4))),q 45 (.pick (t 41) (.const (.bool true)) (t 44)),m 46 45,
 Q 47 46 false (.fad 0 false 1 (t 4)),Q 48 46 false (.ld false 1 (t 47)),Q 49 46 false (.bin .eql (t 48) (.const (.int .i64 6))),q 50 (.pick (t 46) (.const (.bool true)) (t 49)),
 m 51 50,Q 52 51 false (.fad 0 false 1 (t 4)),Q 53 51 false (.ld false 1 (t 52)),Q 54 51 false (.bin .eql (t 53) (.const (.int .i64 8))),
 q 55 (.pick (t 51) (.const (.bool true)) (t 54))]) (.cond (t 55) (.seq (.ops [f 56 1 1 4,l 57 1 56,f 58 1 1 9,s 1 58 57]) (.seq (.ops [f 59 1 1 4,l 60 1 59,m 61 2,c2 62 79 60 61,
 q 63 (.un .not (t 62))]) (.cond (t 63) (.seq (.ops [o 8 false]) .ret) .skip))) .skip)) (.seq (.ops [L 64 8 4,c1 65 81 64,
 m 10 65]) (.seq (.seq (.ops [i 11 0]) (.block 0 (.loop (.seq (.seq (.ops [m 66 11,m 67 10,n 68 67,
 B 69 .lss 66 68]) (.cond (t 69) .skip (.exit 0))) (.seq (.block 1 (.seq (.ops [m 72 10,m 73 11,x 74 1 72 73,l 75 1 74,m 76 2,c2 77 79 75 76,
 q 78 (.un .not (t 77))]) (.cond (t 78) (.seq (.ops [o 8 false]) .ret) .skip))) (.ops [m 70 11,b 71 .add 70 1,m 11 71])))))) (.seq (.seq (.ops [m 79 10,n 80 79,
 b 81 .gtr 80 0]) (.cond (t 81) (.ops [f 82 2 1 4,l 83 1 82,f 84 2 1 9,s 1 84 83]) .skip)) (.seq (.seq (.ops [m 85 10,n 86 85,b 87 .gtr 86 1]) (.cond (t 87) (.ops [f 88 3 1 4,
 l 89 1 88,f 90 3 1 9,s 1 90 89]) .skip)) (.seq (.seq (.ops [f 91 0 1 4,l 92 1 91]) (.block 2 (.seq (.ops [b 94 .eql 92 1,m 93 94]) (.cond (t 93) (.ops [f 95 7 1 4,l 96 1 95,
 f 97 7 1 9,s 1 97 96]) (.seq (.ops [b 99 .eql 92 3,m 98 99]) (.cond (t 98) (.seq (.ops [f 100 4 1 4,l 101 1 100,f 102 4 1 9,s 1 102 101]) (.seq (.ops [f 103 4 1 4,l 104 1 103,
 b 105 .lss 104 4,m 106 105,Q 107 106 false (.fad 4 false 1 (t 4)),Q 108 106 false (.ld false 1 (t 107)),Q 109 106 false (.bin .gtr (t 108) (.const (.int .i64 15))),
 q 110 (.pick (t 106) (.const (.bool true)) (t 109))]) (.cond (t 110) (.seq (.ops [o 8 false]) .ret) .skip))) (.seq (.seq (.ops [b 112 .eql 92 4,
 m 111 112]) (.cond (t 111) .skip (.ops [b 113 .eql 92 5,m 111 113]))) (.cond (t 111) (.seq (.ops [f 114 5 1 4,l 115 1 114,f 116 5 1 9,s 1 116 115]) (.seq (.ops [f 117 5 1 4,
 l 118 1 117,m 119 3,c2 120 79 118 119,q 121 (.un .not (t 120))]) (.cond (t 121) (.seq (.ops [o 8 false]) .ret) .skip))) (.seq (.seq (.ops [b 123 .eql 92 6,
 m 122 123]) (.cond (t 122) .skip (.ops [b 124 .eql 92 7,m 122 124]))) (.cond (t 122) (.seq (.par false (O [f 125 5 1 4,l 126 1 125,f 127 6 1 4,f 129 5 1 9] (.both (O [l 128 1 127,
 s 1 129 126,f 130 6 1 9,s 1 130 128] .done) (O [s 1 129 126,l 128 1 127,f 130 6 1 9,s 1 130 128] .done)))) (.seq (.ops [f 131 6 1 4,l 132 1 131,b 133 .lss 132 1,m 134 133,
 Q 135 134 false (.fad 6 false 1 (t 4)),Q 136 134 false (.ld false 1 (t 135)),Q 137 134 false (.bin .gtr (t 136) (.const (.int .i64 4096))),
 q 138 (.pick (t 134) (.const (.bool true)) (t 137)),m 139 138,Q 140 139 false (.fad 5 false 1 (t 4)),Q 141 139 false (.ld false 1 (t 140)),
 Q 142 139 false (.bin .lss (t 141) (.const zi)),q 143 (.pick (t 139) (.const (.bool true)) (t 142)),m 144 143,Q 145 144 false (.fad 5 false 1 (t 4)),
 Q 146 144 false (.ld false 1 (t 145)),Q 147 144 false (.mv (t 3)),Q 148 144 false (.fad 6 false 1 (t 4)),Q 149 144 false (.ld false 1 (t 148)),
 Q 150 144 false (.bin .sub (t 147) (t 149)),Q 151 144 false (.bin .gtr (t 146) (t 150)),
 q 152 (.pick (t 144) (.const (.bool true)) (t 151))]) (.cond (t 152) (.seq (.ops [o 8 false]) .ret) .skip))) (.seq (.ops [b 154 .eql 92 10,
 m 153 154]) (.cond (t 153) (.seq (.ops [f 155 5 1 4,l 156 1 155,f 157 5 1 9,s 1 157 156]) (.seq (.ops [f 158 5 1 4,l 159 1 158,m 160 1,c2 161 79 159 160,
 q 162 (.un .not (t 161))]) (.cond (t 162) (.seq (.ops [o 8 false]) .ret) .skip))) .skip)))))))))))) (.seq (.ops [L 163 8 4,L 164 8 9,q 165 (.pur (.eqv false [.int,.int,.int,.int,
 .int,.int,.int,.int]) [t 163,t 164]),m 8 165]) .ret))))))))))
theorem a0W : a0z Tryz.prog 57 = some (166, a0o, [.tmp 8]) := by kernel_rfl
def a7w:VC:=(.seq (.ops [o 2 false]) (.seq (.seq (.ops [m 3 0]) (.block 0 (.seq (.seq (.ops [b 5 .eql 3 1,m 4 5]) (.cond (t 4) .skip (.seq (.ops [b 6 .eql 3 2,
 m 4 6]) (.cond (t 4) .skip (.seq (.ops [b 7 .eql 3 3,m 4 7]) (.cond (t 4) .skip (.seq (.ops [b 8 .eql 3 4,m 4 8]) (.cond (t 4) .skip (.seq (.ops [b 9 .eql 3 6,
 m 4 9]) (.cond (t 4) .skip (.ops [b 10 .eql 3 8,m 4 10]))))))))))) (.cond (t 4) (.seq (.ops [o 2 true]) .ret) .skip)))) (.seq (.ops [o 2 false]) .ret)))
theorem b6F : a0z Tryz.prog 58 = some (11, a7w, [.tmp 2]) := by kernel_rfl
def a5C:VC:=(.seq (.ops [i 2 0]) (.seq (.seq (.ops [m 3 0]) (.block 0 (.seq (.seq (.ops [b 5 .eql 3 2,m 4 5]) (.cond (t 4) .skip (.seq (.ops [b 6 .eql 3 5,
 m 4 6]) (.cond (t 4) .skip (.seq (.ops [b 7 .eql 3 6,m 4 7]) (.cond (t 4) .skip (.ops [b 8 .eql 3 9,
 m 4 8]))))))) (.cond (t 4) (.seq (.ops [i 2 1]) .ret) (.seq (.seq (.ops [b 10 .eql 3 3,m 9 10]) (.cond (t 9) .skip (.ops [b 11 .eql 3 7,
 m 9 11]))) (.cond (t 9) (.seq (.ops [i 2 2]) .ret) .skip)))))) (.seq (.ops [i 2 0]) .ret)))
theorem b4X : a0z Tryz.prog 59 = some (12, a5C, [.tmp 2]) := by kernel_rfl
def a8l:VC:=(.ops [m 4 0,m 5 1,b 6 .quo 5 64,x 7 1 4 6,l 8 1 7,m 9 1,b 10 .rem 9 64,q 11 (.bin .shl (.const (.int .u64 1)) (t 10)),B 12 .or 8 11,x 13 1 4 6,s 1 13 12])
theorem b3F : a0z Tryz.prog 60 = some (14, a8l, []) := by kernel_rfl
def b2S:VC:=(.seq (.ops [X 1 3 0,q 2 (.mv (.const .nilFunc))]) (.seq (.ops [q 3 (.mkf 82 [t 1]),m 2 3]) .ret))
theorem b7W : a0z Tryz.prog 61 = some (4, b2S, [.tmp 2]) := by kernel_rfl
def a5l:VC:=(.ops [m 4 0,m 5 1,b 6 .quo 5 64,x 7 1 4 6,l 8 1 7,m 9 1,b 10 .rem 9 64,q 11 (.bin .shl (.const (.int .u64 1)) (t 10)),B 12 .andNot 8 11,x 13 1 4 6,s 1 13 12])
theorem b0l : a0z Tryz.prog 62 = some (14, a5l, []) := by kernel_rfl
def a4i:VC:=(.seq (.ops [i 4 0]) (.seq (.ops [m 5 0,k 6 5,f 7 6 1 6,l 8 1 7,m 9 0,k 10 9,f 11 8 1 10,l 12 1 11,x 13 1 8 12,l 14 1 13,m 15 1,B 16 .sub 14 15,b 17 .sub 16 1,m 4 17]) .ret))
theorem a8M : a0z Tryz.prog 63 = some (18, a4i, [.tmp 4]) := by kernel_rfl
def a1Y:VC:=(.seq (.ops [i 6 0]) (.seq (.ops [m 8 0,k 9 8,f 10 9 1 9,l 11 1 10,m 12 1,x 13 1 11 12,l 14 1 13,m 7 14]) (.seq (.seq (.ops [m 15 7,
 b 16 .gtr 15 0]) (.cond (t 16) (.seq (.ops [m 17 7,m 6 17]) .ret) .skip)) (.seq (.ops [m 18 0,m 19 2,m 20 0,m 21 7,q 22 (.callM false (.func 63) [t 20,t 21]),
 q 23 (.callM false (.func 45) [t 18,(.const (.int .i64 16)),t 19,(.const zi),t 22])]) (.seq (.ops [m 24 2,m 6 24]) .ret)))))
theorem a7x : a0z Tryz.prog 64 = some (25, a1Y, [.tmp 6]) := by kernel_rfl
def a1d:VC:=(.seq (.seq (.ops [m 7 2,q 8 (.bin .eql (t 7) (.const (.int .u32 0))),m 9 8,Q 10 9 true (.mv (t 0)),Q 11 9 true (.nck (t 10)),Q 12 9 true (.fad 9 false 1 (t 11)),
 Q 13 9 true (.ld false 1 (t 12)),Q 14 9 true (.mv (t 1)),Q 15 9 true (.idx 1 (t 13) (t 14)),Q 16 9 true (.ld false 1 (t 15)),Q 17 9 true (.bin .lss (t 16) (.const zi)),
 q 18 (.pick (t 9) (t 17) (.const (.bool false)))]) (.cond (t 18) (.seq (.ops [m 19 0,m 20 1,q 21 (.callM false (.func 46) [t 19,t 20,
 (.const zi)])]) .ret) .skip)) (.seq (.ops [m 22 0,m 23 1,q 24 (.callM false (.func 67) [t 22,t 23]),m 6 24]) (.seq (.ops [m 25 0,m 26 6,m 27 2,
 q 28 (.bin .and (t 27) (.const (.int .u32 65535))),q 29 (.conv .i64 (t 28)),q 30 (.callM false (.func 45) [t 25,(.const (.int .i64 1)),t 26,(.const zi),
 t 29])]) (.seq (.seq (.ops [m 31 2,q 32 (.bin .shr (t 31) (.const (.int .u64 16))),q 33 (.bin .neq (t 32) (.const (.int .u32 0)))]) (.cond (t 33) (.ops [m 34 0,m 35 6,m 36 2,
 q 37 (.bin .shr (t 36) (.const (.int .u64 16))),q 38 (.conv .i64 (t 37)),q 39 (.callM false (.func 45) [t 34,(.const (.int .i64 2)),t 35,(.const zi),t 38])]) .skip)) (.ops [m 40 0,
 m 41 1,m 42 6,q 43 (.callM false (.func 46) [t 40,t 41,t 42])])))))
theorem a5m : a0z Tryz.prog 65 = some (44, a1d, []) := by kernel_rfl
def a1t:VC:=(.seq (.seq (.ops [m 8 0,k 9 8,f 10 9 1 9,l 11 1 10,m 12 1,x 13 1 11 12,l 14 1 13,m 15 0,k 16 15,f 17 9 1 16,l 18 1 17,m 19 2,x 20 1 18 19,l 21 1 20,
 B 22 .eql 14 21]) (.cond (t 22) .ret .skip)) (.seq (.seq (.ops [m 23 0,k 24 23,f 25 9 1 24,l 26 1 25,m 27 1,x 28 1 26 27,l 29 1 28,m 6 29]) (.seq (.ops [m 30 6,
 b 31 .gtr 30 0]) (.cond (t 31) (.seq (.seq (.ops [m 32 0,m 33 2,m 34 6,q 35 (.callM false (.func 64) [t 32,t 33,t 34]),m 7 35]) (.seq (.ops [m 36 7,m 37 6,
 B 38 .neq 36 37]) (.cond (t 38) (.ops [m 39 0,m 40 6,m 41 7,q 42 (.callM false (.func 45) [t 39,(.const (.int .i64 3)),t 40,t 41,
 (.const zi)])]) .skip))) .ret) .skip))) (.ops [m 43 0,m 44 1,m 45 0,m 46 2,q 47 (.callM false (.func 64) [t 45,t 46,(.const (.int .i64 9))]),q 48 (.callM false (.func 46) [t 43,
 t 44,t 47])])))
theorem a6a : a0z Tryz.prog 66 = some (49, a1t, []) := by kernel_rfl
def a2i:VC:=(.seq (.ops [i 4 0]) (.seq (.seq (.ops [m 6 0,k 7 6,f 8 9 1 7,l 9 1 8,m 10 1,x 11 1 9 10,l 12 1 11,m 5 12]) (.seq (.ops [m 13 5,b 14 .gtr 13 0]) (.cond (t 14) (.seq (.ops [m 15 5,
 m 4 15]) .ret) .skip))) (.seq (.ops [i 4 11]) .ret)))
theorem a8a : a0z Tryz.prog 67 = some (16, a2i, [.tmp 4]) := by kernel_rfl

 def c_choose_writer_jump:VC:=(.seq (.par false (.one (m 10 0) (.one (m 11 0) (.one (k 12 11) (.one (f 13 3 1 12) (.one (l 14 1 13) (.one (m 15 0) (.one (k 16 15) (.one (f 17 2 1 16) (.one (l 18 1 17) (.one (n 19 18) (.one (m 20 3) (.one (m 21 4) (.one ⟨some 22,
 none,.bld [.int .i64 0,.int .i64 0,.int .i64 0] [(0,(1,(.tmp 19))),(1,(1,(.tmp 20))),(2,(1,(.tmp 21)))]⟩ (.one ⟨some 23,none,.bsl 119 3 1 [.int .i64 0,.int .i64 0,.int .i64 0] [(0,
 (3,(.tmp 22)))]⟩ (.one ⟨some 24,none,.app 119 3 24 (.tmp 14) (.tmp 23)⟩ (.one (k 25 10) (.one (f 26 3 1 25) (.one (s 1 26 24) .done))))))))))))))))))) (.ops [m 27 0,m 28 1,m 29 2,
 ⟨some 30,none,.callM false (.func 45) [(.tmp 27),(.tmp 28),(.tmp 29),(.const (.int .i64 0)),(.const (.int .i64 0))]⟩]))
theorem a8b : a0z Tryz.prog 68 = some (31, c_choose_writer_jump, []) := by kernel_rfl
def b1E:VC:=(.seq (.ops [X 1 121 0,o 2 false]) (.seq (.seq (.ops [f 5 0 1 1,l 6 1 5,c1 7 83 6,q 8 (.un .not (t 7))]) (.cond (t 8) (.seq (.ops [o 2 false]) .ret) .skip)) (.seq (.ops [f 9 0 1 1,
 l 10 1 9,c1 11 84 10,q 3 (.alc 152 [(.string ⟨#[]⟩),(.bool false),(.bool false),zi]),S 4 3 11]) (.seq (.ops [i 4 65535]) (.seq (.seq (.ops [f 12 3 1 3,l 13 1 12,
 b 14 .eql 13 2]) (.cond (t 14) (.ops [i 4 15]) .skip)) (.seq (.ops [f 15 1 1 1,l 16 1 15,f 17 1 1 3,l 18 1 17,q 19 (.call (.func 85) [t 16,(.const (.int .i64 15)),t 18]),m 20 19,
 Q 21 20 true (.fad 2 false 1 (t 1)),Q 22 20 true (.ld false 1 (t 21)),Q 23 20 true (.fad 2 false 1 (t 3)),Q 24 20 true (.ld false 1 (t 23)),Q 25 20 true (.call (.func 85) [t 22,
 (.const (.int .i64 15)),t 24]),q 26 (.pick (t 20) (t 25) (.const (.bool false))),m 27 26,Q 28 27 true (.fad 3 false 1 (t 1)),Q 29 27 true (.ld false 1 (t 28)),
 Q 30 27 true (.mv (t 4)),Q 31 27 true (.fad 3 false 1 (t 3)),Q 32 27 true (.ld false 1 (t 31)),Q 33 27 true (.bin .neq (t 32) (.const zi)),Q 34 27 true (.call (.func 85) [t 29,
 t 30,t 33]),q 35 (.pick (t 27) (t 34) (.const (.bool false))),m 2 35]) .ret))))))
theorem b6G : a0z Tryz.prog 69 = some (36, b1E, [.tmp 2]) := by kernel_rfl
def a9s:VC:=(.seq (.ops [q 6 (.mv (.const (.int .u32 0))),i 7 0]) (.seq (.seq (.ops [m 8 2,
 q 9 (.bin .eql (t 8) (.const (.int .u32 0)))]) (.cond (t 9) (.seq (.ops [q 6 (.mv (.const (.int .u32 0))),i 7 14]) .ret) .skip)) (.seq (.seq (.ops [m 10 0,
 b 11 .eql 10 7]) (.cond (t 11) (.seq (.ops [m 12 1,m 13 2,B 14 .quo 12 13,m 6 14,i 7 0]) .ret) .skip)) (.seq (.ops [m 15 1,m 16 2,B 17 .rem 15 16,m 6 17,i 7 0]) .ret))))
theorem b4Y : a0z Tryz.prog 70 = some (18, a9s, [.tmp 6,.tmp 7]) := by kernel_rfl
def b1F:VC:=(.seq (.ops [q 6 (.mv (.const (.int .u32 0)))]) (.seq (.block 0 (.seq (.ops [m 8 2,q 9 (.bin .gtr (t 8) (.const (.int .u32 31))),
 m 7 9]) (.cond (t 7) (.seq (.ops [q 6 (.mv (.const (.int .u32 0)))]) .ret) (.seq (.ops [m 11 0,b 12 .eql 11 12,m 10 12]) (.cond (t 10) (.seq (.ops [m 13 1,m 14 2,B 15 .shl 13 14,
 m 6 15]) .ret) .skip))))) (.seq (.ops [m 16 1,m 17 2,B 18 .shr 16 17,m 6 18]) .ret)))
theorem b6H : a0z Tryz.prog 71 = some (19, b1F, [.tmp 6]) := by kernel_rfl
def a1Q:VC:=(.seq (.ops [q 6 (.mv (.const (.int .u32 0)))]) (.seq (.block 0 (.seq (.block 2 (.block 1 (.seq (.seq (.seq (.ops [m 8 0,b 9 .eql 8 14,m 10 9,Q 11 10 true (.mv (t 1)),
 Q 12 10 true (.mv (t 2)),Q 13 10 true (.bin .lss (t 11) (t 12)),q 14 (.pick (t 10) (t 13) (.const (.bool false))),m 7 14]) (.cond (t 7) (.exit 1) .skip)) (.seq (.ops [m 16 0,
 b 17 .eql 16 15,m 18 17,Q 19 18 true (.mv (t 1)),Q 20 18 true (.mv (t 2)),Q 21 18 true (.bin .eql (t 19) (t 20)),q 22 (.pick (t 18) (t 21) (.const (.bool false))),
 m 15 22]) (.cond (t 15) (.exit 2) .skip))) (.exit 0)))) (.seq (.seq (.ops [q 6 (.mv (.const (.int .u32 1)))]) .ret) (.exit 0)))) (.seq (.ops [q 6 (.mv (.const (.int .u32 0)))]) .ret)))
theorem b3G : a0z Tryz.prog 72 = some (23, a1Q, [.tmp 6]) := by kernel_rfl
def a8m:VC:=(.seq (.ops [i 4 0]) (.block 0 (.loop (.seq (.seq (.ops [m 6 4,l 7 1 1,B 8 .lss 6 7,m 9 8,Q 10 9 true (.ld false 1 (t 2)),Q 11 9 true (.call (.func 74) [t 10]),
 q 12 (.pick (t 9) (t 11) (.const (.bool false)))]) (.cond (t 12) .skip (.exit 0))) (.seq (.block 1 (.seq (.ops [l 15 1 2,c1 16 75 15,m 5 16]) (.seq (.ops [l 17 1 2,c1 18 76 17,
 m 19 18,Q 20 19 true (.mv (t 0)),Q 21 19 true (.mv (t 5)),Q 22 19 true (.ycal (t 20) [t 21]),Q 23 19 true (.un .not (t 22)),
 q 24 (.pick (t 19) (t 23) (.const (.bool false)))]) (.cond (t 24) .ret .skip)))) (.ops [m 13 4,b 14 .add 13 1,m 4 14]))))))
theorem b3H : b4m Tryz.prog true 73 = some (25, a8m, []) := by kernel_rfl
def a2Z:VC:=(.seq (.ops [o 2 false]) (.seq (.ops [m 3 0,k 4 3,F 5 2 22 4,f 6 21 1 5,l 7 1 6,b 8 .eql 7 0,m 2 8]) .ret))
theorem a6b : a0z Tryz.prog 74 = some (9, a2Z, [.tmp 2]) := by kernel_rfl
def a4j:VC:=(.seq (.ops [i 2 0]) (.seq (.ops [m 3 0,k 4 3,F 5 2 22 4,f 6 0 1 5,l 7 1 6,m 2 7]) .ret))
theorem a8N : a0z Tryz.prog 75 = some (8, a4j, [.tmp 2]) := by kernel_rfl
def a1k:VC:=(.seq (.ops [o 2 false]) (.seq (.seq (.ops [m 6 0,k 7 6,F 8 2 22 7,f 9 21 1 8,l 10 1 9,
 b 11 .neq 10 0]) (.cond (t 11) (.seq (.ops [o 2 false]) .ret) .skip)) (.seq (.seq (.ops [m 12 0,k 13 12,F 14 2 22 13,f 15 0 1 14,l 16 1 15,b 17 .lss 16 0,m 18 17,
 Q 19 18 false (.mv (t 0)),Q 20 18 false (.nck (t 19)),Q 21 18 false (.fad 2 true 22 (t 20)),Q 22 18 false (.fad 0 false 1 (t 21)),Q 23 18 false (.ld false 1 (t 22)),
 Q 24 18 false (.mv (t 0)),Q 25 18 false (.nck (t 24)),Q 26 18 false (.fad 0 false 1 (t 25)),Q 27 18 false (.ld false 1 (t 26)),Q 28 18 false (.len (t 27)),
 Q 29 18 false (.bin .geq (t 23) (t 28)),q 30 (.pick (t 18) (.const (.bool true)) (t 29))]) (.cond (t 30) (.seq (.ops [m 31 0,k 32 31,F 33 2 22 32,f 34 21 1 33,⟨none,none,
 .sto false 1 (t 34) (.const (.int .i64 7))⟩]) (.seq (.ops [o 2 false]) .ret)) .skip)) (.seq (.ops [m 35 0,k 36 35,F 37 2 22 36,f 38 20 1 37,l 39 1 38,b 40 .add 39 1,k 41 35,
 F 42 2 22 41,f 43 20 1 42,s 1 43 40]) (.seq (.par false (O [m 45 0,k 46 45,f 47 0 1 46,l 48 1 47,m 49 0,k 50 49,F 51 2 22 50,f 52 0 1 51,l 53 1 52,x 54 1 48 53,l 55 1 54,
 c1 56 86 55,m 44 56,e 57 44 0,e 58 44 1,q 3 (.alc 121 [zi,zi,zi,zi]),S 4 3 57,m 4 58] .done)) (.seq (.seq (.ops [m 59 4,b 60 .neq 59 0]) (.cond (t 60) (.seq (.ops [m 61 0,k 62 61,
 F 63 2 22 62,f 64 21 1 63,⟨none,none,.sto false 1 (t 64) (.const (.int .i64 6))⟩]) (.seq (.ops [o 2 true]) .ret)) .skip)) (.seq (.seq (.ops [m 65 0,L 66 4 3,c2 67 87 65 66,
 m 5 67]) (.seq (.ops [m 68 5,b 69 .neq 68 0]) (.cond (t 69) (.ops [m 70 0,m 71 5,k 72 70,F 73 2 22 72,f 74 21 1 73,s 1 74 71]) .skip))) (.seq (.ops [o 2 true]) .ret))))))))
theorem a7y : a0z Tryz.prog 76 = some (75, a1k, [.tmp 2]) := by kernel_rfl
def a8n:VC:=(.seq (.ops [X 1 42 0,q 2 (.mv (.const zs)),q 3 (.mv (.const zs))]) (.seq (.ops [f 9 0 1 1,l 10 1 9,n 11 10,q 12 (.mk 121 4 32 [zi,zi,zi,zi] (t 11) (t 11)),
 m 4 12]) (.seq (.ops [f 13 0 1 1,l 14 1 13,n 15 14,q 16 (.mk 4 1 1 [.bool false] (t 15) (t 15)),m 5 16]) (.seq (.seq (.ops [i 6 0]) (.block 0 (.loop (.seq (.seq (.ops [m 17 6,
 f 18 0 1 1,l 19 1 18,n 20 19,B 21 .lss 17 20]) (.cond (t 21) .skip (.exit 0))) (.seq (.block 1 (.seq (.ops [f 25 0 1 1,l 26 1 25,m 27 6,x 28 1 26 27,l 29 1 28,c1 30 88 29,m 24 30,
 e 31 24 0,e 32 24 1,q 7 (.alc 121 [zi,zi,zi,zi]),S 4 7 31,m 8 32]) (.ops [m 33 4,m 34 6,m 35 5,m 36 6,L 37 4 7,m 38 8,b 39 .eql 38 0,x 40 4 33 34,S 4 40 37,x 41 1 35 36,
 s 1 41 39]))) (.ops [m 22 6,b 23 .add 22 1,m 6 23])))))) (.seq (.ops [m 42 4,m 43 5,m 2 42,m 3 43]) .ret)))))
theorem b3I : a0z Tryz.prog 77 = some (44, a8n, [.tmp 2,.tmp 3]) := by kernel_rfl
def a3K:VC:=(.seq (.ops [o 4 false]) (.seq (.ops [m 5 0,b 6 .geq 5 0,m 7 6,Q 8 7 true (.mv (t 0)),Q 9 7 true (.mv (t 1)),Q 10 7 true (.bin .lss (t 8) (t 9)),
 q 11 (.pick (t 7) (t 10) (.const (.bool false))),m 4 11]) .ret))
theorem b1V : a0z Tryz.prog 79 = some (12, a3K, [.tmp 4]) := by kernel_rfl
def a5b:VC:=(.seq (.ops [X 1 95 0,i 2 0]) (.seq (.seq (.ops [f 3 0 1 1,l 4 1 3]) (.block 0 (.seq (.seq (.ops [b 6 .eql 4 1,m 5 6]) (.cond (t 5) .skip (.seq (.ops [b 7 .eql 4 2,
 m 5 7]) (.cond (t 5) .skip (.seq (.ops [b 8 .eql 4 3,m 5 8]) (.cond (t 5) .skip (.seq (.ops [b 9 .eql 4 4,m 5 9]) (.cond (t 5) .skip (.seq (.ops [b 10 .eql 4 6,
 m 5 10]) (.cond (t 5) .skip (.ops [b 11 .eql 4 8,m 5 11]))))))))))) (.cond (t 5) (.seq (.ops [f 12 1 1 1,l 13 1 12,
 m 2 13]) .ret) .skip)))) (.seq (.ops [q 2 (.mv (.const (.int .i64 (-1))))]) .ret)))
theorem b3J : a0z Tryz.prog 80 = some (14, a5b, [.tmp 2]) := by kernel_rfl
def a1p:VC:=(.seq (.ops [X 1 95 0,q 2 (.mv (.const zs))]) (.seq (.seq (.ops [f 3 0 1 1,l 4 1 3]) (.block 0 (.seq (.seq (.ops [b 6 .eql 4 2,m 5 6]) (.cond (t 5) .skip (.seq (.ops [b 7 .eql 4 5,
 m 5 7]) (.cond (t 5) .skip (.seq (.ops [b 8 .eql 4 6,m 5 8]) (.cond (t 5) .skip (.ops [b 9 .eql 4 9,m 5 9]))))))) (.cond (t 5) (.seq (.ops [f 10 2 1 1,l 11 1 10,
 q 12 (.bsl 3 1 1 [zi] [(0,1,t 11)]),m 2 12]) .ret) (.seq (.seq (.ops [b 14 .eql 4 3,m 13 14]) (.cond (t 13) .skip (.ops [b 15 .eql 4 7,
 m 13 15]))) (.cond (t 13) (.seq (.ops [f 16 2 1 1,l 17 1 16,f 18 3 1 1,l 19 1 18,q 20 (.bsl 3 1 2 [zi,zi] [(0,1,t 17),(1,1,t 19)]),
 m 2 20]) .ret) .skip)))))) (.seq (.ops [q 2 (.mv (.const zs))]) .ret)))
theorem b3K : a0z Tryz.prog 81 = some (21, a1p, [.tmp 2]) := by kernel_rfl
def a9t:VC:=(.seq (.ops [l 4 1 1,b 5 .sub 4 1,m 3 5]) (.block 0 (.loop (.seq (.seq (.ops [m 6 3,b 7 .geq 6 0]) (.cond (t 7) .skip (.exit 0))) (.seq (.block 1 (.seq (.ops [m 10 0,m 11 3,
 q 12 (.ycal (t 10) [t 11]),q 13 (.un .not (t 12))]) (.cond (t 13) .ret .skip))) (.ops [m 8 3,b 9 .sub 8 1,m 3 9]))))))
theorem b4Z : b4m Tryz.prog true 82 = some (14, a9t, []) := by kernel_rfl
def b1G:VC:=(.seq (.ops [o 2 false]) (.seq (.ops [m 3 0,c1 4 84 3,q 5 (.fld 0 false 1 (t 4)),q 6 (.bin .neq (t 5) (.const (.string ⟨#[]⟩))),m 2 6]) .ret))
theorem b6I : a0z Tryz.prog 83 = some (7, b1G, [.tmp 2]) := by kernel_rfl
def a8o:VC:=(.seq (.ops [q 2 (.alc 152 [(.string ⟨#[]⟩),(.bool false),(.bool false),zi])]) (.seq (.seq (.ops [m 3 0]) (.block 0 (.seq (.ops [b 5 .eql 3 1,
 m 4 5]) (.cond (t 4) (.seq (.ops [q 6 (.bld [(.string ⟨#[]⟩),(.bool false),(.bool false),zi] [(0,(1,(.const (.string ⟨#[108,105]⟩)))),(1,(1,(.const (.bool true)))),(2,(1,
 (.const (.bool false)))),(3,(1,(.const (.int .i64 1))))]),S 4 2 6]) .ret) (.seq (.ops [b 8 .eql 3 2,m 7 8]) (.cond (t 7) (.seq (.ops [q 9 (.bld [(.string ⟨#[]⟩),(.bool false),
 (.bool false),zi] [(0,(1,(.const (.string ⟨#[108,117,105]⟩)))),(1,(1,(.const (.bool true)))),(2,(1,(.const (.bool false)))),(3,(1,(.const (.int .i64 1))))]),
 S 4 2 9]) .ret) (.seq (.ops [b 11 .eql 3 3,m 10 11]) (.cond (t 10) (.seq (.ops [q 12 (.bld [(.string ⟨#[]⟩),(.bool false),(.bool false),zi] [(0,(1,(.const (.string ⟨#[109,111,
 118]⟩)))),(1,(1,(.const (.bool true)))),(2,(1,(.const (.bool true)))),(3,(1,(.const zi)))]),S 4 2 12]) .ret) (.seq (.ops [b 14 .eql 3 4,
 m 13 14]) (.cond (t 13) (.seq (.ops [q 15 (.bld [(.string ⟨#[]⟩),(.bool false),(.bool false),zi] [(0,(1,(.const (.string ⟨#[97,100,100]⟩)))),(1,(1,(.const (.bool true)))),(2,(1,
 (.const (.bool true)))),(3,(1,(.const (.int .i64 2))))]),S 4 2 15]) .ret) (.seq (.ops [b 17 .eql 3 5,m 16 17]) (.cond (t 16) (.seq (.ops [q 18 (.bld [(.string ⟨#[]⟩),(.bool false),
 (.bool false),zi] [(0,(1,(.const (.string ⟨#[115,117,98]⟩)))),(1,(1,(.const (.bool true)))),(2,(1,(.const (.bool true)))),(3,(1,(.const (.int .i64 2))))]),
 S 4 2 18]) .ret) (.seq (.ops [b 20 .eql 3 6,m 19 20]) (.cond (t 19) (.seq (.ops [q 21 (.bld [(.string ⟨#[]⟩),(.bool false),(.bool false),zi] [(0,(1,(.const (.string ⟨#[109,117,
 108]⟩)))),(1,(1,(.const (.bool true)))),(2,(1,(.const (.bool true)))),(3,(1,(.const (.int .i64 2))))]),S 4 2 21]) .ret) (.seq (.ops [b 23 .eql 3 7,
 m 22 23]) (.cond (t 22) (.seq (.ops [q 24 (.bld [(.string ⟨#[]⟩),(.bool false),(.bool false),zi] [(0,(1,(.const (.string ⟨#[100,105,118]⟩)))),(1,(1,(.const (.bool true)))),(2,(1,
 (.const (.bool true)))),(3,(1,(.const (.int .i64 2))))]),S 4 2 24]) .ret) (.seq (.ops [b 26 .eql 3 8,m 25 26]) (.cond (t 25) (.seq (.ops [q 27 (.bld [(.string ⟨#[]⟩),(.bool false),
 (.bool false),zi] [(0,(1,(.const (.string ⟨#[109,111,100]⟩)))),(1,(1,(.const (.bool true)))),(2,(1,(.const (.bool true)))),(3,(1,(.const (.int .i64 2))))]),
 S 4 2 27]) .ret) (.seq (.ops [b 29 .eql 3 9,m 28 29]) (.cond (t 28) (.seq (.ops [q 30 (.bld [(.string ⟨#[]⟩),(.bool false),(.bool false),zi] [(0,(1,(.const (.string ⟨#[97,110,
 100]⟩)))),(1,(1,(.const (.bool true)))),(2,(1,(.const (.bool true)))),(3,(1,(.const (.int .i64 2))))]),S 4 2 30]) .ret) (.seq (.ops [b 32 .eql 3 10,
 m 31 32]) (.cond (t 31) (.seq (.ops [q 33 (.bld [(.string ⟨#[]⟩),(.bool false),(.bool false),zi] [(0,(1,(.const (.string ⟨#[111,114]⟩)))),(1,(1,(.const (.bool true)))),(2,(1,
 (.const (.bool true)))),(3,(1,(.const (.int .i64 2))))]),S 4 2 33]) .ret) (.seq (.ops [b 35 .eql 3 11,m 34 35]) (.cond (t 34) (.seq (.ops [q 36 (.bld [(.string ⟨#[]⟩),
 (.bool false),(.bool false),zi] [(0,(1,(.const (.string ⟨#[120,111,114]⟩)))),(1,(1,(.const (.bool true)))),(2,(1,(.const (.bool true)))),(3,(1,(.const (.int .i64 2))))]),
 S 4 2 36]) .ret) (.seq (.ops [b 38 .eql 3 12,m 37 38]) (.cond (t 37) (.seq (.ops [q 39 (.bld [(.string ⟨#[]⟩),(.bool false),(.bool false),zi] [(0,(1,(.const (.string ⟨#[115,104,
 108]⟩)))),(1,(1,(.const (.bool true)))),(2,(1,(.const (.bool true)))),(3,(1,(.const (.int .i64 2))))]),S 4 2 39]) .ret) (.seq (.ops [b 41 .eql 3 13,
 m 40 41]) (.cond (t 40) (.seq (.ops [q 42 (.bld [(.string ⟨#[]⟩),(.bool false),(.bool false),zi] [(0,(1,(.const (.string ⟨#[115,104,114]⟩)))),(1,(1,(.const (.bool true)))),(2,(1,
 (.const (.bool true)))),(3,(1,(.const (.int .i64 2))))]),S 4 2 42]) .ret) (.seq (.ops [b 44 .eql 3 14,m 43 44]) (.cond (t 43) (.seq (.ops [q 45 (.bld [(.string ⟨#[]⟩),
 (.bool false),(.bool false),zi] [(0,(1,(.const (.string ⟨#[108,116]⟩)))),(1,(1,(.const (.bool true)))),(2,(1,(.const (.bool true)))),(3,(1,(.const (.int .i64 2))))]),
 S 4 2 45]) .ret) (.seq (.ops [b 47 .eql 3 15,m 46 47]) (.cond (t 46) (.seq (.ops [q 48 (.bld [(.string ⟨#[]⟩),(.bool false),(.bool false),zi] [(0,(1,(.const (.string ⟨#[101,
 113]⟩)))),(1,(1,(.const (.bool true)))),(2,(1,(.const (.bool true)))),(3,(1,(.const (.int .i64 2))))]),S 4 2 48]) .ret) (.seq (.ops [b 50 .eql 3 16,
 m 49 50]) (.cond (t 49) (.seq (.ops [q 51 (.bld [(.string ⟨#[]⟩),(.bool false),(.bool false),zi] [(0,(1,(.const (.string ⟨#[108,100]⟩)))),(1,(1,(.const (.bool true)))),(2,(1,
 (.const (.bool true)))),(3,(1,(.const (.int .i64 1))))]),S 4 2 51]) .ret) (.seq (.ops [b 53 .eql 3 17,m 52 53]) (.cond (t 52) (.seq (.ops [q 54 (.bld [(.string ⟨#[]⟩),
 (.bool false),(.bool false),zi] [(0,(1,(.const (.string ⟨#[115,116]⟩)))),(1,(1,(.const (.bool true)))),(2,(1,(.const (.bool true)))),(3,(1,(.const (.int .i64 1))))]),
 S 4 2 54]) .ret) (.seq (.ops [b 56 .eql 3 18,m 55 56]) (.cond (t 55) (.seq (.ops [q 57 (.bld [(.string ⟨#[]⟩),(.bool false),(.bool false),zi] [(0,(1,(.const (.string ⟨#[106,109,
 112]⟩)))),(1,(1,(.const (.bool false)))),(2,(1,(.const (.bool false)))),(3,(1,(.const (.int .i64 1))))]),S 4 2 57]) .ret) (.seq (.ops [b 59 .eql 3 19,
 m 58 59]) (.cond (t 58) (.seq (.ops [q 60 (.bld [(.string ⟨#[]⟩),(.bool false),(.bool false),zi] [(0,(1,(.const (.string ⟨#[106,122]⟩)))),(1,(1,(.const (.bool true)))),(2,(1,
 (.const (.bool false)))),(3,(1,(.const (.int .i64 1))))]),S 4 2 60]) .ret) (.seq (.ops [b 62 .eql 3 20,m 61 62]) (.cond (t 61) (.seq (.ops [q 63 (.bld [(.string ⟨#[]⟩),
 (.bool false),(.bool false),zi] [(0,(1,(.const (.string ⟨#[106,110,122]⟩)))),(1,(1,(.const (.bool true)))),(2,(1,(.const (.bool false)))),(3,(1,(.const (.int .i64 1))))]),
 S 4 2 63]) .ret) (.seq (.ops [b 65 .eql 3 21,m 64 65]) (.cond (t 64) (.seq (.ops [q 66 (.bld [(.string ⟨#[]⟩),(.bool false),(.bool false),zi] [(0,(1,(.const (.string ⟨#[99,97,108,
 108]⟩)))),(1,(1,(.const (.bool true)))),(2,(1,(.const (.bool false)))),(3,(1,(.const (.int .i64 1))))]),S 4 2 66]) .ret) (.seq (.ops [b 68 .eql 3 22,
 m 67 68]) (.cond (t 67) (.seq (.ops [q 69 (.bld [(.string ⟨#[]⟩),(.bool false),(.bool false),zi] [(0,(1,(.const (.string ⟨#[114,101,116]⟩)))),(1,(1,(.const (.bool true)))),(2,(1,
 (.const (.bool false)))),(3,(1,(.const zi)))]),S 4 2 69]) .ret) (.seq (.ops [b 71 .eql 3 23,m 70 71]) (.cond (t 70) (.seq (.ops [q 72 (.bld [(.string ⟨#[]⟩),(.bool false),
 (.bool false),zi] [(0,(1,(.const (.string ⟨#[103,101,116]⟩)))),(1,(1,(.const (.bool true)))),(2,(1,(.const (.bool false)))),(3,(1,(.const zi)))]),
 S 4 2 72]) .ret) (.seq (.ops [b 74 .eql 3 24,m 73 74]) (.cond (t 73) (.seq (.ops [q 75 (.bld [(.string ⟨#[]⟩),(.bool false),(.bool false),zi] [(0,(1,(.const (.string ⟨#[112,117,
 116]⟩)))),(1,(1,(.const (.bool true)))),(2,(1,(.const (.bool false)))),(3,(1,(.const zi)))]),S 4 2 75]) .ret) (.seq (.ops [b 77 .eql 3 25,
 m 76 77]) (.cond (t 76) (.seq (.ops [q 78 (.bld [(.string ⟨#[]⟩),(.bool false),(.bool false),zi] [(0,(1,(.const (.string ⟨#[99,104,107]⟩)))),(1,(1,(.const (.bool true)))),(2,(1,
 (.const (.bool false)))),(3,(1,(.const (.int .i64 1))))]),S 4 2 78]) .ret) (.seq (.ops [b 80 .eql 3 26,m 79 80]) (.cond (t 79) (.seq (.ops [q 81 (.bld [(.string ⟨#[]⟩),
 (.bool false),(.bool false),zi] [(0,(1,(.const (.string ⟨#[104,97,108,116]⟩)))),(1,(1,(.const (.bool false)))),(2,(1,(.const (.bool false)))),(3,(1,(.const zi)))]),
 S 4 2 81]) .ret) (.seq (.ops [b 83 .eql 3 27,m 82 83]) (.cond (t 82) (.seq (.ops [q 84 (.bld [(.string ⟨#[]⟩),(.bool false),(.bool false),zi] [(0,(1,(.const (.string ⟨#[108,100,
 99]⟩)))),(1,(1,(.const (.bool true)))),(2,(1,(.const (.bool true)))),(3,(1,(.const (.int .i64 1))))]),
 S 4 2 84]) .ret) .skip)))))))))))))))))))))))))))))))))))))))))))))))))))))))) (.seq (.ops [q 85 (.bld [(.string ⟨#[]⟩),(.bool false),(.bool false),zi] []),S 4 2 85]) .ret)))
theorem b3L : a0z Tryz.prog 84 = some (86, a8o, [(.cell 2 true 4)]) := by kernel_rfl
def a3U:VC:=(.seq (.ops [o 6 false]) (.seq (.seq (.ops [m 7 2,q 8 (.un .not (t 7))]) (.cond (t 8) (.seq (.ops [m 9 0,b 10 .eql 9 0,m 6 10]) .ret) .skip)) (.seq (.ops [m 11 0,b 12 .geq 11 0,
 m 13 12,Q 14 13 true (.mv (t 0)),Q 15 13 true (.mv (t 1)),Q 16 13 true (.bin .leq (t 14) (t 15)),q 17 (.pick (t 13) (t 16) (.const (.bool false))),m 6 17]) .ret)))
theorem b5a : a0z Tryz.prog 85 = some (18, a3U, [.tmp 6]) := by kernel_rfl
def a9u:VC:=(.seq (.ops [q 2 (.alc 121 [zi,zi,zi,zi]),i 3 0]) (.seq (.ops [m 5 0,q 6 (.bin .shr (t 5) (.const (.int .u64 24))),q 7 (.conv .i64 (t 6)),m 8 0,
 q 9 (.bin .shr (t 8) (.const (.int .u64 20))),q 10 (.bin .and (t 9) (.const (.int .u32 15))),q 11 (.conv .i64 (t 10)),m 12 0,q 13 (.bin .shr (t 12) (.const (.int .u64 16))),
 q 14 (.bin .and (t 13) (.const (.int .u32 15))),q 15 (.conv .i64 (t 14)),m 16 0,q 17 (.bin .and (t 16) (.const (.int .u32 65535))),q 18 (.conv .i64 (t 17)),q 19 (.bld [zi,zi,zi,
 zi] [(0,1,t 7),(1,1,t 11),(2,1,t 15),(3,1,t 18)]),q 4 (.alc 121 [zi,zi,zi,zi]),S 4 4 19]) (.seq (.seq (.ops [L 20 4 4,c1 21 69 20,
 q 22 (.un .not (t 21))]) (.cond (t 22) (.seq (.ops [q 23 (.bld [zi,zi,zi,zi] []),S 4 2 23,i 3 7]) .ret) .skip)) (.seq (.ops [L 24 4 4,S 4 2 24,i 3 0]) .ret))))
theorem b5b : a0z Tryz.prog 86 = some (25, a9u, [(.cell 2 true 4), (.tmp 3)]) := by kernel_rfl
def a0v:VC:=(.seq (.ops [X 3 121 1,i 4 0]) (.seq (.ops [m 8 0,k 9 8,F 10 2 22 9,F 11 1 16 10,m 5 11]) (.seq (.seq (.ops [f 12 0 1 3,l 13 1 12]) (.block 0 (.seq (.seq (.ops [b 41 .eql 13 18,
 m 40 41]) (.cond (t 40) .skip (.seq (.ops [b 42 .eql 13 19,m 40 42]) (.cond (t 40) .skip (.seq (.ops [b 43 .eql 13 20,m 40 43]) (.cond (t 40) .skip (.seq (.ops [b 44 .eql 13 21,
 m 40 44]) (.cond (t 40) .skip (.ops [b 45 .eql 13 22,m 40 45]))))))))) (.cond (t 40) (.seq (.ops [m 46 0,L 47 4 3,
 c2 48 93 46 47]) (.seq (.ops [i 4 0]) .ret)) (.seq (.ops [b 50 .eql 13 1,m 49 50]) (.cond (t 49) (.ops [m 51 5,f 52 1 1 3,l 53 1 52,f 54 3 1 3,l 55 1 54,q 56 (.conv .u32 (t 55)),
 k 57 51,q 58 (.aidx 16 false 1 (t 57) (t 53)),s 1 58 56]) (.seq (.ops [b 60 .eql 13 2,m 59 60]) (.cond (t 59) (.ops [m 61 5,f 62 1 1 3,l 63 1 62,m 64 5,f 65 1 1 3,l 66 1 65,
 k 67 64,q 68 (.aidx 16 false 1 (t 67) (t 66)),l 69 1 68,q 70 (.bin .and (t 69) (.const (.int .u32 65535))),f 71 3 1 3,l 72 1 71,q 73 (.conv .u32 (t 72)),
 q 74 (.bin .shl (t 73) (.const (.int .u64 16))),B 75 .or 70 74,k 76 61,q 77 (.aidx 16 false 1 (t 76) (t 63)),s 1 77 75]) (.seq (.ops [b 79 .eql 13 3,
 m 78 79]) (.cond (t 78) (.ops [m 80 5,f 81 1 1 3,l 82 1 81,m 83 5,f 84 2 1 3,l 85 1 84,k 86 83,q 87 (.aidx 16 false 1 (t 86) (t 85)),l 88 1 87,k 89 80,
 q 90 (.aidx 16 false 1 (t 89) (t 82)),s 1 90 88]) (.seq (.seq (.ops [b 92 .eql 13 16,m 91 92]) (.cond (t 91) .skip (.seq (.ops [b 93 .eql 13 17,
 m 91 93]) (.cond (t 91) .skip (.ops [b 94 .eql 13 27,m 91 94]))))) (.cond (t 91) (.seq (.ops [m 95 0,L 96 4 3,c2 97 94 95 96,
 q 98 (.un .not (t 97))]) (.cond (t 98) (.seq (.ops [i 4 8]) .ret) .skip)) (.seq (.ops [b 100 .eql 13 23,m 99 100]) (.cond (t 99) (.ops [m 101 0,f 102 1 1 3,l 103 1 102,
 c2 104 95 101 103]) (.seq (.ops [b 106 .eql 13 24,m 105 106]) (.cond (t 105) (.seq (.seq (.ops [m 107 0,k 108 107,F 109 2 22 108,f 110 19 1 109,l 111 1 110,q 112 (.lens (t 111)),
 m 113 0,k 114 113,f 115 25 1 114,l 116 1 115,n 117 116,B 118 .add 112 117,b 119 .geq 118 65536]) (.cond (t 119) (.seq (.ops [i 4 4]) .ret) .skip)) (.par false (O [m 120 0,m 121 0,
 k 122 121,f 123 25 1 122,l 124 1 123,m 125 5,f 126 1 1 3,l 127 1 126,k 128 125,q 129 (.aidx 16 false 1 (t 128) (t 127)),l 130 1 129,q 131 (.conv .u8 (t 130)),
 q 132 (.bsl 5 1 1 [.int .u8 0] [(0,1,t 131)]),q 133 (.app 5 1 1 (t 124) (t 132)),k 134 120,f 135 25 1 134,s 1 135 133] .done))) (.seq (.ops [b 137 .eql 13 25,
 m 136 137]) (.cond (t 136) (.seq (.ops [m 138 5,f 139 1 1 3,l 140 1 139,k 141 138,q 142 (.aidx 16 false 1 (t 141) (t 140)),l 143 1 142,f 144 3 1 3,l 145 1 144,
 q 146 (.conv .u32 (t 145)),B 147 .geq 143 146]) (.cond (t 147) (.seq (.ops [i 4 3]) .ret) .skip)) (.seq (.ops [b 149 .eql 13 26,
 m 148 149]) (.cond (t 148) (.seq (.ops [i 4 1]) .ret) (.seq (.par false (O [f 15 0 1 3,l 16 1 15,m 17 5,f 18 2 1 3,l 19 1 18,k 20 17,q 21 (.aidx 16 false 1 (t 20) (t 19)),
 l 22 1 21,m 23 5,f 24 3 1 3,l 25 1 24,k 26 23,q 27 (.aidx 16 false 1 (t 26) (t 25)),l 28 1 27,c3 29 50 16 22 28,m 14 29,e 30 14 0,e 31 14 1,m 6 30,
 m 7 31] .done)) (.seq (.seq (.ops [m 32 7,b 33 .neq 32 0]) (.cond (t 33) (.seq (.ops [i 4 2]) .ret) .skip)) (.ops [m 34 5,f 35 1 1 3,l 36 1 35,m 37 6,k 38 34,
 q 39 (.aidx 16 false 1 (t 38) (t 36)),s 1 39 37]))))))))))))))))))))))) (.seq (.ops [m 150 0,k 151 150,F 152 2 22 151,f 153 0 1 152,l 154 1 153,b 155 .add 154 1,k 156 150,
 F 157 2 22 156,f 158 0 1 157,s 1 158 155]) (.seq (.ops [i 4 0]) .ret)))))
theorem a8O : a0z Tryz.prog 87 = some (159, a0v, [.tmp 4]) := by kernel_rfl
def a5W:VC:=(.seq (.ops [q 2 (.alc 121 [zi,zi,zi,zi]),i 3 0]) (.seq (.ops [m 5 0,q 6 (.bin .quo (t 5) (.const (.int .u32 16777216))),q 7 (.conv .i64 (t 6)),m 8 0,
 q 9 (.bin .quo (t 8) (.const (.int .u32 1048576))),q 10 (.bin .rem (t 9) (.const (.int .u32 16))),q 11 (.conv .i64 (t 10)),m 12 0,
 q 13 (.bin .quo (t 12) (.const (.int .u32 65536))),q 14 (.bin .rem (t 13) (.const (.int .u32 16))),q 15 (.conv .i64 (t 14)),m 16 0,
 q 17 (.bin .rem (t 16) (.const (.int .u32 65536))),q 18 (.conv .i64 (t 17)),q 19 (.bld [zi,zi,zi,zi] [(0,1,t 7),(1,1,t 11),(2,1,t 15),(3,1,t 18)]),q 4 (.alc 121 [zi,zi,zi,zi]),
 S 4 4 19]) (.seq (.seq (.ops [L 20 4 4,c1 21 96 20,q 22 (.un .not (t 21))]) (.cond (t 22) (.seq (.ops [q 23 (.bld [zi,zi,zi,zi] []),S 4 2 23,
 i 3 7]) .ret) .skip)) (.seq (.ops [L 24 4 4,S 4 2 24,i 3 0]) .ret))))
theorem b1W : a0z Tryz.prog 88 = some (25, a5W, [(.cell 2 true 4), (.tmp 3)]) := by kernel_rfl
def a4U:VC:=(.seq (.ops [m 6 0,m 7 1,m 8 2,k 9 6,F 10 0 22 9,F 11 1 16 10,q 12 (.aidx 16 false 1 (t 11) (t 7)),s 1 12 8]) (.ops [m 13 0,k 14 13,F 15 0 22 14,f 16 0 1 15,l 17 1 16,
 b 18 .add 17 1,k 19 13,F 20 0 22 19,f 21 0 1 20,s 1 21 18]))
theorem a9v : a0z Tryz.prog 89 = some (22, a4U, []) := by kernel_rfl
def a4k:VC:=(.seq (.ops [q 6 (.mv (.const (.int .u32 0))),o 7 false]) (.seq (.ops [m 9 1,m 10 2,q 11 (.conv .u32 (t 10)),B 12 .add 9 11,m 8 12]) (.seq (.seq (.ops [m 13 8,
 q 14 (.conv .u64 (t 13)),m 15 0,n 16 15,q 17 (.conv .u64 (t 16)),B 18 .geq 14 17]) (.cond (t 18) (.seq (.ops [q 6 (.mv (.const (.int .u32 0))),
 o 7 false]) .ret) .skip)) (.seq (.ops [m 19 0,m 20 8,x 21 1 19 20,l 22 1 21,m 6 22,o 7 true]) .ret))))
theorem b2T : a0z Tryz.prog 90 = some (23, a4k, [.tmp 6,.tmp 7]) := by kernel_rfl
def a2v:VC:=(.seq (.ops [m 6 1]) (.cond (t 6) (.ops [m 7 0,m 8 2,k 9 7,F 10 0 22 9,f 11 0 1 10,s 1 11 8]) (.ops [m 12 0,k 13 12,F 14 0 22 13,f 15 0 1 14,l 16 1 15,b 17 .add 16 1,k 18 12,
 F 19 0 22 18,f 20 0 1 19,s 1 20 17])))
theorem a8P : a0z Tryz.prog 91 = some (21, a2v, []) := by kernel_rfl
def a0Q:VC:=(.seq (.ops [q 6 (.mv (.const (.int .u32 0))),i 7 0]) (.seq (.ops [m 10 1,q 11 (.conv .u64 (t 10)),m 12 2,q 13 (.conv .u64 (t 12)),m 8 11,
 m 9 13]) (.seq (.seq (.ops [m 14 0]) (.block 0 (.seq (.ops [b 16 .eql 14 4,m 15 16]) (.cond (t 15) (.seq (.ops [m 17 8,m 18 9,B 19 .add 17 18,
 q 20 (.bin .rem (t 19) (.const (.int .u64 4294967296))),q 21 (.conv .u32 (t 20)),m 6 21,i 7 0]) .ret) (.seq (.ops [b 23 .eql 14 5,m 22 23]) (.cond (t 22) (.seq (.ops [m 24 8,
 q 25 (.bin .add (t 24) (.const (.int .u64 4294967296))),m 26 9,B 27 .sub 25 26,q 28 (.bin .rem (t 27) (.const (.int .u64 4294967296))),q 29 (.conv .u32 (t 28)),m 6 29,
 i 7 0]) .ret) (.seq (.ops [b 31 .eql 14 6,m 30 31]) (.cond (t 30) (.seq (.ops [m 32 8,m 33 9,B 34 .mul 32 33,q 35 (.bin .rem (t 34) (.const (.int .u64 4294967296))),
 q 36 (.conv .u32 (t 35)),m 6 36,i 7 0]) .ret) (.seq (.ops [b 38 .eql 14 7,m 37 38]) (.cond (t 37) (.seq (.seq (.ops [m 39 2,
 q 40 (.bin .eql (t 39) (.const (.int .u32 0)))]) (.cond (t 40) (.seq (.ops [q 6 (.mv (.const (.int .u32 0))),i 7 14]) .ret) .skip)) (.seq (.ops [m 41 8,m 42 9,B 43 .quo 41 42,
 q 44 (.conv .u32 (t 43)),m 6 44,i 7 0]) .ret)) (.seq (.ops [b 46 .eql 14 8,m 45 46]) (.cond (t 45) (.seq (.seq (.ops [m 47 2,
 q 48 (.bin .eql (t 47) (.const (.int .u32 0)))]) (.cond (t 48) (.seq (.ops [q 6 (.mv (.const (.int .u32 0))),i 7 14]) .ret) .skip)) (.seq (.ops [m 49 8,m 50 9,B 51 .rem 49 50,
 q 52 (.conv .u32 (t 51)),m 6 52,i 7 0]) .ret)) (.seq (.seq (.ops [b 54 .eql 14 9,m 53 54]) (.cond (t 53) .skip (.seq (.ops [b 55 .eql 14 10,
 m 53 55]) (.cond (t 53) .skip (.ops [b 56 .eql 14 11,m 53 56]))))) (.cond (t 53) (.seq (.ops [m 57 0,m 58 1,m 59 2,c3 60 97 57 58 59,m 6 60,
 i 7 0]) .ret) (.seq (.seq (.ops [b 62 .eql 14 12,m 61 62]) (.cond (t 61) .skip (.ops [b 63 .eql 14 13,m 61 63]))) (.cond (t 61) (.seq (.ops [m 64 0,m 65 1,m 66 2,c3 67 98 64 65 66,
 m 6 67,i 7 0]) .ret) (.seq (.ops [b 69 .eql 14 14,m 68 69]) (.cond (t 68) (.seq (.ops [m 70 1,m 71 2,B 72 .lss 70 71,c1 73 99 72,m 6 73,i 7 0]) .ret) (.seq (.ops [b 75 .eql 14 15,
 m 74 75]) (.cond (t 74) (.seq (.ops [m 76 1,m 77 2,B 78 .eql 76 77,c1 79 99 78,m 6 79,i 7 0]) .ret) .skip)))))))))))))))))))) (.seq (.ops [q 6 (.mv (.const (.int .u32 0))),
 i 7 1]) .ret))))
theorem b2U : a0z Tryz.prog 92 = some (80, a0Q, [.tmp 6,.tmp 7]) := by kernel_rfl
def a0G:VC:=(.seq (.ops [X 3 121 1]) (.seq (.ops [m 6 0,k 7 6,F 8 2 22 7,F 9 1 16 8,m 4 9]) (.seq (.ops [m 10 0,k 11 10,F 12 2 22 11,f 13 0 1 12,l 14 1 13,b 15 .add 14 1,
 m 5 15]) (.seq (.seq (.ops [f 16 0 1 3,
 l 17 1 16]) (.block 0 (.seq (.block 5 (.seq (.block 4 (.seq (.block 3 (.seq (.block 2 (.seq (.block 1 (.seq (.seq (.seq (.ops [b 19 .eql 17 19,
 m 18 19]) (.cond (t 18) (.exit 1) .skip)) (.seq (.seq (.ops [b 21 .eql 17 20,m 20 21]) (.cond (t 20) (.exit 2) .skip)) (.seq (.seq (.ops [b 23 .eql 17 21,
 m 22 23]) (.cond (t 22) (.exit 3) .skip)) (.seq (.seq (.ops [b 25 .eql 17 18,m 24 25]) (.cond (t 24) (.exit 4) .skip)) (.seq (.ops [b 27 .eql 17 22,
 m 26 27]) (.cond (t 26) (.exit 5) .skip)))))) (.exit 0))) (.seq (.seq (.ops [m 28 4,f 29 1 1 3,l 30 1 29,k 31 28,q 32 (.aidx 16 false 1 (t 31) (t 30)),l 33 1 32,
 q 34 (.bin .eql (t 33) (.const (.int .u32 0)))]) (.cond (t 34) (.ops [f 35 3 1 3,l 36 1 35,m 5 36]) .skip)) (.exit 0)))) (.seq (.seq (.ops [m 37 4,f 38 1 1 3,l 39 1 38,k 40 37,
 q 41 (.aidx 16 false 1 (t 40) (t 39)),l 42 1 41,q 43 (.bin .neq (t 42) (.const (.int .u32 0)))]) (.cond (t 43) (.ops [f 44 3 1 3,l 45 1 44,
 m 5 45]) .skip)) (.exit 0)))) (.ops [m 46 4,f 47 1 1 3,l 48 1 47,m 49 5,q 50 (.conv .u32 (t 49)),k 51 46,q 52 (.aidx 16 false 1 (t 51) (t 48)),
 s 1 52 50]))) (.seq (.ops [f 53 3 1 3,l 54 1 53,m 5 54]) (.exit 0)))) (.seq (.ops [m 55 4,f 56 1 1 3,l 57 1 56,k 58 55,q 59 (.aidx 16 false 1 (t 58) (t 57)),l 60 1 59,
 q 61 (.conv .i64 (t 60)),m 5 61]) (.exit 0))))) (.ops [m 62 0,m 63 5,k 64 62,F 65 2 22 64,f 66 0 1 65,s 1 66 63])))))
theorem a7z : a0z Tryz.prog 93 = some (67, a0G, []) := by kernel_rfl
def a0y:VC:=(.seq (.ops [X 3 121 1,o 4 false]) (.seq (.ops [m 6 0,f 7 2 1 3,l 8 1 7,k 9 6,F 10 2 22 9,F 11 1 16 10,q 12 (.aidx 16 false 1 (t 11) (t 8)),l 13 1 12,f 14 3 1 3,l 15 1 14,
 q 16 (.conv .u32 (t 15)),B 17 .add 13 16,q 18 (.conv .i64 (t 17)),m 5 18]) (.seq (.seq (.ops [f 19 0 1 3,l 20 1 19,b 21 .eql 20 27]) (.cond (t 21) (.seq (.seq (.ops [m 22 5,m 23 0,
 k 24 23,f 25 0 1 24,l 26 1 25,n 27 26,B 28 .geq 22 27]) (.cond (t 28) (.seq (.ops [o 4 false]) .ret) .skip)) (.seq (.ops [m 29 0,f 30 1 1 3,l 31 1 30,m 32 0,k 33 32,f 34 0 1 33,
 l 35 1 34,m 36 5,x 37 1 35 36,l 38 1 37,k 39 29,F 40 2 22 39,F 41 1 16 40,q 42 (.aidx 16 false 1 (t 41) (t 31)),
 s 1 42 38]) (.seq (.ops [o 4 true]) .ret))) .skip)) (.seq (.seq (.ops [m 43 5,m 44 0,k 45 44,F 46 2 22 45,f 47 17 1 46,l 48 1 47,n 49 48,
 B 50 .geq 43 49]) (.cond (t 50) (.seq (.ops [o 4 false]) .ret) .skip)) (.seq (.seq (.ops [f 51 0 1 3,l 52 1 51,b 53 .eql 52 16]) (.cond (t 53) (.seq (.ops [m 54 0,f 55 1 1 3,
 l 56 1 55,m 57 0,k 58 57,F 59 2 22 58,f 60 17 1 59,l 61 1 60,m 62 5,x 63 1 61 62,l 64 1 63,k 65 54,F 66 2 22 65,F 67 1 16 66,q 68 (.aidx 16 false 1 (t 67) (t 56)),
 s 1 68 64]) (.seq (.ops [o 4 true]) .ret)) .skip)) (.seq (.seq (.ops [m 69 0,k 70 69,f 71 24 1 70,l 72 1 71,q 73 (.un .not (t 72))]) (.cond (t 73) (.seq (.ops [m 74 0,m 75 0,
 k 76 75,F 77 2 22 76,f 78 17 1 77,l 79 1 78,c1 80 100 79,k 81 74,F 82 2 22 81,f 83 17 1 82,s 1 83 80]) (.ops [m 84 0,k 85 84,f 86 24 1 85,⟨none,none,
 .sto false 1 (t 86) (.const (.bool true))⟩])) .skip)) (.seq (.ops [m 87 0,k 88 87,F 89 2 22 88,f 90 17 1 89,l 91 1 90,m 92 5,m 93 0,f 94 1 1 3,l 95 1 94,k 96 93,F 97 2 22 96,
 F 98 1 16 97,q 99 (.aidx 16 false 1 (t 98) (t 95)),l 100 1 99,x 101 1 91 92,s 1 101 100]) (.seq (.ops [o 4 true]) .ret))))))))
theorem a7A : a0z Tryz.prog 94 = some (102, a0y, [.tmp 4]) := by kernel_rfl
def a1H:VC:=(.seq (.seq (.ops [m 4 0,k 5 4,F 6 2 22 5,f 7 18 1 6,l 8 1 7,b 9 .lss 8 0,m 10 9,Q 11 10 false (.mv (t 0)),Q 12 10 false (.nck (t 11)),Q 13 10 false (.fad 2 true 22 (t 12)),
 Q 14 10 false (.fad 18 false 1 (t 13)),Q 15 10 false (.ld false 1 (t 14)),Q 16 10 false (.mv (t 0)),Q 17 10 false (.nck (t 16)),Q 18 10 false (.fad 1 false 1 (t 17)),
 Q 19 10 false (.ld false 1 (t 18)),Q 20 10 false (.lens (t 19)),Q 21 10 false (.bin .geq (t 15) (t 20)),
 q 22 (.pick (t 10) (.const (.bool true)) (t 21))]) (.cond (t 22) (.seq (.ops [m 23 0,m 24 1,k 25 23,F 26 2 22 25,F 27 1 16 26,q 28 (.aidx 16 false 1 (t 27) (t 24)),⟨none,none,
 .sto false 1 (t 28) (.const (.int .u32 256))⟩]) .ret) .skip)) (.seq (.ops [m 29 0,m 30 1,m 31 0,k 32 31,f 33 1 1 32,l 34 1 33,m 35 0,k 36 35,F 37 2 22 36,f 38 18 1 37,l 39 1 38,
 q 40 (.pur .six [t 34,t 39]),q 41 (.conv .u32 (t 40)),k 42 29,F 43 2 22 42,F 44 1 16 43,q 45 (.aidx 16 false 1 (t 44) (t 30)),s 1 45 41]) (.ops [m 46 0,k 47 46,F 48 2 22 47,
 f 49 18 1 48,l 50 1 49,b 51 .add 50 1,k 52 46,F 53 2 22 52,f 54 18 1 53,s 1 54 51])))
theorem a8c : a0z Tryz.prog 95 = some (55, a1H, []) := by kernel_rfl
def a7B:VC:=(.seq (.ops [X 1 121 0,o 2 false]) (.seq (.ops [f 5 0 1 1,l 6 1 5,c1 7 101 6,m 3 7]) (.seq (.ops [i 4 65535]) (.seq (.seq (.ops [m 8 3,q 9 (.call (.func 102) [t 8,
 (.const (.int .u8 114))])]) (.cond (t 9) (.ops [i 4 15]) .skip)) (.seq (.par false (O [m 10 3,q 11 (.bin .neq (t 10) (.const (.string ⟨#[63]⟩))),m 12 11,Q 13 12 true (.mv (t 3)),
 Q 14 12 true (.call (.func 102) [t 13,(.const (.int .u8 97))]),Q 15 12 true (.fad 1 false 1 (t 1)),Q 16 12 true (.ld false 1 (t 15)),Q 17 12 true (.call (.func 103) [t 14,t 16,
 (.const (.int .i64 15))]),q 18 (.pick (t 12) (t 17) (.const (.bool false))),m 19 18,Q 20 19 true (.mv (t 3)),Q 21 19 true (.call (.func 102) [t 20,(.const (.int .u8 98))]),
 Q 22 19 true (.fad 2 false 1 (t 1)),Q 23 19 true (.ld false 1 (t 22)),Q 24 19 true (.call (.func 103) [t 21,t 23,(.const (.int .i64 15))]),
 q 25 (.pick (t 19) (t 24) (.const (.bool false))),m 26 25,Q 27 26 true (.mv (t 3)),Q 28 26 true (.call (.func 102) [t 27,(.const (.int .u8 99))]),Q 29 26 true (.mv (t 28)),
 Q 30 29 false (.mv (t 3)),Q 31 29 false (.call (.func 102) [t 30,(.const (.int .u8 114))]),Q 32 26 true (.pick (t 29) (.const (.bool true)) (t 31)),
 Q 33 26 true (.fad 3 false 1 (t 1)),Q 34 26 true (.ld false 1 (t 33)),Q 35 26 true (.mv (t 4)),Q 36 26 true (.call (.func 103) [t 32,t 34,t 35]),
 q 37 (.pick (t 26) (t 36) (.const (.bool false))),m 2 37] .done)) .ret)))))
theorem b2V : a0z Tryz.prog 96 = some (38, a7B, [.tmp 2]) := by kernel_rfl
def a8p:VC:=(.seq (.ops [q 6 (.mv (.const (.int .u32 0)))]) (.seq (.ops [m 11 1,c1 12 104 11,m 13 2,c1 14 104 13,m 7 12,
 m 8 14]) (.seq (.seq (.ops [i 9 0]) (.block 0 (.loop (.seq (.seq (.ops [m 15 9,b 16 .lss 15 32]) (.cond (t 16) .skip (.exit 0))) (.seq (.block 1 (.seq (.ops [m 19 7,m 20 9,
 x 21 1 19 20,l 22 1 21,m 23 8,m 24 9,x 25 1 23 24,l 26 1 25,B 27 .add 22 26,m 10 27]) (.seq (.ops [m 28 7,m 29 9,x 30 1 28 29,⟨none,none,
 .sto false 1 (t 30) (.const zi)⟩]) (.seq (.ops [m 31 10,b 32 .eql 31 2,m 33 32,Q 34 33 true (.mv (t 0)),Q 35 33 true (.bin .neq (t 34) (.const (.int .i64 11))),
 q 36 (.pick (t 33) (t 35) (.const (.bool false))),m 37 36,Q 38 37 false (.mv (t 10)),Q 39 37 false (.bin .eql (t 38) (.const (.int .i64 1))),Q 40 37 false (.mv (t 39)),
 Q 41 40 true (.mv (t 0)),Q 42 40 true (.bin .neq (t 41) (.const (.int .i64 9))),Q 43 37 false (.pick (t 40) (t 42) (.const (.bool false))),
 q 44 (.pick (t 37) (.const (.bool true)) (t 43))]) (.cond (t 44) (.ops [m 45 7,m 46 9,x 47 1 45 46,⟨none,none,
 .sto false 1 (t 47) (.const (.int .i64 1))⟩]) .skip))))) (.ops [m 17 9,b 18 .add 17 1,m 9 18])))))) (.seq (.ops [m 48 7,c1 49 105 48,m 6 49]) .ret))))
theorem b3M : a0z Tryz.prog 97 = some (50, a8p, [.tmp 6]) := by kernel_rfl
def a4l:VC:=(.seq (.ops [q 6 (.mv (.const (.int .u32 0)))]) (.seq (.seq (.ops [m 9 2,
 q 10 (.bin .geq (t 9) (.const (.int .u32 32)))]) (.cond (t 10) (.seq (.ops [q 6 (.mv (.const (.int .u32 0)))]) .ret) .skip)) (.seq (.ops [m 11 1,q 12 (.conv .u64 (t 11)),
 m 7 12]) (.seq (.seq (.ops [q 8 (.mv (.const (.int .u32 0)))]) (.block 0 (.loop (.seq (.seq (.ops [m 13 8,m 14 2,
 B 15 .lss 13 14]) (.cond (t 15) .skip (.exit 0))) (.seq (.block 1 (.seq (.ops [m 18 0,b 19 .eql 18 12]) (.cond (t 19) (.ops [m 20 7,q 21 (.bin .mul (.const (.int .u64 2)) (t 20)),
 q 22 (.bin .rem (t 21) (.const (.int .u64 4294967296))),m 7 22]) (.ops [m 23 7,q 24 (.bin .quo (t 23) (.const (.int .u64 2))),m 7 24])))) (.ops [m 16 8,
 q 17 (.bin .add (t 16) (.const (.int .u32 1))),m 8 17])))))) (.seq (.ops [m 25 7,q 26 (.conv .u32 (t 25)),m 6 26]) .ret)))))
theorem b2W : a0z Tryz.prog 98 = some (27, a4l, [.tmp 6]) := by kernel_rfl
def a8q:VC:=
 (.seq (.ops [q 2 (.mv (.const (.int .u32 0)))]) (.seq (.seq (.ops [m 3 0]) (.cond (t 3) (.seq (.ops [q 2 (.mv (.const (.int .u32 1)))]) .ret) .skip)) (.seq (.ops [q 2 (.mv (.const (.int .u32 0)))]) .ret)))
theorem b3N : a0z Tryz.prog 99 = some (4, a8q, [.tmp 2]) := by kernel_rfl
def a1S:VC:=(.seq (.ops [q 2 (.mv (.const zs))]) (.seq (.seq (.ops [m 3 0,
 q 4 (.eff (.nilr false) [t 3])]) (.cond (t 4) (.seq (.ops [q 2 (.mv (.const zs))]) .ret) .skip)) (.seq (.ops [q 5 (.bsl 93 1 0 [] []),m 6 0,q 7 (.app 93 1 4 (t 5) (t 6)),
 m 2 7]) .ret)))
theorem a3V : a0z Tryz.prog 100 = some (8, a1S, [.tmp 2]) := by kernel_rfl
def a2S:VC:=(.seq (.ops [q 2 (.mv (.const (.string ⟨#[]⟩)))]) (.seq (.seq (.ops [m 3 0]) (.block 0 (.seq (.seq (.ops [b 5 .eql 3 1,m 4 5]) (.cond (t 4) .skip (.seq (.ops [b 6 .eql 3 2,
 m 4 6]) (.cond (t 4) .skip (.seq (.ops [b 7 .eql 3 19,m 4 7]) (.cond (t 4) .skip (.seq (.ops [b 8 .eql 3 20,m 4 8]) (.cond (t 4) .skip (.seq (.ops [b 9 .eql 3 21,
 m 4 9]) (.cond (t 4) .skip (.ops [b 10 .eql 3 25,m 4 10]))))))))))) (.cond (t 4) (.seq (.ops [q 2 (.mv (.const (.string ⟨#[97,99]⟩)))]) .ret) (.seq (.ops [b 12 .eql 3 3,
 m 11 12]) (.cond (t 11) (.seq (.ops [q 2 (.mv (.const (.string ⟨#[97,98]⟩)))]) .ret) (.seq (.seq (.ops [b 14 .eql 3 16,m 13 14]) (.cond (t 13) .skip (.seq (.ops [b 15 .eql 3 17,
 m 13 15]) (.cond (t 13) .skip (.ops [b 16 .eql 3 27,m 13 16]))))) (.cond (t 13) (.seq (.ops [q 2 (.mv (.const (.string ⟨#[97,98,99]⟩)))]) .ret) (.seq (.ops [b 18 .eql 3 18,
 m 17 18]) (.cond (t 17) (.seq (.ops [q 2 (.mv (.const (.string ⟨#[99]⟩)))]) .ret) (.seq (.seq (.ops [b 20 .eql 3 22,m 19 20]) (.cond (t 19) .skip (.seq (.ops [b 21 .eql 3 23,
 m 19 21]) (.cond (t 19) .skip (.ops [b 22 .eql 3 24,m 19 22]))))) (.cond (t 19) (.seq (.ops [q 2 (.mv (.const (.string ⟨#[97]⟩)))]) .ret) (.seq (.ops [b 24 .eql 3 26,
 m 23 24]) (.cond (t 23) (.seq (.ops [q 2 (.mv (.const (.string ⟨#[]⟩)))]) .ret) .skip)))))))))))))) (.seq (.seq (.ops [m 25 0,b 26 .geq 25 4,m 27 26,Q 28 27 true (.mv (t 0)),
 Q 29 27 true (.bin .leq (t 28) (.const (.int .i64 15))),q 30 (.pick (t 27) (t 29) (.const (.bool false)))]) (.cond (t 30) (.seq (.ops [q 2 (.mv (.const (.string ⟨#[97,98,
 114]⟩)))]) .ret) .skip)) (.seq (.ops [q 2 (.mv (.const (.string ⟨#[63]⟩)))]) .ret))))
theorem b2X : a0z Tryz.prog 101 = some (31, a2S, [.tmp 2]) := by kernel_rfl
def a9w:VC:=(.seq (.ops [o 4 false]) (.seq (.seq (.ops [i 5 0]) (.block 0 (.loop (.seq (.seq (.ops [m 6 5,m 7 0,q 8 (.lens (t 7)),
 B 9 .lss 6 8]) (.cond (t 9) .skip (.exit 0))) (.seq (.block 1 (.seq (.ops [m 12 0,m 13 5,q 14 (.pur .six [t 12,t 13]),m 15 1,
 B 16 .eql 14 15]) (.cond (t 16) (.seq (.ops [o 4 true]) .ret) .skip))) (.ops [m 10 5,b 11 .add 10 1,m 5 11])))))) (.seq (.ops [o 4 false]) .ret)))
theorem b5c : a0z Tryz.prog 102 = some (17, a9w, [.tmp 4]) := by kernel_rfl
def a2s:VC:=(.seq (.ops [o 6 false]) (.seq (.seq (.ops [m 7 0,q 8 (.un .not (t 7))]) (.cond (t 8) (.seq (.ops [m 9 1,b 10 .eql 9 0,m 6 10]) .ret) .skip)) (.seq (.ops [m 11 1,b 12 .geq 11 0,
 m 13 12,Q 14 13 true (.mv (t 1)),Q 15 13 true (.mv (t 2)),Q 16 13 true (.bin .leq (t 14) (t 15)),q 17 (.pick (t 13) (t 16) (.const (.bool false))),m 6 17]) .ret)))
theorem b1X : a0z Tryz.prog 103 = some (18, a2s, [.tmp 6]) := by kernel_rfl
def a8r:VC:=(.seq (.ops [q 2 (.mv (.const zs))]) (.seq (.ops [q 3 (.mv (.const zs))]) (.seq (.seq (.ops [i 4 0]) (.block 0 (.loop (.seq (.seq (.ops [m 5 4,
 b 6 .lss 5 32]) (.cond (t 6) .skip (.exit 0))) (.seq (.block 1 (.seq (.ops [m 9 3,m 10 0,q 11 (.bin .rem (t 10) (.const (.int .u32 2))),q 12 (.conv .i64 (t 11)),
 q 13 (.bsl 3 1 1 [zi] [(0,1,t 12)]),q 14 (.app 3 1 8 (t 9) (t 13)),m 3 14]) (.ops [m 15 0,q 16 (.bin .quo (t 15) (.const (.int .u32 2))),m 0 16]))) (.ops [m 7 4,b 8 .add 7 1,
 m 4 8])))))) (.seq (.ops [m 17 3,m 2 17]) .ret))))
theorem b3O : a0z Tryz.prog 104 = some (18, a8r, [.tmp 2]) := by kernel_rfl
def b1H:VC:=(.seq (.ops [q 2 (.mv (.const (.int .u32 0)))]) (.seq (.ops [q 3 (.mv (.const (.int .u64 0)))]) (.seq (.seq (.ops [m 5 0,n 6 5,b 7 .sub 6 1,
 m 4 7]) (.block 0 (.loop (.seq (.seq (.ops [m 8 4,b 9 .geq 8 0]) (.cond (t 9) .skip (.exit 0))) (.seq (.block 1 (.ops [m 12 3,q 13 (.bin .mul (.const (.int .u64 2)) (t 12)),m 14 0,
 m 15 4,x 16 1 14 15,l 17 1 16,q 18 (.conv .u64 (t 17)),B 19 .add 13 18,m 3 19])) (.ops [m 10 4,b 11 .sub 10 1,m 4 11])))))) (.seq (.ops [m 20 3,
 q 21 (.bin .rem (t 20) (.const (.int .u64 4294967296))),q 22 (.conv .u32 (t 21)),m 2 22]) .ret))))
theorem b6J : a0z Tryz.prog 105 = some (23, b1H, [.tmp 2]) := by kernel_rfl
theorem a1g : Tryz.prog.follows .mixedOrders = true := by kernel_rfl
end Go.Proofs.YtkbhfokbhkmfgaaGreat
