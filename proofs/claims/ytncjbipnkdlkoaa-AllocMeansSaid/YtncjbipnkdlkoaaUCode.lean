/-
  The functions of this seat, made small by the program: each is what the engine makes of the function of that number. No condition.
-/
import Derived.Test.YtncjbipnkdlkoaaUS
import Derived.Test.YtncjbipnkdlkoaaRows
import Derived.KernelRfl
set_option linter.unusedVariables false
set_option linter.unusedSimpArgs false
namespace Go.Proofs.Ytncjbipnkdlkoaa
open Go.V
def c_sclaw28_AllocMeans : VC :=
 (.seq
 (.ops [
 ⟨(some 3), none, (.box 44 (.tmp 0))⟩,
 ⟨(some 5), none, (.box 45 (.tmp 2))⟩,
 ⟨(some 6), none, (.mv (.const (.bool false)))⟩])
 (.seq
 (.seq
 (.ops [
 ⟨(some 14), none, (.fad 1 false 1 (.tmp 3))⟩,
 ⟨(some 15), none, (.ld false 1 (.tmp 14))⟩,
 ⟨(some 16), none, (.len (.tmp 15))⟩,
 ⟨(some 17), none, (.bin .gtr (.tmp 16) (.const (.int .i64 6)))⟩,
 ⟨(some 18), none, (.mv (.tmp 17))⟩,
 ⟨(some 19), (some (18, false)), (.fad 0 false 1 (.tmp 3))⟩,
 ⟨(some 20), (some (18, false)), (.ld false 1 (.tmp 19))⟩,
 ⟨(some 21), (some (18, false)), (.bin .gtr (.tmp 20) (.const (.int .i64 100)))⟩,
 ⟨(some 22), none, (.pick (.tmp 18) (.const (.bool true)) (.tmp 21))⟩,
 ⟨(some 23), none, (.mv (.tmp 22))⟩,
 ⟨(some 24), (some (23, false)), (.mv (.tmp 1))⟩,
 ⟨(some 25), (some (23, false)), (.lens (.tmp 24))⟩,
 ⟨(some 26), (some (23, false)), (.bin .gtr (.tmp 25) (.const (.int .i64 60)))⟩,
 ⟨(some 27), none, (.pick (.tmp 23) (.const (.bool true)) (.tmp 26))⟩,
 ⟨(some 28), none, (.mv (.tmp 27))⟩,
 ⟨(some 29), (some (28, false)), (.ld true 2 (.tmp 3))⟩,
 ⟨(some 30), (some (28, false)), (.call (.func 16) [(.tmp 29)])⟩,
 ⟨(some 31), (some (28, false)), (.un .not (.tmp 30))⟩,
 ⟨(some 32), none, (.pick (.tmp 28) (.const (.bool true)) (.tmp 31))⟩])
 (.cond (.tmp 32)
 (.seq
 (.ops [
 ⟨(some 33), none, (.call (.func 9) [])⟩,
 ⟨(some 6), none, (.mv (.tmp 33))⟩])
 .ret)
 .skip))
 (.seq
 (.ops [
 ⟨(some 34), none, (.aidx 2 false 1 (.tmp 5) (.const (.int .i64 0)))⟩,
 ⟨(some 35), none, (.ld false 1 (.tmp 34))⟩,
 ⟨(some 36), none, (.bin .rem (.tmp 35) (.const (.int .u8 9)))⟩,
 ⟨(some 37), none, (.conv .i64 (.tmp 36))⟩,
 ⟨(some 7), none, (.mv (.tmp 37))⟩])
 (.seq
 (.ops [
 ⟨(some 38), none, (.fad 0 false 1 (.tmp 3))⟩,
 ⟨(some 39), none, (.ld false 1 (.tmp 38))⟩,
 ⟨(some 40), none, (.bld [(.int .i64 0), (.slice none 0 0)] [(0, (1, (.tmp 39)))])⟩,
 ⟨(some 8), none, (.alc 44 [(.int .i64 0), (.slice none 0 0)])⟩,
 ⟨none, none, (.sto true 2 (.tmp 8) (.tmp 40))⟩])
 (.seq
 (.seq
 (.ops [
 ⟨(some 9), none, (.mv (.const (.int .i64 0)))⟩])
 (.block 0
 (.loop
 (.seq
 (.seq
 (.ops [
 ⟨(some 41), none, (.mv (.tmp 9))⟩,
 ⟨(some 42), none, (.fad 1 false 1 (.tmp 3))⟩,
 ⟨(some 43), none, (.ld false 1 (.tmp 42))⟩,
 ⟨(some 44), none, (.len (.tmp 43))⟩,
 ⟨(some 45), none, (.bin .lss (.tmp 41) (.tmp 44))⟩])
 (.cond (.tmp 45)
 .skip
 (.exit 0)))
 (.seq
 (.block 1
 (.seq
 (.ops [
 ⟨(some 48), none, (.fad 1 false 1 (.tmp 3))⟩,
 ⟨(some 49), none, (.ld false 1 (.tmp 48))⟩,
 ⟨(some 50), none, (.mv (.tmp 9))⟩,
 ⟨(some 51), none, (.idx 2 (.tmp 49) (.tmp 50))⟩,
 ⟨(some 52), none, (.ld true 2 (.tmp 51))⟩,
 ⟨(some 10), none, (.alc 24 [(.int .i64 0), (.slice none 0 0)])⟩,
 ⟨none, none, (.sto true 2 (.tmp 10) (.tmp 52))⟩])
 (.seq
 (.seq
 (.ops [
 ⟨(some 53), none, (.ld true 2 (.tmp 10))⟩,
 ⟨(some 54), none, (.call (.func 8) [(.tmp 53)])⟩,
 ⟨(some 55), none, (.un .not (.tmp 54))⟩])
 (.cond (.tmp 55)
 (.seq
 (.ops [
 ⟨(some 56), none, (.call (.func 9) [])⟩,
 ⟨(some 6), none, (.mv (.tmp 56))⟩])
 .ret)
 .skip))
 (.seq
 (.ops [
 ⟨(some 57), none, (.ld true 2 (.tmp 10))⟩,
 ⟨(some 58), none, (.call (.func 10) [(.tmp 57)])⟩,
 ⟨(some 11), none, (.alc 29 [(.slice none 0 0), (.slice none 0 0)])⟩,
 ⟨none, none, (.sto true 2 (.tmp 11) (.tmp 58))⟩])
 (.seq
 (.ops [
 ⟨(some 59), none, (.ld true 2 (.tmp 10))⟩,
 ⟨(some 60), none, (.ld true 2 (.tmp 11))⟩,
 ⟨(some 61), none, (.mv (.tmp 7))⟩,
 ⟨(some 62), none, (.call (.func 12) [(.tmp 59), (.tmp 60), (.tmp 61)])⟩,
 ⟨(some 12), none, (.alc 33 [(.slice none 0 0)])⟩,
 ⟨none, none, (.sto true 1 (.tmp 12) (.tmp 62))⟩])
 (.seq
 (.seq
 (.ops [
 ⟨(some 63), none, (.ld true 2 (.tmp 10))⟩,
 ⟨(some 64), none, (.ld true 2 (.tmp 11))⟩,
 ⟨(some 65), none, (.ld true 1 (.tmp 12))⟩,
 ⟨(some 66), none, (.mv (.tmp 7))⟩,
 ⟨(some 67), none, (.call (.func 14) [(.tmp 63), (.tmp 64), (.tmp 65), (.tmp 66)])⟩,
 ⟨(some 68), none, (.un .not (.tmp 67))⟩,
 ⟨(some 69), none, (.mv (.tmp 68))⟩,
 ⟨(some 70), (some (69, false)), (.fad 0 false 1 (.tmp 12))⟩,
 ⟨(some 71), (some (69, false)), (.ld false 1 (.tmp 70))⟩,
 ⟨(some 72), (some (69, false)), (.len (.tmp 71))⟩,
 ⟨(some 73), (some (69, false)), (.fad 0 false 1 (.tmp 10))⟩,
 ⟨(some 74), (some (69, false)), (.ld false 1 (.tmp 73))⟩,
 ⟨(some 75), (some (69, false)), (.bin .neq (.tmp 72) (.tmp 74))⟩,
 ⟨(some 76), none, (.pick (.tmp 69) (.const (.bool true)) (.tmp 75))⟩])
 (.cond (.tmp 76)
 (.seq
 (.ops [
 ⟨(some 6), none, (.mv (.const (.bool false)))⟩])
 .ret)
 .skip))
 (.seq
 (.seq
 (.ops [
 ⟨(some 77), none, (.ld true 1 (.tmp 12))⟩,
 ⟨(some 78), none, (.call (.func 17) [(.tmp 77)])⟩,
 ⟨(some 79), none, (.bin .gtr (.tmp 78) (.const (.int .i64 3000)))⟩])
 (.cond (.tmp 79)
 (.seq
 (.ops [
 ⟨(some 80), none, (.call (.func 9) [])⟩,
 ⟨(some 6), none, (.mv (.tmp 80))⟩])
 .ret)
 .skip))
 (.par false (.one ⟨(some 81), none, (.fad 1 false 1 (.tmp 8))⟩ (.one ⟨(some 82), none, (.ld false 1 (.tmp 81))⟩ (.one ⟨(some 83), none, (.ld true 2 (.tmp 10))⟩ (.one ⟨(some 84), none, (.ld true 1 (.tmp 12))⟩ (.one ⟨(some 85), none, (.mv (.tmp 7))⟩ (.one ⟨(some 86), none, (.call (.func 18) [(.tmp 83), (.tmp 84), (.tmp 85)])⟩ (.one ⟨(some 87), none, (.bsl 24 2 1 [(.int .i64 0), (.slice none 0 0)] [(0, (2, (.tmp 86)))])⟩ (.one ⟨(some 88), none, (.app 24 2 32 (.tmp 82) (.tmp 87))⟩ (.one ⟨(some 89), none, (.fad 1 false 1 (.tmp 8))⟩ (.one ⟨none, none, (.sto false 1 (.tmp 89) (.tmp 88))⟩ .done))))))))))))))))))
 (.ops [
 ⟨(some 46), none, (.mv (.tmp 9))⟩,
 ⟨(some 47), none, (.bin .add (.tmp 46) (.const (.int .i64 1)))⟩,
 ⟨(some 9), none, (.mv (.tmp 47))⟩]))))))
 (.seq
 (.ops [
 ⟨(some 90), none, (.aidx 2 false 1 (.tmp 5) (.const (.int .i64 1)))⟩,
 ⟨(some 91), none, (.ld false 1 (.tmp 90))⟩,
 ⟨(some 92), none, (.conv .i64 (.tmp 91))⟩,
 ⟨(some 13), none, (.mv (.tmp 92))⟩])
 (.seq
 (.par false (.one ⟨(some 93), none, (.call (.func 9) [])⟩ (.one ⟨(some 94), none, (.mv (.tmp 93))⟩ (.one ⟨(some 95), (some (94, true)), (.ld true 2 (.tmp 8))⟩ (.one ⟨(some 96), (some (94, true)), (.call (.func 16) [(.tmp 95)])⟩ (.one ⟨(some 97), none, (.pick (.tmp 94) (.tmp 96) (.const (.bool false)))⟩ (.one ⟨(some 98), none, (.mv (.tmp 97))⟩ (.one ⟨(some 99), (some (98, true)), (.ld true 2 (.tmp 3))⟩ (.one ⟨(some 100), (some (98, true)), (.mv (.tmp 1))⟩ (.one ⟨(some 101), (some (98, true)), (.mv (.tmp 13))⟩ (.one ⟨(some 102), (some (98, true)), (.call (.func 19) [(.tmp 99), (.tmp 100), (.tmp 101)])⟩ (.one ⟨(some 103), (some (98, true)), (.ld true 2 (.tmp 8))⟩ (.one ⟨(some 104), (some (98, true)), (.mv (.tmp 1))⟩ (.one ⟨(some 105), (some (98, true)), (.mv (.tmp 13))⟩ (.one ⟨(some 106), (some (98, true)), (.call (.func 19) [(.tmp 103), (.tmp 104), (.tmp 105)])⟩ (.one ⟨(some 107), (some (98, true)), (.pur (.eqv false [.int, .str, .int]) [(.tmp 102), (.tmp 106)])⟩ (.one ⟨(some 108), none, (.pick (.tmp 98) (.tmp 107) (.const (.bool false)))⟩ (.one ⟨(some 6), none, (.mv (.tmp 108))⟩ .done))))))))))))))))))
 .ret)))))))
theorem f_sclaw28_AllocMeans : compF Try.prog 6 = some (109, c_sclaw28_AllocMeans, [(.tmp 6)]) := by kernel_rfl
def c_sclaw28_small : VC :=
 (.seq
 (.ops [
 ⟨(some 1), none, (.box 24 (.tmp 0))⟩,
 ⟨(some 2), none, (.mv (.const (.bool false)))⟩])
 (.seq
 (.ops [
 ⟨(some 3), none, (.fad 1 false 1 (.tmp 1))⟩,
 ⟨(some 4), none, (.ld false 1 (.tmp 3))⟩,
 ⟨(some 5), none, (.len (.tmp 4))⟩,
 ⟨(some 6), none, (.bin .leq (.tmp 5) (.const (.int .i64 12)))⟩,
 ⟨(some 7), none, (.mv (.tmp 6))⟩,
 ⟨(some 8), (some (7, true)), (.fad 0 false 1 (.tmp 1))⟩,
 ⟨(some 9), (some (7, true)), (.ld false 1 (.tmp 8))⟩,
 ⟨(some 10), (some (7, true)), (.bin .leq (.tmp 9) (.const (.int .i64 20)))⟩,
 ⟨(some 11), none, (.pick (.tmp 7) (.tmp 10) (.const (.bool false)))⟩,
 ⟨(some 12), none, (.mv (.tmp 11))⟩,
 ⟨(some 13), (some (12, true)), (.ld true 2 (.tmp 1))⟩,
 ⟨(some 14), (some (12, true)), (.call (.func 21) [(.tmp 13)])⟩,
 ⟨(some 15), (some (12, true)), (.bin .leq (.tmp 14) (.const (.int .i64 120)))⟩,
 ⟨(some 16), none, (.pick (.tmp 12) (.tmp 15) (.const (.bool false)))⟩,
 ⟨(some 17), none, (.mv (.tmp 16))⟩,
 ⟨(some 18), (some (17, true)), (.ld true 2 (.tmp 1))⟩,
 ⟨(some 19), (some (17, true)), (.call (.func 20) [(.tmp 18), (.const (.int .i64 64)), (.const (.int .i64 2000))])⟩,
 ⟨(some 20), none, (.pick (.tmp 17) (.tmp 19) (.const (.bool false)))⟩,
 ⟨(some 2), none, (.mv (.tmp 20))⟩])
 .ret))
theorem f_sclaw28_small : compF Try.prog 8 = some (21, c_sclaw28_small, [(.tmp 2)]) := by kernel_rfl
def c_sclaw28_awake : VC :=
 (.seq
 (.ops [
 ⟨(some 0), none, (.mv (.const (.bool false)))⟩])
 (.seq
 (.ops [
 ⟨(some 5), none, (.bld [(.int .i64 0), (.int .i64 0), (.int .i64 0), (.int .i64 0), (.int .i64 0), (.int .i64 0), (.int .i64 0), (.int .u32 0)] [(0, (1, (.const (.int .i64 1)))), (7, (1, (.const (.int .u32 1))))])⟩,
 ⟨(some 6), none, (.bld [(.int .i64 0), (.int .i64 0), (.int .i64 0), (.int .i64 0), (.int .i64 0), (.int .i64 0), (.int .i64 0), (.int .u32 0)] [(0, (1, (.const (.int .i64 1)))), (1, (1, (.const (.int .i64 1)))), (7, (1, (.const (.int .u32 2))))])⟩,
 ⟨(some 7), none, (.bld [(.int .i64 0), (.int .i64 0), (.int .i64 0), (.int .i64 0), (.int .i64 0), (.int .i64 0), (.int .i64 0), (.int .u32 0)] [(0, (1, (.const (.int .i64 9))))])⟩,
 ⟨(some 8), none, (.bld [(.int .i64 0), (.int .i64 0), (.int .i64 0), (.int .i64 0), (.int .i64 0), (.int .i64 0), (.int .i64 0), (.int .u32 0)] [(0, (1, (.const (.int .i64 9)))), (2, (1, (.const (.int .i64 1))))])⟩,
 ⟨(some 9), none, (.bsl 57 8 4 [(.int .i64 0), (.int .i64 0), (.int .i64 0), (.int .i64 0), (.int .i64 0), (.int .i64 0), (.int .i64 0), (.int .u32 0), (.int .i64 0), (.int .i64 0), (.int .i64 0), (.int .i64 0), (.int .i64 0), (.int .i64 0), (.int .i64 0), (.int .u32 0), (.int .i64 0), (.int .i64 0), (.int .i64 0), (.int .i64 0), (.int .i64 0), (.int .i64 0), (.int .i64 0), (.int .u32 0), (.int .i64 0), (.int .i64 0), (.int .i64 0), (.int .i64 0), (.int .i64 0), (.int .i64 0), (.int .i64 0), (.int .u32 0)] [(0, (8, (.tmp 5))), (8, (8, (.tmp 6))), (16, (8, (.tmp 7))), (24, (8, (.tmp 8)))])⟩,
 ⟨(some 10), none, (.bld [(.slice none 0 0), (.int .i64 0), (.int .i64 0), (.int .i64 0), (.int .i64 0)] [(0, (1, (.tmp 9))), (1, (1, (.const (.int .i64 3))))])⟩,
 ⟨(some 1), none, (.alc 60 [(.slice none 0 0), (.int .i64 0), (.int .i64 0), (.int .i64 0), (.int .i64 0)])⟩,
 ⟨none, none, (.sto true 5 (.tmp 1) (.tmp 10))⟩])
 (.seq
 (.ops [
 ⟨(some 11), none, (.ld true 5 (.tmp 1))⟩,
 ⟨(some 12), none, (.bsl 60 5 1 [(.slice none 0 0), (.int .i64 0), (.int .i64 0), (.int .i64 0), (.int .i64 0)] [(0, (5, (.tmp 11)))])⟩,
 ⟨(some 13), none, (.bld [(.int .i64 0), (.slice none 0 0)] [(0, (1, (.const (.int .i64 2)))), (1, (1, (.tmp 12)))])⟩,
 ⟨(some 2), none, (.alc 24 [(.int .i64 0), (.slice none 0 0)])⟩,
 ⟨none, none, (.sto true 2 (.tmp 2) (.tmp 13))⟩])
 (.seq
 (.ops [
 ⟨(some 14), none, (.ld true 2 (.tmp 2))⟩,
 ⟨(some 15), none, (.call (.func 10) [(.tmp 14)])⟩,
 ⟨(some 3), none, (.alc 29 [(.slice none 0 0), (.slice none 0 0)])⟩,
 ⟨none, none, (.sto true 2 (.tmp 3) (.tmp 15))⟩])
 (.seq
 (.ops [
 ⟨(some 16), none, (.ld true 2 (.tmp 2))⟩,
 ⟨(some 17), none, (.ld true 2 (.tmp 3))⟩,
 ⟨(some 18), none, (.call (.func 12) [(.tmp 16), (.tmp 17), (.const (.int .i64 2))])⟩,
 ⟨(some 4), none, (.alc 33 [(.slice none 0 0)])⟩,
 ⟨none, none, (.sto true 1 (.tmp 4) (.tmp 18))⟩])
 (.seq
 (.ops [
 ⟨(some 19), none, (.ld true 2 (.tmp 2))⟩,
 ⟨(some 20), none, (.ld true 2 (.tmp 3))⟩,
 ⟨(some 21), none, (.ld true 1 (.tmp 4))⟩,
 ⟨(some 22), none, (.call (.func 13) [(.tmp 19), (.tmp 20), (.tmp 21), (.const (.int .i64 2))])⟩,
 ⟨(some 23), none, (.mv (.tmp 22))⟩,
 ⟨(some 24), (some (23, true)), (.ld true 2 (.tmp 2))⟩,
 ⟨(some 25), (some (23, true)), (.ld true 2 (.tmp 3))⟩,
 ⟨(some 26), (some (23, true)), (.ld true 1 (.tmp 4))⟩,
 ⟨(some 27), (some (23, true)), (.call (.func 14) [(.tmp 24), (.tmp 25), (.tmp 26), (.const (.int .i64 2))])⟩,
 ⟨(some 28), none, (.pick (.tmp 23) (.tmp 27) (.const (.bool false)))⟩,
 ⟨(some 29), none, (.mv (.tmp 28))⟩,
 ⟨(some 30), (some (29, true)), (.ld true 2 (.tmp 2))⟩,
 ⟨(some 31), (some (29, true)), (.ld true 2 (.tmp 3))⟩,
 ⟨(some 32), (some (29, true)), (.bsl 3 1 2 [(.int .i64 0), (.int .i64 0)] [(0, (1, (.const (.int .i64 1)))), (1, (1, (.const (.int .i64 1))))])⟩,
 ⟨(some 33), (some (29, true)), (.bld [(.slice none 0 0)] [(0, (1, (.tmp 32)))])⟩,
 ⟨(some 34), (some (29, true)), (.call (.func 14) [(.tmp 30), (.tmp 31), (.tmp 33), (.const (.int .i64 2))])⟩,
 ⟨(some 35), (some (29, true)), (.un .not (.tmp 34))⟩,
 ⟨(some 36), none, (.pick (.tmp 29) (.tmp 35) (.const (.bool false)))⟩,
 ⟨(some 37), none, (.mv (.tmp 36))⟩,
 ⟨(some 38), (some (37, true)), (.ld true 2 (.tmp 2))⟩,
 ⟨(some 39), (some (37, true)), (.ld true 2 (.tmp 3))⟩,
 ⟨(some 40), (some (37, true)), (.bsl 3 1 2 [(.int .i64 0), (.int .i64 0)] [(0, (1, (.const (.int .i64 2)))), (1, (1, (.const (.int .i64 (-5)))))])⟩,
 ⟨(some 41), (some (37, true)), (.bld [(.slice none 0 0)] [(0, (1, (.tmp 40)))])⟩,
 ⟨(some 42), (some (37, true)), (.call (.func 14) [(.tmp 38), (.tmp 39), (.tmp 41), (.const (.int .i64 2))])⟩,
 ⟨(some 43), none, (.pick (.tmp 37) (.tmp 42) (.const (.bool false)))⟩,
 ⟨(some 44), none, (.mv (.tmp 43))⟩,
 ⟨(some 45), (some (44, true)), (.bsl 3 1 2 [(.int .i64 0), (.int .i64 0)] [(0, (1, (.const (.int .i64 2)))), (1, (1, (.const (.int .i64 (-5)))))])⟩,
 ⟨(some 46), (some (44, true)), (.bld [(.slice none 0 0)] [(0, (1, (.tmp 45)))])⟩,
 ⟨(some 47), (some (44, true)), (.call (.func 15) [(.tmp 46)])⟩,
 ⟨(some 48), (some (44, true)), (.bin .eql (.tmp 47) (.const (.int .i64 5)))⟩,
 ⟨(some 49), none, (.pick (.tmp 44) (.tmp 48) (.const (.bool false)))⟩,
 ⟨(some 0), none, (.mv (.tmp 49))⟩])
 .ret))))))
theorem f_sclaw28_awake : compF Try.prog 9 = some (50, c_sclaw28_awake, [(.tmp 0)]) := by kernel_rfl
def c_scref27_Of : VC :=
 (.seq
 (.ops [
 ⟨(some 1), none, (.box 24 (.tmp 0))⟩,
 ⟨(some 2), none, (.alc 29 [(.slice none 0 0), (.slice none 0 0)])⟩])
 (.seq
 (.ops [
 ⟨(some 12), none, (.fad 1 false 1 (.tmp 1))⟩,
 ⟨(some 13), none, (.ld false 1 (.tmp 12))⟩,
 ⟨(some 14), none, (.len (.tmp 13))⟩,
 ⟨(some 3), none, (.mv (.tmp 14))⟩])
 (.seq
 (.par true (.one ⟨(some 15), none, (.mv (.tmp 3))⟩ (.one ⟨(some 16), none, (.fad 0 false 1 (.tmp 1))⟩ (.one ⟨(some 17), none, (.ld false 1 (.tmp 16))⟩ (.one ⟨(some 19), none, (.mv (.tmp 3))⟩ (.one ⟨(some 20), none, (.fad 0 false 1 (.tmp 1))⟩ (.both (.one ⟨(some 18), none, (.callM true (.func 22) [(.tmp 15), (.tmp 17)])⟩ (.one ⟨(some 21), none, (.ld false 1 (.tmp 20))⟩ (.both (.one ⟨(some 22), none, (.callM true (.func 22) [(.tmp 19), (.tmp 21)])⟩ (.one ⟨(some 23), none, (.bld [(.slice none 0 0), (.slice none 0 0)] [(0, (1, (.tmp 18))), (1, (1, (.tmp 22)))])⟩ (.one ⟨(some 4), none, (.alc 29 [(.slice none 0 0), (.slice none 0 0)])⟩ (.one ⟨none, none, (.sto true 2 (.tmp 4) (.tmp 23))⟩ .done)))) (.one ⟨(some 4), none, (.alc 29 [(.slice none 0 0), (.slice none 0 0)])⟩ (.one ⟨(some 22), none, (.callM true (.func 22) [(.tmp 19), (.tmp 21)])⟩ (.one ⟨(some 23), none, (.bld [(.slice none 0 0), (.slice none 0 0)] [(0, (1, (.tmp 18))), (1, (1, (.tmp 22)))])⟩ (.one ⟨none, none, (.sto true 2 (.tmp 4) (.tmp 23))⟩ .done))))))) (.both (.one ⟨(some 21), none, (.ld false 1 (.tmp 20))⟩ (.both (.one ⟨(some 18), none, (.callM true (.func 22) [(.tmp 15), (.tmp 17)])⟩ (.both (.one ⟨(some 22), none, (.callM true (.func 22) [(.tmp 19), (.tmp 21)])⟩ (.one ⟨(some 23), none, (.bld [(.slice none 0 0), (.slice none 0 0)] [(0, (1, (.tmp 18))), (1, (1, (.tmp 22)))])⟩ (.one ⟨(some 4), none, (.alc 29 [(.slice none 0 0), (.slice none 0 0)])⟩ (.one ⟨none, none, (.sto true 2 (.tmp 4) (.tmp 23))⟩ .done)))) (.one ⟨(some 4), none, (.alc 29 [(.slice none 0 0), (.slice none 0 0)])⟩ (.one ⟨(some 22), none, (.callM true (.func 22) [(.tmp 19), (.tmp 21)])⟩ (.one ⟨(some 23), none, (.bld [(.slice none 0 0), (.slice none 0 0)] [(0, (1, (.tmp 18))), (1, (1, (.tmp 22)))])⟩ (.one ⟨none, none, (.sto true 2 (.tmp 4) (.tmp 23))⟩ .done)))))) (.one ⟨(some 4), none, (.alc 29 [(.slice none 0 0), (.slice none 0 0)])⟩ (.one ⟨(some 18), none, (.callM true (.func 22) [(.tmp 15), (.tmp 17)])⟩ (.one ⟨(some 22), none, (.callM true (.func 22) [(.tmp 19), (.tmp 21)])⟩ (.one ⟨(some 23), none, (.bld [(.slice none 0 0), (.slice none 0 0)] [(0, (1, (.tmp 18))), (1, (1, (.tmp 22)))])⟩ (.one ⟨none, none, (.sto true 2 (.tmp 4) (.tmp 23))⟩ .done))))))) (.one ⟨(some 4), none, (.alc 29 [(.slice none 0 0), (.slice none 0 0)])⟩ (.both (.one ⟨(some 18), none, (.callM true (.func 22) [(.tmp 15), (.tmp 17)])⟩ (.one ⟨(some 21), none, (.ld false 1 (.tmp 20))⟩ (.one ⟨(some 22), none, (.callM true (.func 22) [(.tmp 19), (.tmp 21)])⟩ (.one ⟨(some 23), none, (.bld [(.slice none 0 0), (.slice none 0 0)] [(0, (1, (.tmp 18))), (1, (1, (.tmp 22)))])⟩ (.one ⟨none, none, (.sto true 2 (.tmp 4) (.tmp 23))⟩ .done))))) (.one ⟨(some 21), none, (.ld false 1 (.tmp 20))⟩ (.one ⟨(some 18), none, (.callM true (.func 22) [(.tmp 15), (.tmp 17)])⟩ (.one ⟨(some 22), none, (.callM true (.func 22) [(.tmp 19), (.tmp 21)])⟩ (.one ⟨(some 23), none, (.bld [(.slice none 0 0), (.slice none 0 0)] [(0, (1, (.tmp 18))), (1, (1, (.tmp 22)))])⟩ (.one ⟨none, none, (.sto true 2 (.tmp 4) (.tmp 23))⟩ .done)))))))))))))))
 (.seq
 (.ops [
 ⟨(some 24), none, (.ld true 2 (.tmp 1))⟩,
 ⟨(some 25), none, (.call (.func 23) [(.tmp 24)])⟩,
 ⟨(some 5), none, (.mv (.tmp 25))⟩])
 (.seq
 (.seq
 (.ops [
 ⟨(some 6), none, (.mv (.const (.bool true)))⟩])
 (.block 0
 (.loop
 (.seq
 (.seq
 (.ops [
 ⟨(some 26), none, (.mv (.tmp 6))⟩])
 (.cond (.tmp 26)
 .skip
 (.exit 0)))
 (.block 1
 (.seq
 (.ops [
 ⟨(some 6), none, (.mv (.const (.bool false)))⟩])
 (.seq
 (.ops [
 ⟨(some 27), none, (.mv (.tmp 3))⟩,
 ⟨(some 28), none, (.bin .sub (.tmp 27) (.const (.int .i64 1)))⟩,
 ⟨(some 7), none, (.mv (.tmp 28))⟩])
 (.block 2
 (.loop
 (.seq
 (.seq
 (.ops [
 ⟨(some 29), none, (.mv (.tmp 7))⟩,
 ⟨(some 30), none, (.bin .geq (.tmp 29) (.const (.int .i64 0)))⟩])
 (.cond (.tmp 30)
 .skip
 (.exit 2)))
 (.seq
 (.block 3
 (.seq
 (.seq
 (.ops [
 ⟨(some 8), none, (.mv (.const (.int .i64 0)))⟩])
 (.block 4
 (.loop
 (.seq
 (.seq
 (.ops [
 ⟨(some 33), none, (.mv (.tmp 8))⟩,
 ⟨(some 34), none, (.mv (.tmp 5))⟩,
 ⟨(some 35), none, (.mv (.tmp 7))⟩,
 ⟨(some 36), none, (.idx 1 (.tmp 34) (.tmp 35))⟩,
 ⟨(some 37), none, (.ld false 1 (.tmp 36))⟩,
 ⟨(some 38), none, (.len (.tmp 37))⟩,
 ⟨(some 39), none, (.bin .lss (.tmp 33) (.tmp 38))⟩])
 (.cond (.tmp 39)
 .skip
 (.exit 4)))
 (.seq
 (.block 5
 (.seq
 (.ops [
 ⟨(some 9), none, (.mv (.const (.int .i64 0)))⟩])
 (.block 6
 (.loop
 (.seq
 (.seq
 (.ops [
 ⟨(some 42), none, (.mv (.tmp 9))⟩,
 ⟨(some 43), none, (.fad 0 false 1 (.tmp 1))⟩,
 ⟨(some 44), none, (.ld false 1 (.tmp 43))⟩,
 ⟨(some 45), none, (.bin .lss (.tmp 42) (.tmp 44))⟩])
 (.cond (.tmp 45)
 .skip
 (.exit 6)))
 (.seq
 (.block 7
 (.ops [
 ⟨(some 48), none, (.fad 1 false 1 (.tmp 4))⟩,
 ⟨(some 49), none, (.ld false 1 (.tmp 48))⟩,
 ⟨(some 50), none, (.mv (.tmp 7))⟩,
 ⟨(some 51), none, (.idx 1 (.tmp 49) (.tmp 50))⟩,
 ⟨(some 52), none, (.ld false 1 (.tmp 51))⟩,
 ⟨(some 53), none, (.mv (.tmp 9))⟩,
 ⟨(some 54), none, (.fad 1 false 1 (.tmp 4))⟩,
 ⟨(some 55), none, (.ld false 1 (.tmp 54))⟩,
 ⟨(some 56), none, (.mv (.tmp 7))⟩,
 ⟨(some 57), none, (.idx 1 (.tmp 55) (.tmp 56))⟩,
 ⟨(some 58), none, (.ld false 1 (.tmp 57))⟩,
 ⟨(some 59), none, (.mv (.tmp 9))⟩,
 ⟨(some 60), none, (.idx 1 (.tmp 58) (.tmp 59))⟩,
 ⟨(some 61), none, (.ld false 1 (.tmp 60))⟩,
 ⟨(some 62), none, (.mv (.tmp 61))⟩,
 ⟨(some 63), (some (62, false)), (.fad 0 false 1 (.tmp 4))⟩,
 ⟨(some 64), (some (62, false)), (.ld false 1 (.tmp 63))⟩,
 ⟨(some 65), (some (62, false)), (.mv (.tmp 5))⟩,
 ⟨(some 66), (some (62, false)), (.mv (.tmp 7))⟩,
 ⟨(some 67), (some (62, false)), (.idx 1 (.tmp 65) (.tmp 66))⟩,
 ⟨(some 68), (some (62, false)), (.ld false 1 (.tmp 67))⟩,
 ⟨(some 69), (some (62, false)), (.mv (.tmp 8))⟩,
 ⟨(some 70), (some (62, false)), (.idx 1 (.tmp 68) (.tmp 69))⟩,
 ⟨(some 71), (some (62, false)), (.ld false 1 (.tmp 70))⟩,
 ⟨(some 72), (some (62, false)), (.idx 1 (.tmp 64) (.tmp 71))⟩,
 ⟨(some 73), (some (62, false)), (.ld false 1 (.tmp 72))⟩,
 ⟨(some 74), (some (62, false)), (.mv (.tmp 9))⟩,
 ⟨(some 75), (some (62, false)), (.idx 1 (.tmp 73) (.tmp 74))⟩,
 ⟨(some 76), (some (62, false)), (.ld false 1 (.tmp 75))⟩,
 ⟨(some 77), none, (.pick (.tmp 62) (.const (.bool true)) (.tmp 76))⟩,
 ⟨(some 78), none, (.idx 1 (.tmp 52) (.tmp 53))⟩,
 ⟨none, none, (.sto false 1 (.tmp 78) (.tmp 77))⟩]))
 (.ops [
 ⟨(some 46), none, (.mv (.tmp 9))⟩,
 ⟨(some 47), none, (.bin .add (.tmp 46) (.const (.int .i64 1)))⟩,
 ⟨(some 9), none, (.mv (.tmp 47))⟩])))))))
 (.ops [
 ⟨(some 40), none, (.mv (.tmp 8))⟩,
 ⟨(some 41), none, (.bin .add (.tmp 40) (.const (.int .i64 1)))⟩,
 ⟨(some 8), none, (.mv (.tmp 41))⟩]))))))
 (.seq
 (.ops [
 ⟨(some 79), none, (.fad 1 false 1 (.tmp 1))⟩,
 ⟨(some 80), none, (.ld false 1 (.tmp 79))⟩,
 ⟨(some 81), none, (.mv (.tmp 7))⟩,
 ⟨(some 82), none, (.idx 5 (.tmp 80) (.tmp 81))⟩,
 ⟨(some 83), none, (.ld true 5 (.tmp 82))⟩,
 ⟨(some 84), none, (.fad 1 false 1 (.tmp 4))⟩,
 ⟨(some 85), none, (.ld false 1 (.tmp 84))⟩,
 ⟨(some 86), none, (.mv (.tmp 7))⟩,
 ⟨(some 87), none, (.idx 1 (.tmp 85) (.tmp 86))⟩,
 ⟨(some 88), none, (.ld false 1 (.tmp 87))⟩,
 ⟨(some 89), none, (.call (.func 24) [(.tmp 83), (.tmp 88)])⟩,
 ⟨(some 10), none, (.mv (.tmp 89))⟩])
 (.seq
 (.ops [
 ⟨(some 11), none, (.mv (.const (.int .i64 0)))⟩])
 (.block 8
 (.loop
 (.seq
 (.seq
 (.ops [
 ⟨(some 90), none, (.mv (.tmp 11))⟩,
 ⟨(some 91), none, (.fad 0 false 1 (.tmp 1))⟩,
 ⟨(some 92), none, (.ld false 1 (.tmp 91))⟩,
 ⟨(some 93), none, (.bin .lss (.tmp 90) (.tmp 92))⟩])
 (.cond (.tmp 93)
 .skip
 (.exit 8)))
 (.seq
 (.block 9
 (.seq
 (.ops [
 ⟨(some 96), none, (.mv (.tmp 10))⟩,
 ⟨(some 97), none, (.mv (.tmp 11))⟩,
 ⟨(some 98), none, (.idx 1 (.tmp 96) (.tmp 97))⟩,
 ⟨(some 99), none, (.ld false 1 (.tmp 98))⟩,
 ⟨(some 100), none, (.mv (.tmp 99))⟩,
 ⟨(some 101), (some (100, true)), (.fad 0 false 1 (.tmp 4))⟩,
 ⟨(some 102), (some (100, true)), (.ld false 1 (.tmp 101))⟩,
 ⟨(some 103), (some (100, true)), (.mv (.tmp 7))⟩,
 ⟨(some 104), (some (100, true)), (.idx 1 (.tmp 102) (.tmp 103))⟩,
 ⟨(some 105), (some (100, true)), (.ld false 1 (.tmp 104))⟩,
 ⟨(some 106), (some (100, true)), (.mv (.tmp 11))⟩,
 ⟨(some 107), (some (100, true)), (.idx 1 (.tmp 105) (.tmp 106))⟩,
 ⟨(some 108), (some (100, true)), (.ld false 1 (.tmp 107))⟩,
 ⟨(some 109), (some (100, true)), (.un .not (.tmp 108))⟩,
 ⟨(some 110), none, (.pick (.tmp 100) (.tmp 109) (.const (.bool false)))⟩])
 (.cond (.tmp 110)
 (.seq
 (.ops [
 ⟨(some 111), none, (.fad 0 false 1 (.tmp 4))⟩,
 ⟨(some 112), none, (.ld false 1 (.tmp 111))⟩,
 ⟨(some 113), none, (.mv (.tmp 7))⟩,
 ⟨(some 114), none, (.idx 1 (.tmp 112) (.tmp 113))⟩,
 ⟨(some 115), none, (.ld false 1 (.tmp 114))⟩,
 ⟨(some 116), none, (.mv (.tmp 11))⟩,
 ⟨(some 117), none, (.idx 1 (.tmp 115) (.tmp 116))⟩,
 ⟨none, none, (.sto false 1 (.tmp 117) (.const (.bool true)))⟩])
 (.ops [
 ⟨(some 6), none, (.mv (.const (.bool true)))⟩]))
 .skip)))
 (.ops [
 ⟨(some 94), none, (.mv (.tmp 11))⟩,
 ⟨(some 95), none, (.bin .add (.tmp 94) (.const (.int .i64 1)))⟩,
 ⟨(some 11), none, (.mv (.tmp 95))⟩])))))))))
 (.ops [
 ⟨(some 31), none, (.mv (.tmp 7))⟩,
 ⟨(some 32), none, (.bin .sub (.tmp 31) (.const (.int .i64 1)))⟩,
 ⟨(some 7), none, (.mv (.tmp 32))⟩]))))))))))))
 (.seq
 (.ops [
 ⟨(some 118), none, (.ld true 2 (.tmp 4))⟩,
 ⟨none, none, (.sto true 2 (.tmp 2) (.tmp 118))⟩])
 .ret))))))
theorem f_scref27_Of : compF Try.prog 10 = some (119, c_scref27_Of, [(.cell 2 true 2)]) := by kernel_rfl
def c_alloc_Of : VC :=
 (.seq
 (.ops [
 ⟨(some 3), none, (.box 24 (.tmp 0))⟩,
 ⟨(some 4), none, (.box 29 (.tmp 1))⟩,
 ⟨(some 6), none, (.alc 33 [(.slice none 0 0)])⟩])
 (.seq
 (.ops [
 ⟨(some 17), none, (.ld true 2 (.tmp 3))⟩,
 ⟨(some 18), none, (.ld true 2 (.tmp 4))⟩,
 ⟨(some 19), none, (.call (.func 25) [(.tmp 17), (.tmp 18)])⟩,
 ⟨(some 16), none, (.mv (.tmp 19))⟩,
 ⟨(some 20), none, (.ext (.tmp 16) 0)⟩,
 ⟨(some 21), none, (.ext (.tmp 16) 1)⟩,
 ⟨(some 7), none, (.mv (.tmp 20))⟩,
 ⟨(some 8), none, (.mv (.tmp 21))⟩])
 (.seq
 (.ops [
 ⟨(some 22), none, (.fad 0 false 1 (.tmp 3))⟩,
 ⟨(some 23), none, (.ld false 1 (.tmp 22))⟩,
 ⟨(some 24), none, (.mk 3 1 8 [(.int .i64 0)] (.tmp 23) (.tmp 23))⟩,
 ⟨(some 9), none, (.mv (.tmp 24))⟩])
 (.seq
 (.ops [
 ⟨(some 25), none, (.mv (.tmp 2))⟩,
 ⟨(some 26), none, (.pur .mx [(.tmp 25), (.const (.int .i64 0))])⟩,
 ⟨(some 27), none, (.bin .add (.tmp 26) (.const (.int .i64 1)))⟩,
 ⟨(some 28), none, (.mk 3 1 8 [(.int .i64 0)] (.tmp 27) (.tmp 27))⟩,
 ⟨(some 10), none, (.mv (.tmp 28))⟩])
 (.seq
 (.ops [
 ⟨(some 29), none, (.fad 0 false 1 (.tmp 3))⟩,
 ⟨(some 30), none, (.ld false 1 (.tmp 29))⟩,
 ⟨(some 31), none, (.bin .add (.tmp 30) (.const (.int .i64 2)))⟩,
 ⟨(some 32), none, (.mk 3 1 8 [(.int .i64 0)] (.tmp 31) (.tmp 31))⟩,
 ⟨(some 11), none, (.mv (.tmp 32))⟩])
 (.seq
 (.seq
 (.ops [
 ⟨(some 33), none, (.mv (.tmp 9))⟩,
 ⟨(some 34), none, (.len (.tmp 33))⟩,
 ⟨(some 35), none, (.mv (.const (.int .i64 0)))⟩])
 (.block 0
 (.loop
 (.seq
 (.ops [
 ⟨(some 36), none, (.bin .lss (.tmp 35) (.tmp 34))⟩])
 (.seq
 (.cond (.tmp 36)
 .skip
 (.exit 0))
 (.seq
 (.block 1
 (.seq
 (.ops [
 ⟨(some 37), none, (.mv (.tmp 35))⟩,
 ⟨(some 12), none, (.mv (.tmp 37))⟩])
 (.seq
 (.ops [
 ⟨(some 38), none, (.mv (.tmp 12))⟩,
 ⟨(some 39), none, (.bin .add (.tmp 38) (.const (.int .i64 1)))⟩,
 ⟨(some 13), none, (.mv (.tmp 39))⟩])
 (.seq
 (.seq
 (.ops [
 ⟨(some 14), none, (.mv (.const (.int .i64 0)))⟩])
 (.block 2
 (.loop
 (.seq
 (.seq
 (.ops [
 ⟨(some 40), none, (.mv (.tmp 14))⟩,
 ⟨(some 41), none, (.mv (.tmp 12))⟩,
 ⟨(some 42), none, (.bin .lss (.tmp 40) (.tmp 41))⟩])
 (.cond (.tmp 42)
 .skip
 (.exit 2)))
 (.seq
 (.block 3
 (.seq
 (.seq
 (.ops [
 ⟨(some 45), none, (.mv (.tmp 7))⟩,
 ⟨(some 46), none, (.mv (.tmp 12))⟩,
 ⟨(some 47), none, (.idx 1 (.tmp 45) (.tmp 46))⟩,
 ⟨(some 48), none, (.ld false 1 (.tmp 47))⟩,
 ⟨(some 49), none, (.mv (.tmp 14))⟩,
 ⟨(some 50), none, (.call (.func 26) [(.tmp 48), (.tmp 49)])⟩,
 ⟨(some 51), none, (.un .not (.tmp 50))⟩,
 ⟨(some 52), none, (.mv (.tmp 51))⟩,
 ⟨(some 53), (some (52, true)), (.mv (.tmp 7))⟩,
 ⟨(some 54), (some (52, true)), (.mv (.tmp 14))⟩,
 ⟨(some 55), (some (52, true)), (.idx 1 (.tmp 53) (.tmp 54))⟩,
 ⟨(some 56), (some (52, true)), (.ld false 1 (.tmp 55))⟩,
 ⟨(some 57), (some (52, true)), (.mv (.tmp 12))⟩,
 ⟨(some 58), (some (52, true)), (.call (.func 26) [(.tmp 56), (.tmp 57)])⟩,
 ⟨(some 59), (some (52, true)), (.un .not (.tmp 58))⟩,
 ⟨(some 60), none, (.pick (.tmp 52) (.tmp 59) (.const (.bool false)))⟩])
 (.cond (.tmp 60)
 (.exit 3)
 .skip))
 (.seq
 (.ops [
 ⟨(some 61), none, (.mv (.tmp 9))⟩,
 ⟨(some 62), none, (.mv (.tmp 14))⟩,
 ⟨(some 63), none, (.idx 1 (.tmp 61) (.tmp 62))⟩,
 ⟨(some 64), none, (.ld false 1 (.tmp 63))⟩,
 ⟨(some 15), none, (.mv (.tmp 64))⟩])
 (.seq
 (.ops [
 ⟨(some 65), none, (.mv (.tmp 15))⟩,
 ⟨(some 66), none, (.bin .gtr (.tmp 65) (.const (.int .i64 0)))⟩])
 (.cond (.tmp 66)
 (.ops [
 ⟨(some 67), none, (.mv (.tmp 10))⟩,
 ⟨(some 68), none, (.mv (.tmp 15))⟩,
 ⟨(some 69), none, (.mv (.tmp 13))⟩,
 ⟨(some 70), none, (.idx 1 (.tmp 67) (.tmp 68))⟩,
 ⟨none, none, (.sto false 1 (.tmp 70) (.tmp 69))⟩])
 (.ops [
 ⟨(some 71), none, (.mv (.tmp 11))⟩,
 ⟨(some 72), none, (.mv (.tmp 15))⟩,
 ⟨(some 73), none, (.un .neg (.tmp 72))⟩,
 ⟨(some 74), none, (.mv (.tmp 13))⟩,
 ⟨(some 75), none, (.idx 1 (.tmp 71) (.tmp 73))⟩,
 ⟨none, none, (.sto false 1 (.tmp 75) (.tmp 74))⟩]))))))
 (.ops [
 ⟨(some 43), none, (.mv (.tmp 14))⟩,
 ⟨(some 44), none, (.bin .add (.tmp 43) (.const (.int .i64 1)))⟩,
 ⟨(some 14), none, (.mv (.tmp 44))⟩]))))))
 (.ops [
 ⟨(some 76), none, (.mv (.tmp 9))⟩,
 ⟨(some 77), none, (.mv (.tmp 12))⟩,
 ⟨(some 78), none, (.mv (.tmp 10))⟩,
 ⟨(some 79), none, (.mv (.tmp 11))⟩,
 ⟨(some 80), none, (.mv (.tmp 13))⟩,
 ⟨(some 81), none, (.mv (.tmp 8))⟩,
 ⟨(some 82), none, (.mv (.tmp 12))⟩,
 ⟨(some 83), none, (.call (.func 26) [(.tmp 81), (.tmp 82)])⟩,
 ⟨(some 84), none, (.call (.func 27) [(.tmp 78), (.tmp 79), (.tmp 80), (.tmp 83)])⟩,
 ⟨(some 85), none, (.idx 1 (.tmp 76) (.tmp 77))⟩,
 ⟨none, none, (.sto false 1 (.tmp 85) (.tmp 84))⟩])))))
 (.ops [
 ⟨(some 86), none, (.bin .add (.tmp 35) (.const (.int .i64 1)))⟩,
 ⟨(some 35), none, (.mv (.tmp 86))⟩])))))))
 (.seq
 (.ops [
 ⟨(some 87), none, (.mv (.tmp 9))⟩,
 ⟨(some 88), none, (.bld [(.slice none 0 0)] [(0, (1, (.tmp 87)))])⟩,
 ⟨none, none, (.sto true 1 (.tmp 6) (.tmp 88))⟩])
 .ret)))))))
theorem f_alloc_Of : compF Try.prog 12 = some (89, c_alloc_Of, [(.cell 6 true 1)]) := by kernel_rfl
def c_scref28_Check : VC :=
 (.seq
 (.ops [
 ⟨(some 4), none, (.box 24 (.tmp 0))⟩,
 ⟨(some 5), none, (.box 29 (.tmp 1))⟩,
 ⟨(some 6), none, (.box 33 (.tmp 2))⟩,
 ⟨(some 8), none, (.mv (.const (.bool false)))⟩])
 (.seq
 (.seq
 (.par false (.one ⟨(some 12), none, (.ld true 2 (.tmp 4))⟩ (.one ⟨(some 13), none, (.ld true 2 (.tmp 5))⟩ (.one ⟨(some 14), none, (.call (.func 28) [(.tmp 12), (.tmp 13)])⟩ (.one ⟨(some 15), none, (.un .not (.tmp 14))⟩ (.one ⟨(some 16), none, (.mv (.tmp 15))⟩ (.one ⟨(some 17), (some (16, false)), (.ld true 1 (.tmp 6))⟩ (.one ⟨(some 18), (some (16, false)), (.fad 0 false 1 (.tmp 4))⟩ (.one ⟨(some 19), (some (16, false)), (.ld false 1 (.tmp 18))⟩ (.one ⟨(some 20), (some (16, false)), (.mv (.tmp 3))⟩ (.one ⟨(some 21), (some (16, false)), (.call (.func 29) [(.tmp 17), (.tmp 19), (.tmp 20)])⟩ (.one ⟨(some 22), (some (16, false)), (.un .not (.tmp 21))⟩ (.one ⟨(some 23), none, (.pick (.tmp 16) (.const (.bool true)) (.tmp 22))⟩ (.one ⟨(some 24), none, (.mv (.tmp 23))⟩ (.one ⟨(some 25), (some (24, false)), (.ld true 1 (.tmp 6))⟩ (.one ⟨(some 26), (some (24, false)), (.fad 0 false 1 (.tmp 5))⟩ (.one ⟨(some 27), (some (24, false)), (.ld false 1 (.tmp 26))⟩ (.one ⟨(some 28), (some (24, false)), (.idx 1 (.tmp 27) (.const (.int .i64 0)))⟩ (.one ⟨(some 29), (some (24, false)), (.ld false 1 (.tmp 28))⟩ (.one ⟨(some 30), (some (24, false)), (.call (.func 30) [(.tmp 25), (.tmp 29)])⟩ (.one ⟨(some 31), (some (24, false)), (.un .not (.tmp 30))⟩ (.one ⟨(some 32), none, (.pick (.tmp 24) (.const (.bool true)) (.tmp 31))⟩ .done))))))))))))))))))))))
 (.cond (.tmp 32)
 (.seq
 (.ops [
 ⟨(some 8), none, (.mv (.const (.bool false)))⟩])
 .ret)
 .skip))
 (.seq
 (.seq
 (.ops [
 ⟨(some 9), none, (.mv (.const (.int .i64 0)))⟩])
 (.block 0
 (.loop
 (.seq
 (.seq
 (.ops [
 ⟨(some 33), none, (.mv (.tmp 9))⟩,
 ⟨(some 34), none, (.fad 1 false 1 (.tmp 4))⟩,
 ⟨(some 35), none, (.ld false 1 (.tmp 34))⟩,
 ⟨(some 36), none, (.len (.tmp 35))⟩,
 ⟨(some 37), none, (.bin .lss (.tmp 33) (.tmp 36))⟩])
 (.cond (.tmp 37)
 .skip
 (.exit 0)))
 (.seq
 (.block 1
 (.seq
 (.ops [
 ⟨(some 40), none, (.ld true 2 (.tmp 4))⟩,
 ⟨(some 41), none, (.ld true 2 (.tmp 5))⟩,
 ⟨(some 42), none, (.mv (.tmp 9))⟩,
 ⟨(some 43), none, (.call (.func 31) [(.tmp 40), (.tmp 41), (.tmp 42)])⟩,
 ⟨(some 10), none, (.mv (.tmp 43))⟩])
 (.seq
 (.ops [
 ⟨(some 11), none, (.mv (.const (.int .i64 0)))⟩])
 (.block 2
 (.loop
 (.seq
 (.seq
 (.ops [
 ⟨(some 44), none, (.mv (.tmp 11))⟩,
 ⟨(some 45), none, (.fad 1 false 1 (.tmp 4))⟩,
 ⟨(some 46), none, (.ld false 1 (.tmp 45))⟩,
 ⟨(some 47), none, (.mv (.tmp 9))⟩,
 ⟨(some 48), none, (.idx 5 (.tmp 46) (.tmp 47))⟩,
 ⟨(some 49), none, (.fad 0 false 1 (.tmp 48))⟩,
 ⟨(some 50), none, (.ld false 1 (.tmp 49))⟩,
 ⟨(some 51), none, (.len (.tmp 50))⟩,
 ⟨(some 52), none, (.bin .lss (.tmp 44) (.tmp 51))⟩])
 (.cond (.tmp 52)
 .skip
 (.exit 2)))
 (.seq
 (.block 3
 (.seq
 (.ops [
 ⟨(some 55), none, (.fad 1 false 1 (.tmp 4))⟩,
 ⟨(some 56), none, (.ld false 1 (.tmp 55))⟩,
 ⟨(some 57), none, (.mv (.tmp 9))⟩,
 ⟨(some 58), none, (.idx 5 (.tmp 56) (.tmp 57))⟩,
 ⟨(some 59), none, (.fad 0 false 1 (.tmp 58))⟩,
 ⟨(some 60), none, (.ld false 1 (.tmp 59))⟩,
 ⟨(some 61), none, (.mv (.tmp 11))⟩,
 ⟨(some 62), none, (.idx 8 (.tmp 60) (.tmp 61))⟩,
 ⟨(some 63), none, (.ld true 8 (.tmp 62))⟩,
 ⟨(some 64), none, (.ld true 1 (.tmp 6))⟩,
 ⟨(some 65), none, (.mv (.tmp 10))⟩,
 ⟨(some 66), none, (.mv (.tmp 11))⟩,
 ⟨(some 67), none, (.idx 1 (.tmp 65) (.tmp 66))⟩,
 ⟨(some 68), none, (.ld false 1 (.tmp 67))⟩,
 ⟨(some 69), none, (.call (.func 32) [(.tmp 63), (.tmp 64), (.tmp 68)])⟩,
 ⟨(some 70), none, (.un .not (.tmp 69))⟩])
 (.cond (.tmp 70)
 (.seq
 (.ops [
 ⟨(some 8), none, (.mv (.const (.bool false)))⟩])
 .ret)
 .skip)))
 (.ops [
 ⟨(some 53), none, (.mv (.tmp 11))⟩,
 ⟨(some 54), none, (.bin .add (.tmp 53) (.const (.int .i64 1)))⟩,
 ⟨(some 11), none, (.mv (.tmp 54))⟩]))))))))
 (.ops [
 ⟨(some 38), none, (.mv (.tmp 9))⟩,
 ⟨(some 39), none, (.bin .add (.tmp 38) (.const (.int .i64 1)))⟩,
 ⟨(some 9), none, (.mv (.tmp 39))⟩]))))))
 (.seq
 (.ops [
 ⟨(some 8), none, (.mv (.const (.bool true)))⟩])
 .ret))))
theorem f_scref28_Check : compF Try.prog 13 = some (71, c_scref28_Check, [(.tmp 8)]) := by kernel_rfl
def c_alloc_Check : VC :=
 (.seq
 (.ops [
 ⟨(some 4), none, (.box 24 (.tmp 0))⟩,
 ⟨(some 5), none, (.box 29 (.tmp 1))⟩,
 ⟨(some 6), none, (.box 33 (.tmp 2))⟩,
 ⟨(some 8), none, (.mv (.const (.bool false)))⟩])
 (.seq
 (.seq
 (.ops [
 ⟨(some 21), none, (.ld true 2 (.tmp 4))⟩,
 ⟨(some 22), none, (.ld true 2 (.tmp 5))⟩,
 ⟨(some 23), none, (.call (.func 33) [(.tmp 21), (.tmp 22)])⟩,
 ⟨(some 24), none, (.un .not (.tmp 23))⟩,
 ⟨(some 25), none, (.mv (.tmp 24))⟩,
 ⟨(some 26), (some (25, false)), (.fad 0 false 1 (.tmp 6))⟩,
 ⟨(some 27), (some (25, false)), (.ld false 1 (.tmp 26))⟩,
 ⟨(some 28), (some (25, false)), (.len (.tmp 27))⟩,
 ⟨(some 29), (some (25, false)), (.fad 0 false 1 (.tmp 4))⟩,
 ⟨(some 30), (some (25, false)), (.ld false 1 (.tmp 29))⟩,
 ⟨(some 31), (some (25, false)), (.bin .neq (.tmp 28) (.tmp 30))⟩,
 ⟨(some 32), none, (.pick (.tmp 25) (.const (.bool true)) (.tmp 31))⟩])
 (.cond (.tmp 32)
 (.seq
 (.ops [
 ⟨(some 8), none, (.mv (.const (.bool false)))⟩])
 .ret)
 .skip))
 (.seq
 (.ops [
 ⟨(some 33), none, (.eff .mkm [])⟩,
 ⟨(some 9), none, (.mv (.tmp 33))⟩])
 (.seq
 (.ops [
 ⟨(some 34), none, (.fad 0 false 1 (.tmp 4))⟩,
 ⟨(some 35), none, (.ld false 1 (.tmp 34))⟩,
 ⟨(some 36), none, (.mk 3 1 8 [(.int .i64 0)] (.tmp 35) (.tmp 35))⟩,
 ⟨(some 10), none, (.mv (.tmp 36))⟩])
 (.seq
 (.seq
 (.ops [
 ⟨(some 37), none, (.fad 0 false 1 (.tmp 6))⟩,
 ⟨(some 38), none, (.ld false 1 (.tmp 37))⟩,
 ⟨(some 39), none, (.len (.tmp 38))⟩,
 ⟨(some 40), none, (.mv (.const (.int .i64 0)))⟩])
 (.block 0
 (.loop
 (.seq
 (.ops [
 ⟨(some 41), none, (.bin .lss (.tmp 40) (.tmp 39))⟩])
 (.seq
 (.cond (.tmp 41)
 .skip
 (.exit 0))
 (.seq
 (.block 1
 (.seq
 (.ops [
 ⟨(some 42), none, (.mv (.tmp 40))⟩,
 ⟨(some 43), none, (.idx 1 (.tmp 38) (.tmp 40))⟩,
 ⟨(some 44), none, (.ld false 1 (.tmp 43))⟩,
 ⟨(some 11), none, (.mv (.tmp 42))⟩,
 ⟨(some 12), none, (.mv (.tmp 44))⟩])
 (.seq
 (.seq
 (.ops [
 ⟨(some 45), none, (.mv (.tmp 12))⟩,
 ⟨(some 46), none, (.bin .geq (.tmp 45) (.const (.int .i64 1)))⟩,
 ⟨(some 47), none, (.mv (.tmp 46))⟩,
 ⟨(some 48), (some (47, true)), (.mv (.tmp 12))⟩,
 ⟨(some 49), (some (47, true)), (.mv (.tmp 3))⟩,
 ⟨(some 50), (some (47, true)), (.bin .leq (.tmp 48) (.tmp 49))⟩,
 ⟨(some 51), none, (.pick (.tmp 47) (.tmp 50) (.const (.bool false)))⟩,
 ⟨(some 52), none, (.un .not (.tmp 51))⟩,
 ⟨(some 53), none, (.mv (.tmp 52))⟩,
 ⟨(some 54), (some (53, true)), (.mv (.tmp 12))⟩,
 ⟨(some 55), (some (53, true)), (.bin .geq (.tmp 54) (.const (.int .i64 (-4000))))⟩,
 ⟨(some 56), (some (53, true)), (.mv (.tmp 55))⟩,
 ⟨(some 57), (some (56, true)), (.mv (.tmp 12))⟩,
 ⟨(some 58), (some (56, true)), (.bin .leq (.tmp 57) (.const (.int .i64 (-1))))⟩,
 ⟨(some 59), (some (53, true)), (.pick (.tmp 56) (.tmp 58) (.const (.bool false)))⟩,
 ⟨(some 60), (some (53, true)), (.un .not (.tmp 59))⟩,
 ⟨(some 61), none, (.pick (.tmp 53) (.tmp 60) (.const (.bool false)))⟩])
 (.cond (.tmp 61)
 (.seq
 (.ops [
 ⟨(some 8), none, (.mv (.const (.bool false)))⟩])
 .ret)
 .skip))
 (.seq
 (.ops [
 ⟨(some 63), none, (.mv (.tmp 9))⟩,
 ⟨(some 64), none, (.mv (.tmp 12))⟩,
 ⟨(some 65), none, (.see (.look true (.int .i64 0)) [(.tmp 63), (.tmp 64)])⟩,
 ⟨(some 62), none, (.mv (.tmp 65))⟩,
 ⟨(some 66), none, (.ext (.tmp 62) 0)⟩,
 ⟨(some 67), none, (.ext (.tmp 62) 1)⟩,
 ⟨(some 13), none, (.mv (.tmp 66))⟩,
 ⟨(some 14), none, (.mv (.tmp 67))⟩])
 (.seq
 (.seq
 (.ops [
 ⟨(some 68), none, (.mv (.tmp 14))⟩,
 ⟨(some 69), none, (.un .not (.tmp 68))⟩])
 (.cond (.tmp 69)
 (.seq
 (.ops [
 ⟨(some 70), none, (.mv (.tmp 9))⟩,
 ⟨(some 71), none, (.see .mlen [(.tmp 70)])⟩,
 ⟨(some 13), none, (.mv (.tmp 71))⟩])
 (.ops [
 ⟨(some 72), none, (.mv (.tmp 9))⟩,
 ⟨(some 73), none, (.mv (.tmp 12))⟩,
 ⟨(some 74), none, (.mv (.tmp 13))⟩,
 ⟨none, none, (.eff .upd [(.tmp 72), (.tmp 73), (.tmp 74)])⟩]))
 .skip))
 (.ops [
 ⟨(some 75), none, (.mv (.tmp 10))⟩,
 ⟨(some 76), none, (.mv (.tmp 11))⟩,
 ⟨(some 77), none, (.mv (.tmp 13))⟩,
 ⟨(some 78), none, (.idx 1 (.tmp 75) (.tmp 76))⟩,
 ⟨none, none, (.sto false 1 (.tmp 78) (.tmp 77))⟩]))))))
 (.ops [
 ⟨(some 79), none, (.bin .add (.tmp 40) (.const (.int .i64 1)))⟩,
 ⟨(some 40), none, (.mv (.tmp 79))⟩])))))))
 (.seq
 (.ops [
 ⟨(some 80), none, (.mv (.tmp 9))⟩,
 ⟨(some 81), none, (.see .mlen [(.tmp 80)])⟩,
 ⟨(some 82), none, (.mk 4 1 1 [(.bool false)] (.tmp 81) (.tmp 81))⟩,
 ⟨(some 15), none, (.mv (.tmp 82))⟩])
 (.seq
 (.seq
 (.ops [
 ⟨(some 83), none, (.fad 0 false 1 (.tmp 5))⟩,
 ⟨(some 84), none, (.ld false 1 (.tmp 83))⟩,
 ⟨(some 85), none, (.idx 1 (.tmp 84) (.const (.int .i64 0)))⟩,
 ⟨(some 86), none, (.ld false 1 (.tmp 85))⟩,
 ⟨(some 87), none, (.len (.tmp 86))⟩,
 ⟨(some 88), none, (.mv (.const (.int .i64 0)))⟩])
 (.block 2
 (.loop
 (.seq
 (.ops [
 ⟨(some 89), none, (.bin .lss (.tmp 88) (.tmp 87))⟩])
 (.seq
 (.cond (.tmp 89)
 .skip
 (.exit 2))
 (.seq
 (.block 3
 (.seq
 (.ops [
 ⟨(some 90), none, (.mv (.tmp 88))⟩,
 ⟨(some 91), none, (.idx 1 (.tmp 86) (.tmp 88))⟩,
 ⟨(some 92), none, (.ld false 1 (.tmp 91))⟩,
 ⟨(some 16), none, (.mv (.tmp 90))⟩,
 ⟨(some 17), none, (.mv (.tmp 92))⟩])
 (.seq
 (.seq
 (.ops [
 ⟨(some 93), none, (.mv (.tmp 17))⟩,
 ⟨(some 94), none, (.un .not (.tmp 93))⟩])
 (.cond (.tmp 94)
 (.exit 3)
 .skip))
 (.seq
 (.seq
 (.ops [
 ⟨(some 95), none, (.mv (.tmp 15))⟩,
 ⟨(some 96), none, (.mv (.tmp 10))⟩,
 ⟨(some 97), none, (.mv (.tmp 16))⟩,
 ⟨(some 98), none, (.idx 1 (.tmp 96) (.tmp 97))⟩,
 ⟨(some 99), none, (.ld false 1 (.tmp 98))⟩,
 ⟨(some 100), none, (.idx 1 (.tmp 95) (.tmp 99))⟩,
 ⟨(some 101), none, (.ld false 1 (.tmp 100))⟩])
 (.cond (.tmp 101)
 (.seq
 (.ops [
 ⟨(some 8), none, (.mv (.const (.bool false)))⟩])
 .ret)
 .skip))
 (.ops [
 ⟨(some 102), none, (.mv (.tmp 15))⟩,
 ⟨(some 103), none, (.mv (.tmp 10))⟩,
 ⟨(some 104), none, (.mv (.tmp 16))⟩,
 ⟨(some 105), none, (.idx 1 (.tmp 103) (.tmp 104))⟩,
 ⟨(some 106), none, (.ld false 1 (.tmp 105))⟩,
 ⟨(some 107), none, (.idx 1 (.tmp 102) (.tmp 106))⟩,
 ⟨none, none, (.sto false 1 (.tmp 107) (.const (.bool true)))⟩])))))
 (.ops [
 ⟨(some 108), none, (.bin .add (.tmp 88) (.const (.int .i64 1)))⟩,
 ⟨(some 88), none, (.mv (.tmp 108))⟩])))))))
 (.seq
 (.seq
 (.ops [
 ⟨(some 109), none, (.fad 1 false 1 (.tmp 4))⟩,
 ⟨(some 110), none, (.ld false 1 (.tmp 109))⟩,
 ⟨(some 111), none, (.len (.tmp 110))⟩,
 ⟨(some 112), none, (.mv (.const (.int .i64 0)))⟩])
 (.block 4
 (.loop
 (.seq
 (.ops [
 ⟨(some 113), none, (.bin .lss (.tmp 112) (.tmp 111))⟩])
 (.seq
 (.cond (.tmp 113)
 .skip
 (.exit 4))
 (.seq
 (.block 5
 (.seq
 (.ops [
 ⟨(some 114), none, (.mv (.tmp 112))⟩,
 ⟨(some 115), none, (.idx 5 (.tmp 110) (.tmp 112))⟩,
 ⟨(some 116), none, (.ld true 5 (.tmp 115))⟩,
 ⟨(some 19), none, (.alc 60 [(.slice none 0 0), (.int .i64 0), (.int .i64 0), (.int .i64 0), (.int .i64 0)])⟩,
 ⟨(some 18), none, (.mv (.tmp 114))⟩,
 ⟨none, none, (.sto true 5 (.tmp 19) (.tmp 116))⟩])
 (.seq
 (.par false (.one ⟨(some 117), none, (.fad 0 false 1 (.tmp 6))⟩ (.one ⟨(some 118), none, (.ld false 1 (.tmp 117))⟩ (.one ⟨(some 119), none, (.mv (.tmp 10))⟩ (.one ⟨(some 120), none, (.fad 0 false 1 (.tmp 4))⟩ (.one ⟨(some 121), none, (.ld false 1 (.tmp 120))⟩ (.one ⟨(some 123), none, (.mv (.tmp 9))⟩ (.one ⟨(some 124), none, (.see .mlen [(.tmp 123)])⟩ (.both (.one ⟨(some 122), none, (.mk 4 1 1 [(.bool false)] (.tmp 121) (.tmp 121))⟩ (.both (.one ⟨(some 125), none, (.mk 3 1 8 [(.int .i64 0)] (.tmp 124) (.tmp 124))⟩ (.one ⟨(some 126), none, (.bld [(.slice none 0 0), (.slice none 0 0), (.slice none 0 0), (.slice none 0 0), (.int .i64 0)] [(0, (1, (.tmp 118))), (1, (1, (.tmp 119))), (2, (1, (.tmp 122))), (3, (1, (.tmp 125)))])⟩ (.one ⟨(some 20), none, (.alc 81 [(.slice none 0 0), (.slice none 0 0), (.slice none 0 0), (.slice none 0 0), (.int .i64 0)])⟩ (.one ⟨none, none, (.sto true 5 (.tmp 20) (.tmp 126))⟩ .done)))) (.one ⟨(some 20), none, (.alc 81 [(.slice none 0 0), (.slice none 0 0), (.slice none 0 0), (.slice none 0 0), (.int .i64 0)])⟩ (.one ⟨(some 125), none, (.mk 3 1 8 [(.int .i64 0)] (.tmp 124) (.tmp 124))⟩ (.one ⟨(some 126), none, (.bld [(.slice none 0 0), (.slice none 0 0), (.slice none 0 0), (.slice none 0 0), (.int .i64 0)] [(0, (1, (.tmp 118))), (1, (1, (.tmp 119))), (2, (1, (.tmp 122))), (3, (1, (.tmp 125)))])⟩ (.one ⟨none, none, (.sto true 5 (.tmp 20) (.tmp 126))⟩ .done)))))) (.both (.one ⟨(some 125), none, (.mk 3 1 8 [(.int .i64 0)] (.tmp 124) (.tmp 124))⟩ (.both (.one ⟨(some 122), none, (.mk 4 1 1 [(.bool false)] (.tmp 121) (.tmp 121))⟩ (.one ⟨(some 126), none, (.bld [(.slice none 0 0), (.slice none 0 0), (.slice none 0 0), (.slice none 0 0), (.int .i64 0)] [(0, (1, (.tmp 118))), (1, (1, (.tmp 119))), (2, (1, (.tmp 122))), (3, (1, (.tmp 125)))])⟩ (.one ⟨(some 20), none, (.alc 81 [(.slice none 0 0), (.slice none 0 0), (.slice none 0 0), (.slice none 0 0), (.int .i64 0)])⟩ (.one ⟨none, none, (.sto true 5 (.tmp 20) (.tmp 126))⟩ .done)))) (.one ⟨(some 20), none, (.alc 81 [(.slice none 0 0), (.slice none 0 0), (.slice none 0 0), (.slice none 0 0), (.int .i64 0)])⟩ (.one ⟨(some 122), none, (.mk 4 1 1 [(.bool false)] (.tmp 121) (.tmp 121))⟩ (.one ⟨(some 126), none, (.bld [(.slice none 0 0), (.slice none 0 0), (.slice none 0 0), (.slice none 0 0), (.int .i64 0)] [(0, (1, (.tmp 118))), (1, (1, (.tmp 119))), (2, (1, (.tmp 122))), (3, (1, (.tmp 125)))])⟩ (.one ⟨none, none, (.sto true 5 (.tmp 20) (.tmp 126))⟩ .done)))))) (.one ⟨(some 20), none, (.alc 81 [(.slice none 0 0), (.slice none 0 0), (.slice none 0 0), (.slice none 0 0), (.int .i64 0)])⟩ (.both (.one ⟨(some 122), none, (.mk 4 1 1 [(.bool false)] (.tmp 121) (.tmp 121))⟩ (.one ⟨(some 125), none, (.mk 3 1 8 [(.int .i64 0)] (.tmp 124) (.tmp 124))⟩ (.one ⟨(some 126), none, (.bld [(.slice none 0 0), (.slice none 0 0), (.slice none 0 0), (.slice none 0 0), (.int .i64 0)] [(0, (1, (.tmp 118))), (1, (1, (.tmp 119))), (2, (1, (.tmp 122))), (3, (1, (.tmp 125)))])⟩ (.one ⟨none, none, (.sto true 5 (.tmp 20) (.tmp 126))⟩ .done)))) (.one ⟨(some 125), none, (.mk 3 1 8 [(.int .i64 0)] (.tmp 124) (.tmp 124))⟩ (.one ⟨(some 122), none, (.mk 4 1 1 [(.bool false)] (.tmp 121) (.tmp 121))⟩ (.one ⟨(some 126), none, (.bld [(.slice none 0 0), (.slice none 0 0), (.slice none 0 0), (.slice none 0 0), (.int .i64 0)] [(0, (1, (.tmp 118))), (1, (1, (.tmp 119))), (2, (1, (.tmp 122))), (3, (1, (.tmp 125)))])⟩ (.one ⟨none, none, (.sto true 5 (.tmp 20) (.tmp 126))⟩ .done))))))))))))))))
 (.seq
 (.ops [
 ⟨(some 127), none, (.ld true 5 (.tmp 19))⟩,
 ⟨(some 128), none, (.fad 1 false 1 (.tmp 5))⟩,
 ⟨(some 129), none, (.ld false 1 (.tmp 128))⟩,
 ⟨(some 130), none, (.mv (.tmp 18))⟩,
 ⟨(some 131), none, (.idx 1 (.tmp 129) (.tmp 130))⟩,
 ⟨(some 132), none, (.ld false 1 (.tmp 131))⟩,
 ⟨(some 133), none, (.call (.func 34) [(.tmp 20), (.tmp 127), (.tmp 132)])⟩,
 ⟨(some 134), none, (.un .not (.tmp 133))⟩])
 (.cond (.tmp 134)
 (.seq
 (.ops [
 ⟨(some 8), none, (.mv (.const (.bool false)))⟩])
 .ret)
 .skip)))))
 (.ops [
 ⟨(some 135), none, (.bin .add (.tmp 112) (.const (.int .i64 1)))⟩,
 ⟨(some 112), none, (.mv (.tmp 135))⟩])))))))
 (.seq
 (.ops [
 ⟨(some 8), none, (.mv (.const (.bool true)))⟩])
 .ret)))))))))
theorem f_alloc_Check : compF Try.prog 14 = some (136, c_alloc_Check, [(.tmp 8)]) := by kernel_rfl
def c_alloc_Words : VC :=
 (.seq
 (.ops [
 ⟨(some 1), none, (.box 33 (.tmp 0))⟩,
 ⟨(some 2), none, (.mv (.const (.int .i64 0)))⟩])
 (.seq
 (.ops [
 ⟨(some 3), none, (.mv (.const (.int .i64 0)))⟩])
 (.seq
 (.seq
 (.ops [
 ⟨(some 6), none, (.fad 0 false 1 (.tmp 1))⟩,
 ⟨(some 7), none, (.ld false 1 (.tmp 6))⟩,
 ⟨(some 8), none, (.len (.tmp 7))⟩,
 ⟨(some 9), none, (.mv (.const (.int .i64 0)))⟩])
 (.block 0
 (.loop
 (.seq
 (.ops [
 ⟨(some 10), none, (.bin .lss (.tmp 9) (.tmp 8))⟩])
 (.seq
 (.cond (.tmp 10)
 .skip
 (.exit 0))
 (.seq
 (.block 1
 (.seq
 (.ops [
 ⟨(some 11), none, (.idx 1 (.tmp 7) (.tmp 9))⟩,
 ⟨(some 12), none, (.ld false 1 (.tmp 11))⟩,
 ⟨(some 5), none, (.mv (.tmp 12))⟩])
 (.seq
 (.ops [
 ⟨(some 13), none, (.mv (.tmp 5))⟩,
 ⟨(some 14), none, (.bin .lss (.tmp 13) (.const (.int .i64 0)))⟩])
 (.cond (.tmp 14)
 (.ops [
 ⟨(some 15), none, (.mv (.tmp 3))⟩,
 ⟨(some 16), none, (.mv (.tmp 5))⟩,
 ⟨(some 17), none, (.un .neg (.tmp 16))⟩,
 ⟨(some 18), none, (.pur .mx [(.tmp 15), (.tmp 17)])⟩,
 ⟨(some 3), none, (.mv (.tmp 18))⟩])
 .skip))))
 (.ops [
 ⟨(some 19), none, (.bin .add (.tmp 9) (.const (.int .i64 1)))⟩,
 ⟨(some 9), none, (.mv (.tmp 19))⟩])))))))
 (.seq
 (.ops [
 ⟨(some 20), none, (.mv (.tmp 3))⟩,
 ⟨(some 2), none, (.mv (.tmp 20))⟩])
 .ret))))
theorem f_alloc_Words : compF Try.prog 15 = some (21, c_alloc_Words, [(.tmp 2)]) := by kernel_rfl
def c_scref24_Right : VC :=
 (.seq
 (.ops [
 ⟨(some 1), none, (.box 44 (.tmp 0))⟩,
 ⟨(some 2), none, (.mv (.const (.bool false)))⟩])
 (.seq
 (.seq
 (.ops [
 ⟨(some 4), none, (.fad 0 false 1 (.tmp 1))⟩,
 ⟨(some 5), none, (.ld false 1 (.tmp 4))⟩,
 ⟨(some 6), none, (.bin .lss (.tmp 5) (.const (.int .i64 0)))⟩,
 ⟨(some 7), none, (.mv (.tmp 6))⟩,
 ⟨(some 8), (some (7, false)), (.fad 0 false 1 (.tmp 1))⟩,
 ⟨(some 9), (some (7, false)), (.ld false 1 (.tmp 8))⟩,
 ⟨(some 10), (some (7, false)), (.bin .gtr (.tmp 9) (.const (.int .i64 1048576)))⟩,
 ⟨(some 11), none, (.pick (.tmp 7) (.const (.bool true)) (.tmp 10))⟩,
 ⟨(some 12), none, (.mv (.tmp 11))⟩,
 ⟨(some 13), (some (12, false)), (.fad 1 false 1 (.tmp 1))⟩,
 ⟨(some 14), (some (12, false)), (.ld false 1 (.tmp 13))⟩,
 ⟨(some 15), (some (12, false)), (.len (.tmp 14))⟩,
 ⟨(some 16), (some (12, false)), (.bin .eql (.tmp 15) (.const (.int .i64 0)))⟩,
 ⟨(some 17), none, (.pick (.tmp 12) (.const (.bool true)) (.tmp 16))⟩])
 (.cond (.tmp 17)
 (.seq
 (.ops [
 ⟨(some 2), none, (.mv (.const (.bool false)))⟩])
 .ret)
 .skip))
 (.seq
 (.seq
 (.ops [
 ⟨(some 3), none, (.mv (.const (.int .i64 0)))⟩])
 (.block 0
 (.loop
 (.seq
 (.seq
 (.ops [
 ⟨(some 18), none, (.mv (.tmp 3))⟩,
 ⟨(some 19), none, (.fad 1 false 1 (.tmp 1))⟩,
 ⟨(some 20), none, (.ld false 1 (.tmp 19))⟩,
 ⟨(some 21), none, (.len (.tmp 20))⟩,
 ⟨(some 22), none, (.bin .lss (.tmp 18) (.tmp 21))⟩])
 (.cond (.tmp 22)
 .skip
 (.exit 0)))
 (.seq
 (.block 1
 (.seq
 (.ops [
 ⟨(some 25), none, (.fad 1 false 1 (.tmp 1))⟩,
 ⟨(some 26), none, (.ld false 1 (.tmp 25))⟩,
 ⟨(some 27), none, (.mv (.tmp 3))⟩,
 ⟨(some 28), none, (.idx 2 (.tmp 26) (.tmp 27))⟩,
 ⟨(some 29), none, (.ld true 2 (.tmp 28))⟩,
 ⟨(some 30), none, (.mv (.tmp 3))⟩,
 ⟨(some 31), none, (.fad 0 false 1 (.tmp 1))⟩,
 ⟨(some 32), none, (.ld false 1 (.tmp 31))⟩,
 ⟨(some 33), none, (.call (.func 20) [(.tmp 29), (.tmp 30), (.tmp 32)])⟩,
 ⟨(some 34), none, (.un .not (.tmp 33))⟩])
 (.cond (.tmp 34)
 (.seq
 (.ops [
 ⟨(some 2), none, (.mv (.const (.bool false)))⟩])
 .ret)
 .skip)))
 (.ops [
 ⟨(some 23), none, (.mv (.tmp 3))⟩,
 ⟨(some 24), none, (.bin .add (.tmp 23) (.const (.int .i64 1)))⟩,
 ⟨(some 3), none, (.mv (.tmp 24))⟩]))))))
 (.seq
 (.ops [
 ⟨(some 2), none, (.mv (.const (.bool true)))⟩])
 .ret))))
theorem f_scref24_Right : compF Try.prog 16 = some (35, c_scref24_Right, [(.tmp 2)]) := by kernel_rfl
def c_scref28_Words : VC :=
 (.seq
 (.ops [
 ⟨(some 1), none, (.box 33 (.tmp 0))⟩,
 ⟨(some 2), none, (.mv (.const (.int .i64 0)))⟩])
 (.seq
 (.ops [
 ⟨(some 3), none, (.mv (.const (.int .i64 0)))⟩])
 (.seq
 (.seq
 (.ops [
 ⟨(some 4), none, (.mv (.const (.int .i64 0)))⟩])
 (.block 0
 (.loop
 (.seq
 (.seq
 (.ops [
 ⟨(some 5), none, (.mv (.tmp 4))⟩,
 ⟨(some 6), none, (.fad 0 false 1 (.tmp 1))⟩,
 ⟨(some 7), none, (.ld false 1 (.tmp 6))⟩,
 ⟨(some 8), none, (.len (.tmp 7))⟩,
 ⟨(some 9), none, (.bin .lss (.tmp 5) (.tmp 8))⟩])
 (.cond (.tmp 9)
 .skip
 (.exit 0)))
 (.seq
 (.block 1
 (.seq
 (.ops [
 ⟨(some 12), none, (.fad 0 false 1 (.tmp 1))⟩,
 ⟨(some 13), none, (.ld false 1 (.tmp 12))⟩,
 ⟨(some 14), none, (.mv (.tmp 4))⟩,
 ⟨(some 15), none, (.idx 1 (.tmp 13) (.tmp 14))⟩,
 ⟨(some 16), none, (.ld false 1 (.tmp 15))⟩,
 ⟨(some 17), none, (.bin .lss (.tmp 16) (.const (.int .i64 0)))⟩,
 ⟨(some 18), none, (.mv (.tmp 17))⟩,
 ⟨(some 19), (some (18, true)), (.fad 0 false 1 (.tmp 1))⟩,
 ⟨(some 20), (some (18, true)), (.ld false 1 (.tmp 19))⟩,
 ⟨(some 21), (some (18, true)), (.mv (.tmp 4))⟩,
 ⟨(some 22), (some (18, true)), (.idx 1 (.tmp 20) (.tmp 21))⟩,
 ⟨(some 23), (some (18, true)), (.ld false 1 (.tmp 22))⟩,
 ⟨(some 24), (some (18, true)), (.un .neg (.tmp 23))⟩,
 ⟨(some 25), (some (18, true)), (.mv (.tmp 3))⟩,
 ⟨(some 26), (some (18, true)), (.bin .gtr (.tmp 24) (.tmp 25))⟩,
 ⟨(some 27), none, (.pick (.tmp 18) (.tmp 26) (.const (.bool false)))⟩])
 (.cond (.tmp 27)
 (.ops [
 ⟨(some 28), none, (.fad 0 false 1 (.tmp 1))⟩,
 ⟨(some 29), none, (.ld false 1 (.tmp 28))⟩,
 ⟨(some 30), none, (.mv (.tmp 4))⟩,
 ⟨(some 31), none, (.idx 1 (.tmp 29) (.tmp 30))⟩,
 ⟨(some 32), none, (.ld false 1 (.tmp 31))⟩,
 ⟨(some 33), none, (.un .neg (.tmp 32))⟩,
 ⟨(some 3), none, (.mv (.tmp 33))⟩])
 .skip)))
 (.ops [
 ⟨(some 10), none, (.mv (.tmp 4))⟩,
 ⟨(some 11), none, (.bin .add (.tmp 10) (.const (.int .i64 1)))⟩,
 ⟨(some 4), none, (.mv (.tmp 11))⟩]))))))
 (.seq
 (.ops [
 ⟨(some 34), none, (.mv (.tmp 3))⟩,
 ⟨(some 2), none, (.mv (.tmp 34))⟩])
 .ret))))
theorem f_scref28_Words : compF Try.prog 17 = some (35, c_scref28_Words, [(.tmp 2)]) := by kernel_rfl
def c_scref28_Other : VC :=
 (.seq
 (.ops [
 ⟨(some 3), none, (.box 24 (.tmp 0))⟩,
 ⟨(some 4), none, (.box 33 (.tmp 1))⟩,
 ⟨(some 6), none, (.alc 24 [(.int .i64 0), (.slice none 0 0)])⟩])
 (.seq
 (.ops [
 ⟨(some 7), none, (.mv (.const (.slice none 0 0)))⟩])
 (.seq
 (.seq
 (.ops [
 ⟨(some 8), none, (.mv (.const (.int .i64 0)))⟩])
 (.block 0
 (.loop
 (.seq
 (.seq
 (.ops [
 ⟨(some 16), none, (.mv (.tmp 8))⟩,
 ⟨(some 17), none, (.fad 0 false 1 (.tmp 4))⟩,
 ⟨(some 18), none, (.ld false 1 (.tmp 17))⟩,
 ⟨(some 19), none, (.len (.tmp 18))⟩,
 ⟨(some 20), none, (.bin .lss (.tmp 16) (.tmp 19))⟩])
 (.cond (.tmp 20)
 .skip
 (.exit 0)))
 (.seq
 (.block 1
 (.seq
 (.ops [
 ⟨(some 23), none, (.fad 0 false 1 (.tmp 4))⟩,
 ⟨(some 24), none, (.ld false 1 (.tmp 23))⟩,
 ⟨(some 25), none, (.mv (.tmp 8))⟩,
 ⟨(some 26), none, (.idx 1 (.tmp 24) (.tmp 25))⟩,
 ⟨(some 27), none, (.ld false 1 (.tmp 26))⟩,
 ⟨(some 28), none, (.bin .gtr (.tmp 27) (.const (.int .i64 0)))⟩])
 (.cond (.tmp 28)
 (.ops [
 ⟨(some 29), none, (.mv (.tmp 7))⟩,
 ⟨(some 30), none, (.fad 0 false 1 (.tmp 4))⟩,
 ⟨(some 31), none, (.ld false 1 (.tmp 30))⟩,
 ⟨(some 32), none, (.mv (.tmp 8))⟩,
 ⟨(some 33), none, (.idx 1 (.tmp 31) (.tmp 32))⟩,
 ⟨(some 34), none, (.ld false 1 (.tmp 33))⟩,
 ⟨(some 35), none, (.bin .sub (.tmp 34) (.const (.int .i64 1)))⟩,
 ⟨(some 36), none, (.bsl 3 1 1 [(.int .i64 0)] [(0, (1, (.tmp 35)))])⟩,
 ⟨(some 37), none, (.app 3 1 8 (.tmp 29) (.tmp 36))⟩,
 ⟨(some 7), none, (.mv (.tmp 37))⟩])
 (.ops [
 ⟨(some 38), none, (.mv (.tmp 7))⟩,
 ⟨(some 39), none, (.mv (.tmp 2))⟩,
 ⟨(some 40), none, (.fad 0 false 1 (.tmp 4))⟩,
 ⟨(some 41), none, (.ld false 1 (.tmp 40))⟩,
 ⟨(some 42), none, (.mv (.tmp 8))⟩,
 ⟨(some 43), none, (.idx 1 (.tmp 41) (.tmp 42))⟩,
 ⟨(some 44), none, (.ld false 1 (.tmp 43))⟩,
 ⟨(some 45), none, (.bin .sub (.tmp 39) (.tmp 44))⟩,
 ⟨(some 46), none, (.bin .sub (.tmp 45) (.const (.int .i64 1)))⟩,
 ⟨(some 47), none, (.bsl 3 1 1 [(.int .i64 0)] [(0, (1, (.tmp 46)))])⟩,
 ⟨(some 48), none, (.app 3 1 8 (.tmp 38) (.tmp 47))⟩,
 ⟨(some 7), none, (.mv (.tmp 48))⟩]))))
 (.ops [
 ⟨(some 21), none, (.mv (.tmp 8))⟩,
 ⟨(some 22), none, (.bin .add (.tmp 21) (.const (.int .i64 1)))⟩,
 ⟨(some 8), none, (.mv (.tmp 22))⟩]))))))
 (.seq
 (.ops [
 ⟨(some 49), none, (.mv (.tmp 2))⟩,
 ⟨(some 50), none, (.ld true 1 (.tmp 4))⟩,
 ⟨(some 51), none, (.call (.func 17) [(.tmp 50)])⟩,
 ⟨(some 52), none, (.bin .add (.tmp 49) (.tmp 51))⟩,
 ⟨(some 53), none, (.bld [(.int .i64 0), (.slice none 0 0)] [(0, (1, (.tmp 52)))])⟩,
 ⟨(some 9), none, (.alc 24 [(.int .i64 0), (.slice none 0 0)])⟩,
 ⟨none, none, (.sto true 2 (.tmp 9) (.tmp 53))⟩])
 (.seq
 (.seq
 (.ops [
 ⟨(some 10), none, (.mv (.const (.int .i64 0)))⟩])
 (.block 2
 (.loop
 (.seq
 (.seq
 (.ops [
 ⟨(some 54), none, (.mv (.tmp 10))⟩,
 ⟨(some 55), none, (.fad 1 false 1 (.tmp 3))⟩,
 ⟨(some 56), none, (.ld false 1 (.tmp 55))⟩,
 ⟨(some 57), none, (.len (.tmp 56))⟩,
 ⟨(some 58), none, (.bin .lss (.tmp 54) (.tmp 57))⟩])
 (.cond (.tmp 58)
 .skip
 (.exit 2)))
 (.seq
 (.block 3
 (.seq
 (.ops [
 ⟨(some 61), none, (.fad 1 false 1 (.tmp 3))⟩,
 ⟨(some 62), none, (.ld false 1 (.tmp 61))⟩,
 ⟨(some 63), none, (.mv (.tmp 10))⟩,
 ⟨(some 64), none, (.idx 5 (.tmp 62) (.tmp 63))⟩,
 ⟨(some 65), none, (.ld true 5 (.tmp 64))⟩,
 ⟨(some 11), none, (.alc 60 [(.slice none 0 0), (.int .i64 0), (.int .i64 0), (.int .i64 0), (.int .i64 0)])⟩,
 ⟨none, none, (.sto true 5 (.tmp 11) (.tmp 65))⟩])
 (.seq
 (.seq
 (.ops [
 ⟨(some 66), none, (.fad 1 false 1 (.tmp 11))⟩,
 ⟨(some 67), none, (.ld false 1 (.tmp 66))⟩,
 ⟨(some 68), none, (.bin .eql (.tmp 67) (.const (.int .i64 2)))⟩])
 (.cond (.tmp 68)
 (.ops [
 ⟨(some 69), none, (.mv (.tmp 7))⟩,
 ⟨(some 70), none, (.fad 2 false 1 (.tmp 11))⟩,
 ⟨(some 71), none, (.ld false 1 (.tmp 70))⟩,
 ⟨(some 72), none, (.idx 1 (.tmp 69) (.tmp 71))⟩,
 ⟨(some 73), none, (.ld false 1 (.tmp 72))⟩,
 ⟨(some 74), none, (.fad 2 false 1 (.tmp 11))⟩,
 ⟨none, none, (.sto false 1 (.tmp 74) (.tmp 73))⟩])
 .skip))
 (.seq
 (.ops [
 ⟨(some 12), none, (.mv (.const (.slice none 0 0)))⟩])
 (.seq
 (.seq
 (.ops [
 ⟨(some 13), none, (.mv (.const (.int .i64 0)))⟩])
 (.block 4
 (.loop
 (.seq
 (.seq
 (.ops [
 ⟨(some 75), none, (.mv (.tmp 13))⟩,
 ⟨(some 76), none, (.fad 0 false 1 (.tmp 11))⟩,
 ⟨(some 77), none, (.ld false 1 (.tmp 76))⟩,
 ⟨(some 78), none, (.len (.tmp 77))⟩,
 ⟨(some 79), none, (.bin .lss (.tmp 75) (.tmp 78))⟩])
 (.cond (.tmp 79)
 .skip
 (.exit 4)))
 (.seq
 (.block 5
 (.seq
 (.ops [
 ⟨(some 82), none, (.fad 0 false 1 (.tmp 11))⟩,
 ⟨(some 83), none, (.ld false 1 (.tmp 82))⟩,
 ⟨(some 84), none, (.mv (.tmp 13))⟩,
 ⟨(some 85), none, (.idx 8 (.tmp 83) (.tmp 84))⟩,
 ⟨(some 86), none, (.ld true 8 (.tmp 85))⟩,
 ⟨(some 14), none, (.alc 57 [(.int .i64 0), (.int .i64 0), (.int .i64 0), (.int .i64 0), (.int .i64 0), (.int .i64 0), (.int .i64 0), (.int .u32 0)])⟩,
 ⟨none, none, (.sto true 8 (.tmp 14) (.tmp 86))⟩])
 (.seq
 (.ops [
 ⟨(some 87), none, (.ld true 8 (.tmp 14))⟩,
 ⟨(some 88), none, (.call (.func 35) [(.tmp 87)])⟩,
 ⟨(some 15), none, (.mv (.tmp 88))⟩])
 (.seq
 (.seq
 (.ops [
 ⟨(some 89), none, (.ld true 8 (.tmp 14))⟩,
 ⟨(some 90), none, (.call (.func 36) [(.tmp 89)])⟩,
 ⟨(some 91), none, (.bin .geq (.tmp 90) (.const (.int .i64 0)))⟩])
 (.cond (.tmp 91)
 (.ops [
 ⟨(some 92), none, (.mv (.tmp 7))⟩,
 ⟨(some 93), none, (.fad 1 false 1 (.tmp 14))⟩,
 ⟨(some 94), none, (.ld false 1 (.tmp 93))⟩,
 ⟨(some 95), none, (.idx 1 (.tmp 92) (.tmp 94))⟩,
 ⟨(some 96), none, (.ld false 1 (.tmp 95))⟩,
 ⟨(some 97), none, (.fad 1 false 1 (.tmp 14))⟩,
 ⟨none, none, (.sto false 1 (.tmp 97) (.tmp 96))⟩])
 .skip))
 (.seq
 (.seq
 (.ops [
 ⟨(some 98), none, (.mv (.tmp 15))⟩,
 ⟨(some 99), none, (.len (.tmp 98))⟩,
 ⟨(some 100), none, (.bin .gtr (.tmp 99) (.const (.int .i64 0)))⟩])
 (.cond (.tmp 100)
 (.ops [
 ⟨(some 101), none, (.mv (.tmp 7))⟩,
 ⟨(some 102), none, (.fad 2 false 1 (.tmp 14))⟩,
 ⟨(some 103), none, (.ld false 1 (.tmp 102))⟩,
 ⟨(some 104), none, (.idx 1 (.tmp 101) (.tmp 103))⟩,
 ⟨(some 105), none, (.ld false 1 (.tmp 104))⟩,
 ⟨(some 106), none, (.fad 2 false 1 (.tmp 14))⟩,
 ⟨none, none, (.sto false 1 (.tmp 106) (.tmp 105))⟩])
 .skip))
 (.seq
 (.seq
 (.ops [
 ⟨(some 107), none, (.mv (.tmp 15))⟩,
 ⟨(some 108), none, (.len (.tmp 107))⟩,
 ⟨(some 109), none, (.bin .gtr (.tmp 108) (.const (.int .i64 1)))⟩])
 (.cond (.tmp 109)
 (.ops [
 ⟨(some 110), none, (.mv (.tmp 7))⟩,
 ⟨(some 111), none, (.fad 3 false 1 (.tmp 14))⟩,
 ⟨(some 112), none, (.ld false 1 (.tmp 111))⟩,
 ⟨(some 113), none, (.idx 1 (.tmp 110) (.tmp 112))⟩,
 ⟨(some 114), none, (.ld false 1 (.tmp 113))⟩,
 ⟨(some 115), none, (.fad 3 false 1 (.tmp 14))⟩,
 ⟨none, none, (.sto false 1 (.tmp 115) (.tmp 114))⟩])
 .skip))
 (.ops [
 ⟨(some 116), none, (.mv (.tmp 12))⟩,
 ⟨(some 117), none, (.ld true 8 (.tmp 14))⟩,
 ⟨(some 118), none, (.bsl 57 8 1 [(.int .i64 0), (.int .i64 0), (.int .i64 0), (.int .i64 0), (.int .i64 0), (.int .i64 0), (.int .i64 0), (.int .u32 0)] [(0, (8, (.tmp 117)))])⟩,
 ⟨(some 119), none, (.app 57 8 64 (.tmp 116) (.tmp 118))⟩,
 ⟨(some 12), none, (.mv (.tmp 119))⟩])))))))
 (.ops [
 ⟨(some 80), none, (.mv (.tmp 13))⟩,
 ⟨(some 81), none, (.bin .add (.tmp 80) (.const (.int .i64 1)))⟩,
 ⟨(some 13), none, (.mv (.tmp 81))⟩]))))))
 (.seq
 (.ops [
 ⟨(some 120), none, (.mv (.tmp 12))⟩,
 ⟨(some 121), none, (.fad 0 false 1 (.tmp 11))⟩,
 ⟨none, none, (.sto false 1 (.tmp 121) (.tmp 120))⟩])
 (.ops [
 ⟨(some 122), none, (.fad 1 false 1 (.tmp 9))⟩,
 ⟨(some 123), none, (.ld false 1 (.tmp 122))⟩,
 ⟨(some 124), none, (.ld true 5 (.tmp 11))⟩,
 ⟨(some 125), none, (.bsl 60 5 1 [(.slice none 0 0), (.int .i64 0), (.int .i64 0), (.int .i64 0), (.int .i64 0)] [(0, (5, (.tmp 124)))])⟩,
 ⟨(some 126), none, (.app 60 5 56 (.tmp 123) (.tmp 125))⟩,
 ⟨(some 127), none, (.fad 1 false 1 (.tmp 9))⟩,
 ⟨none, none, (.sto false 1 (.tmp 127) (.tmp 126))⟩])))))))
 (.ops [
 ⟨(some 59), none, (.mv (.tmp 10))⟩,
 ⟨(some 60), none, (.bin .add (.tmp 59) (.const (.int .i64 1)))⟩,
 ⟨(some 10), none, (.mv (.tmp 60))⟩]))))))
 (.seq
 (.ops [
 ⟨(some 128), none, (.ld true 2 (.tmp 9))⟩,
 ⟨none, none, (.sto true 2 (.tmp 6) (.tmp 128))⟩])
 .ret))))))
theorem f_scref28_Other : compF Try.prog 18 = some (129, c_scref28_Other, [(.cell 6 true 2)]) := by kernel_rfl
def c_scref24_Run : VC :=
 (.seq
 (.ops [
 ⟨(some 3), none, (.box 44 (.tmp 0))⟩,
 ⟨(some 6), none, (.alc 49 [(.int .i64 0), (.string ⟨#[]⟩), (.int .i64 0)])⟩])
 (.seq
 (.seq
 (.ops [
 ⟨(some 8), none, (.fad 1 false 1 (.tmp 3))⟩,
 ⟨(some 9), none, (.ld false 1 (.tmp 8))⟩,
 ⟨(some 10), none, (.len (.tmp 9))⟩,
 ⟨(some 11), none, (.bin .eql (.tmp 10) (.const (.int .i64 0)))⟩])
 (.cond (.tmp 11)
 (.seq
 (.ops [
 ⟨(some 12), none, (.bld [(.int .i64 0), (.string ⟨#[]⟩), (.int .i64 0)] [])⟩,
 ⟨none, none, (.sto true 3 (.tmp 6) (.tmp 12))⟩])
 .ret)
 .skip))
 (.seq
 (.seq
 (.ops [
 ⟨(some 13), none, (.mv (.tmp 2))⟩,
 ⟨(some 14), none, (.bin .lss (.tmp 13) (.const (.int .i64 0)))⟩])
 (.cond (.tmp 14)
 (.ops [
 ⟨(some 2), none, (.mv (.const (.int .i64 0)))⟩])
 .skip))
 (.seq
 (.par false (.one ⟨(some 15), none, (.ld true 2 (.tmp 3))⟩ (.one ⟨(some 16), none, (.mv (.tmp 1))⟩ (.one ⟨(some 17), none, (.mv (.tmp 2))⟩ (.one ⟨(some 18), none, (.fad 0 false 1 (.tmp 3))⟩ (.one ⟨(some 19), none, (.ld false 1 (.tmp 18))⟩ (.one ⟨(some 20), none, (.mk 55 1 4 [(.int .u32 0)] (.tmp 19) (.tmp 19))⟩ (.one ⟨(some 21), none, (.bld [(.int .i64 0), (.slice none 0 0), (.string ⟨#[]⟩), (.int .i64 0), (.slice none 0 0), (.slice none 0 0), (.int .i64 0), (.int .i64 0), (.int .i64 0)] [(0, (2, (.tmp 15))), (2, (1, (.tmp 16))), (3, (1, (.tmp 17))), (4, (1, (.tmp 20)))])⟩ (.one ⟨(some 22), none, (.box 89 (.tmp 21))⟩ (.one ⟨(some 7), none, (.mv (.tmp 22))⟩ .done))))))))))
 (.seq
 (.ops [
 ⟨(some 23), none, (.mv (.tmp 7))⟩,
 ⟨(some 24), none, (.fad 1 false 1 (.tmp 3))⟩,
 ⟨(some 25), none, (.ld false 1 (.tmp 24))⟩,
 ⟨(some 26), none, (.len (.tmp 25))⟩,
 ⟨(some 27), none, (.bin .sub (.tmp 26) (.const (.int .i64 1)))⟩,
 ⟨(some 28), none, (.call (.func 37) [(.tmp 23), (.tmp 27)])⟩])
 (.seq
 (.seq
 (.ops [
 ⟨(some 29), none, (.mv (.tmp 7))⟩,
 ⟨(some 30), none, (.nck (.tmp 29))⟩,
 ⟨(some 31), none, (.fad 8 false 1 (.tmp 30))⟩,
 ⟨(some 32), none, (.ld false 1 (.tmp 31))⟩,
 ⟨(some 33), none, (.bin .eql (.tmp 32) (.const (.int .i64 0)))⟩])
 (.cond (.tmp 33)
 (.ops [
 ⟨(some 34), none, (.mv (.tmp 7))⟩,
 ⟨(some 35), none, (.nck (.tmp 34))⟩,
 ⟨(some 36), none, (.fad 8 false 1 (.tmp 35))⟩,
 ⟨none, none, (.sto false 1 (.tmp 36) (.const (.int .i64 1)))⟩])
 .skip))
 (.seq
 (.ops [
 ⟨(some 37), none, (.mv (.tmp 7))⟩,
 ⟨(some 38), none, (.nck (.tmp 37))⟩,
 ⟨(some 39), none, (.fad 8 false 1 (.tmp 38))⟩,
 ⟨(some 40), none, (.ld false 1 (.tmp 39))⟩,
 ⟨(some 41), none, (.mv (.tmp 7))⟩,
 ⟨(some 42), none, (.nck (.tmp 41))⟩,
 ⟨(some 43), none, (.fad 5 false 1 (.tmp 42))⟩,
 ⟨(some 44), none, (.ld false 1 (.tmp 43))⟩,
 ⟨(some 45), none, (.see .b2s [(.tmp 44)])⟩,
 ⟨(some 46), none, (.mv (.tmp 7))⟩,
 ⟨(some 47), none, (.nck (.tmp 46))⟩,
 ⟨(some 48), none, (.fad 7 false 1 (.tmp 47))⟩,
 ⟨(some 49), none, (.ld false 1 (.tmp 48))⟩,
 ⟨(some 50), none, (.bld [(.int .i64 0), (.string ⟨#[]⟩), (.int .i64 0)] [(0, (1, (.tmp 40))), (1, (1, (.tmp 45))), (2, (1, (.tmp 49)))])⟩,
 ⟨none, none, (.sto true 3 (.tmp 6) (.tmp 50))⟩])
 .ret)))))))
theorem f_scref24_Run : compF Try.prog 19 = some (51, c_scref24_Run, [(.cell 6 true 3)]) := by kernel_rfl
def c_scref24_One : VC :=
 (.seq
 (.ops [
 ⟨(some 3), none, (.box 24 (.tmp 0))⟩,
 ⟨(some 6), none, (.mv (.const (.bool false)))⟩])
 (.seq
 (.seq
 (.ops [
 ⟨(some 9), none, (.fad 0 false 1 (.tmp 3))⟩,
 ⟨(some 10), none, (.ld false 1 (.tmp 9))⟩,
 ⟨(some 11), none, (.bin .lss (.tmp 10) (.const (.int .i64 0)))⟩,
 ⟨(some 12), none, (.mv (.tmp 11))⟩,
 ⟨(some 13), (some (12, false)), (.fad 0 false 1 (.tmp 3))⟩,
 ⟨(some 14), (some (12, false)), (.ld false 1 (.tmp 13))⟩,
 ⟨(some 15), (some (12, false)), (.bin .gtr (.tmp 14) (.const (.int .i64 4000)))⟩,
 ⟨(some 16), none, (.pick (.tmp 12) (.const (.bool true)) (.tmp 15))⟩,
 ⟨(some 17), none, (.mv (.tmp 16))⟩,
 ⟨(some 18), (some (17, false)), (.fad 1 false 1 (.tmp 3))⟩,
 ⟨(some 19), (some (17, false)), (.ld false 1 (.tmp 18))⟩,
 ⟨(some 20), (some (17, false)), (.len (.tmp 19))⟩,
 ⟨(some 21), (some (17, false)), (.bin .eql (.tmp 20) (.const (.int .i64 0)))⟩,
 ⟨(some 22), none, (.pick (.tmp 17) (.const (.bool true)) (.tmp 21))⟩])
 (.cond (.tmp 22)
 (.seq
 (.ops [
 ⟨(some 6), none, (.mv (.const (.bool false)))⟩])
 .ret)
 .skip))
 (.seq
 (.seq
 (.ops [
 ⟨(some 7), none, (.mv (.const (.int .i64 0)))⟩])
 (.block 0
 (.loop
 (.seq
 (.seq
 (.ops [
 ⟨(some 23), none, (.mv (.tmp 7))⟩,
 ⟨(some 24), none, (.fad 1 false 1 (.tmp 3))⟩,
 ⟨(some 25), none, (.ld false 1 (.tmp 24))⟩,
 ⟨(some 26), none, (.len (.tmp 25))⟩,
 ⟨(some 27), none, (.bin .lss (.tmp 23) (.tmp 26))⟩])
 (.cond (.tmp 27)
 .skip
 (.exit 0)))
 (.seq
 (.block 1
 (.seq
 (.seq
 (.ops [
 ⟨(some 30), none, (.fad 1 false 1 (.tmp 3))⟩,
 ⟨(some 31), none, (.ld false 1 (.tmp 30))⟩,
 ⟨(some 32), none, (.mv (.tmp 7))⟩,
 ⟨(some 33), none, (.idx 5 (.tmp 31) (.tmp 32))⟩,
 ⟨(some 34), none, (.ld true 5 (.tmp 33))⟩,
 ⟨(some 35), none, (.fad 1 false 1 (.tmp 3))⟩,
 ⟨(some 36), none, (.ld false 1 (.tmp 35))⟩,
 ⟨(some 37), none, (.len (.tmp 36))⟩,
 ⟨(some 38), none, (.fad 0 false 1 (.tmp 3))⟩,
 ⟨(some 39), none, (.ld false 1 (.tmp 38))⟩,
 ⟨(some 40), none, (.call (.func 38) [(.tmp 34), (.tmp 37), (.tmp 39)])⟩,
 ⟨(some 41), none, (.un .not (.tmp 40))⟩])
 (.cond (.tmp 41)
 (.seq
 (.ops [
 ⟨(some 6), none, (.mv (.const (.bool false)))⟩])
 .ret)
 .skip))
 (.seq
 (.ops [
 ⟨(some 8), none, (.mv (.const (.int .i64 0)))⟩])
 (.block 2
 (.loop
 (.seq
 (.seq
 (.ops [
 ⟨(some 42), none, (.mv (.tmp 8))⟩,
 ⟨(some 43), none, (.fad 1 false 1 (.tmp 3))⟩,
 ⟨(some 44), none, (.ld false 1 (.tmp 43))⟩,
 ⟨(some 45), none, (.mv (.tmp 7))⟩,
 ⟨(some 46), none, (.idx 5 (.tmp 44) (.tmp 45))⟩,
 ⟨(some 47), none, (.fad 0 false 1 (.tmp 46))⟩,
 ⟨(some 48), none, (.ld false 1 (.tmp 47))⟩,
 ⟨(some 49), none, (.len (.tmp 48))⟩,
 ⟨(some 50), none, (.bin .lss (.tmp 42) (.tmp 49))⟩])
 (.cond (.tmp 50)
 .skip
 (.exit 2)))
 (.seq
 (.block 3
 (.seq
 (.ops [
 ⟨(some 53), none, (.fad 1 false 1 (.tmp 3))⟩,
 ⟨(some 54), none, (.ld false 1 (.tmp 53))⟩,
 ⟨(some 55), none, (.mv (.tmp 7))⟩,
 ⟨(some 56), none, (.idx 5 (.tmp 54) (.tmp 55))⟩,
 ⟨(some 57), none, (.fad 0 false 1 (.tmp 56))⟩,
 ⟨(some 58), none, (.ld false 1 (.tmp 57))⟩,
 ⟨(some 59), none, (.mv (.tmp 8))⟩,
 ⟨(some 60), none, (.idx 8 (.tmp 58) (.tmp 59))⟩,
 ⟨(some 61), none, (.ld true 8 (.tmp 60))⟩,
 ⟨(some 62), none, (.mv (.tmp 1))⟩,
 ⟨(some 63), none, (.fad 0 false 1 (.tmp 3))⟩,
 ⟨(some 64), none, (.ld false 1 (.tmp 63))⟩,
 ⟨(some 65), none, (.mv (.tmp 2))⟩,
 ⟨(some 66), none, (.call (.func 39) [(.tmp 61), (.tmp 62), (.tmp 64), (.tmp 65)])⟩,
 ⟨(some 67), none, (.un .not (.tmp 66))⟩])
 (.cond (.tmp 67)
 (.seq
 (.ops [
 ⟨(some 6), none, (.mv (.const (.bool false)))⟩])
 .ret)
 .skip)))
 (.ops [
 ⟨(some 51), none, (.mv (.tmp 8))⟩,
 ⟨(some 52), none, (.bin .add (.tmp 51) (.const (.int .i64 1)))⟩,
 ⟨(some 8), none, (.mv (.tmp 52))⟩]))))))))
 (.ops [
 ⟨(some 28), none, (.mv (.tmp 7))⟩,
 ⟨(some 29), none, (.bin .add (.tmp 28) (.const (.int .i64 1)))⟩,
 ⟨(some 7), none, (.mv (.tmp 29))⟩]))))))
 (.seq
 (.ops [
 ⟨(some 6), none, (.mv (.const (.bool true)))⟩])
 .ret))))
theorem f_scref24_One : compF Try.prog 20 = some (68, c_scref24_One, [(.tmp 6)]) := by kernel_rfl
def c_scref24_SizeFunc : VC :=
 (.seq
 (.ops [
 ⟨(some 1), none, (.box 24 (.tmp 0))⟩,
 ⟨(some 2), none, (.mv (.const (.int .i64 0)))⟩])
 (.seq
 (.ops [
 ⟨(some 5), none, (.fad 1 false 1 (.tmp 1))⟩,
 ⟨(some 6), none, (.ld false 1 (.tmp 5))⟩,
 ⟨(some 7), none, (.len (.tmp 6))⟩,
 ⟨(some 3), none, (.mv (.tmp 7))⟩])
 (.seq
 (.seq
 (.ops [
 ⟨(some 4), none, (.mv (.const (.int .i64 0)))⟩])
 (.block 0
 (.loop
 (.seq
 (.seq
 (.ops [
 ⟨(some 8), none, (.mv (.tmp 4))⟩,
 ⟨(some 9), none, (.fad 1 false 1 (.tmp 1))⟩,
 ⟨(some 10), none, (.ld false 1 (.tmp 9))⟩,
 ⟨(some 11), none, (.len (.tmp 10))⟩,
 ⟨(some 12), none, (.bin .lss (.tmp 8) (.tmp 11))⟩])
 (.cond (.tmp 12)
 .skip
 (.exit 0)))
 (.seq
 (.block 1
 (.ops [
 ⟨(some 15), none, (.mv (.tmp 3))⟩,
 ⟨(some 16), none, (.fad 1 false 1 (.tmp 1))⟩,
 ⟨(some 17), none, (.ld false 1 (.tmp 16))⟩,
 ⟨(some 18), none, (.mv (.tmp 4))⟩,
 ⟨(some 19), none, (.idx 5 (.tmp 17) (.tmp 18))⟩,
 ⟨(some 20), none, (.fad 0 false 1 (.tmp 19))⟩,
 ⟨(some 21), none, (.ld false 1 (.tmp 20))⟩,
 ⟨(some 22), none, (.len (.tmp 21))⟩,
 ⟨(some 23), none, (.bin .add (.tmp 15) (.tmp 22))⟩,
 ⟨(some 3), none, (.mv (.tmp 23))⟩]))
 (.ops [
 ⟨(some 13), none, (.mv (.tmp 4))⟩,
 ⟨(some 14), none, (.bin .add (.tmp 13) (.const (.int .i64 1)))⟩,
 ⟨(some 4), none, (.mv (.tmp 14))⟩]))))))
 (.seq
 (.ops [
 ⟨(some 24), none, (.mv (.tmp 3))⟩,
 ⟨(some 2), none, (.mv (.tmp 24))⟩])
 .ret))))
theorem f_scref24_SizeFunc : compF Try.prog 21 = some (25, c_scref24_SizeFunc, [(.tmp 2)]) := by kernel_rfl
def c_scref27_none : VC :=
 (.seq
 (.ops [
 ⟨(some 4), none, (.mv (.const (.slice none 0 0)))⟩])
 (.seq
 (.ops [
 ⟨(some 5), none, (.mv (.const (.slice none 0 0)))⟩])
 (.seq
 (.seq
 (.ops [
 ⟨(some 6), none, (.mv (.const (.int .i64 0)))⟩])
 (.block 0
 (.loop
 (.seq
 (.seq
 (.ops [
 ⟨(some 7), none, (.mv (.tmp 6))⟩,
 ⟨(some 8), none, (.mv (.tmp 0))⟩,
 ⟨(some 9), none, (.bin .lss (.tmp 7) (.tmp 8))⟩])
 (.cond (.tmp 9)
 .skip
 (.exit 0)))
 (.seq
 (.block 1
 (.ops [
 ⟨(some 12), none, (.mv (.tmp 5))⟩,
 ⟨(some 13), none, (.mv (.tmp 1))⟩,
 ⟨(some 14), none, (.mk 4 1 1 [(.bool false)] (.tmp 13) (.tmp 13))⟩,
 ⟨(some 15), none, (.bsl 64 1 1 [(.slice none 0 0)] [(0, (1, (.tmp 14)))])⟩,
 ⟨(some 16), none, (.app 64 1 24 (.tmp 12) (.tmp 15))⟩,
 ⟨(some 5), none, (.mv (.tmp 16))⟩]))
 (.ops [
 ⟨(some 10), none, (.mv (.tmp 6))⟩,
 ⟨(some 11), none, (.bin .add (.tmp 10) (.const (.int .i64 1)))⟩,
 ⟨(some 6), none, (.mv (.tmp 11))⟩]))))))
 (.seq
 (.ops [
 ⟨(some 17), none, (.mv (.tmp 5))⟩,
 ⟨(some 4), none, (.mv (.tmp 17))⟩])
 .ret))))
theorem f_scref27_none : compF Try.prog 22 = some (18, c_scref27_none, [(.tmp 4)]) := by kernel_rfl
def c_scref26_Next : VC :=
 (.seq
 (.ops [
 ⟨(some 1), none, (.box 24 (.tmp 0))⟩,
 ⟨(some 2), none, (.mv (.const (.slice none 0 0)))⟩])
 (.seq
 (.ops [
 ⟨(some 6), none, (.fad 1 false 1 (.tmp 1))⟩,
 ⟨(some 7), none, (.ld false 1 (.tmp 6))⟩,
 ⟨(some 8), none, (.len (.tmp 7))⟩,
 ⟨(some 9), none, (.mk 31 1 24 [(.slice none 0 0)] (.tmp 8) (.tmp 8))⟩,
 ⟨(some 3), none, (.mv (.tmp 9))⟩])
 (.seq
 (.seq
 (.ops [
 ⟨(some 4), none, (.mv (.const (.int .i64 0)))⟩])
 (.block 0
 (.loop
 (.seq
 (.seq
 (.ops [
 ⟨(some 10), none, (.mv (.tmp 4))⟩,
 ⟨(some 11), none, (.fad 1 false 1 (.tmp 1))⟩,
 ⟨(some 12), none, (.ld false 1 (.tmp 11))⟩,
 ⟨(some 13), none, (.len (.tmp 12))⟩,
 ⟨(some 14), none, (.bin .lss (.tmp 10) (.tmp 13))⟩])
 (.cond (.tmp 14)
 .skip
 (.exit 0)))
 (.seq
 (.block 1
 (.seq
 (.ops [
 ⟨(some 17), none, (.fad 1 false 1 (.tmp 1))⟩,
 ⟨(some 18), none, (.ld false 1 (.tmp 17))⟩,
 ⟨(some 19), none, (.mv (.tmp 4))⟩,
 ⟨(some 20), none, (.idx 5 (.tmp 18) (.tmp 19))⟩,
 ⟨(some 21), none, (.ld true 5 (.tmp 20))⟩,
 ⟨(some 5), none, (.alc 60 [(.slice none 0 0), (.int .i64 0), (.int .i64 0), (.int .i64 0), (.int .i64 0)])⟩,
 ⟨none, none, (.sto true 5 (.tmp 5) (.tmp 21))⟩])
 (.seq
 (.seq
 (.ops [
 ⟨(some 22), none, (.fad 1 false 1 (.tmp 5))⟩,
 ⟨(some 23), none, (.ld false 1 (.tmp 22))⟩,
 ⟨(some 24), none, (.bin .eql (.tmp 23) (.const (.int .i64 1)))⟩])
 (.cond (.tmp 24)
 (.ops [
 ⟨(some 25), none, (.mv (.tmp 3))⟩,
 ⟨(some 26), none, (.mv (.tmp 4))⟩,
 ⟨(some 27), none, (.fad 3 false 1 (.tmp 5))⟩,
 ⟨(some 28), none, (.ld false 1 (.tmp 27))⟩,
 ⟨(some 29), none, (.bsl 3 1 1 [(.int .i64 0)] [(0, (1, (.tmp 28)))])⟩,
 ⟨(some 30), none, (.idx 1 (.tmp 25) (.tmp 26))⟩,
 ⟨none, none, (.sto false 1 (.tmp 30) (.tmp 29))⟩])
 .skip))
 (.seq
 (.ops [
 ⟨(some 31), none, (.fad 1 false 1 (.tmp 5))⟩,
 ⟨(some 32), none, (.ld false 1 (.tmp 31))⟩,
 ⟨(some 33), none, (.bin .eql (.tmp 32) (.const (.int .i64 2)))⟩])
 (.cond (.tmp 33)
 (.ops [
 ⟨(some 34), none, (.mv (.tmp 3))⟩,
 ⟨(some 35), none, (.mv (.tmp 4))⟩,
 ⟨(some 36), none, (.fad 3 false 1 (.tmp 5))⟩,
 ⟨(some 37), none, (.ld false 1 (.tmp 36))⟩,
 ⟨(some 38), none, (.fad 4 false 1 (.tmp 5))⟩,
 ⟨(some 39), none, (.ld false 1 (.tmp 38))⟩,
 ⟨(some 40), none, (.bsl 3 1 2 [(.int .i64 0), (.int .i64 0)] [(0, (1, (.tmp 37))), (1, (1, (.tmp 39)))])⟩,
 ⟨(some 41), none, (.idx 1 (.tmp 34) (.tmp 35))⟩,
 ⟨none, none, (.sto false 1 (.tmp 41) (.tmp 40))⟩])
 .skip)))))
 (.ops [
 ⟨(some 15), none, (.mv (.tmp 4))⟩,
 ⟨(some 16), none, (.bin .add (.tmp 15) (.const (.int .i64 1)))⟩,
 ⟨(some 4), none, (.mv (.tmp 16))⟩]))))))
 (.seq
 (.ops [
 ⟨(some 42), none, (.mv (.tmp 3))⟩,
 ⟨(some 2), none, (.mv (.tmp 42))⟩])
 .ret))))
theorem f_scref26_Next : compF Try.prog 23 = some (43, c_scref26_Next, [(.tmp 2)]) := by kernel_rfl
def c_scref27_ahead : VC :=
 (.seq
 (.ops [
 ⟨(some 2), none, (.box 60 (.tmp 0))⟩,
 ⟨(some 4), none, (.mv (.const (.slice none 0 0)))⟩])
 (.seq
 (.ops [
 ⟨(some 7), none, (.ld true 5 (.tmp 2))⟩,
 ⟨(some 8), none, (.mv (.tmp 1))⟩,
 ⟨(some 9), none, (.call (.func 40) [(.tmp 7), (.tmp 8)])⟩,
 ⟨(some 5), none, (.mv (.tmp 9))⟩])
 (.seq
 (.seq
 (.ops [
 ⟨(some 10), none, (.fad 0 false 1 (.tmp 2))⟩,
 ⟨(some 11), none, (.ld false 1 (.tmp 10))⟩,
 ⟨(some 12), none, (.len (.tmp 11))⟩,
 ⟨(some 13), none, (.bin .sub (.tmp 12) (.const (.int .i64 1)))⟩,
 ⟨(some 6), none, (.mv (.tmp 13))⟩])
 (.block 0
 (.loop
 (.seq
 (.seq
 (.ops [
 ⟨(some 14), none, (.mv (.tmp 6))⟩,
 ⟨(some 15), none, (.bin .geq (.tmp 14) (.const (.int .i64 0)))⟩])
 (.cond (.tmp 15)
 .skip
 (.exit 0)))
 (.seq
 (.block 1
 (.ops [
 ⟨(some 18), none, (.fad 0 false 1 (.tmp 2))⟩,
 ⟨(some 19), none, (.ld false 1 (.tmp 18))⟩,
 ⟨(some 20), none, (.mv (.tmp 6))⟩,
 ⟨(some 21), none, (.idx 8 (.tmp 19) (.tmp 20))⟩,
 ⟨(some 22), none, (.ld true 8 (.tmp 21))⟩,
 ⟨(some 23), none, (.mv (.tmp 5))⟩,
 ⟨(some 24), none, (.call (.func 41) [(.tmp 22), (.tmp 23)])⟩,
 ⟨(some 5), none, (.mv (.tmp 24))⟩]))
 (.ops [
 ⟨(some 16), none, (.mv (.tmp 6))⟩,
 ⟨(some 17), none, (.bin .sub (.tmp 16) (.const (.int .i64 1)))⟩,
 ⟨(some 6), none, (.mv (.tmp 17))⟩]))))))
 (.seq
 (.ops [
 ⟨(some 25), none, (.mv (.tmp 5))⟩,
 ⟨(some 4), none, (.mv (.tmp 25))⟩])
 .ret))))
theorem f_scref27_ahead : compF Try.prog 24 = some (26, c_scref27_ahead, [(.tmp 4)]) := by kernel_rfl
def c_alloc_clashes : VC :=
 (.seq
 (.ops [
 ⟨(some 2), none, (.box 24 (.tmp 0))⟩,
 ⟨(some 3), none, (.box 29 (.tmp 1))⟩,
 ⟨(some 4), none, (.mv (.const (.slice none 0 0)))⟩,
 ⟨(some 5), none, (.mv (.const (.slice none 0 0)))⟩])
 (.seq
 (.ops [
 ⟨(some 19), none, (.fad 0 false 1 (.tmp 2))⟩,
 ⟨(some 20), none, (.ld false 1 (.tmp 19))⟩,
 ⟨(some 21), none, (.mk 68 1 24 [(.slice none 0 0)] (.tmp 20) (.tmp 20))⟩,
 ⟨(some 6), none, (.mv (.tmp 21))⟩])
 (.seq
 (.seq
 (.ops [
 ⟨(some 22), none, (.mv (.tmp 6))⟩,
 ⟨(some 23), none, (.len (.tmp 22))⟩,
 ⟨(some 24), none, (.mv (.const (.int .i64 0)))⟩])
 (.block 0
 (.loop
 (.seq
 (.ops [
 ⟨(some 25), none, (.bin .lss (.tmp 24) (.tmp 23))⟩])
 (.seq
 (.cond (.tmp 25)
 .skip
 (.exit 0))
 (.seq
 (.block 1
 (.seq
 (.ops [
 ⟨(some 26), none, (.mv (.tmp 24))⟩,
 ⟨(some 7), none, (.mv (.tmp 26))⟩])
 (.ops [
 ⟨(some 27), none, (.mv (.tmp 6))⟩,
 ⟨(some 28), none, (.mv (.tmp 7))⟩,
 ⟨(some 29), none, (.fad 0 false 1 (.tmp 2))⟩,
 ⟨(some 30), none, (.ld false 1 (.tmp 29))⟩,
 ⟨(some 31), none, (.call (.func 42) [(.tmp 30)])⟩,
 ⟨(some 32), none, (.idx 1 (.tmp 27) (.tmp 28))⟩,
 ⟨none, none, (.sto false 1 (.tmp 32) (.tmp 31))⟩])))
 (.ops [
 ⟨(some 33), none, (.bin .add (.tmp 24) (.const (.int .i64 1)))⟩,
 ⟨(some 24), none, (.mv (.tmp 33))⟩])))))))
 (.seq
 (.ops [
 ⟨(some 34), none, (.fad 0 false 1 (.tmp 2))⟩,
 ⟨(some 35), none, (.ld false 1 (.tmp 34))⟩,
 ⟨(some 36), none, (.call (.func 42) [(.tmp 35)])⟩,
 ⟨(some 8), none, (.mv (.tmp 36))⟩])
 (.seq
 (.ops [
 ⟨(some 37), none, (.fad 0 false 1 (.tmp 3))⟩,
 ⟨(some 38), none, (.ld false 1 (.tmp 37))⟩,
 ⟨(some 39), none, (.idx 1 (.tmp 38) (.const (.int .i64 0)))⟩,
 ⟨(some 40), none, (.ld false 1 (.tmp 39))⟩,
 ⟨(some 41), none, (.call (.func 43) [(.tmp 40)])⟩,
 ⟨(some 9), none, (.mv (.tmp 41))⟩])
 (.seq
 (.seq
 (.ops [
 ⟨(some 42), none, (.mv (.tmp 6))⟩,
 ⟨(some 43), none, (.len (.tmp 42))⟩,
 ⟨(some 44), none, (.mv (.const (.int .i64 0)))⟩])
 (.block 2
 (.loop
 (.seq
 (.ops [
 ⟨(some 45), none, (.bin .lss (.tmp 44) (.tmp 43))⟩])
 (.seq
 (.cond (.tmp 45)
 .skip
 (.exit 2))
 (.seq
 (.block 3
 (.seq
 (.ops [
 ⟨(some 46), none, (.mv (.tmp 44))⟩,
 ⟨(some 10), none, (.mv (.tmp 46))⟩])
 (.seq
 (.ops [
 ⟨(some 47), none, (.mv (.tmp 9))⟩,
 ⟨(some 48), none, (.mv (.tmp 10))⟩,
 ⟨(some 49), none, (.call (.func 26) [(.tmp 47), (.tmp 48)])⟩])
 (.cond (.tmp 49)
 (.ops [
 ⟨(some 50), none, (.mv (.tmp 6))⟩,
 ⟨(some 51), none, (.mv (.tmp 10))⟩,
 ⟨(some 52), none, (.idx 1 (.tmp 50) (.tmp 51))⟩,
 ⟨(some 53), none, (.ld false 1 (.tmp 52))⟩,
 ⟨(some 54), none, (.mv (.tmp 9))⟩,
 ⟨(some 55), none, (.call (.func 44) [(.tmp 53), (.tmp 54)])⟩])
 .skip))))
 (.ops [
 ⟨(some 56), none, (.bin .add (.tmp 44) (.const (.int .i64 1)))⟩,
 ⟨(some 44), none, (.mv (.tmp 56))⟩])))))))
 (.seq
 (.seq
 (.ops [
 ⟨(some 57), none, (.fad 1 false 1 (.tmp 2))⟩,
 ⟨(some 58), none, (.ld false 1 (.tmp 57))⟩,
 ⟨(some 59), none, (.len (.tmp 58))⟩,
 ⟨(some 60), none, (.mv (.const (.int .i64 0)))⟩])
 (.block 4
 (.loop
 (.seq
 (.ops [
 ⟨(some 61), none, (.bin .lss (.tmp 60) (.tmp 59))⟩])
 (.seq
 (.cond (.tmp 61)
 .skip
 (.exit 4))
 (.seq
 (.block 5
 (.seq
 (.ops [
 ⟨(some 62), none, (.mv (.tmp 60))⟩,
 ⟨(some 63), none, (.idx 5 (.tmp 58) (.tmp 60))⟩,
 ⟨(some 64), none, (.ld true 5 (.tmp 63))⟩,
 ⟨(some 12), none, (.alc 60 [(.slice none 0 0), (.int .i64 0), (.int .i64 0), (.int .i64 0), (.int .i64 0)])⟩,
 ⟨(some 11), none, (.mv (.tmp 62))⟩,
 ⟨none, none, (.sto true 5 (.tmp 12) (.tmp 64))⟩])
 (.seq
 (.ops [
 ⟨(some 65), none, (.fad 1 false 1 (.tmp 3))⟩,
 ⟨(some 66), none, (.ld false 1 (.tmp 65))⟩,
 ⟨(some 67), none, (.mv (.tmp 11))⟩,
 ⟨(some 68), none, (.idx 1 (.tmp 66) (.tmp 67))⟩,
 ⟨(some 69), none, (.ld false 1 (.tmp 68))⟩,
 ⟨(some 70), none, (.call (.func 43) [(.tmp 69)])⟩,
 ⟨(some 13), none, (.mv (.tmp 70))⟩])
 (.seq
 (.seq
 (.ops [
 ⟨(some 71), none, (.fad 1 false 1 (.tmp 12))⟩,
 ⟨(some 72), none, (.ld false 1 (.tmp 71))⟩,
 ⟨(some 73), none, (.bin .eql (.tmp 72) (.const (.int .i64 2)))⟩])
 (.cond (.tmp 73)
 (.ops [
 ⟨(some 74), none, (.mv (.tmp 13))⟩,
 ⟨(some 75), none, (.fad 2 false 1 (.tmp 12))⟩,
 ⟨(some 76), none, (.ld false 1 (.tmp 75))⟩,
 ⟨(some 77), none, (.call (.func 45) [(.tmp 74), (.tmp 76)])⟩])
 .skip))
 (.seq
 (.ops [
 ⟨(some 78), none, (.fad 0 false 1 (.tmp 12))⟩,
 ⟨(some 79), none, (.ld false 1 (.tmp 78))⟩,
 ⟨(some 80), none, (.len (.tmp 79))⟩,
 ⟨(some 81), none, (.bin .sub (.tmp 80) (.const (.int .i64 1)))⟩,
 ⟨(some 14), none, (.mv (.tmp 81))⟩])
 (.block 6
 (.loop
 (.seq
 (.seq
 (.ops [
 ⟨(some 82), none, (.mv (.tmp 14))⟩,
 ⟨(some 83), none, (.bin .geq (.tmp 82) (.const (.int .i64 0)))⟩])
 (.cond (.tmp 83)
 .skip
 (.exit 6)))
 (.seq
 (.block 7
 (.seq
 (.ops [
 ⟨(some 86), none, (.fad 0 false 1 (.tmp 12))⟩,
 ⟨(some 87), none, (.ld false 1 (.tmp 86))⟩,
 ⟨(some 88), none, (.mv (.tmp 14))⟩,
 ⟨(some 89), none, (.idx 8 (.tmp 87) (.tmp 88))⟩,
 ⟨(some 90), none, (.ld true 8 (.tmp 89))⟩,
 ⟨(some 15), none, (.alc 57 [(.int .i64 0), (.int .i64 0), (.int .i64 0), (.int .i64 0), (.int .i64 0), (.int .i64 0), (.int .i64 0), (.int .u32 0)])⟩,
 ⟨none, none, (.sto true 8 (.tmp 15) (.tmp 90))⟩])
 (.seq
 (.seq
 (.ops [
 ⟨(some 91), none, (.fad 0 false 1 (.tmp 15))⟩,
 ⟨(some 92), none, (.ld false 1 (.tmp 91))⟩,
 ⟨(some 93), none, (.bin .eql (.tmp 92) (.const (.int .i64 10)))⟩])
 (.cond (.tmp 93)
 (.ops [
 ⟨(some 94), none, (.mv (.tmp 8))⟩,
 ⟨(some 95), none, (.mv (.tmp 13))⟩,
 ⟨(some 96), none, (.call (.func 44) [(.tmp 94), (.tmp 95)])⟩])
 .skip))
 (.seq
 (.seq
 (.ops [
 ⟨(some 97), none, (.ld true 8 (.tmp 15))⟩,
 ⟨(some 98), none, (.call (.func 46) [(.tmp 97)])⟩,
 ⟨(some 16), none, (.mv (.tmp 98))⟩])
 (.seq
 (.ops [
 ⟨(some 99), none, (.mv (.tmp 16))⟩,
 ⟨(some 100), none, (.bin .geq (.tmp 99) (.const (.int .i64 0)))⟩])
 (.cond (.tmp 100)
 (.seq
 (.ops [
 ⟨(some 101), none, (.mv (.tmp 6))⟩,
 ⟨(some 102), none, (.mv (.tmp 16))⟩,
 ⟨(some 103), none, (.idx 1 (.tmp 101) (.tmp 102))⟩,
 ⟨(some 104), none, (.ld false 1 (.tmp 103))⟩,
 ⟨(some 105), none, (.mv (.tmp 13))⟩,
 ⟨(some 106), none, (.call (.func 44) [(.tmp 104), (.tmp 105)])⟩])
 (.ops [
 ⟨(some 107), none, (.mv (.tmp 13))⟩,
 ⟨(some 108), none, (.mv (.tmp 16))⟩,
 ⟨(some 109), none, (.call (.func 47) [(.tmp 107), (.tmp 108)])⟩]))
 .skip)))
 (.seq
 (.ops [
 ⟨(some 110), none, (.ld true 8 (.tmp 15))⟩,
 ⟨(some 111), none, (.call (.func 48) [(.tmp 110)])⟩,
 ⟨(some 112), none, (.len (.tmp 111))⟩,
 ⟨(some 113), none, (.mv (.const (.int .i64 0)))⟩])
 (.block 8
 (.loop
 (.seq
 (.ops [
 ⟨(some 114), none, (.bin .lss (.tmp 113) (.tmp 112))⟩])
 (.seq
 (.cond (.tmp 114)
 .skip
 (.exit 8))
 (.seq
 (.block 9
 (.seq
 (.ops [
 ⟨(some 115), none, (.idx 1 (.tmp 111) (.tmp 113))⟩,
 ⟨(some 116), none, (.ld false 1 (.tmp 115))⟩,
 ⟨(some 18), none, (.mv (.tmp 116))⟩])
 (.ops [
 ⟨(some 117), none, (.mv (.tmp 13))⟩,
 ⟨(some 118), none, (.mv (.tmp 18))⟩,
 ⟨(some 119), none, (.call (.func 45) [(.tmp 117), (.tmp 118)])⟩])))
 (.ops [
 ⟨(some 120), none, (.bin .add (.tmp 113) (.const (.int .i64 1)))⟩,
 ⟨(some 113), none, (.mv (.tmp 120))⟩])))))))))))
 (.ops [
 ⟨(some 84), none, (.mv (.tmp 14))⟩,
 ⟨(some 85), none, (.bin .sub (.tmp 84) (.const (.int .i64 1)))⟩,
 ⟨(some 14), none, (.mv (.tmp 85))⟩]))))))))))
 (.ops [
 ⟨(some 121), none, (.bin .add (.tmp 60) (.const (.int .i64 1)))⟩,
 ⟨(some 60), none, (.mv (.tmp 121))⟩])))))))
 (.seq
 (.ops [
 ⟨(some 122), none, (.mv (.tmp 6))⟩,
 ⟨(some 123), none, (.mv (.tmp 8))⟩,
 ⟨(some 4), none, (.mv (.tmp 122))⟩,
 ⟨(some 5), none, (.mv (.tmp 123))⟩])
 .ret))))))))
theorem f_alloc_clashes : compF Try.prog 25 = some (124, c_alloc_clashes, [(.tmp 4), (.tmp 5)]) := by kernel_rfl
def c_alloc_bits_has : VC :=
 (.seq
 (.ops [
 ⟨(some 4), none, (.mv (.const (.bool false)))⟩])
 (.seq
 (.ops [
 ⟨(some 5), none, (.mv (.tmp 0))⟩,
 ⟨(some 6), none, (.mv (.tmp 1))⟩,
 ⟨(some 7), none, (.bin .quo (.tmp 6) (.const (.int .i64 64)))⟩,
 ⟨(some 8), none, (.idx 1 (.tmp 5) (.tmp 7))⟩,
 ⟨(some 9), none, (.ld false 1 (.tmp 8))⟩,
 ⟨(some 10), none, (.mv (.tmp 1))⟩,
 ⟨(some 11), none, (.bin .rem (.tmp 10) (.const (.int .i64 64)))⟩,
 ⟨(some 12), none, (.bin .shr (.tmp 9) (.tmp 11))⟩,
 ⟨(some 13), none, (.bin .and (.tmp 12) (.const (.int .u64 1)))⟩,
 ⟨(some 14), none, (.bin .neq (.tmp 13) (.const (.int .u64 0)))⟩,
 ⟨(some 4), none, (.mv (.tmp 14))⟩])
 .ret))
theorem f_alloc_bits_has : compF Try.prog 26 = some (15, c_alloc_bits_has, [(.tmp 4)]) := by kernel_rfl
def c_alloc_free : VC :=
 (.seq
 (.ops [
 ⟨(some 8), none, (.mv (.const (.int .i64 0)))⟩])
 (.seq
 (.seq
 (.ops [
 ⟨(some 11), none, (.mv (.tmp 3))⟩,
 ⟨(some 12), none, (.un .not (.tmp 11))⟩])
 (.cond (.tmp 12)
 (.seq
 (.ops [
 ⟨(some 9), none, (.mv (.const (.int .i64 1)))⟩])
 (.block 0
 (.loop
 (.seq
 (.seq
 (.ops [
 ⟨(some 13), none, (.mv (.tmp 9))⟩,
 ⟨(some 14), none, (.mv (.tmp 0))⟩,
 ⟨(some 15), none, (.len (.tmp 14))⟩,
 ⟨(some 16), none, (.bin .lss (.tmp 13) (.tmp 15))⟩])
 (.cond (.tmp 16)
 .skip
 (.exit 0)))
 (.seq
 (.block 1
 (.seq
 (.ops [
 ⟨(some 19), none, (.mv (.tmp 0))⟩,
 ⟨(some 20), none, (.mv (.tmp 9))⟩,
 ⟨(some 21), none, (.idx 1 (.tmp 19) (.tmp 20))⟩,
 ⟨(some 22), none, (.ld false 1 (.tmp 21))⟩,
 ⟨(some 23), none, (.mv (.tmp 2))⟩,
 ⟨(some 24), none, (.bin .neq (.tmp 22) (.tmp 23))⟩])
 (.cond (.tmp 24)
 (.seq
 (.ops [
 ⟨(some 25), none, (.mv (.tmp 9))⟩,
 ⟨(some 8), none, (.mv (.tmp 25))⟩])
 .ret)
 .skip)))
 (.ops [
 ⟨(some 17), none, (.mv (.tmp 9))⟩,
 ⟨(some 18), none, (.bin .add (.tmp 17) (.const (.int .i64 1)))⟩,
 ⟨(some 9), none, (.mv (.tmp 18))⟩]))))))
 .skip))
 (.seq
 (.ops [
 ⟨(some 10), none, (.mv (.const (.int .i64 1)))⟩])
 (.seq
 (.block 2
 (.loop
 (.seq
 (.seq
 (.ops [
 ⟨(some 26), none, (.mv (.tmp 1))⟩,
 ⟨(some 27), none, (.mv (.tmp 10))⟩,
 ⟨(some 28), none, (.idx 1 (.tmp 26) (.tmp 27))⟩,
 ⟨(some 29), none, (.ld false 1 (.tmp 28))⟩,
 ⟨(some 30), none, (.mv (.tmp 2))⟩,
 ⟨(some 31), none, (.bin .eql (.tmp 29) (.tmp 30))⟩])
 (.cond (.tmp 31)
 .skip
 (.exit 2)))
 (.block 3
 (.ops [
 ⟨(some 32), none, (.mv (.tmp 10))⟩,
 ⟨(some 33), none, (.bin .add (.tmp 32) (.const (.int .i64 1)))⟩,
 ⟨(some 10), none, (.mv (.tmp 33))⟩])))))
 (.seq
 (.ops [
 ⟨(some 34), none, (.mv (.tmp 10))⟩,
 ⟨(some 35), none, (.un .neg (.tmp 34))⟩,
 ⟨(some 8), none, (.mv (.tmp 35))⟩])
 .ret)))))
theorem f_alloc_free : compF Try.prog 27 = some (36, c_alloc_free, [(.tmp 8)]) := by kernel_rfl
def c_scref27_Check : VC :=
 (.seq
 (.ops [
 ⟨(some 2), none, (.box 24 (.tmp 0))⟩,
 ⟨(some 3), none, (.box 29 (.tmp 1))⟩,
 ⟨(some 4), none, (.mv (.const (.bool false)))⟩])
 (.seq
 (.seq
 (.ops [
 ⟨(some 8), none, (.ld true 2 (.tmp 2))⟩,
 ⟨(some 9), none, (.ld true 2 (.tmp 3))⟩,
 ⟨(some 10), none, (.call (.func 49) [(.tmp 8), (.tmp 9)])⟩,
 ⟨(some 11), none, (.un .not (.tmp 10))⟩])
 (.cond (.tmp 11)
 (.seq
 (.ops [
 ⟨(some 4), none, (.mv (.const (.bool false)))⟩])
 .ret)
 .skip))
 (.seq
 (.ops [
 ⟨(some 12), none, (.ld true 2 (.tmp 2))⟩,
 ⟨(some 13), none, (.call (.func 23) [(.tmp 12)])⟩,
 ⟨(some 5), none, (.mv (.tmp 13))⟩])
 (.seq
 (.seq
 (.ops [
 ⟨(some 6), none, (.mv (.const (.int .i64 0)))⟩])
 (.block 0
 (.loop
 (.seq
 (.seq
 (.ops [
 ⟨(some 14), none, (.mv (.tmp 6))⟩,
 ⟨(some 15), none, (.fad 1 false 1 (.tmp 2))⟩,
 ⟨(some 16), none, (.ld false 1 (.tmp 15))⟩,
 ⟨(some 17), none, (.len (.tmp 16))⟩,
 ⟨(some 18), none, (.bin .lss (.tmp 14) (.tmp 17))⟩])
 (.cond (.tmp 18)
 .skip
 (.exit 0)))
 (.seq
 (.block 1
 (.seq
 (.seq
 (.ops [
 ⟨(some 7), none, (.mv (.const (.int .i64 0)))⟩])
 (.block 2
 (.loop
 (.seq
 (.seq
 (.ops [
 ⟨(some 21), none, (.mv (.tmp 7))⟩,
 ⟨(some 22), none, (.mv (.tmp 5))⟩,
 ⟨(some 23), none, (.mv (.tmp 6))⟩,
 ⟨(some 24), none, (.idx 1 (.tmp 22) (.tmp 23))⟩,
 ⟨(some 25), none, (.ld false 1 (.tmp 24))⟩,
 ⟨(some 26), none, (.len (.tmp 25))⟩,
 ⟨(some 27), none, (.bin .lss (.tmp 21) (.tmp 26))⟩])
 (.cond (.tmp 27)
 .skip
 (.exit 2)))
 (.seq
 (.block 3
 (.seq
 (.ops [
 ⟨(some 30), none, (.fad 0 false 1 (.tmp 3))⟩,
 ⟨(some 31), none, (.ld false 1 (.tmp 30))⟩,
 ⟨(some 32), none, (.mv (.tmp 5))⟩,
 ⟨(some 33), none, (.mv (.tmp 6))⟩,
 ⟨(some 34), none, (.idx 1 (.tmp 32) (.tmp 33))⟩,
 ⟨(some 35), none, (.ld false 1 (.tmp 34))⟩,
 ⟨(some 36), none, (.mv (.tmp 7))⟩,
 ⟨(some 37), none, (.idx 1 (.tmp 35) (.tmp 36))⟩,
 ⟨(some 38), none, (.ld false 1 (.tmp 37))⟩,
 ⟨(some 39), none, (.idx 1 (.tmp 31) (.tmp 38))⟩,
 ⟨(some 40), none, (.ld false 1 (.tmp 39))⟩,
 ⟨(some 41), none, (.fad 1 false 1 (.tmp 3))⟩,
 ⟨(some 42), none, (.ld false 1 (.tmp 41))⟩,
 ⟨(some 43), none, (.mv (.tmp 6))⟩,
 ⟨(some 44), none, (.idx 1 (.tmp 42) (.tmp 43))⟩,
 ⟨(some 45), none, (.ld false 1 (.tmp 44))⟩,
 ⟨(some 46), none, (.call (.func 50) [(.tmp 40), (.tmp 45)])⟩,
 ⟨(some 47), none, (.un .not (.tmp 46))⟩])
 (.cond (.tmp 47)
 (.seq
 (.ops [
 ⟨(some 4), none, (.mv (.const (.bool false)))⟩])
 .ret)
 .skip)))
 (.ops [
 ⟨(some 28), none, (.mv (.tmp 7))⟩,
 ⟨(some 29), none, (.bin .add (.tmp 28) (.const (.int .i64 1)))⟩,
 ⟨(some 7), none, (.mv (.tmp 29))⟩]))))))
 (.seq
 (.par false (.one ⟨(some 48), none, (.fad 1 false 1 (.tmp 2))⟩ (.one ⟨(some 49), none, (.ld false 1 (.tmp 48))⟩ (.one ⟨(some 50), none, (.mv (.tmp 6))⟩ (.one ⟨(some 51), none, (.idx 5 (.tmp 49) (.tmp 50))⟩ (.one ⟨(some 52), none, (.ld true 5 (.tmp 51))⟩ (.one ⟨(some 53), none, (.fad 1 false 1 (.tmp 3))⟩ (.one ⟨(some 54), none, (.ld false 1 (.tmp 53))⟩ (.one ⟨(some 55), none, (.mv (.tmp 6))⟩ (.one ⟨(some 56), none, (.idx 1 (.tmp 54) (.tmp 55))⟩ (.one ⟨(some 57), none, (.ld false 1 (.tmp 56))⟩ (.one ⟨(some 58), none, (.call (.func 24) [(.tmp 52), (.tmp 57)])⟩ (.one ⟨(some 59), none, (.fad 0 false 1 (.tmp 3))⟩ (.one ⟨(some 60), none, (.ld false 1 (.tmp 59))⟩ (.one ⟨(some 61), none, (.mv (.tmp 6))⟩ (.one ⟨(some 62), none, (.idx 1 (.tmp 60) (.tmp 61))⟩ (.one ⟨(some 63), none, (.ld false 1 (.tmp 62))⟩ (.one ⟨(some 64), none, (.call (.func 50) [(.tmp 58), (.tmp 63)])⟩ (.one ⟨(some 65), none, (.un .not (.tmp 64))⟩ .done)))))))))))))))))))
 (.cond (.tmp 65)
 (.seq
 (.ops [
 ⟨(some 4), none, (.mv (.const (.bool false)))⟩])
 .ret)
 .skip))))
 (.ops [
 ⟨(some 19), none, (.mv (.tmp 6))⟩,
 ⟨(some 20), none, (.bin .add (.tmp 19) (.const (.int .i64 1)))⟩,
 ⟨(some 6), none, (.mv (.tmp 20))⟩]))))))
 (.seq
 (.ops [
 ⟨(some 4), none, (.mv (.const (.bool true)))⟩])
 .ret)))))
theorem f_scref27_Check : compF Try.prog 28 = some (66, c_scref27_Check, [(.tmp 4)]) := by kernel_rfl
def c_scref28_places : VC :=
 (.seq
 (.ops [
 ⟨(some 3), none, (.box 33 (.tmp 0))⟩,
 ⟨(some 6), none, (.mv (.const (.bool false)))⟩])
 (.seq
 (.seq
 (.ops [
 ⟨(some 9), none, (.fad 0 false 1 (.tmp 3))⟩,
 ⟨(some 10), none, (.ld false 1 (.tmp 9))⟩,
 ⟨(some 11), none, (.len (.tmp 10))⟩,
 ⟨(some 12), none, (.mv (.tmp 1))⟩,
 ⟨(some 13), none, (.bin .neq (.tmp 11) (.tmp 12))⟩])
 (.cond (.tmp 13)
 (.seq
 (.ops [
 ⟨(some 6), none, (.mv (.const (.bool false)))⟩])
 .ret)
 .skip))
 (.seq
 (.seq
 (.ops [
 ⟨(some 7), none, (.mv (.const (.int .i64 0)))⟩])
 (.block 0
 (.loop
 (.seq
 (.seq
 (.ops [
 ⟨(some 14), none, (.mv (.tmp 7))⟩,
 ⟨(some 15), none, (.fad 0 false 1 (.tmp 3))⟩,
 ⟨(some 16), none, (.ld false 1 (.tmp 15))⟩,
 ⟨(some 17), none, (.len (.tmp 16))⟩,
 ⟨(some 18), none, (.bin .lss (.tmp 14) (.tmp 17))⟩])
 (.cond (.tmp 18)
 .skip
 (.exit 0)))
 (.seq
 (.block 1
 (.seq
 (.ops [
 ⟨(some 21), none, (.fad 0 false 1 (.tmp 3))⟩,
 ⟨(some 22), none, (.ld false 1 (.tmp 21))⟩,
 ⟨(some 23), none, (.mv (.tmp 7))⟩,
 ⟨(some 24), none, (.idx 1 (.tmp 22) (.tmp 23))⟩,
 ⟨(some 25), none, (.ld false 1 (.tmp 24))⟩,
 ⟨(some 8), none, (.mv (.tmp 25))⟩])
 (.seq
 (.ops [
 ⟨(some 26), none, (.mv (.tmp 8))⟩,
 ⟨(some 27), none, (.bin .lss (.tmp 26) (.const (.int .i64 (-4000))))⟩,
 ⟨(some 28), none, (.mv (.tmp 27))⟩,
 ⟨(some 29), (some (28, false)), (.mv (.tmp 8))⟩,
 ⟨(some 30), (some (28, false)), (.bin .eql (.tmp 29) (.const (.int .i64 0)))⟩,
 ⟨(some 31), none, (.pick (.tmp 28) (.const (.bool true)) (.tmp 30))⟩,
 ⟨(some 32), none, (.mv (.tmp 31))⟩,
 ⟨(some 33), (some (32, false)), (.mv (.tmp 8))⟩,
 ⟨(some 34), (some (32, false)), (.bin .gtr (.tmp 33) (.const (.int .i64 0)))⟩,
 ⟨(some 35), (some (32, false)), (.mv (.tmp 34))⟩,
 ⟨(some 36), (some (35, true)), (.mv (.tmp 8))⟩,
 ⟨(some 37), (some (35, true)), (.mv (.tmp 2))⟩,
 ⟨(some 38), (some (35, true)), (.bin .gtr (.tmp 36) (.tmp 37))⟩,
 ⟨(some 39), (some (32, false)), (.pick (.tmp 35) (.tmp 38) (.const (.bool false)))⟩,
 ⟨(some 40), none, (.pick (.tmp 32) (.const (.bool true)) (.tmp 39))⟩])
 (.cond (.tmp 40)
 (.seq
 (.ops [
 ⟨(some 6), none, (.mv (.const (.bool false)))⟩])
 .ret)
 .skip))))
 (.ops [
 ⟨(some 19), none, (.mv (.tmp 7))⟩,
 ⟨(some 20), none, (.bin .add (.tmp 19) (.const (.int .i64 1)))⟩,
 ⟨(some 7), none, (.mv (.tmp 20))⟩]))))))
 (.seq
 (.ops [
 ⟨(some 6), none, (.mv (.const (.bool true)))⟩])
 .ret))))
theorem f_scref28_places : compF Try.prog 29 = some (41, c_scref28_places, [(.tmp 6)]) := by kernel_rfl
def c_scref28_apart : VC :=
 (.seq
 (.ops [
 ⟨(some 2), none, (.box 33 (.tmp 0))⟩,
 ⟨(some 4), none, (.mv (.const (.bool false)))⟩])
 (.seq
 (.seq
 (.ops [
 ⟨(some 5), none, (.mv (.const (.int .i64 0)))⟩])
 (.block 0
 (.loop
 (.seq
 (.seq
 (.ops [
 ⟨(some 7), none, (.mv (.tmp 5))⟩,
 ⟨(some 8), none, (.mv (.tmp 1))⟩,
 ⟨(some 9), none, (.len (.tmp 8))⟩,
 ⟨(some 10), none, (.bin .lss (.tmp 7) (.tmp 9))⟩])
 (.cond (.tmp 10)
 .skip
 (.exit 0)))
 (.seq
 (.block 1
 (.seq
 (.ops [
 ⟨(some 6), none, (.mv (.const (.int .i64 0)))⟩])
 (.block 2
 (.loop
 (.seq
 (.seq
 (.ops [
 ⟨(some 13), none, (.mv (.tmp 6))⟩,
 ⟨(some 14), none, (.mv (.tmp 5))⟩,
 ⟨(some 15), none, (.bin .lss (.tmp 13) (.tmp 14))⟩])
 (.cond (.tmp 15)
 .skip
 (.exit 2)))
 (.seq
 (.block 3
 (.seq
 (.ops [
 ⟨(some 18), none, (.mv (.tmp 1))⟩,
 ⟨(some 19), none, (.mv (.tmp 5))⟩,
 ⟨(some 20), none, (.idx 1 (.tmp 18) (.tmp 19))⟩,
 ⟨(some 21), none, (.ld false 1 (.tmp 20))⟩,
 ⟨(some 22), none, (.mv (.tmp 21))⟩,
 ⟨(some 23), (some (22, true)), (.mv (.tmp 1))⟩,
 ⟨(some 24), (some (22, true)), (.mv (.tmp 6))⟩,
 ⟨(some 25), (some (22, true)), (.idx 1 (.tmp 23) (.tmp 24))⟩,
 ⟨(some 26), (some (22, true)), (.ld false 1 (.tmp 25))⟩,
 ⟨(some 27), none, (.pick (.tmp 22) (.tmp 26) (.const (.bool false)))⟩,
 ⟨(some 28), none, (.mv (.tmp 27))⟩,
 ⟨(some 29), (some (28, true)), (.fad 0 false 1 (.tmp 2))⟩,
 ⟨(some 30), (some (28, true)), (.ld false 1 (.tmp 29))⟩,
 ⟨(some 31), (some (28, true)), (.mv (.tmp 5))⟩,
 ⟨(some 32), (some (28, true)), (.idx 1 (.tmp 30) (.tmp 31))⟩,
 ⟨(some 33), (some (28, true)), (.ld false 1 (.tmp 32))⟩,
 ⟨(some 34), (some (28, true)), (.fad 0 false 1 (.tmp 2))⟩,
 ⟨(some 35), (some (28, true)), (.ld false 1 (.tmp 34))⟩,
 ⟨(some 36), (some (28, true)), (.mv (.tmp 6))⟩,
 ⟨(some 37), (some (28, true)), (.idx 1 (.tmp 35) (.tmp 36))⟩,
 ⟨(some 38), (some (28, true)), (.ld false 1 (.tmp 37))⟩,
 ⟨(some 39), (some (28, true)), (.bin .eql (.tmp 33) (.tmp 38))⟩,
 ⟨(some 40), none, (.pick (.tmp 28) (.tmp 39) (.const (.bool false)))⟩])
 (.cond (.tmp 40)
 (.seq
 (.ops [
 ⟨(some 4), none, (.mv (.const (.bool false)))⟩])
 .ret)
 .skip)))
 (.ops [
 ⟨(some 16), none, (.mv (.tmp 6))⟩,
 ⟨(some 17), none, (.bin .add (.tmp 16) (.const (.int .i64 1)))⟩,
 ⟨(some 6), none, (.mv (.tmp 17))⟩])))))))
 (.ops [
 ⟨(some 11), none, (.mv (.tmp 5))⟩,
 ⟨(some 12), none, (.bin .add (.tmp 11) (.const (.int .i64 1)))⟩,
 ⟨(some 5), none, (.mv (.tmp 12))⟩]))))))
 (.seq
 (.ops [
 ⟨(some 4), none, (.mv (.const (.bool true)))⟩])
 .ret)))
theorem f_scref28_apart : compF Try.prog 30 = some (41, c_scref28_apart, [(.tmp 4)]) := by kernel_rfl
def c_scref27_Behind : VC :=
 (.seq
 (.ops [
 ⟨(some 3), none, (.box 24 (.tmp 0))⟩,
 ⟨(some 4), none, (.box 29 (.tmp 1))⟩,
 ⟨(some 6), none, (.mv (.const (.slice none 0 0)))⟩])
 (.seq
 (.ops [
 ⟨(some 11), none, (.fad 1 false 1 (.tmp 3))⟩,
 ⟨(some 12), none, (.ld false 1 (.tmp 11))⟩,
 ⟨(some 13), none, (.mv (.tmp 2))⟩,
 ⟨(some 14), none, (.idx 5 (.tmp 12) (.tmp 13))⟩,
 ⟨(some 15), none, (.ld true 5 (.tmp 14))⟩,
 ⟨(some 7), none, (.alc 60 [(.slice none 0 0), (.int .i64 0), (.int .i64 0), (.int .i64 0), (.int .i64 0)])⟩,
 ⟨none, none, (.sto true 5 (.tmp 7) (.tmp 15))⟩])
 (.seq
 (.ops [
 ⟨(some 16), none, (.fad 0 false 1 (.tmp 7))⟩,
 ⟨(some 17), none, (.ld false 1 (.tmp 16))⟩,
 ⟨(some 18), none, (.len (.tmp 17))⟩,
 ⟨(some 19), none, (.mk 64 1 24 [(.slice none 0 0)] (.tmp 18) (.tmp 18))⟩,
 ⟨(some 8), none, (.mv (.tmp 19))⟩])
 (.seq
 (.ops [
 ⟨(some 20), none, (.ld true 5 (.tmp 7))⟩,
 ⟨(some 21), none, (.fad 1 false 1 (.tmp 4))⟩,
 ⟨(some 22), none, (.ld false 1 (.tmp 21))⟩,
 ⟨(some 23), none, (.mv (.tmp 2))⟩,
 ⟨(some 24), none, (.idx 1 (.tmp 22) (.tmp 23))⟩,
 ⟨(some 25), none, (.ld false 1 (.tmp 24))⟩,
 ⟨(some 26), none, (.call (.func 40) [(.tmp 20), (.tmp 25)])⟩,
 ⟨(some 9), none, (.mv (.tmp 26))⟩])
 (.seq
 (.seq
 (.ops [
 ⟨(some 27), none, (.fad 0 false 1 (.tmp 7))⟩,
 ⟨(some 28), none, (.ld false 1 (.tmp 27))⟩,
 ⟨(some 29), none, (.len (.tmp 28))⟩,
 ⟨(some 30), none, (.bin .sub (.tmp 29) (.const (.int .i64 1)))⟩,
 ⟨(some 10), none, (.mv (.tmp 30))⟩])
 (.block 0
 (.loop
 (.seq
 (.seq
 (.ops [
 ⟨(some 31), none, (.mv (.tmp 10))⟩,
 ⟨(some 32), none, (.bin .geq (.tmp 31) (.const (.int .i64 0)))⟩])
 (.cond (.tmp 32)
 .skip
 (.exit 0)))
 (.seq
 (.block 1
 (.seq
 (.ops [
 ⟨(some 35), none, (.mv (.tmp 8))⟩,
 ⟨(some 36), none, (.mv (.tmp 10))⟩,
 ⟨(some 37), none, (.mv (.tmp 9))⟩,
 ⟨(some 38), none, (.idx 1 (.tmp 35) (.tmp 36))⟩,
 ⟨none, none, (.sto false 1 (.tmp 38) (.tmp 37))⟩])
 (.ops [
 ⟨(some 39), none, (.fad 0 false 1 (.tmp 7))⟩,
 ⟨(some 40), none, (.ld false 1 (.tmp 39))⟩,
 ⟨(some 41), none, (.mv (.tmp 10))⟩,
 ⟨(some 42), none, (.idx 8 (.tmp 40) (.tmp 41))⟩,
 ⟨(some 43), none, (.ld true 8 (.tmp 42))⟩,
 ⟨(some 44), none, (.mv (.tmp 9))⟩,
 ⟨(some 45), none, (.call (.func 41) [(.tmp 43), (.tmp 44)])⟩,
 ⟨(some 9), none, (.mv (.tmp 45))⟩])))
 (.ops [
 ⟨(some 33), none, (.mv (.tmp 10))⟩,
 ⟨(some 34), none, (.bin .sub (.tmp 33) (.const (.int .i64 1)))⟩,
 ⟨(some 10), none, (.mv (.tmp 34))⟩]))))))
 (.seq
 (.ops [
 ⟨(some 46), none, (.mv (.tmp 8))⟩,
 ⟨(some 6), none, (.mv (.tmp 46))⟩])
 .ret))))))
theorem f_scref27_Behind : compF Try.prog 31 = some (47, c_scref27_Behind, [(.tmp 6)]) := by kernel_rfl
def c_scref28_one : VC :=
 (.seq
 (.ops [
 ⟨(some 3), none, (.box 57 (.tmp 0))⟩,
 ⟨(some 4), none, (.box 33 (.tmp 1))⟩,
 ⟨(some 6), none, (.mv (.const (.bool false)))⟩])
 (.seq
 (.ops [
 ⟨(some 9), none, (.ld true 8 (.tmp 3))⟩,
 ⟨(some 10), none, (.call (.func 36) [(.tmp 9)])⟩,
 ⟨(some 7), none, (.mv (.tmp 10))⟩])
 (.seq
 (.seq
 (.ops [
 ⟨(some 8), none, (.mv (.const (.int .i64 0)))⟩])
 (.block 0
 (.loop
 (.seq
 (.seq
 (.ops [
 ⟨(some 11), none, (.mv (.tmp 8))⟩,
 ⟨(some 12), none, (.mv (.tmp 2))⟩,
 ⟨(some 13), none, (.len (.tmp 12))⟩,
 ⟨(some 14), none, (.bin .lss (.tmp 11) (.tmp 13))⟩])
 (.cond (.tmp 14)
 .skip
 (.exit 0)))
 (.seq
 (.block 1
 (.seq
 (.seq
 (.ops [
 ⟨(some 17), none, (.mv (.tmp 2))⟩,
 ⟨(some 18), none, (.mv (.tmp 8))⟩,
 ⟨(some 19), none, (.idx 1 (.tmp 17) (.tmp 18))⟩,
 ⟨(some 20), none, (.ld false 1 (.tmp 19))⟩,
 ⟨(some 21), none, (.un .not (.tmp 20))⟩])
 (.cond (.tmp 21)
 (.exit 1)
 .skip))
 (.seq
 (.ops [
 ⟨(some 22), none, (.mv (.tmp 7))⟩,
 ⟨(some 23), none, (.bin .geq (.tmp 22) (.const (.int .i64 0)))⟩,
 ⟨(some 24), none, (.mv (.tmp 23))⟩,
 ⟨(some 25), (some (24, true)), (.mv (.tmp 8))⟩,
 ⟨(some 26), (some (24, true)), (.mv (.tmp 7))⟩,
 ⟨(some 27), (some (24, true)), (.bin .neq (.tmp 25) (.tmp 26))⟩,
 ⟨(some 28), none, (.pick (.tmp 24) (.tmp 27) (.const (.bool false)))⟩,
 ⟨(some 29), none, (.mv (.tmp 28))⟩,
 ⟨(some 30), (some (29, true)), (.fad 0 false 1 (.tmp 4))⟩,
 ⟨(some 31), (some (29, true)), (.ld false 1 (.tmp 30))⟩,
 ⟨(some 32), (some (29, true)), (.mv (.tmp 8))⟩,
 ⟨(some 33), (some (29, true)), (.idx 1 (.tmp 31) (.tmp 32))⟩,
 ⟨(some 34), (some (29, true)), (.ld false 1 (.tmp 33))⟩,
 ⟨(some 35), (some (29, true)), (.fad 0 false 1 (.tmp 4))⟩,
 ⟨(some 36), (some (29, true)), (.ld false 1 (.tmp 35))⟩,
 ⟨(some 37), (some (29, true)), (.mv (.tmp 7))⟩,
 ⟨(some 38), (some (29, true)), (.idx 1 (.tmp 36) (.tmp 37))⟩,
 ⟨(some 39), (some (29, true)), (.ld false 1 (.tmp 38))⟩,
 ⟨(some 40), (some (29, true)), (.bin .eql (.tmp 34) (.tmp 39))⟩,
 ⟨(some 41), none, (.pick (.tmp 29) (.tmp 40) (.const (.bool false)))⟩,
 ⟨(some 42), none, (.mv (.tmp 41))⟩,
 ⟨(some 43), (some (42, false)), (.fad 0 false 1 (.tmp 3))⟩,
 ⟨(some 44), (some (42, false)), (.ld false 1 (.tmp 43))⟩,
 ⟨(some 45), (some (42, false)), (.bin .eql (.tmp 44) (.const (.int .i64 10)))⟩,
 ⟨(some 46), (some (42, false)), (.mv (.tmp 45))⟩,
 ⟨(some 47), (some (46, true)), (.fad 0 false 1 (.tmp 4))⟩,
 ⟨(some 48), (some (46, true)), (.ld false 1 (.tmp 47))⟩,
 ⟨(some 49), (some (46, true)), (.mv (.tmp 8))⟩,
 ⟨(some 50), (some (46, true)), (.idx 1 (.tmp 48) (.tmp 49))⟩,
 ⟨(some 51), (some (46, true)), (.ld false 1 (.tmp 50))⟩,
 ⟨(some 52), (some (46, true)), (.bin .gtr (.tmp 51) (.const (.int .i64 0)))⟩,
 ⟨(some 53), (some (42, false)), (.pick (.tmp 46) (.tmp 52) (.const (.bool false)))⟩,
 ⟨(some 54), none, (.pick (.tmp 42) (.const (.bool true)) (.tmp 53))⟩])
 (.cond (.tmp 54)
 (.seq
 (.ops [
 ⟨(some 6), none, (.mv (.const (.bool false)))⟩])
 .ret)
 .skip))))
 (.ops [
 ⟨(some 15), none, (.mv (.tmp 8))⟩,
 ⟨(some 16), none, (.bin .add (.tmp 15) (.const (.int .i64 1)))⟩,
 ⟨(some 8), none, (.mv (.tmp 16))⟩]))))))
 (.seq
 (.ops [
 ⟨(some 6), none, (.mv (.const (.bool true)))⟩])
 .ret))))
theorem f_scref28_one : compF Try.prog 32 = some (55, c_scref28_one, [(.tmp 6)]) := by kernel_rfl
def c_live_Check : VC :=
 (.seq
 (.ops [
 ⟨(some 2), none, (.box 24 (.tmp 0))⟩,
 ⟨(some 3), none, (.box 29 (.tmp 1))⟩,
 ⟨(some 4), none, (.mv (.const (.bool false)))⟩])
 (.seq
 (.seq
 (.ops [
 ⟨(some 9), none, (.ld true 2 (.tmp 2))⟩,
 ⟨(some 10), none, (.fad 0 false 1 (.tmp 3))⟩,
 ⟨(some 11), none, (.ld false 1 (.tmp 10))⟩,
 ⟨(some 12), none, (.call (.func 51) [(.tmp 9), (.tmp 11)])⟩,
 ⟨(some 13), none, (.un .not (.tmp 12))⟩,
 ⟨(some 14), none, (.mv (.tmp 13))⟩,
 ⟨(some 15), (some (14, false)), (.ld true 2 (.tmp 2))⟩,
 ⟨(some 16), (some (14, false)), (.fad 1 false 1 (.tmp 3))⟩,
 ⟨(some 17), (some (14, false)), (.ld false 1 (.tmp 16))⟩,
 ⟨(some 18), (some (14, false)), (.call (.func 51) [(.tmp 15), (.tmp 17)])⟩,
 ⟨(some 19), (some (14, false)), (.un .not (.tmp 18))⟩,
 ⟨(some 20), none, (.pick (.tmp 14) (.const (.bool true)) (.tmp 19))⟩])
 (.cond (.tmp 20)
 (.seq
 (.ops [
 ⟨(some 4), none, (.mv (.const (.bool false)))⟩])
 .ret)
 .skip))
 (.seq
 (.ops [
 ⟨(some 21), none, (.ld true 2 (.tmp 2))⟩,
 ⟨(some 22), none, (.call (.func 52) [(.tmp 21)])⟩,
 ⟨(some 5), none, (.mv (.tmp 22))⟩])
 (.seq
 (.seq
 (.ops [
 ⟨(some 23), none, (.fad 1 false 1 (.tmp 2))⟩,
 ⟨(some 24), none, (.ld false 1 (.tmp 23))⟩,
 ⟨(some 25), none, (.len (.tmp 24))⟩,
 ⟨(some 26), none, (.mv (.const (.int .i64 0)))⟩])
 (.block 0
 (.loop
 (.seq
 (.ops [
 ⟨(some 27), none, (.bin .lss (.tmp 26) (.tmp 25))⟩])
 (.seq
 (.cond (.tmp 27)
 .skip
 (.exit 0))
 (.seq
 (.block 1
 (.seq
 (.ops [
 ⟨(some 28), none, (.mv (.tmp 26))⟩,
 ⟨(some 6), none, (.mv (.tmp 28))⟩])
 (.seq
 (.seq
 (.ops [
 ⟨(some 29), none, (.mv (.tmp 5))⟩,
 ⟨(some 30), none, (.mv (.tmp 6))⟩,
 ⟨(some 31), none, (.idx 1 (.tmp 29) (.tmp 30))⟩,
 ⟨(some 32), none, (.ld false 1 (.tmp 31))⟩,
 ⟨(some 33), none, (.len (.tmp 32))⟩,
 ⟨(some 34), none, (.mv (.const (.int .i64 0)))⟩])
 (.block 2
 (.loop
 (.seq
 (.ops [
 ⟨(some 35), none, (.bin .lss (.tmp 34) (.tmp 33))⟩])
 (.seq
 (.cond (.tmp 35)
 .skip
 (.exit 2))
 (.seq
 (.block 3
 (.seq
 (.ops [
 ⟨(some 36), none, (.idx 1 (.tmp 32) (.tmp 34))⟩,
 ⟨(some 37), none, (.ld false 1 (.tmp 36))⟩,
 ⟨(some 8), none, (.mv (.tmp 37))⟩])
 (.seq
 (.ops [
 ⟨(some 38), none, (.fad 0 false 1 (.tmp 3))⟩,
 ⟨(some 39), none, (.ld false 1 (.tmp 38))⟩,
 ⟨(some 40), none, (.mv (.tmp 8))⟩,
 ⟨(some 41), none, (.idx 1 (.tmp 39) (.tmp 40))⟩,
 ⟨(some 42), none, (.ld false 1 (.tmp 41))⟩,
 ⟨(some 43), none, (.fad 1 false 1 (.tmp 3))⟩,
 ⟨(some 44), none, (.ld false 1 (.tmp 43))⟩,
 ⟨(some 45), none, (.mv (.tmp 6))⟩,
 ⟨(some 46), none, (.idx 1 (.tmp 44) (.tmp 45))⟩,
 ⟨(some 47), none, (.ld false 1 (.tmp 46))⟩,
 ⟨(some 48), none, (.call (.func 53) [(.tmp 42), (.tmp 47)])⟩,
 ⟨(some 49), none, (.un .not (.tmp 48))⟩])
 (.cond (.tmp 49)
 (.seq
 (.ops [
 ⟨(some 4), none, (.mv (.const (.bool false)))⟩])
 .ret)
 .skip))))
 (.ops [
 ⟨(some 50), none, (.bin .add (.tmp 34) (.const (.int .i64 1)))⟩,
 ⟨(some 34), none, (.mv (.tmp 50))⟩])))))))
 (.seq
 (.par false (.one ⟨(some 51), none, (.fad 1 false 1 (.tmp 2))⟩ (.one ⟨(some 52), none, (.ld false 1 (.tmp 51))⟩ (.one ⟨(some 53), none, (.mv (.tmp 6))⟩ (.one ⟨(some 54), none, (.idx 5 (.tmp 52) (.tmp 53))⟩ (.one ⟨(some 55), none, (.ld true 5 (.tmp 54))⟩ (.one ⟨(some 56), none, (.fad 1 false 1 (.tmp 3))⟩ (.one ⟨(some 57), none, (.ld false 1 (.tmp 56))⟩ (.one ⟨(some 58), none, (.mv (.tmp 6))⟩ (.one ⟨(some 59), none, (.idx 1 (.tmp 57) (.tmp 58))⟩ (.one ⟨(some 60), none, (.ld false 1 (.tmp 59))⟩ (.one ⟨(some 61), none, (.call (.func 54) [(.tmp 55), (.tmp 60), (.const .nilFunc)])⟩ (.one ⟨(some 62), none, (.fad 0 false 1 (.tmp 3))⟩ (.one ⟨(some 63), none, (.ld false 1 (.tmp 62))⟩ (.one ⟨(some 64), none, (.mv (.tmp 6))⟩ (.one ⟨(some 65), none, (.idx 1 (.tmp 63) (.tmp 64))⟩ (.one ⟨(some 66), none, (.ld false 1 (.tmp 65))⟩ (.one ⟨(some 67), none, (.call (.func 53) [(.tmp 61), (.tmp 66)])⟩ (.one ⟨(some 68), none, (.un .not (.tmp 67))⟩ .done)))))))))))))))))))
 (.cond (.tmp 68)
 (.seq
 (.ops [
 ⟨(some 4), none, (.mv (.const (.bool false)))⟩])
 .ret)
 .skip)))))
 (.ops [
 ⟨(some 69), none, (.bin .add (.tmp 26) (.const (.int .i64 1)))⟩,
 ⟨(some 26), none, (.mv (.tmp 69))⟩])))))))
 (.seq
 (.ops [
 ⟨(some 4), none, (.mv (.const (.bool true)))⟩])
 .ret)))))
theorem f_live_Check : compF Try.prog 33 = some (70, c_live_Check, [(.tmp 4)]) := by kernel_rfl
def c_alloc_watch_block : VC :=
 (.seq
 (.ops [
 ⟨(some 4), none, (.box 60 (.tmp 1))⟩,
 ⟨(some 6), none, (.mv (.const (.bool false)))⟩])
 (.seq
 (.seq
 (.ops [
 ⟨(some 14), none, (.mv (.tmp 2))⟩,
 ⟨(some 15), none, (.len (.tmp 14))⟩,
 ⟨(some 16), none, (.mv (.const (.int .i64 0)))⟩])
 (.block 0
 (.loop
 (.seq
 (.ops [
 ⟨(some 17), none, (.bin .lss (.tmp 16) (.tmp 15))⟩])
 (.seq
 (.cond (.tmp 17)
 .skip
 (.exit 0))
 (.seq
 (.block 1
 (.seq
 (.ops [
 ⟨(some 18), none, (.mv (.tmp 16))⟩,
 ⟨(some 19), none, (.idx 1 (.tmp 14) (.tmp 16))⟩,
 ⟨(some 20), none, (.ld false 1 (.tmp 19))⟩,
 ⟨(some 7), none, (.mv (.tmp 18))⟩,
 ⟨(some 8), none, (.mv (.tmp 20))⟩])
 (.seq
 (.ops [
 ⟨(some 21), none, (.mv (.tmp 8))⟩])
 (.cond (.tmp 21)
 (.ops [
 ⟨(some 22), none, (.mv (.tmp 0))⟩,
 ⟨(some 23), none, (.mv (.tmp 7))⟩,
 ⟨(some 24), none, (.call (.func 55) [(.tmp 22), (.tmp 23)])⟩])
 .skip))))
 (.ops [
 ⟨(some 25), none, (.bin .add (.tmp 16) (.const (.int .i64 1)))⟩,
 ⟨(some 16), none, (.mv (.tmp 25))⟩])))))))
 (.seq
 (.seq
 (.ops [
 ⟨(some 26), none, (.fad 1 false 1 (.tmp 4))⟩,
 ⟨(some 27), none, (.ld false 1 (.tmp 26))⟩,
 ⟨(some 28), none, (.bin .eql (.tmp 27) (.const (.int .i64 2)))⟩])
 (.cond (.tmp 28)
 (.ops [
 ⟨(some 29), none, (.mv (.tmp 0))⟩,
 ⟨(some 30), none, (.fad 2 false 1 (.tmp 4))⟩,
 ⟨(some 31), none, (.ld false 1 (.tmp 30))⟩,
 ⟨(some 32), none, (.call (.func 55) [(.tmp 29), (.tmp 31)])⟩])
 .skip))
 (.seq
 (.seq
 (.ops [
 ⟨(some 33), none, (.fad 0 false 1 (.tmp 4))⟩,
 ⟨(some 34), none, (.ld false 1 (.tmp 33))⟩,
 ⟨(some 35), none, (.len (.tmp 34))⟩,
 ⟨(some 36), none, (.bin .sub (.tmp 35) (.const (.int .i64 1)))⟩,
 ⟨(some 9), none, (.mv (.tmp 36))⟩])
 (.block 2
 (.loop
 (.seq
 (.seq
 (.ops [
 ⟨(some 37), none, (.mv (.tmp 9))⟩,
 ⟨(some 38), none, (.bin .geq (.tmp 37) (.const (.int .i64 0)))⟩])
 (.cond (.tmp 38)
 .skip
 (.exit 2)))
 (.seq
 (.block 3
 (.seq
 (.ops [
 ⟨(some 41), none, (.fad 0 false 1 (.tmp 4))⟩,
 ⟨(some 42), none, (.ld false 1 (.tmp 41))⟩,
 ⟨(some 43), none, (.mv (.tmp 9))⟩,
 ⟨(some 44), none, (.idx 8 (.tmp 42) (.tmp 43))⟩,
 ⟨(some 45), none, (.ld true 8 (.tmp 44))⟩,
 ⟨(some 10), none, (.alc 57 [(.int .i64 0), (.int .i64 0), (.int .i64 0), (.int .i64 0), (.int .i64 0), (.int .i64 0), (.int .i64 0), (.int .u32 0)])⟩,
 ⟨none, none, (.sto true 8 (.tmp 10) (.tmp 45))⟩])
 (.seq
 (.seq
 (.ops [
 ⟨(some 46), none, (.fad 0 false 1 (.tmp 10))⟩,
 ⟨(some 47), none, (.ld false 1 (.tmp 46))⟩,
 ⟨(some 48), none, (.bin .eql (.tmp 47) (.const (.int .i64 10)))⟩,
 ⟨(some 49), none, (.mv (.tmp 48))⟩,
 ⟨(some 50), (some (49, true)), (.mv (.tmp 0))⟩,
 ⟨(some 51), (some (49, true)), (.nck (.tmp 50))⟩,
 ⟨(some 52), (some (49, true)), (.fad 4 false 1 (.tmp 51))⟩,
 ⟨(some 53), (some (49, true)), (.ld false 1 (.tmp 52))⟩,
 ⟨(some 54), (some (49, true)), (.bin .gtr (.tmp 53) (.const (.int .i64 0)))⟩,
 ⟨(some 55), none, (.pick (.tmp 49) (.tmp 54) (.const (.bool false)))⟩])
 (.cond (.tmp 55)
 (.seq
 (.ops [
 ⟨(some 6), none, (.mv (.const (.bool false)))⟩])
 .ret)
 .skip))
 (.seq
 (.seq
 (.ops [
 ⟨(some 56), none, (.ld true 8 (.tmp 10))⟩,
 ⟨(some 57), none, (.call (.func 46) [(.tmp 56)])⟩,
 ⟨(some 11), none, (.mv (.tmp 57))⟩])
 (.seq
 (.ops [
 ⟨(some 58), none, (.mv (.tmp 11))⟩,
 ⟨(some 59), none, (.bin .geq (.tmp 58) (.const (.int .i64 0)))⟩])
 (.cond (.tmp 59)
 (.seq
 (.ops [
 ⟨(some 60), none, (.mv (.tmp 0))⟩,
 ⟨(some 61), none, (.mv (.tmp 11))⟩,
 ⟨(some 62), none, (.call (.func 56) [(.tmp 60), (.tmp 61)])⟩])
 (.seq
 (.ops [
 ⟨(some 63), none, (.mv (.tmp 0))⟩,
 ⟨(some 64), none, (.nck (.tmp 63))⟩,
 ⟨(some 65), none, (.fad 3 false 1 (.tmp 64))⟩,
 ⟨(some 66), none, (.ld false 1 (.tmp 65))⟩,
 ⟨(some 67), none, (.mv (.tmp 0))⟩,
 ⟨(some 68), none, (.nck (.tmp 67))⟩,
 ⟨(some 69), none, (.fad 1 false 1 (.tmp 68))⟩,
 ⟨(some 70), none, (.ld false 1 (.tmp 69))⟩,
 ⟨(some 71), none, (.mv (.tmp 11))⟩,
 ⟨(some 72), none, (.idx 1 (.tmp 70) (.tmp 71))⟩,
 ⟨(some 73), none, (.ld false 1 (.tmp 72))⟩,
 ⟨(some 74), none, (.idx 1 (.tmp 66) (.tmp 73))⟩,
 ⟨(some 75), none, (.ld false 1 (.tmp 74))⟩,
 ⟨(some 76), none, (.bin .gtr (.tmp 75) (.const (.int .i64 0)))⟩])
 (.cond (.tmp 76)
 (.seq
 (.ops [
 ⟨(some 6), none, (.mv (.const (.bool false)))⟩])
 .ret)
 .skip)))
 .skip)))
 (.seq
 (.ops [
 ⟨(some 77), none, (.ld true 8 (.tmp 10))⟩,
 ⟨(some 78), none, (.call (.func 48) [(.tmp 77)])⟩,
 ⟨(some 79), none, (.len (.tmp 78))⟩,
 ⟨(some 80), none, (.mv (.const (.int .i64 0)))⟩])
 (.block 4
 (.loop
 (.seq
 (.ops [
 ⟨(some 81), none, (.bin .lss (.tmp 80) (.tmp 79))⟩])
 (.seq
 (.cond (.tmp 81)
 .skip
 (.exit 4))
 (.seq
 (.block 5
 (.seq
 (.ops [
 ⟨(some 82), none, (.idx 1 (.tmp 78) (.tmp 80))⟩,
 ⟨(some 83), none, (.ld false 1 (.tmp 82))⟩,
 ⟨(some 13), none, (.mv (.tmp 83))⟩])
 (.ops [
 ⟨(some 84), none, (.mv (.tmp 0))⟩,
 ⟨(some 85), none, (.mv (.tmp 13))⟩,
 ⟨(some 86), none, (.call (.func 55) [(.tmp 84), (.tmp 85)])⟩])))
 (.ops [
 ⟨(some 87), none, (.bin .add (.tmp 80) (.const (.int .i64 1)))⟩,
 ⟨(some 80), none, (.mv (.tmp 87))⟩])))))))))))
 (.ops [
 ⟨(some 39), none, (.mv (.tmp 9))⟩,
 ⟨(some 40), none, (.bin .sub (.tmp 39) (.const (.int .i64 1)))⟩,
 ⟨(some 9), none, (.mv (.tmp 40))⟩]))))))
 (.seq
 (.ops [
 ⟨(some 6), none, (.mv (.const (.bool true)))⟩])
 .ret)))))
theorem f_alloc_watch_block : compF Try.prog 34 = some (88, c_alloc_watch_block, [(.tmp 6)]) := by kernel_rfl
def c_scref24_Uses : VC :=
 (.seq
 (.ops [
 ⟨(some 1), none, (.box 57 (.tmp 0))⟩,
 ⟨(some 2), none, (.mv (.const (.slice none 0 0)))⟩])
 (.seq
 (.seq
 (.ops [
 ⟨(some 3), none, (.fad 0 false 1 (.tmp 1))⟩,
 ⟨(some 4), none, (.ld false 1 (.tmp 3))⟩])
 (.block 0
 (.seq
 (.seq
 (.ops [
 ⟨(some 6), none, (.bin .eql (.tmp 4) (.const (.int .i64 2)))⟩,
 ⟨(some 5), none, (.mv (.tmp 6))⟩])
 (.cond (.tmp 5)
 .skip
 (.seq
 (.ops [
 ⟨(some 7), none, (.bin .eql (.tmp 4) (.const (.int .i64 5)))⟩,
 ⟨(some 5), none, (.mv (.tmp 7))⟩])
 (.cond (.tmp 5)
 .skip
 (.seq
 (.ops [
 ⟨(some 8), none, (.bin .eql (.tmp 4) (.const (.int .i64 6)))⟩,
 ⟨(some 5), none, (.mv (.tmp 8))⟩])
 (.cond (.tmp 5)
 .skip
 (.ops [
 ⟨(some 9), none, (.bin .eql (.tmp 4) (.const (.int .i64 9)))⟩,
 ⟨(some 5), none, (.mv (.tmp 9))⟩])))))))
 (.cond (.tmp 5)
 (.seq
 (.ops [
 ⟨(some 10), none, (.fad 2 false 1 (.tmp 1))⟩,
 ⟨(some 11), none, (.ld false 1 (.tmp 10))⟩,
 ⟨(some 12), none, (.bsl 3 1 1 [(.int .i64 0)] [(0, (1, (.tmp 11)))])⟩,
 ⟨(some 2), none, (.mv (.tmp 12))⟩])
 .ret)
 (.seq
 (.seq
 (.ops [
 ⟨(some 14), none, (.bin .eql (.tmp 4) (.const (.int .i64 3)))⟩,
 ⟨(some 13), none, (.mv (.tmp 14))⟩])
 (.cond (.tmp 13)
 .skip
 (.ops [
 ⟨(some 15), none, (.bin .eql (.tmp 4) (.const (.int .i64 7)))⟩,
 ⟨(some 13), none, (.mv (.tmp 15))⟩])))
 (.cond (.tmp 13)
 (.seq
 (.ops [
 ⟨(some 16), none, (.fad 2 false 1 (.tmp 1))⟩,
 ⟨(some 17), none, (.ld false 1 (.tmp 16))⟩,
 ⟨(some 18), none, (.fad 3 false 1 (.tmp 1))⟩,
 ⟨(some 19), none, (.ld false 1 (.tmp 18))⟩,
 ⟨(some 20), none, (.bsl 3 1 2 [(.int .i64 0), (.int .i64 0)] [(0, (1, (.tmp 17))), (1, (1, (.tmp 19)))])⟩,
 ⟨(some 2), none, (.mv (.tmp 20))⟩])
 .ret)
 .skip))))))
 (.seq
 (.ops [
 ⟨(some 2), none, (.mv (.const (.slice none 0 0)))⟩])
 .ret)))
theorem f_scref24_Uses : compF Try.prog 35 = some (21, c_scref24_Uses, [(.tmp 2)]) := by kernel_rfl
def c_scref24_Sets : VC :=
 (.seq
 (.ops [
 ⟨(some 1), none, (.box 57 (.tmp 0))⟩,
 ⟨(some 2), none, (.mv (.const (.int .i64 0)))⟩])
 (.seq
 (.seq
 (.ops [
 ⟨(some 3), none, (.fad 0 false 1 (.tmp 1))⟩,
 ⟨(some 4), none, (.ld false 1 (.tmp 3))⟩])
 (.block 0
 (.seq
 (.seq
 (.ops [
 ⟨(some 6), none, (.bin .eql (.tmp 4) (.const (.int .i64 1)))⟩,
 ⟨(some 5), none, (.mv (.tmp 6))⟩])
 (.cond (.tmp 5)
 .skip
 (.seq
 (.ops [
 ⟨(some 7), none, (.bin .eql (.tmp 4) (.const (.int .i64 2)))⟩,
 ⟨(some 5), none, (.mv (.tmp 7))⟩])
 (.cond (.tmp 5)
 .skip
 (.seq
 (.ops [
 ⟨(some 8), none, (.bin .eql (.tmp 4) (.const (.int .i64 3)))⟩,
 ⟨(some 5), none, (.mv (.tmp 8))⟩])
 (.cond (.tmp 5)
 .skip
 (.seq
 (.ops [
 ⟨(some 9), none, (.bin .eql (.tmp 4) (.const (.int .i64 4)))⟩,
 ⟨(some 5), none, (.mv (.tmp 9))⟩])
 (.cond (.tmp 5)
 .skip
 (.seq
 (.ops [
 ⟨(some 10), none, (.bin .eql (.tmp 4) (.const (.int .i64 6)))⟩,
 ⟨(some 5), none, (.mv (.tmp 10))⟩])
 (.cond (.tmp 5)
 .skip
 (.ops [
 ⟨(some 11), none, (.bin .eql (.tmp 4) (.const (.int .i64 8)))⟩,
 ⟨(some 5), none, (.mv (.tmp 11))⟩])))))))))))
 (.cond (.tmp 5)
 (.seq
 (.ops [
 ⟨(some 12), none, (.fad 1 false 1 (.tmp 1))⟩,
 ⟨(some 13), none, (.ld false 1 (.tmp 12))⟩,
 ⟨(some 2), none, (.mv (.tmp 13))⟩])
 .ret)
 .skip))))
 (.seq
 (.ops [
 ⟨(some 2), none, (.mv (.const (.int .i64 (-1))))⟩])
 .ret)))
theorem f_scref24_Sets : compF Try.prog 36 = some (14, c_scref24_Sets, [(.tmp 2)]) := by kernel_rfl
def c_scref24_runner_fun : VC :=
 (.seq
 (.ops [
 ⟨(some 9), none, (.mv (.tmp 0))⟩,
 ⟨(some 10), none, (.nck (.tmp 9))⟩,
 ⟨(some 11), none, (.fad 0 true 2 (.tmp 10))⟩,
 ⟨(some 12), none, (.fad 1 false 1 (.tmp 11))⟩,
 ⟨(some 13), none, (.ld false 1 (.tmp 12))⟩,
 ⟨(some 14), none, (.mv (.tmp 1))⟩,
 ⟨(some 15), none, (.idx 2 (.tmp 13) (.tmp 14))⟩,
 ⟨(some 16), none, (.ld true 2 (.tmp 15))⟩,
 ⟨(some 4), none, (.alc 24 [(.int .i64 0), (.slice none 0 0)])⟩,
 ⟨none, none, (.sto true 2 (.tmp 4) (.tmp 16))⟩])
 (.seq
 (.ops [
 ⟨(some 17), none, (.fad 0 false 1 (.tmp 4))⟩,
 ⟨(some 18), none, (.ld false 1 (.tmp 17))⟩,
 ⟨(some 19), none, (.mk 55 1 4 [(.int .u32 0)] (.tmp 18) (.tmp 18))⟩,
 ⟨(some 5), none, (.mv (.tmp 19))⟩])
 (.seq
 (.ops [
 ⟨(some 6), none, (.mv (.const (.int .i64 0)))⟩])
 (.block 0
 (.loop
 (.seq
 (.seq
 (.ops [
 ⟨(some 20), none, (.mv (.tmp 0))⟩,
 ⟨(some 21), none, (.nck (.tmp 20))⟩,
 ⟨(some 22), none, (.fad 8 false 1 (.tmp 21))⟩,
 ⟨(some 23), none, (.ld false 1 (.tmp 22))⟩,
 ⟨(some 24), none, (.bin .eql (.tmp 23) (.const (.int .i64 0)))⟩])
 (.cond (.tmp 24)
 .skip
 (.exit 0)))
 (.block 1
 (.seq
 (.ops [
 ⟨(some 25), none, (.fad 1 false 1 (.tmp 4))⟩,
 ⟨(some 26), none, (.ld false 1 (.tmp 25))⟩,
 ⟨(some 27), none, (.mv (.tmp 6))⟩,
 ⟨(some 28), none, (.idx 5 (.tmp 26) (.tmp 27))⟩,
 ⟨(some 29), none, (.ld true 5 (.tmp 28))⟩,
 ⟨(some 7), none, (.alc 60 [(.slice none 0 0), (.int .i64 0), (.int .i64 0), (.int .i64 0), (.int .i64 0)])⟩,
 ⟨none, none, (.sto true 5 (.tmp 7) (.tmp 29))⟩])
 (.seq
 (.seq
 (.ops [
 ⟨(some 8), none, (.mv (.const (.int .i64 0)))⟩])
 (.block 2
 (.loop
 (.seq
 (.seq
 (.ops [
 ⟨(some 30), none, (.mv (.tmp 8))⟩,
 ⟨(some 31), none, (.fad 0 false 1 (.tmp 7))⟩,
 ⟨(some 32), none, (.ld false 1 (.tmp 31))⟩,
 ⟨(some 33), none, (.len (.tmp 32))⟩,
 ⟨(some 34), none, (.bin .lss (.tmp 30) (.tmp 33))⟩])
 (.cond (.tmp 34)
 .skip
 (.exit 2)))
 (.seq
 (.block 3
 (.seq
 (.seq
 (.ops [
 ⟨(some 37), none, (.mv (.tmp 0))⟩,
 ⟨(some 38), none, (.call (.func 57) [(.tmp 37)])⟩,
 ⟨(some 39), none, (.un .not (.tmp 38))⟩])
 (.cond (.tmp 39)
 .ret
 .skip))
 (.seq
 (.ops [
 ⟨(some 40), none, (.mv (.tmp 0))⟩,
 ⟨(some 41), none, (.fad 0 false 1 (.tmp 7))⟩,
 ⟨(some 42), none, (.ld false 1 (.tmp 41))⟩,
 ⟨(some 43), none, (.mv (.tmp 8))⟩,
 ⟨(some 44), none, (.idx 8 (.tmp 42) (.tmp 43))⟩,
 ⟨(some 45), none, (.ld true 8 (.tmp 44))⟩,
 ⟨(some 46), none, (.mv (.tmp 5))⟩,
 ⟨(some 47), none, (.call (.func 58) [(.tmp 40), (.tmp 45), (.tmp 46)])⟩])
 (.seq
 (.ops [
 ⟨(some 48), none, (.mv (.tmp 0))⟩,
 ⟨(some 49), none, (.nck (.tmp 48))⟩,
 ⟨(some 50), none, (.fad 8 false 1 (.tmp 49))⟩,
 ⟨(some 51), none, (.ld false 1 (.tmp 50))⟩,
 ⟨(some 52), none, (.bin .neq (.tmp 51) (.const (.int .i64 0)))⟩])
 (.cond (.tmp 52)
 .ret
 .skip)))))
 (.ops [
 ⟨(some 35), none, (.mv (.tmp 8))⟩,
 ⟨(some 36), none, (.bin .add (.tmp 35) (.const (.int .i64 1)))⟩,
 ⟨(some 8), none, (.mv (.tmp 36))⟩]))))))
 (.seq
 (.seq
 (.ops [
 ⟨(some 53), none, (.mv (.tmp 0))⟩,
 ⟨(some 54), none, (.call (.func 57) [(.tmp 53)])⟩,
 ⟨(some 55), none, (.un .not (.tmp 54))⟩,
 ⟨(some 56), none, (.mv (.tmp 55))⟩,
 ⟨(some 57), (some (56, false)), (.fad 1 false 1 (.tmp 7))⟩,
 ⟨(some 58), (some (56, false)), (.ld false 1 (.tmp 57))⟩,
 ⟨(some 59), (some (56, false)), (.bin .eql (.tmp 58) (.const (.int .i64 3)))⟩,
 ⟨(some 60), none, (.pick (.tmp 56) (.const (.bool true)) (.tmp 59))⟩])
 (.cond (.tmp 60)
 .ret
 .skip))
 (.seq
 (.ops [
 ⟨(some 61), none, (.fad 3 false 1 (.tmp 7))⟩,
 ⟨(some 62), none, (.ld false 1 (.tmp 61))⟩,
 ⟨(some 6), none, (.mv (.tmp 62))⟩])
 (.seq
 (.ops [
 ⟨(some 63), none, (.fad 1 false 1 (.tmp 7))⟩,
 ⟨(some 64), none, (.ld false 1 (.tmp 63))⟩,
 ⟨(some 65), none, (.bin .eql (.tmp 64) (.const (.int .i64 2)))⟩,
 ⟨(some 66), none, (.mv (.tmp 65))⟩,
 ⟨(some 67), (some (66, true)), (.mv (.tmp 5))⟩,
 ⟨(some 68), (some (66, true)), (.fad 2 false 1 (.tmp 7))⟩,
 ⟨(some 69), (some (66, true)), (.ld false 1 (.tmp 68))⟩,
 ⟨(some 70), (some (66, true)), (.idx 1 (.tmp 67) (.tmp 69))⟩,
 ⟨(some 71), (some (66, true)), (.ld false 1 (.tmp 70))⟩,
 ⟨(some 72), (some (66, true)), (.bin .eql (.tmp 71) (.const (.int .u32 0)))⟩,
 ⟨(some 73), none, (.pick (.tmp 66) (.tmp 72) (.const (.bool false)))⟩])
 (.cond (.tmp 73)
 (.ops [
 ⟨(some 74), none, (.fad 4 false 1 (.tmp 7))⟩,
 ⟨(some 75), none, (.ld false 1 (.tmp 74))⟩,
 ⟨(some 6), none, (.mv (.tmp 75))⟩])
 .skip)))))))))))))
theorem f_scref24_runner_fun : compF Try.prog 37 = some (76, c_scref24_runner_fun, []) := by kernel_rfl
def c_scref24_ends : VC :=
 (.seq
 (.ops [
 ⟨(some 3), none, (.box 60 (.tmp 0))⟩,
 ⟨(some 6), none, (.mv (.const (.bool false)))⟩])
 (.seq
 (.seq
 (.ops [
 ⟨(some 7), none, (.fad 1 false 1 (.tmp 3))⟩,
 ⟨(some 8), none, (.ld false 1 (.tmp 7))⟩])
 (.block 0
 (.seq
 (.ops [
 ⟨(some 10), none, (.bin .eql (.tmp 8) (.const (.int .i64 1)))⟩,
 ⟨(some 9), none, (.mv (.tmp 10))⟩])
 (.cond (.tmp 9)
 (.seq
 (.ops [
 ⟨(some 11), none, (.fad 3 false 1 (.tmp 3))⟩,
 ⟨(some 12), none, (.ld false 1 (.tmp 11))⟩,
 ⟨(some 13), none, (.mv (.tmp 1))⟩,
 ⟨(some 14), none, (.call (.func 59) [(.tmp 12), (.tmp 13)])⟩,
 ⟨(some 15), none, (.mv (.tmp 14))⟩,
 ⟨(some 16), (some (15, true)), (.fad 2 false 1 (.tmp 3))⟩,
 ⟨(some 17), (some (15, true)), (.ld false 1 (.tmp 16))⟩,
 ⟨(some 18), (some (15, true)), (.bin .eql (.tmp 17) (.const (.int .i64 0)))⟩,
 ⟨(some 19), none, (.pick (.tmp 15) (.tmp 18) (.const (.bool false)))⟩,
 ⟨(some 20), none, (.mv (.tmp 19))⟩,
 ⟨(some 21), (some (20, true)), (.fad 4 false 1 (.tmp 3))⟩,
 ⟨(some 22), (some (20, true)), (.ld false 1 (.tmp 21))⟩,
 ⟨(some 23), (some (20, true)), (.bin .eql (.tmp 22) (.const (.int .i64 0)))⟩,
 ⟨(some 24), none, (.pick (.tmp 20) (.tmp 23) (.const (.bool false)))⟩,
 ⟨(some 6), none, (.mv (.tmp 24))⟩])
 .ret)
 (.seq
 (.ops [
 ⟨(some 26), none, (.bin .eql (.tmp 8) (.const (.int .i64 2)))⟩,
 ⟨(some 25), none, (.mv (.tmp 26))⟩])
 (.cond (.tmp 25)
 (.seq
 (.ops [
 ⟨(some 27), none, (.fad 3 false 1 (.tmp 3))⟩,
 ⟨(some 28), none, (.ld false 1 (.tmp 27))⟩,
 ⟨(some 29), none, (.mv (.tmp 1))⟩,
 ⟨(some 30), none, (.call (.func 59) [(.tmp 28), (.tmp 29)])⟩,
 ⟨(some 31), none, (.mv (.tmp 30))⟩,
 ⟨(some 32), (some (31, true)), (.fad 4 false 1 (.tmp 3))⟩,
 ⟨(some 33), (some (31, true)), (.ld false 1 (.tmp 32))⟩,
 ⟨(some 34), (some (31, true)), (.mv (.tmp 1))⟩,
 ⟨(some 35), (some (31, true)), (.call (.func 59) [(.tmp 33), (.tmp 34)])⟩,
 ⟨(some 36), none, (.pick (.tmp 31) (.tmp 35) (.const (.bool false)))⟩,
 ⟨(some 37), none, (.mv (.tmp 36))⟩,
 ⟨(some 38), (some (37, true)), (.fad 2 false 1 (.tmp 3))⟩,
 ⟨(some 39), (some (37, true)), (.ld false 1 (.tmp 38))⟩,
 ⟨(some 40), (some (37, true)), (.mv (.tmp 2))⟩,
 ⟨(some 41), (some (37, true)), (.call (.func 59) [(.tmp 39), (.tmp 40)])⟩,
 ⟨(some 42), none, (.pick (.tmp 37) (.tmp 41) (.const (.bool false)))⟩,
 ⟨(some 6), none, (.mv (.tmp 42))⟩])
 .ret)
 .skip))))))
 (.seq
 (.ops [
 ⟨(some 43), none, (.fad 1 false 1 (.tmp 3))⟩,
 ⟨(some 44), none, (.ld false 1 (.tmp 43))⟩,
 ⟨(some 45), none, (.bin .eql (.tmp 44) (.const (.int .i64 3)))⟩,
 ⟨(some 46), none, (.mv (.tmp 45))⟩,
 ⟨(some 47), (some (46, true)), (.fad 2 false 1 (.tmp 3))⟩,
 ⟨(some 48), (some (46, true)), (.ld false 1 (.tmp 47))⟩,
 ⟨(some 49), (some (46, true)), (.bin .eql (.tmp 48) (.const (.int .i64 0)))⟩,
 ⟨(some 50), none, (.pick (.tmp 46) (.tmp 49) (.const (.bool false)))⟩,
 ⟨(some 51), none, (.mv (.tmp 50))⟩,
 ⟨(some 52), (some (51, true)), (.fad 3 false 1 (.tmp 3))⟩,
 ⟨(some 53), (some (51, true)), (.ld false 1 (.tmp 52))⟩,
 ⟨(some 54), (some (51, true)), (.bin .eql (.tmp 53) (.const (.int .i64 0)))⟩,
 ⟨(some 55), none, (.pick (.tmp 51) (.tmp 54) (.const (.bool false)))⟩,
 ⟨(some 56), none, (.mv (.tmp 55))⟩,
 ⟨(some 57), (some (56, true)), (.fad 4 false 1 (.tmp 3))⟩,
 ⟨(some 58), (some (56, true)), (.ld false 1 (.tmp 57))⟩,
 ⟨(some 59), (some (56, true)), (.bin .eql (.tmp 58) (.const (.int .i64 0)))⟩,
 ⟨(some 60), none, (.pick (.tmp 56) (.tmp 59) (.const (.bool false)))⟩,
 ⟨(some 6), none, (.mv (.tmp 60))⟩])
 .ret)))
theorem f_scref24_ends : compF Try.prog 38 = some (61, c_scref24_ends, [(.tmp 6)]) := by kernel_rfl
def c_scref24_fits : VC :=
 (.seq
 (.ops [
 ⟨(some 4), none, (.box 57 (.tmp 0))⟩,
 ⟨(some 8), none, (.mv (.const (.bool false)))⟩])
 (.seq
 (.seq
 (.ops [
 ⟨(some 12), none, (.fad 0 false 1 (.tmp 4))⟩,
 ⟨(some 13), none, (.ld false 1 (.tmp 12))⟩,
 ⟨(some 14), none, (.bin .lss (.tmp 13) (.const (.int .i64 1)))⟩,
 ⟨(some 15), none, (.mv (.tmp 14))⟩,
 ⟨(some 16), (some (15, false)), (.fad 0 false 1 (.tmp 4))⟩,
 ⟨(some 17), (some (15, false)), (.ld false 1 (.tmp 16))⟩,
 ⟨(some 18), (some (15, false)), (.bin .gtr (.tmp 17) (.const (.int .i64 10)))⟩,
 ⟨(some 19), none, (.pick (.tmp 15) (.const (.bool true)) (.tmp 18))⟩])
 (.cond (.tmp 19)
 (.seq
 (.ops [
 ⟨(some 8), none, (.mv (.const (.bool false)))⟩])
 .ret)
 .skip))
 (.seq
 (.ops [
 ⟨(some 20), none, (.fad 0 false 1 (.tmp 4))⟩,
 ⟨(some 21), none, (.ld false 1 (.tmp 20))⟩,
 ⟨(some 22), none, (.bld [(.int .i64 0), (.int .i64 0), (.int .i64 0), (.int .i64 0), (.int .i64 0), (.int .i64 0), (.int .i64 0), (.int .u32 0)] [(0, (1, (.tmp 21)))])⟩,
 ⟨(some 9), none, (.alc 57 [(.int .i64 0), (.int .i64 0), (.int .i64 0), (.int .i64 0), (.int .i64 0), (.int .i64 0), (.int .i64 0), (.int .u32 0)])⟩,
 ⟨none, none, (.sto true 8 (.tmp 9) (.tmp 22))⟩])
 (.seq
 (.seq
 (.ops [
 ⟨(some 23), none, (.ld true 8 (.tmp 4))⟩,
 ⟨(some 24), none, (.call (.func 36) [(.tmp 23)])⟩,
 ⟨(some 25), none, (.bin .geq (.tmp 24) (.const (.int .i64 0)))⟩,
 ⟨(some 26), none, (.mv (.tmp 25))⟩,
 ⟨(some 27), (some (26, false)), (.fad 0 false 1 (.tmp 4))⟩,
 ⟨(some 28), (some (26, false)), (.ld false 1 (.tmp 27))⟩,
 ⟨(some 29), (some (26, false)), (.bin .eql (.tmp 28) (.const (.int .i64 1)))⟩,
 ⟨(some 30), none, (.pick (.tmp 26) (.const (.bool true)) (.tmp 29))⟩,
 ⟨(some 31), none, (.mv (.tmp 30))⟩,
 ⟨(some 32), (some (31, false)), (.fad 0 false 1 (.tmp 4))⟩,
 ⟨(some 33), (some (31, false)), (.ld false 1 (.tmp 32))⟩,
 ⟨(some 34), (some (31, false)), (.bin .eql (.tmp 33) (.const (.int .i64 2)))⟩,
 ⟨(some 35), none, (.pick (.tmp 31) (.const (.bool true)) (.tmp 34))⟩,
 ⟨(some 36), none, (.mv (.tmp 35))⟩,
 ⟨(some 37), (some (36, false)), (.fad 0 false 1 (.tmp 4))⟩,
 ⟨(some 38), (some (36, false)), (.ld false 1 (.tmp 37))⟩,
 ⟨(some 39), (some (36, false)), (.bin .eql (.tmp 38) (.const (.int .i64 3)))⟩,
 ⟨(some 40), none, (.pick (.tmp 36) (.const (.bool true)) (.tmp 39))⟩,
 ⟨(some 41), none, (.mv (.tmp 40))⟩,
 ⟨(some 42), (some (41, false)), (.fad 0 false 1 (.tmp 4))⟩,
 ⟨(some 43), (some (41, false)), (.ld false 1 (.tmp 42))⟩,
 ⟨(some 44), (some (41, false)), (.bin .eql (.tmp 43) (.const (.int .i64 4)))⟩,
 ⟨(some 45), none, (.pick (.tmp 41) (.const (.bool true)) (.tmp 44))⟩,
 ⟨(some 46), none, (.mv (.tmp 45))⟩,
 ⟨(some 47), (some (46, false)), (.fad 0 false 1 (.tmp 4))⟩,
 ⟨(some 48), (some (46, false)), (.ld false 1 (.tmp 47))⟩,
 ⟨(some 49), (some (46, false)), (.bin .eql (.tmp 48) (.const (.int .i64 6)))⟩,
 ⟨(some 50), none, (.pick (.tmp 46) (.const (.bool true)) (.tmp 49))⟩,
 ⟨(some 51), none, (.mv (.tmp 50))⟩,
 ⟨(some 52), (some (51, false)), (.fad 0 false 1 (.tmp 4))⟩,
 ⟨(some 53), (some (51, false)), (.ld false 1 (.tmp 52))⟩,
 ⟨(some 54), (some (51, false)), (.bin .eql (.tmp 53) (.const (.int .i64 8)))⟩,
 ⟨(some 55), none, (.pick (.tmp 51) (.const (.bool true)) (.tmp 54))⟩])
 (.cond (.tmp 55)
 (.seq
 (.ops [
 ⟨(some 56), none, (.fad 1 false 1 (.tmp 4))⟩,
 ⟨(some 57), none, (.ld false 1 (.tmp 56))⟩,
 ⟨(some 58), none, (.fad 1 false 1 (.tmp 9))⟩,
 ⟨none, none, (.sto false 1 (.tmp 58) (.tmp 57))⟩])
 (.seq
 (.ops [
 ⟨(some 59), none, (.fad 1 false 1 (.tmp 4))⟩,
 ⟨(some 60), none, (.ld false 1 (.tmp 59))⟩,
 ⟨(some 61), none, (.mv (.tmp 2))⟩,
 ⟨(some 62), none, (.call (.func 59) [(.tmp 60), (.tmp 61)])⟩,
 ⟨(some 63), none, (.un .not (.tmp 62))⟩])
 (.cond (.tmp 63)
 (.seq
 (.ops [
 ⟨(some 8), none, (.mv (.const (.bool false)))⟩])
 .ret)
 .skip)))
 .skip))
 (.seq
 (.ops [
 ⟨(some 64), none, (.ld true 8 (.tmp 4))⟩,
 ⟨(some 65), none, (.call (.func 35) [(.tmp 64)])⟩,
 ⟨(some 10), none, (.mv (.tmp 65))⟩])
 (.seq
 (.seq
 (.ops [
 ⟨(some 11), none, (.mv (.const (.int .i64 0)))⟩])
 (.block 0
 (.loop
 (.seq
 (.seq
 (.ops [
 ⟨(some 66), none, (.mv (.tmp 11))⟩,
 ⟨(some 67), none, (.mv (.tmp 10))⟩,
 ⟨(some 68), none, (.len (.tmp 67))⟩,
 ⟨(some 69), none, (.bin .lss (.tmp 66) (.tmp 68))⟩])
 (.cond (.tmp 69)
 .skip
 (.exit 0)))
 (.seq
 (.block 1
 (.seq
 (.ops [
 ⟨(some 72), none, (.mv (.tmp 10))⟩,
 ⟨(some 73), none, (.mv (.tmp 11))⟩,
 ⟨(some 74), none, (.idx 1 (.tmp 72) (.tmp 73))⟩,
 ⟨(some 75), none, (.ld false 1 (.tmp 74))⟩,
 ⟨(some 76), none, (.mv (.tmp 2))⟩,
 ⟨(some 77), none, (.call (.func 59) [(.tmp 75), (.tmp 76)])⟩,
 ⟨(some 78), none, (.un .not (.tmp 77))⟩])
 (.cond (.tmp 78)
 (.seq
 (.ops [
 ⟨(some 8), none, (.mv (.const (.bool false)))⟩])
 .ret)
 .skip)))
 (.ops [
 ⟨(some 70), none, (.mv (.tmp 11))⟩,
 ⟨(some 71), none, (.bin .add (.tmp 70) (.const (.int .i64 1)))⟩,
 ⟨(some 11), none, (.mv (.tmp 71))⟩]))))))
 (.seq
 (.seq
 (.ops [
 ⟨(some 79), none, (.mv (.tmp 10))⟩,
 ⟨(some 80), none, (.len (.tmp 79))⟩,
 ⟨(some 81), none, (.bin .gtr (.tmp 80) (.const (.int .i64 0)))⟩])
 (.cond (.tmp 81)
 (.ops [
 ⟨(some 82), none, (.fad 2 false 1 (.tmp 4))⟩,
 ⟨(some 83), none, (.ld false 1 (.tmp 82))⟩,
 ⟨(some 84), none, (.fad 2 false 1 (.tmp 9))⟩,
 ⟨none, none, (.sto false 1 (.tmp 84) (.tmp 83))⟩])
 .skip))
 (.seq
 (.seq
 (.ops [
 ⟨(some 85), none, (.mv (.tmp 10))⟩,
 ⟨(some 86), none, (.len (.tmp 85))⟩,
 ⟨(some 87), none, (.bin .gtr (.tmp 86) (.const (.int .i64 1)))⟩])
 (.cond (.tmp 87)
 (.ops [
 ⟨(some 88), none, (.fad 3 false 1 (.tmp 4))⟩,
 ⟨(some 89), none, (.ld false 1 (.tmp 88))⟩,
 ⟨(some 90), none, (.fad 3 false 1 (.tmp 9))⟩,
 ⟨none, none, (.sto false 1 (.tmp 90) (.tmp 89))⟩])
 .skip))
 (.seq
 (.seq
 (.ops [
 ⟨(some 91), none, (.fad 0 false 1 (.tmp 4))⟩,
 ⟨(some 92), none, (.ld false 1 (.tmp 91))⟩])
 (.block 2
 (.seq
 (.ops [
 ⟨(some 94), none, (.bin .eql (.tmp 92) (.const (.int .i64 1)))⟩,
 ⟨(some 93), none, (.mv (.tmp 94))⟩])
 (.cond (.tmp 93)
 (.ops [
 ⟨(some 95), none, (.fad 7 false 1 (.tmp 4))⟩,
 ⟨(some 96), none, (.ld false 1 (.tmp 95))⟩,
 ⟨(some 97), none, (.fad 7 false 1 (.tmp 9))⟩,
 ⟨none, none, (.sto false 1 (.tmp 97) (.tmp 96))⟩])
 (.seq
 (.ops [
 ⟨(some 99), none, (.bin .eql (.tmp 92) (.const (.int .i64 3)))⟩,
 ⟨(some 98), none, (.mv (.tmp 99))⟩])
 (.cond (.tmp 98)
 (.seq
 (.ops [
 ⟨(some 100), none, (.fad 4 false 1 (.tmp 4))⟩,
 ⟨(some 101), none, (.ld false 1 (.tmp 100))⟩,
 ⟨(some 102), none, (.fad 4 false 1 (.tmp 9))⟩,
 ⟨none, none, (.sto false 1 (.tmp 102) (.tmp 101))⟩])
 (.seq
 (.ops [
 ⟨(some 103), none, (.fad 4 false 1 (.tmp 4))⟩,
 ⟨(some 104), none, (.ld false 1 (.tmp 103))⟩,
 ⟨(some 105), none, (.bin .lss (.tmp 104) (.const (.int .i64 4)))⟩,
 ⟨(some 106), none, (.mv (.tmp 105))⟩,
 ⟨(some 107), (some (106, false)), (.fad 4 false 1 (.tmp 4))⟩,
 ⟨(some 108), (some (106, false)), (.ld false 1 (.tmp 107))⟩,
 ⟨(some 109), (some (106, false)), (.bin .gtr (.tmp 108) (.const (.int .i64 15)))⟩,
 ⟨(some 110), none, (.pick (.tmp 106) (.const (.bool true)) (.tmp 109))⟩])
 (.cond (.tmp 110)
 (.seq
 (.ops [
 ⟨(some 8), none, (.mv (.const (.bool false)))⟩])
 .ret)
 .skip)))
 (.seq
 (.seq
 (.ops [
 ⟨(some 112), none, (.bin .eql (.tmp 92) (.const (.int .i64 4)))⟩,
 ⟨(some 111), none, (.mv (.tmp 112))⟩])
 (.cond (.tmp 111)
 .skip
 (.ops [
 ⟨(some 113), none, (.bin .eql (.tmp 92) (.const (.int .i64 5)))⟩,
 ⟨(some 111), none, (.mv (.tmp 113))⟩])))
 (.cond (.tmp 111)
 (.seq
 (.ops [
 ⟨(some 114), none, (.fad 5 false 1 (.tmp 4))⟩,
 ⟨(some 115), none, (.ld false 1 (.tmp 114))⟩,
 ⟨(some 116), none, (.fad 5 false 1 (.tmp 9))⟩,
 ⟨none, none, (.sto false 1 (.tmp 116) (.tmp 115))⟩])
 (.seq
 (.ops [
 ⟨(some 117), none, (.fad 5 false 1 (.tmp 4))⟩,
 ⟨(some 118), none, (.ld false 1 (.tmp 117))⟩,
 ⟨(some 119), none, (.mv (.tmp 3))⟩,
 ⟨(some 120), none, (.call (.func 59) [(.tmp 118), (.tmp 119)])⟩,
 ⟨(some 121), none, (.un .not (.tmp 120))⟩])
 (.cond (.tmp 121)
 (.seq
 (.ops [
 ⟨(some 8), none, (.mv (.const (.bool false)))⟩])
 .ret)
 .skip)))
 (.seq
 (.seq
 (.ops [
 ⟨(some 123), none, (.bin .eql (.tmp 92) (.const (.int .i64 6)))⟩,
 ⟨(some 122), none, (.mv (.tmp 123))⟩])
 (.cond (.tmp 122)
 .skip
 (.ops [
 ⟨(some 124), none, (.bin .eql (.tmp 92) (.const (.int .i64 7)))⟩,
 ⟨(some 122), none, (.mv (.tmp 124))⟩])))
 (.cond (.tmp 122)
 (.seq
 (.par false (.one ⟨(some 125), none, (.fad 5 false 1 (.tmp 4))⟩ (.one ⟨(some 126), none, (.ld false 1 (.tmp 125))⟩ (.one ⟨(some 127), none, (.fad 6 false 1 (.tmp 4))⟩ (.one ⟨(some 129), none, (.fad 5 false 1 (.tmp 9))⟩ (.both (.one ⟨(some 128), none, (.ld false 1 (.tmp 127))⟩ (.one ⟨none, none, (.sto false 1 (.tmp 129) (.tmp 126))⟩ (.one ⟨(some 130), none, (.fad 6 false 1 (.tmp 9))⟩ (.one ⟨none, none, (.sto false 1 (.tmp 130) (.tmp 128))⟩ .done)))) (.one ⟨none, none, (.sto false 1 (.tmp 129) (.tmp 126))⟩ (.one ⟨(some 128), none, (.ld false 1 (.tmp 127))⟩ (.one ⟨(some 130), none, (.fad 6 false 1 (.tmp 9))⟩ (.one ⟨none, none, (.sto false 1 (.tmp 130) (.tmp 128))⟩ .done))))))))))
 (.seq
 (.ops [
 ⟨(some 131), none, (.fad 6 false 1 (.tmp 4))⟩,
 ⟨(some 132), none, (.ld false 1 (.tmp 131))⟩,
 ⟨(some 133), none, (.bin .lss (.tmp 132) (.const (.int .i64 1)))⟩,
 ⟨(some 134), none, (.mv (.tmp 133))⟩,
 ⟨(some 135), (some (134, false)), (.fad 6 false 1 (.tmp 4))⟩,
 ⟨(some 136), (some (134, false)), (.ld false 1 (.tmp 135))⟩,
 ⟨(some 137), (some (134, false)), (.bin .gtr (.tmp 136) (.const (.int .i64 4096)))⟩,
 ⟨(some 138), none, (.pick (.tmp 134) (.const (.bool true)) (.tmp 137))⟩,
 ⟨(some 139), none, (.mv (.tmp 138))⟩,
 ⟨(some 140), (some (139, false)), (.fad 5 false 1 (.tmp 4))⟩,
 ⟨(some 141), (some (139, false)), (.ld false 1 (.tmp 140))⟩,
 ⟨(some 142), (some (139, false)), (.bin .lss (.tmp 141) (.const (.int .i64 0)))⟩,
 ⟨(some 143), none, (.pick (.tmp 139) (.const (.bool true)) (.tmp 142))⟩,
 ⟨(some 144), none, (.mv (.tmp 143))⟩,
 ⟨(some 145), (some (144, false)), (.fad 5 false 1 (.tmp 4))⟩,
 ⟨(some 146), (some (144, false)), (.ld false 1 (.tmp 145))⟩,
 ⟨(some 147), (some (144, false)), (.mv (.tmp 3))⟩,
 ⟨(some 148), (some (144, false)), (.fad 6 false 1 (.tmp 4))⟩,
 ⟨(some 149), (some (144, false)), (.ld false 1 (.tmp 148))⟩,
 ⟨(some 150), (some (144, false)), (.bin .sub (.tmp 147) (.tmp 149))⟩,
 ⟨(some 151), (some (144, false)), (.bin .gtr (.tmp 146) (.tmp 150))⟩,
 ⟨(some 152), none, (.pick (.tmp 144) (.const (.bool true)) (.tmp 151))⟩])
 (.cond (.tmp 152)
 (.seq
 (.ops [
 ⟨(some 8), none, (.mv (.const (.bool false)))⟩])
 .ret)
 .skip)))
 (.seq
 (.ops [
 ⟨(some 154), none, (.bin .eql (.tmp 92) (.const (.int .i64 10)))⟩,
 ⟨(some 153), none, (.mv (.tmp 154))⟩])
 (.cond (.tmp 153)
 (.seq
 (.ops [
 ⟨(some 155), none, (.fad 5 false 1 (.tmp 4))⟩,
 ⟨(some 156), none, (.ld false 1 (.tmp 155))⟩,
 ⟨(some 157), none, (.fad 5 false 1 (.tmp 9))⟩,
 ⟨none, none, (.sto false 1 (.tmp 157) (.tmp 156))⟩])
 (.seq
 (.ops [
 ⟨(some 158), none, (.fad 5 false 1 (.tmp 4))⟩,
 ⟨(some 159), none, (.ld false 1 (.tmp 158))⟩,
 ⟨(some 160), none, (.mv (.tmp 1))⟩,
 ⟨(some 161), none, (.call (.func 59) [(.tmp 159), (.tmp 160)])⟩,
 ⟨(some 162), none, (.un .not (.tmp 161))⟩])
 (.cond (.tmp 162)
 (.seq
 (.ops [
 ⟨(some 8), none, (.mv (.const (.bool false)))⟩])
 .ret)
 .skip)))
 .skip))))))))))))
 (.seq
 (.ops [
 ⟨(some 163), none, (.ld true 8 (.tmp 4))⟩,
 ⟨(some 164), none, (.ld true 8 (.tmp 9))⟩,
 ⟨(some 165), none, (.pur (.eqv false [.int, .int, .int, .int, .int, .int, .int, .int]) [(.tmp 163), (.tmp 164)])⟩,
 ⟨(some 8), none, (.mv (.tmp 165))⟩])
 .ret))))))))))
theorem f_scref24_fits : compF Try.prog 39 = some (166, c_scref24_fits, [(.tmp 8)]) := by kernel_rfl
def c_scref27_last : VC :=
 (.seq
 (.ops [
 ⟨(some 2), none, (.box 60 (.tmp 0))⟩,
 ⟨(some 4), none, (.mv (.const (.slice none 0 0)))⟩])
 (.seq
 (.ops [
 ⟨(some 6), none, (.bsl 4 1 0 [] [])⟩,
 ⟨(some 7), none, (.mv (.tmp 1))⟩,
 ⟨(some 8), none, (.app 4 1 1 (.tmp 6) (.tmp 7))⟩,
 ⟨(some 5), none, (.mv (.tmp 8))⟩])
 (.seq
 (.seq
 (.ops [
 ⟨(some 9), none, (.fad 1 false 1 (.tmp 2))⟩,
 ⟨(some 10), none, (.ld false 1 (.tmp 9))⟩,
 ⟨(some 11), none, (.bin .eql (.tmp 10) (.const (.int .i64 2)))⟩])
 (.cond (.tmp 11)
 (.ops [
 ⟨(some 12), none, (.mv (.tmp 5))⟩,
 ⟨(some 13), none, (.fad 2 false 1 (.tmp 2))⟩,
 ⟨(some 14), none, (.ld false 1 (.tmp 13))⟩,
 ⟨(some 15), none, (.idx 1 (.tmp 12) (.tmp 14))⟩,
 ⟨none, none, (.sto false 1 (.tmp 15) (.const (.bool true)))⟩])
 .skip))
 (.seq
 (.ops [
 ⟨(some 16), none, (.mv (.tmp 5))⟩,
 ⟨(some 4), none, (.mv (.tmp 16))⟩])
 .ret))))
theorem f_scref27_last : compF Try.prog 40 = some (17, c_scref27_last, [(.tmp 4)]) := by kernel_rfl
def c_scref27_back : VC :=
 (.seq
 (.ops [
 ⟨(some 2), none, (.box 57 (.tmp 0))⟩,
 ⟨(some 4), none, (.mv (.const (.slice none 0 0)))⟩])
 (.seq
 (.ops [
 ⟨(some 9), none, (.bsl 4 1 0 [] [])⟩,
 ⟨(some 10), none, (.mv (.tmp 1))⟩,
 ⟨(some 11), none, (.app 4 1 1 (.tmp 9) (.tmp 10))⟩,
 ⟨(some 5), none, (.mv (.tmp 11))⟩])
 (.seq
 (.seq
 (.ops [
 ⟨(some 12), none, (.ld true 8 (.tmp 2))⟩,
 ⟨(some 13), none, (.call (.func 36) [(.tmp 12)])⟩,
 ⟨(some 6), none, (.mv (.tmp 13))⟩])
 (.seq
 (.ops [
 ⟨(some 14), none, (.mv (.tmp 6))⟩,
 ⟨(some 15), none, (.bin .geq (.tmp 14) (.const (.int .i64 0)))⟩])
 (.cond (.tmp 15)
 (.ops [
 ⟨(some 16), none, (.mv (.tmp 5))⟩,
 ⟨(some 17), none, (.mv (.tmp 6))⟩,
 ⟨(some 18), none, (.idx 1 (.tmp 16) (.tmp 17))⟩,
 ⟨none, none, (.sto false 1 (.tmp 18) (.const (.bool false)))⟩])
 .skip)))
 (.seq
 (.ops [
 ⟨(some 19), none, (.ld true 8 (.tmp 2))⟩,
 ⟨(some 20), none, (.call (.func 35) [(.tmp 19)])⟩,
 ⟨(some 7), none, (.mv (.tmp 20))⟩])
 (.seq
 (.seq
 (.ops [
 ⟨(some 8), none, (.mv (.const (.int .i64 0)))⟩])
 (.block 0
 (.loop
 (.seq
 (.seq
 (.ops [
 ⟨(some 21), none, (.mv (.tmp 8))⟩,
 ⟨(some 22), none, (.mv (.tmp 7))⟩,
 ⟨(some 23), none, (.len (.tmp 22))⟩,
 ⟨(some 24), none, (.bin .lss (.tmp 21) (.tmp 23))⟩])
 (.cond (.tmp 24)
 .skip
 (.exit 0)))
 (.seq
 (.block 1
 (.ops [
 ⟨(some 27), none, (.mv (.tmp 5))⟩,
 ⟨(some 28), none, (.mv (.tmp 7))⟩,
 ⟨(some 29), none, (.mv (.tmp 8))⟩,
 ⟨(some 30), none, (.idx 1 (.tmp 28) (.tmp 29))⟩,
 ⟨(some 31), none, (.ld false 1 (.tmp 30))⟩,
 ⟨(some 32), none, (.idx 1 (.tmp 27) (.tmp 31))⟩,
 ⟨none, none, (.sto false 1 (.tmp 32) (.const (.bool true)))⟩]))
 (.ops [
 ⟨(some 25), none, (.mv (.tmp 8))⟩,
 ⟨(some 26), none, (.bin .add (.tmp 25) (.const (.int .i64 1)))⟩,
 ⟨(some 8), none, (.mv (.tmp 26))⟩]))))))
 (.seq
 (.ops [
 ⟨(some 33), none, (.mv (.tmp 5))⟩,
 ⟨(some 4), none, (.mv (.tmp 33))⟩])
 .ret))))))
theorem f_scref27_back : compF Try.prog 41 = some (34, c_scref27_back, [(.tmp 4)]) := by kernel_rfl
def c_alloc_newBits : VC :=
 (.seq
 (.ops [
 ⟨(some 2), none, (.mv (.const (.slice none 0 0)))⟩])
 (.seq
 (.ops [
 ⟨(some 3), none, (.mv (.tmp 0))⟩,
 ⟨(some 4), none, (.bin .add (.tmp 3) (.const (.int .i64 63)))⟩,
 ⟨(some 5), none, (.bin .quo (.tmp 4) (.const (.int .i64 64)))⟩,
 ⟨(some 6), none, (.mk 97 1 8 [(.int .u64 0)] (.tmp 5) (.tmp 5))⟩,
 ⟨(some 2), none, (.mv (.tmp 6))⟩])
 .ret))
theorem f_alloc_newBits : compF Try.prog 42 = some (7, c_alloc_newBits, [(.tmp 2)]) := by kernel_rfl
def c_alloc_fromRow : VC :=
 (.seq
 (.ops [
 ⟨(some 2), none, (.mv (.const (.slice none 0 0)))⟩])
 (.seq
 (.ops [
 ⟨(some 6), none, (.mv (.tmp 0))⟩,
 ⟨(some 7), none, (.len (.tmp 6))⟩,
 ⟨(some 8), none, (.call (.func 42) [(.tmp 7)])⟩,
 ⟨(some 3), none, (.mv (.tmp 8))⟩])
 (.seq
 (.seq
 (.ops [
 ⟨(some 9), none, (.mv (.tmp 0))⟩,
 ⟨(some 10), none, (.len (.tmp 9))⟩,
 ⟨(some 11), none, (.mv (.const (.int .i64 0)))⟩])
 (.block 0
 (.loop
 (.seq
 (.ops [
 ⟨(some 12), none, (.bin .lss (.tmp 11) (.tmp 10))⟩])
 (.seq
 (.cond (.tmp 12)
 .skip
 (.exit 0))
 (.seq
 (.block 1
 (.seq
 (.ops [
 ⟨(some 13), none, (.mv (.tmp 11))⟩,
 ⟨(some 14), none, (.idx 1 (.tmp 9) (.tmp 11))⟩,
 ⟨(some 15), none, (.ld false 1 (.tmp 14))⟩,
 ⟨(some 4), none, (.mv (.tmp 13))⟩,
 ⟨(some 5), none, (.mv (.tmp 15))⟩])
 (.seq
 (.ops [
 ⟨(some 16), none, (.mv (.tmp 5))⟩])
 (.cond (.tmp 16)
 (.ops [
 ⟨(some 17), none, (.mv (.tmp 3))⟩,
 ⟨(some 18), none, (.mv (.tmp 4))⟩,
 ⟨(some 19), none, (.call (.func 45) [(.tmp 17), (.tmp 18)])⟩])
 .skip))))
 (.ops [
 ⟨(some 20), none, (.bin .add (.tmp 11) (.const (.int .i64 1)))⟩,
 ⟨(some 11), none, (.mv (.tmp 20))⟩])))))))
 (.seq
 (.ops [
 ⟨(some 21), none, (.mv (.tmp 3))⟩,
 ⟨(some 2), none, (.mv (.tmp 21))⟩])
 .ret))))
theorem f_alloc_fromRow : compF Try.prog 43 = some (22, c_alloc_fromRow, [(.tmp 2)]) := by kernel_rfl
def c_alloc_bits_addAll : VC :=
 (.seq
 (.ops [
 ⟨(some 6), none, (.mv (.tmp 1))⟩,
 ⟨(some 7), none, (.len (.tmp 6))⟩,
 ⟨(some 8), none, (.mv (.const (.int .i64 0)))⟩])
 (.block 0
 (.loop
 (.seq
 (.ops [
 ⟨(some 9), none, (.bin .lss (.tmp 8) (.tmp 7))⟩])
 (.seq
 (.cond (.tmp 9)
 .skip
 (.exit 0))
 (.seq
 (.block 1
 (.seq
 (.ops [
 ⟨(some 10), none, (.mv (.tmp 8))⟩,
 ⟨(some 11), none, (.idx 1 (.tmp 6) (.tmp 8))⟩,
 ⟨(some 12), none, (.ld false 1 (.tmp 11))⟩,
 ⟨(some 4), none, (.mv (.tmp 10))⟩,
 ⟨(some 5), none, (.mv (.tmp 12))⟩])
 (.ops [
 ⟨(some 13), none, (.mv (.tmp 0))⟩,
 ⟨(some 14), none, (.mv (.tmp 4))⟩,
 ⟨(some 15), none, (.idx 1 (.tmp 13) (.tmp 14))⟩,
 ⟨(some 16), none, (.ld false 1 (.tmp 15))⟩,
 ⟨(some 17), none, (.mv (.tmp 5))⟩,
 ⟨(some 18), none, (.bin .or (.tmp 16) (.tmp 17))⟩,
 ⟨(some 19), none, (.idx 1 (.tmp 13) (.tmp 14))⟩,
 ⟨none, none, (.sto false 1 (.tmp 19) (.tmp 18))⟩])))
 (.ops [
 ⟨(some 20), none, (.bin .add (.tmp 8) (.const (.int .i64 1)))⟩,
 ⟨(some 8), none, (.mv (.tmp 20))⟩])))))))
theorem f_alloc_bits_addAll : compF Try.prog 44 = some (21, c_alloc_bits_addAll, []) := by kernel_rfl
def c_alloc_bits_add : VC :=
 (.ops [
 ⟨(some 4), none, (.mv (.tmp 0))⟩,
 ⟨(some 5), none, (.mv (.tmp 1))⟩,
 ⟨(some 6), none, (.bin .quo (.tmp 5) (.const (.int .i64 64)))⟩,
 ⟨(some 7), none, (.idx 1 (.tmp 4) (.tmp 6))⟩,
 ⟨(some 8), none, (.ld false 1 (.tmp 7))⟩,
 ⟨(some 9), none, (.mv (.tmp 1))⟩,
 ⟨(some 10), none, (.bin .rem (.tmp 9) (.const (.int .i64 64)))⟩,
 ⟨(some 11), none, (.bin .shl (.const (.int .u64 1)) (.tmp 10))⟩,
 ⟨(some 12), none, (.bin .or (.tmp 8) (.tmp 11))⟩,
 ⟨(some 13), none, (.idx 1 (.tmp 4) (.tmp 6))⟩,
 ⟨none, none, (.sto false 1 (.tmp 13) (.tmp 12))⟩])
theorem f_alloc_bits_add : compF Try.prog 45 = some (14, c_alloc_bits_add, []) := by kernel_rfl
def c_block_Sets : VC :=
 (.seq
 (.ops [
 ⟨(some 1), none, (.box 57 (.tmp 0))⟩,
 ⟨(some 2), none, (.mv (.const (.int .i64 0)))⟩])
 (.seq
 (.seq
 (.ops [
 ⟨(some 3), none, (.fad 0 false 1 (.tmp 1))⟩,
 ⟨(some 4), none, (.ld false 1 (.tmp 3))⟩,
 ⟨(some 5), none, (.call (.func 60) [(.tmp 4)])⟩])
 (.cond (.tmp 5)
 (.seq
 (.ops [
 ⟨(some 6), none, (.fad 1 false 1 (.tmp 1))⟩,
 ⟨(some 7), none, (.ld false 1 (.tmp 6))⟩,
 ⟨(some 2), none, (.mv (.tmp 7))⟩])
 .ret)
 .skip))
 (.seq
 (.ops [
 ⟨(some 2), none, (.mv (.const (.int .i64 (-1))))⟩])
 .ret)))
theorem f_block_Sets : compF Try.prog 46 = some (8, c_block_Sets, [(.tmp 2)]) := by kernel_rfl
def c_alloc_bits_drop : VC :=
 (.ops [
 ⟨(some 4), none, (.mv (.tmp 0))⟩,
 ⟨(some 5), none, (.mv (.tmp 1))⟩,
 ⟨(some 6), none, (.bin .quo (.tmp 5) (.const (.int .i64 64)))⟩,
 ⟨(some 7), none, (.idx 1 (.tmp 4) (.tmp 6))⟩,
 ⟨(some 8), none, (.ld false 1 (.tmp 7))⟩,
 ⟨(some 9), none, (.mv (.tmp 1))⟩,
 ⟨(some 10), none, (.bin .rem (.tmp 9) (.const (.int .i64 64)))⟩,
 ⟨(some 11), none, (.bin .shl (.const (.int .u64 1)) (.tmp 10))⟩,
 ⟨(some 12), none, (.bin .andNot (.tmp 8) (.tmp 11))⟩,
 ⟨(some 13), none, (.idx 1 (.tmp 4) (.tmp 6))⟩,
 ⟨none, none, (.sto false 1 (.tmp 13) (.tmp 12))⟩])
theorem f_alloc_bits_drop : compF Try.prog 47 = some (14, c_alloc_bits_drop, []) := by kernel_rfl
def c_block_Uses : VC :=
 (.seq
 (.ops [
 ⟨(some 1), none, (.box 57 (.tmp 0))⟩,
 ⟨(some 2), none, (.mv (.const (.slice none 0 0)))⟩])
 (.seq
 (.seq
 (.ops [
 ⟨(some 3), none, (.fad 0 false 1 (.tmp 1))⟩,
 ⟨(some 4), none, (.ld false 1 (.tmp 3))⟩,
 ⟨(some 5), none, (.call (.func 61) [(.tmp 4)])⟩])
 (.block 0
 (.seq
 (.ops [
 ⟨(some 7), none, (.bin .eql (.tmp 5) (.const (.int .i64 1)))⟩,
 ⟨(some 6), none, (.mv (.tmp 7))⟩])
 (.cond (.tmp 6)
 (.seq
 (.ops [
 ⟨(some 8), none, (.fad 2 false 1 (.tmp 1))⟩,
 ⟨(some 9), none, (.ld false 1 (.tmp 8))⟩,
 ⟨(some 10), none, (.bsl 3 1 1 [(.int .i64 0)] [(0, (1, (.tmp 9)))])⟩,
 ⟨(some 2), none, (.mv (.tmp 10))⟩])
 .ret)
 (.seq
 (.ops [
 ⟨(some 12), none, (.bin .eql (.tmp 5) (.const (.int .i64 2)))⟩,
 ⟨(some 11), none, (.mv (.tmp 12))⟩])
 (.cond (.tmp 11)
 (.seq
 (.ops [
 ⟨(some 13), none, (.fad 2 false 1 (.tmp 1))⟩,
 ⟨(some 14), none, (.ld false 1 (.tmp 13))⟩,
 ⟨(some 15), none, (.fad 3 false 1 (.tmp 1))⟩,
 ⟨(some 16), none, (.ld false 1 (.tmp 15))⟩,
 ⟨(some 17), none, (.bsl 3 1 2 [(.int .i64 0), (.int .i64 0)] [(0, (1, (.tmp 14))), (1, (1, (.tmp 16)))])⟩,
 ⟨(some 2), none, (.mv (.tmp 17))⟩])
 .ret)
 .skip))))))
 (.seq
 (.ops [
 ⟨(some 2), none, (.mv (.const (.slice none 0 0)))⟩])
 .ret)))
theorem f_block_Uses : compF Try.prog 48 = some (18, c_block_Uses, [(.tmp 2)]) := by kernel_rfl
def c_scref27_Sized : VC :=
 (.seq
 (.ops [
 ⟨(some 2), none, (.box 24 (.tmp 0))⟩,
 ⟨(some 3), none, (.box 29 (.tmp 1))⟩,
 ⟨(some 4), none, (.mv (.const (.bool false)))⟩])
 (.seq
 (.ops [
 ⟨(some 5), none, (.fad 0 false 1 (.tmp 3))⟩,
 ⟨(some 6), none, (.ld false 1 (.tmp 5))⟩,
 ⟨(some 7), none, (.fad 1 false 1 (.tmp 2))⟩,
 ⟨(some 8), none, (.ld false 1 (.tmp 7))⟩,
 ⟨(some 9), none, (.len (.tmp 8))⟩,
 ⟨(some 10), none, (.fad 0 false 1 (.tmp 2))⟩,
 ⟨(some 11), none, (.ld false 1 (.tmp 10))⟩,
 ⟨(some 12), none, (.call (.func 62) [(.tmp 6), (.tmp 9), (.tmp 11)])⟩,
 ⟨(some 13), none, (.mv (.tmp 12))⟩,
 ⟨(some 14), (some (13, true)), (.fad 1 false 1 (.tmp 3))⟩,
 ⟨(some 15), (some (13, true)), (.ld false 1 (.tmp 14))⟩,
 ⟨(some 16), (some (13, true)), (.fad 1 false 1 (.tmp 2))⟩,
 ⟨(some 17), (some (13, true)), (.ld false 1 (.tmp 16))⟩,
 ⟨(some 18), (some (13, true)), (.len (.tmp 17))⟩,
 ⟨(some 19), (some (13, true)), (.fad 0 false 1 (.tmp 2))⟩,
 ⟨(some 20), (some (13, true)), (.ld false 1 (.tmp 19))⟩,
 ⟨(some 21), (some (13, true)), (.call (.func 62) [(.tmp 15), (.tmp 18), (.tmp 20)])⟩,
 ⟨(some 22), none, (.pick (.tmp 13) (.tmp 21) (.const (.bool false)))⟩,
 ⟨(some 4), none, (.mv (.tmp 22))⟩])
 .ret))
theorem f_scref27_Sized : compF Try.prog 49 = some (23, c_scref27_Sized, [(.tmp 4)]) := by kernel_rfl
def c_scref27_within : VC :=
 (.seq
 (.ops [
 ⟨(some 4), none, (.mv (.const (.bool false)))⟩])
 (.seq
 (.seq
 (.ops [
 ⟨(some 5), none, (.mv (.const (.int .i64 0)))⟩])
 (.block 0
 (.loop
 (.seq
 (.seq
 (.ops [
 ⟨(some 6), none, (.mv (.tmp 5))⟩,
 ⟨(some 7), none, (.mv (.tmp 0))⟩,
 ⟨(some 8), none, (.len (.tmp 7))⟩,
 ⟨(some 9), none, (.bin .lss (.tmp 6) (.tmp 8))⟩])
 (.cond (.tmp 9)
 .skip
 (.exit 0)))
 (.seq
 (.block 1
 (.seq
 (.ops [
 ⟨(some 12), none, (.mv (.tmp 0))⟩,
 ⟨(some 13), none, (.mv (.tmp 5))⟩,
 ⟨(some 14), none, (.idx 1 (.tmp 12) (.tmp 13))⟩,
 ⟨(some 15), none, (.ld false 1 (.tmp 14))⟩,
 ⟨(some 16), none, (.mv (.tmp 15))⟩,
 ⟨(some 17), (some (16, true)), (.mv (.tmp 1))⟩,
 ⟨(some 18), (some (16, true)), (.mv (.tmp 5))⟩,
 ⟨(some 19), (some (16, true)), (.idx 1 (.tmp 17) (.tmp 18))⟩,
 ⟨(some 20), (some (16, true)), (.ld false 1 (.tmp 19))⟩,
 ⟨(some 21), (some (16, true)), (.un .not (.tmp 20))⟩,
 ⟨(some 22), none, (.pick (.tmp 16) (.tmp 21) (.const (.bool false)))⟩])
 (.cond (.tmp 22)
 (.seq
 (.ops [
 ⟨(some 4), none, (.mv (.const (.bool false)))⟩])
 .ret)
 .skip)))
 (.ops [
 ⟨(some 10), none, (.mv (.tmp 5))⟩,
 ⟨(some 11), none, (.bin .add (.tmp 10) (.const (.int .i64 1)))⟩,
 ⟨(some 5), none, (.mv (.tmp 11))⟩]))))))
 (.seq
 (.ops [
 ⟨(some 4), none, (.mv (.const (.bool true)))⟩])
 .ret)))
theorem f_scref27_within : compF Try.prog 50 = some (23, c_scref27_within, [(.tmp 4)]) := by kernel_rfl
def c_live_fits : VC :=
 (.seq
 (.ops [
 ⟨(some 2), none, (.box 24 (.tmp 0))⟩,
 ⟨(some 4), none, (.mv (.const (.bool false)))⟩])
 (.seq
 (.seq
 (.ops [
 ⟨(some 7), none, (.mv (.tmp 1))⟩,
 ⟨(some 8), none, (.len (.tmp 7))⟩,
 ⟨(some 9), none, (.fad 1 false 1 (.tmp 2))⟩,
 ⟨(some 10), none, (.ld false 1 (.tmp 9))⟩,
 ⟨(some 11), none, (.len (.tmp 10))⟩,
 ⟨(some 12), none, (.bin .neq (.tmp 8) (.tmp 11))⟩])
 (.cond (.tmp 12)
 (.seq
 (.ops [
 ⟨(some 4), none, (.mv (.const (.bool false)))⟩])
 .ret)
 .skip))
 (.seq
 (.seq
 (.ops [
 ⟨(some 13), none, (.mv (.tmp 1))⟩,
 ⟨(some 14), none, (.len (.tmp 13))⟩,
 ⟨(some 15), none, (.mv (.const (.int .i64 0)))⟩])
 (.block 0
 (.loop
 (.seq
 (.ops [
 ⟨(some 16), none, (.bin .lss (.tmp 15) (.tmp 14))⟩])
 (.seq
 (.cond (.tmp 16)
 .skip
 (.exit 0))
 (.seq
 (.block 1
 (.seq
 (.ops [
 ⟨(some 17), none, (.idx 1 (.tmp 13) (.tmp 15))⟩,
 ⟨(some 18), none, (.ld false 1 (.tmp 17))⟩,
 ⟨(some 6), none, (.mv (.tmp 18))⟩])
 (.seq
 (.ops [
 ⟨(some 19), none, (.mv (.tmp 6))⟩,
 ⟨(some 20), none, (.len (.tmp 19))⟩,
 ⟨(some 21), none, (.fad 0 false 1 (.tmp 2))⟩,
 ⟨(some 22), none, (.ld false 1 (.tmp 21))⟩,
 ⟨(some 23), none, (.bin .neq (.tmp 20) (.tmp 22))⟩])
 (.cond (.tmp 23)
 (.seq
 (.ops [
 ⟨(some 4), none, (.mv (.const (.bool false)))⟩])
 .ret)
 .skip))))
 (.ops [
 ⟨(some 24), none, (.bin .add (.tmp 15) (.const (.int .i64 1)))⟩,
 ⟨(some 15), none, (.mv (.tmp 24))⟩])))))))
 (.seq
 (.ops [
 ⟨(some 4), none, (.mv (.const (.bool true)))⟩])
 .ret))))
theorem f_live_fits : compF Try.prog 51 = some (25, c_live_fits, [(.tmp 4)]) := by kernel_rfl
def c_flow_Next : VC :=
 (.seq
 (.ops [
 ⟨(some 1), none, (.box 24 (.tmp 0))⟩,
 ⟨(some 2), none, (.mv (.const (.slice none 0 0)))⟩])
 (.seq
 (.ops [
 ⟨(some 6), none, (.fad 1 false 1 (.tmp 1))⟩,
 ⟨(some 7), none, (.ld false 1 (.tmp 6))⟩,
 ⟨(some 8), none, (.len (.tmp 7))⟩,
 ⟨(some 9), none, (.mk 31 1 24 [(.slice none 0 0)] (.tmp 8) (.tmp 8))⟩,
 ⟨(some 3), none, (.mv (.tmp 9))⟩])
 (.seq
 (.seq
 (.ops [
 ⟨(some 10), none, (.fad 1 false 1 (.tmp 1))⟩,
 ⟨(some 11), none, (.ld false 1 (.tmp 10))⟩,
 ⟨(some 12), none, (.len (.tmp 11))⟩,
 ⟨(some 13), none, (.mv (.const (.int .i64 0)))⟩])
 (.block 0
 (.loop
 (.seq
 (.ops [
 ⟨(some 14), none, (.bin .lss (.tmp 13) (.tmp 12))⟩])
 (.seq
 (.cond (.tmp 14)
 .skip
 (.exit 0))
 (.seq
 (.block 1
 (.seq
 (.ops [
 ⟨(some 15), none, (.mv (.tmp 13))⟩,
 ⟨(some 16), none, (.idx 5 (.tmp 11) (.tmp 13))⟩,
 ⟨(some 17), none, (.ld true 5 (.tmp 16))⟩,
 ⟨(some 5), none, (.alc 60 [(.slice none 0 0), (.int .i64 0), (.int .i64 0), (.int .i64 0), (.int .i64 0)])⟩,
 ⟨(some 4), none, (.mv (.tmp 15))⟩,
 ⟨none, none, (.sto true 5 (.tmp 5) (.tmp 17))⟩])
 (.seq
 (.ops [
 ⟨(some 18), none, (.fad 1 false 1 (.tmp 5))⟩,
 ⟨(some 19), none, (.ld false 1 (.tmp 18))⟩])
 (.block 2
 (.seq
 (.ops [
 ⟨(some 21), none, (.bin .eql (.tmp 19) (.const (.int .i64 1)))⟩,
 ⟨(some 20), none, (.mv (.tmp 21))⟩])
 (.cond (.tmp 20)
 (.ops [
 ⟨(some 22), none, (.mv (.tmp 3))⟩,
 ⟨(some 23), none, (.mv (.tmp 4))⟩,
 ⟨(some 24), none, (.fad 3 false 1 (.tmp 5))⟩,
 ⟨(some 25), none, (.ld false 1 (.tmp 24))⟩,
 ⟨(some 26), none, (.bsl 3 1 1 [(.int .i64 0)] [(0, (1, (.tmp 25)))])⟩,
 ⟨(some 27), none, (.idx 1 (.tmp 22) (.tmp 23))⟩,
 ⟨none, none, (.sto false 1 (.tmp 27) (.tmp 26))⟩])
 (.seq
 (.ops [
 ⟨(some 29), none, (.bin .eql (.tmp 19) (.const (.int .i64 2)))⟩,
 ⟨(some 28), none, (.mv (.tmp 29))⟩])
 (.cond (.tmp 28)
 (.ops [
 ⟨(some 30), none, (.mv (.tmp 3))⟩,
 ⟨(some 31), none, (.mv (.tmp 4))⟩,
 ⟨(some 32), none, (.fad 3 false 1 (.tmp 5))⟩,
 ⟨(some 33), none, (.ld false 1 (.tmp 32))⟩,
 ⟨(some 34), none, (.fad 4 false 1 (.tmp 5))⟩,
 ⟨(some 35), none, (.ld false 1 (.tmp 34))⟩,
 ⟨(some 36), none, (.bsl 3 1 2 [(.int .i64 0), (.int .i64 0)] [(0, (1, (.tmp 33))), (1, (1, (.tmp 35)))])⟩,
 ⟨(some 37), none, (.idx 1 (.tmp 30) (.tmp 31))⟩,
 ⟨none, none, (.sto false 1 (.tmp 37) (.tmp 36))⟩])
 .skip))))))))
 (.ops [
 ⟨(some 38), none, (.bin .add (.tmp 13) (.const (.int .i64 1)))⟩,
 ⟨(some 13), none, (.mv (.tmp 38))⟩])))))))
 (.seq
 (.ops [
 ⟨(some 39), none, (.mv (.tmp 3))⟩,
 ⟨(some 2), none, (.mv (.tmp 39))⟩])
 .ret))))
theorem f_flow_Next : compF Try.prog 52 = some (40, c_flow_Next, [(.tmp 2)]) := by kernel_rfl
def c_live_within : VC :=
 (.seq
 (.ops [
 ⟨(some 4), none, (.mv (.const (.bool false)))⟩])
 (.seq
 (.seq
 (.ops [
 ⟨(some 7), none, (.mv (.tmp 0))⟩,
 ⟨(some 8), none, (.len (.tmp 7))⟩,
 ⟨(some 9), none, (.mv (.const (.int .i64 0)))⟩])
 (.block 0
 (.loop
 (.seq
 (.ops [
 ⟨(some 10), none, (.bin .lss (.tmp 9) (.tmp 8))⟩])
 (.seq
 (.cond (.tmp 10)
 .skip
 (.exit 0))
 (.seq
 (.block 1
 (.seq
 (.ops [
 ⟨(some 11), none, (.mv (.tmp 9))⟩,
 ⟨(some 12), none, (.idx 1 (.tmp 7) (.tmp 9))⟩,
 ⟨(some 13), none, (.ld false 1 (.tmp 12))⟩,
 ⟨(some 5), none, (.mv (.tmp 11))⟩,
 ⟨(some 6), none, (.mv (.tmp 13))⟩])
 (.seq
 (.ops [
 ⟨(some 14), none, (.mv (.tmp 6))⟩,
 ⟨(some 15), none, (.mv (.tmp 14))⟩,
 ⟨(some 16), (some (15, true)), (.mv (.tmp 1))⟩,
 ⟨(some 17), (some (15, true)), (.mv (.tmp 5))⟩,
 ⟨(some 18), (some (15, true)), (.idx 1 (.tmp 16) (.tmp 17))⟩,
 ⟨(some 19), (some (15, true)), (.ld false 1 (.tmp 18))⟩,
 ⟨(some 20), (some (15, true)), (.un .not (.tmp 19))⟩,
 ⟨(some 21), none, (.pick (.tmp 15) (.tmp 20) (.const (.bool false)))⟩])
 (.cond (.tmp 21)
 (.seq
 (.ops [
 ⟨(some 4), none, (.mv (.const (.bool false)))⟩])
 .ret)
 .skip))))
 (.ops [
 ⟨(some 22), none, (.bin .add (.tmp 9) (.const (.int .i64 1)))⟩,
 ⟨(some 9), none, (.mv (.tmp 22))⟩])))))))
 (.seq
 (.ops [
 ⟨(some 4), none, (.mv (.const (.bool true)))⟩])
 .ret)))
theorem f_live_within : compF Try.prog 53 = some (23, c_live_within, [(.tmp 4)]) := by kernel_rfl
def c_live_through : VC :=
 (.seq
 (.ops [
 ⟨(some 3), none, (.box 60 (.tmp 0))⟩,
 ⟨(some 5), none, (.box 106 (.tmp 2))⟩,
 ⟨(some 6), none, (.mv (.const (.slice none 0 0)))⟩])
 (.seq
 (.ops [
 ⟨(some 12), none, (.mv (.tmp 1))⟩,
 ⟨(some 13), none, (.len (.tmp 12))⟩,
 ⟨(some 14), none, (.mk 4 1 1 [(.bool false)] (.tmp 13) (.tmp 13))⟩,
 ⟨(some 7), none, (.alc 64 [(.slice none 0 0)])⟩,
 ⟨none, none, (.sto false 1 (.tmp 7) (.tmp 14))⟩])
 (.seq
 (.ops [
 ⟨(some 15), none, (.ld false 1 (.tmp 7))⟩,
 ⟨(some 16), none, (.mv (.tmp 1))⟩,
 ⟨(some 17), none, (.eff (.cpy 1) [(.tmp 15), (.tmp 16)])⟩])
 (.seq
 (.seq
 (.ops [
 ⟨(some 18), none, (.fad 1 false 1 (.tmp 3))⟩,
 ⟨(some 19), none, (.ld false 1 (.tmp 18))⟩,
 ⟨(some 20), none, (.bin .eql (.tmp 19) (.const (.int .i64 2)))⟩])
 (.cond (.tmp 20)
 (.ops [
 ⟨(some 21), none, (.ld false 1 (.tmp 7))⟩,
 ⟨(some 22), none, (.fad 2 false 1 (.tmp 3))⟩,
 ⟨(some 23), none, (.ld false 1 (.tmp 22))⟩,
 ⟨(some 24), none, (.idx 1 (.tmp 21) (.tmp 23))⟩,
 ⟨none, none, (.sto false 1 (.tmp 24) (.const (.bool true)))⟩])
 .skip))
 (.seq
 (.seq
 (.ops [
 ⟨(some 25), none, (.fad 0 false 1 (.tmp 3))⟩,
 ⟨(some 26), none, (.ld false 1 (.tmp 25))⟩,
 ⟨(some 27), none, (.len (.tmp 26))⟩,
 ⟨(some 28), none, (.callA (.func 63) [(.tmp 27)])⟩])
 (.block 0
 (.range (.tmp 28) [29]
 (.seq
 (.ops [
 ⟨(some 8), none, (.mv (.tmp 29))⟩])
 (.block 1
 (.seq
 (.seq
 (.ops [
 ⟨(some 30), none, (.ld false 1 (.tmp 5))⟩,
 ⟨(some 31), none, (.pur (.nilq true) [(.tmp 30)])⟩])
 (.cond (.tmp 31)
 (.ops [
 ⟨(some 32), none, (.ld false 1 (.tmp 5))⟩,
 ⟨(some 33), none, (.mv (.tmp 8))⟩,
 ⟨(some 34), none, (.ld false 1 (.tmp 7))⟩,
 ⟨(some 35), none, (.call (.tmp 32) [(.tmp 33), (.tmp 34)])⟩])
 .skip))
 (.seq
 (.seq
 (.ops [
 ⟨(some 36), none, (.fad 0 false 1 (.tmp 3))⟩,
 ⟨(some 37), none, (.ld false 1 (.tmp 36))⟩,
 ⟨(some 38), none, (.mv (.tmp 8))⟩,
 ⟨(some 39), none, (.idx 8 (.tmp 37) (.tmp 38))⟩,
 ⟨(some 40), none, (.ld true 8 (.tmp 39))⟩,
 ⟨(some 41), none, (.call (.func 46) [(.tmp 40)])⟩,
 ⟨(some 9), none, (.mv (.tmp 41))⟩])
 (.seq
 (.ops [
 ⟨(some 42), none, (.mv (.tmp 9))⟩,
 ⟨(some 43), none, (.bin .geq (.tmp 42) (.const (.int .i64 0)))⟩])
 (.cond (.tmp 43)
 (.ops [
 ⟨(some 44), none, (.ld false 1 (.tmp 7))⟩,
 ⟨(some 45), none, (.mv (.tmp 9))⟩,
 ⟨(some 46), none, (.idx 1 (.tmp 44) (.tmp 45))⟩,
 ⟨none, none, (.sto false 1 (.tmp 46) (.const (.bool false)))⟩])
 .skip)))
 (.seq
 (.ops [
 ⟨(some 47), none, (.fad 0 false 1 (.tmp 3))⟩,
 ⟨(some 48), none, (.ld false 1 (.tmp 47))⟩,
 ⟨(some 49), none, (.mv (.tmp 8))⟩,
 ⟨(some 50), none, (.idx 8 (.tmp 48) (.tmp 49))⟩,
 ⟨(some 51), none, (.ld true 8 (.tmp 50))⟩,
 ⟨(some 52), none, (.call (.func 48) [(.tmp 51)])⟩,
 ⟨(some 53), none, (.len (.tmp 52))⟩,
 ⟨(some 54), none, (.mv (.const (.int .i64 0)))⟩])
 (.block 2
 (.loop
 (.seq
 (.ops [
 ⟨(some 55), none, (.bin .lss (.tmp 54) (.tmp 53))⟩])
 (.seq
 (.cond (.tmp 55)
 .skip
 (.exit 2))
 (.seq
 (.block 3
 (.seq
 (.ops [
 ⟨(some 56), none, (.idx 1 (.tmp 52) (.tmp 54))⟩,
 ⟨(some 57), none, (.ld false 1 (.tmp 56))⟩,
 ⟨(some 11), none, (.mv (.tmp 57))⟩])
 (.ops [
 ⟨(some 58), none, (.ld false 1 (.tmp 7))⟩,
 ⟨(some 59), none, (.mv (.tmp 11))⟩,
 ⟨(some 60), none, (.idx 1 (.tmp 58) (.tmp 59))⟩,
 ⟨none, none, (.sto false 1 (.tmp 60) (.const (.bool true)))⟩])))
 (.ops [
 ⟨(some 61), none, (.bin .add (.tmp 54) (.const (.int .i64 1)))⟩,
 ⟨(some 54), none, (.mv (.tmp 61))⟩]))))))))))))))
 (.seq
 (.ops [
 ⟨(some 62), none, (.ld false 1 (.tmp 7))⟩,
 ⟨(some 6), none, (.mv (.tmp 62))⟩])
 .ret))))))
theorem f_live_through : compFB Try.prog false 54 = some (63, c_live_through, [(.tmp 6)]) := by kernel_rfl
def c_alloc_watch_add : VC :=
 (.seq
 (.seq
 (.ops [
 ⟨(some 4), none, (.mv (.tmp 0))⟩,
 ⟨(some 5), none, (.nck (.tmp 4))⟩,
 ⟨(some 6), none, (.fad 2 false 1 (.tmp 5))⟩,
 ⟨(some 7), none, (.ld false 1 (.tmp 6))⟩,
 ⟨(some 8), none, (.mv (.tmp 1))⟩,
 ⟨(some 9), none, (.idx 1 (.tmp 7) (.tmp 8))⟩,
 ⟨(some 10), none, (.ld false 1 (.tmp 9))⟩])
 (.cond (.tmp 10)
 .ret
 .skip))
 (.seq
 (.ops [
 ⟨(some 11), none, (.mv (.tmp 0))⟩,
 ⟨(some 12), none, (.nck (.tmp 11))⟩,
 ⟨(some 13), none, (.fad 2 false 1 (.tmp 12))⟩,
 ⟨(some 14), none, (.ld false 1 (.tmp 13))⟩,
 ⟨(some 15), none, (.mv (.tmp 1))⟩,
 ⟨(some 16), none, (.idx 1 (.tmp 14) (.tmp 15))⟩,
 ⟨none, none, (.sto false 1 (.tmp 16) (.const (.bool true)))⟩])
 (.seq
 (.ops [
 ⟨(some 17), none, (.mv (.tmp 0))⟩,
 ⟨(some 18), none, (.nck (.tmp 17))⟩,
 ⟨(some 19), none, (.fad 3 false 1 (.tmp 18))⟩,
 ⟨(some 20), none, (.ld false 1 (.tmp 19))⟩,
 ⟨(some 21), none, (.mv (.tmp 0))⟩,
 ⟨(some 22), none, (.nck (.tmp 21))⟩,
 ⟨(some 23), none, (.fad 1 false 1 (.tmp 22))⟩,
 ⟨(some 24), none, (.ld false 1 (.tmp 23))⟩,
 ⟨(some 25), none, (.mv (.tmp 1))⟩,
 ⟨(some 26), none, (.idx 1 (.tmp 24) (.tmp 25))⟩,
 ⟨(some 27), none, (.ld false 1 (.tmp 26))⟩,
 ⟨(some 28), none, (.idx 1 (.tmp 20) (.tmp 27))⟩,
 ⟨(some 29), none, (.ld false 1 (.tmp 28))⟩,
 ⟨(some 30), none, (.bin .add (.tmp 29) (.const (.int .i64 1)))⟩,
 ⟨(some 31), none, (.idx 1 (.tmp 20) (.tmp 27))⟩,
 ⟨none, none, (.sto false 1 (.tmp 31) (.tmp 30))⟩])
 (.seq
 (.ops [
 ⟨(some 32), none, (.mv (.tmp 0))⟩,
 ⟨(some 33), none, (.nck (.tmp 32))⟩,
 ⟨(some 34), none, (.fad 0 false 1 (.tmp 33))⟩,
 ⟨(some 35), none, (.ld false 1 (.tmp 34))⟩,
 ⟨(some 36), none, (.mv (.tmp 1))⟩,
 ⟨(some 37), none, (.idx 1 (.tmp 35) (.tmp 36))⟩,
 ⟨(some 38), none, (.ld false 1 (.tmp 37))⟩,
 ⟨(some 39), none, (.bin .gtr (.tmp 38) (.const (.int .i64 0)))⟩])
 (.cond (.tmp 39)
 (.ops [
 ⟨(some 40), none, (.mv (.tmp 0))⟩,
 ⟨(some 41), none, (.nck (.tmp 40))⟩,
 ⟨(some 42), none, (.fad 4 false 1 (.tmp 41))⟩,
 ⟨(some 43), none, (.ld false 1 (.tmp 42))⟩,
 ⟨(some 44), none, (.bin .add (.tmp 43) (.const (.int .i64 1)))⟩,
 ⟨(some 45), none, (.nck (.tmp 40))⟩,
 ⟨(some 46), none, (.fad 4 false 1 (.tmp 45))⟩,
 ⟨none, none, (.sto false 1 (.tmp 46) (.tmp 44))⟩])
 .skip)))))
theorem f_alloc_watch_add : compF Try.prog 55 = some (47, c_alloc_watch_add, []) := by kernel_rfl
def c_alloc_watch_drop : VC :=
 (.seq
 (.seq
 (.ops [
 ⟨(some 4), none, (.mv (.tmp 0))⟩,
 ⟨(some 5), none, (.nck (.tmp 4))⟩,
 ⟨(some 6), none, (.fad 2 false 1 (.tmp 5))⟩,
 ⟨(some 7), none, (.ld false 1 (.tmp 6))⟩,
 ⟨(some 8), none, (.mv (.tmp 1))⟩,
 ⟨(some 9), none, (.idx 1 (.tmp 7) (.tmp 8))⟩,
 ⟨(some 10), none, (.ld false 1 (.tmp 9))⟩,
 ⟨(some 11), none, (.un .not (.tmp 10))⟩])
 (.cond (.tmp 11)
 .ret
 .skip))
 (.seq
 (.ops [
 ⟨(some 12), none, (.mv (.tmp 0))⟩,
 ⟨(some 13), none, (.nck (.tmp 12))⟩,
 ⟨(some 14), none, (.fad 2 false 1 (.tmp 13))⟩,
 ⟨(some 15), none, (.ld false 1 (.tmp 14))⟩,
 ⟨(some 16), none, (.mv (.tmp 1))⟩,
 ⟨(some 17), none, (.idx 1 (.tmp 15) (.tmp 16))⟩,
 ⟨none, none, (.sto false 1 (.tmp 17) (.const (.bool false)))⟩])
 (.seq
 (.ops [
 ⟨(some 18), none, (.mv (.tmp 0))⟩,
 ⟨(some 19), none, (.nck (.tmp 18))⟩,
 ⟨(some 20), none, (.fad 3 false 1 (.tmp 19))⟩,
 ⟨(some 21), none, (.ld false 1 (.tmp 20))⟩,
 ⟨(some 22), none, (.mv (.tmp 0))⟩,
 ⟨(some 23), none, (.nck (.tmp 22))⟩,
 ⟨(some 24), none, (.fad 1 false 1 (.tmp 23))⟩,
 ⟨(some 25), none, (.ld false 1 (.tmp 24))⟩,
 ⟨(some 26), none, (.mv (.tmp 1))⟩,
 ⟨(some 27), none, (.idx 1 (.tmp 25) (.tmp 26))⟩,
 ⟨(some 28), none, (.ld false 1 (.tmp 27))⟩,
 ⟨(some 29), none, (.idx 1 (.tmp 21) (.tmp 28))⟩,
 ⟨(some 30), none, (.ld false 1 (.tmp 29))⟩,
 ⟨(some 31), none, (.bin .sub (.tmp 30) (.const (.int .i64 1)))⟩,
 ⟨(some 32), none, (.idx 1 (.tmp 21) (.tmp 28))⟩,
 ⟨none, none, (.sto false 1 (.tmp 32) (.tmp 31))⟩])
 (.seq
 (.ops [
 ⟨(some 33), none, (.mv (.tmp 0))⟩,
 ⟨(some 34), none, (.nck (.tmp 33))⟩,
 ⟨(some 35), none, (.fad 0 false 1 (.tmp 34))⟩,
 ⟨(some 36), none, (.ld false 1 (.tmp 35))⟩,
 ⟨(some 37), none, (.mv (.tmp 1))⟩,
 ⟨(some 38), none, (.idx 1 (.tmp 36) (.tmp 37))⟩,
 ⟨(some 39), none, (.ld false 1 (.tmp 38))⟩,
 ⟨(some 40), none, (.bin .gtr (.tmp 39) (.const (.int .i64 0)))⟩])
 (.cond (.tmp 40)
 (.ops [
 ⟨(some 41), none, (.mv (.tmp 0))⟩,
 ⟨(some 42), none, (.nck (.tmp 41))⟩,
 ⟨(some 43), none, (.fad 4 false 1 (.tmp 42))⟩,
 ⟨(some 44), none, (.ld false 1 (.tmp 43))⟩,
 ⟨(some 45), none, (.bin .sub (.tmp 44) (.const (.int .i64 1)))⟩,
 ⟨(some 46), none, (.nck (.tmp 41))⟩,
 ⟨(some 47), none, (.fad 4 false 1 (.tmp 46))⟩,
 ⟨none, none, (.sto false 1 (.tmp 47) (.tmp 45))⟩])
 .skip)))))
theorem f_alloc_watch_drop : compF Try.prog 56 = some (48, c_alloc_watch_drop, []) := by kernel_rfl
def c_scref24_runner_step : VC :=
 (.seq
 (.ops [
 ⟨(some 2), none, (.mv (.const (.bool false)))⟩])
 (.seq
 (.seq
 (.ops [
 ⟨(some 3), none, (.mv (.tmp 0))⟩,
 ⟨(some 4), none, (.nck (.tmp 3))⟩,
 ⟨(some 5), none, (.fad 7 false 1 (.tmp 4))⟩,
 ⟨(some 6), none, (.ld false 1 (.tmp 5))⟩,
 ⟨(some 7), none, (.mv (.tmp 0))⟩,
 ⟨(some 8), none, (.nck (.tmp 7))⟩,
 ⟨(some 9), none, (.fad 3 false 1 (.tmp 8))⟩,
 ⟨(some 10), none, (.ld false 1 (.tmp 9))⟩,
 ⟨(some 11), none, (.bin .geq (.tmp 6) (.tmp 10))⟩])
 (.cond (.tmp 11)
 (.seq
 (.ops [
 ⟨(some 12), none, (.mv (.tmp 0))⟩,
 ⟨(some 13), none, (.nck (.tmp 12))⟩,
 ⟨(some 14), none, (.fad 8 false 1 (.tmp 13))⟩,
 ⟨none, none, (.sto false 1 (.tmp 14) (.const (.int .i64 5)))⟩])
 (.seq
 (.ops [
 ⟨(some 2), none, (.mv (.const (.bool false)))⟩])
 .ret))
 .skip))
 (.seq
 (.ops [
 ⟨(some 15), none, (.mv (.tmp 0))⟩,
 ⟨(some 16), none, (.nck (.tmp 15))⟩,
 ⟨(some 17), none, (.fad 7 false 1 (.tmp 16))⟩,
 ⟨(some 18), none, (.ld false 1 (.tmp 17))⟩,
 ⟨(some 19), none, (.bin .add (.tmp 18) (.const (.int .i64 1)))⟩,
 ⟨(some 20), none, (.nck (.tmp 15))⟩,
 ⟨(some 21), none, (.fad 7 false 1 (.tmp 20))⟩,
 ⟨none, none, (.sto false 1 (.tmp 21) (.tmp 19))⟩])
 (.seq
 (.ops [
 ⟨(some 2), none, (.mv (.const (.bool true)))⟩])
 .ret))))
theorem f_scref24_runner_step : compF Try.prog 57 = some (22, c_scref24_runner_step, [(.tmp 2)]) := by kernel_rfl
def c_scref24_runner_one : VC :=
 (.seq
 (.ops [
 ⟨(some 4), none, (.box 57 (.tmp 1))⟩])
 (.seq
 (.ops [
 ⟨(some 8), none, (.fad 0 false 1 (.tmp 4))⟩,
 ⟨(some 9), none, (.ld false 1 (.tmp 8))⟩])
 (.block 0
 (.seq
 (.ops [
 ⟨(some 11), none, (.bin .eql (.tmp 9) (.const (.int .i64 1)))⟩,
 ⟨(some 10), none, (.mv (.tmp 11))⟩])
 (.cond (.tmp 10)
 (.ops [
 ⟨(some 12), none, (.mv (.tmp 2))⟩,
 ⟨(some 13), none, (.fad 1 false 1 (.tmp 4))⟩,
 ⟨(some 14), none, (.ld false 1 (.tmp 13))⟩,
 ⟨(some 15), none, (.fad 7 false 1 (.tmp 4))⟩,
 ⟨(some 16), none, (.ld false 1 (.tmp 15))⟩,
 ⟨(some 17), none, (.idx 1 (.tmp 12) (.tmp 14))⟩,
 ⟨none, none, (.sto false 1 (.tmp 17) (.tmp 16))⟩])
 (.seq
 (.ops [
 ⟨(some 19), none, (.bin .eql (.tmp 9) (.const (.int .i64 2)))⟩,
 ⟨(some 18), none, (.mv (.tmp 19))⟩])
 (.cond (.tmp 18)
 (.ops [
 ⟨(some 20), none, (.mv (.tmp 2))⟩,
 ⟨(some 21), none, (.fad 1 false 1 (.tmp 4))⟩,
 ⟨(some 22), none, (.ld false 1 (.tmp 21))⟩,
 ⟨(some 23), none, (.mv (.tmp 2))⟩,
 ⟨(some 24), none, (.fad 2 false 1 (.tmp 4))⟩,
 ⟨(some 25), none, (.ld false 1 (.tmp 24))⟩,
 ⟨(some 26), none, (.idx 1 (.tmp 23) (.tmp 25))⟩,
 ⟨(some 27), none, (.ld false 1 (.tmp 26))⟩,
 ⟨(some 28), none, (.idx 1 (.tmp 20) (.tmp 22))⟩,
 ⟨none, none, (.sto false 1 (.tmp 28) (.tmp 27))⟩])
 (.seq
 (.ops [
 ⟨(some 30), none, (.bin .eql (.tmp 9) (.const (.int .i64 3)))⟩,
 ⟨(some 29), none, (.mv (.tmp 30))⟩])
 (.cond (.tmp 29)
 (.seq
 (.par false (.one ⟨(some 32), none, (.fad 4 false 1 (.tmp 4))⟩ (.one ⟨(some 33), none, (.ld false 1 (.tmp 32))⟩ (.one ⟨(some 34), none, (.mv (.tmp 2))⟩ (.one ⟨(some 35), none, (.fad 2 false 1 (.tmp 4))⟩ (.one ⟨(some 36), none, (.ld false 1 (.tmp 35))⟩ (.one ⟨(some 37), none, (.idx 1 (.tmp 34) (.tmp 36))⟩ (.one ⟨(some 38), none, (.ld false 1 (.tmp 37))⟩ (.one ⟨(some 39), none, (.mv (.tmp 2))⟩ (.one ⟨(some 40), none, (.fad 3 false 1 (.tmp 4))⟩ (.one ⟨(some 41), none, (.ld false 1 (.tmp 40))⟩ (.one ⟨(some 42), none, (.idx 1 (.tmp 39) (.tmp 41))⟩ (.one ⟨(some 43), none, (.ld false 1 (.tmp 42))⟩ (.one ⟨(some 44), none, (.call (.func 64) [(.tmp 33), (.tmp 38), (.tmp 43)])⟩ (.one ⟨(some 31), none, (.mv (.tmp 44))⟩ (.one ⟨(some 45), none, (.ext (.tmp 31) 0)⟩ (.one ⟨(some 46), none, (.ext (.tmp 31) 1)⟩ (.one ⟨(some 6), none, (.mv (.tmp 45))⟩ (.one ⟨(some 7), none, (.mv (.tmp 46))⟩ .done)))))))))))))))))))
 (.seq
 (.seq
 (.ops [
 ⟨(some 47), none, (.mv (.tmp 7))⟩,
 ⟨(some 48), none, (.bin .neq (.tmp 47) (.const (.int .i64 0)))⟩])
 (.cond (.tmp 48)
 (.seq
 (.ops [
 ⟨(some 49), none, (.mv (.tmp 0))⟩,
 ⟨(some 50), none, (.nck (.tmp 49))⟩,
 ⟨(some 51), none, (.fad 8 false 1 (.tmp 50))⟩,
 ⟨none, none, (.sto false 1 (.tmp 51) (.const (.int .i64 2)))⟩])
 .ret)
 .skip))
 (.ops [
 ⟨(some 52), none, (.mv (.tmp 2))⟩,
 ⟨(some 53), none, (.fad 1 false 1 (.tmp 4))⟩,
 ⟨(some 54), none, (.ld false 1 (.tmp 53))⟩,
 ⟨(some 55), none, (.mv (.tmp 6))⟩,
 ⟨(some 56), none, (.idx 1 (.tmp 52) (.tmp 54))⟩,
 ⟨none, none, (.sto false 1 (.tmp 56) (.tmp 55))⟩])))
 (.seq
 (.ops [
 ⟨(some 58), none, (.bin .eql (.tmp 9) (.const (.int .i64 4)))⟩,
 ⟨(some 57), none, (.mv (.tmp 58))⟩])
 (.cond (.tmp 57)
 (.ops [
 ⟨(some 59), none, (.mv (.tmp 2))⟩,
 ⟨(some 60), none, (.fad 1 false 1 (.tmp 4))⟩,
 ⟨(some 61), none, (.ld false 1 (.tmp 60))⟩,
 ⟨(some 62), none, (.mv (.tmp 0))⟩,
 ⟨(some 63), none, (.nck (.tmp 62))⟩,
 ⟨(some 64), none, (.fad 4 false 1 (.tmp 63))⟩,
 ⟨(some 65), none, (.ld false 1 (.tmp 64))⟩,
 ⟨(some 66), none, (.fad 5 false 1 (.tmp 4))⟩,
 ⟨(some 67), none, (.ld false 1 (.tmp 66))⟩,
 ⟨(some 68), none, (.idx 1 (.tmp 65) (.tmp 67))⟩,
 ⟨(some 69), none, (.ld false 1 (.tmp 68))⟩,
 ⟨(some 70), none, (.idx 1 (.tmp 59) (.tmp 61))⟩,
 ⟨none, none, (.sto false 1 (.tmp 70) (.tmp 69))⟩])
 (.seq
 (.ops [
 ⟨(some 72), none, (.bin .eql (.tmp 9) (.const (.int .i64 5)))⟩,
 ⟨(some 71), none, (.mv (.tmp 72))⟩])
 (.cond (.tmp 71)
 (.ops [
 ⟨(some 73), none, (.mv (.tmp 0))⟩,
 ⟨(some 74), none, (.nck (.tmp 73))⟩,
 ⟨(some 75), none, (.fad 4 false 1 (.tmp 74))⟩,
 ⟨(some 76), none, (.ld false 1 (.tmp 75))⟩,
 ⟨(some 77), none, (.fad 5 false 1 (.tmp 4))⟩,
 ⟨(some 78), none, (.ld false 1 (.tmp 77))⟩,
 ⟨(some 79), none, (.mv (.tmp 2))⟩,
 ⟨(some 80), none, (.fad 2 false 1 (.tmp 4))⟩,
 ⟨(some 81), none, (.ld false 1 (.tmp 80))⟩,
 ⟨(some 82), none, (.idx 1 (.tmp 79) (.tmp 81))⟩,
 ⟨(some 83), none, (.ld false 1 (.tmp 82))⟩,
 ⟨(some 84), none, (.idx 1 (.tmp 76) (.tmp 78))⟩,
 ⟨none, none, (.sto false 1 (.tmp 84) (.tmp 83))⟩])
 (.seq
 (.seq
 (.ops [
 ⟨(some 86), none, (.bin .eql (.tmp 9) (.const (.int .i64 6)))⟩,
 ⟨(some 85), none, (.mv (.tmp 86))⟩])
 (.cond (.tmp 85)
 .skip
 (.ops [
 ⟨(some 87), none, (.bin .eql (.tmp 9) (.const (.int .i64 7)))⟩,
 ⟨(some 85), none, (.mv (.tmp 87))⟩])))
 (.cond (.tmp 85)
 (.seq
 (.seq
 (.ops [
 ⟨(some 88), none, (.mv (.tmp 2))⟩,
 ⟨(some 89), none, (.fad 2 false 1 (.tmp 4))⟩,
 ⟨(some 90), none, (.ld false 1 (.tmp 89))⟩,
 ⟨(some 91), none, (.idx 1 (.tmp 88) (.tmp 90))⟩,
 ⟨(some 92), none, (.ld false 1 (.tmp 91))⟩,
 ⟨(some 93), none, (.conv .u64 (.tmp 92))⟩,
 ⟨(some 94), none, (.fad 6 false 1 (.tmp 4))⟩,
 ⟨(some 95), none, (.ld false 1 (.tmp 94))⟩,
 ⟨(some 96), none, (.conv .u64 (.tmp 95))⟩,
 ⟨(some 97), none, (.bin .geq (.tmp 93) (.tmp 96))⟩])
 (.cond (.tmp 97)
 (.seq
 (.ops [
 ⟨(some 98), none, (.mv (.tmp 0))⟩,
 ⟨(some 99), none, (.nck (.tmp 98))⟩,
 ⟨(some 100), none, (.fad 8 false 1 (.tmp 99))⟩,
 ⟨none, none, (.sto false 1 (.tmp 100) (.const (.int .i64 3)))⟩])
 .ret)
 .skip))
 (.seq
 (.ops [
 ⟨(some 101), none, (.fad 0 false 1 (.tmp 4))⟩,
 ⟨(some 102), none, (.ld false 1 (.tmp 101))⟩,
 ⟨(some 103), none, (.bin .eql (.tmp 102) (.const (.int .i64 6)))⟩])
 (.cond (.tmp 103)
 (.ops [
 ⟨(some 104), none, (.mv (.tmp 2))⟩,
 ⟨(some 105), none, (.fad 1 false 1 (.tmp 4))⟩,
 ⟨(some 106), none, (.ld false 1 (.tmp 105))⟩,
 ⟨(some 107), none, (.mv (.tmp 0))⟩,
 ⟨(some 108), none, (.nck (.tmp 107))⟩,
 ⟨(some 109), none, (.fad 4 false 1 (.tmp 108))⟩,
 ⟨(some 110), none, (.ld false 1 (.tmp 109))⟩,
 ⟨(some 111), none, (.fad 5 false 1 (.tmp 4))⟩,
 ⟨(some 112), none, (.ld false 1 (.tmp 111))⟩,
 ⟨(some 113), none, (.mv (.tmp 2))⟩,
 ⟨(some 114), none, (.fad 2 false 1 (.tmp 4))⟩,
 ⟨(some 115), none, (.ld false 1 (.tmp 114))⟩,
 ⟨(some 116), none, (.idx 1 (.tmp 113) (.tmp 115))⟩,
 ⟨(some 117), none, (.ld false 1 (.tmp 116))⟩,
 ⟨(some 118), none, (.conv .i64 (.tmp 117))⟩,
 ⟨(some 119), none, (.bin .add (.tmp 112) (.tmp 118))⟩,
 ⟨(some 120), none, (.idx 1 (.tmp 110) (.tmp 119))⟩,
 ⟨(some 121), none, (.ld false 1 (.tmp 120))⟩,
 ⟨(some 122), none, (.idx 1 (.tmp 104) (.tmp 106))⟩,
 ⟨none, none, (.sto false 1 (.tmp 122) (.tmp 121))⟩])
 (.ops [
 ⟨(some 123), none, (.mv (.tmp 0))⟩,
 ⟨(some 124), none, (.nck (.tmp 123))⟩,
 ⟨(some 125), none, (.fad 4 false 1 (.tmp 124))⟩,
 ⟨(some 126), none, (.ld false 1 (.tmp 125))⟩,
 ⟨(some 127), none, (.fad 5 false 1 (.tmp 4))⟩,
 ⟨(some 128), none, (.ld false 1 (.tmp 127))⟩,
 ⟨(some 129), none, (.mv (.tmp 2))⟩,
 ⟨(some 130), none, (.fad 2 false 1 (.tmp 4))⟩,
 ⟨(some 131), none, (.ld false 1 (.tmp 130))⟩,
 ⟨(some 132), none, (.idx 1 (.tmp 129) (.tmp 131))⟩,
 ⟨(some 133), none, (.ld false 1 (.tmp 132))⟩,
 ⟨(some 134), none, (.conv .i64 (.tmp 133))⟩,
 ⟨(some 135), none, (.bin .add (.tmp 128) (.tmp 134))⟩,
 ⟨(some 136), none, (.mv (.tmp 2))⟩,
 ⟨(some 137), none, (.fad 3 false 1 (.tmp 4))⟩,
 ⟨(some 138), none, (.ld false 1 (.tmp 137))⟩,
 ⟨(some 139), none, (.idx 1 (.tmp 136) (.tmp 138))⟩,
 ⟨(some 140), none, (.ld false 1 (.tmp 139))⟩,
 ⟨(some 141), none, (.idx 1 (.tmp 126) (.tmp 135))⟩,
 ⟨none, none, (.sto false 1 (.tmp 141) (.tmp 140))⟩]))))
 (.seq
 (.ops [
 ⟨(some 143), none, (.bin .eql (.tmp 9) (.const (.int .i64 8)))⟩,
 ⟨(some 142), none, (.mv (.tmp 143))⟩])
 (.cond (.tmp 142)
 (.seq
 (.ops [
 ⟨(some 144), none, (.mv (.tmp 2))⟩,
 ⟨(some 145), none, (.fad 1 false 1 (.tmp 4))⟩,
 ⟨(some 146), none, (.ld false 1 (.tmp 145))⟩,
 ⟨(some 147), none, (.idx 1 (.tmp 144) (.tmp 146))⟩,
 ⟨none, none, (.sto false 1 (.tmp 147) (.const (.int .u32 256)))⟩])
 (.seq
 (.ops [
 ⟨(some 148), none, (.mv (.tmp 0))⟩,
 ⟨(some 149), none, (.nck (.tmp 148))⟩,
 ⟨(some 150), none, (.fad 6 false 1 (.tmp 149))⟩,
 ⟨(some 151), none, (.ld false 1 (.tmp 150))⟩,
 ⟨(some 152), none, (.mv (.tmp 0))⟩,
 ⟨(some 153), none, (.nck (.tmp 152))⟩,
 ⟨(some 154), none, (.fad 2 false 1 (.tmp 153))⟩,
 ⟨(some 155), none, (.ld false 1 (.tmp 154))⟩,
 ⟨(some 156), none, (.lens (.tmp 155))⟩,
 ⟨(some 157), none, (.bin .lss (.tmp 151) (.tmp 156))⟩])
 (.cond (.tmp 157)
 (.seq
 (.ops [
 ⟨(some 158), none, (.mv (.tmp 2))⟩,
 ⟨(some 159), none, (.fad 1 false 1 (.tmp 4))⟩,
 ⟨(some 160), none, (.ld false 1 (.tmp 159))⟩,
 ⟨(some 161), none, (.mv (.tmp 0))⟩,
 ⟨(some 162), none, (.nck (.tmp 161))⟩,
 ⟨(some 163), none, (.fad 2 false 1 (.tmp 162))⟩,
 ⟨(some 164), none, (.ld false 1 (.tmp 163))⟩,
 ⟨(some 165), none, (.mv (.tmp 0))⟩,
 ⟨(some 166), none, (.nck (.tmp 165))⟩,
 ⟨(some 167), none, (.fad 6 false 1 (.tmp 166))⟩,
 ⟨(some 168), none, (.ld false 1 (.tmp 167))⟩,
 ⟨(some 169), none, (.pur .six [(.tmp 164), (.tmp 168)])⟩,
 ⟨(some 170), none, (.conv .u32 (.tmp 169))⟩,
 ⟨(some 171), none, (.idx 1 (.tmp 158) (.tmp 160))⟩,
 ⟨none, none, (.sto false 1 (.tmp 171) (.tmp 170))⟩])
 (.ops [
 ⟨(some 172), none, (.mv (.tmp 0))⟩,
 ⟨(some 173), none, (.nck (.tmp 172))⟩,
 ⟨(some 174), none, (.fad 6 false 1 (.tmp 173))⟩,
 ⟨(some 175), none, (.ld false 1 (.tmp 174))⟩,
 ⟨(some 176), none, (.bin .add (.tmp 175) (.const (.int .i64 1)))⟩,
 ⟨(some 177), none, (.nck (.tmp 172))⟩,
 ⟨(some 178), none, (.fad 6 false 1 (.tmp 177))⟩,
 ⟨none, none, (.sto false 1 (.tmp 178) (.tmp 176))⟩]))
 .skip)))
 (.seq
 (.ops [
 ⟨(some 180), none, (.bin .eql (.tmp 9) (.const (.int .i64 9)))⟩,
 ⟨(some 179), none, (.mv (.tmp 180))⟩])
 (.cond (.tmp 179)
 (.seq
 (.seq
 (.ops [
 ⟨(some 181), none, (.mv (.tmp 0))⟩,
 ⟨(some 182), none, (.nck (.tmp 181))⟩,
 ⟨(some 183), none, (.fad 5 false 1 (.tmp 182))⟩,
 ⟨(some 184), none, (.ld false 1 (.tmp 183))⟩,
 ⟨(some 185), none, (.len (.tmp 184))⟩,
 ⟨(some 186), none, (.bin .geq (.tmp 185) (.const (.int .i64 65536)))⟩])
 (.cond (.tmp 186)
 (.seq
 (.ops [
 ⟨(some 187), none, (.mv (.tmp 0))⟩,
 ⟨(some 188), none, (.nck (.tmp 187))⟩,
 ⟨(some 189), none, (.fad 8 false 1 (.tmp 188))⟩,
 ⟨none, none, (.sto false 1 (.tmp 189) (.const (.int .i64 4)))⟩])
 .ret)
 .skip))
 (.par false (.one ⟨(some 190), none, (.mv (.tmp 0))⟩ (.one ⟨(some 191), none, (.mv (.tmp 0))⟩ (.one ⟨(some 192), none, (.nck (.tmp 191))⟩ (.one ⟨(some 193), none, (.fad 5 false 1 (.tmp 192))⟩ (.one ⟨(some 194), none, (.ld false 1 (.tmp 193))⟩ (.one ⟨(some 195), none, (.mv (.tmp 2))⟩ (.one ⟨(some 196), none, (.fad 2 false 1 (.tmp 4))⟩ (.one ⟨(some 197), none, (.ld false 1 (.tmp 196))⟩ (.one ⟨(some 198), none, (.idx 1 (.tmp 195) (.tmp 197))⟩ (.one ⟨(some 199), none, (.ld false 1 (.tmp 198))⟩ (.one ⟨(some 200), none, (.conv .u8 (.tmp 199))⟩ (.one ⟨(some 201), none, (.bsl 5 1 1 [(.int .u8 0)] [(0, (1, (.tmp 200)))])⟩ (.one ⟨(some 202), none, (.app 5 1 1 (.tmp 194) (.tmp 201))⟩ (.one ⟨(some 203), none, (.nck (.tmp 190))⟩ (.one ⟨(some 204), none, (.fad 5 false 1 (.tmp 203))⟩ (.one ⟨none, none, (.sto false 1 (.tmp 204) (.tmp 202))⟩ .done))))))))))))))))))
 (.seq
 (.ops [
 ⟨(some 206), none, (.bin .eql (.tmp 9) (.const (.int .i64 10)))⟩,
 ⟨(some 205), none, (.mv (.tmp 206))⟩])
 (.cond (.tmp 205)
 (.ops [
 ⟨(some 207), none, (.mv (.tmp 0))⟩,
 ⟨(some 208), none, (.fad 5 false 1 (.tmp 4))⟩,
 ⟨(some 209), none, (.ld false 1 (.tmp 208))⟩,
 ⟨(some 210), none, (.call (.func 37) [(.tmp 207), (.tmp 209)])⟩])
 .skip)))))))))))))))))))))
theorem f_scref24_runner_one : compF Try.prog 58 = some (211, c_scref24_runner_one, []) := by kernel_rfl
def c_scref24_within : VC :=
 (.seq
 (.ops [
 ⟨(some 4), none, (.mv (.const (.bool false)))⟩])
 (.seq
 (.ops [
 ⟨(some 5), none, (.mv (.tmp 0))⟩,
 ⟨(some 6), none, (.bin .geq (.tmp 5) (.const (.int .i64 0)))⟩,
 ⟨(some 7), none, (.mv (.tmp 6))⟩,
 ⟨(some 8), (some (7, true)), (.mv (.tmp 0))⟩,
 ⟨(some 9), (some (7, true)), (.mv (.tmp 1))⟩,
 ⟨(some 10), (some (7, true)), (.bin .lss (.tmp 8) (.tmp 9))⟩,
 ⟨(some 11), none, (.pick (.tmp 7) (.tmp 10) (.const (.bool false)))⟩,
 ⟨(some 4), none, (.mv (.tmp 11))⟩])
 .ret))
theorem f_scref24_within : compF Try.prog 59 = some (12, c_scref24_within, [(.tmp 4)]) := by kernel_rfl
def c_block_sets : VC :=
 (.seq
 (.ops [
 ⟨(some 2), none, (.mv (.const (.bool false)))⟩])
 (.seq
 (.seq
 (.ops [
 ⟨(some 3), none, (.mv (.tmp 0))⟩])
 (.block 0
 (.seq
 (.seq
 (.ops [
 ⟨(some 5), none, (.bin .eql (.tmp 3) (.const (.int .i64 1)))⟩,
 ⟨(some 4), none, (.mv (.tmp 5))⟩])
 (.cond (.tmp 4)
 .skip
 (.seq
 (.ops [
 ⟨(some 6), none, (.bin .eql (.tmp 3) (.const (.int .i64 2)))⟩,
 ⟨(some 4), none, (.mv (.tmp 6))⟩])
 (.cond (.tmp 4)
 .skip
 (.seq
 (.ops [
 ⟨(some 7), none, (.bin .eql (.tmp 3) (.const (.int .i64 3)))⟩,
 ⟨(some 4), none, (.mv (.tmp 7))⟩])
 (.cond (.tmp 4)
 .skip
 (.seq
 (.ops [
 ⟨(some 8), none, (.bin .eql (.tmp 3) (.const (.int .i64 4)))⟩,
 ⟨(some 4), none, (.mv (.tmp 8))⟩])
 (.cond (.tmp 4)
 .skip
 (.seq
 (.ops [
 ⟨(some 9), none, (.bin .eql (.tmp 3) (.const (.int .i64 6)))⟩,
 ⟨(some 4), none, (.mv (.tmp 9))⟩])
 (.cond (.tmp 4)
 .skip
 (.ops [
 ⟨(some 10), none, (.bin .eql (.tmp 3) (.const (.int .i64 8)))⟩,
 ⟨(some 4), none, (.mv (.tmp 10))⟩])))))))))))
 (.cond (.tmp 4)
 (.seq
 (.ops [
 ⟨(some 2), none, (.mv (.const (.bool true)))⟩])
 .ret)
 .skip))))
 (.seq
 (.ops [
 ⟨(some 2), none, (.mv (.const (.bool false)))⟩])
 .ret)))
theorem f_block_sets : compF Try.prog 60 = some (11, c_block_sets, [(.tmp 2)]) := by kernel_rfl
def c_block_reads : VC :=
 (.seq
 (.ops [
 ⟨(some 2), none, (.mv (.const (.int .i64 0)))⟩])
 (.seq
 (.seq
 (.ops [
 ⟨(some 3), none, (.mv (.tmp 0))⟩])
 (.block 0
 (.seq
 (.seq
 (.ops [
 ⟨(some 5), none, (.bin .eql (.tmp 3) (.const (.int .i64 2)))⟩,
 ⟨(some 4), none, (.mv (.tmp 5))⟩])
 (.cond (.tmp 4)
 .skip
 (.seq
 (.ops [
 ⟨(some 6), none, (.bin .eql (.tmp 3) (.const (.int .i64 5)))⟩,
 ⟨(some 4), none, (.mv (.tmp 6))⟩])
 (.cond (.tmp 4)
 .skip
 (.seq
 (.ops [
 ⟨(some 7), none, (.bin .eql (.tmp 3) (.const (.int .i64 6)))⟩,
 ⟨(some 4), none, (.mv (.tmp 7))⟩])
 (.cond (.tmp 4)
 .skip
 (.ops [
 ⟨(some 8), none, (.bin .eql (.tmp 3) (.const (.int .i64 9)))⟩,
 ⟨(some 4), none, (.mv (.tmp 8))⟩])))))))
 (.cond (.tmp 4)
 (.seq
 (.ops [
 ⟨(some 2), none, (.mv (.const (.int .i64 1)))⟩])
 .ret)
 (.seq
 (.seq
 (.ops [
 ⟨(some 10), none, (.bin .eql (.tmp 3) (.const (.int .i64 3)))⟩,
 ⟨(some 9), none, (.mv (.tmp 10))⟩])
 (.cond (.tmp 9)
 .skip
 (.ops [
 ⟨(some 11), none, (.bin .eql (.tmp 3) (.const (.int .i64 7)))⟩,
 ⟨(some 9), none, (.mv (.tmp 11))⟩])))
 (.cond (.tmp 9)
 (.seq
 (.ops [
 ⟨(some 2), none, (.mv (.const (.int .i64 2)))⟩])
 .ret)
 .skip))))))
 (.seq
 (.ops [
 ⟨(some 2), none, (.mv (.const (.int .i64 0)))⟩])
 .ret)))
theorem f_block_reads : compF Try.prog 61 = some (12, c_block_reads, [(.tmp 2)]) := by kernel_rfl
def c_scref27_sized : VC :=
 (.seq
 (.ops [
 ⟨(some 6), none, (.mv (.const (.bool false)))⟩])
 (.seq
 (.seq
 (.ops [
 ⟨(some 8), none, (.mv (.tmp 0))⟩,
 ⟨(some 9), none, (.len (.tmp 8))⟩,
 ⟨(some 10), none, (.mv (.tmp 1))⟩,
 ⟨(some 11), none, (.bin .neq (.tmp 9) (.tmp 10))⟩])
 (.cond (.tmp 11)
 (.seq
 (.ops [
 ⟨(some 6), none, (.mv (.const (.bool false)))⟩])
 .ret)
 .skip))
 (.seq
 (.seq
 (.ops [
 ⟨(some 7), none, (.mv (.const (.int .i64 0)))⟩])
 (.block 0
 (.loop
 (.seq
 (.seq
 (.ops [
 ⟨(some 12), none, (.mv (.tmp 7))⟩,
 ⟨(some 13), none, (.mv (.tmp 1))⟩,
 ⟨(some 14), none, (.bin .lss (.tmp 12) (.tmp 13))⟩])
 (.cond (.tmp 14)
 .skip
 (.exit 0)))
 (.seq
 (.block 1
 (.seq
 (.ops [
 ⟨(some 17), none, (.mv (.tmp 0))⟩,
 ⟨(some 18), none, (.mv (.tmp 7))⟩,
 ⟨(some 19), none, (.idx 1 (.tmp 17) (.tmp 18))⟩,
 ⟨(some 20), none, (.ld false 1 (.tmp 19))⟩,
 ⟨(some 21), none, (.len (.tmp 20))⟩,
 ⟨(some 22), none, (.mv (.tmp 2))⟩,
 ⟨(some 23), none, (.bin .neq (.tmp 21) (.tmp 22))⟩])
 (.cond (.tmp 23)
 (.seq
 (.ops [
 ⟨(some 6), none, (.mv (.const (.bool false)))⟩])
 .ret)
 .skip)))
 (.ops [
 ⟨(some 15), none, (.mv (.tmp 7))⟩,
 ⟨(some 16), none, (.bin .add (.tmp 15) (.const (.int .i64 1)))⟩,
 ⟨(some 7), none, (.mv (.tmp 16))⟩]))))))
 (.seq
 (.ops [
 ⟨(some 6), none, (.mv (.const (.bool true)))⟩])
 .ret))))
theorem f_scref27_sized : compF Try.prog 62 = some (24, c_scref27_sized, [(.tmp 6)]) := by kernel_rfl
def c_live_down : VC :=
 (.seq
 (.ops [
 ⟨(some 1), none, (.box 3 (.tmp 0))⟩,
 ⟨(some 2), none, (.mv (.const .nilFunc))⟩])
 (.seq
 (.ops [
 ⟨(some 3), none, (.mkf 65 [(.tmp 1)])⟩,
 ⟨(some 2), none, (.mv (.tmp 3))⟩])
 .ret))
theorem f_live_down : compF Try.prog 63 = some (4, c_live_down, [(.tmp 2)]) := by kernel_rfl
def c_scref01_Apply : VC :=
 (.seq
 (.ops [
 ⟨(some 6), none, (.mv (.const (.int .u32 0)))⟩,
 ⟨(some 7), none, (.mv (.const (.int .i64 0)))⟩])
 (.seq
 (.ops [
 ⟨(some 10), none, (.mv (.tmp 1))⟩,
 ⟨(some 11), none, (.conv .u64 (.tmp 10))⟩,
 ⟨(some 12), none, (.mv (.tmp 2))⟩,
 ⟨(some 13), none, (.conv .u64 (.tmp 12))⟩,
 ⟨(some 8), none, (.mv (.tmp 11))⟩,
 ⟨(some 9), none, (.mv (.tmp 13))⟩])
 (.seq
 (.seq
 (.ops [
 ⟨(some 14), none, (.mv (.tmp 0))⟩])
 (.block 0
 (.seq
 (.ops [
 ⟨(some 16), none, (.bin .eql (.tmp 14) (.const (.int .i64 4)))⟩,
 ⟨(some 15), none, (.mv (.tmp 16))⟩])
 (.cond (.tmp 15)
 (.seq
 (.ops [
 ⟨(some 17), none, (.mv (.tmp 8))⟩,
 ⟨(some 18), none, (.mv (.tmp 9))⟩,
 ⟨(some 19), none, (.bin .add (.tmp 17) (.tmp 18))⟩,
 ⟨(some 20), none, (.bin .rem (.tmp 19) (.const (.int .u64 4294967296)))⟩,
 ⟨(some 21), none, (.conv .u32 (.tmp 20))⟩,
 ⟨(some 6), none, (.mv (.tmp 21))⟩,
 ⟨(some 7), none, (.mv (.const (.int .i64 0)))⟩])
 .ret)
 (.seq
 (.ops [
 ⟨(some 23), none, (.bin .eql (.tmp 14) (.const (.int .i64 5)))⟩,
 ⟨(some 22), none, (.mv (.tmp 23))⟩])
 (.cond (.tmp 22)
 (.seq
 (.ops [
 ⟨(some 24), none, (.mv (.tmp 8))⟩,
 ⟨(some 25), none, (.bin .add (.tmp 24) (.const (.int .u64 4294967296)))⟩,
 ⟨(some 26), none, (.mv (.tmp 9))⟩,
 ⟨(some 27), none, (.bin .sub (.tmp 25) (.tmp 26))⟩,
 ⟨(some 28), none, (.bin .rem (.tmp 27) (.const (.int .u64 4294967296)))⟩,
 ⟨(some 29), none, (.conv .u32 (.tmp 28))⟩,
 ⟨(some 6), none, (.mv (.tmp 29))⟩,
 ⟨(some 7), none, (.mv (.const (.int .i64 0)))⟩])
 .ret)
 (.seq
 (.ops [
 ⟨(some 31), none, (.bin .eql (.tmp 14) (.const (.int .i64 6)))⟩,
 ⟨(some 30), none, (.mv (.tmp 31))⟩])
 (.cond (.tmp 30)
 (.seq
 (.ops [
 ⟨(some 32), none, (.mv (.tmp 8))⟩,
 ⟨(some 33), none, (.mv (.tmp 9))⟩,
 ⟨(some 34), none, (.bin .mul (.tmp 32) (.tmp 33))⟩,
 ⟨(some 35), none, (.bin .rem (.tmp 34) (.const (.int .u64 4294967296)))⟩,
 ⟨(some 36), none, (.conv .u32 (.tmp 35))⟩,
 ⟨(some 6), none, (.mv (.tmp 36))⟩,
 ⟨(some 7), none, (.mv (.const (.int .i64 0)))⟩])
 .ret)
 (.seq
 (.ops [
 ⟨(some 38), none, (.bin .eql (.tmp 14) (.const (.int .i64 7)))⟩,
 ⟨(some 37), none, (.mv (.tmp 38))⟩])
 (.cond (.tmp 37)
 (.seq
 (.seq
 (.ops [
 ⟨(some 39), none, (.mv (.tmp 2))⟩,
 ⟨(some 40), none, (.bin .eql (.tmp 39) (.const (.int .u32 0)))⟩])
 (.cond (.tmp 40)
 (.seq
 (.ops [
 ⟨(some 6), none, (.mv (.const (.int .u32 0)))⟩,
 ⟨(some 7), none, (.mv (.const (.int .i64 14)))⟩])
 .ret)
 .skip))
 (.seq
 (.ops [
 ⟨(some 41), none, (.mv (.tmp 8))⟩,
 ⟨(some 42), none, (.mv (.tmp 9))⟩,
 ⟨(some 43), none, (.bin .quo (.tmp 41) (.tmp 42))⟩,
 ⟨(some 44), none, (.conv .u32 (.tmp 43))⟩,
 ⟨(some 6), none, (.mv (.tmp 44))⟩,
 ⟨(some 7), none, (.mv (.const (.int .i64 0)))⟩])
 .ret))
 (.seq
 (.ops [
 ⟨(some 46), none, (.bin .eql (.tmp 14) (.const (.int .i64 8)))⟩,
 ⟨(some 45), none, (.mv (.tmp 46))⟩])
 (.cond (.tmp 45)
 (.seq
 (.seq
 (.ops [
 ⟨(some 47), none, (.mv (.tmp 2))⟩,
 ⟨(some 48), none, (.bin .eql (.tmp 47) (.const (.int .u32 0)))⟩])
 (.cond (.tmp 48)
 (.seq
 (.ops [
 ⟨(some 6), none, (.mv (.const (.int .u32 0)))⟩,
 ⟨(some 7), none, (.mv (.const (.int .i64 14)))⟩])
 .ret)
 .skip))
 (.seq
 (.ops [
 ⟨(some 49), none, (.mv (.tmp 8))⟩,
 ⟨(some 50), none, (.mv (.tmp 9))⟩,
 ⟨(some 51), none, (.bin .rem (.tmp 49) (.tmp 50))⟩,
 ⟨(some 52), none, (.conv .u32 (.tmp 51))⟩,
 ⟨(some 6), none, (.mv (.tmp 52))⟩,
 ⟨(some 7), none, (.mv (.const (.int .i64 0)))⟩])
 .ret))
 (.seq
 (.seq
 (.ops [
 ⟨(some 54), none, (.bin .eql (.tmp 14) (.const (.int .i64 9)))⟩,
 ⟨(some 53), none, (.mv (.tmp 54))⟩])
 (.cond (.tmp 53)
 .skip
 (.seq
 (.ops [
 ⟨(some 55), none, (.bin .eql (.tmp 14) (.const (.int .i64 10)))⟩,
 ⟨(some 53), none, (.mv (.tmp 55))⟩])
 (.cond (.tmp 53)
 .skip
 (.ops [
 ⟨(some 56), none, (.bin .eql (.tmp 14) (.const (.int .i64 11)))⟩,
 ⟨(some 53), none, (.mv (.tmp 56))⟩])))))
 (.cond (.tmp 53)
 (.seq
 (.ops [
 ⟨(some 57), none, (.mv (.tmp 0))⟩,
 ⟨(some 58), none, (.mv (.tmp 1))⟩,
 ⟨(some 59), none, (.mv (.tmp 2))⟩,
 ⟨(some 60), none, (.call (.func 66) [(.tmp 57), (.tmp 58), (.tmp 59)])⟩,
 ⟨(some 6), none, (.mv (.tmp 60))⟩,
 ⟨(some 7), none, (.mv (.const (.int .i64 0)))⟩])
 .ret)
 (.seq
 (.seq
 (.ops [
 ⟨(some 62), none, (.bin .eql (.tmp 14) (.const (.int .i64 12)))⟩,
 ⟨(some 61), none, (.mv (.tmp 62))⟩])
 (.cond (.tmp 61)
 .skip
 (.ops [
 ⟨(some 63), none, (.bin .eql (.tmp 14) (.const (.int .i64 13)))⟩,
 ⟨(some 61), none, (.mv (.tmp 63))⟩])))
 (.cond (.tmp 61)
 (.seq
 (.ops [
 ⟨(some 64), none, (.mv (.tmp 0))⟩,
 ⟨(some 65), none, (.mv (.tmp 1))⟩,
 ⟨(some 66), none, (.mv (.tmp 2))⟩,
 ⟨(some 67), none, (.call (.func 67) [(.tmp 64), (.tmp 65), (.tmp 66)])⟩,
 ⟨(some 6), none, (.mv (.tmp 67))⟩,
 ⟨(some 7), none, (.mv (.const (.int .i64 0)))⟩])
 .ret)
 (.seq
 (.ops [
 ⟨(some 69), none, (.bin .eql (.tmp 14) (.const (.int .i64 14)))⟩,
 ⟨(some 68), none, (.mv (.tmp 69))⟩])
 (.cond (.tmp 68)
 (.seq
 (.ops [
 ⟨(some 70), none, (.mv (.tmp 1))⟩,
 ⟨(some 71), none, (.mv (.tmp 2))⟩,
 ⟨(some 72), none, (.bin .lss (.tmp 70) (.tmp 71))⟩,
 ⟨(some 73), none, (.call (.func 68) [(.tmp 72)])⟩,
 ⟨(some 6), none, (.mv (.tmp 73))⟩,
 ⟨(some 7), none, (.mv (.const (.int .i64 0)))⟩])
 .ret)
 (.seq
 (.ops [
 ⟨(some 75), none, (.bin .eql (.tmp 14) (.const (.int .i64 15)))⟩,
 ⟨(some 74), none, (.mv (.tmp 75))⟩])
 (.cond (.tmp 74)
 (.seq
 (.ops [
 ⟨(some 76), none, (.mv (.tmp 1))⟩,
 ⟨(some 77), none, (.mv (.tmp 2))⟩,
 ⟨(some 78), none, (.bin .eql (.tmp 76) (.tmp 77))⟩,
 ⟨(some 79), none, (.call (.func 68) [(.tmp 78)])⟩,
 ⟨(some 6), none, (.mv (.tmp 79))⟩,
 ⟨(some 7), none, (.mv (.const (.int .i64 0)))⟩])
 .ret)
 .skip))))))))))))))))))))
 (.seq
 (.ops [
 ⟨(some 6), none, (.mv (.const (.int .u32 0)))⟩,
 ⟨(some 7), none, (.mv (.const (.int .i64 1)))⟩])
 .ret))))
theorem f_scref01_Apply : compF Try.prog 64 = some (80, c_scref01_Apply, [(.tmp 6), (.tmp 7)]) := by kernel_rfl
def c_live_down_1 : VC :=
 (.seq
 (.ops [
 ⟨(some 4), none, (.ld false 1 (.tmp 1))⟩,
 ⟨(some 5), none, (.bin .sub (.tmp 4) (.const (.int .i64 1)))⟩,
 ⟨(some 3), none, (.mv (.tmp 5))⟩])
 (.block 0
 (.loop
 (.seq
 (.seq
 (.ops [
 ⟨(some 6), none, (.mv (.tmp 3))⟩,
 ⟨(some 7), none, (.bin .geq (.tmp 6) (.const (.int .i64 0)))⟩])
 (.cond (.tmp 7)
 .skip
 (.exit 0)))
 (.seq
 (.block 1
 (.seq
 (.ops [
 ⟨(some 10), none, (.mv (.tmp 0))⟩,
 ⟨(some 11), none, (.mv (.tmp 3))⟩,
 ⟨(some 12), none, (.ycal (.tmp 10) [(.tmp 11)])⟩,
 ⟨(some 13), none, (.un .not (.tmp 12))⟩])
 (.cond (.tmp 13)
 .ret
 .skip)))
 (.ops [
 ⟨(some 8), none, (.mv (.tmp 3))⟩,
 ⟨(some 9), none, (.bin .sub (.tmp 8) (.const (.int .i64 1)))⟩,
 ⟨(some 3), none, (.mv (.tmp 9))⟩]))))))
theorem f_live_down_1 : compFB Try.prog true 65 = some (14, c_live_down_1, []) := by kernel_rfl
def c_scref01_both : VC :=
 (.seq
 (.ops [
 ⟨(some 6), none, (.mv (.const (.int .u32 0)))⟩])
 (.seq
 (.ops [
 ⟨(some 11), none, (.mv (.tmp 1))⟩,
 ⟨(some 12), none, (.call (.func 69) [(.tmp 11)])⟩,
 ⟨(some 13), none, (.mv (.tmp 2))⟩,
 ⟨(some 14), none, (.call (.func 69) [(.tmp 13)])⟩,
 ⟨(some 7), none, (.mv (.tmp 12))⟩,
 ⟨(some 8), none, (.mv (.tmp 14))⟩])
 (.seq
 (.seq
 (.ops [
 ⟨(some 9), none, (.mv (.const (.int .i64 0)))⟩])
 (.block 0
 (.loop
 (.seq
 (.seq
 (.ops [
 ⟨(some 15), none, (.mv (.tmp 9))⟩,
 ⟨(some 16), none, (.bin .lss (.tmp 15) (.const (.int .i64 32)))⟩])
 (.cond (.tmp 16)
 .skip
 (.exit 0)))
 (.seq
 (.block 1
 (.seq
 (.ops [
 ⟨(some 19), none, (.mv (.tmp 7))⟩,
 ⟨(some 20), none, (.mv (.tmp 9))⟩,
 ⟨(some 21), none, (.idx 1 (.tmp 19) (.tmp 20))⟩,
 ⟨(some 22), none, (.ld false 1 (.tmp 21))⟩,
 ⟨(some 23), none, (.mv (.tmp 8))⟩,
 ⟨(some 24), none, (.mv (.tmp 9))⟩,
 ⟨(some 25), none, (.idx 1 (.tmp 23) (.tmp 24))⟩,
 ⟨(some 26), none, (.ld false 1 (.tmp 25))⟩,
 ⟨(some 27), none, (.bin .add (.tmp 22) (.tmp 26))⟩,
 ⟨(some 10), none, (.mv (.tmp 27))⟩])
 (.seq
 (.ops [
 ⟨(some 28), none, (.mv (.tmp 7))⟩,
 ⟨(some 29), none, (.mv (.tmp 9))⟩,
 ⟨(some 30), none, (.idx 1 (.tmp 28) (.tmp 29))⟩,
 ⟨none, none, (.sto false 1 (.tmp 30) (.const (.int .i64 0)))⟩])
 (.seq
 (.ops [
 ⟨(some 31), none, (.mv (.tmp 10))⟩,
 ⟨(some 32), none, (.bin .eql (.tmp 31) (.const (.int .i64 2)))⟩,
 ⟨(some 33), none, (.mv (.tmp 32))⟩,
 ⟨(some 34), (some (33, true)), (.mv (.tmp 0))⟩,
 ⟨(some 35), (some (33, true)), (.bin .neq (.tmp 34) (.const (.int .i64 11)))⟩,
 ⟨(some 36), none, (.pick (.tmp 33) (.tmp 35) (.const (.bool false)))⟩,
 ⟨(some 37), none, (.mv (.tmp 36))⟩,
 ⟨(some 38), (some (37, false)), (.mv (.tmp 10))⟩,
 ⟨(some 39), (some (37, false)), (.bin .eql (.tmp 38) (.const (.int .i64 1)))⟩,
 ⟨(some 40), (some (37, false)), (.mv (.tmp 39))⟩,
 ⟨(some 41), (some (40, true)), (.mv (.tmp 0))⟩,
 ⟨(some 42), (some (40, true)), (.bin .neq (.tmp 41) (.const (.int .i64 9)))⟩,
 ⟨(some 43), (some (37, false)), (.pick (.tmp 40) (.tmp 42) (.const (.bool false)))⟩,
 ⟨(some 44), none, (.pick (.tmp 37) (.const (.bool true)) (.tmp 43))⟩])
 (.cond (.tmp 44)
 (.ops [
 ⟨(some 45), none, (.mv (.tmp 7))⟩,
 ⟨(some 46), none, (.mv (.tmp 9))⟩,
 ⟨(some 47), none, (.idx 1 (.tmp 45) (.tmp 46))⟩,
 ⟨none, none, (.sto false 1 (.tmp 47) (.const (.int .i64 1)))⟩])
 .skip)))))
 (.ops [
 ⟨(some 17), none, (.mv (.tmp 9))⟩,
 ⟨(some 18), none, (.bin .add (.tmp 17) (.const (.int .i64 1)))⟩,
 ⟨(some 9), none, (.mv (.tmp 18))⟩]))))))
 (.seq
 (.ops [
 ⟨(some 48), none, (.mv (.tmp 7))⟩,
 ⟨(some 49), none, (.call (.func 70) [(.tmp 48)])⟩,
 ⟨(some 6), none, (.mv (.tmp 49))⟩])
 .ret))))
theorem f_scref01_both : compF Try.prog 66 = some (50, c_scref01_both, [(.tmp 6)]) := by kernel_rfl
def c_scref01_shift : VC :=
 (.seq
 (.ops [
 ⟨(some 6), none, (.mv (.const (.int .u32 0)))⟩])
 (.seq
 (.seq
 (.ops [
 ⟨(some 9), none, (.mv (.tmp 2))⟩,
 ⟨(some 10), none, (.bin .geq (.tmp 9) (.const (.int .u32 32)))⟩])
 (.cond (.tmp 10)
 (.seq
 (.ops [
 ⟨(some 6), none, (.mv (.const (.int .u32 0)))⟩])
 .ret)
 .skip))
 (.seq
 (.ops [
 ⟨(some 11), none, (.mv (.tmp 1))⟩,
 ⟨(some 12), none, (.conv .u64 (.tmp 11))⟩,
 ⟨(some 7), none, (.mv (.tmp 12))⟩])
 (.seq
 (.seq
 (.ops [
 ⟨(some 8), none, (.mv (.const (.int .u32 0)))⟩])
 (.block 0
 (.loop
 (.seq
 (.seq
 (.ops [
 ⟨(some 13), none, (.mv (.tmp 8))⟩,
 ⟨(some 14), none, (.mv (.tmp 2))⟩,
 ⟨(some 15), none, (.bin .lss (.tmp 13) (.tmp 14))⟩])
 (.cond (.tmp 15)
 .skip
 (.exit 0)))
 (.seq
 (.block 1
 (.seq
 (.ops [
 ⟨(some 18), none, (.mv (.tmp 0))⟩,
 ⟨(some 19), none, (.bin .eql (.tmp 18) (.const (.int .i64 12)))⟩])
 (.cond (.tmp 19)
 (.ops [
 ⟨(some 20), none, (.mv (.tmp 7))⟩,
 ⟨(some 21), none, (.bin .mul (.const (.int .u64 2)) (.tmp 20))⟩,
 ⟨(some 22), none, (.bin .rem (.tmp 21) (.const (.int .u64 4294967296)))⟩,
 ⟨(some 7), none, (.mv (.tmp 22))⟩])
 (.ops [
 ⟨(some 23), none, (.mv (.tmp 7))⟩,
 ⟨(some 24), none, (.bin .quo (.tmp 23) (.const (.int .u64 2)))⟩,
 ⟨(some 7), none, (.mv (.tmp 24))⟩]))))
 (.ops [
 ⟨(some 16), none, (.mv (.tmp 8))⟩,
 ⟨(some 17), none, (.bin .add (.tmp 16) (.const (.int .u32 1)))⟩,
 ⟨(some 8), none, (.mv (.tmp 17))⟩]))))))
 (.seq
 (.ops [
 ⟨(some 25), none, (.mv (.tmp 7))⟩,
 ⟨(some 26), none, (.conv .u32 (.tmp 25))⟩,
 ⟨(some 6), none, (.mv (.tmp 26))⟩])
 .ret)))))
theorem f_scref01_shift : compF Try.prog 67 = some (27, c_scref01_shift, [(.tmp 6)]) := by kernel_rfl
def c_scref01_flag : VC :=
 (.seq
 (.ops [
 ⟨(some 2), none, (.mv (.const (.int .u32 0)))⟩])
 (.seq
 (.seq
 (.ops [
 ⟨(some 3), none, (.mv (.tmp 0))⟩])
 (.cond (.tmp 3)
 (.seq
 (.ops [
 ⟨(some 2), none, (.mv (.const (.int .u32 1)))⟩])
 .ret)
 .skip))
 (.seq
 (.ops [
 ⟨(some 2), none, (.mv (.const (.int .u32 0)))⟩])
 .ret)))
theorem f_scref01_flag : compF Try.prog 68 = some (4, c_scref01_flag, [(.tmp 2)]) := by kernel_rfl
def c_scref01_Bits : VC :=
 (.seq
 (.ops [
 ⟨(some 2), none, (.mv (.const (.slice none 0 0)))⟩])
 (.seq
 (.ops [
 ⟨(some 3), none, (.mv (.const (.slice none 0 0)))⟩])
 (.seq
 (.seq
 (.ops [
 ⟨(some 4), none, (.mv (.const (.int .i64 0)))⟩])
 (.block 0
 (.loop
 (.seq
 (.seq
 (.ops [
 ⟨(some 5), none, (.mv (.tmp 4))⟩,
 ⟨(some 6), none, (.bin .lss (.tmp 5) (.const (.int .i64 32)))⟩])
 (.cond (.tmp 6)
 .skip
 (.exit 0)))
 (.seq
 (.block 1
 (.seq
 (.ops [
 ⟨(some 9), none, (.mv (.tmp 3))⟩,
 ⟨(some 10), none, (.mv (.tmp 0))⟩,
 ⟨(some 11), none, (.bin .rem (.tmp 10) (.const (.int .u32 2)))⟩,
 ⟨(some 12), none, (.conv .i64 (.tmp 11))⟩,
 ⟨(some 13), none, (.bsl 3 1 1 [(.int .i64 0)] [(0, (1, (.tmp 12)))])⟩,
 ⟨(some 14), none, (.app 3 1 8 (.tmp 9) (.tmp 13))⟩,
 ⟨(some 3), none, (.mv (.tmp 14))⟩])
 (.ops [
 ⟨(some 15), none, (.mv (.tmp 0))⟩,
 ⟨(some 16), none, (.bin .quo (.tmp 15) (.const (.int .u32 2)))⟩,
 ⟨(some 0), none, (.mv (.tmp 16))⟩])))
 (.ops [
 ⟨(some 7), none, (.mv (.tmp 4))⟩,
 ⟨(some 8), none, (.bin .add (.tmp 7) (.const (.int .i64 1)))⟩,
 ⟨(some 4), none, (.mv (.tmp 8))⟩]))))))
 (.seq
 (.ops [
 ⟨(some 17), none, (.mv (.tmp 3))⟩,
 ⟨(some 2), none, (.mv (.tmp 17))⟩])
 .ret))))
theorem f_scref01_Bits : compF Try.prog 69 = some (18, c_scref01_Bits, [(.tmp 2)]) := by kernel_rfl
def c_scref01_Of : VC :=
 (.seq
 (.ops [
 ⟨(some 2), none, (.mv (.const (.int .u32 0)))⟩])
 (.seq
 (.ops [
 ⟨(some 3), none, (.mv (.const (.int .u64 0)))⟩])
 (.seq
 (.seq
 (.ops [
 ⟨(some 5), none, (.mv (.tmp 0))⟩,
 ⟨(some 6), none, (.len (.tmp 5))⟩,
 ⟨(some 7), none, (.bin .sub (.tmp 6) (.const (.int .i64 1)))⟩,
 ⟨(some 4), none, (.mv (.tmp 7))⟩])
 (.block 0
 (.loop
 (.seq
 (.seq
 (.ops [
 ⟨(some 8), none, (.mv (.tmp 4))⟩,
 ⟨(some 9), none, (.bin .geq (.tmp 8) (.const (.int .i64 0)))⟩])
 (.cond (.tmp 9)
 .skip
 (.exit 0)))
 (.seq
 (.block 1
 (.ops [
 ⟨(some 12), none, (.mv (.tmp 3))⟩,
 ⟨(some 13), none, (.bin .mul (.const (.int .u64 2)) (.tmp 12))⟩,
 ⟨(some 14), none, (.mv (.tmp 0))⟩,
 ⟨(some 15), none, (.mv (.tmp 4))⟩,
 ⟨(some 16), none, (.idx 1 (.tmp 14) (.tmp 15))⟩,
 ⟨(some 17), none, (.ld false 1 (.tmp 16))⟩,
 ⟨(some 18), none, (.conv .u64 (.tmp 17))⟩,
 ⟨(some 19), none, (.bin .add (.tmp 13) (.tmp 18))⟩,
 ⟨(some 3), none, (.mv (.tmp 19))⟩]))
 (.ops [
 ⟨(some 10), none, (.mv (.tmp 4))⟩,
 ⟨(some 11), none, (.bin .sub (.tmp 10) (.const (.int .i64 1)))⟩,
 ⟨(some 4), none, (.mv (.tmp 11))⟩]))))))
 (.seq
 (.ops [
 ⟨(some 20), none, (.mv (.tmp 3))⟩,
 ⟨(some 21), none, (.bin .rem (.tmp 20) (.const (.int .u64 4294967296)))⟩,
 ⟨(some 22), none, (.conv .u32 (.tmp 21))⟩,
 ⟨(some 2), none, (.mv (.tmp 22))⟩])
 .ret))))
theorem f_scref01_Of : compF Try.prog 70 = some (23, c_scref01_Of, [(.tmp 2)]) := by kernel_rfl
theorem hmix : Try.prog.follows .mixedOrders = true := by kernel_rfl
end Go.Proofs.Ytncjbipnkdlkoaa
