/-
  The functions of this seat, made small by the program: each is what the engine makes of the function of that number. No condition.
-/
import Derived.Test.YtdfdkoajphcjbaaVS
import Derived.Test.YtdfdkoajphcjbaaRows
import Derived.KernelRfl
namespace Go.Proofs.Ytdfdkoajphcjbaa
open Go.V
/-- seedcorn/seedcornlaw20.StackRuns -/
def c_sclaw20_StackRuns : VC :=
 (.seq
  (.ops [
    ⟨(some 3), none, (.box 24 (.tmp 0))⟩,
    ⟨(some 6), none, (.mv (.const (.bool false)))⟩])
  (.seq
   (.seq
    (.ops [
      ⟨(some 7), none, (.call (.func 9) [])⟩,
      ⟨(some 8), none, (.un .not (.tmp 7))⟩])
    (.cond (.tmp 8)
     (.seq
      (.ops [
        ⟨(some 6), none, (.mv (.const (.bool false)))⟩])
      .ret)
     .skip))
   (.seq
    (.seq
     (.ops [
       ⟨(some 9), none, (.ld true 2 (.tmp 3))⟩,
       ⟨(some 10), none, (.call (.func 10) [(.tmp 9), (.const (.int .i64 200))])⟩,
       ⟨(some 11), none, (.un .not (.tmp 10))⟩,
       ⟨(some 12), none, (.mv (.tmp 11))⟩,
       ⟨(some 13), (some (12, false)), (.fad 0 false 1 (.tmp 3))⟩,
       ⟨(some 14), (some (12, false)), (.ld false 1 (.tmp 13))⟩,
       ⟨(some 15), (some (12, false)), (.bin .gtr (.tmp 14) (.const (.int .i64 4000)))⟩,
       ⟨(some 16), none, (.pick (.tmp 12) (.const (.bool true)) (.tmp 15))⟩,
       ⟨(some 17), none, (.mv (.tmp 16))⟩,
       ⟨(some 18), (some (17, false)), (.mv (.tmp 2))⟩,
       ⟨(some 19), (some (17, false)), (.bin .gtr (.tmp 18) (.const (.int .i64 400)))⟩,
       ⟨(some 20), none, (.pick (.tmp 17) (.const (.bool true)) (.tmp 19))⟩,
       ⟨(some 21), none, (.mv (.tmp 20))⟩,
       ⟨(some 22), (some (21, false)), (.mv (.tmp 1))⟩,
       ⟨(some 23), (some (21, false)), (.lens (.tmp 22))⟩,
       ⟨(some 24), (some (21, false)), (.bin .gtr (.tmp 23) (.const (.int .i64 100)))⟩,
       ⟨(some 25), none, (.pick (.tmp 21) (.const (.bool true)) (.tmp 24))⟩,
       ⟨(some 26), none, (.mv (.tmp 25))⟩,
       ⟨(some 27), (some (26, false)), (.ld true 2 (.tmp 3))⟩,
       ⟨(some 28), (some (26, false)), (.call (.func 11) [(.tmp 27)])⟩,
       ⟨(some 29), (some (26, false)), (.un .not (.tmp 28))⟩,
       ⟨(some 30), none, (.pick (.tmp 26) (.const (.bool true)) (.tmp 29))⟩])
     (.cond (.tmp 30)
      (.seq
       (.ops [
         ⟨(some 6), none, (.mv (.const (.bool true)))⟩])
       .ret)
      .skip))
    (.seq
     (.par false (.one ⟨(some 31), none, (.ld true 2 (.tmp 3))⟩ (.one ⟨(some 32), none, (.mv (.tmp 1))⟩ (.one ⟨(some 33), none, (.mv (.tmp 2))⟩ (.one ⟨(some 34), none, (.call (.func 12) [(.tmp 31), (.tmp 32), (.tmp 33)])⟩ (.one ⟨(some 35), none, (.ld true 2 (.tmp 3))⟩ (.one ⟨(some 36), none, (.mv (.tmp 1))⟩ (.one ⟨(some 37), none, (.mv (.tmp 2))⟩ (.one ⟨(some 38), none, (.call (.func 13) [(.tmp 35), (.tmp 36), (.tmp 37)])⟩ (.one ⟨(some 39), none, (.pur (.eqv false [.int, .str, .int]) [(.tmp 34), (.tmp 38)])⟩ (.one ⟨(some 6), none, (.mv (.tmp 39))⟩ .done)))))))))))
     .ret))))
theorem f_sclaw20_StackRuns : compF Try.prog 3 = some (40, c_sclaw20_StackRuns, [(.tmp 6)]) := by kernel_rfl

/-- seedcorn/seedcornlaw20.StackMore -/
def c_sclaw20_StackMore : VC :=
 (.seq
  (.ops [
    ⟨(some 3), none, (.box 24 (.tmp 0))⟩,
    ⟨(some 5), none, (.box 32 (.tmp 2))⟩,
    ⟨(some 6), none, (.mv (.const (.bool false)))⟩])
  (.seq
   (.seq
    (.ops [
      ⟨(some 10), none, (.call (.func 9) [])⟩,
      ⟨(some 11), none, (.un .not (.tmp 10))⟩])
    (.cond (.tmp 11)
     (.seq
      (.ops [
        ⟨(some 6), none, (.mv (.const (.bool false)))⟩])
      .ret)
     .skip))
   (.seq
    (.seq
     (.ops [
       ⟨(some 12), none, (.ld true 2 (.tmp 3))⟩,
       ⟨(some 13), none, (.call (.func 10) [(.tmp 12), (.const (.int .i64 200))])⟩,
       ⟨(some 14), none, (.un .not (.tmp 13))⟩,
       ⟨(some 15), none, (.mv (.tmp 14))⟩,
       ⟨(some 16), (some (15, false)), (.fad 0 false 1 (.tmp 3))⟩,
       ⟨(some 17), (some (15, false)), (.ld false 1 (.tmp 16))⟩,
       ⟨(some 18), (some (15, false)), (.bin .gtr (.tmp 17) (.const (.int .i64 4000)))⟩,
       ⟨(some 19), none, (.pick (.tmp 15) (.const (.bool true)) (.tmp 18))⟩,
       ⟨(some 20), none, (.mv (.tmp 19))⟩,
       ⟨(some 21), (some (20, false)), (.mv (.tmp 1))⟩,
       ⟨(some 22), (some (20, false)), (.lens (.tmp 21))⟩,
       ⟨(some 23), (some (20, false)), (.bin .gtr (.tmp 22) (.const (.int .i64 100)))⟩,
       ⟨(some 24), none, (.pick (.tmp 20) (.const (.bool true)) (.tmp 23))⟩,
       ⟨(some 25), none, (.mv (.tmp 24))⟩,
       ⟨(some 26), (some (25, false)), (.ld true 2 (.tmp 3))⟩,
       ⟨(some 27), (some (25, false)), (.call (.func 11) [(.tmp 26)])⟩,
       ⟨(some 28), (some (25, false)), (.un .not (.tmp 27))⟩,
       ⟨(some 29), none, (.pick (.tmp 25) (.const (.bool true)) (.tmp 28))⟩])
     (.cond (.tmp 29)
      (.seq
       (.ops [
         ⟨(some 6), none, (.mv (.const (.bool true)))⟩])
       .ret)
      .skip))
    (.seq
     (.ops [
       ⟨(some 30), none, (.aidx 2 false 1 (.tmp 5) (.const (.int .i64 0)))⟩,
       ⟨(some 31), none, (.ld false 1 (.tmp 30))⟩,
       ⟨(some 32), none, (.conv .i64 (.tmp 31))⟩,
       ⟨(some 7), none, (.mv (.tmp 32))⟩])
     (.seq
      (.ops [
        ⟨(some 33), none, (.ld true 2 (.tmp 3))⟩,
        ⟨(some 34), none, (.mv (.tmp 1))⟩,
        ⟨(some 35), none, (.mv (.tmp 7))⟩,
        ⟨(some 36), none, (.call (.func 12) [(.tmp 33), (.tmp 34), (.tmp 35)])⟩,
        ⟨(some 8), none, (.alc 29 [(.int .i64 0), (.string ⟨#[]⟩), (.int .i64 0)])⟩,
        ⟨none, none, (.sto true 3 (.tmp 8) (.tmp 36))⟩])
      (.seq
       (.ops [
         ⟨(some 37), none, (.ld true 2 (.tmp 3))⟩,
         ⟨(some 38), none, (.mv (.tmp 1))⟩,
         ⟨(some 39), none, (.mv (.tmp 7))⟩,
         ⟨(some 40), none, (.aidx 2 false 1 (.tmp 5) (.const (.int .i64 1)))⟩,
         ⟨(some 41), none, (.ld false 1 (.tmp 40))⟩,
         ⟨(some 42), none, (.conv .i64 (.tmp 41))⟩,
         ⟨(some 43), none, (.bin .add (.tmp 39) (.tmp 42))⟩,
         ⟨(some 44), none, (.call (.func 12) [(.tmp 37), (.tmp 38), (.tmp 43)])⟩,
         ⟨(some 9), none, (.alc 29 [(.int .i64 0), (.string ⟨#[]⟩), (.int .i64 0)])⟩,
         ⟨none, none, (.sto true 3 (.tmp 9) (.tmp 44))⟩])
       (.seq
        (.seq
         (.ops [
           ⟨(some 45), none, (.fad 0 false 1 (.tmp 8))⟩,
           ⟨(some 46), none, (.ld false 1 (.tmp 45))⟩,
           ⟨(some 47), none, (.bin .neq (.tmp 46) (.const (.int .i64 5)))⟩])
         (.cond (.tmp 47)
          (.seq
           (.ops [
             ⟨(some 48), none, (.ld true 3 (.tmp 8))⟩,
             ⟨(some 49), none, (.ld true 3 (.tmp 9))⟩,
             ⟨(some 50), none, (.pur (.eqv false [.int, .str, .int]) [(.tmp 48), (.tmp 49)])⟩,
             ⟨(some 51), none, (.mv (.tmp 50))⟩,
             ⟨(some 52), (some (51, true)), (.fad 2 false 1 (.tmp 8))⟩,
             ⟨(some 53), (some (51, true)), (.ld false 1 (.tmp 52))⟩,
             ⟨(some 54), (some (51, true)), (.mv (.tmp 7))⟩,
             ⟨(some 55), (some (51, true)), (.bin .leq (.tmp 53) (.tmp 54))⟩,
             ⟨(some 56), none, (.pick (.tmp 51) (.tmp 55) (.const (.bool false)))⟩,
             ⟨(some 6), none, (.mv (.tmp 56))⟩])
           .ret)
          .skip))
        (.seq
         (.ops [
           ⟨(some 57), none, (.fad 2 false 1 (.tmp 8))⟩,
           ⟨(some 58), none, (.ld false 1 (.tmp 57))⟩,
           ⟨(some 59), none, (.mv (.tmp 7))⟩,
           ⟨(some 60), none, (.bin .eql (.tmp 58) (.tmp 59))⟩,
           ⟨(some 61), none, (.mv (.tmp 60))⟩,
           ⟨(some 62), (some (61, true)), (.fad 2 false 1 (.tmp 9))⟩,
           ⟨(some 63), (some (61, true)), (.ld false 1 (.tmp 62))⟩,
           ⟨(some 64), (some (61, true)), (.mv (.tmp 7))⟩,
           ⟨(some 65), (some (61, true)), (.bin .geq (.tmp 63) (.tmp 64))⟩,
           ⟨(some 66), none, (.pick (.tmp 61) (.tmp 65) (.const (.bool false)))⟩,
           ⟨(some 67), none, (.mv (.tmp 66))⟩,
           ⟨(some 68), (some (67, true)), (.fad 1 false 1 (.tmp 8))⟩,
           ⟨(some 69), (some (67, true)), (.ld false 1 (.tmp 68))⟩,
           ⟨(some 70), (some (67, true)), (.lens (.tmp 69))⟩,
           ⟨(some 71), (some (67, true)), (.fad 1 false 1 (.tmp 9))⟩,
           ⟨(some 72), (some (67, true)), (.ld false 1 (.tmp 71))⟩,
           ⟨(some 73), (some (67, true)), (.lens (.tmp 72))⟩,
           ⟨(some 74), (some (67, true)), (.bin .leq (.tmp 70) (.tmp 73))⟩,
           ⟨(some 75), none, (.pick (.tmp 67) (.tmp 74) (.const (.bool false)))⟩,
           ⟨(some 76), none, (.mv (.tmp 75))⟩,
           ⟨(some 77), (some (76, true)), (.fad 1 false 1 (.tmp 9))⟩,
           ⟨(some 78), (some (76, true)), (.ld false 1 (.tmp 77))⟩,
           ⟨(some 79), (some (76, true)), (.fad 1 false 1 (.tmp 8))⟩,
           ⟨(some 80), (some (76, true)), (.ld false 1 (.tmp 79))⟩,
           ⟨(some 81), (some (76, true)), (.lens (.tmp 80))⟩,
           ⟨(some 82), (some (76, true)), (.sls (.tmp 78) none (some (.tmp 81)))⟩,
           ⟨(some 83), (some (76, true)), (.fad 1 false 1 (.tmp 8))⟩,
           ⟨(some 84), (some (76, true)), (.ld false 1 (.tmp 83))⟩,
           ⟨(some 85), (some (76, true)), (.bin .eql (.tmp 82) (.tmp 84))⟩,
           ⟨(some 86), none, (.pick (.tmp 76) (.tmp 85) (.const (.bool false)))⟩,
           ⟨(some 6), none, (.mv (.tmp 86))⟩])
         .ret))))))))
theorem f_sclaw20_StackMore : compF Try.prog 4 = some (87, c_sclaw20_StackMore, [(.tmp 6)]) := by kernel_rfl

/-- seedcorn/seedcornlaw20.StackCalls -/
def c_sclaw20_StackCalls : VC :=
 (.seq
  (.ops [
    ⟨(some 6), none, (.mv (.const (.bool false)))⟩])
  (.seq
   (.seq
    (.ops [
      ⟨(some 12), none, (.call (.func 9) [])⟩,
      ⟨(some 13), none, (.un .not (.tmp 12))⟩])
    (.cond (.tmp 13)
     (.seq
      (.ops [
        ⟨(some 6), none, (.mv (.const (.bool false)))⟩])
      .ret)
     .skip))
   (.seq
    (.ops [
      ⟨(some 14), none, (.bld [(.int .i64 0), (.int .i64 0), (.int .i64 0), (.int .u32 0)] [(0, (1, (.const (.int .i64 2)))), (1, (1, (.const (.int .i64 1))))])⟩,
      ⟨(some 15), none, (.bld [(.int .i64 0), (.int .i64 0), (.int .i64 0), (.int .u32 0)] [(0, (1, (.const (.int .i64 2)))), (1, (1, (.const (.int .i64 2))))])⟩,
      ⟨(some 16), none, (.bld [(.int .i64 0), (.int .i64 0), (.int .i64 0), (.int .u32 0)] [(0, (1, (.const (.int .i64 6)))), (1, (1, (.const (.int .i64 5))))])⟩,
      ⟨(some 17), none, (.bld [(.int .i64 0), (.int .i64 0), (.int .i64 0), (.int .u32 0)] [(0, (1, (.const (.int .i64 2)))), (1, (1, (.const (.int .i64 3))))])⟩,
      ⟨(some 18), none, (.bld [(.int .i64 0), (.int .i64 0), (.int .i64 0), (.int .u32 0)] [(0, (1, (.const (.int .i64 6)))), (1, (1, (.const (.int .i64 5))))])⟩,
      ⟨(some 19), none, (.mv (.tmp 2))⟩,
      ⟨(some 20), none, (.bld [(.int .i64 0), (.int .i64 0), (.int .i64 0), (.int .u32 0)] [(0, (1, (.const (.int .i64 1)))), (3, (1, (.tmp 19)))])⟩,
      ⟨(some 21), none, (.bld [(.int .i64 0), (.int .i64 0), (.int .i64 0), (.int .u32 0)] [(0, (1, (.const (.int .i64 3)))), (1, (1, (.const (.int .i64 3))))])⟩,
      ⟨(some 22), none, (.bld [(.int .i64 0), (.int .i64 0), (.int .i64 0), (.int .u32 0)] [(0, (1, (.const (.int .i64 11))))])⟩,
      ⟨(some 23), none, (.bsl 36 4 8 [(.int .i64 0), (.int .i64 0), (.int .i64 0), (.int .u32 0), (.int .i64 0), (.int .i64 0), (.int .i64 0), (.int .u32 0), (.int .i64 0), (.int .i64 0), (.int .i64 0), (.int .u32 0), (.int .i64 0), (.int .i64 0), (.int .i64 0), (.int .u32 0), (.int .i64 0), (.int .i64 0), (.int .i64 0), (.int .u32 0), (.int .i64 0), (.int .i64 0), (.int .i64 0), (.int .u32 0), (.int .i64 0), (.int .i64 0), (.int .i64 0), (.int .u32 0), (.int .i64 0), (.int .i64 0), (.int .i64 0), (.int .u32 0)] [(0, (4, (.tmp 14))), (4, (4, (.tmp 15))), (8, (4, (.tmp 16))), (12, (4, (.tmp 17))), (16, (4, (.tmp 18))), (20, (4, (.tmp 20))), (24, (4, (.tmp 21))), (28, (4, (.tmp 22)))])⟩,
      ⟨(some 24), none, (.bld [(.int .i64 0), (.int .i64 0), (.int .i64 0), (.bool false), (.slice none 0 0)] [(0, (1, (.const (.int .i64 2)))), (1, (1, (.const (.int .i64 3)))), (2, (1, (.const (.int .i64 1)))), (3, (1, (.const (.bool true)))), (4, (1, (.tmp 23)))])⟩,
      ⟨(some 7), none, (.alc 39 [(.int .i64 0), (.int .i64 0), (.int .i64 0), (.bool false), (.slice none 0 0)])⟩,
      ⟨none, none, (.sto true 5 (.tmp 7) (.tmp 24))⟩])
    (.seq
     (.ops [
       ⟨(some 25), none, (.mv (.tmp 0))⟩,
       ⟨(some 26), none, (.bld [(.int .i64 0), (.int .i64 0), (.int .i64 0), (.int .u32 0)] [(0, (1, (.const (.int .i64 1)))), (3, (1, (.tmp 25)))])⟩,
       ⟨(some 27), none, (.mv (.tmp 1))⟩,
       ⟨(some 28), none, (.bld [(.int .i64 0), (.int .i64 0), (.int .i64 0), (.int .u32 0)] [(0, (1, (.const (.int .i64 1)))), (3, (1, (.tmp 27)))])⟩,
       ⟨(some 29), none, (.bld [(.int .i64 0), (.int .i64 0), (.int .i64 0), (.int .u32 0)] [(0, (1, (.const (.int .i64 10))))])⟩,
       ⟨(some 30), none, (.bld [(.int .i64 0), (.int .i64 0), (.int .i64 0), (.int .u32 0)] [(0, (1, (.const (.int .i64 13))))])⟩,
       ⟨(some 31), none, (.bsl 36 4 4 [(.int .i64 0), (.int .i64 0), (.int .i64 0), (.int .u32 0), (.int .i64 0), (.int .i64 0), (.int .i64 0), (.int .u32 0), (.int .i64 0), (.int .i64 0), (.int .i64 0), (.int .u32 0), (.int .i64 0), (.int .i64 0), (.int .i64 0), (.int .u32 0)] [(0, (4, (.tmp 26))), (4, (4, (.tmp 28))), (8, (4, (.tmp 29))), (12, (4, (.tmp 30)))])⟩,
       ⟨(some 8), none, (.mv (.tmp 31))⟩])
     (.seq
      (.ops [
        ⟨(some 32), none, (.bsl 36 4 0 [] [])⟩,
        ⟨(some 33), none, (.mv (.tmp 8))⟩,
        ⟨(some 34), none, (.app 36 4 32 (.tmp 32) (.tmp 33))⟩,
        ⟨(some 35), none, (.mv (.tmp 8))⟩,
        ⟨(some 36), none, (.app 36 4 32 (.tmp 34) (.tmp 35))⟩,
        ⟨(some 37), none, (.bld [(.int .i64 0), (.int .i64 0), (.int .i64 0), (.int .u32 0)] [(0, (1, (.const (.int .i64 11))))])⟩,
        ⟨(some 38), none, (.bsl 36 4 1 [(.int .i64 0), (.int .i64 0), (.int .i64 0), (.int .u32 0)] [(0, (4, (.tmp 37)))])⟩,
        ⟨(some 39), none, (.app 36 4 32 (.tmp 36) (.tmp 38))⟩,
        ⟨(some 40), none, (.bld [(.int .i64 0), (.int .i64 0), (.int .i64 0), (.bool false), (.slice none 0 0)] [(4, (1, (.tmp 39)))])⟩,
        ⟨(some 9), none, (.alc 39 [(.int .i64 0), (.int .i64 0), (.int .i64 0), (.bool false), (.slice none 0 0)])⟩,
        ⟨none, none, (.sto true 5 (.tmp 9) (.tmp 40))⟩])
      (.seq
       (.ops [
         ⟨(some 41), none, (.ld true 5 (.tmp 7))⟩,
         ⟨(some 42), none, (.ld true 5 (.tmp 9))⟩,
         ⟨(some 43), none, (.bsl 39 5 2 [(.int .i64 0), (.int .i64 0), (.int .i64 0), (.bool false), (.slice none 0 0), (.int .i64 0), (.int .i64 0), (.int .i64 0), (.bool false), (.slice none 0 0)] [(0, (5, (.tmp 41))), (5, (5, (.tmp 42)))])⟩,
         ⟨(some 44), none, (.bld [(.int .i64 0), (.slice none 0 0)] [(0, (1, (.const (.int .i64 4)))), (1, (1, (.tmp 43)))])⟩,
         ⟨(some 10), none, (.alc 24 [(.int .i64 0), (.slice none 0 0)])⟩,
         ⟨none, none, (.sto true 2 (.tmp 10) (.tmp 44))⟩])
       (.seq
        (.ops [
          ⟨(some 45), none, (.mv (.tmp 0))⟩,
          ⟨(some 46), none, (.mv (.tmp 1))⟩,
          ⟨(some 47), none, (.bin .sub (.tmp 45) (.tmp 46))⟩,
          ⟨(some 48), none, (.conv .u8 (.tmp 47))⟩,
          ⟨(some 49), none, (.mv (.tmp 0))⟩,
          ⟨(some 50), none, (.mv (.tmp 1))⟩,
          ⟨(some 51), none, (.bin .sub (.tmp 49) (.tmp 50))⟩,
          ⟨(some 52), none, (.conv .u8 (.tmp 51))⟩,
          ⟨(some 53), none, (.bsl 5 1 2 [(.int .u8 0), (.int .u8 0)] [(0, (1, (.tmp 48))), (1, (1, (.tmp 52)))])⟩,
          ⟨(some 54), none, (.see .b2s [(.tmp 53)])⟩,
          ⟨(some 11), none, (.mv (.tmp 54))⟩])
        (.seq
         (.ops [
           ⟨(some 55), none, (.ld true 2 (.tmp 10))⟩,
           ⟨(some 56), none, (.callM true (.func 14) [(.tmp 55)])⟩,
           ⟨(some 57), none, (.mv (.tmp 56))⟩,
           ⟨(some 58), (some (57, true)), (.ld true 2 (.tmp 10))⟩,
           ⟨(some 59), (some (57, true)), (.call (.func 12) [(.tmp 58), (.const (.string ⟨#[]⟩)), (.const (.int .i64 100))])⟩,
           ⟨(some 60), (some (57, true)), (.mv (.tmp 11))⟩,
           ⟨(some 61), (some (57, true)), (.bld [(.int .i64 0), (.string ⟨#[]⟩), (.int .i64 0)] [(0, (1, (.const (.int .i64 1)))), (1, (1, (.tmp 60))), (2, (1, (.const (.int .i64 25))))])⟩,
           ⟨(some 62), (some (57, true)), (.pur (.eqv false [.int, .str, .int]) [(.tmp 59), (.tmp 61)])⟩,
           ⟨(some 63), none, (.pick (.tmp 57) (.tmp 62) (.const (.bool false)))⟩,
           ⟨(some 6), none, (.mv (.tmp 63))⟩])
         .ret))))))))
theorem f_sclaw20_StackCalls : compF Try.prog 5 = some (64, c_sclaw20_StackCalls, [(.tmp 6)]) := by kernel_rfl

/-- seedcorn/seedcornlaw20.StackPlaces -/
def c_sclaw20_StackPlaces : VC :=
 (.seq
  (.ops [
    ⟨(some 6), none, (.mv (.const (.bool false)))⟩])
  (.seq
   (.seq
    (.ops [
      ⟨(some 14), none, (.call (.func 9) [])⟩,
      ⟨(some 15), none, (.un .not (.tmp 14))⟩])
    (.cond (.tmp 15)
     (.seq
      (.ops [
        ⟨(some 6), none, (.mv (.const (.bool false)))⟩])
      .ret)
     .skip))
   (.seq
    (.ops [
      ⟨(some 16), none, (.mv (.tmp 0))⟩,
      ⟨(some 17), none, (.conv .i64 (.tmp 16))⟩,
      ⟨(some 18), none, (.bin .rem (.tmp 17) (.const (.int .i64 4096)))⟩,
      ⟨(some 19), none, (.bin .add (.const (.int .i64 1)) (.tmp 18))⟩,
      ⟨(some 7), none, (.mv (.tmp 19))⟩])
    (.seq
     (.ops [
       ⟨(some 20), none, (.mv (.tmp 1))⟩,
       ⟨(some 21), none, (.bld [(.int .i64 0), (.int .i64 0), (.int .i64 0), (.int .u32 0)] [(0, (1, (.const (.int .i64 1)))), (3, (1, (.tmp 20)))])⟩,
       ⟨(some 22), none, (.mv (.tmp 2))⟩,
       ⟨(some 23), none, (.conv .u32 (.tmp 22))⟩,
       ⟨(some 24), none, (.bld [(.int .i64 0), (.int .i64 0), (.int .i64 0), (.int .u32 0)] [(0, (1, (.const (.int .i64 1)))), (3, (1, (.tmp 23)))])⟩,
       ⟨(some 25), none, (.mv (.tmp 7))⟩,
       ⟨(some 26), none, (.bld [(.int .i64 0), (.int .i64 0), (.int .i64 0), (.int .u32 0)] [(0, (1, (.const (.int .i64 5)))), (1, (1, (.const (.int .i64 2)))), (2, (1, (.tmp 25)))])⟩,
       ⟨(some 27), none, (.bsl 36 4 3 [(.int .i64 0), (.int .i64 0), (.int .i64 0), (.int .u32 0), (.int .i64 0), (.int .i64 0), (.int .i64 0), (.int .u32 0), (.int .i64 0), (.int .i64 0), (.int .i64 0), (.int .u32 0)] [(0, (4, (.tmp 21))), (4, (4, (.tmp 24))), (8, (4, (.tmp 26)))])⟩,
       ⟨(some 8), none, (.mv (.tmp 27))⟩])
     (.seq
      (.ops [
        ⟨(some 28), none, (.mv (.tmp 1))⟩,
        ⟨(some 29), none, (.bld [(.int .i64 0), (.int .i64 0), (.int .i64 0), (.int .u32 0)] [(0, (1, (.const (.int .i64 1)))), (3, (1, (.tmp 28)))])⟩,
        ⟨(some 30), none, (.mv (.tmp 7))⟩,
        ⟨(some 31), none, (.bld [(.int .i64 0), (.int .i64 0), (.int .i64 0), (.int .u32 0)] [(0, (1, (.const (.int .i64 4)))), (1, (1, (.const (.int .i64 2)))), (2, (1, (.tmp 30)))])⟩,
        ⟨(some 32), none, (.bld [(.int .i64 0), (.int .i64 0), (.int .i64 0), (.int .u32 0)] [(0, (1, (.const (.int .i64 13))))])⟩,
        ⟨(some 33), none, (.bld [(.int .i64 0), (.int .i64 0), (.int .i64 0), (.int .u32 0)] [(0, (1, (.const (.int .i64 11))))])⟩,
        ⟨(some 34), none, (.bsl 36 4 4 [(.int .i64 0), (.int .i64 0), (.int .i64 0), (.int .u32 0), (.int .i64 0), (.int .i64 0), (.int .i64 0), (.int .u32 0), (.int .i64 0), (.int .i64 0), (.int .i64 0), (.int .u32 0), (.int .i64 0), (.int .i64 0), (.int .i64 0), (.int .u32 0)] [(0, (4, (.tmp 29))), (4, (4, (.tmp 31))), (8, (4, (.tmp 32))), (12, (4, (.tmp 33)))])⟩,
        ⟨(some 9), none, (.mv (.tmp 34))⟩])
      (.seq
       (.ops [
         ⟨(some 35), none, (.mv (.tmp 7))⟩,
         ⟨(some 36), none, (.bin .add (.tmp 35) (.const (.int .i64 2)))⟩,
         ⟨(some 37), none, (.bsl 36 4 0 [] [])⟩,
         ⟨(some 38), none, (.mv (.tmp 8))⟩,
         ⟨(some 39), none, (.app 36 4 32 (.tmp 37) (.tmp 38))⟩,
         ⟨(some 40), none, (.mv (.tmp 9))⟩,
         ⟨(some 41), none, (.app 36 4 32 (.tmp 39) (.tmp 40))⟩,
         ⟨(some 42), none, (.bld [(.int .i64 0), (.int .i64 0), (.int .i64 0), (.bool false), (.slice none 0 0)] [(4, (1, (.tmp 41)))])⟩,
         ⟨(some 43), none, (.bsl 39 5 1 [(.int .i64 0), (.int .i64 0), (.int .i64 0), (.bool false), (.slice none 0 0)] [(0, (5, (.tmp 42)))])⟩,
         ⟨(some 44), none, (.bld [(.int .i64 0), (.slice none 0 0)] [(0, (1, (.tmp 36))), (1, (1, (.tmp 43)))])⟩,
         ⟨(some 10), none, (.alc 24 [(.int .i64 0), (.slice none 0 0)])⟩,
         ⟨none, none, (.sto true 2 (.tmp 10) (.tmp 44))⟩])
       (.seq
        (.ops [
          ⟨(some 45), none, (.ld true 2 (.tmp 10))⟩,
          ⟨(some 46), none, (.call (.func 12) [(.tmp 45), (.const (.string ⟨#[]⟩)), (.const (.int .i64 100))])⟩,
          ⟨(some 11), none, (.alc 29 [(.int .i64 0), (.string ⟨#[]⟩), (.int .i64 0)])⟩,
          ⟨none, none, (.sto true 3 (.tmp 11) (.tmp 46))⟩])
        (.seq
         (.ops [
           ⟨(some 47), none, (.mv (.tmp 7))⟩,
           ⟨(some 48), none, (.bin .add (.tmp 47) (.const (.int .i64 2)))⟩,
           ⟨(some 49), none, (.mv (.tmp 9))⟩,
           ⟨(some 50), none, (.bld [(.int .i64 0), (.int .i64 0), (.int .i64 0), (.bool false), (.slice none 0 0)] [(4, (1, (.tmp 49)))])⟩,
           ⟨(some 51), none, (.bsl 39 5 1 [(.int .i64 0), (.int .i64 0), (.int .i64 0), (.bool false), (.slice none 0 0)] [(0, (5, (.tmp 50)))])⟩,
           ⟨(some 52), none, (.bld [(.int .i64 0), (.slice none 0 0)] [(0, (1, (.tmp 48))), (1, (1, (.tmp 51)))])⟩,
           ⟨(some 12), none, (.alc 24 [(.int .i64 0), (.slice none 0 0)])⟩,
           ⟨none, none, (.sto true 2 (.tmp 12) (.tmp 52))⟩])
         (.seq
          (.ops [
            ⟨(some 53), none, (.ld true 2 (.tmp 12))⟩,
            ⟨(some 54), none, (.call (.func 12) [(.tmp 53), (.const (.string ⟨#[]⟩)), (.const (.int .i64 100))])⟩,
            ⟨(some 13), none, (.alc 29 [(.int .i64 0), (.string ⟨#[]⟩), (.int .i64 0)])⟩,
            ⟨none, none, (.sto true 3 (.tmp 13) (.tmp 54))⟩])
          (.seq
           (.seq
            (.ops [
              ⟨(some 55), none, (.mv (.tmp 1))⟩,
              ⟨(some 56), none, (.mv (.tmp 7))⟩,
              ⟨(some 57), none, (.conv .u32 (.tmp 56))⟩,
              ⟨(some 58), none, (.bin .geq (.tmp 55) (.tmp 57))⟩])
            (.cond (.tmp 58)
             (.seq
              (.ops [
                ⟨(some 59), none, (.ld true 3 (.tmp 11))⟩,
                ⟨(some 60), none, (.bld [(.int .i64 0), (.string ⟨#[]⟩), (.int .i64 0)] [(0, (1, (.const (.int .i64 3)))), (2, (1, (.const (.int .i64 3))))])⟩,
                ⟨(some 61), none, (.pur (.eqv false [.int, .str, .int]) [(.tmp 59), (.tmp 60)])⟩,
                ⟨(some 62), none, (.mv (.tmp 61))⟩,
                ⟨(some 63), (some (62, true)), (.ld true 3 (.tmp 13))⟩,
                ⟨(some 64), (some (62, true)), (.bld [(.int .i64 0), (.string ⟨#[]⟩), (.int .i64 0)] [(0, (1, (.const (.int .i64 3)))), (2, (1, (.const (.int .i64 2))))])⟩,
                ⟨(some 65), (some (62, true)), (.pur (.eqv false [.int, .str, .int]) [(.tmp 63), (.tmp 64)])⟩,
                ⟨(some 66), none, (.pick (.tmp 62) (.tmp 65) (.const (.bool false)))⟩,
                ⟨(some 6), none, (.mv (.tmp 66))⟩])
              .ret)
             .skip))
           (.seq
            (.ops [
              ⟨(some 67), none, (.ld true 3 (.tmp 11))⟩,
              ⟨(some 68), none, (.mv (.tmp 2))⟩,
              ⟨(some 69), none, (.bsl 5 1 1 [(.int .u8 0)] [(0, (1, (.tmp 68)))])⟩,
              ⟨(some 70), none, (.see .b2s [(.tmp 69)])⟩,
              ⟨(some 71), none, (.bld [(.int .i64 0), (.string ⟨#[]⟩), (.int .i64 0)] [(0, (1, (.const (.int .i64 1)))), (1, (1, (.tmp 70))), (2, (1, (.const (.int .i64 7))))])⟩,
              ⟨(some 72), none, (.pur (.eqv false [.int, .str, .int]) [(.tmp 67), (.tmp 71)])⟩,
              ⟨(some 73), none, (.mv (.tmp 72))⟩,
              ⟨(some 74), (some (73, true)), (.ld true 3 (.tmp 13))⟩,
              ⟨(some 75), (some (73, true)), (.bld [(.int .i64 0), (.string ⟨#[]⟩), (.int .i64 0)] [(0, (1, (.const (.int .i64 1)))), (1, (1, (.const (.string ⟨#[0]⟩)))), (2, (1, (.const (.int .i64 4))))])⟩,
              ⟨(some 76), (some (73, true)), (.pur (.eqv false [.int, .str, .int]) [(.tmp 74), (.tmp 75)])⟩,
              ⟨(some 77), none, (.pick (.tmp 73) (.tmp 76) (.const (.bool false)))⟩,
              ⟨(some 6), none, (.mv (.tmp 77))⟩])
            .ret)))))))))))
theorem f_sclaw20_StackPlaces : compF Try.prog 6 = some (78, c_sclaw20_StackPlaces, [(.tmp 6)]) := by kernel_rfl

/-- seedcorn/seedcornlaw20.StackEcho -/
def c_sclaw20_StackEcho : VC :=
 (.seq
  (.ops [
    ⟨(some 2), none, (.mv (.const (.bool false)))⟩])
  (.seq
   (.seq
    (.ops [
      ⟨(some 5), none, (.call (.func 9) [])⟩,
      ⟨(some 6), none, (.un .not (.tmp 5))⟩])
    (.cond (.tmp 6)
     (.seq
      (.ops [
        ⟨(some 2), none, (.mv (.const (.bool false)))⟩])
      .ret)
     .skip))
   (.seq
    (.seq
     (.ops [
       ⟨(some 7), none, (.mv (.tmp 0))⟩,
       ⟨(some 8), none, (.lens (.tmp 7))⟩,
       ⟨(some 9), none, (.bin .gtr (.tmp 8) (.const (.int .i64 100)))⟩])
     (.cond (.tmp 9)
      (.seq
       (.ops [
         ⟨(some 2), none, (.mv (.const (.bool true)))⟩])
       .ret)
      .skip))
    (.seq
     (.ops [
       ⟨(some 10), none, (.bld [(.int .i64 0), (.int .i64 0), (.int .i64 0), (.int .u32 0)] [(0, (1, (.const (.int .i64 12))))])⟩,
       ⟨(some 11), none, (.bld [(.int .i64 0), (.int .i64 0), (.int .i64 0), (.int .u32 0)] [(0, (1, (.const (.int .i64 3))))])⟩,
       ⟨(some 12), none, (.bld [(.int .i64 0), (.int .i64 0), (.int .i64 0), (.int .u32 0)] [(0, (1, (.const (.int .i64 2))))])⟩,
       ⟨(some 13), none, (.bld [(.int .i64 0), (.int .i64 0), (.int .i64 0), (.int .u32 0)] [(0, (1, (.const (.int .i64 1)))), (3, (1, (.const (.int .u32 256))))])⟩,
       ⟨(some 14), none, (.bld [(.int .i64 0), (.int .i64 0), (.int .i64 0), (.int .u32 0)] [(0, (1, (.const (.int .i64 6)))), (1, (1, (.const (.int .i64 14))))])⟩,
       ⟨(some 15), none, (.bld [(.int .i64 0), (.int .i64 0), (.int .i64 0), (.int .u32 0)] [(0, (1, (.const (.int .i64 9)))), (1, (1, (.const (.int .i64 9))))])⟩,
       ⟨(some 16), none, (.bld [(.int .i64 0), (.int .i64 0), (.int .i64 0), (.int .u32 0)] [(0, (1, (.const (.int .i64 2))))])⟩,
       ⟨(some 17), none, (.bld [(.int .i64 0), (.int .i64 0), (.int .i64 0), (.int .u32 0)] [(0, (1, (.const (.int .i64 13))))])⟩,
       ⟨(some 18), none, (.bld [(.int .i64 0), (.int .i64 0), (.int .i64 0), (.int .u32 0)] [(0, (1, (.const (.int .i64 8))))])⟩,
       ⟨(some 19), none, (.bld [(.int .i64 0), (.int .i64 0), (.int .i64 0), (.int .u32 0)] [(0, (1, (.const (.int .i64 11))))])⟩,
       ⟨(some 20), none, (.bsl 36 4 10 [(.int .i64 0), (.int .i64 0), (.int .i64 0), (.int .u32 0), (.int .i64 0), (.int .i64 0), (.int .i64 0), (.int .u32 0), (.int .i64 0), (.int .i64 0), (.int .i64 0), (.int .u32 0), (.int .i64 0), (.int .i64 0), (.int .i64 0), (.int .u32 0), (.int .i64 0), (.int .i64 0), (.int .i64 0), (.int .u32 0), (.int .i64 0), (.int .i64 0), (.int .i64 0), (.int .u32 0), (.int .i64 0), (.int .i64 0), (.int .i64 0), (.int .u32 0), (.int .i64 0), (.int .i64 0), (.int .i64 0), (.int .u32 0), (.int .i64 0), (.int .i64 0), (.int .i64 0), (.int .u32 0), (.int .i64 0), (.int .i64 0), (.int .i64 0), (.int .u32 0)] [(0, (4, (.tmp 10))), (4, (4, (.tmp 11))), (8, (4, (.tmp 12))), (12, (4, (.tmp 13))), (16, (4, (.tmp 14))), (20, (4, (.tmp 15))), (24, (4, (.tmp 16))), (28, (4, (.tmp 17))), (32, (4, (.tmp 18))), (36, (4, (.tmp 19)))])⟩,
       ⟨(some 3), none, (.mv (.tmp 20))⟩])
     (.seq
      (.ops [
        ⟨(some 21), none, (.mv (.tmp 3))⟩,
        ⟨(some 22), none, (.bld [(.int .i64 0), (.int .i64 0), (.int .i64 0), (.bool false), (.slice none 0 0)] [(4, (1, (.tmp 21)))])⟩,
        ⟨(some 23), none, (.bsl 39 5 1 [(.int .i64 0), (.int .i64 0), (.int .i64 0), (.bool false), (.slice none 0 0)] [(0, (5, (.tmp 22)))])⟩,
        ⟨(some 24), none, (.bld [(.int .i64 0), (.slice none 0 0)] [(0, (1, (.const (.int .i64 1)))), (1, (1, (.tmp 23)))])⟩,
        ⟨(some 4), none, (.alc 24 [(.int .i64 0), (.slice none 0 0)])⟩,
        ⟨none, none, (.sto true 2 (.tmp 4) (.tmp 24))⟩])
      (.seq
       (.ops [
         ⟨(some 25), none, (.ld true 2 (.tmp 4))⟩,
         ⟨(some 26), none, (.callM true (.func 14) [(.tmp 25)])⟩,
         ⟨(some 27), none, (.mv (.tmp 26))⟩,
         ⟨(some 28), (some (27, true)), (.ld true 2 (.tmp 4))⟩,
         ⟨(some 29), (some (27, true)), (.mv (.tmp 0))⟩,
         ⟨(some 30), (some (27, true)), (.call (.func 12) [(.tmp 28), (.tmp 29), (.const (.int .i64 2000))])⟩,
         ⟨(some 31), (some (27, true)), (.mv (.tmp 0))⟩,
         ⟨(some 32), (some (27, true)), (.mv (.tmp 0))⟩,
         ⟨(some 33), (some (27, true)), (.lens (.tmp 32))⟩,
         ⟨(some 34), (some (27, true)), (.bin .mul (.const (.int .i64 9)) (.tmp 33))⟩,
         ⟨(some 35), (some (27, true)), (.bin .add (.tmp 34) (.const (.int .i64 7)))⟩,
         ⟨(some 36), (some (27, true)), (.bld [(.int .i64 0), (.string ⟨#[]⟩), (.int .i64 0)] [(0, (1, (.const (.int .i64 1)))), (1, (1, (.tmp 31))), (2, (1, (.tmp 35)))])⟩,
         ⟨(some 37), (some (27, true)), (.pur (.eqv false [.int, .str, .int]) [(.tmp 30), (.tmp 36)])⟩,
         ⟨(some 38), none, (.pick (.tmp 27) (.tmp 37) (.const (.bool false)))⟩,
         ⟨(some 2), none, (.mv (.tmp 38))⟩])
       .ret))))))
theorem f_sclaw20_StackEcho : compF Try.prog 7 = some (39, c_sclaw20_StackEcho, [(.tmp 2)]) := by kernel_rfl

/-- seedcorn/seedcornlaw20.StackOps -/
def c_sclaw20_StackOps : VC :=
 (.seq
  (.ops [
    ⟨(some 6), none, (.mv (.const (.bool false)))⟩])
  (.seq
   (.seq
    (.ops [
      ⟨(some 14), none, (.call (.func 9) [])⟩,
      ⟨(some 15), none, (.un .not (.tmp 14))⟩])
    (.cond (.tmp 15)
     (.seq
      (.ops [
        ⟨(some 6), none, (.mv (.const (.bool false)))⟩])
      .ret)
     .skip))
   (.seq
    (.ops [
      ⟨(some 16), none, (.mv (.tmp 0))⟩,
      ⟨(some 17), none, (.conv .i64 (.tmp 16))⟩,
      ⟨(some 18), none, (.bin .rem (.tmp 17) (.const (.int .i64 12)))⟩,
      ⟨(some 19), none, (.bin .add (.const (.int .i64 4)) (.tmp 18))⟩,
      ⟨(some 7), none, (.mv (.tmp 19))⟩])
    (.seq
     (.ops [
       ⟨(some 20), none, (.mv (.tmp 1))⟩,
       ⟨(some 21), none, (.bld [(.int .i64 0), (.int .i64 0), (.int .i64 0), (.int .u32 0)] [(0, (1, (.const (.int .i64 1)))), (3, (1, (.tmp 20)))])⟩,
       ⟨(some 22), none, (.mv (.tmp 2))⟩,
       ⟨(some 23), none, (.bld [(.int .i64 0), (.int .i64 0), (.int .i64 0), (.int .u32 0)] [(0, (1, (.const (.int .i64 1)))), (3, (1, (.tmp 22)))])⟩,
       ⟨(some 24), none, (.mv (.tmp 7))⟩,
       ⟨(some 25), none, (.bld [(.int .i64 0), (.int .i64 0), (.int .i64 0), (.int .u32 0)] [(0, (1, (.const (.int .i64 6)))), (1, (1, (.tmp 24)))])⟩,
       ⟨(some 26), none, (.bld [(.int .i64 0), (.int .i64 0), (.int .i64 0), (.int .u32 0)] [(0, (1, (.const (.int .i64 3))))])⟩,
       ⟨(some 27), none, (.bsl 36 4 4 [(.int .i64 0), (.int .i64 0), (.int .i64 0), (.int .u32 0), (.int .i64 0), (.int .i64 0), (.int .i64 0), (.int .u32 0), (.int .i64 0), (.int .i64 0), (.int .i64 0), (.int .u32 0), (.int .i64 0), (.int .i64 0), (.int .i64 0), (.int .u32 0)] [(0, (4, (.tmp 21))), (4, (4, (.tmp 23))), (8, (4, (.tmp 25))), (12, (4, (.tmp 26)))])⟩,
       ⟨(some 8), none, (.mv (.tmp 27))⟩])
     (.seq
      (.seq
       (.ops [
         ⟨(some 9), none, (.mv (.const (.int .i64 0)))⟩])
       (.block 0
        (.loop
         (.seq
          (.seq
           (.ops [
             ⟨(some 28), none, (.mv (.tmp 9))⟩,
             ⟨(some 29), none, (.bin .lss (.tmp 28) (.const (.int .i64 4)))⟩])
           (.cond (.tmp 29)
            .skip
            (.exit 0)))
          (.seq
           (.block 1
            (.ops [
              ⟨(some 32), none, (.mv (.tmp 8))⟩,
              ⟨(some 33), none, (.bld [(.int .i64 0), (.int .i64 0), (.int .i64 0), (.int .u32 0)] [(0, (1, (.const (.int .i64 2))))])⟩,
              ⟨(some 34), none, (.mv (.tmp 9))⟩,
              ⟨(some 35), none, (.bin .mul (.const (.int .i64 8)) (.tmp 34))⟩,
              ⟨(some 36), none, (.conv .u32 (.tmp 35))⟩,
              ⟨(some 37), none, (.bld [(.int .i64 0), (.int .i64 0), (.int .i64 0), (.int .u32 0)] [(0, (1, (.const (.int .i64 1)))), (3, (1, (.tmp 36)))])⟩,
              ⟨(some 38), none, (.bld [(.int .i64 0), (.int .i64 0), (.int .i64 0), (.int .u32 0)] [(0, (1, (.const (.int .i64 6)))), (1, (1, (.const (.int .i64 13))))])⟩,
              ⟨(some 39), none, (.bld [(.int .i64 0), (.int .i64 0), (.int .i64 0), (.int .u32 0)] [(0, (1, (.const (.int .i64 13))))])⟩,
              ⟨(some 40), none, (.bsl 36 4 4 [(.int .i64 0), (.int .i64 0), (.int .i64 0), (.int .u32 0), (.int .i64 0), (.int .i64 0), (.int .i64 0), (.int .u32 0), (.int .i64 0), (.int .i64 0), (.int .i64 0), (.int .u32 0), (.int .i64 0), (.int .i64 0), (.int .i64 0), (.int .u32 0)] [(0, (4, (.tmp 33))), (4, (4, (.tmp 37))), (8, (4, (.tmp 38))), (12, (4, (.tmp 39)))])⟩,
              ⟨(some 41), none, (.app 36 4 32 (.tmp 32) (.tmp 40))⟩,
              ⟨(some 8), none, (.mv (.tmp 41))⟩]))
           (.ops [
             ⟨(some 30), none, (.mv (.tmp 9))⟩,
             ⟨(some 31), none, (.bin .add (.tmp 30) (.const (.int .i64 1)))⟩,
             ⟨(some 9), none, (.mv (.tmp 31))⟩]))))))
      (.seq
       (.ops [
         ⟨(some 42), none, (.mv (.tmp 8))⟩,
         ⟨(some 43), none, (.bld [(.int .i64 0), (.int .i64 0), (.int .i64 0), (.int .u32 0)] [(0, (1, (.const (.int .i64 11))))])⟩,
         ⟨(some 44), none, (.bsl 36 4 1 [(.int .i64 0), (.int .i64 0), (.int .i64 0), (.int .u32 0)] [(0, (4, (.tmp 43)))])⟩,
         ⟨(some 45), none, (.app 36 4 32 (.tmp 42) (.tmp 44))⟩,
         ⟨(some 8), none, (.mv (.tmp 45))⟩])
       (.seq
        (.ops [
          ⟨(some 46), none, (.mv (.tmp 8))⟩,
          ⟨(some 47), none, (.bld [(.int .i64 0), (.int .i64 0), (.int .i64 0), (.bool false), (.slice none 0 0)] [(4, (1, (.tmp 46)))])⟩,
          ⟨(some 48), none, (.bsl 39 5 1 [(.int .i64 0), (.int .i64 0), (.int .i64 0), (.bool false), (.slice none 0 0)] [(0, (5, (.tmp 47)))])⟩,
          ⟨(some 49), none, (.bld [(.int .i64 0), (.slice none 0 0)] [(0, (1, (.const (.int .i64 1)))), (1, (1, (.tmp 48)))])⟩,
          ⟨(some 10), none, (.alc 24 [(.int .i64 0), (.slice none 0 0)])⟩,
          ⟨none, none, (.sto true 2 (.tmp 10) (.tmp 49))⟩])
        (.seq
         (.ops [
           ⟨(some 50), none, (.ld true 2 (.tmp 10))⟩,
           ⟨(some 51), none, (.call (.func 12) [(.tmp 50), (.const (.string ⟨#[]⟩)), (.const (.int .i64 100))])⟩,
           ⟨(some 11), none, (.alc 29 [(.int .i64 0), (.string ⟨#[]⟩), (.int .i64 0)])⟩,
           ⟨none, none, (.sto true 3 (.tmp 11) (.tmp 51))⟩])
         (.seq
          (.ops [
            ⟨(some 53), none, (.mv (.tmp 7))⟩,
            ⟨(some 54), none, (.mv (.tmp 1))⟩,
            ⟨(some 55), none, (.mv (.tmp 2))⟩,
            ⟨(some 56), none, (.call (.func 15) [(.tmp 53), (.tmp 54), (.tmp 55)])⟩,
            ⟨(some 52), none, (.mv (.tmp 56))⟩,
            ⟨(some 57), none, (.ext (.tmp 52) 0)⟩,
            ⟨(some 58), none, (.ext (.tmp 52) 1)⟩,
            ⟨(some 12), none, (.mv (.tmp 57))⟩,
            ⟨(some 13), none, (.mv (.tmp 58))⟩])
          (.seq
           (.seq
            (.ops [
              ⟨(some 59), none, (.mv (.tmp 13))⟩,
              ⟨(some 60), none, (.bin .neq (.tmp 59) (.const (.int .i64 0)))⟩])
            (.cond (.tmp 60)
             (.seq
              (.ops [
                ⟨(some 61), none, (.ld true 3 (.tmp 11))⟩,
                ⟨(some 62), none, (.bld [(.int .i64 0), (.string ⟨#[]⟩), (.int .i64 0)] [(0, (1, (.const (.int .i64 2)))), (2, (1, (.const (.int .i64 3))))])⟩,
                ⟨(some 63), none, (.pur (.eqv false [.int, .str, .int]) [(.tmp 61), (.tmp 62)])⟩,
                ⟨(some 6), none, (.mv (.tmp 63))⟩])
              .ret)
             .skip))
           (.seq
            (.par false (.one ⟨(some 64), none, (.ld true 2 (.tmp 10))⟩ (.one ⟨(some 65), none, (.callM true (.func 14) [(.tmp 64)])⟩ (.one ⟨(some 66), none, (.mv (.tmp 65))⟩ (.one ⟨(some 68), (some (66, true)), (.mv (.tmp 12))⟩ (.both (.one ⟨(some 67), (some (66, true)), (.ld true 3 (.tmp 11))⟩ (.one ⟨(some 69), (some (66, true)), (.bsl 34 1 1 [(.int .u32 0)] [(0, (1, (.tmp 68)))])⟩ (.one ⟨(some 70), (some (66, true)), (.callM true (.func 16) [(.tmp 69)])⟩ (.one ⟨(some 71), (some (66, true)), (.bld [(.int .i64 0), (.string ⟨#[]⟩), (.int .i64 0)] [(0, (1, (.const (.int .i64 1)))), (1, (1, (.tmp 70))), (2, (1, (.const (.int .i64 21))))])⟩ (.one ⟨(some 72), (some (66, true)), (.pur (.eqv false [.int, .str, .int]) [(.tmp 67), (.tmp 71)])⟩ (.one ⟨(some 73), none, (.pick (.tmp 66) (.tmp 72) (.const (.bool false)))⟩ (.one ⟨(some 6), none, (.mv (.tmp 73))⟩ .done))))))) (.one ⟨(some 69), (some (66, true)), (.bsl 34 1 1 [(.int .u32 0)] [(0, (1, (.tmp 68)))])⟩ (.both (.one ⟨(some 67), (some (66, true)), (.ld true 3 (.tmp 11))⟩ (.one ⟨(some 70), (some (66, true)), (.callM true (.func 16) [(.tmp 69)])⟩ (.one ⟨(some 71), (some (66, true)), (.bld [(.int .i64 0), (.string ⟨#[]⟩), (.int .i64 0)] [(0, (1, (.const (.int .i64 1)))), (1, (1, (.tmp 70))), (2, (1, (.const (.int .i64 21))))])⟩ (.one ⟨(some 72), (some (66, true)), (.pur (.eqv false [.int, .str, .int]) [(.tmp 67), (.tmp 71)])⟩ (.one ⟨(some 73), none, (.pick (.tmp 66) (.tmp 72) (.const (.bool false)))⟩ (.one ⟨(some 6), none, (.mv (.tmp 73))⟩ .done)))))) (.one ⟨(some 70), (some (66, true)), (.callM true (.func 16) [(.tmp 69)])⟩ (.one ⟨(some 67), (some (66, true)), (.ld true 3 (.tmp 11))⟩ (.one ⟨(some 71), (some (66, true)), (.bld [(.int .i64 0), (.string ⟨#[]⟩), (.int .i64 0)] [(0, (1, (.const (.int .i64 1)))), (1, (1, (.tmp 70))), (2, (1, (.const (.int .i64 21))))])⟩ (.one ⟨(some 72), (some (66, true)), (.pur (.eqv false [.int, .str, .int]) [(.tmp 67), (.tmp 71)])⟩ (.one ⟨(some 73), none, (.pick (.tmp 66) (.tmp 72) (.const (.bool false)))⟩ (.one ⟨(some 6), none, (.mv (.tmp 73))⟩ .done))))))))))))))
            .ret)))))))))))
theorem f_sclaw20_StackOps : compF Try.prog 8 = some (74, c_sclaw20_StackOps, [(.tmp 6)]) := by kernel_rfl

/-- seedcorn/seedcornlaw20.awake -/
def c_sclaw20_awake : VC :=
 (.seq
  (.ops [
    ⟨(some 0), none, (.mv (.const (.bool false)))⟩])
  (.seq
   (.ops [
     ⟨(some 8), none, (.bld [(.int .i64 0), (.int .i64 0), (.int .i64 0), (.int .u32 0)] [(0, (1, (.const (.int .i64 1)))), (3, (1, (.const (.int .u32 65))))])⟩,
     ⟨(some 9), none, (.bld [(.int .i64 0), (.int .i64 0), (.int .i64 0), (.int .u32 0)] [(0, (1, (.const (.int .i64 13))))])⟩,
     ⟨(some 10), none, (.bld [(.int .i64 0), (.int .i64 0), (.int .i64 0), (.int .u32 0)] [(0, (1, (.const (.int .i64 11))))])⟩,
     ⟨(some 11), none, (.bsl 36 4 3 [(.int .i64 0), (.int .i64 0), (.int .i64 0), (.int .u32 0), (.int .i64 0), (.int .i64 0), (.int .i64 0), (.int .u32 0), (.int .i64 0), (.int .i64 0), (.int .i64 0), (.int .u32 0)] [(0, (4, (.tmp 8))), (4, (4, (.tmp 9))), (8, (4, (.tmp 10)))])⟩,
     ⟨(some 12), none, (.call (.func 17) [(.tmp 11)])⟩,
     ⟨(some 1), none, (.alc 24 [(.int .i64 0), (.slice none 0 0)])⟩,
     ⟨none, none, (.sto true 2 (.tmp 1) (.tmp 12))⟩])
   (.seq
    (.ops [
      ⟨(some 13), none, (.ld true 2 (.tmp 1))⟩,
      ⟨(some 14), none, (.call (.func 12) [(.tmp 13), (.const (.string ⟨#[]⟩)), (.const (.int .i64 10))])⟩,
      ⟨(some 2), none, (.alc 29 [(.int .i64 0), (.string ⟨#[]⟩), (.int .i64 0)])⟩,
      ⟨none, none, (.sto true 3 (.tmp 2) (.tmp 14))⟩])
    (.seq
     (.ops [
       ⟨(some 15), none, (.ld true 2 (.tmp 1))⟩,
       ⟨(some 16), none, (.call (.func 12) [(.tmp 15), (.const (.string ⟨#[]⟩)), (.const (.int .i64 2))])⟩,
       ⟨(some 3), none, (.alc 29 [(.int .i64 0), (.string ⟨#[]⟩), (.int .i64 0)])⟩,
       ⟨none, none, (.sto true 3 (.tmp 3) (.tmp 16))⟩])
     (.seq
      (.ops [
        ⟨(some 18), none, (.ld true 2 (.tmp 1))⟩,
        ⟨(some 19), none, (.call (.func 18) [(.tmp 18), (.const (.int .i64 0))])⟩,
        ⟨(some 17), none, (.mv (.tmp 19))⟩,
        ⟨(some 20), none, (.ext (.tmp 17) 0)⟩,
        ⟨(some 21), none, (.ext (.tmp 17) 1)⟩,
        ⟨(some 4), none, (.mv (.tmp 20))⟩,
        ⟨(some 5), none, (.mv (.tmp 21))⟩])
      (.seq
       (.ops [
         ⟨(some 23), none, (.bld [(.int .i64 0), (.int .i64 0), (.int .i64 0), (.int .u32 0)] [(0, (1, (.const (.int .i64 13))))])⟩,
         ⟨(some 24), none, (.bld [(.int .i64 0), (.int .i64 0), (.int .i64 0), (.int .u32 0)] [(0, (1, (.const (.int .i64 11))))])⟩,
         ⟨(some 25), none, (.bsl 36 4 2 [(.int .i64 0), (.int .i64 0), (.int .i64 0), (.int .u32 0), (.int .i64 0), (.int .i64 0), (.int .i64 0), (.int .u32 0)] [(0, (4, (.tmp 23))), (4, (4, (.tmp 24)))])⟩,
         ⟨(some 26), none, (.call (.func 17) [(.tmp 25)])⟩,
         ⟨(some 27), none, (.call (.func 18) [(.tmp 26), (.const (.int .i64 0))])⟩,
         ⟨(some 22), none, (.mv (.tmp 27))⟩,
         ⟨(some 28), none, (.ext (.tmp 22) 0)⟩,
         ⟨(some 29), none, (.ext (.tmp 22) 1)⟩,
         ⟨(some 6), none, (.mv (.tmp 28))⟩,
         ⟨(some 7), none, (.mv (.tmp 29))⟩])
       (.seq
        (.ops [
          ⟨(some 30), none, (.ld true 3 (.tmp 2))⟩,
          ⟨(some 31), none, (.bld [(.int .i64 0), (.string ⟨#[]⟩), (.int .i64 0)] [(0, (1, (.const (.int .i64 1)))), (1, (1, (.const (.string ⟨#[65]⟩)))), (2, (1, (.const (.int .i64 3))))])⟩,
          ⟨(some 32), none, (.pur (.eqv false [.int, .str, .int]) [(.tmp 30), (.tmp 31)])⟩,
          ⟨(some 33), none, (.mv (.tmp 32))⟩,
          ⟨(some 34), (some (33, true)), (.ld true 3 (.tmp 3))⟩,
          ⟨(some 35), (some (33, true)), (.bld [(.int .i64 0), (.string ⟨#[]⟩), (.int .i64 0)] [(0, (1, (.const (.int .i64 5)))), (1, (1, (.const (.string ⟨#[65]⟩)))), (2, (1, (.const (.int .i64 2))))])⟩,
          ⟨(some 36), (some (33, true)), (.pur (.eqv false [.int, .str, .int]) [(.tmp 34), (.tmp 35)])⟩,
          ⟨(some 37), none, (.pick (.tmp 33) (.tmp 36) (.const (.bool false)))⟩,
          ⟨(some 38), none, (.mv (.tmp 37))⟩,
          ⟨(some 39), (some (38, true)), (.mv (.tmp 5))⟩,
          ⟨(some 40), none, (.pick (.tmp 38) (.tmp 39) (.const (.bool false)))⟩,
          ⟨(some 41), none, (.mv (.tmp 40))⟩,
          ⟨(some 42), (some (41, true)), (.mv (.tmp 7))⟩,
          ⟨(some 43), (some (41, true)), (.un .not (.tmp 42))⟩,
          ⟨(some 44), none, (.pick (.tmp 41) (.tmp 43) (.const (.bool false)))⟩,
          ⟨(some 45), none, (.mv (.tmp 44))⟩,
          ⟨(some 46), (some (45, true)), (.mv (.tmp 4))⟩,
          ⟨(some 47), (some (45, true)), (.len (.tmp 46))⟩,
          ⟨(some 48), (some (45, true)), (.bin .eql (.tmp 47) (.const (.int .i64 3)))⟩,
          ⟨(some 49), none, (.pick (.tmp 45) (.tmp 48) (.const (.bool false)))⟩,
          ⟨(some 50), none, (.mv (.tmp 49))⟩,
          ⟨(some 51), (some (50, true)), (.mv (.tmp 4))⟩,
          ⟨(some 52), (some (50, true)), (.idx 1 (.tmp 51) (.const (.int .i64 0)))⟩,
          ⟨(some 53), (some (50, true)), (.ld false 1 (.tmp 52))⟩,
          ⟨(some 54), (some (50, true)), (.bin .eql (.tmp 53) (.const (.int .i64 0)))⟩,
          ⟨(some 55), none, (.pick (.tmp 50) (.tmp 54) (.const (.bool false)))⟩,
          ⟨(some 56), none, (.mv (.tmp 55))⟩,
          ⟨(some 57), (some (56, true)), (.mv (.tmp 4))⟩,
          ⟨(some 58), (some (56, true)), (.idx 1 (.tmp 57) (.const (.int .i64 1)))⟩,
          ⟨(some 59), (some (56, true)), (.ld false 1 (.tmp 58))⟩,
          ⟨(some 60), (some (56, true)), (.bin .eql (.tmp 59) (.const (.int .i64 1)))⟩,
          ⟨(some 61), none, (.pick (.tmp 56) (.tmp 60) (.const (.bool false)))⟩,
          ⟨(some 62), none, (.mv (.tmp 61))⟩,
          ⟨(some 63), (some (62, true)), (.mv (.tmp 4))⟩,
          ⟨(some 64), (some (62, true)), (.idx 1 (.tmp 63) (.const (.int .i64 2)))⟩,
          ⟨(some 65), (some (62, true)), (.ld false 1 (.tmp 64))⟩,
          ⟨(some 66), (some (62, true)), (.bin .eql (.tmp 65) (.const (.int .i64 0)))⟩,
          ⟨(some 67), none, (.pick (.tmp 62) (.tmp 66) (.const (.bool false)))⟩,
          ⟨(some 68), none, (.mv (.tmp 67))⟩,
          ⟨(some 69), (some (68, true)), (.ld true 2 (.tmp 1))⟩,
          ⟨(some 70), (some (68, true)), (.callM true (.func 14) [(.tmp 69)])⟩,
          ⟨(some 71), none, (.pick (.tmp 68) (.tmp 70) (.const (.bool false)))⟩,
          ⟨(some 72), none, (.mv (.tmp 71))⟩,
          ⟨(some 73), (some (72, true)), (.bld [(.int .i64 0), (.slice none 0 0)] [])⟩,
          ⟨(some 74), (some (72, true)), (.callM true (.func 14) [(.tmp 73)])⟩,
          ⟨(some 75), (some (72, true)), (.un .not (.tmp 74))⟩,
          ⟨(some 76), none, (.pick (.tmp 72) (.tmp 75) (.const (.bool false)))⟩,
          ⟨(some 77), none, (.mv (.tmp 76))⟩,
          ⟨(some 78), (some (77, true)), (.ld true 2 (.tmp 1))⟩,
          ⟨(some 79), (some (77, true)), (.call (.func 19) [(.tmp 78)])⟩,
          ⟨(some 80), (some (77, true)), (.bin .eql (.tmp 79) (.const (.int .i64 3)))⟩,
          ⟨(some 81), none, (.pick (.tmp 77) (.tmp 80) (.const (.bool false)))⟩,
          ⟨(some 0), none, (.mv (.tmp 81))⟩])
        .ret)))))))
theorem f_sclaw20_awake : compF Try.prog 9 = some (82, c_sclaw20_awake, [(.tmp 0)]) := by kernel_rfl

/-- seedcorn/seedcornref20.Few -/
def c_scref20_Few : VC :=
 (.seq
  (.ops [
    ⟨(some 2), none, (.box 24 (.tmp 0))⟩,
    ⟨(some 4), none, (.mv (.const (.bool false)))⟩])
  (.seq
   (.ops [
     ⟨(some 5), none, (.fad 1 false 1 (.tmp 2))⟩,
     ⟨(some 6), none, (.ld false 1 (.tmp 5))⟩,
     ⟨(some 7), none, (.len (.tmp 6))⟩,
     ⟨(some 8), none, (.bin .leq (.tmp 7) (.const (.int .i64 70)))⟩,
     ⟨(some 9), none, (.mv (.tmp 8))⟩,
     ⟨(some 10), (some (9, true)), (.ld true 2 (.tmp 2))⟩,
     ⟨(some 11), (some (9, true)), (.call (.func 20) [(.tmp 10)])⟩,
     ⟨(some 12), (some (9, true)), (.mv (.tmp 1))⟩,
     ⟨(some 13), (some (9, true)), (.bin .leq (.tmp 11) (.tmp 12))⟩,
     ⟨(some 14), none, (.pick (.tmp 9) (.tmp 13) (.const (.bool false)))⟩,
     ⟨(some 4), none, (.mv (.tmp 14))⟩])
   .ret))
theorem f_scref20_Few : compF Try.prog 10 = some (15, c_scref20_Few, [(.tmp 4)]) := by kernel_rfl

/-- seedcorn/seedcornref20.Right -/
def c_scref20_Right : VC :=
 (.seq
  (.ops [
    ⟨(some 1), none, (.box 24 (.tmp 0))⟩,
    ⟨(some 2), none, (.mv (.const (.bool false)))⟩])
  (.seq
   (.seq
    (.ops [
      ⟨(some 9), none, (.fad 0 false 1 (.tmp 1))⟩,
      ⟨(some 10), none, (.ld false 1 (.tmp 9))⟩,
      ⟨(some 11), none, (.bin .lss (.tmp 10) (.const (.int .i64 0)))⟩,
      ⟨(some 12), none, (.mv (.tmp 11))⟩,
      ⟨(some 13), (some (12, false)), (.fad 0 false 1 (.tmp 1))⟩,
      ⟨(some 14), (some (12, false)), (.ld false 1 (.tmp 13))⟩,
      ⟨(some 15), (some (12, false)), (.bin .gtr (.tmp 14) (.const (.int .i64 32768)))⟩,
      ⟨(some 16), none, (.pick (.tmp 12) (.const (.bool true)) (.tmp 15))⟩,
      ⟨(some 17), none, (.mv (.tmp 16))⟩,
      ⟨(some 18), (some (17, false)), (.fad 1 false 1 (.tmp 1))⟩,
      ⟨(some 19), (some (17, false)), (.ld false 1 (.tmp 18))⟩,
      ⟨(some 20), (some (17, false)), (.len (.tmp 19))⟩,
      ⟨(some 21), (some (17, false)), (.bin .lss (.tmp 20) (.const (.int .i64 1)))⟩,
      ⟨(some 22), none, (.pick (.tmp 17) (.const (.bool true)) (.tmp 21))⟩,
      ⟨(some 23), none, (.mv (.tmp 22))⟩,
      ⟨(some 24), (some (23, false)), (.fad 1 false 1 (.tmp 1))⟩,
      ⟨(some 25), (some (23, false)), (.ld false 1 (.tmp 24))⟩,
      ⟨(some 26), (some (23, false)), (.len (.tmp 25))⟩,
      ⟨(some 27), (some (23, false)), (.bin .gtr (.tmp 26) (.const (.int .i64 64)))⟩,
      ⟨(some 28), none, (.pick (.tmp 23) (.const (.bool true)) (.tmp 27))⟩])
    (.cond (.tmp 28)
     (.seq
      (.ops [
        ⟨(some 2), none, (.mv (.const (.bool false)))⟩])
      .ret)
     .skip))
   (.seq
    (.seq
     (.ops [
       ⟨(some 3), none, (.mv (.const (.int .i64 0)))⟩])
     (.block 0
      (.loop
       (.seq
        (.seq
         (.ops [
           ⟨(some 29), none, (.mv (.tmp 3))⟩,
           ⟨(some 30), none, (.fad 1 false 1 (.tmp 1))⟩,
           ⟨(some 31), none, (.ld false 1 (.tmp 30))⟩,
           ⟨(some 32), none, (.len (.tmp 31))⟩,
           ⟨(some 33), none, (.bin .lss (.tmp 29) (.tmp 32))⟩])
         (.cond (.tmp 33)
          .skip
          (.exit 0)))
        (.seq
         (.block 1
          (.seq
           (.ops [
             ⟨(some 36), none, (.fad 1 false 1 (.tmp 1))⟩,
             ⟨(some 37), none, (.ld false 1 (.tmp 36))⟩,
             ⟨(some 38), none, (.mv (.tmp 3))⟩,
             ⟨(some 39), none, (.idx 5 (.tmp 37) (.tmp 38))⟩,
             ⟨(some 40), none, (.ld true 5 (.tmp 39))⟩,
             ⟨(some 4), none, (.alc 39 [(.int .i64 0), (.int .i64 0), (.int .i64 0), (.bool false), (.slice none 0 0)])⟩,
             ⟨none, none, (.sto true 5 (.tmp 4) (.tmp 40))⟩])
           (.seq
            (.seq
             (.ops [
               ⟨(some 41), none, (.fad 0 false 1 (.tmp 4))⟩,
               ⟨(some 42), none, (.ld false 1 (.tmp 41))⟩,
               ⟨(some 43), none, (.bin .lss (.tmp 42) (.const (.int .i64 0)))⟩,
               ⟨(some 44), none, (.mv (.tmp 43))⟩,
               ⟨(some 45), (some (44, false)), (.fad 0 false 1 (.tmp 4))⟩,
               ⟨(some 46), (some (44, false)), (.ld false 1 (.tmp 45))⟩,
               ⟨(some 47), (some (44, false)), (.fad 1 false 1 (.tmp 4))⟩,
               ⟨(some 48), (some (44, false)), (.ld false 1 (.tmp 47))⟩,
               ⟨(some 49), (some (44, false)), (.bin .gtr (.tmp 46) (.tmp 48))⟩,
               ⟨(some 50), none, (.pick (.tmp 44) (.const (.bool true)) (.tmp 49))⟩,
               ⟨(some 51), none, (.mv (.tmp 50))⟩,
               ⟨(some 52), (some (51, false)), (.fad 2 false 1 (.tmp 4))⟩,
               ⟨(some 53), (some (51, false)), (.ld false 1 (.tmp 52))⟩,
               ⟨(some 54), (some (51, false)), (.bin .lss (.tmp 53) (.const (.int .i64 0)))⟩,
               ⟨(some 55), none, (.pick (.tmp 51) (.const (.bool true)) (.tmp 54))⟩,
               ⟨(some 56), none, (.mv (.tmp 55))⟩,
               ⟨(some 57), (some (56, false)), (.fad 1 false 1 (.tmp 4))⟩,
               ⟨(some 58), (some (56, false)), (.ld false 1 (.tmp 57))⟩,
               ⟨(some 59), (some (56, false)), (.fad 0 false 1 (.tmp 1))⟩,
               ⟨(some 60), (some (56, false)), (.ld false 1 (.tmp 59))⟩,
               ⟨(some 61), (some (56, false)), (.bin .gtr (.tmp 58) (.tmp 60))⟩,
               ⟨(some 62), none, (.pick (.tmp 56) (.const (.bool true)) (.tmp 61))⟩,
               ⟨(some 63), none, (.mv (.tmp 62))⟩,
               ⟨(some 64), (some (63, false)), (.fad 2 false 1 (.tmp 4))⟩,
               ⟨(some 65), (some (63, false)), (.ld false 1 (.tmp 64))⟩,
               ⟨(some 66), (some (63, false)), (.fad 0 false 1 (.tmp 1))⟩,
               ⟨(some 67), (some (63, false)), (.ld false 1 (.tmp 66))⟩,
               ⟨(some 68), (some (63, false)), (.fad 1 false 1 (.tmp 4))⟩,
               ⟨(some 69), (some (63, false)), (.ld false 1 (.tmp 68))⟩,
               ⟨(some 70), (some (63, false)), (.bin .sub (.tmp 67) (.tmp 69))⟩,
               ⟨(some 71), (some (63, false)), (.bin .gtr (.tmp 65) (.tmp 70))⟩,
               ⟨(some 72), none, (.pick (.tmp 63) (.const (.bool true)) (.tmp 71))⟩])
             (.cond (.tmp 72)
              (.seq
               (.ops [
                 ⟨(some 2), none, (.mv (.const (.bool false)))⟩])
               .ret)
              .skip))
            (.seq
             (.seq
              (.ops [
                ⟨(some 5), none, (.mv (.const (.int .i64 0)))⟩])
              (.block 2
               (.loop
                (.seq
                 (.seq
                  (.ops [
                    ⟨(some 73), none, (.mv (.tmp 5))⟩,
                    ⟨(some 74), none, (.fad 4 false 1 (.tmp 4))⟩,
                    ⟨(some 75), none, (.ld false 1 (.tmp 74))⟩,
                    ⟨(some 76), none, (.len (.tmp 75))⟩,
                    ⟨(some 77), none, (.bin .lss (.tmp 73) (.tmp 76))⟩])
                  (.cond (.tmp 77)
                   .skip
                   (.exit 2)))
                 (.seq
                  (.block 3
                   (.seq
                    (.ops [
                      ⟨(some 80), none, (.ld true 2 (.tmp 1))⟩,
                      ⟨(some 81), none, (.mv (.tmp 3))⟩,
                      ⟨(some 82), none, (.fad 4 false 1 (.tmp 4))⟩,
                      ⟨(some 83), none, (.ld false 1 (.tmp 82))⟩,
                      ⟨(some 84), none, (.mv (.tmp 5))⟩,
                      ⟨(some 85), none, (.idx 4 (.tmp 83) (.tmp 84))⟩,
                      ⟨(some 86), none, (.ld true 4 (.tmp 85))⟩,
                      ⟨(some 87), none, (.call (.func 21) [(.tmp 80), (.tmp 81), (.tmp 86)])⟩,
                      ⟨(some 88), none, (.un .not (.tmp 87))⟩])
                    (.cond (.tmp 88)
                     (.seq
                      (.ops [
                        ⟨(some 2), none, (.mv (.const (.bool false)))⟩])
                      .ret)
                     .skip)))
                  (.ops [
                    ⟨(some 78), none, (.mv (.tmp 5))⟩,
                    ⟨(some 79), none, (.bin .add (.tmp 78) (.const (.int .i64 1)))⟩,
                    ⟨(some 5), none, (.mv (.tmp 79))⟩]))))))
             (.seq
              (.ops [
                ⟨(some 90), none, (.ld true 2 (.tmp 1))⟩,
                ⟨(some 91), none, (.mv (.tmp 3))⟩,
                ⟨(some 92), none, (.call (.func 22) [(.tmp 90), (.tmp 91)])⟩,
                ⟨(some 89), none, (.mv (.tmp 92))⟩,
                ⟨(some 93), none, (.ext (.tmp 89) 0)⟩,
                ⟨(some 94), none, (.ext (.tmp 89) 1)⟩,
                ⟨(some 6), none, (.mv (.tmp 93))⟩,
                ⟨(some 7), none, (.mv (.tmp 94))⟩])
              (.seq
               (.ops [
                 ⟨(some 95), none, (.mv (.tmp 7))⟩,
                 ⟨(some 96), none, (.un .not (.tmp 95))⟩])
               (.cond (.tmp 96)
                (.seq
                 (.ops [
                   ⟨(some 2), none, (.mv (.const (.bool false)))⟩])
                 .ret)
                .skip)))))))
         (.ops [
           ⟨(some 34), none, (.mv (.tmp 3))⟩,
           ⟨(some 35), none, (.bin .add (.tmp 34) (.const (.int .i64 1)))⟩,
           ⟨(some 3), none, (.mv (.tmp 35))⟩]))))))
    (.seq
     (.ops [
       ⟨(some 97), none, (.fad 1 false 1 (.tmp 1))⟩,
       ⟨(some 98), none, (.ld false 1 (.tmp 97))⟩,
       ⟨(some 99), none, (.fad 1 false 1 (.tmp 1))⟩,
       ⟨(some 100), none, (.ld false 1 (.tmp 99))⟩,
       ⟨(some 101), none, (.len (.tmp 100))⟩,
       ⟨(some 102), none, (.bin .sub (.tmp 101) (.const (.int .i64 1)))⟩,
       ⟨(some 103), none, (.idx 5 (.tmp 98) (.tmp 102))⟩,
       ⟨(some 104), none, (.ld true 5 (.tmp 103))⟩,
       ⟨(some 8), none, (.alc 39 [(.int .i64 0), (.int .i64 0), (.int .i64 0), (.bool false), (.slice none 0 0)])⟩,
       ⟨none, none, (.sto true 5 (.tmp 8) (.tmp 104))⟩])
     (.seq
      (.ops [
        ⟨(some 105), none, (.fad 0 false 1 (.tmp 8))⟩,
        ⟨(some 106), none, (.ld false 1 (.tmp 105))⟩,
        ⟨(some 107), none, (.bin .eql (.tmp 106) (.const (.int .i64 0)))⟩,
        ⟨(some 108), none, (.mv (.tmp 107))⟩,
        ⟨(some 109), (some (108, true)), (.fad 3 false 1 (.tmp 8))⟩,
        ⟨(some 110), (some (108, true)), (.ld false 1 (.tmp 109))⟩,
        ⟨(some 111), (some (108, true)), (.un .not (.tmp 110))⟩,
        ⟨(some 112), none, (.pick (.tmp 108) (.tmp 111) (.const (.bool false)))⟩,
        ⟨(some 2), none, (.mv (.tmp 112))⟩])
      .ret)))))
theorem f_scref20_Right : compF Try.prog 11 = some (113, c_scref20_Right, [(.tmp 2)]) := by kernel_rfl

/-- seedcorn/stack.Run -/
def c_stack_Run : VC :=
 (.seq
  (.ops [
    ⟨(some 3), none, (.box 24 (.tmp 0))⟩,
    ⟨(some 6), none, (.alc 29 [(.int .i64 0), (.string ⟨#[]⟩), (.int .i64 0)])⟩])
  (.seq
   (.par false (.one ⟨(some 12), none, (.ld true 2 (.tmp 3))⟩ (.one ⟨(some 13), none, (.fad 0 false 1 (.tmp 3))⟩ (.one ⟨(some 14), none, (.ld false 1 (.tmp 13))⟩ (.one ⟨(some 16), none, (.mv (.tmp 1))⟩ (.one ⟨(some 15), none, (.mk 34 1 4 [(.int .u32 0)] (.tmp 14) (.tmp 14))⟩ (.one ⟨(some 17), none, (.bld [(.int .i64 0), (.slice none 0 0), (.slice none 0 0), (.slice none 0 0), (.slice none 0 0), (.string ⟨#[]⟩), (.int .i64 0), (.slice none 0 0)] [(0, (2, (.tmp 12))), (2, (1, (.tmp 15))), (5, (1, (.tmp 16)))])⟩ (.one ⟨(some 18), none, (.box 64 (.tmp 17))⟩ (.one ⟨(some 7), none, (.mv (.tmp 18))⟩ .done)))))))))
   (.seq
    (.ops [
      ⟨(some 19), none, (.fad 1 false 1 (.tmp 3))⟩,
      ⟨(some 20), none, (.ld false 1 (.tmp 19))⟩,
      ⟨(some 21), none, (.len (.tmp 20))⟩,
      ⟨(some 22), none, (.bin .sub (.tmp 21) (.const (.int .i64 1)))⟩,
      ⟨(some 23), none, (.bld [(.int .i64 0), (.int .i64 0)] [(0, (1, (.tmp 22))), (1, (1, (.const (.int .i64 0))))])⟩,
      ⟨(some 8), none, (.alc 66 [(.int .i64 0), (.int .i64 0)])⟩,
      ⟨none, none, (.sto true 2 (.tmp 8) (.tmp 23))⟩])
    (.seq
     (.ops [
       ⟨(some 9), none, (.mv (.const (.int .i64 0)))⟩,
       ⟨(some 10), none, (.mv (.const (.int .i64 0)))⟩])
     (.seq
      .skip
      (.seq
       (.block 0
        (.loop
         (.block 1
          (.seq
           (.seq
            (.ops [
              ⟨(some 24), none, (.mv (.tmp 10))⟩,
              ⟨(some 25), none, (.mv (.tmp 2))⟩,
              ⟨(some 26), none, (.bin .geq (.tmp 24) (.tmp 25))⟩])
            (.cond (.tmp 26)
             (.seq
              (.ops [
                ⟨(some 9), none, (.mv (.const (.int .i64 5)))⟩])
              (.exit 0))
             .skip))
           (.seq
            (.ops [
              ⟨(some 27), none, (.mv (.tmp 10))⟩,
              ⟨(some 28), none, (.bin .add (.tmp 27) (.const (.int .i64 1)))⟩,
              ⟨(some 10), none, (.mv (.tmp 28))⟩])
            (.seq
             (.par false (.one ⟨(some 29), none, (.fad 1 false 1 (.tmp 3))⟩ (.one ⟨(some 30), none, (.ld false 1 (.tmp 29))⟩ (.one ⟨(some 31), none, (.fad 0 false 1 (.tmp 8))⟩ (.one ⟨(some 32), none, (.ld false 1 (.tmp 31))⟩ (.one ⟨(some 33), none, (.idx 5 (.tmp 30) (.tmp 32))⟩ (.one ⟨(some 34), none, (.fad 4 false 1 (.tmp 33))⟩ (.one ⟨(some 35), none, (.ld false 1 (.tmp 34))⟩ (.one ⟨(some 36), none, (.fad 1 false 1 (.tmp 8))⟩ (.one ⟨(some 37), none, (.ld false 1 (.tmp 36))⟩ (.one ⟨(some 38), none, (.idx 4 (.tmp 35) (.tmp 37))⟩ (.one ⟨(some 39), none, (.ld true 4 (.tmp 38))⟩ (.one ⟨(some 11), none, (.alc 36 [(.int .i64 0), (.int .i64 0), (.int .i64 0), (.int .u32 0)])⟩ (.one ⟨none, none, (.sto true 4 (.tmp 11) (.tmp 39))⟩ .done))))))))))))))
             (.seq
              (.ops [
                ⟨(some 40), none, (.fad 1 false 1 (.tmp 8))⟩,
                ⟨(some 41), none, (.ld false 1 (.tmp 40))⟩,
                ⟨(some 42), none, (.bin .add (.tmp 41) (.const (.int .i64 1)))⟩,
                ⟨(some 43), none, (.fad 1 false 1 (.tmp 8))⟩,
                ⟨none, none, (.sto false 1 (.tmp 43) (.tmp 42))⟩])
              (.seq
               (.ops [
                 ⟨(some 44), none, (.fad 0 false 1 (.tmp 11))⟩,
                 ⟨(some 45), none, (.ld false 1 (.tmp 44))⟩])
               (.block 2
                (.seq
                 (.ops [
                   ⟨(some 52), none, (.bin .eql (.tmp 45) (.const (.int .i64 8)))⟩,
                   ⟨(some 51), none, (.mv (.tmp 52))⟩])
                 (.cond (.tmp 51)
                  (.ops [
                    ⟨(some 53), none, (.fad 1 false 1 (.tmp 11))⟩,
                    ⟨(some 54), none, (.ld false 1 (.tmp 53))⟩,
                    ⟨(some 55), none, (.fad 1 false 1 (.tmp 8))⟩,
                    ⟨none, none, (.sto false 1 (.tmp 55) (.tmp 54))⟩])
                  (.seq
                   (.ops [
                     ⟨(some 57), none, (.bin .eql (.tmp 45) (.const (.int .i64 9)))⟩,
                     ⟨(some 56), none, (.mv (.tmp 57))⟩])
                   (.cond (.tmp 56)
                    (.seq
                     (.ops [
                       ⟨(some 58), none, (.mv (.tmp 7))⟩,
                       ⟨(some 59), none, (.nck (.tmp 58))⟩,
                       ⟨(some 60), none, (.fad 3 true 1 (.tmp 59))⟩,
                       ⟨(some 61), none, (.callM true (.func 23) [(.tmp 60)])⟩,
                       ⟨(some 62), none, (.bin .eql (.tmp 61) (.const (.int .u32 0)))⟩])
                     (.cond (.tmp 62)
                      (.ops [
                        ⟨(some 63), none, (.fad 1 false 1 (.tmp 11))⟩,
                        ⟨(some 64), none, (.ld false 1 (.tmp 63))⟩,
                        ⟨(some 65), none, (.fad 1 false 1 (.tmp 8))⟩,
                        ⟨none, none, (.sto false 1 (.tmp 65) (.tmp 64))⟩])
                      .skip))
                    (.seq
                     (.ops [
                       ⟨(some 67), none, (.bin .eql (.tmp 45) (.const (.int .i64 10)))⟩,
                       ⟨(some 66), none, (.mv (.tmp 67))⟩])
                     (.cond (.tmp 66)
                      (.seq
                       (.ops [
                         ⟨(some 68), none, (.mv (.tmp 7))⟩,
                         ⟨(some 69), none, (.fad 1 false 1 (.tmp 3))⟩,
                         ⟨(some 70), none, (.ld false 1 (.tmp 69))⟩,
                         ⟨(some 71), none, (.fad 1 false 1 (.tmp 11))⟩,
                         ⟨(some 72), none, (.ld false 1 (.tmp 71))⟩,
                         ⟨(some 73), none, (.idx 5 (.tmp 70) (.tmp 72))⟩,
                         ⟨(some 74), none, (.ld true 5 (.tmp 73))⟩,
                         ⟨(some 75), none, (.call (.func 24) [(.tmp 68), (.tmp 74)])⟩])
                       (.seq
                        (.ops [
                          ⟨(some 76), none, (.mv (.tmp 7))⟩,
                          ⟨(some 77), none, (.nck (.tmp 76))⟩,
                          ⟨(some 78), none, (.fad 4 true 1 (.tmp 77))⟩,
                          ⟨(some 79), none, (.ld true 2 (.tmp 8))⟩,
                          ⟨(some 80), none, (.call (.func 25) [(.tmp 78), (.tmp 79)])⟩])
                        (.ops [
                          ⟨(some 81), none, (.fad 1 false 1 (.tmp 11))⟩,
                          ⟨(some 82), none, (.ld false 1 (.tmp 81))⟩,
                          ⟨(some 83), none, (.bld [(.int .i64 0), (.int .i64 0)] [(0, (1, (.tmp 82))), (1, (1, (.const (.int .i64 0))))])⟩,
                          ⟨none, none, (.sto true 2 (.tmp 8) (.tmp 83))⟩])))
                      (.seq
                       (.ops [
                         ⟨(some 85), none, (.bin .eql (.tmp 45) (.const (.int .i64 11)))⟩,
                         ⟨(some 84), none, (.mv (.tmp 85))⟩])
                       (.cond (.tmp 84)
                        (.seq
                         (.seq
                          (.ops [
                            ⟨(some 86), none, (.mv (.tmp 7))⟩,
                            ⟨(some 87), none, (.nck (.tmp 86))⟩,
                            ⟨(some 88), none, (.fad 4 true 1 (.tmp 87))⟩,
                            ⟨(some 89), none, (.call (.func 26) [(.tmp 88)])⟩,
                            ⟨(some 90), none, (.bin .eql (.tmp 89) (.const (.int .i64 0)))⟩])
                          (.cond (.tmp 90)
                           (.seq
                            (.ops [
                              ⟨(some 9), none, (.mv (.const (.int .i64 1)))⟩])
                            (.exit 0))
                           .skip))
                         (.ops [
                           ⟨(some 91), none, (.mv (.tmp 7))⟩,
                           ⟨(some 92), none, (.nck (.tmp 91))⟩,
                           ⟨(some 93), none, (.fad 4 true 1 (.tmp 92))⟩,
                           ⟨(some 94), none, (.call (.func 27) [(.tmp 93)])⟩,
                           ⟨none, none, (.sto true 2 (.tmp 8) (.tmp 94))⟩]))
                        (.seq
                         (.ops [
                           ⟨(some 46), none, (.mv (.tmp 7))⟩,
                           ⟨(some 47), none, (.ld true 4 (.tmp 11))⟩,
                           ⟨(some 48), none, (.call (.func 28) [(.tmp 46), (.tmp 47)])⟩,
                           ⟨(some 9), none, (.mv (.tmp 48))⟩])
                         (.seq
                          (.ops [
                            ⟨(some 49), none, (.mv (.tmp 9))⟩,
                            ⟨(some 50), none, (.bin .neq (.tmp 49) (.const (.int .i64 0)))⟩])
                          (.cond (.tmp 50)
                           (.exit 0)
                           .skip))))))))))))))))))))
       (.seq
        (.ops [
          ⟨(some 95), none, (.mv (.tmp 9))⟩,
          ⟨(some 96), none, (.mv (.tmp 7))⟩,
          ⟨(some 97), none, (.nck (.tmp 96))⟩,
          ⟨(some 98), none, (.fad 7 false 1 (.tmp 97))⟩,
          ⟨(some 99), none, (.ld false 1 (.tmp 98))⟩,
          ⟨(some 100), none, (.see .b2s [(.tmp 99)])⟩,
          ⟨(some 101), none, (.mv (.tmp 10))⟩,
          ⟨(some 102), none, (.bld [(.int .i64 0), (.string ⟨#[]⟩), (.int .i64 0)] [(0, (1, (.tmp 95))), (1, (1, (.tmp 100))), (2, (1, (.tmp 101)))])⟩,
          ⟨none, none, (.sto true 3 (.tmp 6) (.tmp 102))⟩])
        .ret)))))))
theorem f_stack_Run : compF Try.prog 12 = some (103, c_stack_Run, [(.cell 6 true 3)]) := by kernel_rfl

/-- seedcorn/seedcornref20.Run -/
def c_scref20_Run : VC :=
 (.seq
  (.ops [
    ⟨(some 3), none, (.box 24 (.tmp 0))⟩,
    ⟨(some 6), none, (.alc 29 [(.int .i64 0), (.string ⟨#[]⟩), (.int .i64 0)])⟩])
  (.seq
   (.seq
    (.ops [
      ⟨(some 8), none, (.fad 1 false 1 (.tmp 3))⟩,
      ⟨(some 9), none, (.ld false 1 (.tmp 8))⟩,
      ⟨(some 10), none, (.len (.tmp 9))⟩,
      ⟨(some 11), none, (.bin .eql (.tmp 10) (.const (.int .i64 0)))⟩])
    (.cond (.tmp 11)
     (.seq
      (.ops [
        ⟨(some 12), none, (.bld [(.int .i64 0), (.string ⟨#[]⟩), (.int .i64 0)] [])⟩,
        ⟨none, none, (.sto true 3 (.tmp 6) (.tmp 12))⟩])
      .ret)
     .skip))
   (.seq
    (.par false (.one ⟨(some 13), none, (.ld true 2 (.tmp 3))⟩ (.one ⟨(some 14), none, (.mv (.tmp 1))⟩ (.one ⟨(some 15), none, (.fad 0 false 1 (.tmp 3))⟩ (.one ⟨(some 16), none, (.ld false 1 (.tmp 15))⟩ (.one ⟨(some 18), none, (.fad 1 false 1 (.tmp 3))⟩ (.one ⟨(some 19), none, (.ld false 1 (.tmp 18))⟩ (.one ⟨(some 20), none, (.len (.tmp 19))⟩ (.one ⟨(some 21), none, (.bin .sub (.tmp 20) (.const (.int .i64 1)))⟩ (.one ⟨(some 22), none, (.bld [(.int .i64 0), (.int .i64 0), (.slice none 0 0)] [(0, (1, (.tmp 21)))])⟩ (.both (.one ⟨(some 17), none, (.mk 34 1 4 [(.int .u32 0)] (.tmp 16) (.tmp 16))⟩ (.one ⟨(some 23), none, (.bsl 75 3 1 [(.int .i64 0), (.int .i64 0), (.slice none 0 0)] [(0, (3, (.tmp 22)))])⟩ (.one ⟨(some 24), none, (.bld [(.int .i64 0), (.slice none 0 0), (.string ⟨#[]⟩), (.int .i64 0), (.slice none 0 0), (.slice none 0 0), (.int .i64 0), (.int .i64 0), (.slice none 0 0)] [(0, (2, (.tmp 13))), (2, (1, (.tmp 14))), (4, (1, (.tmp 17))), (8, (1, (.tmp 23)))])⟩ (.one ⟨(some 25), none, (.box 78 (.tmp 24))⟩ (.one ⟨(some 7), none, (.mv (.tmp 25))⟩ .done))))) (.one ⟨(some 23), none, (.bsl 75 3 1 [(.int .i64 0), (.int .i64 0), (.slice none 0 0)] [(0, (3, (.tmp 22)))])⟩ (.one ⟨(some 17), none, (.mk 34 1 4 [(.int .u32 0)] (.tmp 16) (.tmp 16))⟩ (.one ⟨(some 24), none, (.bld [(.int .i64 0), (.slice none 0 0), (.string ⟨#[]⟩), (.int .i64 0), (.slice none 0 0), (.slice none 0 0), (.int .i64 0), (.int .i64 0), (.slice none 0 0)] [(0, (2, (.tmp 13))), (2, (1, (.tmp 14))), (4, (1, (.tmp 17))), (8, (1, (.tmp 23)))])⟩ (.one ⟨(some 25), none, (.box 78 (.tmp 24))⟩ (.one ⟨(some 7), none, (.mv (.tmp 25))⟩ .done))))))))))))))))
    (.seq
     (.block 0
      (.loop
       (.seq
        (.seq
         (.ops [
           ⟨(some 26), none, (.mv (.tmp 7))⟩,
           ⟨(some 27), none, (.nck (.tmp 26))⟩,
           ⟨(some 28), none, (.fad 7 false 1 (.tmp 27))⟩,
           ⟨(some 29), none, (.ld false 1 (.tmp 28))⟩,
           ⟨(some 30), none, (.bin .eql (.tmp 29) (.const (.int .i64 0)))⟩])
         (.cond (.tmp 30)
          .skip
          (.exit 0)))
        (.block 1
         (.seq
          (.ops [
            ⟨(some 31), none, (.mv (.tmp 7))⟩,
            ⟨(some 32), none, (.nck (.tmp 31))⟩,
            ⟨(some 33), none, (.fad 6 false 1 (.tmp 32))⟩,
            ⟨(some 34), none, (.ld false 1 (.tmp 33))⟩,
            ⟨(some 35), none, (.mv (.tmp 2))⟩,
            ⟨(some 36), none, (.bin .geq (.tmp 34) (.tmp 35))⟩])
          (.cond (.tmp 36)
           (.ops [
             ⟨(some 37), none, (.mv (.tmp 7))⟩,
             ⟨(some 38), none, (.nck (.tmp 37))⟩,
             ⟨(some 39), none, (.fad 7 false 1 (.tmp 38))⟩,
             ⟨none, none, (.sto false 1 (.tmp 39) (.const (.int .i64 5)))⟩])
           (.ops [
             ⟨(some 40), none, (.mv (.tmp 7))⟩,
             ⟨(some 41), none, (.call (.func 29) [(.tmp 40)])⟩])))))))
     (.seq
      (.ops [
        ⟨(some 42), none, (.mv (.tmp 7))⟩,
        ⟨(some 43), none, (.nck (.tmp 42))⟩,
        ⟨(some 44), none, (.fad 7 false 1 (.tmp 43))⟩,
        ⟨(some 45), none, (.ld false 1 (.tmp 44))⟩,
        ⟨(some 46), none, (.mv (.tmp 7))⟩,
        ⟨(some 47), none, (.nck (.tmp 46))⟩,
        ⟨(some 48), none, (.fad 5 false 1 (.tmp 47))⟩,
        ⟨(some 49), none, (.ld false 1 (.tmp 48))⟩,
        ⟨(some 50), none, (.see .b2s [(.tmp 49)])⟩,
        ⟨(some 51), none, (.mv (.tmp 7))⟩,
        ⟨(some 52), none, (.nck (.tmp 51))⟩,
        ⟨(some 53), none, (.fad 6 false 1 (.tmp 52))⟩,
        ⟨(some 54), none, (.ld false 1 (.tmp 53))⟩,
        ⟨(some 55), none, (.bld [(.int .i64 0), (.string ⟨#[]⟩), (.int .i64 0)] [(0, (1, (.tmp 45))), (1, (1, (.tmp 50))), (2, (1, (.tmp 54)))])⟩,
        ⟨none, none, (.sto true 3 (.tmp 6) (.tmp 55))⟩])
      .ret)))))
theorem f_scref20_Run : compF Try.prog 13 = some (56, c_scref20_Run, [(.cell 6 true 3)]) := by kernel_rfl

/-- seedcorn/stack.Right -/
def c_stack_Right : VC :=
 (.seq
  (.ops [
    ⟨(some 1), none, (.box 24 (.tmp 0))⟩,
    ⟨(some 2), none, (.mv (.const (.bool false)))⟩])
  (.seq
   (.seq
    (.ops [
      ⟨(some 11), none, (.fad 0 false 1 (.tmp 1))⟩,
      ⟨(some 12), none, (.ld false 1 (.tmp 11))⟩,
      ⟨(some 13), none, (.bin .lss (.tmp 12) (.const (.int .i64 0)))⟩,
      ⟨(some 14), none, (.mv (.tmp 13))⟩,
      ⟨(some 15), (some (14, false)), (.fad 0 false 1 (.tmp 1))⟩,
      ⟨(some 16), (some (14, false)), (.ld false 1 (.tmp 15))⟩,
      ⟨(some 17), (some (14, false)), (.bin .gtr (.tmp 16) (.const (.int .i64 32768)))⟩,
      ⟨(some 18), none, (.pick (.tmp 14) (.const (.bool true)) (.tmp 17))⟩,
      ⟨(some 19), none, (.mv (.tmp 18))⟩,
      ⟨(some 20), (some (19, false)), (.fad 1 false 1 (.tmp 1))⟩,
      ⟨(some 21), (some (19, false)), (.ld false 1 (.tmp 20))⟩,
      ⟨(some 22), (some (19, false)), (.len (.tmp 21))⟩,
      ⟨(some 23), (some (19, false)), (.bin .lss (.tmp 22) (.const (.int .i64 1)))⟩,
      ⟨(some 24), none, (.pick (.tmp 19) (.const (.bool true)) (.tmp 23))⟩,
      ⟨(some 25), none, (.mv (.tmp 24))⟩,
      ⟨(some 26), (some (25, false)), (.fad 1 false 1 (.tmp 1))⟩,
      ⟨(some 27), (some (25, false)), (.ld false 1 (.tmp 26))⟩,
      ⟨(some 28), (some (25, false)), (.len (.tmp 27))⟩,
      ⟨(some 29), (some (25, false)), (.bin .gtr (.tmp 28) (.const (.int .i64 64)))⟩,
      ⟨(some 30), none, (.pick (.tmp 25) (.const (.bool true)) (.tmp 29))⟩])
    (.cond (.tmp 30)
     (.seq
      (.ops [
        ⟨(some 2), none, (.mv (.const (.bool false)))⟩])
      .ret)
     .skip))
   (.seq
    (.seq
     (.ops [
       ⟨(some 31), none, (.fad 1 false 1 (.tmp 1))⟩,
       ⟨(some 32), none, (.ld false 1 (.tmp 31))⟩,
       ⟨(some 33), none, (.len (.tmp 32))⟩,
       ⟨(some 34), none, (.mv (.const (.int .i64 0)))⟩])
     (.block 0
      (.loop
       (.seq
        (.ops [
          ⟨(some 35), none, (.bin .lss (.tmp 34) (.tmp 33))⟩])
        (.seq
         (.cond (.tmp 35)
          .skip
          (.exit 0))
         (.seq
          (.block 1
           (.seq
            (.ops [
              ⟨(some 36), none, (.mv (.tmp 34))⟩,
              ⟨(some 37), none, (.idx 5 (.tmp 32) (.tmp 34))⟩,
              ⟨(some 38), none, (.ld true 5 (.tmp 37))⟩,
              ⟨(some 4), none, (.alc 39 [(.int .i64 0), (.int .i64 0), (.int .i64 0), (.bool false), (.slice none 0 0)])⟩,
              ⟨(some 3), none, (.mv (.tmp 36))⟩,
              ⟨none, none, (.sto true 5 (.tmp 4) (.tmp 38))⟩])
            (.seq
             (.seq
              (.ops [
                ⟨(some 39), none, (.fad 0 false 1 (.tmp 4))⟩,
                ⟨(some 40), none, (.ld false 1 (.tmp 39))⟩,
                ⟨(some 41), none, (.bin .lss (.tmp 40) (.const (.int .i64 0)))⟩,
                ⟨(some 42), none, (.mv (.tmp 41))⟩,
                ⟨(some 43), (some (42, false)), (.fad 0 false 1 (.tmp 4))⟩,
                ⟨(some 44), (some (42, false)), (.ld false 1 (.tmp 43))⟩,
                ⟨(some 45), (some (42, false)), (.fad 1 false 1 (.tmp 4))⟩,
                ⟨(some 46), (some (42, false)), (.ld false 1 (.tmp 45))⟩,
                ⟨(some 47), (some (42, false)), (.bin .gtr (.tmp 44) (.tmp 46))⟩,
                ⟨(some 48), none, (.pick (.tmp 42) (.const (.bool true)) (.tmp 47))⟩])
              (.cond (.tmp 48)
               (.seq
                (.ops [
                  ⟨(some 2), none, (.mv (.const (.bool false)))⟩])
                .ret)
               .skip))
             (.seq
              (.seq
               (.ops [
                 ⟨(some 49), none, (.fad 2 false 1 (.tmp 4))⟩,
                 ⟨(some 50), none, (.ld false 1 (.tmp 49))⟩,
                 ⟨(some 51), none, (.bin .lss (.tmp 50) (.const (.int .i64 0)))⟩,
                 ⟨(some 52), none, (.mv (.tmp 51))⟩,
                 ⟨(some 53), (some (52, false)), (.fad 2 false 1 (.tmp 4))⟩,
                 ⟨(some 54), (some (52, false)), (.ld false 1 (.tmp 53))⟩,
                 ⟨(some 55), (some (52, false)), (.fad 0 false 1 (.tmp 1))⟩,
                 ⟨(some 56), (some (52, false)), (.ld false 1 (.tmp 55))⟩,
                 ⟨(some 57), (some (52, false)), (.bin .gtr (.tmp 54) (.tmp 56))⟩,
                 ⟨(some 58), none, (.pick (.tmp 52) (.const (.bool true)) (.tmp 57))⟩,
                 ⟨(some 59), none, (.mv (.tmp 58))⟩,
                 ⟨(some 60), (some (59, false)), (.fad 1 false 1 (.tmp 4))⟩,
                 ⟨(some 61), (some (59, false)), (.ld false 1 (.tmp 60))⟩,
                 ⟨(some 62), (some (59, false)), (.fad 0 false 1 (.tmp 1))⟩,
                 ⟨(some 63), (some (59, false)), (.ld false 1 (.tmp 62))⟩,
                 ⟨(some 64), (some (59, false)), (.fad 2 false 1 (.tmp 4))⟩,
                 ⟨(some 65), (some (59, false)), (.ld false 1 (.tmp 64))⟩,
                 ⟨(some 66), (some (59, false)), (.bin .sub (.tmp 63) (.tmp 65))⟩,
                 ⟨(some 67), (some (59, false)), (.bin .gtr (.tmp 61) (.tmp 66))⟩,
                 ⟨(some 68), none, (.pick (.tmp 59) (.const (.bool true)) (.tmp 67))⟩])
               (.cond (.tmp 68)
                (.seq
                 (.ops [
                   ⟨(some 2), none, (.mv (.const (.bool false)))⟩])
                 .ret)
                .skip))
              (.seq
               (.ops [
                 ⟨(some 69), none, (.fad 4 false 1 (.tmp 4))⟩,
                 ⟨(some 70), none, (.ld false 1 (.tmp 69))⟩,
                 ⟨(some 71), none, (.len (.tmp 70))⟩,
                 ⟨(some 72), none, (.mv (.const (.int .i64 0)))⟩])
               (.block 2
                (.loop
                 (.seq
                  (.ops [
                    ⟨(some 73), none, (.bin .lss (.tmp 72) (.tmp 71))⟩])
                  (.seq
                   (.cond (.tmp 73)
                    .skip
                    (.exit 2))
                   (.seq
                    (.block 3
                     (.seq
                      (.ops [
                        ⟨(some 74), none, (.idx 4 (.tmp 70) (.tmp 72))⟩,
                        ⟨(some 75), none, (.ld true 4 (.tmp 74))⟩,
                        ⟨(some 6), none, (.alc 36 [(.int .i64 0), (.int .i64 0), (.int .i64 0), (.int .u32 0)])⟩,
                        ⟨none, none, (.sto true 4 (.tmp 6) (.tmp 75))⟩])
                      (.seq
                       (.ops [
                         ⟨(some 76), none, (.ld true 2 (.tmp 1))⟩,
                         ⟨(some 77), none, (.mv (.tmp 3))⟩,
                         ⟨(some 78), none, (.ld true 4 (.tmp 6))⟩,
                         ⟨(some 79), none, (.call (.func 30) [(.tmp 76), (.tmp 77), (.tmp 78)])⟩,
                         ⟨(some 80), none, (.un .not (.tmp 79))⟩])
                       (.cond (.tmp 80)
                        (.seq
                         (.ops [
                           ⟨(some 2), none, (.mv (.const (.bool false)))⟩])
                         .ret)
                        .skip))))
                    (.ops [
                      ⟨(some 81), none, (.bin .add (.tmp 72) (.const (.int .i64 1)))⟩,
                      ⟨(some 72), none, (.mv (.tmp 81))⟩])))))))))))
          (.ops [
            ⟨(some 82), none, (.bin .add (.tmp 34) (.const (.int .i64 1)))⟩,
            ⟨(some 34), none, (.mv (.tmp 82))⟩])))))))
    (.seq
     (.seq
      (.ops [
        ⟨(some 83), none, (.fad 1 false 1 (.tmp 1))⟩,
        ⟨(some 84), none, (.ld false 1 (.tmp 83))⟩,
        ⟨(some 85), none, (.len (.tmp 84))⟩,
        ⟨(some 86), none, (.mv (.const (.int .i64 0)))⟩])
      (.block 4
       (.loop
        (.seq
         (.ops [
           ⟨(some 87), none, (.bin .lss (.tmp 86) (.tmp 85))⟩])
         (.seq
          (.cond (.tmp 87)
           .skip
           (.exit 4))
          (.seq
           (.block 5
            (.seq
             (.ops [
               ⟨(some 88), none, (.mv (.tmp 86))⟩,
               ⟨(some 7), none, (.mv (.tmp 88))⟩])
             (.seq
              (.ops [
                ⟨(some 90), none, (.ld true 2 (.tmp 1))⟩,
                ⟨(some 91), none, (.mv (.tmp 7))⟩,
                ⟨(some 92), none, (.call (.func 18) [(.tmp 90), (.tmp 91)])⟩,
                ⟨(some 89), none, (.mv (.tmp 92))⟩,
                ⟨(some 93), none, (.ext (.tmp 89) 0)⟩,
                ⟨(some 94), none, (.ext (.tmp 89) 1)⟩,
                ⟨(some 8), none, (.mv (.tmp 93))⟩,
                ⟨(some 9), none, (.mv (.tmp 94))⟩])
              (.seq
               (.ops [
                 ⟨(some 95), none, (.mv (.tmp 9))⟩,
                 ⟨(some 96), none, (.un .not (.tmp 95))⟩])
               (.cond (.tmp 96)
                (.seq
                 (.ops [
                   ⟨(some 2), none, (.mv (.const (.bool false)))⟩])
                 .ret)
                .skip)))))
           (.ops [
             ⟨(some 97), none, (.bin .add (.tmp 86) (.const (.int .i64 1)))⟩,
             ⟨(some 86), none, (.mv (.tmp 97))⟩])))))))
     (.seq
      (.ops [
        ⟨(some 98), none, (.fad 1 false 1 (.tmp 1))⟩,
        ⟨(some 99), none, (.ld false 1 (.tmp 98))⟩,
        ⟨(some 100), none, (.fad 1 false 1 (.tmp 1))⟩,
        ⟨(some 101), none, (.ld false 1 (.tmp 100))⟩,
        ⟨(some 102), none, (.len (.tmp 101))⟩,
        ⟨(some 103), none, (.bin .sub (.tmp 102) (.const (.int .i64 1)))⟩,
        ⟨(some 104), none, (.idx 5 (.tmp 99) (.tmp 103))⟩,
        ⟨(some 105), none, (.ld true 5 (.tmp 104))⟩,
        ⟨(some 10), none, (.alc 39 [(.int .i64 0), (.int .i64 0), (.int .i64 0), (.bool false), (.slice none 0 0)])⟩,
        ⟨none, none, (.sto true 5 (.tmp 10) (.tmp 105))⟩])
      (.seq
       (.ops [
         ⟨(some 106), none, (.fad 0 false 1 (.tmp 10))⟩,
         ⟨(some 107), none, (.ld false 1 (.tmp 106))⟩,
         ⟨(some 108), none, (.bin .eql (.tmp 107) (.const (.int .i64 0)))⟩,
         ⟨(some 109), none, (.mv (.tmp 108))⟩,
         ⟨(some 110), (some (109, true)), (.fad 3 false 1 (.tmp 10))⟩,
         ⟨(some 111), (some (109, true)), (.ld false 1 (.tmp 110))⟩,
         ⟨(some 112), (some (109, true)), (.un .not (.tmp 111))⟩,
         ⟨(some 113), none, (.pick (.tmp 109) (.tmp 112) (.const (.bool false)))⟩,
         ⟨(some 2), none, (.mv (.tmp 113))⟩])
       .ret))))))
theorem f_stack_Right : compF Try.prog 14 = some (114, c_stack_Right, [(.tmp 2)]) := by kernel_rfl

/-- seedcorn/word.Apply -/
def c_word_Apply : VC :=
 (.seq
  (.ops [
    ⟨(some 6), none, (.mv (.const (.int .u32 0)))⟩,
    ⟨(some 7), none, (.mv (.const (.int .i64 0)))⟩])
  (.seq
   (.seq
    (.ops [
      ⟨(some 8), none, (.mv (.tmp 0))⟩])
    (.block 0
     (.seq
      (.ops [
        ⟨(some 10), none, (.bin .eql (.tmp 8) (.const (.int .i64 4)))⟩,
        ⟨(some 9), none, (.mv (.tmp 10))⟩])
      (.cond (.tmp 9)
       (.seq
        (.ops [
          ⟨(some 11), none, (.mv (.tmp 1))⟩,
          ⟨(some 12), none, (.mv (.tmp 2))⟩,
          ⟨(some 13), none, (.bin .add (.tmp 11) (.tmp 12))⟩,
          ⟨(some 6), none, (.mv (.tmp 13))⟩,
          ⟨(some 7), none, (.mv (.const (.int .i64 0)))⟩])
        .ret)
       (.seq
        (.ops [
          ⟨(some 15), none, (.bin .eql (.tmp 8) (.const (.int .i64 5)))⟩,
          ⟨(some 14), none, (.mv (.tmp 15))⟩])
        (.cond (.tmp 14)
         (.seq
          (.ops [
            ⟨(some 16), none, (.mv (.tmp 1))⟩,
            ⟨(some 17), none, (.mv (.tmp 2))⟩,
            ⟨(some 18), none, (.bin .sub (.tmp 16) (.tmp 17))⟩,
            ⟨(some 6), none, (.mv (.tmp 18))⟩,
            ⟨(some 7), none, (.mv (.const (.int .i64 0)))⟩])
          .ret)
         (.seq
          (.ops [
            ⟨(some 20), none, (.bin .eql (.tmp 8) (.const (.int .i64 6)))⟩,
            ⟨(some 19), none, (.mv (.tmp 20))⟩])
          (.cond (.tmp 19)
           (.seq
            (.ops [
              ⟨(some 21), none, (.mv (.tmp 1))⟩,
              ⟨(some 22), none, (.mv (.tmp 2))⟩,
              ⟨(some 23), none, (.bin .mul (.tmp 21) (.tmp 22))⟩,
              ⟨(some 6), none, (.mv (.tmp 23))⟩,
              ⟨(some 7), none, (.mv (.const (.int .i64 0)))⟩])
            .ret)
           (.seq
            (.seq
             (.ops [
               ⟨(some 25), none, (.bin .eql (.tmp 8) (.const (.int .i64 7)))⟩,
               ⟨(some 24), none, (.mv (.tmp 25))⟩])
             (.cond (.tmp 24)
              .skip
              (.ops [
                ⟨(some 26), none, (.bin .eql (.tmp 8) (.const (.int .i64 8)))⟩,
                ⟨(some 24), none, (.mv (.tmp 26))⟩])))
            (.cond (.tmp 24)
             (.seq
              (.ops [
                ⟨(some 27), none, (.mv (.tmp 0))⟩,
                ⟨(some 28), none, (.mv (.tmp 1))⟩,
                ⟨(some 29), none, (.mv (.tmp 2))⟩,
                ⟨(some 30), none, (.call (.func 31) [(.tmp 27), (.tmp 28), (.tmp 29)])⟩,
                ⟨(some 31), none, (.ext (.tmp 30) 0)⟩,
                ⟨(some 32), none, (.ext (.tmp 30) 1)⟩,
                ⟨(some 6), none, (.mv (.tmp 31))⟩,
                ⟨(some 7), none, (.mv (.tmp 32))⟩])
              .ret)
             (.seq
              (.ops [
                ⟨(some 34), none, (.bin .eql (.tmp 8) (.const (.int .i64 9)))⟩,
                ⟨(some 33), none, (.mv (.tmp 34))⟩])
              (.cond (.tmp 33)
               (.seq
                (.ops [
                  ⟨(some 35), none, (.mv (.tmp 1))⟩,
                  ⟨(some 36), none, (.mv (.tmp 2))⟩,
                  ⟨(some 37), none, (.bin .and (.tmp 35) (.tmp 36))⟩,
                  ⟨(some 6), none, (.mv (.tmp 37))⟩,
                  ⟨(some 7), none, (.mv (.const (.int .i64 0)))⟩])
                .ret)
               (.seq
                (.ops [
                  ⟨(some 39), none, (.bin .eql (.tmp 8) (.const (.int .i64 10)))⟩,
                  ⟨(some 38), none, (.mv (.tmp 39))⟩])
                (.cond (.tmp 38)
                 (.seq
                  (.ops [
                    ⟨(some 40), none, (.mv (.tmp 1))⟩,
                    ⟨(some 41), none, (.mv (.tmp 2))⟩,
                    ⟨(some 42), none, (.bin .or (.tmp 40) (.tmp 41))⟩,
                    ⟨(some 6), none, (.mv (.tmp 42))⟩,
                    ⟨(some 7), none, (.mv (.const (.int .i64 0)))⟩])
                  .ret)
                 (.seq
                  (.ops [
                    ⟨(some 44), none, (.bin .eql (.tmp 8) (.const (.int .i64 11)))⟩,
                    ⟨(some 43), none, (.mv (.tmp 44))⟩])
                  (.cond (.tmp 43)
                   (.seq
                    (.ops [
                      ⟨(some 45), none, (.mv (.tmp 1))⟩,
                      ⟨(some 46), none, (.mv (.tmp 2))⟩,
                      ⟨(some 47), none, (.bin .xor (.tmp 45) (.tmp 46))⟩,
                      ⟨(some 6), none, (.mv (.tmp 47))⟩,
                      ⟨(some 7), none, (.mv (.const (.int .i64 0)))⟩])
                    .ret)
                   (.seq
                    (.seq
                     (.ops [
                       ⟨(some 49), none, (.bin .eql (.tmp 8) (.const (.int .i64 12)))⟩,
                       ⟨(some 48), none, (.mv (.tmp 49))⟩])
                     (.cond (.tmp 48)
                      .skip
                      (.ops [
                        ⟨(some 50), none, (.bin .eql (.tmp 8) (.const (.int .i64 13)))⟩,
                        ⟨(some 48), none, (.mv (.tmp 50))⟩])))
                    (.cond (.tmp 48)
                     (.seq
                      (.ops [
                        ⟨(some 51), none, (.mv (.tmp 0))⟩,
                        ⟨(some 52), none, (.mv (.tmp 1))⟩,
                        ⟨(some 53), none, (.mv (.tmp 2))⟩,
                        ⟨(some 54), none, (.call (.func 32) [(.tmp 51), (.tmp 52), (.tmp 53)])⟩,
                        ⟨(some 6), none, (.mv (.tmp 54))⟩,
                        ⟨(some 7), none, (.mv (.const (.int .i64 0)))⟩])
                      .ret)
                     (.seq
                      (.seq
                       (.ops [
                         ⟨(some 56), none, (.bin .eql (.tmp 8) (.const (.int .i64 14)))⟩,
                         ⟨(some 55), none, (.mv (.tmp 56))⟩])
                       (.cond (.tmp 55)
                        .skip
                        (.ops [
                          ⟨(some 57), none, (.bin .eql (.tmp 8) (.const (.int .i64 15)))⟩,
                          ⟨(some 55), none, (.mv (.tmp 57))⟩])))
                      (.cond (.tmp 55)
                       (.seq
                        (.ops [
                          ⟨(some 58), none, (.mv (.tmp 0))⟩,
                          ⟨(some 59), none, (.mv (.tmp 1))⟩,
                          ⟨(some 60), none, (.mv (.tmp 2))⟩,
                          ⟨(some 61), none, (.call (.func 33) [(.tmp 58), (.tmp 59), (.tmp 60)])⟩,
                          ⟨(some 6), none, (.mv (.tmp 61))⟩,
                          ⟨(some 7), none, (.mv (.const (.int .i64 0)))⟩])
                        .ret)
                       .skip))))))))))))))))))))
   (.seq
    (.ops [
      ⟨(some 6), none, (.mv (.const (.int .u32 0)))⟩,
      ⟨(some 7), none, (.mv (.const (.int .i64 1)))⟩])
    .ret)))
theorem f_word_Apply : compF Try.prog 15 = some (62, c_word_Apply, [(.tmp 6), (.tmp 7)]) := by kernel_rfl

/-- seedcorn/word.Bytes -/
def c_word_Bytes : VC :=
 (.seq
  (.ops [
    ⟨(some 2), none, (.mv (.const (.string ⟨#[]⟩)))⟩])
  (.seq
   (.ops [
     ⟨(some 6), none, (.mv (.tmp 0))⟩,
     ⟨(some 7), none, (.len (.tmp 6))⟩,
     ⟨(some 8), none, (.bin .mul (.const (.int .i64 4)) (.tmp 7))⟩,
     ⟨(some 9), none, (.mk 5 1 1 [(.int .u8 0)] (.const (.int .i64 0)) (.tmp 8))⟩,
     ⟨(some 3), none, (.mv (.tmp 9))⟩])
   (.seq
    (.seq
     (.ops [
       ⟨(some 10), none, (.mv (.tmp 0))⟩,
       ⟨(some 11), none, (.len (.tmp 10))⟩,
       ⟨(some 12), none, (.mv (.const (.int .i64 0)))⟩])
     (.block 0
      (.loop
       (.seq
        (.ops [
          ⟨(some 13), none, (.bin .lss (.tmp 12) (.tmp 11))⟩])
        (.seq
         (.cond (.tmp 13)
          .skip
          (.exit 0))
         (.seq
          (.block 1
           (.seq
            (.ops [
              ⟨(some 14), none, (.idx 1 (.tmp 10) (.tmp 12))⟩,
              ⟨(some 15), none, (.ld false 1 (.tmp 14))⟩,
              ⟨(some 5), none, (.mv (.tmp 15))⟩])
            (.ops [
              ⟨(some 16), none, (.mv (.tmp 3))⟩,
              ⟨(some 17), none, (.mv (.tmp 5))⟩,
              ⟨(some 18), none, (.conv .u8 (.tmp 17))⟩,
              ⟨(some 19), none, (.mv (.tmp 5))⟩,
              ⟨(some 20), none, (.bin .shr (.tmp 19) (.const (.int .u64 8)))⟩,
              ⟨(some 21), none, (.conv .u8 (.tmp 20))⟩,
              ⟨(some 22), none, (.mv (.tmp 5))⟩,
              ⟨(some 23), none, (.bin .shr (.tmp 22) (.const (.int .u64 16)))⟩,
              ⟨(some 24), none, (.conv .u8 (.tmp 23))⟩,
              ⟨(some 25), none, (.mv (.tmp 5))⟩,
              ⟨(some 26), none, (.bin .shr (.tmp 25) (.const (.int .u64 24)))⟩,
              ⟨(some 27), none, (.conv .u8 (.tmp 26))⟩,
              ⟨(some 28), none, (.bsl 5 1 4 [(.int .u8 0), (.int .u8 0), (.int .u8 0), (.int .u8 0)] [(0, (1, (.tmp 18))), (1, (1, (.tmp 21))), (2, (1, (.tmp 24))), (3, (1, (.tmp 27)))])⟩,
              ⟨(some 29), none, (.app 5 1 1 (.tmp 16) (.tmp 28))⟩,
              ⟨(some 3), none, (.mv (.tmp 29))⟩])))
          (.ops [
            ⟨(some 30), none, (.bin .add (.tmp 12) (.const (.int .i64 1)))⟩,
            ⟨(some 12), none, (.mv (.tmp 30))⟩])))))))
    (.seq
     (.ops [
       ⟨(some 31), none, (.mv (.tmp 3))⟩,
       ⟨(some 32), none, (.see .b2s [(.tmp 31)])⟩,
       ⟨(some 2), none, (.mv (.tmp 32))⟩])
     .ret))))
theorem f_word_Bytes : compF Try.prog 16 = some (33, c_word_Bytes, [(.tmp 2)]) := by kernel_rfl

/-- seedcorn/seedcornlaw20.code -/
def c_sclaw20_code : VC :=
 (.seq
  (.ops [
    ⟨(some 2), none, (.alc 24 [(.int .i64 0), (.slice none 0 0)])⟩])
  (.seq
   (.ops [
     ⟨(some 3), none, (.mv (.tmp 0))⟩,
     ⟨(some 4), none, (.bld [(.int .i64 0), (.int .i64 0), (.int .i64 0), (.bool false), (.slice none 0 0)] [(4, (1, (.tmp 3)))])⟩,
     ⟨(some 5), none, (.bsl 39 5 1 [(.int .i64 0), (.int .i64 0), (.int .i64 0), (.bool false), (.slice none 0 0)] [(0, (5, (.tmp 4)))])⟩,
     ⟨(some 6), none, (.bld [(.int .i64 0), (.slice none 0 0)] [(1, (1, (.tmp 5)))])⟩,
     ⟨none, none, (.sto true 2 (.tmp 2) (.tmp 6))⟩])
   .ret))
theorem f_sclaw20_code : compF Try.prog 17 = some (7, c_sclaw20_code, [(.cell 2 true 2)]) := by kernel_rfl

/-- seedcorn/stack.Depths -/
def c_stack_Depths : VC :=
 (.seq
  (.ops [
    ⟨(some 2), none, (.box 24 (.tmp 0))⟩,
    ⟨(some 4), none, (.mv (.const (.slice none 0 0)))⟩,
    ⟨(some 5), none, (.mv (.const (.bool false)))⟩])
  (.seq
   (.seq
    (.ops [
      ⟨(some 15), none, (.mv (.tmp 1))⟩,
      ⟨(some 16), none, (.bin .lss (.tmp 15) (.const (.int .i64 0)))⟩,
      ⟨(some 17), none, (.mv (.tmp 16))⟩,
      ⟨(some 18), (some (17, false)), (.mv (.tmp 1))⟩,
      ⟨(some 19), (some (17, false)), (.fad 1 false 1 (.tmp 2))⟩,
      ⟨(some 20), (some (17, false)), (.ld false 1 (.tmp 19))⟩,
      ⟨(some 21), (some (17, false)), (.len (.tmp 20))⟩,
      ⟨(some 22), (some (17, false)), (.bin .geq (.tmp 18) (.tmp 21))⟩,
      ⟨(some 23), none, (.pick (.tmp 17) (.const (.bool true)) (.tmp 22))⟩,
      ⟨(some 24), none, (.mv (.tmp 23))⟩,
      ⟨(some 25), (some (24, false)), (.fad 1 false 1 (.tmp 2))⟩,
      ⟨(some 26), (some (24, false)), (.ld false 1 (.tmp 25))⟩,
      ⟨(some 27), (some (24, false)), (.mv (.tmp 1))⟩,
      ⟨(some 28), (some (24, false)), (.idx 5 (.tmp 26) (.tmp 27))⟩,
      ⟨(some 29), (some (24, false)), (.fad 4 false 1 (.tmp 28))⟩,
      ⟨(some 30), (some (24, false)), (.ld false 1 (.tmp 29))⟩,
      ⟨(some 31), (some (24, false)), (.len (.tmp 30))⟩,
      ⟨(some 32), (some (24, false)), (.bin .eql (.tmp 31) (.const (.int .i64 0)))⟩,
      ⟨(some 33), none, (.pick (.tmp 24) (.const (.bool true)) (.tmp 32))⟩])
    (.cond (.tmp 33)
     (.seq
      (.ops [
        ⟨(some 4), none, (.mv (.const (.slice none 0 0)))⟩,
        ⟨(some 5), none, (.mv (.const (.bool false)))⟩])
      .ret)
     .skip))
   (.seq
    (.ops [
      ⟨(some 34), none, (.fad 1 false 1 (.tmp 2))⟩,
      ⟨(some 35), none, (.ld false 1 (.tmp 34))⟩,
      ⟨(some 36), none, (.mv (.tmp 1))⟩,
      ⟨(some 37), none, (.idx 5 (.tmp 35) (.tmp 36))⟩,
      ⟨(some 38), none, (.fad 4 false 1 (.tmp 37))⟩,
      ⟨(some 39), none, (.ld false 1 (.tmp 38))⟩,
      ⟨(some 6), none, (.mv (.tmp 39))⟩])
    (.seq
     (.ops [
       ⟨(some 40), none, (.mv (.tmp 6))⟩,
       ⟨(some 41), none, (.len (.tmp 40))⟩,
       ⟨(some 42), none, (.mk 3 1 8 [(.int .i64 0)] (.tmp 41) (.tmp 41))⟩,
       ⟨(some 7), none, (.mv (.tmp 42))⟩])
     (.seq
      (.seq
       (.ops [
         ⟨(some 43), none, (.mv (.tmp 7))⟩,
         ⟨(some 44), none, (.len (.tmp 43))⟩,
         ⟨(some 45), none, (.mv (.const (.int .i64 0)))⟩])
       (.block 0
        (.loop
         (.seq
          (.ops [
            ⟨(some 46), none, (.bin .lss (.tmp 45) (.tmp 44))⟩])
          (.seq
           (.cond (.tmp 46)
            .skip
            (.exit 0))
           (.seq
            (.block 1
             (.seq
              (.ops [
                ⟨(some 47), none, (.mv (.tmp 45))⟩,
                ⟨(some 8), none, (.mv (.tmp 47))⟩])
              (.ops [
                ⟨(some 48), none, (.mv (.tmp 7))⟩,
                ⟨(some 49), none, (.mv (.tmp 8))⟩,
                ⟨(some 50), none, (.idx 1 (.tmp 48) (.tmp 49))⟩,
                ⟨none, none, (.sto false 1 (.tmp 50) (.const (.int .i64 (-1))))⟩])))
            (.ops [
              ⟨(some 51), none, (.bin .add (.tmp 45) (.const (.int .i64 1)))⟩,
              ⟨(some 45), none, (.mv (.tmp 51))⟩])))))))
      (.seq
       (.ops [
         ⟨(some 52), none, (.mv (.tmp 7))⟩,
         ⟨(some 53), none, (.idx 1 (.tmp 52) (.const (.int .i64 0)))⟩,
         ⟨none, none, (.sto false 1 (.tmp 53) (.const (.int .i64 0)))⟩])
       (.seq
        (.ops [
          ⟨(some 9), none, (.alc 82 [(.slice none 0 0)])⟩])
        (.seq
         (.ops [
           ⟨(some 54), none, (.call (.func 34) [(.tmp 9), (.const (.int .i64 0))])⟩])
         (.seq
          (.block 2
           (.loop
            (.seq
             (.seq
              (.ops [
                ⟨(some 55), none, (.call (.func 35) [(.tmp 9)])⟩,
                ⟨(some 56), none, (.bin .gtr (.tmp 55) (.const (.int .i64 0)))⟩])
              (.cond (.tmp 56)
               .skip
               (.exit 2)))
             (.block 3
              (.seq
               (.ops [
                 ⟨(some 57), none, (.call (.func 36) [(.tmp 9)])⟩,
                 ⟨(some 10), none, (.mv (.tmp 57))⟩])
               (.seq
                (.par false (.one ⟨(some 59), none, (.ld true 2 (.tmp 2))⟩ (.one ⟨(some 60), none, (.mv (.tmp 1))⟩ (.one ⟨(some 61), none, (.mv (.tmp 6))⟩ (.one ⟨(some 62), none, (.mv (.tmp 10))⟩ (.one ⟨(some 63), none, (.idx 4 (.tmp 61) (.tmp 62))⟩ (.one ⟨(some 64), none, (.ld true 4 (.tmp 63))⟩ (.one ⟨(some 65), none, (.mv (.tmp 7))⟩ (.one ⟨(some 66), none, (.mv (.tmp 10))⟩ (.one ⟨(some 67), none, (.idx 1 (.tmp 65) (.tmp 66))⟩ (.one ⟨(some 68), none, (.ld false 1 (.tmp 67))⟩ (.one ⟨(some 69), none, (.callM true (.func 37) [(.tmp 59), (.tmp 60), (.tmp 64), (.tmp 68)])⟩ (.one ⟨(some 58), none, (.mv (.tmp 69))⟩ (.one ⟨(some 70), none, (.ext (.tmp 58) 0)⟩ (.one ⟨(some 71), none, (.ext (.tmp 58) 1)⟩ (.one ⟨(some 11), none, (.mv (.tmp 70))⟩ (.one ⟨(some 12), none, (.mv (.tmp 71))⟩ .done)))))))))))))))))
                (.seq
                 (.seq
                  (.ops [
                    ⟨(some 72), none, (.mv (.tmp 12))⟩,
                    ⟨(some 73), none, (.un .not (.tmp 72))⟩])
                  (.cond (.tmp 73)
                   (.seq
                    (.ops [
                      ⟨(some 4), none, (.mv (.const (.slice none 0 0)))⟩,
                      ⟨(some 5), none, (.mv (.const (.bool false)))⟩])
                    .ret)
                   .skip))
                 (.seq
                  (.ops [
                    ⟨(some 74), none, (.mv (.tmp 6))⟩,
                    ⟨(some 75), none, (.mv (.tmp 10))⟩,
                    ⟨(some 76), none, (.idx 4 (.tmp 74) (.tmp 75))⟩,
                    ⟨(some 77), none, (.ld true 4 (.tmp 76))⟩,
                    ⟨(some 78), none, (.mv (.tmp 10))⟩,
                    ⟨(some 79), none, (.call (.func 38) [(.tmp 77), (.tmp 78)])⟩,
                    ⟨(some 80), none, (.len (.tmp 79))⟩,
                    ⟨(some 81), none, (.mv (.const (.int .i64 0)))⟩])
                  (.block 4
                   (.loop
                    (.seq
                     (.ops [
                       ⟨(some 82), none, (.bin .lss (.tmp 81) (.tmp 80))⟩])
                     (.seq
                      (.cond (.tmp 82)
                       .skip
                       (.exit 4))
                      (.seq
                       (.block 5
                        (.seq
                         (.ops [
                           ⟨(some 83), none, (.idx 1 (.tmp 79) (.tmp 81))⟩,
                           ⟨(some 84), none, (.ld false 1 (.tmp 83))⟩,
                           ⟨(some 14), none, (.mv (.tmp 84))⟩])
                         (.seq
                          (.seq
                           (.ops [
                             ⟨(some 85), none, (.mv (.tmp 14))⟩,
                             ⟨(some 86), none, (.bin .lss (.tmp 85) (.const (.int .i64 0)))⟩,
                             ⟨(some 87), none, (.mv (.tmp 86))⟩,
                             ⟨(some 88), (some (87, false)), (.mv (.tmp 14))⟩,
                             ⟨(some 89), (some (87, false)), (.mv (.tmp 6))⟩,
                             ⟨(some 90), (some (87, false)), (.len (.tmp 89))⟩,
                             ⟨(some 91), (some (87, false)), (.bin .geq (.tmp 88) (.tmp 90))⟩,
                             ⟨(some 92), none, (.pick (.tmp 87) (.const (.bool true)) (.tmp 91))⟩,
                             ⟨(some 93), none, (.mv (.tmp 92))⟩,
                             ⟨(some 94), (some (93, false)), (.mv (.tmp 7))⟩,
                             ⟨(some 95), (some (93, false)), (.mv (.tmp 14))⟩,
                             ⟨(some 96), (some (93, false)), (.idx 1 (.tmp 94) (.tmp 95))⟩,
                             ⟨(some 97), (some (93, false)), (.ld false 1 (.tmp 96))⟩,
                             ⟨(some 98), (some (93, false)), (.bin .geq (.tmp 97) (.const (.int .i64 0)))⟩,
                             ⟨(some 99), (some (93, false)), (.mv (.tmp 98))⟩,
                             ⟨(some 100), (some (99, true)), (.mv (.tmp 7))⟩,
                             ⟨(some 101), (some (99, true)), (.mv (.tmp 14))⟩,
                             ⟨(some 102), (some (99, true)), (.idx 1 (.tmp 100) (.tmp 101))⟩,
                             ⟨(some 103), (some (99, true)), (.ld false 1 (.tmp 102))⟩,
                             ⟨(some 104), (some (99, true)), (.mv (.tmp 11))⟩,
                             ⟨(some 105), (some (99, true)), (.bin .neq (.tmp 103) (.tmp 104))⟩,
                             ⟨(some 106), (some (93, false)), (.pick (.tmp 99) (.tmp 105) (.const (.bool false)))⟩,
                             ⟨(some 107), none, (.pick (.tmp 93) (.const (.bool true)) (.tmp 106))⟩])
                           (.cond (.tmp 107)
                            (.seq
                             (.ops [
                               ⟨(some 4), none, (.mv (.const (.slice none 0 0)))⟩,
                               ⟨(some 5), none, (.mv (.const (.bool false)))⟩])
                             .ret)
                            .skip))
                          (.seq
                           (.ops [
                             ⟨(some 108), none, (.mv (.tmp 7))⟩,
                             ⟨(some 109), none, (.mv (.tmp 14))⟩,
                             ⟨(some 110), none, (.idx 1 (.tmp 108) (.tmp 109))⟩,
                             ⟨(some 111), none, (.ld false 1 (.tmp 110))⟩,
                             ⟨(some 112), none, (.bin .lss (.tmp 111) (.const (.int .i64 0)))⟩])
                           (.cond (.tmp 112)
                            (.seq
                             (.ops [
                               ⟨(some 113), none, (.mv (.tmp 7))⟩,
                               ⟨(some 114), none, (.mv (.tmp 14))⟩,
                               ⟨(some 115), none, (.mv (.tmp 11))⟩,
                               ⟨(some 116), none, (.idx 1 (.tmp 113) (.tmp 114))⟩,
                               ⟨none, none, (.sto false 1 (.tmp 116) (.tmp 115))⟩])
                             (.ops [
                               ⟨(some 117), none, (.mv (.tmp 14))⟩,
                               ⟨(some 118), none, (.call (.func 34) [(.tmp 9), (.tmp 117)])⟩]))
                            .skip)))))
                       (.ops [
                         ⟨(some 119), none, (.bin .add (.tmp 81) (.const (.int .i64 1)))⟩,
                         ⟨(some 81), none, (.mv (.tmp 119))⟩]))))))))))))))
          (.seq
           (.ops [
             ⟨(some 120), none, (.mv (.tmp 7))⟩,
             ⟨(some 4), none, (.mv (.tmp 120))⟩,
             ⟨(some 5), none, (.mv (.const (.bool true)))⟩])
           .ret))))))))))
theorem f_stack_Depths : compF Try.prog 18 = some (121, c_stack_Depths, [(.tmp 4), (.tmp 5)]) := by kernel_rfl

/-- seedcorn/stack.Size -/
def c_stack_Size : VC :=
 (.seq
  (.ops [
    ⟨(some 1), none, (.box 24 (.tmp 0))⟩,
    ⟨(some 2), none, (.mv (.const (.int .i64 0)))⟩])
  (.seq
   (.ops [
     ⟨(some 3), none, (.mv (.const (.int .i64 0)))⟩])
   (.seq
    (.seq
     (.ops [
       ⟨(some 6), none, (.fad 1 false 1 (.tmp 1))⟩,
       ⟨(some 7), none, (.ld false 1 (.tmp 6))⟩,
       ⟨(some 8), none, (.len (.tmp 7))⟩,
       ⟨(some 9), none, (.mv (.const (.int .i64 0)))⟩])
     (.block 0
      (.loop
       (.seq
        (.ops [
          ⟨(some 10), none, (.bin .lss (.tmp 9) (.tmp 8))⟩])
        (.seq
         (.cond (.tmp 10)
          .skip
          (.exit 0))
         (.seq
          (.block 1
           (.seq
            (.ops [
              ⟨(some 11), none, (.idx 5 (.tmp 7) (.tmp 9))⟩,
              ⟨(some 12), none, (.ld true 5 (.tmp 11))⟩,
              ⟨(some 5), none, (.alc 39 [(.int .i64 0), (.int .i64 0), (.int .i64 0), (.bool false), (.slice none 0 0)])⟩,
              ⟨none, none, (.sto true 5 (.tmp 5) (.tmp 12))⟩])
            (.ops [
              ⟨(some 13), none, (.mv (.tmp 3))⟩,
              ⟨(some 14), none, (.fad 4 false 1 (.tmp 5))⟩,
              ⟨(some 15), none, (.ld false 1 (.tmp 14))⟩,
              ⟨(some 16), none, (.len (.tmp 15))⟩,
              ⟨(some 17), none, (.bin .add (.tmp 13) (.tmp 16))⟩,
              ⟨(some 3), none, (.mv (.tmp 17))⟩])))
          (.ops [
            ⟨(some 18), none, (.bin .add (.tmp 9) (.const (.int .i64 1)))⟩,
            ⟨(some 9), none, (.mv (.tmp 18))⟩])))))))
    (.seq
     (.ops [
       ⟨(some 19), none, (.mv (.tmp 3))⟩,
       ⟨(some 2), none, (.mv (.tmp 19))⟩])
     .ret))))
theorem f_stack_Size : compF Try.prog 19 = some (20, c_stack_Size, [(.tmp 2)]) := by kernel_rfl

/-- seedcorn/seedcornref20.Size -/
def c_scref20_Size : VC :=
 (.seq
  (.ops [
    ⟨(some 1), none, (.box 24 (.tmp 0))⟩,
    ⟨(some 2), none, (.mv (.const (.int .i64 0)))⟩])
  (.seq
   (.ops [
     ⟨(some 3), none, (.mv (.const (.int .i64 0)))⟩])
   (.seq
    (.seq
     (.ops [
       ⟨(some 4), none, (.mv (.const (.int .i64 0)))⟩])
     (.block 0
      (.loop
       (.seq
        (.seq
         (.ops [
           ⟨(some 5), none, (.mv (.tmp 4))⟩,
           ⟨(some 6), none, (.fad 1 false 1 (.tmp 1))⟩,
           ⟨(some 7), none, (.ld false 1 (.tmp 6))⟩,
           ⟨(some 8), none, (.len (.tmp 7))⟩,
           ⟨(some 9), none, (.bin .lss (.tmp 5) (.tmp 8))⟩])
         (.cond (.tmp 9)
          .skip
          (.exit 0)))
        (.seq
         (.block 1
          (.ops [
            ⟨(some 12), none, (.mv (.tmp 3))⟩,
            ⟨(some 13), none, (.fad 1 false 1 (.tmp 1))⟩,
            ⟨(some 14), none, (.ld false 1 (.tmp 13))⟩,
            ⟨(some 15), none, (.mv (.tmp 4))⟩,
            ⟨(some 16), none, (.idx 5 (.tmp 14) (.tmp 15))⟩,
            ⟨(some 17), none, (.fad 4 false 1 (.tmp 16))⟩,
            ⟨(some 18), none, (.ld false 1 (.tmp 17))⟩,
            ⟨(some 19), none, (.len (.tmp 18))⟩,
            ⟨(some 20), none, (.bin .add (.tmp 12) (.tmp 19))⟩,
            ⟨(some 3), none, (.mv (.tmp 20))⟩]))
         (.ops [
           ⟨(some 10), none, (.mv (.tmp 4))⟩,
           ⟨(some 11), none, (.bin .add (.tmp 10) (.const (.int .i64 1)))⟩,
           ⟨(some 4), none, (.mv (.tmp 11))⟩]))))))
    (.seq
     (.ops [
       ⟨(some 21), none, (.mv (.tmp 3))⟩,
       ⟨(some 2), none, (.mv (.tmp 21))⟩])
     .ret))))
theorem f_scref20_Size : compF Try.prog 20 = some (22, c_scref20_Size, [(.tmp 2)]) := by kernel_rfl

/-- seedcorn/seedcornref20.Fits -/
def c_scref20_Fits : VC :=
 (.seq
  (.ops [
    ⟨(some 3), none, (.box 24 (.tmp 0))⟩,
    ⟨(some 5), none, (.box 36 (.tmp 2))⟩,
    ⟨(some 6), none, (.mv (.const (.bool false)))⟩])
  (.seq
   (.seq
    (.ops [
      ⟨(some 7), none, (.fad 0 false 1 (.tmp 5))⟩,
      ⟨(some 8), none, (.ld false 1 (.tmp 7))⟩,
      ⟨(some 9), none, (.bin .neq (.tmp 8) (.const (.int .i64 1)))⟩,
      ⟨(some 10), none, (.mv (.tmp 9))⟩,
      ⟨(some 11), (some (10, true)), (.fad 3 false 1 (.tmp 5))⟩,
      ⟨(some 12), (some (10, true)), (.ld false 1 (.tmp 11))⟩,
      ⟨(some 13), (some (10, true)), (.bin .neq (.tmp 12) (.const (.int .u32 0)))⟩,
      ⟨(some 14), none, (.pick (.tmp 10) (.tmp 13) (.const (.bool false)))⟩,
      ⟨(some 15), none, (.mv (.tmp 14))⟩,
      ⟨(some 16), (some (15, false)), (.fad 0 false 1 (.tmp 5))⟩,
      ⟨(some 17), (some (15, false)), (.ld false 1 (.tmp 16))⟩,
      ⟨(some 18), (some (15, false)), (.bin .neq (.tmp 17) (.const (.int .i64 4)))⟩,
      ⟨(some 19), (some (15, false)), (.mv (.tmp 18))⟩,
      ⟨(some 20), (some (19, true)), (.fad 0 false 1 (.tmp 5))⟩,
      ⟨(some 21), (some (19, true)), (.ld false 1 (.tmp 20))⟩,
      ⟨(some 22), (some (19, true)), (.bin .neq (.tmp 21) (.const (.int .i64 5)))⟩,
      ⟨(some 23), (some (15, false)), (.pick (.tmp 19) (.tmp 22) (.const (.bool false)))⟩,
      ⟨(some 24), (some (15, false)), (.mv (.tmp 23))⟩,
      ⟨(some 25), (some (24, true)), (.fad 2 false 1 (.tmp 5))⟩,
      ⟨(some 26), (some (24, true)), (.ld false 1 (.tmp 25))⟩,
      ⟨(some 27), (some (24, true)), (.bin .neq (.tmp 26) (.const (.int .i64 0)))⟩,
      ⟨(some 28), (some (15, false)), (.pick (.tmp 24) (.tmp 27) (.const (.bool false)))⟩,
      ⟨(some 29), none, (.pick (.tmp 15) (.const (.bool true)) (.tmp 28))⟩])
    (.cond (.tmp 29)
     (.seq
      (.ops [
        ⟨(some 6), none, (.mv (.const (.bool false)))⟩])
      .ret)
     .skip))
   (.seq
    (.seq
     (.ops [
       ⟨(some 30), none, (.fad 0 false 1 (.tmp 5))⟩,
       ⟨(some 31), none, (.ld false 1 (.tmp 30))⟩])
     (.block 0
      (.seq
       (.seq
        (.ops [
          ⟨(some 33), none, (.bin .eql (.tmp 31) (.const (.int .i64 1)))⟩,
          ⟨(some 32), none, (.mv (.tmp 33))⟩])
        (.cond (.tmp 32)
         .skip
         (.seq
          (.ops [
            ⟨(some 34), none, (.bin .eql (.tmp 31) (.const (.int .i64 7)))⟩,
            ⟨(some 32), none, (.mv (.tmp 34))⟩])
          (.cond (.tmp 32)
           .skip
           (.seq
            (.ops [
              ⟨(some 35), none, (.bin .eql (.tmp 31) (.const (.int .i64 11)))⟩,
              ⟨(some 32), none, (.mv (.tmp 35))⟩])
            (.cond (.tmp 32)
             .skip
             (.seq
              (.ops [
                ⟨(some 36), none, (.bin .eql (.tmp 31) (.const (.int .i64 12)))⟩,
                ⟨(some 32), none, (.mv (.tmp 36))⟩])
              (.cond (.tmp 32)
               .skip
               (.ops [
                 ⟨(some 37), none, (.bin .eql (.tmp 31) (.const (.int .i64 13)))⟩,
                 ⟨(some 32), none, (.mv (.tmp 37))⟩])))))))))
       (.cond (.tmp 32)
        (.seq
         (.ops [
           ⟨(some 38), none, (.fad 1 false 1 (.tmp 5))⟩,
           ⟨(some 39), none, (.ld false 1 (.tmp 38))⟩,
           ⟨(some 40), none, (.bin .eql (.tmp 39) (.const (.int .i64 0)))⟩,
           ⟨(some 6), none, (.mv (.tmp 40))⟩])
         .ret)
        (.seq
         (.seq
          (.ops [
            ⟨(some 42), none, (.bin .eql (.tmp 31) (.const (.int .i64 2)))⟩,
            ⟨(some 41), none, (.mv (.tmp 42))⟩])
          (.cond (.tmp 41)
           .skip
           (.ops [
             ⟨(some 43), none, (.bin .eql (.tmp 31) (.const (.int .i64 3)))⟩,
             ⟨(some 41), none, (.mv (.tmp 43))⟩])))
         (.cond (.tmp 41)
          (.seq
           (.ops [
             ⟨(some 44), none, (.fad 1 false 1 (.tmp 5))⟩,
             ⟨(some 45), none, (.ld false 1 (.tmp 44))⟩,
             ⟨(some 46), none, (.bin .geq (.tmp 45) (.const (.int .i64 0)))⟩,
             ⟨(some 47), none, (.mv (.tmp 46))⟩,
             ⟨(some 48), (some (47, true)), (.fad 1 false 1 (.tmp 5))⟩,
             ⟨(some 49), (some (47, true)), (.ld false 1 (.tmp 48))⟩,
             ⟨(some 50), (some (47, true)), (.fad 0 false 1 (.tmp 3))⟩,
             ⟨(some 51), (some (47, true)), (.ld false 1 (.tmp 50))⟩,
             ⟨(some 52), (some (47, true)), (.bin .lss (.tmp 49) (.tmp 51))⟩,
             ⟨(some 53), none, (.pick (.tmp 47) (.tmp 52) (.const (.bool false)))⟩,
             ⟨(some 6), none, (.mv (.tmp 53))⟩])
           .ret)
          (.seq
           (.seq
            (.ops [
              ⟨(some 55), none, (.bin .eql (.tmp 31) (.const (.int .i64 4)))⟩,
              ⟨(some 54), none, (.mv (.tmp 55))⟩])
            (.cond (.tmp 54)
             .skip
             (.ops [
               ⟨(some 56), none, (.bin .eql (.tmp 31) (.const (.int .i64 5)))⟩,
               ⟨(some 54), none, (.mv (.tmp 56))⟩])))
           (.cond (.tmp 54)
            (.seq
             (.ops [
               ⟨(some 57), none, (.fad 1 false 1 (.tmp 5))⟩,
               ⟨(some 58), none, (.ld false 1 (.tmp 57))⟩,
               ⟨(some 59), none, (.bin .geq (.tmp 58) (.const (.int .i64 0)))⟩,
               ⟨(some 60), none, (.mv (.tmp 59))⟩,
               ⟨(some 61), (some (60, true)), (.fad 2 false 1 (.tmp 5))⟩,
               ⟨(some 62), (some (60, true)), (.ld false 1 (.tmp 61))⟩,
               ⟨(some 63), (some (60, true)), (.bin .geq (.tmp 62) (.const (.int .i64 1)))⟩,
               ⟨(some 64), none, (.pick (.tmp 60) (.tmp 63) (.const (.bool false)))⟩,
               ⟨(some 65), none, (.mv (.tmp 64))⟩,
               ⟨(some 66), (some (65, true)), (.fad 2 false 1 (.tmp 5))⟩,
               ⟨(some 67), (some (65, true)), (.ld false 1 (.tmp 66))⟩,
               ⟨(some 68), (some (65, true)), (.bin .leq (.tmp 67) (.const (.int .i64 4096)))⟩,
               ⟨(some 69), none, (.pick (.tmp 65) (.tmp 68) (.const (.bool false)))⟩,
               ⟨(some 70), none, (.mv (.tmp 69))⟩,
               ⟨(some 71), (some (70, true)), (.fad 1 false 1 (.tmp 5))⟩,
               ⟨(some 72), (some (70, true)), (.ld false 1 (.tmp 71))⟩,
               ⟨(some 73), (some (70, true)), (.fad 0 false 1 (.tmp 3))⟩,
               ⟨(some 74), (some (70, true)), (.ld false 1 (.tmp 73))⟩,
               ⟨(some 75), (some (70, true)), (.fad 2 false 1 (.tmp 5))⟩,
               ⟨(some 76), (some (70, true)), (.ld false 1 (.tmp 75))⟩,
               ⟨(some 77), (some (70, true)), (.bin .sub (.tmp 74) (.tmp 76))⟩,
               ⟨(some 78), (some (70, true)), (.bin .leq (.tmp 72) (.tmp 77))⟩,
               ⟨(some 79), none, (.pick (.tmp 70) (.tmp 78) (.const (.bool false)))⟩,
               ⟨(some 6), none, (.mv (.tmp 79))⟩])
             .ret)
            (.seq
             (.ops [
               ⟨(some 81), none, (.bin .eql (.tmp 31) (.const (.int .i64 6)))⟩,
               ⟨(some 80), none, (.mv (.tmp 81))⟩])
             (.cond (.tmp 80)
              (.seq
               (.ops [
                 ⟨(some 82), none, (.fad 1 false 1 (.tmp 5))⟩,
                 ⟨(some 83), none, (.ld false 1 (.tmp 82))⟩,
                 ⟨(some 84), none, (.bin .geq (.tmp 83) (.const (.int .i64 4)))⟩,
                 ⟨(some 85), none, (.mv (.tmp 84))⟩,
                 ⟨(some 86), (some (85, true)), (.fad 1 false 1 (.tmp 5))⟩,
                 ⟨(some 87), (some (85, true)), (.ld false 1 (.tmp 86))⟩,
                 ⟨(some 88), (some (85, true)), (.bin .leq (.tmp 87) (.const (.int .i64 15)))⟩,
                 ⟨(some 89), none, (.pick (.tmp 85) (.tmp 88) (.const (.bool false)))⟩,
                 ⟨(some 6), none, (.mv (.tmp 89))⟩])
               .ret)
              (.seq
               (.seq
                (.ops [
                  ⟨(some 91), none, (.bin .eql (.tmp 31) (.const (.int .i64 8)))⟩,
                  ⟨(some 90), none, (.mv (.tmp 91))⟩])
                (.cond (.tmp 90)
                 .skip
                 (.ops [
                   ⟨(some 92), none, (.bin .eql (.tmp 31) (.const (.int .i64 9)))⟩,
                   ⟨(some 90), none, (.mv (.tmp 92))⟩])))
               (.cond (.tmp 90)
                (.seq
                 (.ops [
                   ⟨(some 93), none, (.fad 1 false 1 (.tmp 5))⟩,
                   ⟨(some 94), none, (.ld false 1 (.tmp 93))⟩,
                   ⟨(some 95), none, (.bin .geq (.tmp 94) (.const (.int .i64 0)))⟩,
                   ⟨(some 96), none, (.mv (.tmp 95))⟩,
                   ⟨(some 97), (some (96, true)), (.fad 1 false 1 (.tmp 5))⟩,
                   ⟨(some 98), (some (96, true)), (.ld false 1 (.tmp 97))⟩,
                   ⟨(some 99), (some (96, true)), (.fad 1 false 1 (.tmp 3))⟩,
                   ⟨(some 100), (some (96, true)), (.ld false 1 (.tmp 99))⟩,
                   ⟨(some 101), (some (96, true)), (.mv (.tmp 1))⟩,
                   ⟨(some 102), (some (96, true)), (.idx 5 (.tmp 100) (.tmp 101))⟩,
                   ⟨(some 103), (some (96, true)), (.fad 4 false 1 (.tmp 102))⟩,
                   ⟨(some 104), (some (96, true)), (.ld false 1 (.tmp 103))⟩,
                   ⟨(some 105), (some (96, true)), (.len (.tmp 104))⟩,
                   ⟨(some 106), (some (96, true)), (.bin .lss (.tmp 98) (.tmp 105))⟩,
                   ⟨(some 107), none, (.pick (.tmp 96) (.tmp 106) (.const (.bool false)))⟩,
                   ⟨(some 6), none, (.mv (.tmp 107))⟩])
                 .ret)
                (.seq
                 (.ops [
                   ⟨(some 109), none, (.bin .eql (.tmp 31) (.const (.int .i64 10)))⟩,
                   ⟨(some 108), none, (.mv (.tmp 109))⟩])
                 (.cond (.tmp 108)
                  (.seq
                   (.ops [
                     ⟨(some 110), none, (.fad 1 false 1 (.tmp 5))⟩,
                     ⟨(some 111), none, (.ld false 1 (.tmp 110))⟩,
                     ⟨(some 112), none, (.bin .geq (.tmp 111) (.const (.int .i64 0)))⟩,
                     ⟨(some 113), none, (.mv (.tmp 112))⟩,
                     ⟨(some 114), (some (113, true)), (.fad 1 false 1 (.tmp 5))⟩,
                     ⟨(some 115), (some (113, true)), (.ld false 1 (.tmp 114))⟩,
                     ⟨(some 116), (some (113, true)), (.mv (.tmp 1))⟩,
                     ⟨(some 117), (some (113, true)), (.bin .lss (.tmp 115) (.tmp 116))⟩,
                     ⟨(some 118), none, (.pick (.tmp 113) (.tmp 117) (.const (.bool false)))⟩,
                     ⟨(some 6), none, (.mv (.tmp 118))⟩])
                   .ret)
                  .skip))))))))))))))
    (.seq
     (.ops [
       ⟨(some 6), none, (.mv (.const (.bool false)))⟩])
     .ret))))
theorem f_scref20_Fits : compF Try.prog 21 = some (119, c_scref20_Fits, [(.tmp 6)]) := by kernel_rfl

/-- seedcorn/seedcornref20.Depths -/
def c_scref20_Depths : VC :=
 (.seq
  (.ops [
    ⟨(some 2), none, (.box 24 (.tmp 0))⟩,
    ⟨(some 4), none, (.mv (.const (.slice none 0 0)))⟩,
    ⟨(some 5), none, (.mv (.const (.bool false)))⟩])
  (.seq
   (.seq
    (.ops [
      ⟨(some 18), none, (.mv (.tmp 1))⟩,
      ⟨(some 19), none, (.bin .lss (.tmp 18) (.const (.int .i64 0)))⟩,
      ⟨(some 20), none, (.mv (.tmp 19))⟩,
      ⟨(some 21), (some (20, false)), (.mv (.tmp 1))⟩,
      ⟨(some 22), (some (20, false)), (.fad 1 false 1 (.tmp 2))⟩,
      ⟨(some 23), (some (20, false)), (.ld false 1 (.tmp 22))⟩,
      ⟨(some 24), (some (20, false)), (.len (.tmp 23))⟩,
      ⟨(some 25), (some (20, false)), (.bin .geq (.tmp 21) (.tmp 24))⟩,
      ⟨(some 26), none, (.pick (.tmp 20) (.const (.bool true)) (.tmp 25))⟩,
      ⟨(some 27), none, (.mv (.tmp 26))⟩,
      ⟨(some 28), (some (27, false)), (.fad 1 false 1 (.tmp 2))⟩,
      ⟨(some 29), (some (27, false)), (.ld false 1 (.tmp 28))⟩,
      ⟨(some 30), (some (27, false)), (.mv (.tmp 1))⟩,
      ⟨(some 31), (some (27, false)), (.idx 5 (.tmp 29) (.tmp 30))⟩,
      ⟨(some 32), (some (27, false)), (.fad 4 false 1 (.tmp 31))⟩,
      ⟨(some 33), (some (27, false)), (.ld false 1 (.tmp 32))⟩,
      ⟨(some 34), (some (27, false)), (.len (.tmp 33))⟩,
      ⟨(some 35), (some (27, false)), (.bin .eql (.tmp 34) (.const (.int .i64 0)))⟩,
      ⟨(some 36), none, (.pick (.tmp 27) (.const (.bool true)) (.tmp 35))⟩])
    (.cond (.tmp 36)
     (.seq
      (.ops [
        ⟨(some 4), none, (.mv (.const (.slice none 0 0)))⟩,
        ⟨(some 5), none, (.mv (.const (.bool false)))⟩])
      .ret)
     .skip))
   (.seq
    (.ops [
      ⟨(some 37), none, (.fad 1 false 1 (.tmp 2))⟩,
      ⟨(some 38), none, (.ld false 1 (.tmp 37))⟩,
      ⟨(some 39), none, (.mv (.tmp 1))⟩,
      ⟨(some 40), none, (.idx 5 (.tmp 38) (.tmp 39))⟩,
      ⟨(some 41), none, (.fad 4 false 1 (.tmp 40))⟩,
      ⟨(some 42), none, (.ld false 1 (.tmp 41))⟩,
      ⟨(some 6), none, (.mv (.tmp 42))⟩])
    (.seq
     (.ops [
       ⟨(some 43), none, (.mv (.tmp 6))⟩,
       ⟨(some 44), none, (.len (.tmp 43))⟩,
       ⟨(some 45), none, (.mk 3 1 8 [(.int .i64 0)] (.tmp 44) (.tmp 44))⟩,
       ⟨(some 7), none, (.mv (.tmp 45))⟩])
     (.seq
      (.seq
       (.ops [
         ⟨(some 8), none, (.mv (.const (.int .i64 0)))⟩])
       (.block 0
        (.loop
         (.seq
          (.seq
           (.ops [
             ⟨(some 46), none, (.mv (.tmp 8))⟩,
             ⟨(some 47), none, (.mv (.tmp 7))⟩,
             ⟨(some 48), none, (.len (.tmp 47))⟩,
             ⟨(some 49), none, (.bin .lss (.tmp 46) (.tmp 48))⟩])
           (.cond (.tmp 49)
            .skip
            (.exit 0)))
          (.seq
           (.block 1
            (.ops [
              ⟨(some 52), none, (.mv (.tmp 7))⟩,
              ⟨(some 53), none, (.mv (.tmp 8))⟩,
              ⟨(some 54), none, (.idx 1 (.tmp 52) (.tmp 53))⟩,
              ⟨none, none, (.sto false 1 (.tmp 54) (.const (.int .i64 (-1))))⟩]))
           (.ops [
             ⟨(some 50), none, (.mv (.tmp 8))⟩,
             ⟨(some 51), none, (.bin .add (.tmp 50) (.const (.int .i64 1)))⟩,
             ⟨(some 8), none, (.mv (.tmp 51))⟩]))))))
      (.seq
       (.ops [
         ⟨(some 55), none, (.mv (.tmp 7))⟩,
         ⟨(some 56), none, (.idx 1 (.tmp 55) (.const (.int .i64 0)))⟩,
         ⟨none, none, (.sto false 1 (.tmp 56) (.const (.int .i64 0)))⟩])
       (.seq
        (.ops [
          ⟨(some 57), none, (.bsl 3 1 1 [(.int .i64 0)] [(0, (1, (.const (.int .i64 0))))])⟩,
          ⟨(some 9), none, (.mv (.tmp 57))⟩])
        (.seq
         (.block 2
          (.loop
           (.seq
            (.seq
             (.ops [
               ⟨(some 58), none, (.mv (.tmp 9))⟩,
               ⟨(some 59), none, (.len (.tmp 58))⟩,
               ⟨(some 60), none, (.bin .gtr (.tmp 59) (.const (.int .i64 0)))⟩])
             (.cond (.tmp 60)
              .skip
              (.exit 2)))
            (.block 3
             (.seq
              (.ops [
                ⟨(some 61), none, (.mv (.tmp 9))⟩,
                ⟨(some 62), none, (.idx 1 (.tmp 61) (.const (.int .i64 0)))⟩,
                ⟨(some 63), none, (.ld false 1 (.tmp 62))⟩,
                ⟨(some 10), none, (.mv (.tmp 63))⟩])
              (.seq
               (.ops [
                 ⟨(some 64), none, (.mv (.tmp 9))⟩,
                 ⟨(some 65), none, (.sl 1 (.tmp 64) (some (.const (.int .i64 1))) none)⟩,
                 ⟨(some 9), none, (.mv (.tmp 65))⟩])
               (.seq
                (.par false (.one ⟨(some 67), none, (.ld true 2 (.tmp 2))⟩ (.one ⟨(some 68), none, (.mv (.tmp 1))⟩ (.one ⟨(some 69), none, (.mv (.tmp 6))⟩ (.one ⟨(some 70), none, (.mv (.tmp 10))⟩ (.one ⟨(some 71), none, (.idx 4 (.tmp 69) (.tmp 70))⟩ (.one ⟨(some 72), none, (.ld true 4 (.tmp 71))⟩ (.one ⟨(some 73), none, (.callM true (.func 39) [(.tmp 67), (.tmp 68), (.tmp 72)])⟩ (.one ⟨(some 66), none, (.mv (.tmp 73))⟩ (.one ⟨(some 74), none, (.ext (.tmp 66) 0)⟩ (.one ⟨(some 75), none, (.ext (.tmp 66) 1)⟩ (.one ⟨(some 76), none, (.ext (.tmp 66) 2)⟩ (.one ⟨(some 11), none, (.mv (.tmp 74))⟩ (.one ⟨(some 12), none, (.mv (.tmp 75))⟩ (.one ⟨(some 13), none, (.mv (.tmp 76))⟩ .done)))))))))))))))
                (.seq
                 (.seq
                  (.ops [
                    ⟨(some 77), none, (.mv (.tmp 13))⟩,
                    ⟨(some 78), none, (.un .not (.tmp 77))⟩,
                    ⟨(some 79), none, (.mv (.tmp 78))⟩,
                    ⟨(some 80), (some (79, false)), (.mv (.tmp 11))⟩,
                    ⟨(some 81), (some (79, false)), (.bin .lss (.tmp 80) (.const (.int .i64 0)))⟩,
                    ⟨(some 82), none, (.pick (.tmp 79) (.const (.bool true)) (.tmp 81))⟩,
                    ⟨(some 83), none, (.mv (.tmp 82))⟩,
                    ⟨(some 84), (some (83, false)), (.mv (.tmp 7))⟩,
                    ⟨(some 85), (some (83, false)), (.mv (.tmp 10))⟩,
                    ⟨(some 86), (some (83, false)), (.idx 1 (.tmp 84) (.tmp 85))⟩,
                    ⟨(some 87), (some (83, false)), (.ld false 1 (.tmp 86))⟩,
                    ⟨(some 88), (some (83, false)), (.mv (.tmp 11))⟩,
                    ⟨(some 89), (some (83, false)), (.bin .lss (.tmp 87) (.tmp 88))⟩,
                    ⟨(some 90), none, (.pick (.tmp 83) (.const (.bool true)) (.tmp 89))⟩,
                    ⟨(some 91), none, (.mv (.tmp 90))⟩,
                    ⟨(some 92), (some (91, false)), (.mv (.tmp 6))⟩,
                    ⟨(some 93), (some (91, false)), (.mv (.tmp 10))⟩,
                    ⟨(some 94), (some (91, false)), (.idx 4 (.tmp 92) (.tmp 93))⟩,
                    ⟨(some 95), (some (91, false)), (.fad 0 false 1 (.tmp 94))⟩,
                    ⟨(some 96), (some (91, false)), (.ld false 1 (.tmp 95))⟩,
                    ⟨(some 97), (some (91, false)), (.bin .eql (.tmp 96) (.const (.int .i64 11)))⟩,
                    ⟨(some 98), (some (91, false)), (.mv (.tmp 97))⟩,
                    ⟨(some 99), (some (98, true)), (.mv (.tmp 7))⟩,
                    ⟨(some 100), (some (98, true)), (.mv (.tmp 10))⟩,
                    ⟨(some 101), (some (98, true)), (.idx 1 (.tmp 99) (.tmp 100))⟩,
                    ⟨(some 102), (some (98, true)), (.ld false 1 (.tmp 101))⟩,
                    ⟨(some 103), (some (98, true)), (.mv (.tmp 11))⟩,
                    ⟨(some 104), (some (98, true)), (.bin .neq (.tmp 102) (.tmp 103))⟩,
                    ⟨(some 105), (some (91, false)), (.pick (.tmp 98) (.tmp 104) (.const (.bool false)))⟩,
                    ⟨(some 106), none, (.pick (.tmp 91) (.const (.bool true)) (.tmp 105))⟩])
                  (.cond (.tmp 106)
                   (.seq
                    (.ops [
                      ⟨(some 4), none, (.mv (.const (.slice none 0 0)))⟩,
                      ⟨(some 5), none, (.mv (.const (.bool false)))⟩])
                    .ret)
                   .skip))
                 (.seq
                  (.ops [
                    ⟨(some 107), none, (.mv (.tmp 7))⟩,
                    ⟨(some 108), none, (.mv (.tmp 10))⟩,
                    ⟨(some 109), none, (.idx 1 (.tmp 107) (.tmp 108))⟩,
                    ⟨(some 110), none, (.ld false 1 (.tmp 109))⟩,
                    ⟨(some 111), none, (.mv (.tmp 11))⟩,
                    ⟨(some 112), none, (.bin .sub (.tmp 110) (.tmp 111))⟩,
                    ⟨(some 113), none, (.mv (.tmp 12))⟩,
                    ⟨(some 114), none, (.bin .add (.tmp 112) (.tmp 113))⟩,
                    ⟨(some 14), none, (.mv (.tmp 114))⟩])
                  (.seq
                   (.ops [
                     ⟨(some 115), none, (.mv (.tmp 6))⟩,
                     ⟨(some 116), none, (.mv (.tmp 10))⟩,
                     ⟨(some 117), none, (.idx 4 (.tmp 115) (.tmp 116))⟩,
                     ⟨(some 118), none, (.ld true 4 (.tmp 117))⟩,
                     ⟨(some 119), none, (.mv (.tmp 10))⟩,
                     ⟨(some 120), none, (.call (.func 40) [(.tmp 118), (.tmp 119)])⟩,
                     ⟨(some 15), none, (.mv (.tmp 120))⟩])
                   (.seq
                    (.ops [
                      ⟨(some 16), none, (.mv (.const (.int .i64 0)))⟩])
                    (.block 4
                     (.loop
                      (.seq
                       (.seq
                        (.ops [
                          ⟨(some 121), none, (.mv (.tmp 16))⟩,
                          ⟨(some 122), none, (.mv (.tmp 15))⟩,
                          ⟨(some 123), none, (.len (.tmp 122))⟩,
                          ⟨(some 124), none, (.bin .lss (.tmp 121) (.tmp 123))⟩])
                        (.cond (.tmp 124)
                         .skip
                         (.exit 4)))
                       (.seq
                        (.block 5
                         (.seq
                          (.ops [
                            ⟨(some 127), none, (.mv (.tmp 15))⟩,
                            ⟨(some 128), none, (.mv (.tmp 16))⟩,
                            ⟨(some 129), none, (.idx 1 (.tmp 127) (.tmp 128))⟩,
                            ⟨(some 130), none, (.ld false 1 (.tmp 129))⟩,
                            ⟨(some 17), none, (.mv (.tmp 130))⟩])
                          (.seq
                           (.seq
                            (.ops [
                              ⟨(some 131), none, (.mv (.tmp 17))⟩,
                              ⟨(some 132), none, (.bin .lss (.tmp 131) (.const (.int .i64 0)))⟩,
                              ⟨(some 133), none, (.mv (.tmp 132))⟩,
                              ⟨(some 134), (some (133, false)), (.mv (.tmp 17))⟩,
                              ⟨(some 135), (some (133, false)), (.mv (.tmp 6))⟩,
                              ⟨(some 136), (some (133, false)), (.len (.tmp 135))⟩,
                              ⟨(some 137), (some (133, false)), (.bin .geq (.tmp 134) (.tmp 136))⟩,
                              ⟨(some 138), none, (.pick (.tmp 133) (.const (.bool true)) (.tmp 137))⟩,
                              ⟨(some 139), none, (.mv (.tmp 138))⟩,
                              ⟨(some 140), (some (139, false)), (.mv (.tmp 7))⟩,
                              ⟨(some 141), (some (139, false)), (.mv (.tmp 17))⟩,
                              ⟨(some 142), (some (139, false)), (.idx 1 (.tmp 140) (.tmp 141))⟩,
                              ⟨(some 143), (some (139, false)), (.ld false 1 (.tmp 142))⟩,
                              ⟨(some 144), (some (139, false)), (.bin .geq (.tmp 143) (.const (.int .i64 0)))⟩,
                              ⟨(some 145), (some (139, false)), (.mv (.tmp 144))⟩,
                              ⟨(some 146), (some (145, true)), (.mv (.tmp 7))⟩,
                              ⟨(some 147), (some (145, true)), (.mv (.tmp 17))⟩,
                              ⟨(some 148), (some (145, true)), (.idx 1 (.tmp 146) (.tmp 147))⟩,
                              ⟨(some 149), (some (145, true)), (.ld false 1 (.tmp 148))⟩,
                              ⟨(some 150), (some (145, true)), (.mv (.tmp 14))⟩,
                              ⟨(some 151), (some (145, true)), (.bin .neq (.tmp 149) (.tmp 150))⟩,
                              ⟨(some 152), (some (139, false)), (.pick (.tmp 145) (.tmp 151) (.const (.bool false)))⟩,
                              ⟨(some 153), none, (.pick (.tmp 139) (.const (.bool true)) (.tmp 152))⟩])
                            (.cond (.tmp 153)
                             (.seq
                              (.ops [
                                ⟨(some 4), none, (.mv (.const (.slice none 0 0)))⟩,
                                ⟨(some 5), none, (.mv (.const (.bool false)))⟩])
                              .ret)
                             .skip))
                           (.seq
                            (.ops [
                              ⟨(some 154), none, (.mv (.tmp 7))⟩,
                              ⟨(some 155), none, (.mv (.tmp 17))⟩,
                              ⟨(some 156), none, (.idx 1 (.tmp 154) (.tmp 155))⟩,
                              ⟨(some 157), none, (.ld false 1 (.tmp 156))⟩,
                              ⟨(some 158), none, (.bin .lss (.tmp 157) (.const (.int .i64 0)))⟩])
                            (.cond (.tmp 158)
                             (.seq
                              (.ops [
                                ⟨(some 159), none, (.mv (.tmp 7))⟩,
                                ⟨(some 160), none, (.mv (.tmp 17))⟩,
                                ⟨(some 161), none, (.mv (.tmp 14))⟩,
                                ⟨(some 162), none, (.idx 1 (.tmp 159) (.tmp 160))⟩,
                                ⟨none, none, (.sto false 1 (.tmp 162) (.tmp 161))⟩])
                              (.ops [
                                ⟨(some 163), none, (.mv (.tmp 9))⟩,
                                ⟨(some 164), none, (.mv (.tmp 17))⟩,
                                ⟨(some 165), none, (.bsl 3 1 1 [(.int .i64 0)] [(0, (1, (.tmp 164)))])⟩,
                                ⟨(some 166), none, (.app 3 1 8 (.tmp 163) (.tmp 165))⟩,
                                ⟨(some 9), none, (.mv (.tmp 166))⟩]))
                             .skip)))))
                        (.ops [
                          ⟨(some 125), none, (.mv (.tmp 16))⟩,
                          ⟨(some 126), none, (.bin .add (.tmp 125) (.const (.int .i64 1)))⟩,
                          ⟨(some 16), none, (.mv (.tmp 126))⟩]))))))))))))))))
         (.seq
          (.ops [
            ⟨(some 167), none, (.mv (.tmp 7))⟩,
            ⟨(some 4), none, (.mv (.tmp 167))⟩,
            ⟨(some 5), none, (.mv (.const (.bool true)))⟩])
          .ret)))))))))
theorem f_scref20_Depths : compF Try.prog 22 = some (168, c_scref20_Depths, [(.tmp 4), (.tmp 5)]) := by kernel_rfl

/-- (*seedcorn/stack.pile[uint32]).pop -/
def c_stack_pile_uint32_pop : VC :=
 (.seq
  (.ops [
    ⟨(some 2), none, (.mv (.const (.int .u32 0)))⟩])
  (.seq
   (.ops [
     ⟨(some 5), none, (.mv (.tmp 0))⟩,
     ⟨(some 6), none, (.nck (.tmp 5))⟩,
     ⟨(some 7), none, (.fad 0 false 1 (.tmp 6))⟩,
     ⟨(some 8), none, (.ld false 1 (.tmp 7))⟩,
     ⟨(some 9), none, (.len (.tmp 8))⟩,
     ⟨(some 10), none, (.bin .sub (.tmp 9) (.const (.int .i64 1)))⟩,
     ⟨(some 3), none, (.mv (.tmp 10))⟩])
   (.seq
    (.ops [
      ⟨(some 11), none, (.mv (.tmp 0))⟩,
      ⟨(some 12), none, (.nck (.tmp 11))⟩,
      ⟨(some 13), none, (.fad 0 false 1 (.tmp 12))⟩,
      ⟨(some 14), none, (.ld false 1 (.tmp 13))⟩,
      ⟨(some 15), none, (.mv (.tmp 3))⟩,
      ⟨(some 16), none, (.idx 1 (.tmp 14) (.tmp 15))⟩,
      ⟨(some 17), none, (.ld false 1 (.tmp 16))⟩,
      ⟨(some 4), none, (.mv (.tmp 17))⟩])
    (.seq
     (.ops [
       ⟨(some 18), none, (.mv (.tmp 0))⟩,
       ⟨(some 19), none, (.mv (.tmp 0))⟩,
       ⟨(some 20), none, (.nck (.tmp 19))⟩,
       ⟨(some 21), none, (.fad 0 false 1 (.tmp 20))⟩,
       ⟨(some 22), none, (.ld false 1 (.tmp 21))⟩,
       ⟨(some 23), none, (.mv (.tmp 3))⟩,
       ⟨(some 24), none, (.sl 1 (.tmp 22) none (some (.tmp 23)))⟩,
       ⟨(some 25), none, (.nck (.tmp 18))⟩,
       ⟨(some 26), none, (.fad 0 false 1 (.tmp 25))⟩,
       ⟨none, none, (.sto false 1 (.tmp 26) (.tmp 24))⟩])
     (.seq
      (.ops [
        ⟨(some 27), none, (.mv (.tmp 4))⟩,
        ⟨(some 2), none, (.mv (.tmp 27))⟩])
      .ret)))))
theorem f_stack_pile_uint32_pop : compF Try.prog 23 = some (28, c_stack_pile_uint32_pop, [(.tmp 2)]) := by kernel_rfl

/-- (*seedcorn/stack.machine).enter -/
def c_stack_machine_enter : VC :=
 (.seq
  (.ops [
    ⟨(some 3), none, (.box 39 (.tmp 1))⟩])
  (.seq
   (.ops [
     ⟨(some 5), none, (.mv (.tmp 0))⟩,
     ⟨(some 6), none, (.nck (.tmp 5))⟩,
     ⟨(some 7), none, (.fad 2 false 1 (.tmp 6))⟩,
     ⟨(some 8), none, (.ld false 1 (.tmp 7))⟩,
     ⟨(some 9), none, (.fad 2 false 1 (.tmp 3))⟩,
     ⟨(some 10), none, (.ld false 1 (.tmp 9))⟩,
     ⟨(some 11), none, (.fad 2 false 1 (.tmp 3))⟩,
     ⟨(some 12), none, (.ld false 1 (.tmp 11))⟩,
     ⟨(some 13), none, (.fad 1 false 1 (.tmp 3))⟩,
     ⟨(some 14), none, (.ld false 1 (.tmp 13))⟩,
     ⟨(some 15), none, (.bin .add (.tmp 12) (.tmp 14))⟩,
     ⟨(some 16), none, (.sl 1 (.tmp 8) (some (.tmp 10)) (some (.tmp 15)))⟩,
     ⟨(some 4), none, (.mv (.tmp 16))⟩])
   (.seq
    (.ops [
      ⟨(some 17), none, (.mv (.tmp 4))⟩,
      ⟨none, none, (.eff (.clr (.int .u32 0)) [(.tmp 17)])⟩])
    (.par false (.one ⟨(some 18), none, (.mv (.tmp 4))⟩ (.one ⟨(some 19), none, (.mv (.tmp 0))⟩ (.one ⟨(some 20), none, (.nck (.tmp 19))⟩ (.one ⟨(some 21), none, (.fad 3 true 1 (.tmp 20))⟩ (.one ⟨(some 22), none, (.fad 0 false 1 (.tmp 3))⟩ (.one ⟨(some 23), none, (.ld false 1 (.tmp 22))⟩ (.one ⟨(some 24), none, (.callM true (.func 41) [(.tmp 21), (.tmp 23)])⟩ (.one ⟨(some 25), none, (.eff (.cpy 1) [(.tmp 18), (.tmp 24)])⟩ .done))))))))))))
theorem f_stack_machine_enter : compF Try.prog 24 = some (26, c_stack_machine_enter, []) := by kernel_rfl

/-- (*seedcorn/stack.pile[seedcorn/stack.frame]).push -/
def c_stack_pile_stack_frame_push : VC :=
 (.seq
  (.ops [
    ⟨(some 3), none, (.box 66 (.tmp 1))⟩])
  (.par false (.one ⟨(some 4), none, (.mv (.tmp 0))⟩ (.one ⟨(some 5), none, (.mv (.tmp 0))⟩ (.one ⟨(some 6), none, (.nck (.tmp 5))⟩ (.one ⟨(some 7), none, (.fad 0 false 1 (.tmp 6))⟩ (.one ⟨(some 8), none, (.ld false 1 (.tmp 7))⟩ (.one ⟨(some 9), none, (.ld true 2 (.tmp 3))⟩ (.one ⟨(some 10), none, (.bsl 66 2 1 [(.int .i64 0), (.int .i64 0)] [(0, (2, (.tmp 9)))])⟩ (.one ⟨(some 11), none, (.app 66 2 16 (.tmp 8) (.tmp 10))⟩ (.one ⟨(some 12), none, (.nck (.tmp 4))⟩ (.one ⟨(some 13), none, (.fad 0 false 1 (.tmp 12))⟩ (.one ⟨none, none, (.sto false 1 (.tmp 13) (.tmp 11))⟩ .done)))))))))))))
theorem f_stack_pile_stack_frame_push : compF Try.prog 25 = some (14, c_stack_pile_stack_frame_push, []) := by kernel_rfl

/-- (*seedcorn/stack.pile[seedcorn/stack.frame]).size -/
def c_stack_pile_stack_frame_size : VC :=
 (.seq
  (.ops [
    ⟨(some 2), none, (.mv (.const (.int .i64 0)))⟩])
  (.seq
   (.ops [
     ⟨(some 3), none, (.mv (.tmp 0))⟩,
     ⟨(some 4), none, (.nck (.tmp 3))⟩,
     ⟨(some 5), none, (.fad 0 false 1 (.tmp 4))⟩,
     ⟨(some 6), none, (.ld false 1 (.tmp 5))⟩,
     ⟨(some 7), none, (.len (.tmp 6))⟩,
     ⟨(some 2), none, (.mv (.tmp 7))⟩])
   .ret))
theorem f_stack_pile_stack_frame_size : compF Try.prog 26 = some (8, c_stack_pile_stack_frame_size, [(.tmp 2)]) := by kernel_rfl

/-- (*seedcorn/stack.pile[seedcorn/stack.frame]).pop -/
def c_stack_pile_stack_frame_pop : VC :=
 (.seq
  (.ops [
    ⟨(some 2), none, (.alc 66 [(.int .i64 0), (.int .i64 0)])⟩])
  (.seq
   (.ops [
     ⟨(some 5), none, (.mv (.tmp 0))⟩,
     ⟨(some 6), none, (.nck (.tmp 5))⟩,
     ⟨(some 7), none, (.fad 0 false 1 (.tmp 6))⟩,
     ⟨(some 8), none, (.ld false 1 (.tmp 7))⟩,
     ⟨(some 9), none, (.len (.tmp 8))⟩,
     ⟨(some 10), none, (.bin .sub (.tmp 9) (.const (.int .i64 1)))⟩,
     ⟨(some 3), none, (.mv (.tmp 10))⟩])
   (.seq
    (.ops [
      ⟨(some 11), none, (.mv (.tmp 0))⟩,
      ⟨(some 12), none, (.nck (.tmp 11))⟩,
      ⟨(some 13), none, (.fad 0 false 1 (.tmp 12))⟩,
      ⟨(some 14), none, (.ld false 1 (.tmp 13))⟩,
      ⟨(some 15), none, (.mv (.tmp 3))⟩,
      ⟨(some 16), none, (.idx 2 (.tmp 14) (.tmp 15))⟩,
      ⟨(some 17), none, (.ld true 2 (.tmp 16))⟩,
      ⟨(some 4), none, (.alc 66 [(.int .i64 0), (.int .i64 0)])⟩,
      ⟨none, none, (.sto true 2 (.tmp 4) (.tmp 17))⟩])
    (.seq
     (.ops [
       ⟨(some 18), none, (.mv (.tmp 0))⟩,
       ⟨(some 19), none, (.mv (.tmp 0))⟩,
       ⟨(some 20), none, (.nck (.tmp 19))⟩,
       ⟨(some 21), none, (.fad 0 false 1 (.tmp 20))⟩,
       ⟨(some 22), none, (.ld false 1 (.tmp 21))⟩,
       ⟨(some 23), none, (.mv (.tmp 3))⟩,
       ⟨(some 24), none, (.sl 2 (.tmp 22) none (some (.tmp 23)))⟩,
       ⟨(some 25), none, (.nck (.tmp 18))⟩,
       ⟨(some 26), none, (.fad 0 false 1 (.tmp 25))⟩,
       ⟨none, none, (.sto false 1 (.tmp 26) (.tmp 24))⟩])
     (.seq
      (.ops [
        ⟨(some 27), none, (.ld true 2 (.tmp 4))⟩,
        ⟨none, none, (.sto true 2 (.tmp 2) (.tmp 27))⟩])
      .ret)))))
theorem f_stack_pile_stack_frame_pop : compF Try.prog 27 = some (28, c_stack_pile_stack_frame_pop, [(.cell 2 true 2)]) := by kernel_rfl

/-- (*seedcorn/stack.machine).do -/
def c_stack_machine_do : VC :=
 (.seq
  (.ops [
    ⟨(some 3), none, (.box 36 (.tmp 1))⟩,
    ⟨(some 4), none, (.mv (.const (.int .i64 0)))⟩])
  (.seq
   (.seq
    (.ops [
      ⟨(some 13), none, (.fad 0 false 1 (.tmp 3))⟩,
      ⟨(some 14), none, (.ld false 1 (.tmp 13))⟩])
    (.block 0
     (.seq
      (.ops [
        ⟨(some 16), none, (.bin .eql (.tmp 14) (.const (.int .i64 1)))⟩,
        ⟨(some 15), none, (.mv (.tmp 16))⟩])
      (.cond (.tmp 15)
       (.ops [
         ⟨(some 17), none, (.mv (.tmp 0))⟩,
         ⟨(some 18), none, (.nck (.tmp 17))⟩,
         ⟨(some 19), none, (.fad 3 true 1 (.tmp 18))⟩,
         ⟨(some 20), none, (.fad 3 false 1 (.tmp 3))⟩,
         ⟨(some 21), none, (.ld false 1 (.tmp 20))⟩,
         ⟨(some 22), none, (.callM false (.func 42) [(.tmp 19), (.tmp 21)])⟩])
       (.seq
        (.ops [
          ⟨(some 24), none, (.bin .eql (.tmp 14) (.const (.int .i64 2)))⟩,
          ⟨(some 23), none, (.mv (.tmp 24))⟩])
        (.cond (.tmp 23)
         (.ops [
           ⟨(some 25), none, (.mv (.tmp 0))⟩,
           ⟨(some 26), none, (.nck (.tmp 25))⟩,
           ⟨(some 27), none, (.fad 3 true 1 (.tmp 26))⟩,
           ⟨(some 28), none, (.mv (.tmp 0))⟩,
           ⟨(some 29), none, (.nck (.tmp 28))⟩,
           ⟨(some 30), none, (.fad 2 false 1 (.tmp 29))⟩,
           ⟨(some 31), none, (.ld false 1 (.tmp 30))⟩,
           ⟨(some 32), none, (.fad 1 false 1 (.tmp 3))⟩,
           ⟨(some 33), none, (.ld false 1 (.tmp 32))⟩,
           ⟨(some 34), none, (.idx 1 (.tmp 31) (.tmp 33))⟩,
           ⟨(some 35), none, (.ld false 1 (.tmp 34))⟩,
           ⟨(some 36), none, (.callM false (.func 42) [(.tmp 27), (.tmp 35)])⟩])
         (.seq
          (.ops [
            ⟨(some 38), none, (.bin .eql (.tmp 14) (.const (.int .i64 3)))⟩,
            ⟨(some 37), none, (.mv (.tmp 38))⟩])
          (.cond (.tmp 37)
           (.par false (.one ⟨(some 39), none, (.mv (.tmp 0))⟩ (.one ⟨(some 40), none, (.nck (.tmp 39))⟩ (.one ⟨(some 41), none, (.fad 2 false 1 (.tmp 40))⟩ (.one ⟨(some 43), none, (.fad 1 false 1 (.tmp 3))⟩ (.one ⟨(some 45), none, (.mv (.tmp 0))⟩ (.one ⟨(some 46), none, (.nck (.tmp 45))⟩ (.one ⟨(some 47), none, (.fad 3 true 1 (.tmp 46))⟩ (.both (.one ⟨(some 42), none, (.ld false 1 (.tmp 41))⟩ (.both (.one ⟨(some 44), none, (.ld false 1 (.tmp 43))⟩ (.one ⟨(some 48), none, (.callM true (.func 23) [(.tmp 47)])⟩ (.one ⟨(some 49), none, (.idx 1 (.tmp 42) (.tmp 44))⟩ (.one ⟨none, none, (.sto false 1 (.tmp 49) (.tmp 48))⟩ .done)))) (.one ⟨(some 48), none, (.callM true (.func 23) [(.tmp 47)])⟩ (.one ⟨(some 44), none, (.ld false 1 (.tmp 43))⟩ (.one ⟨(some 49), none, (.idx 1 (.tmp 42) (.tmp 44))⟩ (.one ⟨none, none, (.sto false 1 (.tmp 49) (.tmp 48))⟩ .done)))))) (.both (.one ⟨(some 44), none, (.ld false 1 (.tmp 43))⟩ (.both (.one ⟨(some 42), none, (.ld false 1 (.tmp 41))⟩ (.one ⟨(some 48), none, (.callM true (.func 23) [(.tmp 47)])⟩ (.one ⟨(some 49), none, (.idx 1 (.tmp 42) (.tmp 44))⟩ (.one ⟨none, none, (.sto false 1 (.tmp 49) (.tmp 48))⟩ .done)))) (.one ⟨(some 48), none, (.callM true (.func 23) [(.tmp 47)])⟩ (.one ⟨(some 42), none, (.ld false 1 (.tmp 41))⟩ (.one ⟨(some 49), none, (.idx 1 (.tmp 42) (.tmp 44))⟩ (.one ⟨none, none, (.sto false 1 (.tmp 49) (.tmp 48))⟩ .done)))))) (.one ⟨(some 48), none, (.callM true (.func 23) [(.tmp 47)])⟩ (.one ⟨(some 42), none, (.ld false 1 (.tmp 41))⟩ (.one ⟨(some 44), none, (.ld false 1 (.tmp 43))⟩ (.one ⟨(some 49), none, (.idx 1 (.tmp 42) (.tmp 44))⟩ (.one ⟨none, none, (.sto false 1 (.tmp 49) (.tmp 48))⟩ .done)))))))))))))))
           (.seq
            (.ops [
              ⟨(some 51), none, (.bin .eql (.tmp 14) (.const (.int .i64 4)))⟩,
              ⟨(some 50), none, (.mv (.tmp 51))⟩])
            (.cond (.tmp 50)
             (.seq
              (.ops [
                ⟨(some 52), none, (.mv (.tmp 0))⟩,
                ⟨(some 53), none, (.nck (.tmp 52))⟩,
                ⟨(some 54), none, (.fad 3 true 1 (.tmp 53))⟩,
                ⟨(some 55), none, (.callM true (.func 23) [(.tmp 54)])⟩,
                ⟨(some 5), none, (.mv (.tmp 55))⟩])
              (.seq
               (.seq
                (.ops [
                  ⟨(some 56), none, (.mv (.tmp 5))⟩,
                  ⟨(some 57), none, (.conv .u64 (.tmp 56))⟩,
                  ⟨(some 58), none, (.fad 2 false 1 (.tmp 3))⟩,
                  ⟨(some 59), none, (.ld false 1 (.tmp 58))⟩,
                  ⟨(some 60), none, (.conv .u64 (.tmp 59))⟩,
                  ⟨(some 61), none, (.bin .geq (.tmp 57) (.tmp 60))⟩])
                (.cond (.tmp 61)
                 (.seq
                  (.ops [
                    ⟨(some 4), none, (.mv (.const (.int .i64 3)))⟩])
                  .ret)
                 .skip))
               (.ops [
                 ⟨(some 62), none, (.mv (.tmp 0))⟩,
                 ⟨(some 63), none, (.nck (.tmp 62))⟩,
                 ⟨(some 64), none, (.fad 3 true 1 (.tmp 63))⟩,
                 ⟨(some 65), none, (.mv (.tmp 0))⟩,
                 ⟨(some 66), none, (.nck (.tmp 65))⟩,
                 ⟨(some 67), none, (.fad 2 false 1 (.tmp 66))⟩,
                 ⟨(some 68), none, (.ld false 1 (.tmp 67))⟩,
                 ⟨(some 69), none, (.fad 1 false 1 (.tmp 3))⟩,
                 ⟨(some 70), none, (.ld false 1 (.tmp 69))⟩,
                 ⟨(some 71), none, (.mv (.tmp 5))⟩,
                 ⟨(some 72), none, (.conv .i64 (.tmp 71))⟩,
                 ⟨(some 73), none, (.bin .add (.tmp 70) (.tmp 72))⟩,
                 ⟨(some 74), none, (.idx 1 (.tmp 68) (.tmp 73))⟩,
                 ⟨(some 75), none, (.ld false 1 (.tmp 74))⟩,
                 ⟨(some 76), none, (.callM false (.func 42) [(.tmp 64), (.tmp 75)])⟩])))
             (.seq
              (.ops [
                ⟨(some 78), none, (.bin .eql (.tmp 14) (.const (.int .i64 5)))⟩,
                ⟨(some 77), none, (.mv (.tmp 78))⟩])
              (.cond (.tmp 77)
               (.seq
                (.ops [
                  ⟨(some 79), none, (.mv (.tmp 0))⟩,
                  ⟨(some 80), none, (.nck (.tmp 79))⟩,
                  ⟨(some 81), none, (.fad 3 true 1 (.tmp 80))⟩,
                  ⟨(some 82), none, (.callM true (.func 23) [(.tmp 81)])⟩,
                  ⟨(some 6), none, (.mv (.tmp 82))⟩])
                (.seq
                 (.ops [
                   ⟨(some 83), none, (.mv (.tmp 0))⟩,
                   ⟨(some 84), none, (.nck (.tmp 83))⟩,
                   ⟨(some 85), none, (.fad 3 true 1 (.tmp 84))⟩,
                   ⟨(some 86), none, (.callM true (.func 23) [(.tmp 85)])⟩,
                   ⟨(some 7), none, (.mv (.tmp 86))⟩])
                 (.seq
                  (.seq
                   (.ops [
                     ⟨(some 87), none, (.mv (.tmp 7))⟩,
                     ⟨(some 88), none, (.conv .u64 (.tmp 87))⟩,
                     ⟨(some 89), none, (.fad 2 false 1 (.tmp 3))⟩,
                     ⟨(some 90), none, (.ld false 1 (.tmp 89))⟩,
                     ⟨(some 91), none, (.conv .u64 (.tmp 90))⟩,
                     ⟨(some 92), none, (.bin .geq (.tmp 88) (.tmp 91))⟩])
                   (.cond (.tmp 92)
                    (.seq
                     (.ops [
                       ⟨(some 4), none, (.mv (.const (.int .i64 3)))⟩])
                     .ret)
                    .skip))
                  (.ops [
                    ⟨(some 93), none, (.mv (.tmp 0))⟩,
                    ⟨(some 94), none, (.nck (.tmp 93))⟩,
                    ⟨(some 95), none, (.fad 2 false 1 (.tmp 94))⟩,
                    ⟨(some 96), none, (.ld false 1 (.tmp 95))⟩,
                    ⟨(some 97), none, (.fad 1 false 1 (.tmp 3))⟩,
                    ⟨(some 98), none, (.ld false 1 (.tmp 97))⟩,
                    ⟨(some 99), none, (.mv (.tmp 7))⟩,
                    ⟨(some 100), none, (.conv .i64 (.tmp 99))⟩,
                    ⟨(some 101), none, (.bin .add (.tmp 98) (.tmp 100))⟩,
                    ⟨(some 102), none, (.mv (.tmp 6))⟩,
                    ⟨(some 103), none, (.idx 1 (.tmp 96) (.tmp 101))⟩,
                    ⟨none, none, (.sto false 1 (.tmp 103) (.tmp 102))⟩]))))
               (.seq
                (.ops [
                  ⟨(some 105), none, (.bin .eql (.tmp 14) (.const (.int .i64 6)))⟩,
                  ⟨(some 104), none, (.mv (.tmp 105))⟩])
                (.cond (.tmp 104)
                 (.seq
                  (.ops [
                    ⟨(some 106), none, (.mv (.tmp 0))⟩,
                    ⟨(some 107), none, (.nck (.tmp 106))⟩,
                    ⟨(some 108), none, (.fad 3 true 1 (.tmp 107))⟩,
                    ⟨(some 109), none, (.callM true (.func 23) [(.tmp 108)])⟩,
                    ⟨(some 8), none, (.mv (.tmp 109))⟩])
                  (.seq
                   (.ops [
                     ⟨(some 110), none, (.mv (.tmp 0))⟩,
                     ⟨(some 111), none, (.nck (.tmp 110))⟩,
                     ⟨(some 112), none, (.fad 3 true 1 (.tmp 111))⟩,
                     ⟨(some 113), none, (.callM true (.func 23) [(.tmp 112)])⟩,
                     ⟨(some 9), none, (.mv (.tmp 113))⟩])
                   (.seq
                    (.ops [
                      ⟨(some 115), none, (.fad 1 false 1 (.tmp 3))⟩,
                      ⟨(some 116), none, (.ld false 1 (.tmp 115))⟩,
                      ⟨(some 117), none, (.mv (.tmp 9))⟩,
                      ⟨(some 118), none, (.mv (.tmp 8))⟩,
                      ⟨(some 119), none, (.call (.func 15) [(.tmp 116), (.tmp 117), (.tmp 118)])⟩,
                      ⟨(some 114), none, (.mv (.tmp 119))⟩,
                      ⟨(some 120), none, (.ext (.tmp 114) 0)⟩,
                      ⟨(some 121), none, (.ext (.tmp 114) 1)⟩,
                      ⟨(some 10), none, (.mv (.tmp 120))⟩,
                      ⟨(some 11), none, (.mv (.tmp 121))⟩])
                    (.seq
                     (.seq
                      (.ops [
                        ⟨(some 122), none, (.mv (.tmp 11))⟩,
                        ⟨(some 123), none, (.bin .neq (.tmp 122) (.const (.int .i64 0)))⟩])
                      (.cond (.tmp 123)
                       (.seq
                        (.ops [
                          ⟨(some 4), none, (.mv (.const (.int .i64 2)))⟩])
                        .ret)
                       .skip))
                     (.ops [
                       ⟨(some 124), none, (.mv (.tmp 0))⟩,
                       ⟨(some 125), none, (.nck (.tmp 124))⟩,
                       ⟨(some 126), none, (.fad 3 true 1 (.tmp 125))⟩,
                       ⟨(some 127), none, (.mv (.tmp 10))⟩,
                       ⟨(some 128), none, (.callM false (.func 42) [(.tmp 126), (.tmp 127)])⟩])))))
                 (.seq
                  (.ops [
                    ⟨(some 130), none, (.bin .eql (.tmp 14) (.const (.int .i64 7)))⟩,
                    ⟨(some 129), none, (.mv (.tmp 130))⟩])
                  (.cond (.tmp 129)
                   (.par false (.one ⟨(some 131), none, (.mv (.tmp 0))⟩ (.one ⟨(some 132), none, (.nck (.tmp 131))⟩ (.one ⟨(some 133), none, (.fad 3 true 1 (.tmp 132))⟩ (.one ⟨(some 134), none, (.mv (.tmp 0))⟩ (.one ⟨(some 135), none, (.nck (.tmp 134))⟩ (.one ⟨(some 136), none, (.fad 3 true 1 (.tmp 135))⟩ (.one ⟨(some 137), none, (.callM true (.func 23) [(.tmp 136)])⟩ (.one ⟨(some 138), none, (.callM true (.func 43) [(.tmp 137)])⟩ (.one ⟨(some 139), none, (.callM false (.func 42) [(.tmp 133), (.tmp 138)])⟩ .done))))))))))
                   (.seq
                    (.ops [
                      ⟨(some 141), none, (.bin .eql (.tmp 14) (.const (.int .i64 12)))⟩,
                      ⟨(some 140), none, (.mv (.tmp 141))⟩])
                    (.cond (.tmp 140)
                     (.par false (.one ⟨(some 142), none, (.mv (.tmp 0))⟩ (.one ⟨(some 143), none, (.nck (.tmp 142))⟩ (.one ⟨(some 144), none, (.fad 3 true 1 (.tmp 143))⟩ (.one ⟨(some 145), none, (.mv (.tmp 0))⟩ (.one ⟨(some 146), none, (.callM true (.func 44) [(.tmp 145)])⟩ (.one ⟨(some 147), none, (.callM false (.func 42) [(.tmp 144), (.tmp 146)])⟩ .done)))))))
                     (.seq
                      (.ops [
                        ⟨(some 149), none, (.bin .eql (.tmp 14) (.const (.int .i64 13)))⟩,
                        ⟨(some 148), none, (.mv (.tmp 149))⟩])
                      (.cond (.tmp 148)
                       (.seq
                        (.ops [
                          ⟨(some 150), none, (.mv (.tmp 0))⟩,
                          ⟨(some 151), none, (.nck (.tmp 150))⟩,
                          ⟨(some 152), none, (.fad 3 true 1 (.tmp 151))⟩,
                          ⟨(some 153), none, (.callM true (.func 23) [(.tmp 152)])⟩,
                          ⟨(some 12), none, (.mv (.tmp 153))⟩])
                        (.seq
                         (.seq
                          (.ops [
                            ⟨(some 154), none, (.mv (.tmp 0))⟩,
                            ⟨(some 155), none, (.nck (.tmp 154))⟩,
                            ⟨(some 156), none, (.fad 7 false 1 (.tmp 155))⟩,
                            ⟨(some 157), none, (.ld false 1 (.tmp 156))⟩,
                            ⟨(some 158), none, (.len (.tmp 157))⟩,
                            ⟨(some 159), none, (.bin .geq (.tmp 158) (.const (.int .i64 65536)))⟩])
                          (.cond (.tmp 159)
                           (.seq
                            (.ops [
                              ⟨(some 4), none, (.mv (.const (.int .i64 4)))⟩])
                            .ret)
                           .skip))
                         (.ops [
                           ⟨(some 160), none, (.mv (.tmp 0))⟩,
                           ⟨(some 161), none, (.mv (.tmp 0))⟩,
                           ⟨(some 162), none, (.nck (.tmp 161))⟩,
                           ⟨(some 163), none, (.fad 7 false 1 (.tmp 162))⟩,
                           ⟨(some 164), none, (.ld false 1 (.tmp 163))⟩,
                           ⟨(some 165), none, (.mv (.tmp 12))⟩,
                           ⟨(some 166), none, (.conv .u8 (.tmp 165))⟩,
                           ⟨(some 167), none, (.bsl 5 1 1 [(.int .u8 0)] [(0, (1, (.tmp 166)))])⟩,
                           ⟨(some 168), none, (.app 5 1 1 (.tmp 164) (.tmp 167))⟩,
                           ⟨(some 169), none, (.nck (.tmp 160))⟩,
                           ⟨(some 170), none, (.fad 7 false 1 (.tmp 169))⟩,
                           ⟨none, none, (.sto false 1 (.tmp 170) (.tmp 168))⟩])))
                       .skip))))))))))))))))))))
   (.seq
    (.ops [
      ⟨(some 4), none, (.mv (.const (.int .i64 0)))⟩])
    .ret)))
theorem f_stack_machine_do : compF Try.prog 28 = some (171, c_stack_machine_do, [(.tmp 4)]) := by kernel_rfl

/-- (*seedcorn/seedcornref20.M).step -/
def c_scref20_M_step : VC :=
 (.seq
  (.par false (.one ⟨(some 15), none, (.mv (.tmp 0))⟩ (.one ⟨(some 16), none, (.nck (.tmp 15))⟩ (.one ⟨(some 17), none, (.fad 8 false 1 (.tmp 16))⟩ (.one ⟨(some 18), none, (.ld false 1 (.tmp 17))⟩ (.one ⟨(some 19), none, (.mv (.tmp 0))⟩ (.one ⟨(some 20), none, (.nck (.tmp 19))⟩ (.one ⟨(some 21), none, (.fad 8 false 1 (.tmp 20))⟩ (.one ⟨(some 22), none, (.ld false 1 (.tmp 21))⟩ (.one ⟨(some 23), none, (.len (.tmp 22))⟩ (.one ⟨(some 24), none, (.bin .sub (.tmp 23) (.const (.int .i64 1)))⟩ (.one ⟨(some 25), none, (.idx 3 (.tmp 18) (.tmp 24))⟩ (.one ⟨(some 26), none, (.ld true 3 (.tmp 25))⟩ (.one ⟨(some 2), none, (.alc 75 [(.int .i64 0), (.int .i64 0), (.slice none 0 0)])⟩ (.one ⟨none, none, (.sto true 3 (.tmp 2) (.tmp 26))⟩ .done)))))))))))))))
  (.seq
   (.par false (.one ⟨(some 27), none, (.mv (.tmp 0))⟩ (.one ⟨(some 28), none, (.nck (.tmp 27))⟩ (.one ⟨(some 29), none, (.fad 0 true 2 (.tmp 28))⟩ (.one ⟨(some 30), none, (.fad 1 false 1 (.tmp 29))⟩ (.one ⟨(some 31), none, (.ld false 1 (.tmp 30))⟩ (.one ⟨(some 32), none, (.fad 0 false 1 (.tmp 2))⟩ (.one ⟨(some 33), none, (.ld false 1 (.tmp 32))⟩ (.one ⟨(some 34), none, (.idx 5 (.tmp 31) (.tmp 33))⟩ (.one ⟨(some 35), none, (.fad 4 false 1 (.tmp 34))⟩ (.one ⟨(some 36), none, (.ld false 1 (.tmp 35))⟩ (.one ⟨(some 37), none, (.fad 1 false 1 (.tmp 2))⟩ (.one ⟨(some 38), none, (.ld false 1 (.tmp 37))⟩ (.one ⟨(some 39), none, (.idx 4 (.tmp 36) (.tmp 38))⟩ (.one ⟨(some 40), none, (.ld true 4 (.tmp 39))⟩ (.one ⟨(some 3), none, (.alc 36 [(.int .i64 0), (.int .i64 0), (.int .i64 0), (.int .u32 0)])⟩ (.one ⟨none, none, (.sto true 4 (.tmp 3) (.tmp 40))⟩ .done)))))))))))))))))
   (.seq
    (.ops [
      ⟨(some 41), none, (.mv (.tmp 0))⟩,
      ⟨(some 42), none, (.fad 1 false 1 (.tmp 2))⟩,
      ⟨(some 43), none, (.ld false 1 (.tmp 42))⟩,
      ⟨(some 44), none, (.bin .add (.tmp 43) (.const (.int .i64 1)))⟩,
      ⟨(some 45), none, (.call (.func 45) [(.tmp 41), (.tmp 44)])⟩])
    (.seq
     (.ops [
       ⟨(some 46), none, (.mv (.tmp 0))⟩,
       ⟨(some 47), none, (.nck (.tmp 46))⟩,
       ⟨(some 48), none, (.fad 6 false 1 (.tmp 47))⟩,
       ⟨(some 49), none, (.ld false 1 (.tmp 48))⟩,
       ⟨(some 50), none, (.bin .add (.tmp 49) (.const (.int .i64 1)))⟩,
       ⟨(some 51), none, (.nck (.tmp 46))⟩,
       ⟨(some 52), none, (.fad 6 false 1 (.tmp 51))⟩,
       ⟨none, none, (.sto false 1 (.tmp 52) (.tmp 50))⟩])
     (.seq
      (.ops [
        ⟨(some 53), none, (.fad 0 false 1 (.tmp 3))⟩,
        ⟨(some 54), none, (.ld false 1 (.tmp 53))⟩])
      (.block 0
       (.seq
        (.ops [
          ⟨(some 78), none, (.bin .eql (.tmp 54) (.const (.int .i64 1)))⟩,
          ⟨(some 77), none, (.mv (.tmp 78))⟩])
        (.cond (.tmp 77)
         (.ops [
           ⟨(some 79), none, (.mv (.tmp 0))⟩,
           ⟨(some 80), none, (.fad 3 false 1 (.tmp 3))⟩,
           ⟨(some 81), none, (.ld false 1 (.tmp 80))⟩,
           ⟨(some 82), none, (.call (.func 46) [(.tmp 79), (.tmp 81)])⟩])
         (.seq
          (.ops [
            ⟨(some 84), none, (.bin .eql (.tmp 54) (.const (.int .i64 2)))⟩,
            ⟨(some 83), none, (.mv (.tmp 84))⟩])
          (.cond (.tmp 83)
           (.ops [
             ⟨(some 85), none, (.mv (.tmp 0))⟩,
             ⟨(some 86), none, (.mv (.tmp 0))⟩,
             ⟨(some 87), none, (.nck (.tmp 86))⟩,
             ⟨(some 88), none, (.fad 4 false 1 (.tmp 87))⟩,
             ⟨(some 89), none, (.ld false 1 (.tmp 88))⟩,
             ⟨(some 90), none, (.fad 1 false 1 (.tmp 3))⟩,
             ⟨(some 91), none, (.ld false 1 (.tmp 90))⟩,
             ⟨(some 92), none, (.idx 1 (.tmp 89) (.tmp 91))⟩,
             ⟨(some 93), none, (.ld false 1 (.tmp 92))⟩,
             ⟨(some 94), none, (.call (.func 46) [(.tmp 85), (.tmp 93)])⟩])
           (.seq
            (.ops [
              ⟨(some 96), none, (.bin .eql (.tmp 54) (.const (.int .i64 3)))⟩,
              ⟨(some 95), none, (.mv (.tmp 96))⟩])
            (.cond (.tmp 95)
             (.par false (.one ⟨(some 97), none, (.mv (.tmp 0))⟩ (.one ⟨(some 98), none, (.nck (.tmp 97))⟩ (.one ⟨(some 99), none, (.fad 4 false 1 (.tmp 98))⟩ (.one ⟨(some 101), none, (.fad 1 false 1 (.tmp 3))⟩ (.one ⟨(some 103), none, (.mv (.tmp 0))⟩ (.both (.one ⟨(some 100), none, (.ld false 1 (.tmp 99))⟩ (.both (.one ⟨(some 102), none, (.ld false 1 (.tmp 101))⟩ (.one ⟨(some 104), none, (.callM true (.func 47) [(.tmp 103)])⟩ (.one ⟨(some 105), none, (.idx 1 (.tmp 100) (.tmp 102))⟩ (.one ⟨none, none, (.sto false 1 (.tmp 105) (.tmp 104))⟩ .done)))) (.one ⟨(some 104), none, (.callM true (.func 47) [(.tmp 103)])⟩ (.one ⟨(some 102), none, (.ld false 1 (.tmp 101))⟩ (.one ⟨(some 105), none, (.idx 1 (.tmp 100) (.tmp 102))⟩ (.one ⟨none, none, (.sto false 1 (.tmp 105) (.tmp 104))⟩ .done)))))) (.both (.one ⟨(some 102), none, (.ld false 1 (.tmp 101))⟩ (.both (.one ⟨(some 100), none, (.ld false 1 (.tmp 99))⟩ (.one ⟨(some 104), none, (.callM true (.func 47) [(.tmp 103)])⟩ (.one ⟨(some 105), none, (.idx 1 (.tmp 100) (.tmp 102))⟩ (.one ⟨none, none, (.sto false 1 (.tmp 105) (.tmp 104))⟩ .done)))) (.one ⟨(some 104), none, (.callM true (.func 47) [(.tmp 103)])⟩ (.one ⟨(some 100), none, (.ld false 1 (.tmp 99))⟩ (.one ⟨(some 105), none, (.idx 1 (.tmp 100) (.tmp 102))⟩ (.one ⟨none, none, (.sto false 1 (.tmp 105) (.tmp 104))⟩ .done)))))) (.one ⟨(some 104), none, (.callM true (.func 47) [(.tmp 103)])⟩ (.one ⟨(some 100), none, (.ld false 1 (.tmp 99))⟩ (.one ⟨(some 102), none, (.ld false 1 (.tmp 101))⟩ (.one ⟨(some 105), none, (.idx 1 (.tmp 100) (.tmp 102))⟩ (.one ⟨none, none, (.sto false 1 (.tmp 105) (.tmp 104))⟩ .done)))))))))))))
             (.seq
              (.ops [
                ⟨(some 107), none, (.bin .eql (.tmp 54) (.const (.int .i64 4)))⟩,
                ⟨(some 106), none, (.mv (.tmp 107))⟩])
              (.cond (.tmp 106)
               (.seq
                (.ops [
                  ⟨(some 108), none, (.mv (.tmp 0))⟩,
                  ⟨(some 109), none, (.callM true (.func 47) [(.tmp 108)])⟩,
                  ⟨(some 4), none, (.mv (.tmp 109))⟩])
                (.seq
                 (.seq
                  (.ops [
                    ⟨(some 110), none, (.mv (.tmp 4))⟩,
                    ⟨(some 111), none, (.fad 2 false 1 (.tmp 3))⟩,
                    ⟨(some 112), none, (.ld false 1 (.tmp 111))⟩,
                    ⟨(some 113), none, (.conv .u32 (.tmp 112))⟩,
                    ⟨(some 114), none, (.bin .geq (.tmp 110) (.tmp 113))⟩])
                  (.cond (.tmp 114)
                   (.seq
                    (.ops [
                      ⟨(some 115), none, (.mv (.tmp 0))⟩,
                      ⟨(some 116), none, (.nck (.tmp 115))⟩,
                      ⟨(some 117), none, (.fad 7 false 1 (.tmp 116))⟩,
                      ⟨none, none, (.sto false 1 (.tmp 117) (.const (.int .i64 3)))⟩])
                    .ret)
                   .skip))
                 (.ops [
                   ⟨(some 118), none, (.mv (.tmp 0))⟩,
                   ⟨(some 119), none, (.mv (.tmp 0))⟩,
                   ⟨(some 120), none, (.nck (.tmp 119))⟩,
                   ⟨(some 121), none, (.fad 4 false 1 (.tmp 120))⟩,
                   ⟨(some 122), none, (.ld false 1 (.tmp 121))⟩,
                   ⟨(some 123), none, (.fad 1 false 1 (.tmp 3))⟩,
                   ⟨(some 124), none, (.ld false 1 (.tmp 123))⟩,
                   ⟨(some 125), none, (.mv (.tmp 4))⟩,
                   ⟨(some 126), none, (.conv .i64 (.tmp 125))⟩,
                   ⟨(some 127), none, (.bin .add (.tmp 124) (.tmp 126))⟩,
                   ⟨(some 128), none, (.idx 1 (.tmp 122) (.tmp 127))⟩,
                   ⟨(some 129), none, (.ld false 1 (.tmp 128))⟩,
                   ⟨(some 130), none, (.call (.func 46) [(.tmp 118), (.tmp 129)])⟩])))
               (.seq
                (.ops [
                  ⟨(some 132), none, (.bin .eql (.tmp 54) (.const (.int .i64 5)))⟩,
                  ⟨(some 131), none, (.mv (.tmp 132))⟩])
                (.cond (.tmp 131)
                 (.seq
                  (.ops [
                    ⟨(some 133), none, (.mv (.tmp 0))⟩,
                    ⟨(some 134), none, (.callM true (.func 47) [(.tmp 133)])⟩,
                    ⟨(some 5), none, (.mv (.tmp 134))⟩])
                  (.seq
                   (.ops [
                     ⟨(some 135), none, (.mv (.tmp 0))⟩,
                     ⟨(some 136), none, (.callM true (.func 47) [(.tmp 135)])⟩,
                     ⟨(some 6), none, (.mv (.tmp 136))⟩])
                   (.seq
                    (.seq
                     (.ops [
                       ⟨(some 137), none, (.mv (.tmp 6))⟩,
                       ⟨(some 138), none, (.fad 2 false 1 (.tmp 3))⟩,
                       ⟨(some 139), none, (.ld false 1 (.tmp 138))⟩,
                       ⟨(some 140), none, (.conv .u32 (.tmp 139))⟩,
                       ⟨(some 141), none, (.bin .geq (.tmp 137) (.tmp 140))⟩])
                     (.cond (.tmp 141)
                      (.seq
                       (.ops [
                         ⟨(some 142), none, (.mv (.tmp 0))⟩,
                         ⟨(some 143), none, (.nck (.tmp 142))⟩,
                         ⟨(some 144), none, (.fad 7 false 1 (.tmp 143))⟩,
                         ⟨none, none, (.sto false 1 (.tmp 144) (.const (.int .i64 3)))⟩])
                       .ret)
                      .skip))
                    (.ops [
                      ⟨(some 145), none, (.mv (.tmp 0))⟩,
                      ⟨(some 146), none, (.nck (.tmp 145))⟩,
                      ⟨(some 147), none, (.fad 4 false 1 (.tmp 146))⟩,
                      ⟨(some 148), none, (.ld false 1 (.tmp 147))⟩,
                      ⟨(some 149), none, (.fad 1 false 1 (.tmp 3))⟩,
                      ⟨(some 150), none, (.ld false 1 (.tmp 149))⟩,
                      ⟨(some 151), none, (.mv (.tmp 6))⟩,
                      ⟨(some 152), none, (.conv .i64 (.tmp 151))⟩,
                      ⟨(some 153), none, (.bin .add (.tmp 150) (.tmp 152))⟩,
                      ⟨(some 154), none, (.mv (.tmp 5))⟩,
                      ⟨(some 155), none, (.idx 1 (.tmp 148) (.tmp 153))⟩,
                      ⟨none, none, (.sto false 1 (.tmp 155) (.tmp 154))⟩]))))
                 (.seq
                  (.ops [
                    ⟨(some 157), none, (.bin .eql (.tmp 54) (.const (.int .i64 6)))⟩,
                    ⟨(some 156), none, (.mv (.tmp 157))⟩])
                  (.cond (.tmp 156)
                   (.seq
                    (.ops [
                      ⟨(some 158), none, (.mv (.tmp 0))⟩,
                      ⟨(some 159), none, (.callM true (.func 47) [(.tmp 158)])⟩,
                      ⟨(some 7), none, (.mv (.tmp 159))⟩])
                    (.seq
                     (.ops [
                       ⟨(some 160), none, (.mv (.tmp 0))⟩,
                       ⟨(some 161), none, (.callM true (.func 47) [(.tmp 160)])⟩,
                       ⟨(some 8), none, (.mv (.tmp 161))⟩])
                     (.seq
                      (.ops [
                        ⟨(some 163), none, (.fad 1 false 1 (.tmp 3))⟩,
                        ⟨(some 164), none, (.ld false 1 (.tmp 163))⟩,
                        ⟨(some 165), none, (.mv (.tmp 8))⟩,
                        ⟨(some 166), none, (.mv (.tmp 7))⟩,
                        ⟨(some 167), none, (.call (.func 48) [(.tmp 164), (.tmp 165), (.tmp 166)])⟩,
                        ⟨(some 162), none, (.mv (.tmp 167))⟩,
                        ⟨(some 168), none, (.ext (.tmp 162) 0)⟩,
                        ⟨(some 169), none, (.ext (.tmp 162) 1)⟩,
                        ⟨(some 9), none, (.mv (.tmp 168))⟩,
                        ⟨(some 10), none, (.mv (.tmp 169))⟩])
                      (.seq
                       (.seq
                        (.ops [
                          ⟨(some 170), none, (.mv (.tmp 10))⟩,
                          ⟨(some 171), none, (.bin .neq (.tmp 170) (.const (.int .i64 0)))⟩])
                        (.cond (.tmp 171)
                         (.seq
                          (.ops [
                            ⟨(some 172), none, (.mv (.tmp 0))⟩,
                            ⟨(some 173), none, (.nck (.tmp 172))⟩,
                            ⟨(some 174), none, (.fad 7 false 1 (.tmp 173))⟩,
                            ⟨none, none, (.sto false 1 (.tmp 174) (.const (.int .i64 2)))⟩])
                          .ret)
                         .skip))
                       (.ops [
                         ⟨(some 175), none, (.mv (.tmp 0))⟩,
                         ⟨(some 176), none, (.mv (.tmp 9))⟩,
                         ⟨(some 177), none, (.call (.func 46) [(.tmp 175), (.tmp 176)])⟩])))))
                   (.seq
                    (.ops [
                      ⟨(some 179), none, (.bin .eql (.tmp 54) (.const (.int .i64 7)))⟩,
                      ⟨(some 178), none, (.mv (.tmp 179))⟩])
                    (.cond (.tmp 178)
                     (.seq
                      (.ops [
                        ⟨(some 180), none, (.mv (.tmp 0))⟩,
                        ⟨(some 181), none, (.callM true (.func 47) [(.tmp 180)])⟩,
                        ⟨(some 11), none, (.mv (.tmp 181))⟩])
                      (.seq
                       (.ops [
                         ⟨(some 182), none, (.mv (.tmp 11))⟩,
                         ⟨(some 183), none, (.bin .eql (.tmp 182) (.const (.int .u32 0)))⟩])
                       (.cond (.tmp 183)
                        (.ops [
                          ⟨(some 184), none, (.mv (.tmp 0))⟩,
                          ⟨(some 185), none, (.call (.func 46) [(.tmp 184), (.const (.int .u32 1))])⟩])
                        (.ops [
                          ⟨(some 186), none, (.mv (.tmp 0))⟩,
                          ⟨(some 187), none, (.call (.func 46) [(.tmp 186), (.const (.int .u32 0))])⟩]))))
                     (.seq
                      (.ops [
                        ⟨(some 189), none, (.bin .eql (.tmp 54) (.const (.int .i64 8)))⟩,
                        ⟨(some 188), none, (.mv (.tmp 189))⟩])
                      (.cond (.tmp 188)
                       (.ops [
                         ⟨(some 190), none, (.mv (.tmp 0))⟩,
                         ⟨(some 191), none, (.fad 1 false 1 (.tmp 3))⟩,
                         ⟨(some 192), none, (.ld false 1 (.tmp 191))⟩,
                         ⟨(some 193), none, (.call (.func 45) [(.tmp 190), (.tmp 192)])⟩])
                       (.seq
                        (.ops [
                          ⟨(some 195), none, (.bin .eql (.tmp 54) (.const (.int .i64 9)))⟩,
                          ⟨(some 194), none, (.mv (.tmp 195))⟩])
                        (.cond (.tmp 194)
                         (.seq
                          (.ops [
                            ⟨(some 196), none, (.mv (.tmp 0))⟩,
                            ⟨(some 197), none, (.callM true (.func 47) [(.tmp 196)])⟩,
                            ⟨(some 12), none, (.mv (.tmp 197))⟩])
                          (.seq
                           (.ops [
                             ⟨(some 198), none, (.mv (.tmp 12))⟩,
                             ⟨(some 199), none, (.bin .eql (.tmp 198) (.const (.int .u32 0)))⟩])
                           (.cond (.tmp 199)
                            (.ops [
                              ⟨(some 200), none, (.mv (.tmp 0))⟩,
                              ⟨(some 201), none, (.fad 1 false 1 (.tmp 3))⟩,
                              ⟨(some 202), none, (.ld false 1 (.tmp 201))⟩,
                              ⟨(some 203), none, (.call (.func 45) [(.tmp 200), (.tmp 202)])⟩])
                            .skip)))
                         (.seq
                          (.ops [
                            ⟨(some 205), none, (.bin .eql (.tmp 54) (.const (.int .i64 10)))⟩,
                            ⟨(some 204), none, (.mv (.tmp 205))⟩])
                          (.cond (.tmp 204)
                           (.ops [
                             ⟨(some 206), none, (.mv (.tmp 0))⟩,
                             ⟨(some 207), none, (.fad 1 false 1 (.tmp 3))⟩,
                             ⟨(some 208), none, (.ld false 1 (.tmp 207))⟩,
                             ⟨(some 209), none, (.call (.func 49) [(.tmp 206), (.tmp 208)])⟩])
                           (.seq
                            (.ops [
                              ⟨(some 211), none, (.bin .eql (.tmp 54) (.const (.int .i64 11)))⟩,
                              ⟨(some 210), none, (.mv (.tmp 211))⟩])
                            (.cond (.tmp 210)
                             (.ops [
                               ⟨(some 212), none, (.mv (.tmp 0))⟩,
                               ⟨(some 213), none, (.call (.func 50) [(.tmp 212)])⟩])
                             (.seq
                              (.ops [
                                ⟨(some 215), none, (.bin .eql (.tmp 54) (.const (.int .i64 12)))⟩,
                                ⟨(some 214), none, (.mv (.tmp 215))⟩])
                              (.cond (.tmp 214)
                               (.seq
                                (.ops [
                                  ⟨(some 13), none, (.mv (.const (.int .u32 256)))⟩])
                                (.seq
                                 (.seq
                                  (.ops [
                                    ⟨(some 216), none, (.mv (.tmp 0))⟩,
                                    ⟨(some 217), none, (.nck (.tmp 216))⟩,
                                    ⟨(some 218), none, (.fad 3 false 1 (.tmp 217))⟩,
                                    ⟨(some 219), none, (.ld false 1 (.tmp 218))⟩,
                                    ⟨(some 220), none, (.mv (.tmp 0))⟩,
                                    ⟨(some 221), none, (.nck (.tmp 220))⟩,
                                    ⟨(some 222), none, (.fad 2 false 1 (.tmp 221))⟩,
                                    ⟨(some 223), none, (.ld false 1 (.tmp 222))⟩,
                                    ⟨(some 224), none, (.lens (.tmp 223))⟩,
                                    ⟨(some 225), none, (.bin .lss (.tmp 219) (.tmp 224))⟩])
                                  (.cond (.tmp 225)
                                   (.seq
                                    (.ops [
                                      ⟨(some 226), none, (.mv (.tmp 0))⟩,
                                      ⟨(some 227), none, (.nck (.tmp 226))⟩,
                                      ⟨(some 228), none, (.fad 2 false 1 (.tmp 227))⟩,
                                      ⟨(some 229), none, (.ld false 1 (.tmp 228))⟩,
                                      ⟨(some 230), none, (.mv (.tmp 0))⟩,
                                      ⟨(some 231), none, (.nck (.tmp 230))⟩,
                                      ⟨(some 232), none, (.fad 3 false 1 (.tmp 231))⟩,
                                      ⟨(some 233), none, (.ld false 1 (.tmp 232))⟩,
                                      ⟨(some 234), none, (.pur .six [(.tmp 229), (.tmp 233)])⟩,
                                      ⟨(some 235), none, (.conv .u32 (.tmp 234))⟩,
                                      ⟨(some 13), none, (.mv (.tmp 235))⟩])
                                    (.ops [
                                      ⟨(some 236), none, (.mv (.tmp 0))⟩,
                                      ⟨(some 237), none, (.nck (.tmp 236))⟩,
                                      ⟨(some 238), none, (.fad 3 false 1 (.tmp 237))⟩,
                                      ⟨(some 239), none, (.ld false 1 (.tmp 238))⟩,
                                      ⟨(some 240), none, (.bin .add (.tmp 239) (.const (.int .i64 1)))⟩,
                                      ⟨(some 241), none, (.nck (.tmp 236))⟩,
                                      ⟨(some 242), none, (.fad 3 false 1 (.tmp 241))⟩,
                                      ⟨none, none, (.sto false 1 (.tmp 242) (.tmp 240))⟩]))
                                   .skip))
                                 (.ops [
                                   ⟨(some 243), none, (.mv (.tmp 0))⟩,
                                   ⟨(some 244), none, (.mv (.tmp 13))⟩,
                                   ⟨(some 245), none, (.call (.func 46) [(.tmp 243), (.tmp 244)])⟩])))
                               (.seq
                                (.ops [
                                  ⟨(some 55), none, (.mv (.tmp 0))⟩,
                                  ⟨(some 56), none, (.callM true (.func 47) [(.tmp 55)])⟩,
                                  ⟨(some 14), none, (.mv (.tmp 56))⟩])
                                (.seq
                                 (.seq
                                  (.ops [
                                    ⟨(some 57), none, (.mv (.tmp 0))⟩,
                                    ⟨(some 58), none, (.nck (.tmp 57))⟩,
                                    ⟨(some 59), none, (.fad 5 false 1 (.tmp 58))⟩,
                                    ⟨(some 60), none, (.ld false 1 (.tmp 59))⟩,
                                    ⟨(some 61), none, (.len (.tmp 60))⟩,
                                    ⟨(some 62), none, (.bin .geq (.tmp 61) (.const (.int .i64 65536)))⟩])
                                  (.cond (.tmp 62)
                                   (.seq
                                    (.ops [
                                      ⟨(some 63), none, (.mv (.tmp 0))⟩,
                                      ⟨(some 64), none, (.nck (.tmp 63))⟩,
                                      ⟨(some 65), none, (.fad 7 false 1 (.tmp 64))⟩,
                                      ⟨none, none, (.sto false 1 (.tmp 65) (.const (.int .i64 4)))⟩])
                                    .ret)
                                   .skip))
                                 (.ops [
                                   ⟨(some 66), none, (.mv (.tmp 0))⟩,
                                   ⟨(some 67), none, (.mv (.tmp 0))⟩,
                                   ⟨(some 68), none, (.nck (.tmp 67))⟩,
                                   ⟨(some 69), none, (.fad 5 false 1 (.tmp 68))⟩,
                                   ⟨(some 70), none, (.ld false 1 (.tmp 69))⟩,
                                   ⟨(some 71), none, (.mv (.tmp 14))⟩,
                                   ⟨(some 72), none, (.conv .u8 (.tmp 71))⟩,
                                   ⟨(some 73), none, (.bsl 5 1 1 [(.int .u8 0)] [(0, (1, (.tmp 72)))])⟩,
                                   ⟨(some 74), none, (.app 5 1 1 (.tmp 70) (.tmp 73))⟩,
                                   ⟨(some 75), none, (.nck (.tmp 66))⟩,
                                   ⟨(some 76), none, (.fad 5 false 1 (.tmp 75))⟩,
                                   ⟨none, none, (.sto false 1 (.tmp 76) (.tmp 74))⟩])))))))))))))))))))))))))))))))))
theorem f_scref20_M_step : compF Try.prog 29 = some (246, c_scref20_M_step, []) := by kernel_rfl

/-- seedcorn/stack.right -/
def c_stack_right : VC :=
 (.seq
  (.ops [
    ⟨(some 3), none, (.box 24 (.tmp 0))⟩,
    ⟨(some 5), none, (.box 36 (.tmp 2))⟩,
    ⟨(some 6), none, (.mv (.const (.bool false)))⟩])
  (.seq
   (.seq
    (.ops [
      ⟨(some 7), none, (.fad 0 false 1 (.tmp 5))⟩,
      ⟨(some 8), none, (.ld false 1 (.tmp 7))⟩,
      ⟨(some 9), none, (.bin .neq (.tmp 8) (.const (.int .i64 1)))⟩,
      ⟨(some 10), none, (.mv (.tmp 9))⟩,
      ⟨(some 11), (some (10, true)), (.fad 3 false 1 (.tmp 5))⟩,
      ⟨(some 12), (some (10, true)), (.ld false 1 (.tmp 11))⟩,
      ⟨(some 13), (some (10, true)), (.bin .neq (.tmp 12) (.const (.int .u32 0)))⟩,
      ⟨(some 14), none, (.pick (.tmp 10) (.tmp 13) (.const (.bool false)))⟩])
    (.cond (.tmp 14)
     (.seq
      (.ops [
        ⟨(some 6), none, (.mv (.const (.bool false)))⟩])
      .ret)
     .skip))
   (.seq
    (.seq
     (.ops [
       ⟨(some 15), none, (.fad 0 false 1 (.tmp 5))⟩,
       ⟨(some 16), none, (.ld false 1 (.tmp 15))⟩])
     (.block 0
      (.seq
       (.seq
        (.ops [
          ⟨(some 18), none, (.bin .eql (.tmp 16) (.const (.int .i64 4)))⟩,
          ⟨(some 17), none, (.mv (.tmp 18))⟩])
        (.cond (.tmp 17)
         .skip
         (.ops [
           ⟨(some 19), none, (.bin .eql (.tmp 16) (.const (.int .i64 5)))⟩,
           ⟨(some 17), none, (.mv (.tmp 19))⟩])))
       (.cond (.tmp 17)
        (.seq
         (.ops [
           ⟨(some 20), none, (.fad 2 false 1 (.tmp 5))⟩,
           ⟨(some 21), none, (.ld false 1 (.tmp 20))⟩,
           ⟨(some 22), none, (.bin .geq (.tmp 21) (.const (.int .i64 1)))⟩,
           ⟨(some 23), none, (.mv (.tmp 22))⟩,
           ⟨(some 24), (some (23, true)), (.fad 2 false 1 (.tmp 5))⟩,
           ⟨(some 25), (some (23, true)), (.ld false 1 (.tmp 24))⟩,
           ⟨(some 26), (some (23, true)), (.bin .leq (.tmp 25) (.const (.int .i64 4096)))⟩,
           ⟨(some 27), none, (.pick (.tmp 23) (.tmp 26) (.const (.bool false)))⟩,
           ⟨(some 28), none, (.mv (.tmp 27))⟩,
           ⟨(some 29), (some (28, true)), (.fad 1 false 1 (.tmp 5))⟩,
           ⟨(some 30), (some (28, true)), (.ld false 1 (.tmp 29))⟩,
           ⟨(some 31), (some (28, true)), (.bin .geq (.tmp 30) (.const (.int .i64 0)))⟩,
           ⟨(some 32), none, (.pick (.tmp 28) (.tmp 31) (.const (.bool false)))⟩,
           ⟨(some 33), none, (.mv (.tmp 32))⟩,
           ⟨(some 34), (some (33, true)), (.fad 1 false 1 (.tmp 5))⟩,
           ⟨(some 35), (some (33, true)), (.ld false 1 (.tmp 34))⟩,
           ⟨(some 36), (some (33, true)), (.fad 0 false 1 (.tmp 3))⟩,
           ⟨(some 37), (some (33, true)), (.ld false 1 (.tmp 36))⟩,
           ⟨(some 38), (some (33, true)), (.fad 2 false 1 (.tmp 5))⟩,
           ⟨(some 39), (some (33, true)), (.ld false 1 (.tmp 38))⟩,
           ⟨(some 40), (some (33, true)), (.bin .sub (.tmp 37) (.tmp 39))⟩,
           ⟨(some 41), (some (33, true)), (.bin .leq (.tmp 35) (.tmp 40))⟩,
           ⟨(some 42), none, (.pick (.tmp 33) (.tmp 41) (.const (.bool false)))⟩,
           ⟨(some 6), none, (.mv (.tmp 42))⟩])
         .ret)
        .skip))))
    (.seq
     (.seq
      (.ops [
        ⟨(some 43), none, (.fad 2 false 1 (.tmp 5))⟩,
        ⟨(some 44), none, (.ld false 1 (.tmp 43))⟩,
        ⟨(some 45), none, (.bin .neq (.tmp 44) (.const (.int .i64 0)))⟩])
      (.cond (.tmp 45)
       (.seq
        (.ops [
          ⟨(some 6), none, (.mv (.const (.bool false)))⟩])
        .ret)
       .skip))
     (.seq
      (.seq
       (.ops [
         ⟨(some 46), none, (.fad 0 false 1 (.tmp 5))⟩,
         ⟨(some 47), none, (.ld false 1 (.tmp 46))⟩])
       (.block 1
        (.seq
         (.seq
          (.ops [
            ⟨(some 49), none, (.bin .eql (.tmp 47) (.const (.int .i64 2)))⟩,
            ⟨(some 48), none, (.mv (.tmp 49))⟩])
          (.cond (.tmp 48)
           .skip
           (.ops [
             ⟨(some 50), none, (.bin .eql (.tmp 47) (.const (.int .i64 3)))⟩,
             ⟨(some 48), none, (.mv (.tmp 50))⟩])))
         (.cond (.tmp 48)
          (.seq
           (.ops [
             ⟨(some 51), none, (.fad 1 false 1 (.tmp 5))⟩,
             ⟨(some 52), none, (.ld false 1 (.tmp 51))⟩,
             ⟨(some 53), none, (.bin .geq (.tmp 52) (.const (.int .i64 0)))⟩,
             ⟨(some 54), none, (.mv (.tmp 53))⟩,
             ⟨(some 55), (some (54, true)), (.fad 1 false 1 (.tmp 5))⟩,
             ⟨(some 56), (some (54, true)), (.ld false 1 (.tmp 55))⟩,
             ⟨(some 57), (some (54, true)), (.fad 0 false 1 (.tmp 3))⟩,
             ⟨(some 58), (some (54, true)), (.ld false 1 (.tmp 57))⟩,
             ⟨(some 59), (some (54, true)), (.bin .lss (.tmp 56) (.tmp 58))⟩,
             ⟨(some 60), none, (.pick (.tmp 54) (.tmp 59) (.const (.bool false)))⟩,
             ⟨(some 6), none, (.mv (.tmp 60))⟩])
           .ret)
          (.seq
           (.ops [
             ⟨(some 62), none, (.bin .eql (.tmp 47) (.const (.int .i64 6)))⟩,
             ⟨(some 61), none, (.mv (.tmp 62))⟩])
           (.cond (.tmp 61)
            (.seq
             (.ops [
               ⟨(some 63), none, (.fad 1 false 1 (.tmp 5))⟩,
               ⟨(some 64), none, (.ld false 1 (.tmp 63))⟩,
               ⟨(some 65), none, (.bin .geq (.tmp 64) (.const (.int .i64 4)))⟩,
               ⟨(some 66), none, (.mv (.tmp 65))⟩,
               ⟨(some 67), (some (66, true)), (.fad 1 false 1 (.tmp 5))⟩,
               ⟨(some 68), (some (66, true)), (.ld false 1 (.tmp 67))⟩,
               ⟨(some 69), (some (66, true)), (.bin .leq (.tmp 68) (.const (.int .i64 15)))⟩,
               ⟨(some 70), none, (.pick (.tmp 66) (.tmp 69) (.const (.bool false)))⟩,
               ⟨(some 6), none, (.mv (.tmp 70))⟩])
             .ret)
            (.seq
             (.seq
              (.ops [
                ⟨(some 72), none, (.bin .eql (.tmp 47) (.const (.int .i64 8)))⟩,
                ⟨(some 71), none, (.mv (.tmp 72))⟩])
              (.cond (.tmp 71)
               .skip
               (.ops [
                 ⟨(some 73), none, (.bin .eql (.tmp 47) (.const (.int .i64 9)))⟩,
                 ⟨(some 71), none, (.mv (.tmp 73))⟩])))
             (.cond (.tmp 71)
              (.seq
               (.ops [
                 ⟨(some 74), none, (.fad 1 false 1 (.tmp 5))⟩,
                 ⟨(some 75), none, (.ld false 1 (.tmp 74))⟩,
                 ⟨(some 76), none, (.bin .geq (.tmp 75) (.const (.int .i64 0)))⟩,
                 ⟨(some 77), none, (.mv (.tmp 76))⟩,
                 ⟨(some 78), (some (77, true)), (.fad 1 false 1 (.tmp 5))⟩,
                 ⟨(some 79), (some (77, true)), (.ld false 1 (.tmp 78))⟩,
                 ⟨(some 80), (some (77, true)), (.fad 1 false 1 (.tmp 3))⟩,
                 ⟨(some 81), (some (77, true)), (.ld false 1 (.tmp 80))⟩,
                 ⟨(some 82), (some (77, true)), (.mv (.tmp 1))⟩,
                 ⟨(some 83), (some (77, true)), (.idx 5 (.tmp 81) (.tmp 82))⟩,
                 ⟨(some 84), (some (77, true)), (.fad 4 false 1 (.tmp 83))⟩,
                 ⟨(some 85), (some (77, true)), (.ld false 1 (.tmp 84))⟩,
                 ⟨(some 86), (some (77, true)), (.len (.tmp 85))⟩,
                 ⟨(some 87), (some (77, true)), (.bin .lss (.tmp 79) (.tmp 86))⟩,
                 ⟨(some 88), none, (.pick (.tmp 77) (.tmp 87) (.const (.bool false)))⟩,
                 ⟨(some 6), none, (.mv (.tmp 88))⟩])
               .ret)
              (.seq
               (.ops [
                 ⟨(some 90), none, (.bin .eql (.tmp 47) (.const (.int .i64 10)))⟩,
                 ⟨(some 89), none, (.mv (.tmp 90))⟩])
               (.cond (.tmp 89)
                (.seq
                 (.ops [
                   ⟨(some 91), none, (.fad 1 false 1 (.tmp 5))⟩,
                   ⟨(some 92), none, (.ld false 1 (.tmp 91))⟩,
                   ⟨(some 93), none, (.bin .geq (.tmp 92) (.const (.int .i64 0)))⟩,
                   ⟨(some 94), none, (.mv (.tmp 93))⟩,
                   ⟨(some 95), (some (94, true)), (.fad 1 false 1 (.tmp 5))⟩,
                   ⟨(some 96), (some (94, true)), (.ld false 1 (.tmp 95))⟩,
                   ⟨(some 97), (some (94, true)), (.mv (.tmp 1))⟩,
                   ⟨(some 98), (some (94, true)), (.bin .lss (.tmp 96) (.tmp 97))⟩,
                   ⟨(some 99), none, (.pick (.tmp 94) (.tmp 98) (.const (.bool false)))⟩,
                   ⟨(some 6), none, (.mv (.tmp 99))⟩])
                 .ret)
                (.seq
                 (.seq
                  (.ops [
                    ⟨(some 101), none, (.bin .eql (.tmp 47) (.const (.int .i64 1)))⟩,
                    ⟨(some 100), none, (.mv (.tmp 101))⟩])
                  (.cond (.tmp 100)
                   .skip
                   (.seq
                    (.ops [
                      ⟨(some 102), none, (.bin .eql (.tmp 47) (.const (.int .i64 7)))⟩,
                      ⟨(some 100), none, (.mv (.tmp 102))⟩])
                    (.cond (.tmp 100)
                     .skip
                     (.seq
                      (.ops [
                        ⟨(some 103), none, (.bin .eql (.tmp 47) (.const (.int .i64 11)))⟩,
                        ⟨(some 100), none, (.mv (.tmp 103))⟩])
                      (.cond (.tmp 100)
                       .skip
                       (.seq
                        (.ops [
                          ⟨(some 104), none, (.bin .eql (.tmp 47) (.const (.int .i64 12)))⟩,
                          ⟨(some 100), none, (.mv (.tmp 104))⟩])
                        (.cond (.tmp 100)
                         .skip
                         (.ops [
                           ⟨(some 105), none, (.bin .eql (.tmp 47) (.const (.int .i64 13)))⟩,
                           ⟨(some 100), none, (.mv (.tmp 105))⟩])))))))))
                 (.cond (.tmp 100)
                  (.seq
                   (.ops [
                     ⟨(some 106), none, (.fad 1 false 1 (.tmp 5))⟩,
                     ⟨(some 107), none, (.ld false 1 (.tmp 106))⟩,
                     ⟨(some 108), none, (.bin .eql (.tmp 107) (.const (.int .i64 0)))⟩,
                     ⟨(some 6), none, (.mv (.tmp 108))⟩])
                   .ret)
                  .skip))))))))))))
      (.seq
       (.ops [
         ⟨(some 6), none, (.mv (.const (.bool false)))⟩])
       .ret))))))
theorem f_stack_right : compF Try.prog 30 = some (109, c_stack_right, [(.tmp 6)]) := by kernel_rfl

/-- seedcorn/word.divide -/
def c_word_divide : VC :=
 (.seq
  (.ops [
    ⟨(some 6), none, (.mv (.const (.int .u32 0)))⟩,
    ⟨(some 7), none, (.mv (.const (.int .i64 0)))⟩])
  (.seq
   (.seq
    (.ops [
      ⟨(some 8), none, (.mv (.tmp 2))⟩,
      ⟨(some 9), none, (.bin .eql (.tmp 8) (.const (.int .u32 0)))⟩])
    (.cond (.tmp 9)
     (.seq
      (.ops [
        ⟨(some 6), none, (.mv (.const (.int .u32 0)))⟩,
        ⟨(some 7), none, (.mv (.const (.int .i64 14)))⟩])
      .ret)
     .skip))
   (.seq
    (.seq
     (.ops [
       ⟨(some 10), none, (.mv (.tmp 0))⟩,
       ⟨(some 11), none, (.bin .eql (.tmp 10) (.const (.int .i64 7)))⟩])
     (.cond (.tmp 11)
      (.seq
       (.ops [
         ⟨(some 12), none, (.mv (.tmp 1))⟩,
         ⟨(some 13), none, (.mv (.tmp 2))⟩,
         ⟨(some 14), none, (.bin .quo (.tmp 12) (.tmp 13))⟩,
         ⟨(some 6), none, (.mv (.tmp 14))⟩,
         ⟨(some 7), none, (.mv (.const (.int .i64 0)))⟩])
       .ret)
      .skip))
    (.seq
     (.ops [
       ⟨(some 15), none, (.mv (.tmp 1))⟩,
       ⟨(some 16), none, (.mv (.tmp 2))⟩,
       ⟨(some 17), none, (.bin .rem (.tmp 15) (.tmp 16))⟩,
       ⟨(some 6), none, (.mv (.tmp 17))⟩,
       ⟨(some 7), none, (.mv (.const (.int .i64 0)))⟩])
     .ret))))
theorem f_word_divide : compF Try.prog 31 = some (18, c_word_divide, [(.tmp 6), (.tmp 7)]) := by kernel_rfl

/-- seedcorn/word.shift -/
def c_word_shift : VC :=
 (.seq
  (.ops [
    ⟨(some 6), none, (.mv (.const (.int .u32 0)))⟩])
  (.seq
   (.block 0
    (.seq
     (.ops [
       ⟨(some 8), none, (.mv (.tmp 2))⟩,
       ⟨(some 9), none, (.bin .gtr (.tmp 8) (.const (.int .u32 31)))⟩,
       ⟨(some 7), none, (.mv (.tmp 9))⟩])
     (.cond (.tmp 7)
      (.seq
       (.ops [
         ⟨(some 6), none, (.mv (.const (.int .u32 0)))⟩])
       .ret)
      (.seq
       (.ops [
         ⟨(some 11), none, (.mv (.tmp 0))⟩,
         ⟨(some 12), none, (.bin .eql (.tmp 11) (.const (.int .i64 12)))⟩,
         ⟨(some 10), none, (.mv (.tmp 12))⟩])
       (.cond (.tmp 10)
        (.seq
         (.ops [
           ⟨(some 13), none, (.mv (.tmp 1))⟩,
           ⟨(some 14), none, (.mv (.tmp 2))⟩,
           ⟨(some 15), none, (.bin .shl (.tmp 13) (.tmp 14))⟩,
           ⟨(some 6), none, (.mv (.tmp 15))⟩])
         .ret)
        .skip)))))
   (.seq
    (.ops [
      ⟨(some 16), none, (.mv (.tmp 1))⟩,
      ⟨(some 17), none, (.mv (.tmp 2))⟩,
      ⟨(some 18), none, (.bin .shr (.tmp 16) (.tmp 17))⟩,
      ⟨(some 6), none, (.mv (.tmp 18))⟩])
    .ret)))
theorem f_word_shift : compF Try.prog 32 = some (19, c_word_shift, [(.tmp 6)]) := by kernel_rfl

/-- seedcorn/word.compare -/
def c_word_compare : VC :=
 (.seq
  (.ops [
    ⟨(some 6), none, (.mv (.const (.int .u32 0)))⟩])
  (.seq
   (.block 0
    (.seq
     (.block 2
      (.block 1
       (.seq
        (.seq
         (.seq
          (.ops [
            ⟨(some 8), none, (.mv (.tmp 0))⟩,
            ⟨(some 9), none, (.bin .eql (.tmp 8) (.const (.int .i64 14)))⟩,
            ⟨(some 10), none, (.mv (.tmp 9))⟩,
            ⟨(some 11), (some (10, true)), (.mv (.tmp 1))⟩,
            ⟨(some 12), (some (10, true)), (.mv (.tmp 2))⟩,
            ⟨(some 13), (some (10, true)), (.bin .lss (.tmp 11) (.tmp 12))⟩,
            ⟨(some 14), none, (.pick (.tmp 10) (.tmp 13) (.const (.bool false)))⟩,
            ⟨(some 7), none, (.mv (.tmp 14))⟩])
          (.cond (.tmp 7)
           (.exit 1)
           .skip))
         (.seq
          (.ops [
            ⟨(some 16), none, (.mv (.tmp 0))⟩,
            ⟨(some 17), none, (.bin .eql (.tmp 16) (.const (.int .i64 15)))⟩,
            ⟨(some 18), none, (.mv (.tmp 17))⟩,
            ⟨(some 19), (some (18, true)), (.mv (.tmp 1))⟩,
            ⟨(some 20), (some (18, true)), (.mv (.tmp 2))⟩,
            ⟨(some 21), (some (18, true)), (.bin .eql (.tmp 19) (.tmp 20))⟩,
            ⟨(some 22), none, (.pick (.tmp 18) (.tmp 21) (.const (.bool false)))⟩,
            ⟨(some 15), none, (.mv (.tmp 22))⟩])
          (.cond (.tmp 15)
           (.exit 2)
           .skip)))
        (.exit 0))))
     (.seq
      (.seq
       (.ops [
         ⟨(some 6), none, (.mv (.const (.int .u32 1)))⟩])
       .ret)
      (.exit 0))))
   (.seq
    (.ops [
      ⟨(some 6), none, (.mv (.const (.int .u32 0)))⟩])
    .ret)))
theorem f_word_compare : compF Try.prog 33 = some (23, c_word_compare, [(.tmp 6)]) := by kernel_rfl

/-- (*seedcorn/stack.pile[int]).push -/
def c_stack_pile_int_push : VC :=
 (.ops [
   ⟨(some 4), none, (.mv (.tmp 0))⟩,
   ⟨(some 5), none, (.mv (.tmp 0))⟩,
   ⟨(some 6), none, (.nck (.tmp 5))⟩,
   ⟨(some 7), none, (.fad 0 false 1 (.tmp 6))⟩,
   ⟨(some 8), none, (.ld false 1 (.tmp 7))⟩,
   ⟨(some 9), none, (.mv (.tmp 1))⟩,
   ⟨(some 10), none, (.bsl 3 1 1 [(.int .i64 0)] [(0, (1, (.tmp 9)))])⟩,
   ⟨(some 11), none, (.app 3 1 8 (.tmp 8) (.tmp 10))⟩,
   ⟨(some 12), none, (.nck (.tmp 4))⟩,
   ⟨(some 13), none, (.fad 0 false 1 (.tmp 12))⟩,
   ⟨none, none, (.sto false 1 (.tmp 13) (.tmp 11))⟩])
theorem f_stack_pile_int_push : compF Try.prog 34 = some (14, c_stack_pile_int_push, []) := by kernel_rfl

/-- (*seedcorn/stack.pile[int]).size -/
def c_stack_pile_int_size : VC :=
 (.seq
  (.ops [
    ⟨(some 2), none, (.mv (.const (.int .i64 0)))⟩])
  (.seq
   (.ops [
     ⟨(some 3), none, (.mv (.tmp 0))⟩,
     ⟨(some 4), none, (.nck (.tmp 3))⟩,
     ⟨(some 5), none, (.fad 0 false 1 (.tmp 4))⟩,
     ⟨(some 6), none, (.ld false 1 (.tmp 5))⟩,
     ⟨(some 7), none, (.len (.tmp 6))⟩,
     ⟨(some 2), none, (.mv (.tmp 7))⟩])
   .ret))
theorem f_stack_pile_int_size : compF Try.prog 35 = some (8, c_stack_pile_int_size, [(.tmp 2)]) := by kernel_rfl

/-- (*seedcorn/stack.pile[int]).pop -/
def c_stack_pile_int_pop : VC :=
 (.seq
  (.ops [
    ⟨(some 2), none, (.mv (.const (.int .i64 0)))⟩])
  (.seq
   (.ops [
     ⟨(some 5), none, (.mv (.tmp 0))⟩,
     ⟨(some 6), none, (.nck (.tmp 5))⟩,
     ⟨(some 7), none, (.fad 0 false 1 (.tmp 6))⟩,
     ⟨(some 8), none, (.ld false 1 (.tmp 7))⟩,
     ⟨(some 9), none, (.len (.tmp 8))⟩,
     ⟨(some 10), none, (.bin .sub (.tmp 9) (.const (.int .i64 1)))⟩,
     ⟨(some 3), none, (.mv (.tmp 10))⟩])
   (.seq
    (.ops [
      ⟨(some 11), none, (.mv (.tmp 0))⟩,
      ⟨(some 12), none, (.nck (.tmp 11))⟩,
      ⟨(some 13), none, (.fad 0 false 1 (.tmp 12))⟩,
      ⟨(some 14), none, (.ld false 1 (.tmp 13))⟩,
      ⟨(some 15), none, (.mv (.tmp 3))⟩,
      ⟨(some 16), none, (.idx 1 (.tmp 14) (.tmp 15))⟩,
      ⟨(some 17), none, (.ld false 1 (.tmp 16))⟩,
      ⟨(some 4), none, (.mv (.tmp 17))⟩])
    (.seq
     (.ops [
       ⟨(some 18), none, (.mv (.tmp 0))⟩,
       ⟨(some 19), none, (.mv (.tmp 0))⟩,
       ⟨(some 20), none, (.nck (.tmp 19))⟩,
       ⟨(some 21), none, (.fad 0 false 1 (.tmp 20))⟩,
       ⟨(some 22), none, (.ld false 1 (.tmp 21))⟩,
       ⟨(some 23), none, (.mv (.tmp 3))⟩,
       ⟨(some 24), none, (.sl 1 (.tmp 22) none (some (.tmp 23)))⟩,
       ⟨(some 25), none, (.nck (.tmp 18))⟩,
       ⟨(some 26), none, (.fad 0 false 1 (.tmp 25))⟩,
       ⟨none, none, (.sto false 1 (.tmp 26) (.tmp 24))⟩])
     (.seq
      (.ops [
        ⟨(some 27), none, (.mv (.tmp 4))⟩,
        ⟨(some 2), none, (.mv (.tmp 27))⟩])
      .ret)))))
theorem f_stack_pile_int_pop : compF Try.prog 36 = some (28, c_stack_pile_int_pop, [(.tmp 2)]) := by kernel_rfl

/-- seedcorn/stack.behind -/
def c_stack_behind : VC :=
 (.seq
  (.ops [
    ⟨(some 4), none, (.box 24 (.tmp 0))⟩,
    ⟨(some 6), none, (.box 36 (.tmp 2))⟩,
    ⟨(some 8), none, (.mv (.const (.int .i64 0)))⟩,
    ⟨(some 9), none, (.mv (.const (.bool false)))⟩])
  (.seq
   (.ops [
     ⟨(some 10), none, (.mv (.const (.int .i64 0)))⟩,
     ⟨(some 11), none, (.mv (.const (.int .i64 0)))⟩])
   (.seq
    (.seq
     (.ops [
       ⟨(some 12), none, (.fad 0 false 1 (.tmp 6))⟩,
       ⟨(some 13), none, (.ld false 1 (.tmp 12))⟩])
     (.block 0
      (.seq
       (.seq
        (.ops [
          ⟨(some 15), none, (.bin .eql (.tmp 13) (.const (.int .i64 1)))⟩,
          ⟨(some 14), none, (.mv (.tmp 15))⟩])
        (.cond (.tmp 14)
         .skip
         (.seq
          (.ops [
            ⟨(some 16), none, (.bin .eql (.tmp 13) (.const (.int .i64 2)))⟩,
            ⟨(some 14), none, (.mv (.tmp 16))⟩])
          (.cond (.tmp 14)
           .skip
           (.ops [
             ⟨(some 17), none, (.bin .eql (.tmp 13) (.const (.int .i64 12)))⟩,
             ⟨(some 14), none, (.mv (.tmp 17))⟩])))))
       (.cond (.tmp 14)
        (.ops [
          ⟨(some 11), none, (.mv (.const (.int .i64 1)))⟩])
        (.seq
         (.seq
          (.ops [
            ⟨(some 19), none, (.bin .eql (.tmp 13) (.const (.int .i64 3)))⟩,
            ⟨(some 18), none, (.mv (.tmp 19))⟩])
          (.cond (.tmp 18)
           .skip
           (.seq
            (.ops [
              ⟨(some 20), none, (.bin .eql (.tmp 13) (.const (.int .i64 9)))⟩,
              ⟨(some 18), none, (.mv (.tmp 20))⟩])
            (.cond (.tmp 18)
             .skip
             (.ops [
               ⟨(some 21), none, (.bin .eql (.tmp 13) (.const (.int .i64 13)))⟩,
               ⟨(some 18), none, (.mv (.tmp 21))⟩])))))
         (.cond (.tmp 18)
          (.ops [
            ⟨(some 10), none, (.mv (.const (.int .i64 1)))⟩])
          (.seq
           (.seq
            (.ops [
              ⟨(some 23), none, (.bin .eql (.tmp 13) (.const (.int .i64 4)))⟩,
              ⟨(some 22), none, (.mv (.tmp 23))⟩])
            (.cond (.tmp 22)
             .skip
             (.ops [
               ⟨(some 24), none, (.bin .eql (.tmp 13) (.const (.int .i64 7)))⟩,
               ⟨(some 22), none, (.mv (.tmp 24))⟩])))
           (.cond (.tmp 22)
            (.ops [
              ⟨(some 10), none, (.mv (.const (.int .i64 1)))⟩,
              ⟨(some 11), none, (.mv (.const (.int .i64 1)))⟩])
            (.seq
             (.ops [
               ⟨(some 26), none, (.bin .eql (.tmp 13) (.const (.int .i64 5)))⟩,
               ⟨(some 25), none, (.mv (.tmp 26))⟩])
             (.cond (.tmp 25)
              (.ops [
                ⟨(some 10), none, (.mv (.const (.int .i64 2)))⟩])
              (.seq
               (.ops [
                 ⟨(some 28), none, (.bin .eql (.tmp 13) (.const (.int .i64 6)))⟩,
                 ⟨(some 27), none, (.mv (.tmp 28))⟩])
               (.cond (.tmp 27)
                (.ops [
                  ⟨(some 10), none, (.mv (.const (.int .i64 2)))⟩,
                  ⟨(some 11), none, (.mv (.const (.int .i64 1)))⟩])
                (.seq
                 (.ops [
                   ⟨(some 30), none, (.bin .eql (.tmp 13) (.const (.int .i64 8)))⟩,
                   ⟨(some 29), none, (.mv (.tmp 30))⟩])
                 (.cond (.tmp 29)
                  .skip
                  (.seq
                   (.ops [
                     ⟨(some 32), none, (.bin .eql (.tmp 13) (.const (.int .i64 10)))⟩,
                     ⟨(some 31), none, (.mv (.tmp 32))⟩])
                   (.cond (.tmp 31)
                    (.seq
                     (.seq
                      (.ops [
                        ⟨(some 33), none, (.fad 1 false 1 (.tmp 6))⟩,
                        ⟨(some 34), none, (.ld false 1 (.tmp 33))⟩,
                        ⟨(some 35), none, (.bin .lss (.tmp 34) (.const (.int .i64 0)))⟩,
                        ⟨(some 36), none, (.mv (.tmp 35))⟩,
                        ⟨(some 37), (some (36, false)), (.fad 1 false 1 (.tmp 6))⟩,
                        ⟨(some 38), (some (36, false)), (.ld false 1 (.tmp 37))⟩,
                        ⟨(some 39), (some (36, false)), (.fad 1 false 1 (.tmp 4))⟩,
                        ⟨(some 40), (some (36, false)), (.ld false 1 (.tmp 39))⟩,
                        ⟨(some 41), (some (36, false)), (.len (.tmp 40))⟩,
                        ⟨(some 42), (some (36, false)), (.bin .geq (.tmp 38) (.tmp 41))⟩,
                        ⟨(some 43), none, (.pick (.tmp 36) (.const (.bool true)) (.tmp 42))⟩,
                        ⟨(some 44), none, (.mv (.tmp 43))⟩,
                        ⟨(some 45), (some (44, false)), (.fad 1 false 1 (.tmp 4))⟩,
                        ⟨(some 46), (some (44, false)), (.ld false 1 (.tmp 45))⟩,
                        ⟨(some 47), (some (44, false)), (.fad 1 false 1 (.tmp 6))⟩,
                        ⟨(some 48), (some (44, false)), (.ld false 1 (.tmp 47))⟩,
                        ⟨(some 49), (some (44, false)), (.idx 5 (.tmp 46) (.tmp 48))⟩,
                        ⟨(some 50), (some (44, false)), (.fad 0 false 1 (.tmp 49))⟩,
                        ⟨(some 51), (some (44, false)), (.ld false 1 (.tmp 50))⟩,
                        ⟨(some 52), (some (44, false)), (.bin .lss (.tmp 51) (.const (.int .i64 0)))⟩,
                        ⟨(some 53), none, (.pick (.tmp 44) (.const (.bool true)) (.tmp 52))⟩])
                      (.cond (.tmp 53)
                       (.seq
                        (.ops [
                          ⟨(some 8), none, (.mv (.const (.int .i64 0)))⟩,
                          ⟨(some 9), none, (.mv (.const (.bool false)))⟩])
                        .ret)
                       .skip))
                     (.par true (.one ⟨(some 54), none, (.fad 1 false 1 (.tmp 4))⟩ (.one ⟨(some 56), none, (.fad 1 false 1 (.tmp 6))⟩ (.one ⟨(some 61), none, (.fad 1 false 1 (.tmp 4))⟩ (.one ⟨(some 62), none, (.ld false 1 (.tmp 61))⟩ (.one ⟨(some 63), none, (.fad 1 false 1 (.tmp 6))⟩ (.one ⟨(some 64), none, (.ld false 1 (.tmp 63))⟩ (.one ⟨(some 65), none, (.idx 5 (.tmp 62) (.tmp 64))⟩ (.one ⟨(some 66), none, (.fad 3 false 1 (.tmp 65))⟩ (.one ⟨(some 67), none, (.ld false 1 (.tmp 66))⟩ (.both (.one ⟨(some 55), none, (.ld false 1 (.tmp 54))⟩ (.both (.one ⟨(some 57), none, (.ld false 1 (.tmp 56))⟩ (.one ⟨(some 58), none, (.idx 5 (.tmp 55) (.tmp 57))⟩ (.one ⟨(some 59), none, (.fad 0 false 1 (.tmp 58))⟩ (.both (.one ⟨(some 60), none, (.ld false 1 (.tmp 59))⟩ (.one ⟨(some 68), none, (.callM true (.func 51) [(.tmp 67)])⟩ (.one ⟨(some 10), none, (.mv (.tmp 60))⟩ (.one ⟨(some 11), none, (.mv (.tmp 68))⟩ .done)))) (.one ⟨(some 68), none, (.callM true (.func 51) [(.tmp 67)])⟩ (.one ⟨(some 60), none, (.ld false 1 (.tmp 59))⟩ (.one ⟨(some 10), none, (.mv (.tmp 60))⟩ (.one ⟨(some 11), none, (.mv (.tmp 68))⟩ .done)))))))) (.one ⟨(some 68), none, (.callM true (.func 51) [(.tmp 67)])⟩ (.one ⟨(some 57), none, (.ld false 1 (.tmp 56))⟩ (.one ⟨(some 58), none, (.idx 5 (.tmp 55) (.tmp 57))⟩ (.one ⟨(some 59), none, (.fad 0 false 1 (.tmp 58))⟩ (.one ⟨(some 60), none, (.ld false 1 (.tmp 59))⟩ (.one ⟨(some 10), none, (.mv (.tmp 60))⟩ (.one ⟨(some 11), none, (.mv (.tmp 68))⟩ .done))))))))) (.both (.one ⟨(some 57), none, (.ld false 1 (.tmp 56))⟩ (.both (.one ⟨(some 55), none, (.ld false 1 (.tmp 54))⟩ (.one ⟨(some 58), none, (.idx 5 (.tmp 55) (.tmp 57))⟩ (.one ⟨(some 59), none, (.fad 0 false 1 (.tmp 58))⟩ (.both (.one ⟨(some 60), none, (.ld false 1 (.tmp 59))⟩ (.one ⟨(some 68), none, (.callM true (.func 51) [(.tmp 67)])⟩ (.one ⟨(some 10), none, (.mv (.tmp 60))⟩ (.one ⟨(some 11), none, (.mv (.tmp 68))⟩ .done)))) (.one ⟨(some 68), none, (.callM true (.func 51) [(.tmp 67)])⟩ (.one ⟨(some 60), none, (.ld false 1 (.tmp 59))⟩ (.one ⟨(some 10), none, (.mv (.tmp 60))⟩ (.one ⟨(some 11), none, (.mv (.tmp 68))⟩ .done)))))))) (.one ⟨(some 68), none, (.callM true (.func 51) [(.tmp 67)])⟩ (.one ⟨(some 55), none, (.ld false 1 (.tmp 54))⟩ (.one ⟨(some 58), none, (.idx 5 (.tmp 55) (.tmp 57))⟩ (.one ⟨(some 59), none, (.fad 0 false 1 (.tmp 58))⟩ (.one ⟨(some 60), none, (.ld false 1 (.tmp 59))⟩ (.one ⟨(some 10), none, (.mv (.tmp 60))⟩ (.one ⟨(some 11), none, (.mv (.tmp 68))⟩ .done))))))))) (.one ⟨(some 68), none, (.callM true (.func 51) [(.tmp 67)])⟩ (.one ⟨(some 55), none, (.ld false 1 (.tmp 54))⟩ (.one ⟨(some 57), none, (.ld false 1 (.tmp 56))⟩ (.one ⟨(some 58), none, (.idx 5 (.tmp 55) (.tmp 57))⟩ (.one ⟨(some 59), none, (.fad 0 false 1 (.tmp 58))⟩ (.one ⟨(some 60), none, (.ld false 1 (.tmp 59))⟩ (.one ⟨(some 10), none, (.mv (.tmp 60))⟩ (.one ⟨(some 11), none, (.mv (.tmp 68))⟩ .done)))))))))))))))))))))
                    (.seq
                     (.ops [
                       ⟨(some 70), none, (.bin .eql (.tmp 13) (.const (.int .i64 11)))⟩,
                       ⟨(some 69), none, (.mv (.tmp 70))⟩])
                     (.cond (.tmp 69)
                      (.seq
                       (.ops [
                         ⟨(some 71), none, (.fad 1 false 1 (.tmp 4))⟩,
                         ⟨(some 72), none, (.ld false 1 (.tmp 71))⟩,
                         ⟨(some 73), none, (.mv (.tmp 1))⟩,
                         ⟨(some 74), none, (.idx 5 (.tmp 72) (.tmp 73))⟩,
                         ⟨(some 75), none, (.fad 3 false 1 (.tmp 74))⟩,
                         ⟨(some 76), none, (.ld false 1 (.tmp 75))⟩,
                         ⟨(some 77), none, (.callM true (.func 51) [(.tmp 76)])⟩,
                         ⟨(some 10), none, (.mv (.tmp 77))⟩])
                       (.seq
                        (.ops [
                          ⟨(some 78), none, (.mv (.tmp 3))⟩,
                          ⟨(some 79), none, (.mv (.tmp 10))⟩,
                          ⟨(some 80), none, (.bin .eql (.tmp 78) (.tmp 79))⟩,
                          ⟨(some 8), none, (.mv (.const (.int .i64 0)))⟩,
                          ⟨(some 9), none, (.mv (.tmp 80))⟩])
                        .ret))
                      (.seq
                       (.ops [
                         ⟨(some 8), none, (.mv (.const (.int .i64 0)))⟩,
                         ⟨(some 9), none, (.mv (.const (.bool false)))⟩])
                       .ret)))))))))))))))))))
    (.seq
     (.ops [
       ⟨(some 81), none, (.mv (.tmp 3))⟩,
       ⟨(some 82), none, (.mv (.tmp 10))⟩,
       ⟨(some 83), none, (.bin .sub (.tmp 81) (.tmp 82))⟩,
       ⟨(some 84), none, (.mv (.tmp 11))⟩,
       ⟨(some 85), none, (.bin .add (.tmp 83) (.tmp 84))⟩,
       ⟨(some 86), none, (.mv (.tmp 3))⟩,
       ⟨(some 87), none, (.mv (.tmp 10))⟩,
       ⟨(some 88), none, (.bin .geq (.tmp 86) (.tmp 87))⟩,
       ⟨(some 8), none, (.mv (.tmp 85))⟩,
       ⟨(some 9), none, (.mv (.tmp 88))⟩])
     .ret))))
theorem f_stack_behind : compF Try.prog 37 = some (89, c_stack_behind, [(.tmp 8), (.tmp 9)]) := by kernel_rfl

/-- seedcorn/stack.next -/
def c_stack_next : VC :=
 (.seq
  (.ops [
    ⟨(some 2), none, (.box 36 (.tmp 0))⟩,
    ⟨(some 4), none, (.mv (.const (.slice none 0 0)))⟩])
  (.seq
   (.seq
    (.ops [
      ⟨(some 5), none, (.fad 0 false 1 (.tmp 2))⟩,
      ⟨(some 6), none, (.ld false 1 (.tmp 5))⟩])
    (.block 0
     (.seq
      (.ops [
        ⟨(some 8), none, (.bin .eql (.tmp 6) (.const (.int .i64 8)))⟩,
        ⟨(some 7), none, (.mv (.tmp 8))⟩])
      (.cond (.tmp 7)
       (.seq
        (.ops [
          ⟨(some 9), none, (.fad 1 false 1 (.tmp 2))⟩,
          ⟨(some 10), none, (.ld false 1 (.tmp 9))⟩,
          ⟨(some 11), none, (.bsl 3 1 1 [(.int .i64 0)] [(0, (1, (.tmp 10)))])⟩,
          ⟨(some 4), none, (.mv (.tmp 11))⟩])
        .ret)
       (.seq
        (.ops [
          ⟨(some 13), none, (.bin .eql (.tmp 6) (.const (.int .i64 9)))⟩,
          ⟨(some 12), none, (.mv (.tmp 13))⟩])
        (.cond (.tmp 12)
         (.seq
          (.ops [
            ⟨(some 14), none, (.mv (.tmp 1))⟩,
            ⟨(some 15), none, (.bin .add (.tmp 14) (.const (.int .i64 1)))⟩,
            ⟨(some 16), none, (.fad 1 false 1 (.tmp 2))⟩,
            ⟨(some 17), none, (.ld false 1 (.tmp 16))⟩,
            ⟨(some 18), none, (.bsl 3 1 2 [(.int .i64 0), (.int .i64 0)] [(0, (1, (.tmp 15))), (1, (1, (.tmp 17)))])⟩,
            ⟨(some 4), none, (.mv (.tmp 18))⟩])
          .ret)
         (.seq
          (.ops [
            ⟨(some 20), none, (.bin .eql (.tmp 6) (.const (.int .i64 11)))⟩,
            ⟨(some 19), none, (.mv (.tmp 20))⟩])
          (.cond (.tmp 19)
           (.seq
            (.ops [
              ⟨(some 4), none, (.mv (.const (.slice none 0 0)))⟩])
            .ret)
           .skip))))))))
   (.seq
    (.ops [
      ⟨(some 21), none, (.mv (.tmp 1))⟩,
      ⟨(some 22), none, (.bin .add (.tmp 21) (.const (.int .i64 1)))⟩,
      ⟨(some 23), none, (.bsl 3 1 1 [(.int .i64 0)] [(0, (1, (.tmp 22)))])⟩,
      ⟨(some 4), none, (.mv (.tmp 23))⟩])
    .ret)))
theorem f_stack_next : compF Try.prog 38 = some (24, c_stack_next, [(.tmp 4)]) := by kernel_rfl

/-- seedcorn/seedcornref20.Takes -/
def c_scref20_Takes : VC :=
 (.seq
  (.ops [
    ⟨(some 3), none, (.box 24 (.tmp 0))⟩,
    ⟨(some 5), none, (.box 36 (.tmp 2))⟩,
    ⟨(some 6), none, (.mv (.const (.int .i64 0)))⟩,
    ⟨(some 7), none, (.mv (.const (.int .i64 0)))⟩,
    ⟨(some 8), none, (.mv (.const (.bool false)))⟩])
  (.seq
   (.seq
    (.ops [
      ⟨(some 9), none, (.fad 0 false 1 (.tmp 5))⟩,
      ⟨(some 10), none, (.ld false 1 (.tmp 9))⟩])
    (.block 0
     (.seq
      (.seq
       (.ops [
         ⟨(some 12), none, (.bin .eql (.tmp 10) (.const (.int .i64 1)))⟩,
         ⟨(some 11), none, (.mv (.tmp 12))⟩])
       (.cond (.tmp 11)
        .skip
        (.seq
         (.ops [
           ⟨(some 13), none, (.bin .eql (.tmp 10) (.const (.int .i64 2)))⟩,
           ⟨(some 11), none, (.mv (.tmp 13))⟩])
         (.cond (.tmp 11)
          .skip
          (.ops [
            ⟨(some 14), none, (.bin .eql (.tmp 10) (.const (.int .i64 12)))⟩,
            ⟨(some 11), none, (.mv (.tmp 14))⟩])))))
      (.cond (.tmp 11)
       (.seq
        (.ops [
          ⟨(some 6), none, (.mv (.const (.int .i64 0)))⟩,
          ⟨(some 7), none, (.mv (.const (.int .i64 1)))⟩,
          ⟨(some 8), none, (.mv (.const (.bool true)))⟩])
        .ret)
       (.seq
        (.seq
         (.ops [
           ⟨(some 16), none, (.bin .eql (.tmp 10) (.const (.int .i64 3)))⟩,
           ⟨(some 15), none, (.mv (.tmp 16))⟩])
         (.cond (.tmp 15)
          .skip
          (.seq
           (.ops [
             ⟨(some 17), none, (.bin .eql (.tmp 10) (.const (.int .i64 9)))⟩,
             ⟨(some 15), none, (.mv (.tmp 17))⟩])
           (.cond (.tmp 15)
            .skip
            (.ops [
              ⟨(some 18), none, (.bin .eql (.tmp 10) (.const (.int .i64 13)))⟩,
              ⟨(some 15), none, (.mv (.tmp 18))⟩])))))
        (.cond (.tmp 15)
         (.seq
          (.ops [
            ⟨(some 6), none, (.mv (.const (.int .i64 1)))⟩,
            ⟨(some 7), none, (.mv (.const (.int .i64 0)))⟩,
            ⟨(some 8), none, (.mv (.const (.bool true)))⟩])
          .ret)
         (.seq
          (.seq
           (.ops [
             ⟨(some 20), none, (.bin .eql (.tmp 10) (.const (.int .i64 4)))⟩,
             ⟨(some 19), none, (.mv (.tmp 20))⟩])
           (.cond (.tmp 19)
            .skip
            (.ops [
              ⟨(some 21), none, (.bin .eql (.tmp 10) (.const (.int .i64 7)))⟩,
              ⟨(some 19), none, (.mv (.tmp 21))⟩])))
          (.cond (.tmp 19)
           (.seq
            (.ops [
              ⟨(some 6), none, (.mv (.const (.int .i64 1)))⟩,
              ⟨(some 7), none, (.mv (.const (.int .i64 1)))⟩,
              ⟨(some 8), none, (.mv (.const (.bool true)))⟩])
            .ret)
           (.seq
            (.ops [
              ⟨(some 23), none, (.bin .eql (.tmp 10) (.const (.int .i64 5)))⟩,
              ⟨(some 22), none, (.mv (.tmp 23))⟩])
            (.cond (.tmp 22)
             (.seq
              (.ops [
                ⟨(some 6), none, (.mv (.const (.int .i64 2)))⟩,
                ⟨(some 7), none, (.mv (.const (.int .i64 0)))⟩,
                ⟨(some 8), none, (.mv (.const (.bool true)))⟩])
              .ret)
             (.seq
              (.ops [
                ⟨(some 25), none, (.bin .eql (.tmp 10) (.const (.int .i64 6)))⟩,
                ⟨(some 24), none, (.mv (.tmp 25))⟩])
              (.cond (.tmp 24)
               (.seq
                (.ops [
                  ⟨(some 6), none, (.mv (.const (.int .i64 2)))⟩,
                  ⟨(some 7), none, (.mv (.const (.int .i64 1)))⟩,
                  ⟨(some 8), none, (.mv (.const (.bool true)))⟩])
                .ret)
               (.seq
                (.ops [
                  ⟨(some 27), none, (.bin .eql (.tmp 10) (.const (.int .i64 8)))⟩,
                  ⟨(some 26), none, (.mv (.tmp 27))⟩])
                (.cond (.tmp 26)
                 (.seq
                  (.ops [
                    ⟨(some 6), none, (.mv (.const (.int .i64 0)))⟩,
                    ⟨(some 7), none, (.mv (.const (.int .i64 0)))⟩,
                    ⟨(some 8), none, (.mv (.const (.bool true)))⟩])
                  .ret)
                 (.seq
                  (.ops [
                    ⟨(some 29), none, (.bin .eql (.tmp 10) (.const (.int .i64 10)))⟩,
                    ⟨(some 28), none, (.mv (.tmp 29))⟩])
                  (.cond (.tmp 28)
                   (.seq
                    (.seq
                     (.ops [
                       ⟨(some 30), none, (.fad 1 false 1 (.tmp 5))⟩,
                       ⟨(some 31), none, (.ld false 1 (.tmp 30))⟩,
                       ⟨(some 32), none, (.bin .lss (.tmp 31) (.const (.int .i64 0)))⟩,
                       ⟨(some 33), none, (.mv (.tmp 32))⟩,
                       ⟨(some 34), (some (33, false)), (.fad 1 false 1 (.tmp 5))⟩,
                       ⟨(some 35), (some (33, false)), (.ld false 1 (.tmp 34))⟩,
                       ⟨(some 36), (some (33, false)), (.fad 1 false 1 (.tmp 3))⟩,
                       ⟨(some 37), (some (33, false)), (.ld false 1 (.tmp 36))⟩,
                       ⟨(some 38), (some (33, false)), (.len (.tmp 37))⟩,
                       ⟨(some 39), (some (33, false)), (.bin .geq (.tmp 35) (.tmp 38))⟩,
                       ⟨(some 40), none, (.pick (.tmp 33) (.const (.bool true)) (.tmp 39))⟩])
                     (.cond (.tmp 40)
                      (.seq
                       (.ops [
                         ⟨(some 6), none, (.mv (.const (.int .i64 0)))⟩,
                         ⟨(some 7), none, (.mv (.const (.int .i64 0)))⟩,
                         ⟨(some 8), none, (.mv (.const (.bool false)))⟩])
                       .ret)
                      .skip))
                    (.seq
                     (.seq
                      (.ops [
                        ⟨(some 41), none, (.fad 1 false 1 (.tmp 3))⟩,
                        ⟨(some 42), none, (.ld false 1 (.tmp 41))⟩,
                        ⟨(some 43), none, (.fad 1 false 1 (.tmp 5))⟩,
                        ⟨(some 44), none, (.ld false 1 (.tmp 43))⟩,
                        ⟨(some 45), none, (.idx 5 (.tmp 42) (.tmp 44))⟩,
                        ⟨(some 46), none, (.fad 3 false 1 (.tmp 45))⟩,
                        ⟨(some 47), none, (.ld false 1 (.tmp 46))⟩])
                      (.cond (.tmp 47)
                       (.seq
                        (.ops [
                          ⟨(some 48), none, (.fad 1 false 1 (.tmp 3))⟩,
                          ⟨(some 49), none, (.ld false 1 (.tmp 48))⟩,
                          ⟨(some 50), none, (.fad 1 false 1 (.tmp 5))⟩,
                          ⟨(some 51), none, (.ld false 1 (.tmp 50))⟩,
                          ⟨(some 52), none, (.idx 5 (.tmp 49) (.tmp 51))⟩,
                          ⟨(some 53), none, (.fad 0 false 1 (.tmp 52))⟩,
                          ⟨(some 54), none, (.ld false 1 (.tmp 53))⟩,
                          ⟨(some 6), none, (.mv (.tmp 54))⟩,
                          ⟨(some 7), none, (.mv (.const (.int .i64 1)))⟩,
                          ⟨(some 8), none, (.mv (.const (.bool true)))⟩])
                        .ret)
                       .skip))
                     (.seq
                      (.ops [
                        ⟨(some 55), none, (.fad 1 false 1 (.tmp 3))⟩,
                        ⟨(some 56), none, (.ld false 1 (.tmp 55))⟩,
                        ⟨(some 57), none, (.fad 1 false 1 (.tmp 5))⟩,
                        ⟨(some 58), none, (.ld false 1 (.tmp 57))⟩,
                        ⟨(some 59), none, (.idx 5 (.tmp 56) (.tmp 58))⟩,
                        ⟨(some 60), none, (.fad 0 false 1 (.tmp 59))⟩,
                        ⟨(some 61), none, (.ld false 1 (.tmp 60))⟩,
                        ⟨(some 6), none, (.mv (.tmp 61))⟩,
                        ⟨(some 7), none, (.mv (.const (.int .i64 0)))⟩,
                        ⟨(some 8), none, (.mv (.const (.bool true)))⟩])
                      .ret)))
                   (.seq
                    (.ops [
                      ⟨(some 63), none, (.bin .eql (.tmp 10) (.const (.int .i64 11)))⟩,
                      ⟨(some 62), none, (.mv (.tmp 63))⟩])
                    (.cond (.tmp 62)
                     (.seq
                      (.seq
                       (.ops [
                         ⟨(some 64), none, (.fad 1 false 1 (.tmp 3))⟩,
                         ⟨(some 65), none, (.ld false 1 (.tmp 64))⟩,
                         ⟨(some 66), none, (.mv (.tmp 1))⟩,
                         ⟨(some 67), none, (.idx 5 (.tmp 65) (.tmp 66))⟩,
                         ⟨(some 68), none, (.fad 3 false 1 (.tmp 67))⟩,
                         ⟨(some 69), none, (.ld false 1 (.tmp 68))⟩])
                       (.cond (.tmp 69)
                        (.seq
                         (.ops [
                           ⟨(some 6), none, (.mv (.const (.int .i64 1)))⟩,
                           ⟨(some 7), none, (.mv (.const (.int .i64 0)))⟩,
                           ⟨(some 8), none, (.mv (.const (.bool true)))⟩])
                         .ret)
                        .skip))
                      (.seq
                       (.ops [
                         ⟨(some 6), none, (.mv (.const (.int .i64 0)))⟩,
                         ⟨(some 7), none, (.mv (.const (.int .i64 0)))⟩,
                         ⟨(some 8), none, (.mv (.const (.bool true)))⟩])
                       .ret))
                     .skip))))))))))))))))))
   (.seq
    (.ops [
      ⟨(some 6), none, (.mv (.const (.int .i64 0)))⟩,
      ⟨(some 7), none, (.mv (.const (.int .i64 0)))⟩,
      ⟨(some 8), none, (.mv (.const (.bool false)))⟩])
    .ret)))
theorem f_scref20_Takes : compF Try.prog 39 = some (70, c_scref20_Takes, [(.tmp 6), (.tmp 7), (.tmp 8)]) := by kernel_rfl

/-- seedcorn/seedcornref20.Next -/
def c_scref20_Next : VC :=
 (.seq
  (.ops [
    ⟨(some 2), none, (.box 36 (.tmp 0))⟩,
    ⟨(some 4), none, (.mv (.const (.slice none 0 0)))⟩])
  (.seq
   (.seq
    (.ops [
      ⟨(some 5), none, (.fad 0 false 1 (.tmp 2))⟩,
      ⟨(some 6), none, (.ld false 1 (.tmp 5))⟩])
    (.block 0
     (.seq
      (.ops [
        ⟨(some 8), none, (.bin .eql (.tmp 6) (.const (.int .i64 8)))⟩,
        ⟨(some 7), none, (.mv (.tmp 8))⟩])
      (.cond (.tmp 7)
       (.seq
        (.ops [
          ⟨(some 9), none, (.fad 1 false 1 (.tmp 2))⟩,
          ⟨(some 10), none, (.ld false 1 (.tmp 9))⟩,
          ⟨(some 11), none, (.bsl 3 1 1 [(.int .i64 0)] [(0, (1, (.tmp 10)))])⟩,
          ⟨(some 4), none, (.mv (.tmp 11))⟩])
        .ret)
       (.seq
        (.ops [
          ⟨(some 13), none, (.bin .eql (.tmp 6) (.const (.int .i64 9)))⟩,
          ⟨(some 12), none, (.mv (.tmp 13))⟩])
        (.cond (.tmp 12)
         (.seq
          (.ops [
            ⟨(some 14), none, (.mv (.tmp 1))⟩,
            ⟨(some 15), none, (.bin .add (.tmp 14) (.const (.int .i64 1)))⟩,
            ⟨(some 16), none, (.fad 1 false 1 (.tmp 2))⟩,
            ⟨(some 17), none, (.ld false 1 (.tmp 16))⟩,
            ⟨(some 18), none, (.bsl 3 1 2 [(.int .i64 0), (.int .i64 0)] [(0, (1, (.tmp 15))), (1, (1, (.tmp 17)))])⟩,
            ⟨(some 4), none, (.mv (.tmp 18))⟩])
          .ret)
         (.seq
          (.ops [
            ⟨(some 20), none, (.bin .eql (.tmp 6) (.const (.int .i64 11)))⟩,
            ⟨(some 19), none, (.mv (.tmp 20))⟩])
          (.cond (.tmp 19)
           (.seq
            (.ops [
              ⟨(some 4), none, (.mv (.const (.slice none 0 0)))⟩])
            .ret)
           .skip))))))))
   (.seq
    (.ops [
      ⟨(some 21), none, (.mv (.tmp 1))⟩,
      ⟨(some 22), none, (.bin .add (.tmp 21) (.const (.int .i64 1)))⟩,
      ⟨(some 23), none, (.bsl 3 1 1 [(.int .i64 0)] [(0, (1, (.tmp 22)))])⟩,
      ⟨(some 4), none, (.mv (.tmp 23))⟩])
    .ret)))
theorem f_scref20_Next : compF Try.prog 40 = some (24, c_scref20_Next, [(.tmp 4)]) := by kernel_rfl

/-- (*seedcorn/stack.pile[uint32]).take -/
def c_stack_pile_uint32_take : VC :=
 (.seq
  (.ops [
    ⟨(some 4), none, (.mv (.const (.slice none 0 0)))⟩])
  (.seq
   (.ops [
     ⟨(some 7), none, (.mv (.tmp 0))⟩,
     ⟨(some 8), none, (.nck (.tmp 7))⟩,
     ⟨(some 9), none, (.fad 0 false 1 (.tmp 8))⟩,
     ⟨(some 10), none, (.ld false 1 (.tmp 9))⟩,
     ⟨(some 11), none, (.len (.tmp 10))⟩,
     ⟨(some 12), none, (.mv (.tmp 1))⟩,
     ⟨(some 13), none, (.bin .sub (.tmp 11) (.tmp 12))⟩,
     ⟨(some 5), none, (.mv (.tmp 13))⟩])
   (.seq
    (.ops [
      ⟨(some 14), none, (.mv (.tmp 0))⟩,
      ⟨(some 15), none, (.nck (.tmp 14))⟩,
      ⟨(some 16), none, (.fad 0 false 1 (.tmp 15))⟩,
      ⟨(some 17), none, (.ld false 1 (.tmp 16))⟩,
      ⟨(some 18), none, (.mv (.tmp 5))⟩,
      ⟨(some 19), none, (.sl 1 (.tmp 17) (some (.tmp 18)) none)⟩,
      ⟨(some 6), none, (.mv (.tmp 19))⟩])
    (.seq
     (.ops [
       ⟨(some 20), none, (.mv (.tmp 0))⟩,
       ⟨(some 21), none, (.mv (.tmp 0))⟩,
       ⟨(some 22), none, (.nck (.tmp 21))⟩,
       ⟨(some 23), none, (.fad 0 false 1 (.tmp 22))⟩,
       ⟨(some 24), none, (.ld false 1 (.tmp 23))⟩,
       ⟨(some 25), none, (.mv (.tmp 5))⟩,
       ⟨(some 26), none, (.sl 1 (.tmp 24) none (some (.tmp 25)))⟩,
       ⟨(some 27), none, (.nck (.tmp 20))⟩,
       ⟨(some 28), none, (.fad 0 false 1 (.tmp 27))⟩,
       ⟨none, none, (.sto false 1 (.tmp 28) (.tmp 26))⟩])
     (.seq
      (.ops [
        ⟨(some 29), none, (.mv (.tmp 6))⟩,
        ⟨(some 4), none, (.mv (.tmp 29))⟩])
      .ret)))))
theorem f_stack_pile_uint32_take : compF Try.prog 41 = some (30, c_stack_pile_uint32_take, [(.tmp 4)]) := by kernel_rfl

/-- (*seedcorn/stack.pile[uint32]).push -/
def c_stack_pile_uint32_push : VC :=
 (.ops [
   ⟨(some 4), none, (.mv (.tmp 0))⟩,
   ⟨(some 5), none, (.mv (.tmp 0))⟩,
   ⟨(some 6), none, (.nck (.tmp 5))⟩,
   ⟨(some 7), none, (.fad 0 false 1 (.tmp 6))⟩,
   ⟨(some 8), none, (.ld false 1 (.tmp 7))⟩,
   ⟨(some 9), none, (.mv (.tmp 1))⟩,
   ⟨(some 10), none, (.bsl 34 1 1 [(.int .u32 0)] [(0, (1, (.tmp 9)))])⟩,
   ⟨(some 11), none, (.app 34 1 4 (.tmp 8) (.tmp 10))⟩,
   ⟨(some 12), none, (.nck (.tmp 4))⟩,
   ⟨(some 13), none, (.fad 0 false 1 (.tmp 12))⟩,
   ⟨none, none, (.sto false 1 (.tmp 13) (.tmp 11))⟩])
theorem f_stack_pile_uint32_push : compF Try.prog 42 = some (14, c_stack_pile_uint32_push, []) := by kernel_rfl

/-- seedcorn/stack.not -/
def c_stack_not : VC :=
 (.seq
  (.ops [
    ⟨(some 2), none, (.mv (.const (.int .u32 0)))⟩])
  (.seq
   (.seq
    (.ops [
      ⟨(some 3), none, (.mv (.tmp 0))⟩,
      ⟨(some 4), none, (.bin .eql (.tmp 3) (.const (.int .u32 0)))⟩])
    (.cond (.tmp 4)
     (.seq
      (.ops [
        ⟨(some 2), none, (.mv (.const (.int .u32 1)))⟩])
      .ret)
     .skip))
   (.seq
    (.ops [
      ⟨(some 2), none, (.mv (.const (.int .u32 0)))⟩])
    .ret)))
theorem f_stack_not : compF Try.prog 43 = some (5, c_stack_not, [(.tmp 2)]) := by kernel_rfl

/-- (*seedcorn/stack.machine).get -/
def c_stack_machine_get : VC :=
 (.seq
  (.ops [
    ⟨(some 2), none, (.mv (.const (.int .u32 0)))⟩])
  (.seq
   (.seq
    (.ops [
      ⟨(some 4), none, (.mv (.tmp 0))⟩,
      ⟨(some 5), none, (.nck (.tmp 4))⟩,
      ⟨(some 6), none, (.fad 6 false 1 (.tmp 5))⟩,
      ⟨(some 7), none, (.ld false 1 (.tmp 6))⟩,
      ⟨(some 8), none, (.mv (.tmp 0))⟩,
      ⟨(some 9), none, (.nck (.tmp 8))⟩,
      ⟨(some 10), none, (.fad 5 false 1 (.tmp 9))⟩,
      ⟨(some 11), none, (.ld false 1 (.tmp 10))⟩,
      ⟨(some 12), none, (.lens (.tmp 11))⟩,
      ⟨(some 13), none, (.bin .geq (.tmp 7) (.tmp 12))⟩])
    (.cond (.tmp 13)
     (.seq
      (.ops [
        ⟨(some 2), none, (.mv (.const (.int .u32 256)))⟩])
      .ret)
     .skip))
   (.seq
    (.ops [
      ⟨(some 14), none, (.mv (.tmp 0))⟩,
      ⟨(some 15), none, (.nck (.tmp 14))⟩,
      ⟨(some 16), none, (.fad 5 false 1 (.tmp 15))⟩,
      ⟨(some 17), none, (.ld false 1 (.tmp 16))⟩,
      ⟨(some 18), none, (.mv (.tmp 0))⟩,
      ⟨(some 19), none, (.nck (.tmp 18))⟩,
      ⟨(some 20), none, (.fad 6 false 1 (.tmp 19))⟩,
      ⟨(some 21), none, (.ld false 1 (.tmp 20))⟩,
      ⟨(some 22), none, (.pur .six [(.tmp 17), (.tmp 21)])⟩,
      ⟨(some 3), none, (.mv (.tmp 22))⟩])
    (.seq
     (.ops [
       ⟨(some 23), none, (.mv (.tmp 0))⟩,
       ⟨(some 24), none, (.nck (.tmp 23))⟩,
       ⟨(some 25), none, (.fad 6 false 1 (.tmp 24))⟩,
       ⟨(some 26), none, (.ld false 1 (.tmp 25))⟩,
       ⟨(some 27), none, (.bin .add (.tmp 26) (.const (.int .i64 1)))⟩,
       ⟨(some 28), none, (.nck (.tmp 23))⟩,
       ⟨(some 29), none, (.fad 6 false 1 (.tmp 28))⟩,
       ⟨none, none, (.sto false 1 (.tmp 29) (.tmp 27))⟩])
     (.seq
      (.ops [
        ⟨(some 30), none, (.mv (.tmp 3))⟩,
        ⟨(some 31), none, (.conv .u32 (.tmp 30))⟩,
        ⟨(some 2), none, (.mv (.tmp 31))⟩])
      .ret)))))
theorem f_stack_machine_get : compF Try.prog 44 = some (32, c_stack_machine_get, [(.tmp 2)]) := by kernel_rfl

/-- (*seedcorn/seedcornref20.M).jump -/
def c_scref20_M_jump : VC :=
 (.ops [
   ⟨(some 4), none, (.mv (.tmp 0))⟩,
   ⟨(some 5), none, (.nck (.tmp 4))⟩,
   ⟨(some 6), none, (.fad 8 false 1 (.tmp 5))⟩,
   ⟨(some 7), none, (.ld false 1 (.tmp 6))⟩,
   ⟨(some 8), none, (.mv (.tmp 0))⟩,
   ⟨(some 9), none, (.nck (.tmp 8))⟩,
   ⟨(some 10), none, (.fad 8 false 1 (.tmp 9))⟩,
   ⟨(some 11), none, (.ld false 1 (.tmp 10))⟩,
   ⟨(some 12), none, (.len (.tmp 11))⟩,
   ⟨(some 13), none, (.bin .sub (.tmp 12) (.const (.int .i64 1)))⟩,
   ⟨(some 14), none, (.mv (.tmp 1))⟩,
   ⟨(some 15), none, (.idx 3 (.tmp 7) (.tmp 13))⟩,
   ⟨(some 16), none, (.fad 1 false 1 (.tmp 15))⟩,
   ⟨none, none, (.sto false 1 (.tmp 16) (.tmp 14))⟩])
theorem f_scref20_M_jump : compF Try.prog 45 = some (17, c_scref20_M_jump, []) := by kernel_rfl

/-- (*seedcorn/seedcornref20.M).push -/
def c_scref20_M_push : VC :=
 (.seq
  (.ops [
    ⟨(some 5), none, (.mv (.tmp 0))⟩,
    ⟨(some 6), none, (.nck (.tmp 5))⟩,
    ⟨(some 7), none, (.fad 8 false 1 (.tmp 6))⟩,
    ⟨(some 8), none, (.ld false 1 (.tmp 7))⟩,
    ⟨(some 9), none, (.len (.tmp 8))⟩,
    ⟨(some 10), none, (.bin .sub (.tmp 9) (.const (.int .i64 1)))⟩,
    ⟨(some 4), none, (.mv (.tmp 10))⟩])
  (.par false (.one ⟨(some 11), none, (.mv (.tmp 0))⟩ (.one ⟨(some 15), none, (.mv (.tmp 4))⟩ (.one ⟨(some 16), none, (.mv (.tmp 0))⟩ (.one ⟨(some 17), none, (.nck (.tmp 16))⟩ (.one ⟨(some 18), none, (.fad 8 false 1 (.tmp 17))⟩ (.one ⟨(some 19), none, (.ld false 1 (.tmp 18))⟩ (.one ⟨(some 20), none, (.mv (.tmp 4))⟩ (.one ⟨(some 21), none, (.idx 3 (.tmp 19) (.tmp 20))⟩ (.one ⟨(some 22), none, (.fad 2 false 1 (.tmp 21))⟩ (.one ⟨(some 23), none, (.ld false 1 (.tmp 22))⟩ (.one ⟨(some 24), none, (.mv (.tmp 1))⟩ (.both (.one ⟨(some 12), none, (.nck (.tmp 11))⟩ (.both (.one ⟨(some 13), none, (.fad 8 false 1 (.tmp 12))⟩ (.both (.one ⟨(some 14), none, (.ld false 1 (.tmp 13))⟩ (.one ⟨(some 25), none, (.bsl 34 1 1 [(.int .u32 0)] [(0, (1, (.tmp 24)))])⟩ (.one ⟨(some 26), none, (.app 34 1 4 (.tmp 23) (.tmp 25))⟩ (.one ⟨(some 27), none, (.idx 3 (.tmp 14) (.tmp 15))⟩ (.one ⟨(some 28), none, (.fad 2 false 1 (.tmp 27))⟩ (.one ⟨none, none, (.sto false 1 (.tmp 28) (.tmp 26))⟩ .done)))))) (.one ⟨(some 25), none, (.bsl 34 1 1 [(.int .u32 0)] [(0, (1, (.tmp 24)))])⟩ (.both (.one ⟨(some 14), none, (.ld false 1 (.tmp 13))⟩ (.one ⟨(some 26), none, (.app 34 1 4 (.tmp 23) (.tmp 25))⟩ (.one ⟨(some 27), none, (.idx 3 (.tmp 14) (.tmp 15))⟩ (.one ⟨(some 28), none, (.fad 2 false 1 (.tmp 27))⟩ (.one ⟨none, none, (.sto false 1 (.tmp 28) (.tmp 26))⟩ .done))))) (.one ⟨(some 26), none, (.app 34 1 4 (.tmp 23) (.tmp 25))⟩ (.one ⟨(some 14), none, (.ld false 1 (.tmp 13))⟩ (.one ⟨(some 27), none, (.idx 3 (.tmp 14) (.tmp 15))⟩ (.one ⟨(some 28), none, (.fad 2 false 1 (.tmp 27))⟩ (.one ⟨none, none, (.sto false 1 (.tmp 28) (.tmp 26))⟩ .done))))))))) (.one ⟨(some 25), none, (.bsl 34 1 1 [(.int .u32 0)] [(0, (1, (.tmp 24)))])⟩ (.both (.one ⟨(some 13), none, (.fad 8 false 1 (.tmp 12))⟩ (.both (.one ⟨(some 14), none, (.ld false 1 (.tmp 13))⟩ (.one ⟨(some 26), none, (.app 34 1 4 (.tmp 23) (.tmp 25))⟩ (.one ⟨(some 27), none, (.idx 3 (.tmp 14) (.tmp 15))⟩ (.one ⟨(some 28), none, (.fad 2 false 1 (.tmp 27))⟩ (.one ⟨none, none, (.sto false 1 (.tmp 28) (.tmp 26))⟩ .done))))) (.one ⟨(some 26), none, (.app 34 1 4 (.tmp 23) (.tmp 25))⟩ (.one ⟨(some 14), none, (.ld false 1 (.tmp 13))⟩ (.one ⟨(some 27), none, (.idx 3 (.tmp 14) (.tmp 15))⟩ (.one ⟨(some 28), none, (.fad 2 false 1 (.tmp 27))⟩ (.one ⟨none, none, (.sto false 1 (.tmp 28) (.tmp 26))⟩ .done))))))) (.one ⟨(some 26), none, (.app 34 1 4 (.tmp 23) (.tmp 25))⟩ (.one ⟨(some 13), none, (.fad 8 false 1 (.tmp 12))⟩ (.one ⟨(some 14), none, (.ld false 1 (.tmp 13))⟩ (.one ⟨(some 27), none, (.idx 3 (.tmp 14) (.tmp 15))⟩ (.one ⟨(some 28), none, (.fad 2 false 1 (.tmp 27))⟩ (.one ⟨none, none, (.sto false 1 (.tmp 28) (.tmp 26))⟩ .done)))))))))) (.one ⟨(some 25), none, (.bsl 34 1 1 [(.int .u32 0)] [(0, (1, (.tmp 24)))])⟩ (.both (.one ⟨(some 12), none, (.nck (.tmp 11))⟩ (.both (.one ⟨(some 13), none, (.fad 8 false 1 (.tmp 12))⟩ (.both (.one ⟨(some 14), none, (.ld false 1 (.tmp 13))⟩ (.one ⟨(some 26), none, (.app 34 1 4 (.tmp 23) (.tmp 25))⟩ (.one ⟨(some 27), none, (.idx 3 (.tmp 14) (.tmp 15))⟩ (.one ⟨(some 28), none, (.fad 2 false 1 (.tmp 27))⟩ (.one ⟨none, none, (.sto false 1 (.tmp 28) (.tmp 26))⟩ .done))))) (.one ⟨(some 26), none, (.app 34 1 4 (.tmp 23) (.tmp 25))⟩ (.one ⟨(some 14), none, (.ld false 1 (.tmp 13))⟩ (.one ⟨(some 27), none, (.idx 3 (.tmp 14) (.tmp 15))⟩ (.one ⟨(some 28), none, (.fad 2 false 1 (.tmp 27))⟩ (.one ⟨none, none, (.sto false 1 (.tmp 28) (.tmp 26))⟩ .done))))))) (.one ⟨(some 26), none, (.app 34 1 4 (.tmp 23) (.tmp 25))⟩ (.one ⟨(some 13), none, (.fad 8 false 1 (.tmp 12))⟩ (.one ⟨(some 14), none, (.ld false 1 (.tmp 13))⟩ (.one ⟨(some 27), none, (.idx 3 (.tmp 14) (.tmp 15))⟩ (.one ⟨(some 28), none, (.fad 2 false 1 (.tmp 27))⟩ (.one ⟨none, none, (.sto false 1 (.tmp 28) (.tmp 26))⟩ .done)))))))) (.one ⟨(some 26), none, (.app 34 1 4 (.tmp 23) (.tmp 25))⟩ (.one ⟨(some 12), none, (.nck (.tmp 11))⟩ (.one ⟨(some 13), none, (.fad 8 false 1 (.tmp 12))⟩ (.one ⟨(some 14), none, (.ld false 1 (.tmp 13))⟩ (.one ⟨(some 27), none, (.idx 3 (.tmp 14) (.tmp 15))⟩ (.one ⟨(some 28), none, (.fad 2 false 1 (.tmp 27))⟩ (.one ⟨none, none, (.sto false 1 (.tmp 28) (.tmp 26))⟩ .done)))))))))))))))))))))))
theorem f_scref20_M_push : compF Try.prog 46 = some (29, c_scref20_M_push, []) := by kernel_rfl

/-- (*seedcorn/seedcornref20.M).pop -/
def c_scref20_M_pop : VC :=
 (.seq
  (.ops [
    ⟨(some 2), none, (.mv (.const (.int .u32 0)))⟩])
  (.seq
   (.ops [
     ⟨(some 6), none, (.mv (.tmp 0))⟩,
     ⟨(some 7), none, (.nck (.tmp 6))⟩,
     ⟨(some 8), none, (.fad 8 false 1 (.tmp 7))⟩,
     ⟨(some 9), none, (.ld false 1 (.tmp 8))⟩,
     ⟨(some 10), none, (.len (.tmp 9))⟩,
     ⟨(some 11), none, (.bin .sub (.tmp 10) (.const (.int .i64 1)))⟩,
     ⟨(some 3), none, (.mv (.tmp 11))⟩])
   (.seq
    (.ops [
      ⟨(some 12), none, (.mv (.tmp 0))⟩,
      ⟨(some 13), none, (.nck (.tmp 12))⟩,
      ⟨(some 14), none, (.fad 8 false 1 (.tmp 13))⟩,
      ⟨(some 15), none, (.ld false 1 (.tmp 14))⟩,
      ⟨(some 16), none, (.mv (.tmp 3))⟩,
      ⟨(some 17), none, (.idx 3 (.tmp 15) (.tmp 16))⟩,
      ⟨(some 18), none, (.fad 2 false 1 (.tmp 17))⟩,
      ⟨(some 19), none, (.ld false 1 (.tmp 18))⟩,
      ⟨(some 20), none, (.len (.tmp 19))⟩,
      ⟨(some 4), none, (.mv (.tmp 20))⟩])
    (.seq
     (.ops [
       ⟨(some 21), none, (.mv (.tmp 0))⟩,
       ⟨(some 22), none, (.nck (.tmp 21))⟩,
       ⟨(some 23), none, (.fad 8 false 1 (.tmp 22))⟩,
       ⟨(some 24), none, (.ld false 1 (.tmp 23))⟩,
       ⟨(some 25), none, (.mv (.tmp 3))⟩,
       ⟨(some 26), none, (.idx 3 (.tmp 24) (.tmp 25))⟩,
       ⟨(some 27), none, (.fad 2 false 1 (.tmp 26))⟩,
       ⟨(some 28), none, (.ld false 1 (.tmp 27))⟩,
       ⟨(some 29), none, (.mv (.tmp 4))⟩,
       ⟨(some 30), none, (.bin .sub (.tmp 29) (.const (.int .i64 1)))⟩,
       ⟨(some 31), none, (.idx 1 (.tmp 28) (.tmp 30))⟩,
       ⟨(some 32), none, (.ld false 1 (.tmp 31))⟩,
       ⟨(some 5), none, (.mv (.tmp 32))⟩])
     (.seq
      (.ops [
        ⟨(some 33), none, (.mv (.tmp 0))⟩,
        ⟨(some 34), none, (.nck (.tmp 33))⟩,
        ⟨(some 35), none, (.fad 8 false 1 (.tmp 34))⟩,
        ⟨(some 36), none, (.ld false 1 (.tmp 35))⟩,
        ⟨(some 37), none, (.mv (.tmp 3))⟩,
        ⟨(some 38), none, (.mv (.tmp 0))⟩,
        ⟨(some 39), none, (.nck (.tmp 38))⟩,
        ⟨(some 40), none, (.fad 8 false 1 (.tmp 39))⟩,
        ⟨(some 41), none, (.ld false 1 (.tmp 40))⟩,
        ⟨(some 42), none, (.mv (.tmp 3))⟩,
        ⟨(some 43), none, (.idx 3 (.tmp 41) (.tmp 42))⟩,
        ⟨(some 44), none, (.fad 2 false 1 (.tmp 43))⟩,
        ⟨(some 45), none, (.ld false 1 (.tmp 44))⟩,
        ⟨(some 46), none, (.mv (.tmp 4))⟩,
        ⟨(some 47), none, (.bin .sub (.tmp 46) (.const (.int .i64 1)))⟩,
        ⟨(some 48), none, (.sl 1 (.tmp 45) none (some (.tmp 47)))⟩,
        ⟨(some 49), none, (.idx 3 (.tmp 36) (.tmp 37))⟩,
        ⟨(some 50), none, (.fad 2 false 1 (.tmp 49))⟩,
        ⟨none, none, (.sto false 1 (.tmp 50) (.tmp 48))⟩])
      (.seq
       (.ops [
         ⟨(some 51), none, (.mv (.tmp 5))⟩,
         ⟨(some 2), none, (.mv (.tmp 51))⟩])
       .ret))))))
theorem f_scref20_M_pop : compF Try.prog 47 = some (52, c_scref20_M_pop, [(.tmp 2)]) := by kernel_rfl

/-- seedcorn/seedcornref01.Apply -/
def c_scref01_Apply : VC :=
 (.seq
  (.ops [
    ⟨(some 6), none, (.mv (.const (.int .u32 0)))⟩,
    ⟨(some 7), none, (.mv (.const (.int .i64 0)))⟩])
  (.seq
   (.ops [
     ⟨(some 10), none, (.mv (.tmp 1))⟩,
     ⟨(some 11), none, (.conv .u64 (.tmp 10))⟩,
     ⟨(some 12), none, (.mv (.tmp 2))⟩,
     ⟨(some 13), none, (.conv .u64 (.tmp 12))⟩,
     ⟨(some 8), none, (.mv (.tmp 11))⟩,
     ⟨(some 9), none, (.mv (.tmp 13))⟩])
   (.seq
    (.seq
     (.ops [
       ⟨(some 14), none, (.mv (.tmp 0))⟩])
     (.block 0
      (.seq
       (.ops [
         ⟨(some 16), none, (.bin .eql (.tmp 14) (.const (.int .i64 4)))⟩,
         ⟨(some 15), none, (.mv (.tmp 16))⟩])
       (.cond (.tmp 15)
        (.seq
         (.ops [
           ⟨(some 17), none, (.mv (.tmp 8))⟩,
           ⟨(some 18), none, (.mv (.tmp 9))⟩,
           ⟨(some 19), none, (.bin .add (.tmp 17) (.tmp 18))⟩,
           ⟨(some 20), none, (.bin .rem (.tmp 19) (.const (.int .u64 4294967296)))⟩,
           ⟨(some 21), none, (.conv .u32 (.tmp 20))⟩,
           ⟨(some 6), none, (.mv (.tmp 21))⟩,
           ⟨(some 7), none, (.mv (.const (.int .i64 0)))⟩])
         .ret)
        (.seq
         (.ops [
           ⟨(some 23), none, (.bin .eql (.tmp 14) (.const (.int .i64 5)))⟩,
           ⟨(some 22), none, (.mv (.tmp 23))⟩])
         (.cond (.tmp 22)
          (.seq
           (.ops [
             ⟨(some 24), none, (.mv (.tmp 8))⟩,
             ⟨(some 25), none, (.bin .add (.tmp 24) (.const (.int .u64 4294967296)))⟩,
             ⟨(some 26), none, (.mv (.tmp 9))⟩,
             ⟨(some 27), none, (.bin .sub (.tmp 25) (.tmp 26))⟩,
             ⟨(some 28), none, (.bin .rem (.tmp 27) (.const (.int .u64 4294967296)))⟩,
             ⟨(some 29), none, (.conv .u32 (.tmp 28))⟩,
             ⟨(some 6), none, (.mv (.tmp 29))⟩,
             ⟨(some 7), none, (.mv (.const (.int .i64 0)))⟩])
           .ret)
          (.seq
           (.ops [
             ⟨(some 31), none, (.bin .eql (.tmp 14) (.const (.int .i64 6)))⟩,
             ⟨(some 30), none, (.mv (.tmp 31))⟩])
           (.cond (.tmp 30)
            (.seq
             (.ops [
               ⟨(some 32), none, (.mv (.tmp 8))⟩,
               ⟨(some 33), none, (.mv (.tmp 9))⟩,
               ⟨(some 34), none, (.bin .mul (.tmp 32) (.tmp 33))⟩,
               ⟨(some 35), none, (.bin .rem (.tmp 34) (.const (.int .u64 4294967296)))⟩,
               ⟨(some 36), none, (.conv .u32 (.tmp 35))⟩,
               ⟨(some 6), none, (.mv (.tmp 36))⟩,
               ⟨(some 7), none, (.mv (.const (.int .i64 0)))⟩])
             .ret)
            (.seq
             (.ops [
               ⟨(some 38), none, (.bin .eql (.tmp 14) (.const (.int .i64 7)))⟩,
               ⟨(some 37), none, (.mv (.tmp 38))⟩])
             (.cond (.tmp 37)
              (.seq
               (.seq
                (.ops [
                  ⟨(some 39), none, (.mv (.tmp 2))⟩,
                  ⟨(some 40), none, (.bin .eql (.tmp 39) (.const (.int .u32 0)))⟩])
                (.cond (.tmp 40)
                 (.seq
                  (.ops [
                    ⟨(some 6), none, (.mv (.const (.int .u32 0)))⟩,
                    ⟨(some 7), none, (.mv (.const (.int .i64 14)))⟩])
                  .ret)
                 .skip))
               (.seq
                (.ops [
                  ⟨(some 41), none, (.mv (.tmp 8))⟩,
                  ⟨(some 42), none, (.mv (.tmp 9))⟩,
                  ⟨(some 43), none, (.bin .quo (.tmp 41) (.tmp 42))⟩,
                  ⟨(some 44), none, (.conv .u32 (.tmp 43))⟩,
                  ⟨(some 6), none, (.mv (.tmp 44))⟩,
                  ⟨(some 7), none, (.mv (.const (.int .i64 0)))⟩])
                .ret))
              (.seq
               (.ops [
                 ⟨(some 46), none, (.bin .eql (.tmp 14) (.const (.int .i64 8)))⟩,
                 ⟨(some 45), none, (.mv (.tmp 46))⟩])
               (.cond (.tmp 45)
                (.seq
                 (.seq
                  (.ops [
                    ⟨(some 47), none, (.mv (.tmp 2))⟩,
                    ⟨(some 48), none, (.bin .eql (.tmp 47) (.const (.int .u32 0)))⟩])
                  (.cond (.tmp 48)
                   (.seq
                    (.ops [
                      ⟨(some 6), none, (.mv (.const (.int .u32 0)))⟩,
                      ⟨(some 7), none, (.mv (.const (.int .i64 14)))⟩])
                    .ret)
                   .skip))
                 (.seq
                  (.ops [
                    ⟨(some 49), none, (.mv (.tmp 8))⟩,
                    ⟨(some 50), none, (.mv (.tmp 9))⟩,
                    ⟨(some 51), none, (.bin .rem (.tmp 49) (.tmp 50))⟩,
                    ⟨(some 52), none, (.conv .u32 (.tmp 51))⟩,
                    ⟨(some 6), none, (.mv (.tmp 52))⟩,
                    ⟨(some 7), none, (.mv (.const (.int .i64 0)))⟩])
                  .ret))
                (.seq
                 (.seq
                  (.ops [
                    ⟨(some 54), none, (.bin .eql (.tmp 14) (.const (.int .i64 9)))⟩,
                    ⟨(some 53), none, (.mv (.tmp 54))⟩])
                  (.cond (.tmp 53)
                   .skip
                   (.seq
                    (.ops [
                      ⟨(some 55), none, (.bin .eql (.tmp 14) (.const (.int .i64 10)))⟩,
                      ⟨(some 53), none, (.mv (.tmp 55))⟩])
                    (.cond (.tmp 53)
                     .skip
                     (.ops [
                       ⟨(some 56), none, (.bin .eql (.tmp 14) (.const (.int .i64 11)))⟩,
                       ⟨(some 53), none, (.mv (.tmp 56))⟩])))))
                 (.cond (.tmp 53)
                  (.seq
                   (.ops [
                     ⟨(some 57), none, (.mv (.tmp 0))⟩,
                     ⟨(some 58), none, (.mv (.tmp 1))⟩,
                     ⟨(some 59), none, (.mv (.tmp 2))⟩,
                     ⟨(some 60), none, (.call (.func 52) [(.tmp 57), (.tmp 58), (.tmp 59)])⟩,
                     ⟨(some 6), none, (.mv (.tmp 60))⟩,
                     ⟨(some 7), none, (.mv (.const (.int .i64 0)))⟩])
                   .ret)
                  (.seq
                   (.seq
                    (.ops [
                      ⟨(some 62), none, (.bin .eql (.tmp 14) (.const (.int .i64 12)))⟩,
                      ⟨(some 61), none, (.mv (.tmp 62))⟩])
                    (.cond (.tmp 61)
                     .skip
                     (.ops [
                       ⟨(some 63), none, (.bin .eql (.tmp 14) (.const (.int .i64 13)))⟩,
                       ⟨(some 61), none, (.mv (.tmp 63))⟩])))
                   (.cond (.tmp 61)
                    (.seq
                     (.ops [
                       ⟨(some 64), none, (.mv (.tmp 0))⟩,
                       ⟨(some 65), none, (.mv (.tmp 1))⟩,
                       ⟨(some 66), none, (.mv (.tmp 2))⟩,
                       ⟨(some 67), none, (.call (.func 53) [(.tmp 64), (.tmp 65), (.tmp 66)])⟩,
                       ⟨(some 6), none, (.mv (.tmp 67))⟩,
                       ⟨(some 7), none, (.mv (.const (.int .i64 0)))⟩])
                     .ret)
                    (.seq
                     (.ops [
                       ⟨(some 69), none, (.bin .eql (.tmp 14) (.const (.int .i64 14)))⟩,
                       ⟨(some 68), none, (.mv (.tmp 69))⟩])
                     (.cond (.tmp 68)
                      (.seq
                       (.ops [
                         ⟨(some 70), none, (.mv (.tmp 1))⟩,
                         ⟨(some 71), none, (.mv (.tmp 2))⟩,
                         ⟨(some 72), none, (.bin .lss (.tmp 70) (.tmp 71))⟩,
                         ⟨(some 73), none, (.call (.func 54) [(.tmp 72)])⟩,
                         ⟨(some 6), none, (.mv (.tmp 73))⟩,
                         ⟨(some 7), none, (.mv (.const (.int .i64 0)))⟩])
                       .ret)
                      (.seq
                       (.ops [
                         ⟨(some 75), none, (.bin .eql (.tmp 14) (.const (.int .i64 15)))⟩,
                         ⟨(some 74), none, (.mv (.tmp 75))⟩])
                       (.cond (.tmp 74)
                        (.seq
                         (.ops [
                           ⟨(some 76), none, (.mv (.tmp 1))⟩,
                           ⟨(some 77), none, (.mv (.tmp 2))⟩,
                           ⟨(some 78), none, (.bin .eql (.tmp 76) (.tmp 77))⟩,
                           ⟨(some 79), none, (.call (.func 54) [(.tmp 78)])⟩,
                           ⟨(some 6), none, (.mv (.tmp 79))⟩,
                           ⟨(some 7), none, (.mv (.const (.int .i64 0)))⟩])
                         .ret)
                        .skip))))))))))))))))))))
    (.seq
     (.ops [
       ⟨(some 6), none, (.mv (.const (.int .u32 0)))⟩,
       ⟨(some 7), none, (.mv (.const (.int .i64 1)))⟩])
     .ret))))
theorem f_scref01_Apply : compF Try.prog 48 = some (80, c_scref01_Apply, [(.tmp 6), (.tmp 7)]) := by kernel_rfl

/-- (*seedcorn/seedcornref20.M).call -/
def c_scref20_M_call : VC :=
 (.seq
  (.ops [
    ⟨(some 8), none, (.mv (.tmp 0))⟩,
    ⟨(some 9), none, (.nck (.tmp 8))⟩,
    ⟨(some 10), none, (.fad 0 true 2 (.tmp 9))⟩,
    ⟨(some 11), none, (.fad 1 false 1 (.tmp 10))⟩,
    ⟨(some 12), none, (.ld false 1 (.tmp 11))⟩,
    ⟨(some 13), none, (.mv (.tmp 1))⟩,
    ⟨(some 14), none, (.idx 5 (.tmp 12) (.tmp 13))⟩,
    ⟨(some 15), none, (.ld true 5 (.tmp 14))⟩,
    ⟨(some 4), none, (.alc 39 [(.int .i64 0), (.int .i64 0), (.int .i64 0), (.bool false), (.slice none 0 0)])⟩,
    ⟨none, none, (.sto true 5 (.tmp 4) (.tmp 15))⟩])
  (.seq
   (.seq
    (.ops [
      ⟨(some 5), none, (.mv (.const (.int .i64 0)))⟩])
    (.block 0
     (.loop
      (.seq
       (.seq
        (.ops [
          ⟨(some 16), none, (.mv (.tmp 5))⟩,
          ⟨(some 17), none, (.fad 1 false 1 (.tmp 4))⟩,
          ⟨(some 18), none, (.ld false 1 (.tmp 17))⟩,
          ⟨(some 19), none, (.bin .lss (.tmp 16) (.tmp 18))⟩])
        (.cond (.tmp 19)
         .skip
         (.exit 0)))
       (.seq
        (.block 1
         (.seq
          (.ops [
            ⟨(some 6), none, (.mv (.const (.int .u32 0)))⟩])
          (.seq
           (.ops [
             ⟨(some 22), none, (.fad 1 false 1 (.tmp 4))⟩,
             ⟨(some 23), none, (.ld false 1 (.tmp 22))⟩,
             ⟨(some 24), none, (.bin .sub (.tmp 23) (.const (.int .i64 1)))⟩,
             ⟨(some 25), none, (.mv (.tmp 5))⟩,
             ⟨(some 26), none, (.bin .sub (.tmp 24) (.tmp 25))⟩,
             ⟨(some 7), none, (.mv (.tmp 26))⟩])
           (.seq
            (.seq
             (.ops [
               ⟨(some 27), none, (.mv (.tmp 7))⟩,
               ⟨(some 28), none, (.fad 0 false 1 (.tmp 4))⟩,
               ⟨(some 29), none, (.ld false 1 (.tmp 28))⟩,
               ⟨(some 30), none, (.bin .lss (.tmp 27) (.tmp 29))⟩])
             (.cond (.tmp 30)
              (.ops [
                ⟨(some 31), none, (.mv (.tmp 0))⟩,
                ⟨(some 32), none, (.callM true (.func 47) [(.tmp 31)])⟩,
                ⟨(some 6), none, (.mv (.tmp 32))⟩])
              .skip))
            (.ops [
              ⟨(some 33), none, (.mv (.tmp 0))⟩,
              ⟨(some 34), none, (.nck (.tmp 33))⟩,
              ⟨(some 35), none, (.fad 4 false 1 (.tmp 34))⟩,
              ⟨(some 36), none, (.ld false 1 (.tmp 35))⟩,
              ⟨(some 37), none, (.fad 2 false 1 (.tmp 4))⟩,
              ⟨(some 38), none, (.ld false 1 (.tmp 37))⟩,
              ⟨(some 39), none, (.mv (.tmp 7))⟩,
              ⟨(some 40), none, (.bin .add (.tmp 38) (.tmp 39))⟩,
              ⟨(some 41), none, (.mv (.tmp 6))⟩,
              ⟨(some 42), none, (.idx 1 (.tmp 36) (.tmp 40))⟩,
              ⟨none, none, (.sto false 1 (.tmp 42) (.tmp 41))⟩])))))
        (.ops [
          ⟨(some 20), none, (.mv (.tmp 5))⟩,
          ⟨(some 21), none, (.bin .add (.tmp 20) (.const (.int .i64 1)))⟩,
          ⟨(some 5), none, (.mv (.tmp 21))⟩]))))))
   (.ops [
     ⟨(some 43), none, (.mv (.tmp 0))⟩,
     ⟨(some 44), none, (.mv (.tmp 0))⟩,
     ⟨(some 45), none, (.nck (.tmp 44))⟩,
     ⟨(some 46), none, (.fad 8 false 1 (.tmp 45))⟩,
     ⟨(some 47), none, (.ld false 1 (.tmp 46))⟩,
     ⟨(some 48), none, (.mv (.tmp 1))⟩,
     ⟨(some 49), none, (.bld [(.int .i64 0), (.int .i64 0), (.slice none 0 0)] [(0, (1, (.tmp 48)))])⟩,
     ⟨(some 50), none, (.bsl 75 3 1 [(.int .i64 0), (.int .i64 0), (.slice none 0 0)] [(0, (3, (.tmp 49)))])⟩,
     ⟨(some 51), none, (.app 75 3 40 (.tmp 47) (.tmp 50))⟩,
     ⟨(some 52), none, (.nck (.tmp 43))⟩,
     ⟨(some 53), none, (.fad 8 false 1 (.tmp 52))⟩,
     ⟨none, none, (.sto false 1 (.tmp 53) (.tmp 51))⟩])))
theorem f_scref20_M_call : compF Try.prog 49 = some (54, c_scref20_M_call, []) := by kernel_rfl

/-- (*seedcorn/seedcornref20.M).ret -/
def c_scref20_M_ret : VC :=
 (.seq
  (.ops [
    ⟨(some 4), none, (.mv (.tmp 0))⟩,
    ⟨(some 5), none, (.nck (.tmp 4))⟩,
    ⟨(some 6), none, (.fad 0 true 2 (.tmp 5))⟩,
    ⟨(some 7), none, (.fad 1 false 1 (.tmp 6))⟩,
    ⟨(some 8), none, (.ld false 1 (.tmp 7))⟩,
    ⟨(some 9), none, (.mv (.tmp 0))⟩,
    ⟨(some 10), none, (.nck (.tmp 9))⟩,
    ⟨(some 11), none, (.fad 8 false 1 (.tmp 10))⟩,
    ⟨(some 12), none, (.ld false 1 (.tmp 11))⟩,
    ⟨(some 13), none, (.mv (.tmp 0))⟩,
    ⟨(some 14), none, (.nck (.tmp 13))⟩,
    ⟨(some 15), none, (.fad 8 false 1 (.tmp 14))⟩,
    ⟨(some 16), none, (.ld false 1 (.tmp 15))⟩,
    ⟨(some 17), none, (.len (.tmp 16))⟩,
    ⟨(some 18), none, (.bin .sub (.tmp 17) (.const (.int .i64 1)))⟩,
    ⟨(some 19), none, (.idx 3 (.tmp 12) (.tmp 18))⟩,
    ⟨(some 20), none, (.fad 0 false 1 (.tmp 19))⟩,
    ⟨(some 21), none, (.ld false 1 (.tmp 20))⟩,
    ⟨(some 22), none, (.idx 5 (.tmp 8) (.tmp 21))⟩,
    ⟨(some 23), none, (.fad 3 false 1 (.tmp 22))⟩,
    ⟨(some 24), none, (.ld false 1 (.tmp 23))⟩,
    ⟨(some 2), none, (.mv (.tmp 24))⟩])
  (.seq
   (.ops [
     ⟨(some 3), none, (.mv (.const (.int .u32 0)))⟩])
   (.seq
    (.seq
     (.ops [
       ⟨(some 25), none, (.mv (.tmp 2))⟩])
     (.cond (.tmp 25)
      (.ops [
        ⟨(some 26), none, (.mv (.tmp 0))⟩,
        ⟨(some 27), none, (.callM true (.func 47) [(.tmp 26)])⟩,
        ⟨(some 3), none, (.mv (.tmp 27))⟩])
      .skip))
    (.seq
     (.ops [
       ⟨(some 28), none, (.mv (.tmp 0))⟩,
       ⟨(some 29), none, (.mv (.tmp 0))⟩,
       ⟨(some 30), none, (.nck (.tmp 29))⟩,
       ⟨(some 31), none, (.fad 8 false 1 (.tmp 30))⟩,
       ⟨(some 32), none, (.ld false 1 (.tmp 31))⟩,
       ⟨(some 33), none, (.mv (.tmp 0))⟩,
       ⟨(some 34), none, (.nck (.tmp 33))⟩,
       ⟨(some 35), none, (.fad 8 false 1 (.tmp 34))⟩,
       ⟨(some 36), none, (.ld false 1 (.tmp 35))⟩,
       ⟨(some 37), none, (.len (.tmp 36))⟩,
       ⟨(some 38), none, (.bin .sub (.tmp 37) (.const (.int .i64 1)))⟩,
       ⟨(some 39), none, (.sl 3 (.tmp 32) none (some (.tmp 38)))⟩,
       ⟨(some 40), none, (.nck (.tmp 28))⟩,
       ⟨(some 41), none, (.fad 8 false 1 (.tmp 40))⟩,
       ⟨none, none, (.sto false 1 (.tmp 41) (.tmp 39))⟩])
     (.seq
      (.ops [
        ⟨(some 42), none, (.mv (.tmp 0))⟩,
        ⟨(some 43), none, (.nck (.tmp 42))⟩,
        ⟨(some 44), none, (.fad 8 false 1 (.tmp 43))⟩,
        ⟨(some 45), none, (.ld false 1 (.tmp 44))⟩,
        ⟨(some 46), none, (.len (.tmp 45))⟩,
        ⟨(some 47), none, (.bin .eql (.tmp 46) (.const (.int .i64 0)))⟩])
      (.cond (.tmp 47)
       (.ops [
         ⟨(some 48), none, (.mv (.tmp 0))⟩,
         ⟨(some 49), none, (.nck (.tmp 48))⟩,
         ⟨(some 50), none, (.fad 7 false 1 (.tmp 49))⟩,
         ⟨none, none, (.sto false 1 (.tmp 50) (.const (.int .i64 1)))⟩])
       (.seq
        (.ops [
          ⟨(some 51), none, (.mv (.tmp 2))⟩])
        (.cond (.tmp 51)
         (.ops [
           ⟨(some 52), none, (.mv (.tmp 0))⟩,
           ⟨(some 53), none, (.mv (.tmp 3))⟩,
           ⟨(some 54), none, (.call (.func 46) [(.tmp 52), (.tmp 53)])⟩])
         .skip))))))))
theorem f_scref20_M_ret : compF Try.prog 50 = some (55, c_scref20_M_ret, []) := by kernel_rfl

/-- seedcorn/stack.count -/
def c_stack_count : VC :=
 (.seq
  (.ops [
    ⟨(some 2), none, (.mv (.const (.int .i64 0)))⟩])
  (.seq
   (.seq
    (.ops [
      ⟨(some 3), none, (.mv (.tmp 0))⟩])
    (.cond (.tmp 3)
     (.seq
      (.ops [
        ⟨(some 2), none, (.mv (.const (.int .i64 1)))⟩])
      .ret)
     .skip))
   (.seq
    (.ops [
      ⟨(some 2), none, (.mv (.const (.int .i64 0)))⟩])
    .ret)))
theorem f_stack_count : compF Try.prog 51 = some (4, c_stack_count, [(.tmp 2)]) := by kernel_rfl

/-- seedcorn/seedcornref01.both -/
def c_scref01_both : VC :=
 (.seq
  (.ops [
    ⟨(some 6), none, (.mv (.const (.int .u32 0)))⟩])
  (.seq
   (.ops [
     ⟨(some 11), none, (.mv (.tmp 1))⟩,
     ⟨(some 12), none, (.call (.func 55) [(.tmp 11)])⟩,
     ⟨(some 13), none, (.mv (.tmp 2))⟩,
     ⟨(some 14), none, (.call (.func 55) [(.tmp 13)])⟩,
     ⟨(some 7), none, (.mv (.tmp 12))⟩,
     ⟨(some 8), none, (.mv (.tmp 14))⟩])
   (.seq
    (.seq
     (.ops [
       ⟨(some 9), none, (.mv (.const (.int .i64 0)))⟩])
     (.block 0
      (.loop
       (.seq
        (.seq
         (.ops [
           ⟨(some 15), none, (.mv (.tmp 9))⟩,
           ⟨(some 16), none, (.bin .lss (.tmp 15) (.const (.int .i64 32)))⟩])
         (.cond (.tmp 16)
          .skip
          (.exit 0)))
        (.seq
         (.block 1
          (.seq
           (.ops [
             ⟨(some 19), none, (.mv (.tmp 7))⟩,
             ⟨(some 20), none, (.mv (.tmp 9))⟩,
             ⟨(some 21), none, (.idx 1 (.tmp 19) (.tmp 20))⟩,
             ⟨(some 22), none, (.ld false 1 (.tmp 21))⟩,
             ⟨(some 23), none, (.mv (.tmp 8))⟩,
             ⟨(some 24), none, (.mv (.tmp 9))⟩,
             ⟨(some 25), none, (.idx 1 (.tmp 23) (.tmp 24))⟩,
             ⟨(some 26), none, (.ld false 1 (.tmp 25))⟩,
             ⟨(some 27), none, (.bin .add (.tmp 22) (.tmp 26))⟩,
             ⟨(some 10), none, (.mv (.tmp 27))⟩])
           (.seq
            (.ops [
              ⟨(some 28), none, (.mv (.tmp 7))⟩,
              ⟨(some 29), none, (.mv (.tmp 9))⟩,
              ⟨(some 30), none, (.idx 1 (.tmp 28) (.tmp 29))⟩,
              ⟨none, none, (.sto false 1 (.tmp 30) (.const (.int .i64 0)))⟩])
            (.seq
             (.ops [
               ⟨(some 31), none, (.mv (.tmp 10))⟩,
               ⟨(some 32), none, (.bin .eql (.tmp 31) (.const (.int .i64 2)))⟩,
               ⟨(some 33), none, (.mv (.tmp 32))⟩,
               ⟨(some 34), (some (33, true)), (.mv (.tmp 0))⟩,
               ⟨(some 35), (some (33, true)), (.bin .neq (.tmp 34) (.const (.int .i64 11)))⟩,
               ⟨(some 36), none, (.pick (.tmp 33) (.tmp 35) (.const (.bool false)))⟩,
               ⟨(some 37), none, (.mv (.tmp 36))⟩,
               ⟨(some 38), (some (37, false)), (.mv (.tmp 10))⟩,
               ⟨(some 39), (some (37, false)), (.bin .eql (.tmp 38) (.const (.int .i64 1)))⟩,
               ⟨(some 40), (some (37, false)), (.mv (.tmp 39))⟩,
               ⟨(some 41), (some (40, true)), (.mv (.tmp 0))⟩,
               ⟨(some 42), (some (40, true)), (.bin .neq (.tmp 41) (.const (.int .i64 9)))⟩,
               ⟨(some 43), (some (37, false)), (.pick (.tmp 40) (.tmp 42) (.const (.bool false)))⟩,
               ⟨(some 44), none, (.pick (.tmp 37) (.const (.bool true)) (.tmp 43))⟩])
             (.cond (.tmp 44)
              (.ops [
                ⟨(some 45), none, (.mv (.tmp 7))⟩,
                ⟨(some 46), none, (.mv (.tmp 9))⟩,
                ⟨(some 47), none, (.idx 1 (.tmp 45) (.tmp 46))⟩,
                ⟨none, none, (.sto false 1 (.tmp 47) (.const (.int .i64 1)))⟩])
              .skip)))))
         (.ops [
           ⟨(some 17), none, (.mv (.tmp 9))⟩,
           ⟨(some 18), none, (.bin .add (.tmp 17) (.const (.int .i64 1)))⟩,
           ⟨(some 9), none, (.mv (.tmp 18))⟩]))))))
    (.seq
     (.ops [
       ⟨(some 48), none, (.mv (.tmp 7))⟩,
       ⟨(some 49), none, (.call (.func 56) [(.tmp 48)])⟩,
       ⟨(some 6), none, (.mv (.tmp 49))⟩])
     .ret))))
theorem f_scref01_both : compF Try.prog 52 = some (50, c_scref01_both, [(.tmp 6)]) := by kernel_rfl

/-- seedcorn/seedcornref01.shift -/
def c_scref01_shift : VC :=
 (.seq
  (.ops [
    ⟨(some 6), none, (.mv (.const (.int .u32 0)))⟩])
  (.seq
   (.seq
    (.ops [
      ⟨(some 9), none, (.mv (.tmp 2))⟩,
      ⟨(some 10), none, (.bin .geq (.tmp 9) (.const (.int .u32 32)))⟩])
    (.cond (.tmp 10)
     (.seq
      (.ops [
        ⟨(some 6), none, (.mv (.const (.int .u32 0)))⟩])
      .ret)
     .skip))
   (.seq
    (.ops [
      ⟨(some 11), none, (.mv (.tmp 1))⟩,
      ⟨(some 12), none, (.conv .u64 (.tmp 11))⟩,
      ⟨(some 7), none, (.mv (.tmp 12))⟩])
    (.seq
     (.seq
      (.ops [
        ⟨(some 8), none, (.mv (.const (.int .u32 0)))⟩])
      (.block 0
       (.loop
        (.seq
         (.seq
          (.ops [
            ⟨(some 13), none, (.mv (.tmp 8))⟩,
            ⟨(some 14), none, (.mv (.tmp 2))⟩,
            ⟨(some 15), none, (.bin .lss (.tmp 13) (.tmp 14))⟩])
          (.cond (.tmp 15)
           .skip
           (.exit 0)))
         (.seq
          (.block 1
           (.seq
            (.ops [
              ⟨(some 18), none, (.mv (.tmp 0))⟩,
              ⟨(some 19), none, (.bin .eql (.tmp 18) (.const (.int .i64 12)))⟩])
            (.cond (.tmp 19)
             (.ops [
               ⟨(some 20), none, (.mv (.tmp 7))⟩,
               ⟨(some 21), none, (.bin .mul (.const (.int .u64 2)) (.tmp 20))⟩,
               ⟨(some 22), none, (.bin .rem (.tmp 21) (.const (.int .u64 4294967296)))⟩,
               ⟨(some 7), none, (.mv (.tmp 22))⟩])
             (.ops [
               ⟨(some 23), none, (.mv (.tmp 7))⟩,
               ⟨(some 24), none, (.bin .quo (.tmp 23) (.const (.int .u64 2)))⟩,
               ⟨(some 7), none, (.mv (.tmp 24))⟩]))))
          (.ops [
            ⟨(some 16), none, (.mv (.tmp 8))⟩,
            ⟨(some 17), none, (.bin .add (.tmp 16) (.const (.int .u32 1)))⟩,
            ⟨(some 8), none, (.mv (.tmp 17))⟩]))))))
     (.seq
      (.ops [
        ⟨(some 25), none, (.mv (.tmp 7))⟩,
        ⟨(some 26), none, (.conv .u32 (.tmp 25))⟩,
        ⟨(some 6), none, (.mv (.tmp 26))⟩])
      .ret)))))
theorem f_scref01_shift : compF Try.prog 53 = some (27, c_scref01_shift, [(.tmp 6)]) := by kernel_rfl

/-- seedcorn/seedcornref01.flag -/
def c_scref01_flag : VC :=
 (.seq
  (.ops [
    ⟨(some 2), none, (.mv (.const (.int .u32 0)))⟩])
  (.seq
   (.seq
    (.ops [
      ⟨(some 3), none, (.mv (.tmp 0))⟩])
    (.cond (.tmp 3)
     (.seq
      (.ops [
        ⟨(some 2), none, (.mv (.const (.int .u32 1)))⟩])
      .ret)
     .skip))
   (.seq
    (.ops [
      ⟨(some 2), none, (.mv (.const (.int .u32 0)))⟩])
    .ret)))
theorem f_scref01_flag : compF Try.prog 54 = some (4, c_scref01_flag, [(.tmp 2)]) := by kernel_rfl

/-- seedcorn/seedcornref01.Bits -/
def c_scref01_Bits : VC :=
 (.seq
  (.ops [
    ⟨(some 2), none, (.mv (.const (.slice none 0 0)))⟩])
  (.seq
   (.ops [
     ⟨(some 3), none, (.mv (.const (.slice none 0 0)))⟩])
   (.seq
    (.seq
     (.ops [
       ⟨(some 4), none, (.mv (.const (.int .i64 0)))⟩])
     (.block 0
      (.loop
       (.seq
        (.seq
         (.ops [
           ⟨(some 5), none, (.mv (.tmp 4))⟩,
           ⟨(some 6), none, (.bin .lss (.tmp 5) (.const (.int .i64 32)))⟩])
         (.cond (.tmp 6)
          .skip
          (.exit 0)))
        (.seq
         (.block 1
          (.seq
           (.ops [
             ⟨(some 9), none, (.mv (.tmp 3))⟩,
             ⟨(some 10), none, (.mv (.tmp 0))⟩,
             ⟨(some 11), none, (.bin .rem (.tmp 10) (.const (.int .u32 2)))⟩,
             ⟨(some 12), none, (.conv .i64 (.tmp 11))⟩,
             ⟨(some 13), none, (.bsl 3 1 1 [(.int .i64 0)] [(0, (1, (.tmp 12)))])⟩,
             ⟨(some 14), none, (.app 3 1 8 (.tmp 9) (.tmp 13))⟩,
             ⟨(some 3), none, (.mv (.tmp 14))⟩])
           (.ops [
             ⟨(some 15), none, (.mv (.tmp 0))⟩,
             ⟨(some 16), none, (.bin .quo (.tmp 15) (.const (.int .u32 2)))⟩,
             ⟨(some 0), none, (.mv (.tmp 16))⟩])))
         (.ops [
           ⟨(some 7), none, (.mv (.tmp 4))⟩,
           ⟨(some 8), none, (.bin .add (.tmp 7) (.const (.int .i64 1)))⟩,
           ⟨(some 4), none, (.mv (.tmp 8))⟩]))))))
    (.seq
     (.ops [
       ⟨(some 17), none, (.mv (.tmp 3))⟩,
       ⟨(some 2), none, (.mv (.tmp 17))⟩])
     .ret))))
theorem f_scref01_Bits : compF Try.prog 55 = some (18, c_scref01_Bits, [(.tmp 2)]) := by kernel_rfl

/-- seedcorn/seedcornref01.Of -/
def c_scref01_Of : VC :=
 (.seq
  (.ops [
    ⟨(some 2), none, (.mv (.const (.int .u32 0)))⟩])
  (.seq
   (.ops [
     ⟨(some 3), none, (.mv (.const (.int .u64 0)))⟩])
   (.seq
    (.seq
     (.ops [
       ⟨(some 5), none, (.mv (.tmp 0))⟩,
       ⟨(some 6), none, (.len (.tmp 5))⟩,
       ⟨(some 7), none, (.bin .sub (.tmp 6) (.const (.int .i64 1)))⟩,
       ⟨(some 4), none, (.mv (.tmp 7))⟩])
     (.block 0
      (.loop
       (.seq
        (.seq
         (.ops [
           ⟨(some 8), none, (.mv (.tmp 4))⟩,
           ⟨(some 9), none, (.bin .geq (.tmp 8) (.const (.int .i64 0)))⟩])
         (.cond (.tmp 9)
          .skip
          (.exit 0)))
        (.seq
         (.block 1
          (.ops [
            ⟨(some 12), none, (.mv (.tmp 3))⟩,
            ⟨(some 13), none, (.bin .mul (.const (.int .u64 2)) (.tmp 12))⟩,
            ⟨(some 14), none, (.mv (.tmp 0))⟩,
            ⟨(some 15), none, (.mv (.tmp 4))⟩,
            ⟨(some 16), none, (.idx 1 (.tmp 14) (.tmp 15))⟩,
            ⟨(some 17), none, (.ld false 1 (.tmp 16))⟩,
            ⟨(some 18), none, (.conv .u64 (.tmp 17))⟩,
            ⟨(some 19), none, (.bin .add (.tmp 13) (.tmp 18))⟩,
            ⟨(some 3), none, (.mv (.tmp 19))⟩]))
         (.ops [
           ⟨(some 10), none, (.mv (.tmp 4))⟩,
           ⟨(some 11), none, (.bin .sub (.tmp 10) (.const (.int .i64 1)))⟩,
           ⟨(some 4), none, (.mv (.tmp 11))⟩]))))))
    (.seq
     (.ops [
       ⟨(some 20), none, (.mv (.tmp 3))⟩,
       ⟨(some 21), none, (.bin .rem (.tmp 20) (.const (.int .u64 4294967296)))⟩,
       ⟨(some 22), none, (.conv .u32 (.tmp 21))⟩,
       ⟨(some 2), none, (.mv (.tmp 22))⟩])
     .ret))))
theorem f_scref01_Of : compF Try.prog 56 = some (23, c_scref01_Of, [(.tmp 2)]) := by kernel_rfl

theorem hmix : Try.prog.follows .mixedOrders = true := by kernel_rfl
end Go.Proofs.Ytdfdkoajphcjbaa
