/-
  The functions of this seat, made small by the program: each is what the engine makes of the function of that number. No condition.
-/
import Derived.Test.YtjoldjcfabbekaaVS
import Derived.Test.YtjoldjcfabbekaaRows
import Derived.KernelRfl
namespace Go.Proofs.Ytjoldjcfabbekaa
open Go.V
/-- seedcorn/seedcornlaw10.ExecRuns -/
def c_sclaw10_ExecRuns : VC :=
 (.seq
  (.ops [
    ⟨(some 3), none, (.box 24 (.tmp 0))⟩,
    ⟨(some 6), none, (.mv (.const (.bool false)))⟩])
  (.seq
   (.seq
    (.ops [
      ⟨(some 11), none, (.call (.func 10) [])⟩,
      ⟨(some 12), none, (.un .not (.tmp 11))⟩])
    (.cond (.tmp 12)
     (.seq
      (.ops [
        ⟨(some 6), none, (.mv (.const (.bool false)))⟩])
      .ret)
     .skip))
   (.seq
    (.seq
     (.ops [
       ⟨(some 13), none, (.ld true 2 (.tmp 3))⟩,
       ⟨(some 14), none, (.mv (.tmp 1))⟩,
       ⟨(some 15), none, (.mv (.tmp 2))⟩,
       ⟨(some 16), none, (.call (.func 11) [(.tmp 13), (.tmp 14), (.tmp 15)])⟩,
       ⟨(some 17), none, (.un .not (.tmp 16))⟩])
     (.cond (.tmp 17)
      (.seq
       (.ops [
         ⟨(some 6), none, (.mv (.const (.bool true)))⟩])
       .ret)
      .skip))
    (.seq
     (.ops [
       ⟨(some 18), none, (.ld true 2 (.tmp 3))⟩,
       ⟨(some 19), none, (.mv (.tmp 1))⟩,
       ⟨(some 20), none, (.mv (.tmp 2))⟩,
       ⟨(some 21), none, (.call (.func 12) [(.tmp 18), (.tmp 19), (.tmp 20)])⟩,
       ⟨(some 7), none, (.alc 28 [(.int .i64 0), (.string ⟨#[]⟩), (.int .i64 0)])⟩,
       ⟨none, none, (.sto true 3 (.tmp 7) (.tmp 21))⟩])
     (.seq
      (.ops [
        ⟨(some 22), none, (.ld true 2 (.tmp 3))⟩,
        ⟨(some 23), none, (.mv (.tmp 1))⟩,
        ⟨(some 24), none, (.mv (.tmp 2))⟩,
        ⟨(some 25), none, (.call (.func 13) [(.tmp 22), (.tmp 23), (.tmp 24)])⟩,
        ⟨(some 8), none, (.mv (.tmp 25))⟩])
      (.seq
       (.seq
        (.par false (.one ⟨(some 26), none, (.ld true 3 (.tmp 7))⟩ (.one ⟨(some 27), none, (.ld true 2 (.tmp 3))⟩ (.one ⟨(some 28), none, (.mv (.tmp 1))⟩ (.one ⟨(some 29), none, (.mv (.tmp 2))⟩ (.one ⟨(some 30), none, (.call (.func 15) [(.tmp 27), (.tmp 28), (.tmp 29)])⟩ (.one ⟨(some 31), none, (.call (.func 14) [(.tmp 26), (.tmp 30)])⟩ (.one ⟨(some 32), none, (.un .not (.tmp 31))⟩ (.one ⟨(some 33), none, (.mv (.tmp 32))⟩ (.one ⟨(some 34), (some (33, false)), (.mv (.tmp 8))⟩ (.one ⟨(some 35), (some (33, false)), (.ld true 2 (.tmp 3))⟩ (.one ⟨(some 36), (some (33, false)), (.mv (.tmp 1))⟩ (.one ⟨(some 37), (some (33, false)), (.mv (.tmp 2))⟩ (.one ⟨(some 38), (some (33, false)), (.call (.func 17) [(.tmp 35), (.tmp 36), (.tmp 37)])⟩ (.one ⟨(some 39), (some (33, false)), (.call (.func 16) [(.tmp 34), (.tmp 38)])⟩ (.one ⟨(some 40), (some (33, false)), (.un .not (.tmp 39))⟩ (.one ⟨(some 41), none, (.pick (.tmp 33) (.const (.bool true)) (.tmp 40))⟩ .done)))))))))))))))))
        (.cond (.tmp 41)
         (.seq
          (.ops [
            ⟨(some 6), none, (.mv (.const (.bool false)))⟩])
          .ret)
         .skip))
       (.seq
        (.ops [
          ⟨(some 9), none, (.mv (.const (.int .i64 0)))⟩])
        (.seq
         (.seq
          (.ops [
            ⟨(some 10), none, (.mv (.const (.int .i64 0)))⟩])
          (.block 0
           (.loop
            (.seq
             (.seq
              (.ops [
                ⟨(some 42), none, (.mv (.tmp 10))⟩,
                ⟨(some 43), none, (.mv (.tmp 8))⟩,
                ⟨(some 44), none, (.len (.tmp 43))⟩,
                ⟨(some 45), none, (.bin .lss (.tmp 42) (.tmp 44))⟩])
              (.cond (.tmp 45)
               .skip
               (.exit 0)))
             (.seq
              (.block 1
               (.ops [
                 ⟨(some 48), none, (.mv (.tmp 9))⟩,
                 ⟨(some 49), none, (.mv (.tmp 8))⟩,
                 ⟨(some 50), none, (.mv (.tmp 10))⟩,
                 ⟨(some 51), none, (.idx 1 (.tmp 49) (.tmp 50))⟩,
                 ⟨(some 52), none, (.ld false 1 (.tmp 51))⟩,
                 ⟨(some 53), none, (.bin .add (.tmp 48) (.tmp 52))⟩,
                 ⟨(some 9), none, (.mv (.tmp 53))⟩]))
              (.ops [
                ⟨(some 46), none, (.mv (.tmp 10))⟩,
                ⟨(some 47), none, (.bin .add (.tmp 46) (.const (.int .i64 1)))⟩,
                ⟨(some 10), none, (.mv (.tmp 47))⟩]))))))
         (.seq
          (.ops [
            ⟨(some 54), none, (.mv (.tmp 9))⟩,
            ⟨(some 55), none, (.fad 2 false 1 (.tmp 7))⟩,
            ⟨(some 56), none, (.ld false 1 (.tmp 55))⟩,
            ⟨(some 57), none, (.bin .eql (.tmp 54) (.tmp 56))⟩,
            ⟨(some 6), none, (.mv (.tmp 57))⟩])
          .ret)))))))))
theorem f_sclaw10_ExecRuns : compF Try.prog 3 = some (58, c_sclaw10_ExecRuns, [(.tmp 6)]) := by kernel_rfl

/-- seedcorn/seedcornlaw10.ExecSplits -/
def c_sclaw10_ExecSplits : VC :=
 (.seq
  (.ops [
    ⟨(some 2), none, (.box 39 (.tmp 0))⟩,
    ⟨(some 4), none, (.mv (.const (.bool false)))⟩])
  (.seq
   (.seq
    (.ops [
      ⟨(some 7), none, (.call (.func 10) [])⟩,
      ⟨(some 8), none, (.un .not (.tmp 7))⟩])
    (.cond (.tmp 8)
     (.seq
      (.ops [
        ⟨(some 4), none, (.mv (.const (.bool false)))⟩])
      .ret)
     .skip))
   (.seq
    (.seq
     (.ops [
       ⟨(some 9), none, (.ld true 26 (.tmp 2))⟩,
       ⟨(some 10), none, (.call (.func 18) [(.tmp 9)])⟩,
       ⟨(some 11), none, (.un .not (.tmp 10))⟩,
       ⟨(some 12), none, (.mv (.tmp 11))⟩,
       ⟨(some 13), (some (12, false)), (.fad 25 false 1 (.tmp 2))⟩,
       ⟨(some 14), (some (12, false)), (.ld false 1 (.tmp 13))⟩,
       ⟨(some 15), (some (12, false)), (.bin .lss (.tmp 14) (.const (.int .i64 0)))⟩,
       ⟨(some 16), none, (.pick (.tmp 12) (.const (.bool true)) (.tmp 15))⟩,
       ⟨(some 17), none, (.mv (.tmp 16))⟩,
       ⟨(some 18), (some (17, false)), (.mv (.tmp 1))⟩,
       ⟨(some 19), (some (17, false)), (.bin .lss (.tmp 18) (.const (.int .i64 0)))⟩,
       ⟨(some 20), none, (.pick (.tmp 17) (.const (.bool true)) (.tmp 19))⟩,
       ⟨(some 21), none, (.mv (.tmp 20))⟩,
       ⟨(some 22), (some (21, false)), (.mv (.tmp 1))⟩,
       ⟨(some 23), (some (21, false)), (.bin .gtr (.tmp 22) (.const (.int .i64 300)))⟩,
       ⟨(some 24), none, (.pick (.tmp 21) (.const (.bool true)) (.tmp 23))⟩])
     (.cond (.tmp 24)
      (.seq
       (.ops [
         ⟨(some 4), none, (.mv (.const (.bool true)))⟩])
       .ret)
      .skip))
    (.seq
     (.ops [
       ⟨(some 25), none, (.fad 0 true 2 (.tmp 2))⟩,
       ⟨(some 26), none, (.ld true 2 (.tmp 25))⟩,
       ⟨(some 27), none, (.fad 2 false 1 (.tmp 2))⟩,
       ⟨(some 28), none, (.ld false 1 (.tmp 27))⟩,
       ⟨(some 29), none, (.fad 3 true 22 (.tmp 2))⟩,
       ⟨(some 30), none, (.ld true 22 (.tmp 29))⟩,
       ⟨(some 31), none, (.fad 25 false 1 (.tmp 2))⟩,
       ⟨(some 32), none, (.ld false 1 (.tmp 31))⟩,
       ⟨(some 33), none, (.call (.func 19) [(.tmp 26), (.tmp 28), (.tmp 30), (.tmp 32)])⟩,
       ⟨(some 5), none, (.alc 37 [(.int .i64 0), (.int .u32 0), (.int .u32 0), (.int .u32 0), (.int .u32 0), (.int .u32 0), (.int .u32 0), (.int .u32 0), (.int .u32 0), (.int .u32 0), (.int .u32 0), (.int .u32 0), (.int .u32 0), (.int .u32 0), (.int .u32 0), (.int .u32 0), (.int .u32 0), (.slice none 0 0), (.int .i64 0), (.string ⟨#[]⟩), (.int .i64 0), (.int .i64 0)])⟩,
       ⟨none, none, (.sto true 22 (.tmp 5) (.tmp 33))⟩])
     (.seq
      (.ops [
        ⟨(some 34), none, (.fad 0 true 2 (.tmp 2))⟩,
        ⟨(some 35), none, (.ld true 2 (.tmp 34))⟩,
        ⟨(some 36), none, (.fad 2 false 1 (.tmp 2))⟩,
        ⟨(some 37), none, (.ld false 1 (.tmp 36))⟩,
        ⟨(some 38), none, (.ld true 22 (.tmp 5))⟩,
        ⟨(some 39), none, (.mv (.tmp 1))⟩,
        ⟨(some 40), none, (.call (.func 19) [(.tmp 35), (.tmp 37), (.tmp 38), (.tmp 39)])⟩,
        ⟨(some 6), none, (.alc 37 [(.int .i64 0), (.int .u32 0), (.int .u32 0), (.int .u32 0), (.int .u32 0), (.int .u32 0), (.int .u32 0), (.int .u32 0), (.int .u32 0), (.int .u32 0), (.int .u32 0), (.int .u32 0), (.int .u32 0), (.int .u32 0), (.int .u32 0), (.int .u32 0), (.int .u32 0), (.slice none 0 0), (.int .i64 0), (.string ⟨#[]⟩), (.int .i64 0), (.int .i64 0)])⟩,
        ⟨none, none, (.sto true 22 (.tmp 6) (.tmp 40))⟩])
      (.seq
       (.par false (.one ⟨(some 41), none, (.ld true 22 (.tmp 6))⟩ (.one ⟨(some 42), none, (.fad 0 true 2 (.tmp 2))⟩ (.one ⟨(some 43), none, (.ld true 2 (.tmp 42))⟩ (.one ⟨(some 44), none, (.fad 2 false 1 (.tmp 2))⟩ (.one ⟨(some 45), none, (.ld false 1 (.tmp 44))⟩ (.one ⟨(some 46), none, (.fad 3 true 22 (.tmp 2))⟩ (.one ⟨(some 47), none, (.ld true 22 (.tmp 46))⟩ (.one ⟨(some 48), none, (.fad 25 false 1 (.tmp 2))⟩ (.one ⟨(some 49), none, (.ld false 1 (.tmp 48))⟩ (.one ⟨(some 50), none, (.mv (.tmp 1))⟩ (.one ⟨(some 51), none, (.bin .add (.tmp 49) (.tmp 50))⟩ (.one ⟨(some 52), none, (.call (.func 19) [(.tmp 43), (.tmp 45), (.tmp 47), (.tmp 51)])⟩ (.one ⟨(some 53), none, (.call (.func 20) [(.tmp 41), (.tmp 52)])⟩ (.one ⟨(some 4), none, (.mv (.tmp 53))⟩ .done)))))))))))))))
       .ret))))))
theorem f_sclaw10_ExecSplits : compF Try.prog 4 = some (54, c_sclaw10_ExecSplits, [(.tmp 4)]) := by kernel_rfl

/-- seedcorn/seedcornlaw10.ExecStays -/
def c_sclaw10_ExecStays : VC :=
 (.seq
  (.ops [
    ⟨(some 3), none, (.box 24 (.tmp 0))⟩,
    ⟨(some 5), none, (.box 44 (.tmp 2))⟩,
    ⟨(some 6), none, (.mv (.const (.bool false)))⟩])
  (.seq
   (.seq
    (.ops [
      ⟨(some 9), none, (.call (.func 10) [])⟩,
      ⟨(some 10), none, (.un .not (.tmp 9))⟩])
    (.cond (.tmp 10)
     (.seq
      (.ops [
        ⟨(some 6), none, (.mv (.const (.bool false)))⟩])
      .ret)
     .skip))
   (.seq
    (.seq
     (.ops [
       ⟨(some 11), none, (.ld true 2 (.tmp 3))⟩,
       ⟨(some 12), none, (.mv (.tmp 1))⟩,
       ⟨(some 13), none, (.aidx 2 false 1 (.tmp 5) (.const (.int .i64 0)))⟩,
       ⟨(some 14), none, (.ld false 1 (.tmp 13))⟩,
       ⟨(some 15), none, (.call (.func 11) [(.tmp 11), (.tmp 12), (.tmp 14)])⟩,
       ⟨(some 16), none, (.un .not (.tmp 15))⟩,
       ⟨(some 17), none, (.mv (.tmp 16))⟩,
       ⟨(some 18), (some (17, false)), (.aidx 2 false 1 (.tmp 5) (.const (.int .i64 1)))⟩,
       ⟨(some 19), (some (17, false)), (.ld false 1 (.tmp 18))⟩,
       ⟨(some 20), (some (17, false)), (.aidx 2 false 1 (.tmp 5) (.const (.int .i64 0)))⟩,
       ⟨(some 21), (some (17, false)), (.ld false 1 (.tmp 20))⟩,
       ⟨(some 22), (some (17, false)), (.bin .lss (.tmp 19) (.tmp 21))⟩,
       ⟨(some 23), none, (.pick (.tmp 17) (.const (.bool true)) (.tmp 22))⟩,
       ⟨(some 24), none, (.mv (.tmp 23))⟩,
       ⟨(some 25), (some (24, false)), (.aidx 2 false 1 (.tmp 5) (.const (.int .i64 1)))⟩,
       ⟨(some 26), (some (24, false)), (.ld false 1 (.tmp 25))⟩,
       ⟨(some 27), (some (24, false)), (.bin .gtr (.tmp 26) (.const (.int .i64 500)))⟩,
       ⟨(some 28), none, (.pick (.tmp 24) (.const (.bool true)) (.tmp 27))⟩,
       ⟨(some 29), none, (.mv (.tmp 28))⟩,
       ⟨(some 30), (some (29, false)), (.aidx 2 false 1 (.tmp 5) (.const (.int .i64 0)))⟩,
       ⟨(some 31), (some (29, false)), (.ld false 1 (.tmp 30))⟩,
       ⟨(some 32), (some (29, false)), (.bin .lss (.tmp 31) (.const (.int .i64 0)))⟩,
       ⟨(some 33), none, (.pick (.tmp 29) (.const (.bool true)) (.tmp 32))⟩])
     (.cond (.tmp 33)
      (.seq
       (.ops [
         ⟨(some 6), none, (.mv (.const (.bool true)))⟩])
       .ret)
      .skip))
    (.seq
     (.par false (.one ⟨(some 34), none, (.ld true 2 (.tmp 3))⟩ (.one ⟨(some 35), none, (.mv (.tmp 1))⟩ (.one ⟨(some 36), none, (.aidx 2 false 1 (.tmp 5) (.const (.int .i64 0)))⟩ (.one ⟨(some 37), none, (.ld false 1 (.tmp 36))⟩ (.one ⟨(some 38), none, (.call (.func 12) [(.tmp 34), (.tmp 35), (.tmp 37)])⟩ (.one ⟨(some 39), none, (.ld true 2 (.tmp 3))⟩ (.one ⟨(some 40), none, (.mv (.tmp 1))⟩ (.one ⟨(some 41), none, (.aidx 2 false 1 (.tmp 5) (.const (.int .i64 1)))⟩ (.one ⟨(some 42), none, (.ld false 1 (.tmp 41))⟩ (.one ⟨(some 43), none, (.call (.func 12) [(.tmp 39), (.tmp 40), (.tmp 42)])⟩ (.both (.one ⟨(some 7), none, (.alc 28 [(.int .i64 0), (.string ⟨#[]⟩), (.int .i64 0)])⟩ (.one ⟨(some 8), none, (.alc 28 [(.int .i64 0), (.string ⟨#[]⟩), (.int .i64 0)])⟩ (.one ⟨none, none, (.sto true 3 (.tmp 7) (.tmp 38))⟩ (.one ⟨none, none, (.sto true 3 (.tmp 8) (.tmp 43))⟩ .done)))) (.one ⟨(some 8), none, (.alc 28 [(.int .i64 0), (.string ⟨#[]⟩), (.int .i64 0)])⟩ (.one ⟨(some 7), none, (.alc 28 [(.int .i64 0), (.string ⟨#[]⟩), (.int .i64 0)])⟩ (.one ⟨none, none, (.sto true 3 (.tmp 7) (.tmp 38))⟩ (.one ⟨none, none, (.sto true 3 (.tmp 8) (.tmp 43))⟩ .done))))))))))))))))
     (.seq
      (.seq
       (.ops [
         ⟨(some 44), none, (.fad 0 false 1 (.tmp 7))⟩,
         ⟨(some 45), none, (.ld false 1 (.tmp 44))⟩,
         ⟨(some 46), none, (.bin .neq (.tmp 45) (.const (.int .i64 5)))⟩])
       (.cond (.tmp 46)
        (.seq
         (.ops [
           ⟨(some 47), none, (.ld true 3 (.tmp 7))⟩,
           ⟨(some 48), none, (.ld true 3 (.tmp 8))⟩,
           ⟨(some 49), none, (.call (.func 21) [(.tmp 47), (.tmp 48)])⟩,
           ⟨(some 6), none, (.mv (.tmp 49))⟩])
         .ret)
        .skip))
      (.seq
       (.seq
        (.ops [
          ⟨(some 50), none, (.fad 1 false 1 (.tmp 7))⟩,
          ⟨(some 51), none, (.ld false 1 (.tmp 50))⟩,
          ⟨(some 52), none, (.lens (.tmp 51))⟩,
          ⟨(some 53), none, (.fad 1 false 1 (.tmp 8))⟩,
          ⟨(some 54), none, (.ld false 1 (.tmp 53))⟩,
          ⟨(some 55), none, (.lens (.tmp 54))⟩,
          ⟨(some 56), none, (.bin .gtr (.tmp 52) (.tmp 55))⟩,
          ⟨(some 57), none, (.mv (.tmp 56))⟩,
          ⟨(some 58), (some (57, false)), (.fad 1 false 1 (.tmp 8))⟩,
          ⟨(some 59), (some (57, false)), (.ld false 1 (.tmp 58))⟩,
          ⟨(some 60), (some (57, false)), (.fad 1 false 1 (.tmp 7))⟩,
          ⟨(some 61), (some (57, false)), (.ld false 1 (.tmp 60))⟩,
          ⟨(some 62), (some (57, false)), (.lens (.tmp 61))⟩,
          ⟨(some 63), (some (57, false)), (.sls (.tmp 59) none (some (.tmp 62)))⟩,
          ⟨(some 64), (some (57, false)), (.fad 1 false 1 (.tmp 7))⟩,
          ⟨(some 65), (some (57, false)), (.ld false 1 (.tmp 64))⟩,
          ⟨(some 66), (some (57, false)), (.bin .neq (.tmp 63) (.tmp 65))⟩,
          ⟨(some 67), none, (.pick (.tmp 57) (.const (.bool true)) (.tmp 66))⟩])
        (.cond (.tmp 67)
         (.seq
          (.ops [
            ⟨(some 6), none, (.mv (.const (.bool false)))⟩])
          .ret)
         .skip))
       (.seq
        (.ops [
          ⟨(some 68), none, (.fad 2 false 1 (.tmp 7))⟩,
          ⟨(some 69), none, (.ld false 1 (.tmp 68))⟩,
          ⟨(some 70), none, (.aidx 2 false 1 (.tmp 5) (.const (.int .i64 0)))⟩,
          ⟨(some 71), none, (.ld false 1 (.tmp 70))⟩,
          ⟨(some 72), none, (.bin .eql (.tmp 69) (.tmp 71))⟩,
          ⟨(some 73), none, (.mv (.tmp 72))⟩,
          ⟨(some 74), (some (73, true)), (.fad 2 false 1 (.tmp 8))⟩,
          ⟨(some 75), (some (73, true)), (.ld false 1 (.tmp 74))⟩,
          ⟨(some 76), (some (73, true)), (.fad 2 false 1 (.tmp 7))⟩,
          ⟨(some 77), (some (73, true)), (.ld false 1 (.tmp 76))⟩,
          ⟨(some 78), (some (73, true)), (.bin .geq (.tmp 75) (.tmp 77))⟩,
          ⟨(some 79), none, (.pick (.tmp 73) (.tmp 78) (.const (.bool false)))⟩,
          ⟨(some 80), none, (.mv (.tmp 79))⟩,
          ⟨(some 81), (some (80, true)), (.fad 2 false 1 (.tmp 8))⟩,
          ⟨(some 82), (some (80, true)), (.ld false 1 (.tmp 81))⟩,
          ⟨(some 83), (some (80, true)), (.aidx 2 false 1 (.tmp 5) (.const (.int .i64 1)))⟩,
          ⟨(some 84), (some (80, true)), (.ld false 1 (.tmp 83))⟩,
          ⟨(some 85), (some (80, true)), (.bin .leq (.tmp 82) (.tmp 84))⟩,
          ⟨(some 86), none, (.pick (.tmp 80) (.tmp 85) (.const (.bool false)))⟩,
          ⟨(some 6), none, (.mv (.tmp 86))⟩])
        .ret)))))))
theorem f_sclaw10_ExecStays : compF Try.prog 5 = some (87, c_sclaw10_ExecStays, [(.tmp 6)]) := by kernel_rfl

/-- seedcorn/seedcornlaw10.ExecWords -/
def c_sclaw10_ExecWords : VC :=
 (.seq
  (.ops [
    ⟨(some 3), none, (.box 24 (.tmp 0))⟩,
    ⟨(some 6), none, (.mv (.const (.bool false)))⟩])
  (.seq
   (.seq
    (.ops [
      ⟨(some 14), none, (.call (.func 10) [])⟩,
      ⟨(some 15), none, (.un .not (.tmp 14))⟩])
    (.cond (.tmp 15)
     (.seq
      (.ops [
        ⟨(some 6), none, (.mv (.const (.bool false)))⟩])
      .ret)
     .skip))
   (.seq
    (.seq
     (.ops [
       ⟨(some 16), none, (.ld true 2 (.tmp 3))⟩,
       ⟨(some 17), none, (.mv (.tmp 1))⟩,
       ⟨(some 18), none, (.call (.func 11) [(.tmp 16), (.tmp 17), (.const (.int .i64 0))])⟩,
       ⟨(some 19), none, (.un .not (.tmp 18))⟩])
     (.cond (.tmp 19)
      (.seq
       (.ops [
         ⟨(some 6), none, (.mv (.const (.bool true)))⟩])
       .ret)
      .skip))
    (.seq
     (.ops [
       ⟨(some 20), none, (.ld true 2 (.tmp 3))⟩,
       ⟨(some 21), none, (.mv (.tmp 1))⟩,
       ⟨(some 22), none, (.call (.func 12) [(.tmp 20), (.tmp 21), (.const (.int .i64 200))])⟩,
       ⟨(some 7), none, (.alc 28 [(.int .i64 0), (.string ⟨#[]⟩), (.int .i64 0)])⟩,
       ⟨none, none, (.sto true 3 (.tmp 7) (.tmp 22))⟩])
     (.seq
      (.ops [
        ⟨(some 23), none, (.ld true 2 (.tmp 3))⟩,
        ⟨(some 24), none, (.mv (.tmp 1))⟩,
        ⟨(some 25), none, (.call (.func 13) [(.tmp 23), (.tmp 24), (.const (.int .i64 200))])⟩,
        ⟨(some 8), none, (.mv (.tmp 25))⟩])
      (.seq
       (.seq
        (.ops [
          ⟨(some 26), none, (.mv (.tmp 8))⟩,
          ⟨(some 27), none, (.len (.tmp 26))⟩,
          ⟨(some 28), none, (.fad 0 false 1 (.tmp 3))⟩,
          ⟨(some 29), none, (.ld false 1 (.tmp 28))⟩,
          ⟨(some 30), none, (.len (.tmp 29))⟩,
          ⟨(some 31), none, (.bin .neq (.tmp 27) (.tmp 30))⟩])
        (.cond (.tmp 31)
         (.seq
          (.ops [
            ⟨(some 6), none, (.mv (.const (.bool false)))⟩])
          .ret)
         .skip))
       (.seq
        (.ops [
          ⟨(some 32), none, (.fad 1 false 1 (.tmp 3))⟩,
          ⟨(some 33), none, (.ld false 1 (.tmp 32))⟩,
          ⟨(some 34), none, (.bld [(.slice none 0 0), (.int .i64 0)] [(1, (1, (.tmp 33)))])⟩,
          ⟨(some 9), none, (.alc 24 [(.slice none 0 0), (.int .i64 0)])⟩,
          ⟨none, none, (.sto true 2 (.tmp 9) (.tmp 34))⟩])
        (.seq
         (.seq
          (.ops [
            ⟨(some 10), none, (.mv (.const (.int .i64 0)))⟩])
          (.block 0
           (.loop
            (.seq
             (.seq
              (.ops [
                ⟨(some 35), none, (.mv (.tmp 10))⟩,
                ⟨(some 36), none, (.mv (.tmp 8))⟩,
                ⟨(some 37), none, (.len (.tmp 36))⟩,
                ⟨(some 38), none, (.bin .lss (.tmp 35) (.tmp 37))⟩])
              (.cond (.tmp 38)
               .skip
               (.exit 0)))
             (.seq
              (.block 1
               (.seq
                (.ops [
                  ⟨(some 41), none, (.fad 0 false 1 (.tmp 3))⟩,
                  ⟨(some 42), none, (.ld false 1 (.tmp 41))⟩,
                  ⟨(some 43), none, (.mv (.tmp 10))⟩,
                  ⟨(some 44), none, (.idx 1 (.tmp 42) (.tmp 43))⟩,
                  ⟨(some 45), none, (.ld false 1 (.tmp 44))⟩,
                  ⟨(some 11), none, (.mv (.tmp 45))⟩])
                (.seq
                 (.seq
                  (.ops [
                    ⟨(some 46), none, (.mv (.tmp 8))⟩,
                    ⟨(some 47), none, (.mv (.tmp 10))⟩,
                    ⟨(some 48), none, (.idx 1 (.tmp 46) (.tmp 47))⟩,
                    ⟨(some 49), none, (.ld false 1 (.tmp 48))⟩,
                    ⟨(some 50), none, (.bin .eql (.tmp 49) (.const (.int .i64 0)))⟩])
                  (.cond (.tmp 50)
                   (.ops [
                     ⟨(some 51), none, (.mv (.tmp 2))⟩,
                     ⟨(some 11), none, (.mv (.tmp 51))⟩])
                   .skip))
                 (.seq
                  (.seq
                   (.ops [
                     ⟨(some 53), none, (.fad 0 false 1 (.tmp 3))⟩,
                     ⟨(some 54), none, (.ld false 1 (.tmp 53))⟩,
                     ⟨(some 55), none, (.mv (.tmp 10))⟩,
                     ⟨(some 56), none, (.idx 1 (.tmp 54) (.tmp 55))⟩,
                     ⟨(some 57), none, (.ld false 1 (.tmp 56))⟩,
                     ⟨(some 58), none, (.call (.func 22) [(.tmp 57)])⟩,
                     ⟨(some 52), none, (.mv (.tmp 58))⟩,
                     ⟨(some 59), none, (.ext (.tmp 52) 0)⟩,
                     ⟨(some 60), none, (.ext (.tmp 52) 1)⟩,
                     ⟨(some 12), none, (.alc 47 [(.int .i64 0), (.int .i64 0), (.int .i64 0), (.int .i64 0)])⟩,
                     ⟨none, none, (.sto true 4 (.tmp 12) (.tmp 59))⟩,
                     ⟨(some 13), none, (.mv (.tmp 60))⟩])
                   (.seq
                    (.ops [
                      ⟨(some 61), none, (.mv (.tmp 13))⟩,
                      ⟨(some 62), none, (.bin .eql (.tmp 61) (.const (.int .i64 0)))⟩,
                      ⟨(some 63), none, (.mv (.tmp 62))⟩,
                      ⟨(some 64), (some (63, true)), (.fad 0 false 1 (.tmp 12))⟩,
                      ⟨(some 65), (some (63, true)), (.ld false 1 (.tmp 64))⟩,
                      ⟨(some 66), (some (63, true)), (.bin .eql (.tmp 65) (.const (.int .i64 27)))⟩,
                      ⟨(some 67), none, (.pick (.tmp 63) (.tmp 66) (.const (.bool false)))⟩,
                      ⟨(some 68), none, (.mv (.tmp 67))⟩,
                      ⟨(some 69), (some (68, true)), (.mv (.tmp 8))⟩,
                      ⟨(some 70), (some (68, true)), (.mv (.tmp 10))⟩,
                      ⟨(some 71), (some (68, true)), (.idx 1 (.tmp 69) (.tmp 70))⟩,
                      ⟨(some 72), (some (68, true)), (.ld false 1 (.tmp 71))⟩,
                      ⟨(some 73), (some (68, true)), (.bin .gtr (.tmp 72) (.const (.int .i64 0)))⟩,
                      ⟨(some 74), none, (.pick (.tmp 68) (.tmp 73) (.const (.bool false)))⟩])
                    (.cond (.tmp 74)
                     (.seq
                      (.ops [
                        ⟨(some 6), none, (.mv (.const (.bool true)))⟩])
                      .ret)
                     .skip)))
                  (.ops [
                    ⟨(some 75), none, (.fad 0 false 1 (.tmp 9))⟩,
                    ⟨(some 76), none, (.ld false 1 (.tmp 75))⟩,
                    ⟨(some 77), none, (.mv (.tmp 11))⟩,
                    ⟨(some 78), none, (.bsl 34 1 1 [(.int .u32 0)] [(0, (1, (.tmp 77)))])⟩,
                    ⟨(some 79), none, (.app 34 1 4 (.tmp 76) (.tmp 78))⟩,
                    ⟨(some 80), none, (.fad 0 false 1 (.tmp 9))⟩,
                    ⟨none, none, (.sto false 1 (.tmp 80) (.tmp 79))⟩])))))
              (.ops [
                ⟨(some 39), none, (.mv (.tmp 10))⟩,
                ⟨(some 40), none, (.bin .add (.tmp 39) (.const (.int .i64 1)))⟩,
                ⟨(some 10), none, (.mv (.tmp 40))⟩]))))))
         (.seq
          (.par false (.one ⟨(some 81), none, (.ld true 3 (.tmp 7))⟩ (.one ⟨(some 82), none, (.ld true 2 (.tmp 9))⟩ (.one ⟨(some 83), none, (.mv (.tmp 1))⟩ (.one ⟨(some 84), none, (.call (.func 12) [(.tmp 82), (.tmp 83), (.const (.int .i64 200))])⟩ (.one ⟨(some 85), none, (.call (.func 21) [(.tmp 81), (.tmp 84)])⟩ (.one ⟨(some 6), none, (.mv (.tmp 85))⟩ .done)))))))
          .ret)))))))))
theorem f_sclaw10_ExecWords : compF Try.prog 6 = some (86, c_sclaw10_ExecWords, [(.tmp 6)]) := by kernel_rfl

/-- seedcorn/seedcornlaw10.ExecSame -/
def c_sclaw10_ExecSame : VC :=
 (.seq
  (.ops [
    ⟨(some 2), none, (.box 28 (.tmp 0))⟩,
    ⟨(some 3), none, (.box 28 (.tmp 1))⟩,
    ⟨(some 4), none, (.mv (.const (.bool false)))⟩])
  (.seq
   (.seq
    (.ops [
      ⟨(some 5), none, (.call (.func 10) [])⟩,
      ⟨(some 6), none, (.un .not (.tmp 5))⟩])
    (.cond (.tmp 6)
     (.seq
      (.ops [
        ⟨(some 4), none, (.mv (.const (.bool false)))⟩])
      .ret)
     .skip))
   (.seq
    (.par false (.one ⟨(some 7), none, (.ld true 3 (.tmp 2))⟩ (.one ⟨(some 8), none, (.ld true 3 (.tmp 3))⟩ (.one ⟨(some 9), none, (.call (.func 21) [(.tmp 7), (.tmp 8)])⟩ (.one ⟨(some 10), none, (.ld true 3 (.tmp 2))⟩ (.one ⟨(some 11), none, (.ld true 3 (.tmp 3))⟩ (.one ⟨(some 12), none, (.call (.func 14) [(.tmp 10), (.tmp 11)])⟩ (.one ⟨(some 13), none, (.beq false (.tmp 9) (.tmp 12))⟩ (.one ⟨(some 4), none, (.mv (.tmp 13))⟩ .done)))))))))
    .ret)))
theorem f_sclaw10_ExecSame : compF Try.prog 7 = some (14, c_sclaw10_ExecSame, [(.tmp 4)]) := by kernel_rfl

/-- seedcorn/seedcornlaw10.ExecGoes -/
def c_sclaw10_ExecGoes : VC :=
 (.seq
  (.ops [
    ⟨(some 1), none, (.box 39 (.tmp 0))⟩,
    ⟨(some 2), none, (.mv (.const (.bool false)))⟩])
  (.seq
   (.seq
    (.ops [
      ⟨(some 6), none, (.call (.func 10) [])⟩,
      ⟨(some 7), none, (.un .not (.tmp 6))⟩])
    (.cond (.tmp 7)
     (.seq
      (.ops [
        ⟨(some 2), none, (.mv (.const (.bool false)))⟩])
      .ret)
     .skip))
   (.seq
    (.seq
     (.ops [
       ⟨(some 8), none, (.ld true 26 (.tmp 1))⟩,
       ⟨(some 9), none, (.call (.func 18) [(.tmp 8)])⟩,
       ⟨(some 10), none, (.un .not (.tmp 9))⟩])
     (.cond (.tmp 10)
      (.seq
       (.ops [
         ⟨(some 2), none, (.mv (.const (.bool true)))⟩])
       .ret)
      .skip))
    (.seq
     (.ops [
       ⟨(some 11), none, (.fad 0 true 2 (.tmp 1))⟩,
       ⟨(some 12), none, (.ld true 2 (.tmp 11))⟩,
       ⟨(some 13), none, (.fad 2 false 1 (.tmp 1))⟩,
       ⟨(some 14), none, (.ld false 1 (.tmp 13))⟩,
       ⟨(some 15), none, (.fad 3 true 22 (.tmp 1))⟩,
       ⟨(some 16), none, (.ld true 22 (.tmp 15))⟩,
       ⟨(some 17), none, (.fad 25 false 1 (.tmp 1))⟩,
       ⟨(some 18), none, (.ld false 1 (.tmp 17))⟩,
       ⟨(some 19), none, (.call (.func 19) [(.tmp 12), (.tmp 14), (.tmp 16), (.tmp 18)])⟩,
       ⟨(some 3), none, (.alc 37 [(.int .i64 0), (.int .u32 0), (.int .u32 0), (.int .u32 0), (.int .u32 0), (.int .u32 0), (.int .u32 0), (.int .u32 0), (.int .u32 0), (.int .u32 0), (.int .u32 0), (.int .u32 0), (.int .u32 0), (.int .u32 0), (.int .u32 0), (.int .u32 0), (.int .u32 0), (.slice none 0 0), (.int .i64 0), (.string ⟨#[]⟩), (.int .i64 0), (.int .i64 0)])⟩,
       ⟨none, none, (.sto true 22 (.tmp 3) (.tmp 19))⟩])
     (.seq
      (.seq
       (.par false (.one ⟨(some 20), none, (.ld true 22 (.tmp 3))⟩ (.one ⟨(some 21), none, (.fad 0 true 2 (.tmp 1))⟩ (.one ⟨(some 22), none, (.ld true 2 (.tmp 21))⟩ (.one ⟨(some 23), none, (.fad 2 false 1 (.tmp 1))⟩ (.one ⟨(some 24), none, (.ld false 1 (.tmp 23))⟩ (.one ⟨(some 25), none, (.fad 3 true 22 (.tmp 1))⟩ (.one ⟨(some 26), none, (.ld true 22 (.tmp 25))⟩ (.one ⟨(some 27), none, (.fad 25 false 1 (.tmp 1))⟩ (.one ⟨(some 28), none, (.ld false 1 (.tmp 27))⟩ (.one ⟨(some 29), none, (.call (.func 23) [(.tmp 22), (.tmp 24), (.tmp 26), (.tmp 28)])⟩ (.one ⟨(some 30), none, (.call (.func 20) [(.tmp 20), (.tmp 29)])⟩ (.one ⟨(some 31), none, (.un .not (.tmp 30))⟩ .done)))))))))))))
       (.cond (.tmp 31)
        (.seq
         (.ops [
           ⟨(some 2), none, (.mv (.const (.bool false)))⟩])
         .ret)
        .skip))
      (.seq
       (.seq
        (.ops [
          ⟨(some 32), none, (.fad 25 false 1 (.tmp 1))⟩,
          ⟨(some 33), none, (.ld false 1 (.tmp 32))⟩,
          ⟨(some 34), none, (.bin .gtr (.tmp 33) (.const (.int .i64 60)))⟩])
        (.cond (.tmp 34)
         (.seq
          (.ops [
            ⟨(some 2), none, (.mv (.const (.bool true)))⟩])
          .ret)
         .skip))
       (.seq
        (.ops [
          ⟨(some 35), none, (.fad 3 true 22 (.tmp 1))⟩,
          ⟨(some 36), none, (.ld true 22 (.tmp 35))⟩,
          ⟨(some 4), none, (.alc 37 [(.int .i64 0), (.int .u32 0), (.int .u32 0), (.int .u32 0), (.int .u32 0), (.int .u32 0), (.int .u32 0), (.int .u32 0), (.int .u32 0), (.int .u32 0), (.int .u32 0), (.int .u32 0), (.int .u32 0), (.int .u32 0), (.int .u32 0), (.int .u32 0), (.int .u32 0), (.slice none 0 0), (.int .i64 0), (.string ⟨#[]⟩), (.int .i64 0), (.int .i64 0)])⟩,
          ⟨none, none, (.sto true 22 (.tmp 4) (.tmp 36))⟩])
        (.seq
         (.seq
          (.ops [
            ⟨(some 5), none, (.mv (.const (.int .i64 0)))⟩])
          (.block 0
           (.loop
            (.seq
             (.seq
              (.ops [
                ⟨(some 37), none, (.mv (.tmp 5))⟩,
                ⟨(some 38), none, (.fad 25 false 1 (.tmp 1))⟩,
                ⟨(some 39), none, (.ld false 1 (.tmp 38))⟩,
                ⟨(some 40), none, (.bin .lss (.tmp 37) (.tmp 39))⟩,
                ⟨(some 41), none, (.mv (.tmp 40))⟩,
                ⟨(some 42), (some (41, true)), (.fad 21 false 1 (.tmp 4))⟩,
                ⟨(some 43), (some (41, true)), (.ld false 1 (.tmp 42))⟩,
                ⟨(some 44), (some (41, true)), (.bin .eql (.tmp 43) (.const (.int .i64 0)))⟩,
                ⟨(some 45), none, (.pick (.tmp 41) (.tmp 44) (.const (.bool false)))⟩])
              (.cond (.tmp 45)
               .skip
               (.exit 0)))
             (.seq
              (.block 1
               (.ops [
                 ⟨(some 48), none, (.fad 0 true 2 (.tmp 1))⟩,
                 ⟨(some 49), none, (.ld true 2 (.tmp 48))⟩,
                 ⟨(some 50), none, (.fad 2 false 1 (.tmp 1))⟩,
                 ⟨(some 51), none, (.ld false 1 (.tmp 50))⟩,
                 ⟨(some 52), none, (.ld true 22 (.tmp 4))⟩,
                 ⟨(some 53), none, (.call (.func 24) [(.tmp 49), (.tmp 51), (.tmp 52)])⟩,
                 ⟨none, none, (.sto true 22 (.tmp 4) (.tmp 53))⟩]))
              (.ops [
                ⟨(some 46), none, (.mv (.tmp 5))⟩,
                ⟨(some 47), none, (.bin .add (.tmp 46) (.const (.int .i64 1)))⟩,
                ⟨(some 5), none, (.mv (.tmp 47))⟩]))))))
         (.seq
          (.ops [
            ⟨(some 54), none, (.ld true 22 (.tmp 3))⟩,
            ⟨(some 55), none, (.ld true 22 (.tmp 4))⟩,
            ⟨(some 56), none, (.call (.func 20) [(.tmp 54), (.tmp 55)])⟩,
            ⟨(some 2), none, (.mv (.tmp 56))⟩])
          .ret)))))))))
theorem f_sclaw10_ExecGoes : compF Try.prog 8 = some (57, c_sclaw10_ExecGoes, [(.tmp 2)]) := by kernel_rfl

/-- seedcorn/seedcornlaw10.ExecBytes -/
def c_sclaw10_ExecBytes : VC :=
 (.seq
  (.ops [
    ⟨(some 6), none, (.mv (.const (.bool false)))⟩])
  (.seq
   (.seq
    (.ops [
      ⟨(some 11), none, (.call (.func 10) [])⟩,
      ⟨(some 12), none, (.un .not (.tmp 11))⟩])
    (.cond (.tmp 12)
     (.seq
      (.ops [
        ⟨(some 6), none, (.mv (.const (.bool false)))⟩])
      .ret)
     .skip))
   (.seq
    (.seq
     (.ops [
       ⟨(some 13), none, (.mv (.tmp 0))⟩,
       ⟨(some 14), none, (.lens (.tmp 13))⟩,
       ⟨(some 15), none, (.bin .gtr (.tmp 14) (.const (.int .i64 1000)))⟩,
       ⟨(some 16), none, (.mv (.tmp 15))⟩,
       ⟨(some 17), (some (16, false)), (.mv (.tmp 1))⟩,
       ⟨(some 18), (some (16, false)), (.lens (.tmp 17))⟩,
       ⟨(some 19), (some (16, false)), (.bin .gtr (.tmp 18) (.const (.int .i64 100)))⟩,
       ⟨(some 20), none, (.pick (.tmp 16) (.const (.bool true)) (.tmp 19))⟩,
       ⟨(some 21), none, (.mv (.tmp 20))⟩,
       ⟨(some 22), (some (21, false)), (.mv (.tmp 2))⟩,
       ⟨(some 23), (some (21, false)), (.bin .gtr (.tmp 22) (.const (.int .i64 500)))⟩,
       ⟨(some 24), none, (.pick (.tmp 21) (.const (.bool true)) (.tmp 23))⟩])
     (.cond (.tmp 24)
      (.seq
       (.ops [
         ⟨(some 6), none, (.mv (.const (.bool true)))⟩])
       .ret)
      .skip))
    (.seq
     (.ops [
       ⟨(some 26), none, (.mv (.tmp 0))⟩,
       ⟨(some 27), none, (.call (.func 25) [(.tmp 26)])⟩,
       ⟨(some 25), none, (.mv (.tmp 27))⟩,
       ⟨(some 28), none, (.ext (.tmp 25) 0)⟩,
       ⟨(some 29), none, (.ext (.tmp 25) 1)⟩,
       ⟨(some 7), none, (.alc 24 [(.slice none 0 0), (.int .i64 0)])⟩,
       ⟨none, none, (.sto true 2 (.tmp 7) (.tmp 28))⟩,
       ⟨(some 8), none, (.mv (.tmp 29))⟩])
     (.seq
      (.seq
       (.ops [
         ⟨(some 30), none, (.mv (.tmp 8))⟩,
         ⟨(some 31), none, (.bin .eql (.tmp 30) (.const (.int .i64 0)))⟩,
         ⟨(some 32), none, (.mv (.tmp 31))⟩,
         ⟨(some 33), (some (32, true)), (.fad 1 false 1 (.tmp 7))⟩,
         ⟨(some 34), (some (32, true)), (.ld false 1 (.tmp 33))⟩,
         ⟨(some 35), (some (32, true)), (.bin .gtr (.tmp 34) (.const (.int .i64 3000)))⟩,
         ⟨(some 36), none, (.pick (.tmp 32) (.tmp 35) (.const (.bool false)))⟩])
       (.cond (.tmp 36)
        (.seq
         (.ops [
           ⟨(some 6), none, (.mv (.const (.bool true)))⟩])
         .ret)
        .skip))
      (.seq
       (.ops [
         ⟨(some 38), none, (.mv (.tmp 0))⟩,
         ⟨(some 39), none, (.mv (.tmp 1))⟩,
         ⟨(some 40), none, (.mv (.tmp 2))⟩,
         ⟨(some 41), none, (.call (.func 26) [(.tmp 38), (.tmp 39), (.tmp 40)])⟩,
         ⟨(some 37), none, (.mv (.tmp 41))⟩,
         ⟨(some 42), none, (.ext (.tmp 37) 0)⟩,
         ⟨(some 43), none, (.ext (.tmp 37) 1)⟩,
         ⟨(some 9), none, (.alc 28 [(.int .i64 0), (.string ⟨#[]⟩), (.int .i64 0)])⟩,
         ⟨none, none, (.sto true 3 (.tmp 9) (.tmp 42))⟩,
         ⟨(some 10), none, (.mv (.tmp 43))⟩])
       (.seq
        (.seq
         (.ops [
           ⟨(some 44), none, (.mv (.tmp 10))⟩,
           ⟨(some 45), none, (.bin .eql (.tmp 44) (.const (.int .i64 0)))⟩,
           ⟨(some 46), none, (.mv (.tmp 8))⟩,
           ⟨(some 47), none, (.bin .eql (.tmp 46) (.const (.int .i64 0)))⟩,
           ⟨(some 48), none, (.beq true (.tmp 45) (.tmp 47))⟩,
           ⟨(some 49), none, (.mv (.tmp 48))⟩,
           ⟨(some 50), (some (49, false)), (.mv (.tmp 10))⟩,
           ⟨(some 51), (some (49, false)), (.bin .neq (.tmp 50) (.const (.int .i64 0)))⟩,
           ⟨(some 52), (some (49, false)), (.mv (.tmp 51))⟩,
           ⟨(some 53), (some (52, true)), (.mv (.tmp 10))⟩,
           ⟨(some 54), (some (52, true)), (.bin .neq (.tmp 53) (.const (.int .i64 7)))⟩,
           ⟨(some 55), (some (49, false)), (.pick (.tmp 52) (.tmp 54) (.const (.bool false)))⟩,
           ⟨(some 56), none, (.pick (.tmp 49) (.const (.bool true)) (.tmp 55))⟩])
         (.cond (.tmp 56)
          (.seq
           (.ops [
             ⟨(some 6), none, (.mv (.const (.bool false)))⟩])
           .ret)
          .skip))
        (.seq
         (.seq
          (.ops [
            ⟨(some 57), none, (.mv (.tmp 10))⟩,
            ⟨(some 58), none, (.bin .neq (.tmp 57) (.const (.int .i64 0)))⟩])
          (.cond (.tmp 58)
           (.seq
            (.ops [
              ⟨(some 59), none, (.ld true 3 (.tmp 9))⟩,
              ⟨(some 60), none, (.bld [(.int .i64 0), (.string ⟨#[]⟩), (.int .i64 0)] [])⟩,
              ⟨(some 61), none, (.call (.func 21) [(.tmp 59), (.tmp 60)])⟩,
              ⟨(some 6), none, (.mv (.tmp 61))⟩])
            .ret)
           .skip))
         (.seq
          (.par false (.one ⟨(some 62), none, (.ld true 3 (.tmp 9))⟩ (.one ⟨(some 63), none, (.ld true 2 (.tmp 7))⟩ (.one ⟨(some 64), none, (.mv (.tmp 1))⟩ (.one ⟨(some 65), none, (.mv (.tmp 2))⟩ (.one ⟨(some 66), none, (.call (.func 15) [(.tmp 63), (.tmp 64), (.tmp 65)])⟩ (.one ⟨(some 67), none, (.call (.func 14) [(.tmp 62), (.tmp 66)])⟩ (.one ⟨(some 6), none, (.mv (.tmp 67))⟩ .done))))))))
          .ret)))))))))
theorem f_sclaw10_ExecBytes : compF Try.prog 9 = some (68, c_sclaw10_ExecBytes, [(.tmp 6)]) := by kernel_rfl

/-- seedcorn/seedcornlaw10.alive -/
def c_sclaw10_alive : VC :=
 (.seq
  (.ops [
    ⟨(some 0), none, (.mv (.const (.bool false)))⟩])
  (.seq
   (.ops [
     ⟨(some 7), none, (.bld [(.int .i64 0), (.int .i64 0), (.int .i64 0), (.int .i64 0)] [(0, (1, (.const (.int .i64 18))))])⟩,
     ⟨(some 8), none, (.call (.func 27) [(.tmp 7)])⟩,
     ⟨(some 6), none, (.mv (.tmp 8))⟩,
     ⟨(some 9), none, (.ext (.tmp 6) 0)⟩,
     ⟨(some 10), none, (.ext (.tmp 6) 1)⟩,
     ⟨(some 1), none, (.mv (.tmp 9))⟩,
     ⟨(some 2), none, (.mv (.tmp 10))⟩])
   (.seq
    (.ops [
      ⟨(some 11), none, (.mv (.tmp 1))⟩,
      ⟨(some 12), none, (.bsl 34 1 1 [(.int .u32 0)] [(0, (1, (.tmp 11)))])⟩,
      ⟨(some 13), none, (.bld [(.slice none 0 0), (.int .i64 0)] [(0, (1, (.tmp 12)))])⟩,
      ⟨(some 3), none, (.alc 24 [(.slice none 0 0), (.int .i64 0)])⟩,
      ⟨none, none, (.sto true 2 (.tmp 3) (.tmp 13))⟩])
    (.seq
     (.ops [
       ⟨(some 14), none, (.ld true 2 (.tmp 3))⟩,
       ⟨(some 15), none, (.call (.func 12) [(.tmp 14), (.const (.string ⟨#[]⟩)), (.const (.int .i64 5))])⟩,
       ⟨(some 4), none, (.alc 28 [(.int .i64 0), (.string ⟨#[]⟩), (.int .i64 0)])⟩,
       ⟨none, none, (.sto true 3 (.tmp 4) (.tmp 15))⟩])
     (.seq
      (.ops [
        ⟨(some 16), none, (.ld true 2 (.tmp 3))⟩,
        ⟨(some 17), none, (.call (.func 13) [(.tmp 16), (.const (.string ⟨#[]⟩)), (.const (.int .i64 5))])⟩,
        ⟨(some 5), none, (.mv (.tmp 17))⟩])
      (.seq
       (.ops [
         ⟨(some 18), none, (.ld true 3 (.tmp 4))⟩,
         ⟨(some 19), none, (.bld [(.int .i64 0), (.string ⟨#[]⟩), (.int .i64 0)] [(0, (1, (.const (.int .i64 5)))), (2, (1, (.const (.int .i64 5))))])⟩,
         ⟨(some 20), none, (.call (.func 21) [(.tmp 18), (.tmp 19)])⟩,
         ⟨(some 21), none, (.mv (.tmp 20))⟩,
         ⟨(some 22), (some (21, true)), (.mv (.tmp 5))⟩,
         ⟨(some 23), (some (21, true)), (.len (.tmp 22))⟩,
         ⟨(some 24), (some (21, true)), (.bin .eql (.tmp 23) (.const (.int .i64 1)))⟩,
         ⟨(some 25), none, (.pick (.tmp 21) (.tmp 24) (.const (.bool false)))⟩,
         ⟨(some 26), none, (.mv (.tmp 25))⟩,
         ⟨(some 27), (some (26, true)), (.mv (.tmp 5))⟩,
         ⟨(some 28), (some (26, true)), (.idx 1 (.tmp 27) (.const (.int .i64 0)))⟩,
         ⟨(some 29), (some (26, true)), (.ld false 1 (.tmp 28))⟩,
         ⟨(some 30), (some (26, true)), (.bin .eql (.tmp 29) (.const (.int .i64 5)))⟩,
         ⟨(some 31), none, (.pick (.tmp 26) (.tmp 30) (.const (.bool false)))⟩,
         ⟨(some 32), none, (.mv (.tmp 31))⟩,
         ⟨(some 33), (some (32, true)), (.bld [(.slice none 0 0), (.int .i64 0)] [])⟩,
         ⟨(some 34), (some (32, true)), (.call (.func 12) [(.tmp 33), (.const (.string ⟨#[]⟩)), (.const (.int .i64 1))])⟩,
         ⟨(some 35), (some (32, true)), (.fld 0 false 1 (.tmp 34))⟩,
         ⟨(some 36), (some (32, true)), (.bin .eql (.tmp 35) (.const (.int .i64 7)))⟩,
         ⟨(some 37), none, (.pick (.tmp 32) (.tmp 36) (.const (.bool false)))⟩,
         ⟨(some 38), none, (.mv (.tmp 37))⟩,
         ⟨(some 39), (some (38, true)), (.bld [(.slice none 0 0), (.int .i64 0)] [])⟩,
         ⟨(some 40), (some (38, true)), (.call (.func 12) [(.tmp 39), (.const (.string ⟨#[]⟩)), (.const (.int .i64 0))])⟩,
         ⟨(some 41), (some (38, true)), (.fld 0 false 1 (.tmp 40))⟩,
         ⟨(some 42), (some (38, true)), (.bin .eql (.tmp 41) (.const (.int .i64 5)))⟩,
         ⟨(some 43), none, (.pick (.tmp 38) (.tmp 42) (.const (.bool false)))⟩,
         ⟨(some 0), none, (.mv (.tmp 43))⟩])
       .ret))))))
theorem f_sclaw10_alive : compF Try.prog 10 = some (44, c_sclaw10_alive, [(.tmp 0)]) := by kernel_rfl

/-- seedcorn/seedcornref10.Few -/
def c_scref10_Few : VC :=
 (.seq
  (.ops [
    ⟨(some 3), none, (.box 24 (.tmp 0))⟩,
    ⟨(some 6), none, (.mv (.const (.bool false)))⟩])
  (.seq
   (.ops [
     ⟨(some 7), none, (.fad 0 false 1 (.tmp 3))⟩,
     ⟨(some 8), none, (.ld false 1 (.tmp 7))⟩,
     ⟨(some 9), none, (.len (.tmp 8))⟩,
     ⟨(some 10), none, (.bin .leq (.tmp 9) (.const (.int .i64 200)))⟩,
     ⟨(some 11), none, (.mv (.tmp 10))⟩,
     ⟨(some 12), (some (11, true)), (.fad 1 false 1 (.tmp 3))⟩,
     ⟨(some 13), (some (11, true)), (.ld false 1 (.tmp 12))⟩,
     ⟨(some 14), (some (11, true)), (.bin .leq (.tmp 13) (.const (.int .i64 300)))⟩,
     ⟨(some 15), none, (.pick (.tmp 11) (.tmp 14) (.const (.bool false)))⟩,
     ⟨(some 16), none, (.mv (.tmp 15))⟩,
     ⟨(some 17), (some (16, true)), (.mv (.tmp 1))⟩,
     ⟨(some 18), (some (16, true)), (.lens (.tmp 17))⟩,
     ⟨(some 19), (some (16, true)), (.bin .leq (.tmp 18) (.const (.int .i64 100)))⟩,
     ⟨(some 20), none, (.pick (.tmp 16) (.tmp 19) (.const (.bool false)))⟩,
     ⟨(some 21), none, (.mv (.tmp 20))⟩,
     ⟨(some 22), (some (21, true)), (.mv (.tmp 2))⟩,
     ⟨(some 23), (some (21, true)), (.bin .leq (.tmp 22) (.const (.int .i64 500)))⟩,
     ⟨(some 24), none, (.pick (.tmp 21) (.tmp 23) (.const (.bool false)))⟩,
     ⟨(some 6), none, (.mv (.tmp 24))⟩])
   .ret))
theorem f_scref10_Few : compF Try.prog 11 = some (25, c_scref10_Few, [(.tmp 6)]) := by kernel_rfl

/-- seedcorn/exec.Run -/
def c_exec_Run : VC :=
 (.seq
  (.ops [
    ⟨(some 3), none, (.box 24 (.tmp 0))⟩,
    ⟨(some 6), none, (.alc 28 [(.int .i64 0), (.string ⟨#[]⟩), (.int .i64 0)])⟩])
  (.seq
   (.par false (.one ⟨(some 8), none, (.ld true 2 (.tmp 3))⟩ (.one ⟨(some 9), none, (.mv (.tmp 1))⟩ (.one ⟨(some 10), none, (.ld true 2 (.tmp 3))⟩ (.one ⟨(some 11), none, (.call (.func 28) [(.tmp 10)])⟩ (.one ⟨(some 12), none, (.mv (.tmp 2))⟩ (.one ⟨(some 13), none, (.call (.func 19) [(.tmp 8), (.tmp 9), (.tmp 11), (.tmp 12)])⟩ (.one ⟨(some 7), none, (.alc 37 [(.int .i64 0), (.int .u32 0), (.int .u32 0), (.int .u32 0), (.int .u32 0), (.int .u32 0), (.int .u32 0), (.int .u32 0), (.int .u32 0), (.int .u32 0), (.int .u32 0), (.int .u32 0), (.int .u32 0), (.int .u32 0), (.int .u32 0), (.int .u32 0), (.int .u32 0), (.slice none 0 0), (.int .i64 0), (.string ⟨#[]⟩), (.int .i64 0), (.int .i64 0)])⟩ (.one ⟨none, none, (.sto true 22 (.tmp 7) (.tmp 13))⟩ .done)))))))))
   (.seq
    (.seq
     (.ops [
       ⟨(some 14), none, (.fad 21 false 1 (.tmp 7))⟩,
       ⟨(some 15), none, (.ld false 1 (.tmp 14))⟩,
       ⟨(some 16), none, (.bin .eql (.tmp 15) (.const (.int .i64 0)))⟩])
     (.cond (.tmp 16)
      (.ops [
        ⟨(some 17), none, (.fad 21 false 1 (.tmp 7))⟩,
        ⟨none, none, (.sto false 1 (.tmp 17) (.const (.int .i64 5)))⟩])
      .skip))
    (.seq
     (.ops [
       ⟨(some 18), none, (.fad 21 false 1 (.tmp 7))⟩,
       ⟨(some 19), none, (.ld false 1 (.tmp 18))⟩,
       ⟨(some 20), none, (.fad 19 false 1 (.tmp 7))⟩,
       ⟨(some 21), none, (.ld false 1 (.tmp 20))⟩,
       ⟨(some 22), none, (.fad 20 false 1 (.tmp 7))⟩,
       ⟨(some 23), none, (.ld false 1 (.tmp 22))⟩,
       ⟨(some 24), none, (.bld [(.int .i64 0), (.string ⟨#[]⟩), (.int .i64 0)] [(0, (1, (.tmp 19))), (1, (1, (.tmp 21))), (2, (1, (.tmp 23)))])⟩,
       ⟨none, none, (.sto true 3 (.tmp 6) (.tmp 24))⟩])
     .ret))))
theorem f_exec_Run : compF Try.prog 12 = some (25, c_exec_Run, [(.cell 6 true 3)]) := by kernel_rfl

/-- seedcorn/exec.Counts -/
def c_exec_Counts : VC :=
 (.seq
  (.ops [
    ⟨(some 3), none, (.box 24 (.tmp 0))⟩,
    ⟨(some 6), none, (.mv (.const (.slice none 0 0)))⟩])
  (.seq
   (.ops [
     ⟨(some 9), none, (.fad 0 false 1 (.tmp 3))⟩,
     ⟨(some 10), none, (.ld false 1 (.tmp 9))⟩,
     ⟨(some 11), none, (.len (.tmp 10))⟩,
     ⟨(some 12), none, (.mk 3 1 8 [(.int .i64 0)] (.tmp 11) (.tmp 11))⟩,
     ⟨(some 7), none, (.alc 30 [(.slice none 0 0)])⟩,
     ⟨none, none, (.sto false 1 (.tmp 7) (.tmp 12))⟩])
   (.seq
    (.seq
     (.par false (.one ⟨(some 13), none, (.ld true 2 (.tmp 3))⟩ (.one ⟨(some 14), none, (.mv (.tmp 1))⟩ (.one ⟨(some 15), none, (.ld true 2 (.tmp 3))⟩ (.one ⟨(some 16), none, (.call (.func 28) [(.tmp 15)])⟩ (.one ⟨(some 18), none, (.mv (.tmp 2))⟩ (.one ⟨(some 17), none, (.callA (.func 30) [(.tmp 13), (.tmp 14), (.tmp 16)])⟩ (.one ⟨(some 19), none, (.callA (.func 29) [(.tmp 17), (.tmp 18)])⟩ .done))))))))
     (.block 0
      (.range (.tmp 19) [20]
       (.seq
        (.ops [
          ⟨(some 8), none, (.mv (.tmp 20))⟩])
        (.block 1
         (.ops [
           ⟨(some 21), none, (.ld false 1 (.tmp 7))⟩,
           ⟨(some 22), none, (.mv (.tmp 8))⟩,
           ⟨(some 23), none, (.idx 1 (.tmp 21) (.tmp 22))⟩,
           ⟨(some 24), none, (.ld false 1 (.tmp 23))⟩,
           ⟨(some 25), none, (.bin .add (.tmp 24) (.const (.int .i64 1)))⟩,
           ⟨(some 26), none, (.idx 1 (.tmp 21) (.tmp 22))⟩,
           ⟨none, none, (.sto false 1 (.tmp 26) (.tmp 25))⟩]))))))
    (.seq
     (.ops [
       ⟨(some 27), none, (.ld false 1 (.tmp 7))⟩,
       ⟨(some 6), none, (.mv (.tmp 27))⟩])
     .ret))))
theorem f_exec_Counts : compFB Try.prog false 13 = some (28, c_exec_Counts, [(.tmp 6)]) := by kernel_rfl

/-- seedcorn/seedcornref10.Same -/
def c_scref10_Same : VC :=
 (.seq
  (.ops [
    ⟨(some 2), none, (.box 28 (.tmp 0))⟩,
    ⟨(some 3), none, (.box 28 (.tmp 1))⟩,
    ⟨(some 4), none, (.mv (.const (.bool false)))⟩])
  (.seq
   (.ops [
     ⟨(some 5), none, (.fad 0 false 1 (.tmp 2))⟩,
     ⟨(some 6), none, (.ld false 1 (.tmp 5))⟩,
     ⟨(some 7), none, (.fad 0 false 1 (.tmp 3))⟩,
     ⟨(some 8), none, (.ld false 1 (.tmp 7))⟩,
     ⟨(some 9), none, (.bin .eql (.tmp 6) (.tmp 8))⟩,
     ⟨(some 10), none, (.mv (.tmp 9))⟩,
     ⟨(some 11), (some (10, true)), (.fad 1 false 1 (.tmp 2))⟩,
     ⟨(some 12), (some (10, true)), (.ld false 1 (.tmp 11))⟩,
     ⟨(some 13), (some (10, true)), (.fad 1 false 1 (.tmp 3))⟩,
     ⟨(some 14), (some (10, true)), (.ld false 1 (.tmp 13))⟩,
     ⟨(some 15), (some (10, true)), (.bin .eql (.tmp 12) (.tmp 14))⟩,
     ⟨(some 16), none, (.pick (.tmp 10) (.tmp 15) (.const (.bool false)))⟩,
     ⟨(some 17), none, (.mv (.tmp 16))⟩,
     ⟨(some 18), (some (17, true)), (.fad 2 false 1 (.tmp 2))⟩,
     ⟨(some 19), (some (17, true)), (.ld false 1 (.tmp 18))⟩,
     ⟨(some 20), (some (17, true)), (.fad 2 false 1 (.tmp 3))⟩,
     ⟨(some 21), (some (17, true)), (.ld false 1 (.tmp 20))⟩,
     ⟨(some 22), (some (17, true)), (.bin .eql (.tmp 19) (.tmp 21))⟩,
     ⟨(some 23), none, (.pick (.tmp 17) (.tmp 22) (.const (.bool false)))⟩,
     ⟨(some 4), none, (.mv (.tmp 23))⟩])
   .ret))
theorem f_scref10_Same : compF Try.prog 14 = some (24, c_scref10_Same, [(.tmp 4)]) := by kernel_rfl

/-- seedcorn/seedcornref10.Run -/
def c_scref10_Run : VC :=
 (.seq
  (.ops [
    ⟨(some 3), none, (.box 24 (.tmp 0))⟩,
    ⟨(some 6), none, (.alc 28 [(.int .i64 0), (.string ⟨#[]⟩), (.int .i64 0)])⟩])
  (.seq
   (.par false (.one ⟨(some 8), none, (.ld true 2 (.tmp 3))⟩ (.one ⟨(some 9), none, (.mv (.tmp 1))⟩ (.one ⟨(some 10), none, (.ld true 2 (.tmp 3))⟩ (.one ⟨(some 11), none, (.call (.func 31) [(.tmp 10)])⟩ (.one ⟨(some 12), none, (.mv (.tmp 2))⟩ (.one ⟨(some 13), none, (.call (.func 23) [(.tmp 8), (.tmp 9), (.tmp 11), (.tmp 12)])⟩ (.one ⟨(some 7), none, (.alc 37 [(.int .i64 0), (.int .u32 0), (.int .u32 0), (.int .u32 0), (.int .u32 0), (.int .u32 0), (.int .u32 0), (.int .u32 0), (.int .u32 0), (.int .u32 0), (.int .u32 0), (.int .u32 0), (.int .u32 0), (.int .u32 0), (.int .u32 0), (.int .u32 0), (.int .u32 0), (.slice none 0 0), (.int .i64 0), (.string ⟨#[]⟩), (.int .i64 0), (.int .i64 0)])⟩ (.one ⟨none, none, (.sto true 22 (.tmp 7) (.tmp 13))⟩ .done)))))))))
   (.seq
    (.seq
     (.ops [
       ⟨(some 14), none, (.fad 21 false 1 (.tmp 7))⟩,
       ⟨(some 15), none, (.ld false 1 (.tmp 14))⟩,
       ⟨(some 16), none, (.bin .eql (.tmp 15) (.const (.int .i64 0)))⟩])
     (.cond (.tmp 16)
      (.ops [
        ⟨(some 17), none, (.fad 21 false 1 (.tmp 7))⟩,
        ⟨none, none, (.sto false 1 (.tmp 17) (.const (.int .i64 5)))⟩])
      .skip))
    (.seq
     (.ops [
       ⟨(some 18), none, (.fad 21 false 1 (.tmp 7))⟩,
       ⟨(some 19), none, (.ld false 1 (.tmp 18))⟩,
       ⟨(some 20), none, (.fad 19 false 1 (.tmp 7))⟩,
       ⟨(some 21), none, (.ld false 1 (.tmp 20))⟩,
       ⟨(some 22), none, (.fad 20 false 1 (.tmp 7))⟩,
       ⟨(some 23), none, (.ld false 1 (.tmp 22))⟩,
       ⟨(some 24), none, (.bld [(.int .i64 0), (.string ⟨#[]⟩), (.int .i64 0)] [(0, (1, (.tmp 19))), (1, (1, (.tmp 21))), (2, (1, (.tmp 23)))])⟩,
       ⟨none, none, (.sto true 3 (.tmp 6) (.tmp 24))⟩])
     .ret))))
theorem f_scref10_Run : compF Try.prog 15 = some (25, c_scref10_Run, [(.cell 6 true 3)]) := by kernel_rfl

/-- seedcorn/seedcornref01.Ints -/
def c_scref01_Ints : VC :=
 (.seq
  (.ops [
    ⟨(some 4), none, (.mv (.const (.bool false)))⟩])
  (.seq
   (.seq
    (.ops [
      ⟨(some 6), none, (.mv (.tmp 0))⟩,
      ⟨(some 7), none, (.len (.tmp 6))⟩,
      ⟨(some 8), none, (.mv (.tmp 1))⟩,
      ⟨(some 9), none, (.len (.tmp 8))⟩,
      ⟨(some 10), none, (.bin .neq (.tmp 7) (.tmp 9))⟩])
    (.cond (.tmp 10)
     (.seq
      (.ops [
        ⟨(some 4), none, (.mv (.const (.bool false)))⟩])
      .ret)
     .skip))
   (.seq
    (.seq
     (.ops [
       ⟨(some 5), none, (.mv (.const (.int .i64 0)))⟩])
     (.block 0
      (.loop
       (.seq
        (.seq
         (.ops [
           ⟨(some 11), none, (.mv (.tmp 5))⟩,
           ⟨(some 12), none, (.mv (.tmp 0))⟩,
           ⟨(some 13), none, (.len (.tmp 12))⟩,
           ⟨(some 14), none, (.bin .lss (.tmp 11) (.tmp 13))⟩])
         (.cond (.tmp 14)
          .skip
          (.exit 0)))
        (.seq
         (.block 1
          (.seq
           (.ops [
             ⟨(some 17), none, (.mv (.tmp 0))⟩,
             ⟨(some 18), none, (.mv (.tmp 5))⟩,
             ⟨(some 19), none, (.idx 1 (.tmp 17) (.tmp 18))⟩,
             ⟨(some 20), none, (.ld false 1 (.tmp 19))⟩,
             ⟨(some 21), none, (.mv (.tmp 1))⟩,
             ⟨(some 22), none, (.mv (.tmp 5))⟩,
             ⟨(some 23), none, (.idx 1 (.tmp 21) (.tmp 22))⟩,
             ⟨(some 24), none, (.ld false 1 (.tmp 23))⟩,
             ⟨(some 25), none, (.bin .neq (.tmp 20) (.tmp 24))⟩])
           (.cond (.tmp 25)
            (.seq
             (.ops [
               ⟨(some 4), none, (.mv (.const (.bool false)))⟩])
             .ret)
            .skip)))
         (.ops [
           ⟨(some 15), none, (.mv (.tmp 5))⟩,
           ⟨(some 16), none, (.bin .add (.tmp 15) (.const (.int .i64 1)))⟩,
           ⟨(some 5), none, (.mv (.tmp 16))⟩]))))))
    (.seq
     (.ops [
       ⟨(some 4), none, (.mv (.const (.bool true)))⟩])
     .ret))))
theorem f_scref01_Ints : compF Try.prog 16 = some (26, c_scref01_Ints, [(.tmp 4)]) := by kernel_rfl

/-- seedcorn/seedcornref10.Counts -/
def c_scref10_Counts : VC :=
 (.seq
  (.ops [
    ⟨(some 3), none, (.box 24 (.tmp 0))⟩,
    ⟨(some 6), none, (.mv (.const (.slice none 0 0)))⟩])
  (.seq
   (.par false (.one ⟨(some 10), none, (.ld true 2 (.tmp 3))⟩ (.one ⟨(some 11), none, (.mv (.tmp 1))⟩ (.one ⟨(some 12), none, (.ld true 2 (.tmp 3))⟩ (.one ⟨(some 13), none, (.call (.func 31) [(.tmp 12)])⟩ (.one ⟨(some 14), none, (.mv (.tmp 2))⟩ (.one ⟨(some 15), none, (.call (.func 32) [(.tmp 10), (.tmp 11), (.tmp 13), (.tmp 14)])⟩ (.one ⟨(some 9), none, (.mv (.tmp 15))⟩ (.one ⟨(some 16), none, (.ext (.tmp 9) 0)⟩ (.one ⟨(some 17), none, (.ext (.tmp 9) 1)⟩ (.one ⟨(some 7), none, (.alc 37 [(.int .i64 0), (.int .u32 0), (.int .u32 0), (.int .u32 0), (.int .u32 0), (.int .u32 0), (.int .u32 0), (.int .u32 0), (.int .u32 0), (.int .u32 0), (.int .u32 0), (.int .u32 0), (.int .u32 0), (.int .u32 0), (.int .u32 0), (.int .u32 0), (.int .u32 0), (.slice none 0 0), (.int .i64 0), (.string ⟨#[]⟩), (.int .i64 0), (.int .i64 0)])⟩ (.one ⟨none, none, (.sto true 22 (.tmp 7) (.tmp 16))⟩ (.one ⟨(some 8), none, (.mv (.tmp 17))⟩ .done)))))))))))))
   (.seq
    (.ops [
      ⟨(some 18), none, (.mv (.tmp 8))⟩,
      ⟨(some 6), none, (.mv (.tmp 18))⟩])
    .ret)))
theorem f_scref10_Counts : compF Try.prog 17 = some (19, c_scref10_Counts, [(.tmp 6)]) := by kernel_rfl

/-- seedcorn/seedcornlaw10.few -/
def c_sclaw10_few : VC :=
 (.seq
  (.ops [
    ⟨(some 1), none, (.box 39 (.tmp 0))⟩,
    ⟨(some 2), none, (.mv (.const (.bool false)))⟩])
  (.seq
   (.ops [
     ⟨(some 3), none, (.fad 0 true 2 (.tmp 1))⟩,
     ⟨(some 4), none, (.ld true 2 (.tmp 3))⟩,
     ⟨(some 5), none, (.fad 2 false 1 (.tmp 1))⟩,
     ⟨(some 6), none, (.ld false 1 (.tmp 5))⟩,
     ⟨(some 7), none, (.fad 25 false 1 (.tmp 1))⟩,
     ⟨(some 8), none, (.ld false 1 (.tmp 7))⟩,
     ⟨(some 9), none, (.call (.func 11) [(.tmp 4), (.tmp 6), (.tmp 8)])⟩,
     ⟨(some 10), none, (.mv (.tmp 9))⟩,
     ⟨(some 11), (some (10, true)), (.fad 3 true 22 (.tmp 1))⟩,
     ⟨(some 12), (some (10, true)), (.fad 17 false 1 (.tmp 11))⟩,
     ⟨(some 13), (some (10, true)), (.ld false 1 (.tmp 12))⟩,
     ⟨(some 14), (some (10, true)), (.len (.tmp 13))⟩,
     ⟨(some 15), (some (10, true)), (.bin .leq (.tmp 14) (.const (.int .i64 300)))⟩,
     ⟨(some 16), none, (.pick (.tmp 10) (.tmp 15) (.const (.bool false)))⟩,
     ⟨(some 17), none, (.mv (.tmp 16))⟩,
     ⟨(some 18), (some (17, true)), (.fad 3 true 22 (.tmp 1))⟩,
     ⟨(some 19), (some (17, true)), (.fad 19 false 1 (.tmp 18))⟩,
     ⟨(some 20), (some (17, true)), (.ld false 1 (.tmp 19))⟩,
     ⟨(some 21), (some (17, true)), (.lens (.tmp 20))⟩,
     ⟨(some 22), (some (17, true)), (.bin .leq (.tmp 21) (.const (.int .i64 100)))⟩,
     ⟨(some 23), none, (.pick (.tmp 17) (.tmp 22) (.const (.bool false)))⟩,
     ⟨(some 24), none, (.mv (.tmp 23))⟩,
     ⟨(some 25), (some (24, true)), (.fad 3 true 22 (.tmp 1))⟩,
     ⟨(some 26), (some (24, true)), (.fad 20 false 1 (.tmp 25))⟩,
     ⟨(some 27), (some (24, true)), (.ld false 1 (.tmp 26))⟩,
     ⟨(some 28), (some (24, true)), (.bin .lss (.tmp 27) (.const (.int .i64 1000000)))⟩,
     ⟨(some 29), none, (.pick (.tmp 24) (.tmp 28) (.const (.bool false)))⟩,
     ⟨(some 2), none, (.mv (.tmp 29))⟩])
   .ret))
theorem f_sclaw10_few : compF Try.prog 18 = some (30, c_sclaw10_few, [(.tmp 2)]) := by kernel_rfl

/-- seedcorn/exec.Go -/
def c_exec_Go : VC :=
 (.seq
  (.ops [
    ⟨(some 4), none, (.box 24 (.tmp 0))⟩,
    ⟨(some 6), none, (.box 37 (.tmp 2))⟩,
    ⟨(some 8), none, (.alc 37 [(.int .i64 0), (.int .u32 0), (.int .u32 0), (.int .u32 0), (.int .u32 0), (.int .u32 0), (.int .u32 0), (.int .u32 0), (.int .u32 0), (.int .u32 0), (.int .u32 0), (.int .u32 0), (.int .u32 0), (.int .u32 0), (.int .u32 0), (.int .u32 0), (.int .u32 0), (.slice none 0 0), (.int .i64 0), (.string ⟨#[]⟩), (.int .i64 0), (.int .i64 0)])⟩])
  (.seq
   (.ops [
     ⟨(some 10), none, (.ld true 2 (.tmp 4))⟩,
     ⟨(some 11), none, (.mv (.tmp 1))⟩,
     ⟨(some 12), none, (.ld true 22 (.tmp 6))⟩,
     ⟨(some 13), none, (.callA (.func 30) [(.tmp 10), (.tmp 11), (.tmp 12)])⟩,
     ⟨(some 9), none, (.mv (.tmp 13))⟩])
   (.seq
    (.seq
     (.ops [
       ⟨(some 14), none, (.mv (.tmp 9))⟩,
       ⟨(some 15), none, (.mv (.tmp 3))⟩,
       ⟨(some 16), none, (.callA (.func 29) [(.tmp 14), (.tmp 15)])⟩])
     (.block 0
      (.range (.tmp 16) [17]
       (.block 1
        .skip))))
    (.seq
     (.ops [
       ⟨(some 18), none, (.mv (.tmp 9))⟩,
       ⟨(some 19), none, (.call (.func 33) [(.tmp 18)])⟩,
       ⟨none, none, (.sto true 22 (.tmp 8) (.tmp 19))⟩])
     .ret))))
theorem f_exec_Go : compFB Try.prog false 19 = some (20, c_exec_Go, [(.cell 8 true 22)]) := by kernel_rfl

/-- seedcorn/seedcornref09.Same -/
def c_scref09_Same : VC :=
 (.seq
  (.ops [
    ⟨(some 2), none, (.box 37 (.tmp 0))⟩,
    ⟨(some 3), none, (.box 37 (.tmp 1))⟩,
    ⟨(some 4), none, (.mv (.const (.bool false)))⟩])
  (.seq
   (.ops [
     ⟨(some 5), none, (.fad 0 false 1 (.tmp 2))⟩,
     ⟨(some 6), none, (.ld false 1 (.tmp 5))⟩,
     ⟨(some 7), none, (.fad 0 false 1 (.tmp 3))⟩,
     ⟨(some 8), none, (.ld false 1 (.tmp 7))⟩,
     ⟨(some 9), none, (.bin .eql (.tmp 6) (.tmp 8))⟩,
     ⟨(some 10), none, (.mv (.tmp 9))⟩,
     ⟨(some 11), (some (10, true)), (.fad 1 true 16 (.tmp 2))⟩,
     ⟨(some 12), (some (10, true)), (.ld true 16 (.tmp 11))⟩,
     ⟨(some 13), (some (10, true)), (.fad 1 true 16 (.tmp 3))⟩,
     ⟨(some 14), (some (10, true)), (.ld true 16 (.tmp 13))⟩,
     ⟨(some 15), (some (10, true)), (.pur (.eqv false [.int, .int, .int, .int, .int, .int, .int, .int, .int, .int, .int, .int, .int, .int, .int, .int]) [(.tmp 12), (.tmp 14)])⟩,
     ⟨(some 16), none, (.pick (.tmp 10) (.tmp 15) (.const (.bool false)))⟩,
     ⟨(some 17), none, (.mv (.tmp 16))⟩,
     ⟨(some 18), (some (17, true)), (.fad 17 false 1 (.tmp 2))⟩,
     ⟨(some 19), (some (17, true)), (.ld false 1 (.tmp 18))⟩,
     ⟨(some 20), (some (17, true)), (.fad 17 false 1 (.tmp 3))⟩,
     ⟨(some 21), (some (17, true)), (.ld false 1 (.tmp 20))⟩,
     ⟨(some 22), (some (17, true)), (.call (.func 34) [(.tmp 19), (.tmp 21)])⟩,
     ⟨(some 23), none, (.pick (.tmp 17) (.tmp 22) (.const (.bool false)))⟩,
     ⟨(some 24), none, (.mv (.tmp 23))⟩,
     ⟨(some 25), (some (24, true)), (.fad 18 false 1 (.tmp 2))⟩,
     ⟨(some 26), (some (24, true)), (.ld false 1 (.tmp 25))⟩,
     ⟨(some 27), (some (24, true)), (.fad 18 false 1 (.tmp 3))⟩,
     ⟨(some 28), (some (24, true)), (.ld false 1 (.tmp 27))⟩,
     ⟨(some 29), (some (24, true)), (.bin .eql (.tmp 26) (.tmp 28))⟩,
     ⟨(some 30), none, (.pick (.tmp 24) (.tmp 29) (.const (.bool false)))⟩,
     ⟨(some 31), none, (.mv (.tmp 30))⟩,
     ⟨(some 32), (some (31, true)), (.fad 19 false 1 (.tmp 2))⟩,
     ⟨(some 33), (some (31, true)), (.ld false 1 (.tmp 32))⟩,
     ⟨(some 34), (some (31, true)), (.fad 19 false 1 (.tmp 3))⟩,
     ⟨(some 35), (some (31, true)), (.ld false 1 (.tmp 34))⟩,
     ⟨(some 36), (some (31, true)), (.bin .eql (.tmp 33) (.tmp 35))⟩,
     ⟨(some 37), none, (.pick (.tmp 31) (.tmp 36) (.const (.bool false)))⟩,
     ⟨(some 38), none, (.mv (.tmp 37))⟩,
     ⟨(some 39), (some (38, true)), (.fad 20 false 1 (.tmp 2))⟩,
     ⟨(some 40), (some (38, true)), (.ld false 1 (.tmp 39))⟩,
     ⟨(some 41), (some (38, true)), (.fad 20 false 1 (.tmp 3))⟩,
     ⟨(some 42), (some (38, true)), (.ld false 1 (.tmp 41))⟩,
     ⟨(some 43), (some (38, true)), (.bin .eql (.tmp 40) (.tmp 42))⟩,
     ⟨(some 44), none, (.pick (.tmp 38) (.tmp 43) (.const (.bool false)))⟩,
     ⟨(some 45), none, (.mv (.tmp 44))⟩,
     ⟨(some 46), (some (45, true)), (.fad 21 false 1 (.tmp 2))⟩,
     ⟨(some 47), (some (45, true)), (.ld false 1 (.tmp 46))⟩,
     ⟨(some 48), (some (45, true)), (.fad 21 false 1 (.tmp 3))⟩,
     ⟨(some 49), (some (45, true)), (.ld false 1 (.tmp 48))⟩,
     ⟨(some 50), (some (45, true)), (.bin .eql (.tmp 47) (.tmp 49))⟩,
     ⟨(some 51), none, (.pick (.tmp 45) (.tmp 50) (.const (.bool false)))⟩,
     ⟨(some 4), none, (.mv (.tmp 51))⟩])
   .ret))
theorem f_scref09_Same : compF Try.prog 20 = some (52, c_scref09_Same, [(.tmp 4)]) := by kernel_rfl

/-- seedcorn/exec.Same -/
def c_exec_Same : VC :=
 (.seq
  (.ops [
    ⟨(some 2), none, (.box 28 (.tmp 0))⟩,
    ⟨(some 3), none, (.box 28 (.tmp 1))⟩,
    ⟨(some 4), none, (.mv (.const (.bool false)))⟩])
  (.seq
   (.ops [
     ⟨(some 5), none, (.ld true 3 (.tmp 2))⟩,
     ⟨(some 6), none, (.ld true 3 (.tmp 3))⟩,
     ⟨(some 7), none, (.pur (.eqv false [.int, .str, .int]) [(.tmp 5), (.tmp 6)])⟩,
     ⟨(some 4), none, (.mv (.tmp 7))⟩])
   .ret))
theorem f_exec_Same : compF Try.prog 21 = some (8, c_exec_Same, [(.tmp 4)]) := by kernel_rfl

/-- seedcorn/seedcornref07.Decode -/
def c_scref07_Decode : VC :=
 (.seq
  (.ops [
    ⟨(some 2), none, (.alc 47 [(.int .i64 0), (.int .i64 0), (.int .i64 0), (.int .i64 0)])⟩,
    ⟨(some 3), none, (.mv (.const (.int .i64 0)))⟩])
  (.seq
   (.ops [
     ⟨(some 5), none, (.mv (.tmp 0))⟩,
     ⟨(some 6), none, (.bin .quo (.tmp 5) (.const (.int .u32 16777216)))⟩,
     ⟨(some 7), none, (.conv .i64 (.tmp 6))⟩,
     ⟨(some 8), none, (.mv (.tmp 0))⟩,
     ⟨(some 9), none, (.bin .quo (.tmp 8) (.const (.int .u32 1048576)))⟩,
     ⟨(some 10), none, (.bin .rem (.tmp 9) (.const (.int .u32 16)))⟩,
     ⟨(some 11), none, (.conv .i64 (.tmp 10))⟩,
     ⟨(some 12), none, (.mv (.tmp 0))⟩,
     ⟨(some 13), none, (.bin .quo (.tmp 12) (.const (.int .u32 65536)))⟩,
     ⟨(some 14), none, (.bin .rem (.tmp 13) (.const (.int .u32 16)))⟩,
     ⟨(some 15), none, (.conv .i64 (.tmp 14))⟩,
     ⟨(some 16), none, (.mv (.tmp 0))⟩,
     ⟨(some 17), none, (.bin .rem (.tmp 16) (.const (.int .u32 65536)))⟩,
     ⟨(some 18), none, (.conv .i64 (.tmp 17))⟩,
     ⟨(some 19), none, (.bld [(.int .i64 0), (.int .i64 0), (.int .i64 0), (.int .i64 0)] [(0, (1, (.tmp 7))), (1, (1, (.tmp 11))), (2, (1, (.tmp 15))), (3, (1, (.tmp 18)))])⟩,
     ⟨(some 4), none, (.alc 47 [(.int .i64 0), (.int .i64 0), (.int .i64 0), (.int .i64 0)])⟩,
     ⟨none, none, (.sto true 4 (.tmp 4) (.tmp 19))⟩])
   (.seq
    (.seq
     (.ops [
       ⟨(some 20), none, (.ld true 4 (.tmp 4))⟩,
       ⟨(some 21), none, (.call (.func 35) [(.tmp 20)])⟩,
       ⟨(some 22), none, (.un .not (.tmp 21))⟩])
     (.cond (.tmp 22)
      (.seq
       (.ops [
         ⟨(some 23), none, (.bld [(.int .i64 0), (.int .i64 0), (.int .i64 0), (.int .i64 0)] [])⟩,
         ⟨none, none, (.sto true 4 (.tmp 2) (.tmp 23))⟩,
         ⟨(some 3), none, (.mv (.const (.int .i64 7)))⟩])
       .ret)
      .skip))
    (.seq
     (.ops [
       ⟨(some 24), none, (.ld true 4 (.tmp 4))⟩,
       ⟨none, none, (.sto true 4 (.tmp 2) (.tmp 24))⟩,
       ⟨(some 3), none, (.mv (.const (.int .i64 0)))⟩])
     .ret))))
theorem f_scref07_Decode : compF Try.prog 22 = some (25, c_scref07_Decode, [(.cell 2 true 4), (.tmp 3)]) := by kernel_rfl

/-- seedcorn/seedcornref10.Go -/
def c_scref10_Go : VC :=
 (.seq
  (.ops [
    ⟨(some 4), none, (.box 24 (.tmp 0))⟩,
    ⟨(some 6), none, (.box 37 (.tmp 2))⟩,
    ⟨(some 8), none, (.alc 37 [(.int .i64 0), (.int .u32 0), (.int .u32 0), (.int .u32 0), (.int .u32 0), (.int .u32 0), (.int .u32 0), (.int .u32 0), (.int .u32 0), (.int .u32 0), (.int .u32 0), (.int .u32 0), (.int .u32 0), (.int .u32 0), (.int .u32 0), (.int .u32 0), (.int .u32 0), (.slice none 0 0), (.int .i64 0), (.string ⟨#[]⟩), (.int .i64 0), (.int .i64 0)])⟩])
  (.seq
   (.ops [
     ⟨(some 12), none, (.ld true 2 (.tmp 4))⟩,
     ⟨(some 13), none, (.mv (.tmp 1))⟩,
     ⟨(some 14), none, (.ld true 22 (.tmp 6))⟩,
     ⟨(some 15), none, (.mv (.tmp 3))⟩,
     ⟨(some 16), none, (.call (.func 32) [(.tmp 12), (.tmp 13), (.tmp 14), (.tmp 15)])⟩,
     ⟨(some 11), none, (.mv (.tmp 16))⟩,
     ⟨(some 17), none, (.ext (.tmp 11) 0)⟩,
     ⟨(some 18), none, (.ext (.tmp 11) 1)⟩,
     ⟨(some 9), none, (.alc 37 [(.int .i64 0), (.int .u32 0), (.int .u32 0), (.int .u32 0), (.int .u32 0), (.int .u32 0), (.int .u32 0), (.int .u32 0), (.int .u32 0), (.int .u32 0), (.int .u32 0), (.int .u32 0), (.int .u32 0), (.int .u32 0), (.int .u32 0), (.int .u32 0), (.int .u32 0), (.slice none 0 0), (.int .i64 0), (.string ⟨#[]⟩), (.int .i64 0), (.int .i64 0)])⟩,
     ⟨none, none, (.sto true 22 (.tmp 9) (.tmp 17))⟩,
     ⟨(some 10), none, (.mv (.tmp 18))⟩])
   (.seq
    (.ops [
      ⟨(some 19), none, (.ld true 22 (.tmp 9))⟩,
      ⟨none, none, (.sto true 22 (.tmp 8) (.tmp 19))⟩])
    .ret)))
theorem f_scref10_Go : compF Try.prog 23 = some (20, c_scref10_Go, [(.cell 8 true 22)]) := by kernel_rfl

/-- seedcorn/machine.Step -/
def c_machine_Step : VC :=
 (.seq
  (.ops [
    ⟨(some 3), none, (.box 24 (.tmp 0))⟩,
    ⟨(some 5), none, (.box 37 (.tmp 2))⟩,
    ⟨(some 6), none, (.alc 37 [(.int .i64 0), (.int .u32 0), (.int .u32 0), (.int .u32 0), (.int .u32 0), (.int .u32 0), (.int .u32 0), (.int .u32 0), (.int .u32 0), (.int .u32 0), (.int .u32 0), (.int .u32 0), (.int .u32 0), (.int .u32 0), (.int .u32 0), (.int .u32 0), (.int .u32 0), (.slice none 0 0), (.int .i64 0), (.string ⟨#[]⟩), (.int .i64 0), (.int .i64 0)])⟩])
  (.seq
   (.ops [
     ⟨(some 8), none, (.ld true 2 (.tmp 3))⟩,
     ⟨(some 9), none, (.mv (.tmp 1))⟩,
     ⟨(some 10), none, (.ld true 22 (.tmp 5))⟩,
     ⟨(some 11), none, (.callA (.func 30) [(.tmp 8), (.tmp 9), (.tmp 10)])⟩,
     ⟨(some 7), none, (.mv (.tmp 11))⟩])
   (.seq
    (.ops [
      ⟨(some 12), none, (.mv (.tmp 7))⟩,
      ⟨(some 13), none, (.call (.func 36) [(.tmp 12)])⟩])
    (.seq
     (.ops [
       ⟨(some 14), none, (.mv (.tmp 7))⟩,
       ⟨(some 15), none, (.call (.func 33) [(.tmp 14)])⟩,
       ⟨none, none, (.sto true 22 (.tmp 6) (.tmp 15))⟩])
     .ret))))
theorem f_machine_Step : compF Try.prog 24 = some (16, c_machine_Step, [(.cell 6 true 22)]) := by kernel_rfl

/-- seedcorn/seedcornref08.Read -/
def c_scref08_Read : VC :=
 (.seq
  (.ops [
    ⟨(some 2), none, (.alc 24 [(.slice none 0 0), (.int .i64 0)])⟩,
    ⟨(some 3), none, (.mv (.const (.int .i64 0)))⟩])
  (.seq
   (.seq
    (.ops [
      ⟨(some 8), none, (.mv (.tmp 0))⟩,
      ⟨(some 9), none, (.lens (.tmp 8))⟩,
      ⟨(some 10), none, (.bin .lss (.tmp 9) (.const (.int .i64 12)))⟩,
      ⟨(some 11), none, (.mv (.tmp 10))⟩,
      ⟨(some 12), (some (11, false)), (.mv (.tmp 0))⟩,
      ⟨(some 13), (some (11, false)), (.pur .six [(.tmp 12), (.const (.int .i64 0))])⟩,
      ⟨(some 14), (some (11, false)), (.bin .neq (.tmp 13) (.const (.int .u8 83)))⟩,
      ⟨(some 15), none, (.pick (.tmp 11) (.const (.bool true)) (.tmp 14))⟩,
      ⟨(some 16), none, (.mv (.tmp 15))⟩,
      ⟨(some 17), (some (16, false)), (.mv (.tmp 0))⟩,
      ⟨(some 18), (some (16, false)), (.pur .six [(.tmp 17), (.const (.int .i64 1))])⟩,
      ⟨(some 19), (some (16, false)), (.bin .neq (.tmp 18) (.const (.int .u8 69)))⟩,
      ⟨(some 20), none, (.pick (.tmp 16) (.const (.bool true)) (.tmp 19))⟩,
      ⟨(some 21), none, (.mv (.tmp 20))⟩,
      ⟨(some 22), (some (21, false)), (.mv (.tmp 0))⟩,
      ⟨(some 23), (some (21, false)), (.pur .six [(.tmp 22), (.const (.int .i64 2))])⟩,
      ⟨(some 24), (some (21, false)), (.bin .neq (.tmp 23) (.const (.int .u8 69)))⟩,
      ⟨(some 25), none, (.pick (.tmp 21) (.const (.bool true)) (.tmp 24))⟩,
      ⟨(some 26), none, (.mv (.tmp 25))⟩,
      ⟨(some 27), (some (26, false)), (.mv (.tmp 0))⟩,
      ⟨(some 28), (some (26, false)), (.pur .six [(.tmp 27), (.const (.int .i64 3))])⟩,
      ⟨(some 29), (some (26, false)), (.bin .neq (.tmp 28) (.const (.int .u8 68)))⟩,
      ⟨(some 30), none, (.pick (.tmp 26) (.const (.bool true)) (.tmp 29))⟩])
    (.cond (.tmp 30)
     (.seq
      (.ops [
        ⟨(some 31), none, (.bld [(.slice none 0 0), (.int .i64 0)] [])⟩,
        ⟨none, none, (.sto true 2 (.tmp 2) (.tmp 31))⟩,
        ⟨(some 3), none, (.mv (.const (.int .i64 7)))⟩])
      .ret)
     .skip))
   (.seq
    (.ops [
      ⟨(some 32), none, (.mv (.tmp 0))⟩,
      ⟨(some 33), none, (.call (.func 37) [(.tmp 32), (.const (.int .i64 4))])⟩,
      ⟨(some 4), none, (.mv (.tmp 33))⟩])
    (.seq
     (.ops [
       ⟨(some 34), none, (.mv (.tmp 0))⟩,
       ⟨(some 35), none, (.call (.func 37) [(.tmp 34), (.const (.int .i64 8))])⟩,
       ⟨(some 5), none, (.mv (.tmp 35))⟩])
     (.seq
      (.seq
       (.ops [
         ⟨(some 36), none, (.mv (.tmp 4))⟩,
         ⟨(some 37), none, (.bin .gtr (.tmp 36) (.const (.int .u32 16384)))⟩,
         ⟨(some 38), none, (.mv (.tmp 37))⟩,
         ⟨(some 39), (some (38, false)), (.mv (.tmp 5))⟩,
         ⟨(some 40), (some (38, false)), (.bin .gtr (.tmp 39) (.const (.int .u32 32768)))⟩,
         ⟨(some 41), none, (.pick (.tmp 38) (.const (.bool true)) (.tmp 40))⟩,
         ⟨(some 42), none, (.mv (.tmp 41))⟩,
         ⟨(some 43), (some (42, false)), (.mv (.tmp 0))⟩,
         ⟨(some 44), (some (42, false)), (.lens (.tmp 43))⟩,
         ⟨(some 45), (some (42, false)), (.mv (.tmp 4))⟩,
         ⟨(some 46), (some (42, false)), (.conv .i64 (.tmp 45))⟩,
         ⟨(some 47), (some (42, false)), (.bin .mul (.const (.int .i64 4)) (.tmp 46))⟩,
         ⟨(some 48), (some (42, false)), (.bin .add (.const (.int .i64 12)) (.tmp 47))⟩,
         ⟨(some 49), (some (42, false)), (.bin .neq (.tmp 44) (.tmp 48))⟩,
         ⟨(some 50), none, (.pick (.tmp 42) (.const (.bool true)) (.tmp 49))⟩])
       (.cond (.tmp 50)
        (.seq
         (.ops [
           ⟨(some 51), none, (.bld [(.slice none 0 0), (.int .i64 0)] [])⟩,
           ⟨none, none, (.sto true 2 (.tmp 2) (.tmp 51))⟩,
           ⟨(some 3), none, (.mv (.const (.int .i64 7)))⟩])
         .ret)
        .skip))
      (.seq
       (.ops [
         ⟨(some 52), none, (.mv (.tmp 5))⟩,
         ⟨(some 53), none, (.conv .i64 (.tmp 52))⟩,
         ⟨(some 54), none, (.bld [(.slice none 0 0), (.int .i64 0)] [(1, (1, (.tmp 53)))])⟩,
         ⟨(some 6), none, (.alc 24 [(.slice none 0 0), (.int .i64 0)])⟩,
         ⟨none, none, (.sto true 2 (.tmp 6) (.tmp 54))⟩])
       (.seq
        (.seq
         (.ops [
           ⟨(some 7), none, (.mv (.const (.int .i64 0)))⟩])
         (.block 0
          (.loop
           (.seq
            (.seq
             (.ops [
               ⟨(some 55), none, (.mv (.tmp 7))⟩,
               ⟨(some 56), none, (.mv (.tmp 4))⟩,
               ⟨(some 57), none, (.conv .i64 (.tmp 56))⟩,
               ⟨(some 58), none, (.bin .lss (.tmp 55) (.tmp 57))⟩])
             (.cond (.tmp 58)
              .skip
              (.exit 0)))
            (.seq
             (.block 1
              (.par false (.one ⟨(some 61), none, (.fad 0 false 1 (.tmp 6))⟩ (.one ⟨(some 62), none, (.ld false 1 (.tmp 61))⟩ (.one ⟨(some 63), none, (.mv (.tmp 0))⟩ (.one ⟨(some 64), none, (.mv (.tmp 7))⟩ (.one ⟨(some 65), none, (.bin .mul (.const (.int .i64 4)) (.tmp 64))⟩ (.one ⟨(some 66), none, (.bin .add (.const (.int .i64 12)) (.tmp 65))⟩ (.one ⟨(some 67), none, (.call (.func 37) [(.tmp 63), (.tmp 66)])⟩ (.one ⟨(some 68), none, (.bsl 34 1 1 [(.int .u32 0)] [(0, (1, (.tmp 67)))])⟩ (.one ⟨(some 69), none, (.app 34 1 4 (.tmp 62) (.tmp 68))⟩ (.one ⟨(some 70), none, (.fad 0 false 1 (.tmp 6))⟩ (.one ⟨none, none, (.sto false 1 (.tmp 70) (.tmp 69))⟩ .done)))))))))))))
             (.ops [
               ⟨(some 59), none, (.mv (.tmp 7))⟩,
               ⟨(some 60), none, (.bin .add (.tmp 59) (.const (.int .i64 1)))⟩,
               ⟨(some 7), none, (.mv (.tmp 60))⟩]))))))
        (.seq
         (.ops [
           ⟨(some 71), none, (.ld true 2 (.tmp 6))⟩,
           ⟨none, none, (.sto true 2 (.tmp 2) (.tmp 71))⟩,
           ⟨(some 3), none, (.mv (.const (.int .i64 0)))⟩])
         .ret))))))))
theorem f_scref08_Read : compF Try.prog 25 = some (72, c_scref08_Read, [(.cell 2 true 2), (.tmp 3)]) := by kernel_rfl

/-- seedcorn/exec.Bytes -/
def c_exec_Bytes : VC :=
 (.seq
  (.ops [
    ⟨(some 6), none, (.alc 28 [(.int .i64 0), (.string ⟨#[]⟩), (.int .i64 0)])⟩,
    ⟨(some 7), none, (.mv (.const (.int .i64 0)))⟩])
  (.seq
   (.ops [
     ⟨(some 11), none, (.mv (.tmp 0))⟩,
     ⟨(some 12), none, (.call (.func 38) [(.tmp 11)])⟩,
     ⟨(some 10), none, (.mv (.tmp 12))⟩,
     ⟨(some 13), none, (.ext (.tmp 10) 0)⟩,
     ⟨(some 14), none, (.ext (.tmp 10) 1)⟩,
     ⟨(some 8), none, (.alc 24 [(.slice none 0 0), (.int .i64 0)])⟩,
     ⟨none, none, (.sto true 2 (.tmp 8) (.tmp 13))⟩,
     ⟨(some 9), none, (.mv (.tmp 14))⟩])
   (.seq
    (.seq
     (.ops [
       ⟨(some 15), none, (.mv (.tmp 9))⟩,
       ⟨(some 16), none, (.bin .neq (.tmp 15) (.const (.int .i64 0)))⟩])
     (.cond (.tmp 16)
      (.seq
       (.ops [
         ⟨(some 17), none, (.bld [(.int .i64 0), (.string ⟨#[]⟩), (.int .i64 0)] [])⟩,
         ⟨none, none, (.sto true 3 (.tmp 6) (.tmp 17))⟩,
         ⟨(some 7), none, (.mv (.const (.int .i64 7)))⟩])
       .ret)
      .skip))
    (.seq
     (.ops [
       ⟨(some 18), none, (.ld true 2 (.tmp 8))⟩,
       ⟨(some 19), none, (.mv (.tmp 1))⟩,
       ⟨(some 20), none, (.mv (.tmp 2))⟩,
       ⟨(some 21), none, (.call (.func 12) [(.tmp 18), (.tmp 19), (.tmp 20)])⟩,
       ⟨none, none, (.sto true 3 (.tmp 6) (.tmp 21))⟩,
       ⟨(some 7), none, (.mv (.const (.int .i64 0)))⟩])
     .ret))))
theorem f_exec_Bytes : compF Try.prog 26 = some (22, c_exec_Bytes, [(.cell 6 true 3), (.tmp 7)]) := by kernel_rfl

/-- seedcorn/seedcornref07.Encode -/
def c_scref07_Encode : VC :=
 (.seq
  (.ops [
    ⟨(some 1), none, (.box 47 (.tmp 0))⟩,
    ⟨(some 2), none, (.mv (.const (.int .u32 0)))⟩,
    ⟨(some 3), none, (.mv (.const (.int .i64 0)))⟩])
  (.seq
   (.seq
    (.ops [
      ⟨(some 4), none, (.ld true 4 (.tmp 1))⟩,
      ⟨(some 5), none, (.call (.func 35) [(.tmp 4)])⟩,
      ⟨(some 6), none, (.un .not (.tmp 5))⟩])
    (.cond (.tmp 6)
     (.seq
      (.ops [
        ⟨(some 2), none, (.mv (.const (.int .u32 0)))⟩,
        ⟨(some 3), none, (.mv (.const (.int .i64 1)))⟩])
      .ret)
     .skip))
   (.seq
    (.ops [
      ⟨(some 7), none, (.fad 0 false 1 (.tmp 1))⟩,
      ⟨(some 8), none, (.ld false 1 (.tmp 7))⟩,
      ⟨(some 9), none, (.bin .mul (.tmp 8) (.const (.int .i64 16777216)))⟩,
      ⟨(some 10), none, (.fad 1 false 1 (.tmp 1))⟩,
      ⟨(some 11), none, (.ld false 1 (.tmp 10))⟩,
      ⟨(some 12), none, (.bin .mul (.tmp 11) (.const (.int .i64 1048576)))⟩,
      ⟨(some 13), none, (.bin .add (.tmp 9) (.tmp 12))⟩,
      ⟨(some 14), none, (.fad 2 false 1 (.tmp 1))⟩,
      ⟨(some 15), none, (.ld false 1 (.tmp 14))⟩,
      ⟨(some 16), none, (.bin .mul (.tmp 15) (.const (.int .i64 65536)))⟩,
      ⟨(some 17), none, (.bin .add (.tmp 13) (.tmp 16))⟩,
      ⟨(some 18), none, (.fad 3 false 1 (.tmp 1))⟩,
      ⟨(some 19), none, (.ld false 1 (.tmp 18))⟩,
      ⟨(some 20), none, (.bin .add (.tmp 17) (.tmp 19))⟩,
      ⟨(some 21), none, (.conv .u32 (.tmp 20))⟩,
      ⟨(some 2), none, (.mv (.tmp 21))⟩,
      ⟨(some 3), none, (.mv (.const (.int .i64 0)))⟩])
    .ret)))
theorem f_scref07_Encode : compF Try.prog 27 = some (22, c_scref07_Encode, [(.tmp 2), (.tmp 3)]) := by kernel_rfl

/-- seedcorn/machine.Start -/
def c_machine_Start : VC :=
 (.seq
  (.ops [
    ⟨(some 1), none, (.box 24 (.tmp 0))⟩,
    ⟨(some 2), none, (.alc 37 [(.int .i64 0), (.int .u32 0), (.int .u32 0), (.int .u32 0), (.int .u32 0), (.int .u32 0), (.int .u32 0), (.int .u32 0), (.int .u32 0), (.int .u32 0), (.int .u32 0), (.int .u32 0), (.int .u32 0), (.int .u32 0), (.int .u32 0), (.int .u32 0), (.int .u32 0), (.slice none 0 0), (.int .i64 0), (.string ⟨#[]⟩), (.int .i64 0), (.int .i64 0)])⟩])
  (.seq
   (.ops [
     ⟨(some 3), none, (.alc 37 [(.int .i64 0), (.int .u32 0), (.int .u32 0), (.int .u32 0), (.int .u32 0), (.int .u32 0), (.int .u32 0), (.int .u32 0), (.int .u32 0), (.int .u32 0), (.int .u32 0), (.int .u32 0), (.int .u32 0), (.int .u32 0), (.int .u32 0), (.int .u32 0), (.int .u32 0), (.slice none 0 0), (.int .i64 0), (.string ⟨#[]⟩), (.int .i64 0), (.int .i64 0)])⟩])
   (.seq
    (.seq
     (.ops [
       ⟨(some 4), none, (.fad 1 false 1 (.tmp 1))⟩,
       ⟨(some 5), none, (.ld false 1 (.tmp 4))⟩,
       ⟨(some 6), none, (.bin .gtr (.tmp 5) (.const (.int .i64 0)))⟩,
       ⟨(some 7), none, (.mv (.tmp 6))⟩,
       ⟨(some 8), (some (7, true)), (.fad 1 false 1 (.tmp 1))⟩,
       ⟨(some 9), (some (7, true)), (.ld false 1 (.tmp 8))⟩,
       ⟨(some 10), (some (7, true)), (.bin .leq (.tmp 9) (.const (.int .i64 32768)))⟩,
       ⟨(some 11), none, (.pick (.tmp 7) (.tmp 10) (.const (.bool false)))⟩])
     (.cond (.tmp 11)
      (.ops [
        ⟨(some 12), none, (.fad 1 false 1 (.tmp 1))⟩,
        ⟨(some 13), none, (.ld false 1 (.tmp 12))⟩,
        ⟨(some 14), none, (.mk 34 1 4 [(.int .u32 0)] (.tmp 13) (.tmp 13))⟩,
        ⟨(some 15), none, (.fad 17 false 1 (.tmp 3))⟩,
        ⟨none, none, (.sto false 1 (.tmp 15) (.tmp 14))⟩])
      .skip))
    (.seq
     (.ops [
       ⟨(some 16), none, (.ld true 22 (.tmp 3))⟩,
       ⟨none, none, (.sto true 22 (.tmp 2) (.tmp 16))⟩])
     .ret))))
theorem f_machine_Start : compF Try.prog 28 = some (17, c_machine_Start, [(.cell 2 true 22)]) := by kernel_rfl

/-- seedcorn/exec.steps -/
def c_exec_steps : VC :=
 (.seq
  (.ops [
    ⟨(some 2), none, (.box 64 (.tmp 0))⟩,
    ⟨(some 3), none, (.box 3 (.tmp 1))⟩,
    ⟨(some 4), none, (.mv (.const .nilFunc))⟩])
  (.seq
   (.ops [
     ⟨(some 5), none, (.mkf 39 [(.tmp 3), (.tmp 2)])⟩,
     ⟨(some 4), none, (.mv (.tmp 5))⟩])
   .ret))
theorem f_exec_steps : compF Try.prog 29 = some (6, c_exec_steps, [(.tmp 4)]) := by kernel_rfl

/-- seedcorn/machine.New -/
def c_machine_New : VC :=
 (.seq
  (.ops [
    ⟨(some 3), none, (.box 24 (.tmp 0))⟩,
    ⟨(some 5), none, (.box 37 (.tmp 2))⟩,
    ⟨(some 6), none, (.mv (.const (.pointer none)))⟩])
  (.seq
   (.ops [
     ⟨(some 7), none, (.fad 0 false 1 (.tmp 3))⟩,
     ⟨(some 8), none, (.ld false 1 (.tmp 7))⟩,
     ⟨(some 9), none, (.mv (.tmp 1))⟩,
     ⟨(some 10), none, (.ld true 22 (.tmp 5))⟩,
     ⟨(some 11), none, (.bld [(.slice none 0 0), (.string ⟨#[]⟩), (.int .i64 0), (.int .u32 0), (.int .u32 0), (.int .u32 0), (.int .u32 0), (.int .u32 0), (.int .u32 0), (.int .u32 0), (.int .u32 0), (.int .u32 0), (.int .u32 0), (.int .u32 0), (.int .u32 0), (.int .u32 0), (.int .u32 0), (.int .u32 0), (.int .u32 0), (.slice none 0 0), (.int .i64 0), (.string ⟨#[]⟩), (.int .i64 0), (.int .i64 0), (.bool false), (.slice none 0 0)] [(0, (1, (.tmp 8))), (1, (1, (.tmp 9))), (2, (22, (.tmp 10)))])⟩,
     ⟨(some 12), none, (.box 76 (.tmp 11))⟩,
     ⟨(some 6), none, (.mv (.tmp 12))⟩])
   .ret))
theorem f_machine_New : compF Try.prog 30 = some (13, c_machine_New, [(.tmp 6)]) := by kernel_rfl

/-- seedcorn/seedcornref09.Start -/
def c_scref09_Start : VC :=
 (.seq
  (.ops [
    ⟨(some 1), none, (.box 24 (.tmp 0))⟩,
    ⟨(some 2), none, (.alc 37 [(.int .i64 0), (.int .u32 0), (.int .u32 0), (.int .u32 0), (.int .u32 0), (.int .u32 0), (.int .u32 0), (.int .u32 0), (.int .u32 0), (.int .u32 0), (.int .u32 0), (.int .u32 0), (.int .u32 0), (.int .u32 0), (.int .u32 0), (.int .u32 0), (.int .u32 0), (.slice none 0 0), (.int .i64 0), (.string ⟨#[]⟩), (.int .i64 0), (.int .i64 0)])⟩])
  (.seq
   (.ops [
     ⟨(some 3), none, (.alc 37 [(.int .i64 0), (.int .u32 0), (.int .u32 0), (.int .u32 0), (.int .u32 0), (.int .u32 0), (.int .u32 0), (.int .u32 0), (.int .u32 0), (.int .u32 0), (.int .u32 0), (.int .u32 0), (.int .u32 0), (.int .u32 0), (.int .u32 0), (.int .u32 0), (.int .u32 0), (.slice none 0 0), (.int .i64 0), (.string ⟨#[]⟩), (.int .i64 0), (.int .i64 0)])⟩])
   (.seq
    (.seq
     (.ops [
       ⟨(some 4), none, (.fad 1 false 1 (.tmp 1))⟩,
       ⟨(some 5), none, (.ld false 1 (.tmp 4))⟩,
       ⟨(some 6), none, (.bin .gtr (.tmp 5) (.const (.int .i64 0)))⟩,
       ⟨(some 7), none, (.mv (.tmp 6))⟩,
       ⟨(some 8), (some (7, true)), (.fad 1 false 1 (.tmp 1))⟩,
       ⟨(some 9), (some (7, true)), (.ld false 1 (.tmp 8))⟩,
       ⟨(some 10), (some (7, true)), (.bin .leq (.tmp 9) (.const (.int .i64 32768)))⟩,
       ⟨(some 11), none, (.pick (.tmp 7) (.tmp 10) (.const (.bool false)))⟩])
     (.cond (.tmp 11)
      (.ops [
        ⟨(some 12), none, (.fad 1 false 1 (.tmp 1))⟩,
        ⟨(some 13), none, (.ld false 1 (.tmp 12))⟩,
        ⟨(some 14), none, (.mk 34 1 4 [(.int .u32 0)] (.tmp 13) (.tmp 13))⟩,
        ⟨(some 15), none, (.fad 17 false 1 (.tmp 3))⟩,
        ⟨none, none, (.sto false 1 (.tmp 15) (.tmp 14))⟩])
      .skip))
    (.seq
     (.ops [
       ⟨(some 16), none, (.ld true 22 (.tmp 3))⟩,
       ⟨none, none, (.sto true 22 (.tmp 2) (.tmp 16))⟩])
     .ret))))
theorem f_scref09_Start : compF Try.prog 31 = some (17, c_scref09_Start, [(.cell 2 true 22)]) := by kernel_rfl

/-- seedcorn/seedcornref10.run -/
def c_scref10_run : VC :=
 (.seq
  (.ops [
    ⟨(some 4), none, (.box 24 (.tmp 0))⟩,
    ⟨(some 6), none, (.box 37 (.tmp 2))⟩,
    ⟨(some 8), none, (.alc 37 [(.int .i64 0), (.int .u32 0), (.int .u32 0), (.int .u32 0), (.int .u32 0), (.int .u32 0), (.int .u32 0), (.int .u32 0), (.int .u32 0), (.int .u32 0), (.int .u32 0), (.int .u32 0), (.int .u32 0), (.int .u32 0), (.int .u32 0), (.int .u32 0), (.int .u32 0), (.slice none 0 0), (.int .i64 0), (.string ⟨#[]⟩), (.int .i64 0), (.int .i64 0)])⟩,
    ⟨(some 9), none, (.mv (.const (.slice none 0 0)))⟩])
  (.seq
   (.ops [
     ⟨(some 16), none, (.ld true 2 (.tmp 4))⟩,
     ⟨(some 17), none, (.call (.func 42) [(.tmp 16)])⟩,
     ⟨(some 15), none, (.mv (.tmp 17))⟩,
     ⟨(some 18), none, (.ext (.tmp 15) 0)⟩,
     ⟨(some 19), none, (.ext (.tmp 15) 1)⟩,
     ⟨(some 10), none, (.mv (.tmp 18))⟩,
     ⟨(some 11), none, (.mv (.tmp 19))⟩])
   (.seq
    (.par true (.one ⟨(some 20), none, (.fad 0 false 1 (.tmp 6))⟩ (.one ⟨(some 21), none, (.ld false 1 (.tmp 20))⟩ (.one ⟨(some 22), none, (.fad 1 true 16 (.tmp 6))⟩ (.one ⟨(some 23), none, (.ld true 16 (.tmp 22))⟩ (.one ⟨(some 25), none, (.fad 17 false 1 (.tmp 6))⟩ (.one ⟨(some 26), none, (.ld false 1 (.tmp 25))⟩ (.one ⟨(some 28), none, (.fad 18 false 1 (.tmp 6))⟩ (.one ⟨(some 29), none, (.ld false 1 (.tmp 28))⟩ (.one ⟨(some 30), none, (.fad 20 false 1 (.tmp 6))⟩ (.one ⟨(some 31), none, (.ld false 1 (.tmp 30))⟩ (.one ⟨(some 32), none, (.fad 21 false 1 (.tmp 6))⟩ (.one ⟨(some 33), none, (.ld false 1 (.tmp 32))⟩ (.both (.one ⟨(some 24), none, (.bsl 34 1 0 [] [])⟩ (.both (.one ⟨(some 27), none, (.app 34 1 4 (.tmp 24) (.tmp 26))⟩ (.one ⟨(some 34), none, (.bld [(.int .i64 0), (.int .u32 0), (.int .u32 0), (.int .u32 0), (.int .u32 0), (.int .u32 0), (.int .u32 0), (.int .u32 0), (.int .u32 0), (.int .u32 0), (.int .u32 0), (.int .u32 0), (.int .u32 0), (.int .u32 0), (.int .u32 0), (.int .u32 0), (.int .u32 0), (.slice none 0 0), (.int .i64 0), (.string ⟨#[]⟩), (.int .i64 0), (.int .i64 0)] [(0, (1, (.tmp 21))), (1, (16, (.tmp 23))), (17, (1, (.tmp 27))), (18, (1, (.tmp 29))), (20, (1, (.tmp 31))), (21, (1, (.tmp 33)))])⟩ (.one ⟨(some 12), none, (.alc 37 [(.int .i64 0), (.int .u32 0), (.int .u32 0), (.int .u32 0), (.int .u32 0), (.int .u32 0), (.int .u32 0), (.int .u32 0), (.int .u32 0), (.int .u32 0), (.int .u32 0), (.int .u32 0), (.int .u32 0), (.int .u32 0), (.int .u32 0), (.int .u32 0), (.int .u32 0), (.slice none 0 0), (.int .i64 0), (.string ⟨#[]⟩), (.int .i64 0), (.int .i64 0)])⟩ (.one ⟨none, none, (.sto true 22 (.tmp 12) (.tmp 34))⟩ .done)))) (.one ⟨(some 12), none, (.alc 37 [(.int .i64 0), (.int .u32 0), (.int .u32 0), (.int .u32 0), (.int .u32 0), (.int .u32 0), (.int .u32 0), (.int .u32 0), (.int .u32 0), (.int .u32 0), (.int .u32 0), (.int .u32 0), (.int .u32 0), (.int .u32 0), (.int .u32 0), (.int .u32 0), (.int .u32 0), (.slice none 0 0), (.int .i64 0), (.string ⟨#[]⟩), (.int .i64 0), (.int .i64 0)])⟩ (.one ⟨(some 27), none, (.app 34 1 4 (.tmp 24) (.tmp 26))⟩ (.one ⟨(some 34), none, (.bld [(.int .i64 0), (.int .u32 0), (.int .u32 0), (.int .u32 0), (.int .u32 0), (.int .u32 0), (.int .u32 0), (.int .u32 0), (.int .u32 0), (.int .u32 0), (.int .u32 0), (.int .u32 0), (.int .u32 0), (.int .u32 0), (.int .u32 0), (.int .u32 0), (.int .u32 0), (.slice none 0 0), (.int .i64 0), (.string ⟨#[]⟩), (.int .i64 0), (.int .i64 0)] [(0, (1, (.tmp 21))), (1, (16, (.tmp 23))), (17, (1, (.tmp 27))), (18, (1, (.tmp 29))), (20, (1, (.tmp 31))), (21, (1, (.tmp 33)))])⟩ (.one ⟨none, none, (.sto true 22 (.tmp 12) (.tmp 34))⟩ .done)))))) (.one ⟨(some 12), none, (.alc 37 [(.int .i64 0), (.int .u32 0), (.int .u32 0), (.int .u32 0), (.int .u32 0), (.int .u32 0), (.int .u32 0), (.int .u32 0), (.int .u32 0), (.int .u32 0), (.int .u32 0), (.int .u32 0), (.int .u32 0), (.int .u32 0), (.int .u32 0), (.int .u32 0), (.int .u32 0), (.slice none 0 0), (.int .i64 0), (.string ⟨#[]⟩), (.int .i64 0), (.int .i64 0)])⟩ (.one ⟨(some 24), none, (.bsl 34 1 0 [] [])⟩ (.one ⟨(some 27), none, (.app 34 1 4 (.tmp 24) (.tmp 26))⟩ (.one ⟨(some 34), none, (.bld [(.int .i64 0), (.int .u32 0), (.int .u32 0), (.int .u32 0), (.int .u32 0), (.int .u32 0), (.int .u32 0), (.int .u32 0), (.int .u32 0), (.int .u32 0), (.int .u32 0), (.int .u32 0), (.int .u32 0), (.int .u32 0), (.int .u32 0), (.int .u32 0), (.int .u32 0), (.slice none 0 0), (.int .i64 0), (.string ⟨#[]⟩), (.int .i64 0), (.int .i64 0)] [(0, (1, (.tmp 21))), (1, (16, (.tmp 23))), (17, (1, (.tmp 27))), (18, (1, (.tmp 29))), (20, (1, (.tmp 31))), (21, (1, (.tmp 33)))])⟩ (.one ⟨none, none, (.sto true 22 (.tmp 12) (.tmp 34))⟩ .done)))))))))))))))))))
    (.seq
     (.par false (.one ⟨(some 35), none, (.ld true 22 (.tmp 12))⟩ (.one ⟨(some 36), none, (.fad 19 false 1 (.tmp 6))⟩ (.one ⟨(some 37), none, (.ld false 1 (.tmp 36))⟩ (.one ⟨(some 39), none, (.mv (.tmp 10))⟩ (.one ⟨(some 40), none, (.mv (.tmp 11))⟩ (.one ⟨(some 41), none, (.fad 0 false 1 (.tmp 4))⟩ (.one ⟨(some 42), none, (.ld false 1 (.tmp 41))⟩ (.one ⟨(some 43), none, (.mv (.tmp 1))⟩ (.one ⟨(some 44), none, (.fad 0 false 1 (.tmp 4))⟩ (.one ⟨(some 45), none, (.ld false 1 (.tmp 44))⟩ (.one ⟨(some 46), none, (.len (.tmp 45))⟩ (.both (.one ⟨(some 38), none, (.eff (.s2b 5) [(.tmp 37)])⟩ (.both (.one ⟨(some 47), none, (.mk 3 1 8 [(.int .i64 0)] (.tmp 46) (.tmp 46))⟩ (.one ⟨(some 48), none, (.bld [(.int .i64 0), (.int .u32 0), (.int .u32 0), (.int .u32 0), (.int .u32 0), (.int .u32 0), (.int .u32 0), (.int .u32 0), (.int .u32 0), (.int .u32 0), (.int .u32 0), (.int .u32 0), (.int .u32 0), (.int .u32 0), (.int .u32 0), (.int .u32 0), (.int .u32 0), (.slice none 0 0), (.int .i64 0), (.string ⟨#[]⟩), (.int .i64 0), (.int .i64 0), (.slice none 0 0), (.slice none 0 0), (.slice none 0 0), (.slice none 0 0), (.string ⟨#[]⟩), (.slice none 0 0)] [(0, (22, (.tmp 35))), (22, (1, (.tmp 38))), (23, (1, (.tmp 39))), (24, (1, (.tmp 40))), (25, (1, (.tmp 42))), (26, (1, (.tmp 43))), (27, (1, (.tmp 47)))])⟩ (.one ⟨(some 13), none, (.alc 82 [(.int .i64 0), (.int .u32 0), (.int .u32 0), (.int .u32 0), (.int .u32 0), (.int .u32 0), (.int .u32 0), (.int .u32 0), (.int .u32 0), (.int .u32 0), (.int .u32 0), (.int .u32 0), (.int .u32 0), (.int .u32 0), (.int .u32 0), (.int .u32 0), (.int .u32 0), (.slice none 0 0), (.int .i64 0), (.string ⟨#[]⟩), (.int .i64 0), (.int .i64 0), (.slice none 0 0), (.slice none 0 0), (.slice none 0 0), (.slice none 0 0), (.string ⟨#[]⟩), (.slice none 0 0)])⟩ (.one ⟨none, none, (.sto true 28 (.tmp 13) (.tmp 48))⟩ .done)))) (.one ⟨(some 13), none, (.alc 82 [(.int .i64 0), (.int .u32 0), (.int .u32 0), (.int .u32 0), (.int .u32 0), (.int .u32 0), (.int .u32 0), (.int .u32 0), (.int .u32 0), (.int .u32 0), (.int .u32 0), (.int .u32 0), (.int .u32 0), (.int .u32 0), (.int .u32 0), (.int .u32 0), (.int .u32 0), (.slice none 0 0), (.int .i64 0), (.string ⟨#[]⟩), (.int .i64 0), (.int .i64 0), (.slice none 0 0), (.slice none 0 0), (.slice none 0 0), (.slice none 0 0), (.string ⟨#[]⟩), (.slice none 0 0)])⟩ (.one ⟨(some 47), none, (.mk 3 1 8 [(.int .i64 0)] (.tmp 46) (.tmp 46))⟩ (.one ⟨(some 48), none, (.bld [(.int .i64 0), (.int .u32 0), (.int .u32 0), (.int .u32 0), (.int .u32 0), (.int .u32 0), (.int .u32 0), (.int .u32 0), (.int .u32 0), (.int .u32 0), (.int .u32 0), (.int .u32 0), (.int .u32 0), (.int .u32 0), (.int .u32 0), (.int .u32 0), (.int .u32 0), (.slice none 0 0), (.int .i64 0), (.string ⟨#[]⟩), (.int .i64 0), (.int .i64 0), (.slice none 0 0), (.slice none 0 0), (.slice none 0 0), (.slice none 0 0), (.string ⟨#[]⟩), (.slice none 0 0)] [(0, (22, (.tmp 35))), (22, (1, (.tmp 38))), (23, (1, (.tmp 39))), (24, (1, (.tmp 40))), (25, (1, (.tmp 42))), (26, (1, (.tmp 43))), (27, (1, (.tmp 47)))])⟩ (.one ⟨none, none, (.sto true 28 (.tmp 13) (.tmp 48))⟩ .done)))))) (.both (.one ⟨(some 47), none, (.mk 3 1 8 [(.int .i64 0)] (.tmp 46) (.tmp 46))⟩ (.both (.one ⟨(some 38), none, (.eff (.s2b 5) [(.tmp 37)])⟩ (.one ⟨(some 48), none, (.bld [(.int .i64 0), (.int .u32 0), (.int .u32 0), (.int .u32 0), (.int .u32 0), (.int .u32 0), (.int .u32 0), (.int .u32 0), (.int .u32 0), (.int .u32 0), (.int .u32 0), (.int .u32 0), (.int .u32 0), (.int .u32 0), (.int .u32 0), (.int .u32 0), (.int .u32 0), (.slice none 0 0), (.int .i64 0), (.string ⟨#[]⟩), (.int .i64 0), (.int .i64 0), (.slice none 0 0), (.slice none 0 0), (.slice none 0 0), (.slice none 0 0), (.string ⟨#[]⟩), (.slice none 0 0)] [(0, (22, (.tmp 35))), (22, (1, (.tmp 38))), (23, (1, (.tmp 39))), (24, (1, (.tmp 40))), (25, (1, (.tmp 42))), (26, (1, (.tmp 43))), (27, (1, (.tmp 47)))])⟩ (.one ⟨(some 13), none, (.alc 82 [(.int .i64 0), (.int .u32 0), (.int .u32 0), (.int .u32 0), (.int .u32 0), (.int .u32 0), (.int .u32 0), (.int .u32 0), (.int .u32 0), (.int .u32 0), (.int .u32 0), (.int .u32 0), (.int .u32 0), (.int .u32 0), (.int .u32 0), (.int .u32 0), (.int .u32 0), (.slice none 0 0), (.int .i64 0), (.string ⟨#[]⟩), (.int .i64 0), (.int .i64 0), (.slice none 0 0), (.slice none 0 0), (.slice none 0 0), (.slice none 0 0), (.string ⟨#[]⟩), (.slice none 0 0)])⟩ (.one ⟨none, none, (.sto true 28 (.tmp 13) (.tmp 48))⟩ .done)))) (.one ⟨(some 13), none, (.alc 82 [(.int .i64 0), (.int .u32 0), (.int .u32 0), (.int .u32 0), (.int .u32 0), (.int .u32 0), (.int .u32 0), (.int .u32 0), (.int .u32 0), (.int .u32 0), (.int .u32 0), (.int .u32 0), (.int .u32 0), (.int .u32 0), (.int .u32 0), (.int .u32 0), (.int .u32 0), (.slice none 0 0), (.int .i64 0), (.string ⟨#[]⟩), (.int .i64 0), (.int .i64 0), (.slice none 0 0), (.slice none 0 0), (.slice none 0 0), (.slice none 0 0), (.string ⟨#[]⟩), (.slice none 0 0)])⟩ (.one ⟨(some 38), none, (.eff (.s2b 5) [(.tmp 37)])⟩ (.one ⟨(some 48), none, (.bld [(.int .i64 0), (.int .u32 0), (.int .u32 0), (.int .u32 0), (.int .u32 0), (.int .u32 0), (.int .u32 0), (.int .u32 0), (.int .u32 0), (.int .u32 0), (.int .u32 0), (.int .u32 0), (.int .u32 0), (.int .u32 0), (.int .u32 0), (.int .u32 0), (.int .u32 0), (.slice none 0 0), (.int .i64 0), (.string ⟨#[]⟩), (.int .i64 0), (.int .i64 0), (.slice none 0 0), (.slice none 0 0), (.slice none 0 0), (.slice none 0 0), (.string ⟨#[]⟩), (.slice none 0 0)] [(0, (22, (.tmp 35))), (22, (1, (.tmp 38))), (23, (1, (.tmp 39))), (24, (1, (.tmp 40))), (25, (1, (.tmp 42))), (26, (1, (.tmp 43))), (27, (1, (.tmp 47)))])⟩ (.one ⟨none, none, (.sto true 28 (.tmp 13) (.tmp 48))⟩ .done)))))) (.one ⟨(some 13), none, (.alc 82 [(.int .i64 0), (.int .u32 0), (.int .u32 0), (.int .u32 0), (.int .u32 0), (.int .u32 0), (.int .u32 0), (.int .u32 0), (.int .u32 0), (.int .u32 0), (.int .u32 0), (.int .u32 0), (.int .u32 0), (.int .u32 0), (.int .u32 0), (.int .u32 0), (.int .u32 0), (.slice none 0 0), (.int .i64 0), (.string ⟨#[]⟩), (.int .i64 0), (.int .i64 0), (.slice none 0 0), (.slice none 0 0), (.slice none 0 0), (.slice none 0 0), (.string ⟨#[]⟩), (.slice none 0 0)])⟩ (.both (.one ⟨(some 38), none, (.eff (.s2b 5) [(.tmp 37)])⟩ (.one ⟨(some 47), none, (.mk 3 1 8 [(.int .i64 0)] (.tmp 46) (.tmp 46))⟩ (.one ⟨(some 48), none, (.bld [(.int .i64 0), (.int .u32 0), (.int .u32 0), (.int .u32 0), (.int .u32 0), (.int .u32 0), (.int .u32 0), (.int .u32 0), (.int .u32 0), (.int .u32 0), (.int .u32 0), (.int .u32 0), (.int .u32 0), (.int .u32 0), (.int .u32 0), (.int .u32 0), (.int .u32 0), (.slice none 0 0), (.int .i64 0), (.string ⟨#[]⟩), (.int .i64 0), (.int .i64 0), (.slice none 0 0), (.slice none 0 0), (.slice none 0 0), (.slice none 0 0), (.string ⟨#[]⟩), (.slice none 0 0)] [(0, (22, (.tmp 35))), (22, (1, (.tmp 38))), (23, (1, (.tmp 39))), (24, (1, (.tmp 40))), (25, (1, (.tmp 42))), (26, (1, (.tmp 43))), (27, (1, (.tmp 47)))])⟩ (.one ⟨none, none, (.sto true 28 (.tmp 13) (.tmp 48))⟩ .done)))) (.one ⟨(some 47), none, (.mk 3 1 8 [(.int .i64 0)] (.tmp 46) (.tmp 46))⟩ (.one ⟨(some 38), none, (.eff (.s2b 5) [(.tmp 37)])⟩ (.one ⟨(some 48), none, (.bld [(.int .i64 0), (.int .u32 0), (.int .u32 0), (.int .u32 0), (.int .u32 0), (.int .u32 0), (.int .u32 0), (.int .u32 0), (.int .u32 0), (.int .u32 0), (.int .u32 0), (.int .u32 0), (.int .u32 0), (.int .u32 0), (.int .u32 0), (.int .u32 0), (.int .u32 0), (.slice none 0 0), (.int .i64 0), (.string ⟨#[]⟩), (.int .i64 0), (.int .i64 0), (.slice none 0 0), (.slice none 0 0), (.slice none 0 0), (.slice none 0 0), (.string ⟨#[]⟩), (.slice none 0 0)] [(0, (22, (.tmp 35))), (22, (1, (.tmp 38))), (23, (1, (.tmp 39))), (24, (1, (.tmp 40))), (25, (1, (.tmp 42))), (26, (1, (.tmp 43))), (27, (1, (.tmp 47)))])⟩ (.one ⟨none, none, (.sto true 28 (.tmp 13) (.tmp 48))⟩ .done))))))))))))))))))))
     (.seq
      (.seq
       (.ops [
         ⟨(some 14), none, (.mv (.const (.int .i64 0)))⟩])
       (.block 0
        (.loop
         (.seq
          (.seq
           (.ops [
             ⟨(some 49), none, (.mv (.tmp 14))⟩,
             ⟨(some 50), none, (.mv (.tmp 3))⟩,
             ⟨(some 51), none, (.bin .lss (.tmp 49) (.tmp 50))⟩,
             ⟨(some 52), none, (.mv (.tmp 51))⟩,
             ⟨(some 53), (some (52, true)), (.fad 0 true 22 (.tmp 13))⟩,
             ⟨(some 54), (some (52, true)), (.fad 21 false 1 (.tmp 53))⟩,
             ⟨(some 55), (some (52, true)), (.ld false 1 (.tmp 54))⟩,
             ⟨(some 56), (some (52, true)), (.bin .eql (.tmp 55) (.const (.int .i64 0)))⟩,
             ⟨(some 57), none, (.pick (.tmp 52) (.tmp 56) (.const (.bool false)))⟩])
           (.cond (.tmp 57)
            .skip
            (.exit 0)))
          (.seq
           (.block 1
            (.ops [
              ⟨(some 60), none, (.call (.func 43) [(.tmp 13)])⟩]))
           (.ops [
             ⟨(some 58), none, (.mv (.tmp 14))⟩,
             ⟨(some 59), none, (.bin .add (.tmp 58) (.const (.int .i64 1)))⟩,
             ⟨(some 14), none, (.mv (.tmp 59))⟩]))))))
      (.seq
       (.ops [
         ⟨(some 61), none, (.fad 22 false 1 (.tmp 13))⟩,
         ⟨(some 62), none, (.ld false 1 (.tmp 61))⟩,
         ⟨(some 63), none, (.see .b2s [(.tmp 62)])⟩,
         ⟨(some 64), none, (.fad 0 true 22 (.tmp 13))⟩,
         ⟨(some 65), none, (.fad 19 false 1 (.tmp 64))⟩,
         ⟨none, none, (.sto false 1 (.tmp 65) (.tmp 63))⟩])
       (.seq
        (.par false (.one ⟨(some 66), none, (.fad 0 true 22 (.tmp 13))⟩ (.one ⟨(some 67), none, (.ld true 22 (.tmp 66))⟩ (.one ⟨(some 68), none, (.fad 27 false 1 (.tmp 13))⟩ (.both (.one ⟨(some 69), none, (.ld false 1 (.tmp 68))⟩ (.one ⟨none, none, (.sto true 22 (.tmp 8) (.tmp 67))⟩ (.one ⟨(some 9), none, (.mv (.tmp 69))⟩ .done))) (.one ⟨none, none, (.sto true 22 (.tmp 8) (.tmp 67))⟩ (.one ⟨(some 69), none, (.ld false 1 (.tmp 68))⟩ (.one ⟨(some 9), none, (.mv (.tmp 69))⟩ .done))))))))
        .ret)))))))
theorem f_scref10_run : compF Try.prog 32 = some (70, c_scref10_run, [(.cell 8 true 22), (.tmp 9)]) := by kernel_rfl

/-- (*seedcorn/machine.Runner).State -/
def c_machine_Runner_State : VC :=
 (.seq
  (.ops [
    ⟨(some 2), none, (.alc 37 [(.int .i64 0), (.int .u32 0), (.int .u32 0), (.int .u32 0), (.int .u32 0), (.int .u32 0), (.int .u32 0), (.int .u32 0), (.int .u32 0), (.int .u32 0), (.int .u32 0), (.int .u32 0), (.int .u32 0), (.int .u32 0), (.int .u32 0), (.int .u32 0), (.int .u32 0), (.slice none 0 0), (.int .i64 0), (.string ⟨#[]⟩), (.int .i64 0), (.int .i64 0)])⟩])
  (.seq
   (.seq
    (.ops [
      ⟨(some 3), none, (.mv (.tmp 0))⟩,
      ⟨(some 4), none, (.nck (.tmp 3))⟩,
      ⟨(some 5), none, (.fad 25 false 1 (.tmp 4))⟩,
      ⟨(some 6), none, (.ld false 1 (.tmp 5))⟩,
      ⟨(some 7), none, (.len (.tmp 6))⟩,
      ⟨(some 8), none, (.bin .gtr (.tmp 7) (.const (.int .i64 0)))⟩])
    (.cond (.tmp 8)
     (.seq
      (.ops [
        ⟨(some 9), none, (.mv (.tmp 0))⟩,
        ⟨(some 10), none, (.nck (.tmp 9))⟩,
        ⟨(some 11), none, (.fad 2 true 22 (.tmp 10))⟩,
        ⟨(some 12), none, (.fad 19 false 1 (.tmp 11))⟩,
        ⟨(some 13), none, (.ld false 1 (.tmp 12))⟩,
        ⟨(some 14), none, (.mv (.tmp 0))⟩,
        ⟨(some 15), none, (.nck (.tmp 14))⟩,
        ⟨(some 16), none, (.fad 25 false 1 (.tmp 15))⟩,
        ⟨(some 17), none, (.ld false 1 (.tmp 16))⟩,
        ⟨(some 18), none, (.see .b2s [(.tmp 17)])⟩,
        ⟨(some 19), none, (.bin .add (.tmp 13) (.tmp 18))⟩,
        ⟨(some 20), none, (.nck (.tmp 9))⟩,
        ⟨(some 21), none, (.fad 2 true 22 (.tmp 20))⟩,
        ⟨(some 22), none, (.fad 19 false 1 (.tmp 21))⟩,
        ⟨none, none, (.sto false 1 (.tmp 22) (.tmp 19))⟩])
      (.ops [
        ⟨(some 23), none, (.mv (.tmp 0))⟩,
        ⟨(some 24), none, (.nck (.tmp 23))⟩,
        ⟨(some 25), none, (.fad 25 false 1 (.tmp 24))⟩,
        ⟨none, none, (.sto false 1 (.tmp 25) (.const (.slice none 0 0)))⟩]))
     .skip))
   (.seq
    (.ops [
      ⟨(some 26), none, (.mv (.tmp 0))⟩,
      ⟨(some 27), none, (.nck (.tmp 26))⟩,
      ⟨(some 28), none, (.fad 24 false 1 (.tmp 27))⟩,
      ⟨none, none, (.sto false 1 (.tmp 28) (.const (.bool false)))⟩])
    (.seq
     (.ops [
       ⟨(some 29), none, (.mv (.tmp 0))⟩,
       ⟨(some 30), none, (.nck (.tmp 29))⟩,
       ⟨(some 31), none, (.fad 2 true 22 (.tmp 30))⟩,
       ⟨(some 32), none, (.ld true 22 (.tmp 31))⟩,
       ⟨none, none, (.sto true 22 (.tmp 2) (.tmp 32))⟩])
     .ret))))
theorem f_machine_Runner_State : compF Try.prog 33 = some (33, c_machine_Runner_State, [(.cell 2 true 22)]) := by kernel_rfl

/-- seedcorn/seedcornref09.Words -/
def c_scref09_Words : VC :=
 (.seq
  (.ops [
    ⟨(some 4), none, (.mv (.const (.bool false)))⟩])
  (.seq
   (.seq
    (.ops [
      ⟨(some 6), none, (.mv (.tmp 0))⟩,
      ⟨(some 7), none, (.len (.tmp 6))⟩,
      ⟨(some 8), none, (.mv (.tmp 1))⟩,
      ⟨(some 9), none, (.len (.tmp 8))⟩,
      ⟨(some 10), none, (.bin .neq (.tmp 7) (.tmp 9))⟩])
    (.cond (.tmp 10)
     (.seq
      (.ops [
        ⟨(some 4), none, (.mv (.const (.bool false)))⟩])
      .ret)
     .skip))
   (.seq
    (.seq
     (.ops [
       ⟨(some 5), none, (.mv (.const (.int .i64 0)))⟩])
     (.block 0
      (.loop
       (.seq
        (.seq
         (.ops [
           ⟨(some 11), none, (.mv (.tmp 5))⟩,
           ⟨(some 12), none, (.mv (.tmp 0))⟩,
           ⟨(some 13), none, (.len (.tmp 12))⟩,
           ⟨(some 14), none, (.bin .lss (.tmp 11) (.tmp 13))⟩])
         (.cond (.tmp 14)
          .skip
          (.exit 0)))
        (.seq
         (.block 1
          (.seq
           (.ops [
             ⟨(some 17), none, (.mv (.tmp 0))⟩,
             ⟨(some 18), none, (.mv (.tmp 5))⟩,
             ⟨(some 19), none, (.idx 1 (.tmp 17) (.tmp 18))⟩,
             ⟨(some 20), none, (.ld false 1 (.tmp 19))⟩,
             ⟨(some 21), none, (.mv (.tmp 1))⟩,
             ⟨(some 22), none, (.mv (.tmp 5))⟩,
             ⟨(some 23), none, (.idx 1 (.tmp 21) (.tmp 22))⟩,
             ⟨(some 24), none, (.ld false 1 (.tmp 23))⟩,
             ⟨(some 25), none, (.bin .neq (.tmp 20) (.tmp 24))⟩])
           (.cond (.tmp 25)
            (.seq
             (.ops [
               ⟨(some 4), none, (.mv (.const (.bool false)))⟩])
             .ret)
            .skip)))
         (.ops [
           ⟨(some 15), none, (.mv (.tmp 5))⟩,
           ⟨(some 16), none, (.bin .add (.tmp 15) (.const (.int .i64 1)))⟩,
           ⟨(some 5), none, (.mv (.tmp 16))⟩]))))))
    (.seq
     (.ops [
       ⟨(some 4), none, (.mv (.const (.bool true)))⟩])
     .ret))))
theorem f_scref09_Words : compF Try.prog 34 = some (26, c_scref09_Words, [(.tmp 4)]) := by kernel_rfl

/-- seedcorn/seedcornref07.Right -/
def c_scref07_Right : VC :=
 (.seq
  (.ops [
    ⟨(some 1), none, (.box 47 (.tmp 0))⟩,
    ⟨(some 2), none, (.mv (.const (.bool false)))⟩])
  (.seq
   (.ops [
     ⟨(some 5), none, (.fad 0 false 1 (.tmp 1))⟩,
     ⟨(some 6), none, (.ld false 1 (.tmp 5))⟩,
     ⟨(some 7), none, (.call (.func 44) [(.tmp 6)])⟩,
     ⟨(some 3), none, (.mv (.tmp 7))⟩])
   (.seq
    (.ops [
      ⟨(some 4), none, (.mv (.const (.int .i64 65535)))⟩])
    (.seq
     (.seq
      (.ops [
        ⟨(some 8), none, (.mv (.tmp 3))⟩,
        ⟨(some 9), none, (.call (.func 45) [(.tmp 8), (.const (.int .u8 114))])⟩])
      (.cond (.tmp 9)
       (.ops [
         ⟨(some 4), none, (.mv (.const (.int .i64 15)))⟩])
       .skip))
     (.seq
      (.par false (.one ⟨(some 10), none, (.mv (.tmp 3))⟩ (.one ⟨(some 11), none, (.bin .neq (.tmp 10) (.const (.string ⟨#[63]⟩)))⟩ (.one ⟨(some 12), none, (.mv (.tmp 11))⟩ (.one ⟨(some 13), (some (12, true)), (.mv (.tmp 3))⟩ (.one ⟨(some 14), (some (12, true)), (.call (.func 45) [(.tmp 13), (.const (.int .u8 97))])⟩ (.one ⟨(some 15), (some (12, true)), (.fad 1 false 1 (.tmp 1))⟩ (.one ⟨(some 16), (some (12, true)), (.ld false 1 (.tmp 15))⟩ (.one ⟨(some 17), (some (12, true)), (.call (.func 46) [(.tmp 14), (.tmp 16), (.const (.int .i64 15))])⟩ (.one ⟨(some 18), none, (.pick (.tmp 12) (.tmp 17) (.const (.bool false)))⟩ (.one ⟨(some 19), none, (.mv (.tmp 18))⟩ (.one ⟨(some 20), (some (19, true)), (.mv (.tmp 3))⟩ (.one ⟨(some 21), (some (19, true)), (.call (.func 45) [(.tmp 20), (.const (.int .u8 98))])⟩ (.one ⟨(some 22), (some (19, true)), (.fad 2 false 1 (.tmp 1))⟩ (.one ⟨(some 23), (some (19, true)), (.ld false 1 (.tmp 22))⟩ (.one ⟨(some 24), (some (19, true)), (.call (.func 46) [(.tmp 21), (.tmp 23), (.const (.int .i64 15))])⟩ (.one ⟨(some 25), none, (.pick (.tmp 19) (.tmp 24) (.const (.bool false)))⟩ (.one ⟨(some 26), none, (.mv (.tmp 25))⟩ (.one ⟨(some 27), (some (26, true)), (.mv (.tmp 3))⟩ (.one ⟨(some 28), (some (26, true)), (.call (.func 45) [(.tmp 27), (.const (.int .u8 99))])⟩ (.one ⟨(some 29), (some (26, true)), (.mv (.tmp 28))⟩ (.one ⟨(some 30), (some (29, false)), (.mv (.tmp 3))⟩ (.one ⟨(some 31), (some (29, false)), (.call (.func 45) [(.tmp 30), (.const (.int .u8 114))])⟩ (.one ⟨(some 32), (some (26, true)), (.pick (.tmp 29) (.const (.bool true)) (.tmp 31))⟩ (.one ⟨(some 33), (some (26, true)), (.fad 3 false 1 (.tmp 1))⟩ (.one ⟨(some 34), (some (26, true)), (.ld false 1 (.tmp 33))⟩ (.one ⟨(some 35), (some (26, true)), (.mv (.tmp 4))⟩ (.one ⟨(some 36), (some (26, true)), (.call (.func 46) [(.tmp 32), (.tmp 34), (.tmp 35)])⟩ (.one ⟨(some 37), none, (.pick (.tmp 26) (.tmp 36) (.const (.bool false)))⟩ (.one ⟨(some 2), none, (.mv (.tmp 37))⟩ .done))))))))))))))))))))))))))))))
      .ret)))))
theorem f_scref07_Right : compF Try.prog 35 = some (38, c_scref07_Right, [(.tmp 2)]) := by kernel_rfl

/-- (*seedcorn/machine.Runner).Step -/
def c_machine_Runner_Step : VC :=
 (.seq
  (.ops [
    ⟨(some 2), none, (.mv (.const (.bool false)))⟩])
  (.seq
   (.seq
    (.ops [
      ⟨(some 6), none, (.mv (.tmp 0))⟩,
      ⟨(some 7), none, (.nck (.tmp 6))⟩,
      ⟨(some 8), none, (.fad 2 true 22 (.tmp 7))⟩,
      ⟨(some 9), none, (.fad 21 false 1 (.tmp 8))⟩,
      ⟨(some 10), none, (.ld false 1 (.tmp 9))⟩,
      ⟨(some 11), none, (.bin .neq (.tmp 10) (.const (.int .i64 0)))⟩])
    (.cond (.tmp 11)
     (.seq
      (.ops [
        ⟨(some 2), none, (.mv (.const (.bool false)))⟩])
      .ret)
     .skip))
   (.seq
    (.seq
     (.ops [
       ⟨(some 12), none, (.mv (.tmp 0))⟩,
       ⟨(some 13), none, (.nck (.tmp 12))⟩,
       ⟨(some 14), none, (.fad 2 true 22 (.tmp 13))⟩,
       ⟨(some 15), none, (.fad 0 false 1 (.tmp 14))⟩,
       ⟨(some 16), none, (.ld false 1 (.tmp 15))⟩,
       ⟨(some 17), none, (.bin .lss (.tmp 16) (.const (.int .i64 0)))⟩,
       ⟨(some 18), none, (.mv (.tmp 17))⟩,
       ⟨(some 19), (some (18, false)), (.mv (.tmp 0))⟩,
       ⟨(some 20), (some (18, false)), (.nck (.tmp 19))⟩,
       ⟨(some 21), (some (18, false)), (.fad 2 true 22 (.tmp 20))⟩,
       ⟨(some 22), (some (18, false)), (.fad 0 false 1 (.tmp 21))⟩,
       ⟨(some 23), (some (18, false)), (.ld false 1 (.tmp 22))⟩,
       ⟨(some 24), (some (18, false)), (.mv (.tmp 0))⟩,
       ⟨(some 25), (some (18, false)), (.nck (.tmp 24))⟩,
       ⟨(some 26), (some (18, false)), (.fad 0 false 1 (.tmp 25))⟩,
       ⟨(some 27), (some (18, false)), (.ld false 1 (.tmp 26))⟩,
       ⟨(some 28), (some (18, false)), (.len (.tmp 27))⟩,
       ⟨(some 29), (some (18, false)), (.bin .geq (.tmp 23) (.tmp 28))⟩,
       ⟨(some 30), none, (.pick (.tmp 18) (.const (.bool true)) (.tmp 29))⟩])
     (.cond (.tmp 30)
      (.seq
       (.ops [
         ⟨(some 31), none, (.mv (.tmp 0))⟩,
         ⟨(some 32), none, (.nck (.tmp 31))⟩,
         ⟨(some 33), none, (.fad 2 true 22 (.tmp 32))⟩,
         ⟨(some 34), none, (.fad 21 false 1 (.tmp 33))⟩,
         ⟨none, none, (.sto false 1 (.tmp 34) (.const (.int .i64 7)))⟩])
       (.seq
        (.ops [
          ⟨(some 2), none, (.mv (.const (.bool false)))⟩])
        .ret))
      .skip))
    (.seq
     (.ops [
       ⟨(some 35), none, (.mv (.tmp 0))⟩,
       ⟨(some 36), none, (.nck (.tmp 35))⟩,
       ⟨(some 37), none, (.fad 2 true 22 (.tmp 36))⟩,
       ⟨(some 38), none, (.fad 20 false 1 (.tmp 37))⟩,
       ⟨(some 39), none, (.ld false 1 (.tmp 38))⟩,
       ⟨(some 40), none, (.bin .add (.tmp 39) (.const (.int .i64 1)))⟩,
       ⟨(some 41), none, (.nck (.tmp 35))⟩,
       ⟨(some 42), none, (.fad 2 true 22 (.tmp 41))⟩,
       ⟨(some 43), none, (.fad 20 false 1 (.tmp 42))⟩,
       ⟨none, none, (.sto false 1 (.tmp 43) (.tmp 40))⟩])
     (.seq
      (.par false (.one ⟨(some 45), none, (.mv (.tmp 0))⟩ (.one ⟨(some 46), none, (.nck (.tmp 45))⟩ (.one ⟨(some 47), none, (.fad 0 false 1 (.tmp 46))⟩ (.one ⟨(some 48), none, (.ld false 1 (.tmp 47))⟩ (.one ⟨(some 49), none, (.mv (.tmp 0))⟩ (.one ⟨(some 50), none, (.nck (.tmp 49))⟩ (.one ⟨(some 51), none, (.fad 2 true 22 (.tmp 50))⟩ (.one ⟨(some 52), none, (.fad 0 false 1 (.tmp 51))⟩ (.one ⟨(some 53), none, (.ld false 1 (.tmp 52))⟩ (.one ⟨(some 54), none, (.idx 1 (.tmp 48) (.tmp 53))⟩ (.one ⟨(some 55), none, (.ld false 1 (.tmp 54))⟩ (.one ⟨(some 56), none, (.call (.func 47) [(.tmp 55)])⟩ (.one ⟨(some 44), none, (.mv (.tmp 56))⟩ (.one ⟨(some 57), none, (.ext (.tmp 44) 0)⟩ (.one ⟨(some 58), none, (.ext (.tmp 44) 1)⟩ (.one ⟨(some 3), none, (.alc 47 [(.int .i64 0), (.int .i64 0), (.int .i64 0), (.int .i64 0)])⟩ (.one ⟨none, none, (.sto true 4 (.tmp 3) (.tmp 57))⟩ (.one ⟨(some 4), none, (.mv (.tmp 58))⟩ .done)))))))))))))))))))
      (.seq
       (.seq
        (.ops [
          ⟨(some 59), none, (.mv (.tmp 4))⟩,
          ⟨(some 60), none, (.bin .neq (.tmp 59) (.const (.int .i64 0)))⟩])
        (.cond (.tmp 60)
         (.seq
          (.ops [
            ⟨(some 61), none, (.mv (.tmp 0))⟩,
            ⟨(some 62), none, (.nck (.tmp 61))⟩,
            ⟨(some 63), none, (.fad 2 true 22 (.tmp 62))⟩,
            ⟨(some 64), none, (.fad 21 false 1 (.tmp 63))⟩,
            ⟨none, none, (.sto false 1 (.tmp 64) (.const (.int .i64 6)))⟩])
          (.seq
           (.ops [
             ⟨(some 2), none, (.mv (.const (.bool true)))⟩])
           .ret))
         .skip))
       (.seq
        (.seq
         (.ops [
           ⟨(some 65), none, (.mv (.tmp 0))⟩,
           ⟨(some 66), none, (.ld true 4 (.tmp 3))⟩,
           ⟨(some 67), none, (.call (.func 48) [(.tmp 65), (.tmp 66)])⟩,
           ⟨(some 5), none, (.mv (.tmp 67))⟩])
         (.seq
          (.ops [
            ⟨(some 68), none, (.mv (.tmp 5))⟩,
            ⟨(some 69), none, (.bin .neq (.tmp 68) (.const (.int .i64 0)))⟩])
          (.cond (.tmp 69)
           (.ops [
             ⟨(some 70), none, (.mv (.tmp 0))⟩,
             ⟨(some 71), none, (.mv (.tmp 5))⟩,
             ⟨(some 72), none, (.nck (.tmp 70))⟩,
             ⟨(some 73), none, (.fad 2 true 22 (.tmp 72))⟩,
             ⟨(some 74), none, (.fad 21 false 1 (.tmp 73))⟩,
             ⟨none, none, (.sto false 1 (.tmp 74) (.tmp 71))⟩])
           .skip)))
        (.seq
         (.ops [
           ⟨(some 2), none, (.mv (.const (.bool true)))⟩])
         .ret))))))))
theorem f_machine_Runner_Step : compF Try.prog 36 = some (75, c_machine_Runner_Step, [(.tmp 2)]) := by kernel_rfl

/-- seedcorn/seedcornref08.word -/
def c_scref08_word : VC :=
 (.seq
  (.ops [
    ⟨(some 4), none, (.mv (.const (.int .u32 0)))⟩])
  (.seq
   (.ops [
     ⟨(some 5), none, (.mv (.tmp 0))⟩,
     ⟨(some 6), none, (.mv (.tmp 1))⟩,
     ⟨(some 7), none, (.pur .six [(.tmp 5), (.tmp 6)])⟩,
     ⟨(some 8), none, (.conv .u32 (.tmp 7))⟩,
     ⟨(some 9), none, (.mv (.tmp 0))⟩,
     ⟨(some 10), none, (.mv (.tmp 1))⟩,
     ⟨(some 11), none, (.bin .add (.tmp 10) (.const (.int .i64 1)))⟩,
     ⟨(some 12), none, (.pur .six [(.tmp 9), (.tmp 11)])⟩,
     ⟨(some 13), none, (.conv .u32 (.tmp 12))⟩,
     ⟨(some 14), none, (.bin .mul (.const (.int .u32 256)) (.tmp 13))⟩,
     ⟨(some 15), none, (.bin .add (.tmp 8) (.tmp 14))⟩,
     ⟨(some 16), none, (.mv (.tmp 0))⟩,
     ⟨(some 17), none, (.mv (.tmp 1))⟩,
     ⟨(some 18), none, (.bin .add (.tmp 17) (.const (.int .i64 2)))⟩,
     ⟨(some 19), none, (.pur .six [(.tmp 16), (.tmp 18)])⟩,
     ⟨(some 20), none, (.conv .u32 (.tmp 19))⟩,
     ⟨(some 21), none, (.bin .mul (.const (.int .u32 65536)) (.tmp 20))⟩,
     ⟨(some 22), none, (.bin .add (.tmp 15) (.tmp 21))⟩,
     ⟨(some 23), none, (.mv (.tmp 0))⟩,
     ⟨(some 24), none, (.mv (.tmp 1))⟩,
     ⟨(some 25), none, (.bin .add (.tmp 24) (.const (.int .i64 3)))⟩,
     ⟨(some 26), none, (.pur .six [(.tmp 23), (.tmp 25)])⟩,
     ⟨(some 27), none, (.conv .u32 (.tmp 26))⟩,
     ⟨(some 28), none, (.bin .mul (.const (.int .u32 16777216)) (.tmp 27))⟩,
     ⟨(some 29), none, (.bin .add (.tmp 22) (.tmp 28))⟩,
     ⟨(some 4), none, (.mv (.tmp 29))⟩])
   .ret))
theorem f_scref08_word : compF Try.prog 37 = some (30, c_scref08_word, [(.tmp 4)]) := by kernel_rfl

/-- seedcorn/image.Read -/
def c_image_Read : VC :=
 (.seq
  (.ops [
    ⟨(some 2), none, (.alc 24 [(.slice none 0 0), (.int .i64 0)])⟩,
    ⟨(some 3), none, (.mv (.const (.int .i64 0)))⟩])
  (.seq
   (.ops [
     ⟨(some 4), none, (.mv (.const (.int .i64 12)))⟩])
   (.seq
    (.seq
     (.ops [
       ⟨(some 8), none, (.mv (.tmp 0))⟩,
       ⟨(some 9), none, (.lens (.tmp 8))⟩,
       ⟨(some 10), none, (.mv (.tmp 4))⟩,
       ⟨(some 11), none, (.bin .lss (.tmp 9) (.tmp 10))⟩,
       ⟨(some 12), none, (.mv (.tmp 11))⟩,
       ⟨(some 13), (some (12, false)), (.mv (.tmp 0))⟩,
       ⟨(some 14), (some (12, false)), (.sls (.tmp 13) none (some (.const (.int .i64 4))))⟩,
       ⟨(some 15), (some (12, false)), (.bin .neq (.tmp 14) (.const (.string ⟨#[83, 69, 69, 68]⟩)))⟩,
       ⟨(some 16), none, (.pick (.tmp 12) (.const (.bool true)) (.tmp 15))⟩,
       ⟨(some 17), none, (.mv (.tmp 16))⟩,
       ⟨(some 18), (some (17, false)), (.mv (.tmp 0))⟩,
       ⟨(some 19), (some (17, false)), (.lens (.tmp 18))⟩,
       ⟨(some 20), (some (17, false)), (.mv (.tmp 4))⟩,
       ⟨(some 21), (some (17, false)), (.bin .add (.tmp 20) (.const (.int .i64 65536)))⟩,
       ⟨(some 22), (some (17, false)), (.bin .gtr (.tmp 19) (.tmp 21))⟩,
       ⟨(some 23), none, (.pick (.tmp 17) (.const (.bool true)) (.tmp 22))⟩])
     (.cond (.tmp 23)
      (.seq
       (.ops [
         ⟨(some 24), none, (.bld [(.slice none 0 0), (.int .i64 0)] [])⟩,
         ⟨none, none, (.sto true 2 (.tmp 2) (.tmp 24))⟩,
         ⟨(some 3), none, (.mv (.const (.int .i64 7)))⟩])
       .ret)
      .skip))
    (.seq
     (.ops [
       ⟨(some 25), none, (.mv (.tmp 0))⟩,
       ⟨(some 26), none, (.mv (.tmp 4))⟩,
       ⟨(some 27), none, (.sls (.tmp 25) (some (.const (.int .i64 4))) (some (.tmp 26)))⟩,
       ⟨(some 28), none, (.callA (.func 50) [(.tmp 27)])⟩,
       ⟨(some 29), none, (.call (.func 49) [(.tmp 28)])⟩,
       ⟨(some 5), none, (.mv (.tmp 29))⟩])
     (.seq
      (.seq
       (.ops [
         ⟨(some 30), none, (.mv (.tmp 5))⟩,
         ⟨(some 31), none, (.idx 1 (.tmp 30) (.const (.int .i64 1)))⟩,
         ⟨(some 32), none, (.ld false 1 (.tmp 31))⟩,
         ⟨(some 33), none, (.bin .gtr (.tmp 32) (.const (.int .u32 32768)))⟩,
         ⟨(some 34), none, (.mv (.tmp 33))⟩,
         ⟨(some 35), (some (34, false)), (.mv (.tmp 0))⟩,
         ⟨(some 36), (some (34, false)), (.lens (.tmp 35))⟩,
         ⟨(some 37), (some (34, false)), (.conv .u64 (.tmp 36))⟩,
         ⟨(some 38), (some (34, false)), (.mv (.tmp 4))⟩,
         ⟨(some 39), (some (34, false)), (.conv .u64 (.tmp 38))⟩,
         ⟨(some 40), (some (34, false)), (.mv (.tmp 5))⟩,
         ⟨(some 41), (some (34, false)), (.idx 1 (.tmp 40) (.const (.int .i64 0)))⟩,
         ⟨(some 42), (some (34, false)), (.ld false 1 (.tmp 41))⟩,
         ⟨(some 43), (some (34, false)), (.conv .u64 (.tmp 42))⟩,
         ⟨(some 44), (some (34, false)), (.bin .mul (.const (.int .u64 4)) (.tmp 43))⟩,
         ⟨(some 45), (some (34, false)), (.bin .add (.tmp 39) (.tmp 44))⟩,
         ⟨(some 46), (some (34, false)), (.bin .neq (.tmp 37) (.tmp 45))⟩,
         ⟨(some 47), none, (.pick (.tmp 34) (.const (.bool true)) (.tmp 46))⟩])
       (.cond (.tmp 47)
        (.seq
         (.ops [
           ⟨(some 48), none, (.bld [(.slice none 0 0), (.int .i64 0)] [])⟩,
           ⟨none, none, (.sto true 2 (.tmp 2) (.tmp 48))⟩,
           ⟨(some 3), none, (.mv (.const (.int .i64 7)))⟩])
         .ret)
        .skip))
      (.seq
       (.ops [
         ⟨(some 49), none, (.mv (.tmp 5))⟩,
         ⟨(some 50), none, (.idx 1 (.tmp 49) (.const (.int .i64 0)))⟩,
         ⟨(some 51), none, (.ld false 1 (.tmp 50))⟩,
         ⟨(some 52), none, (.mk 34 1 4 [(.int .u32 0)] (.const (.int .i64 0)) (.tmp 51))⟩,
         ⟨(some 6), none, (.alc 22 [(.slice none 0 0)])⟩,
         ⟨none, none, (.sto false 1 (.tmp 6) (.tmp 52))⟩])
       (.seq
        (.seq
         (.ops [
           ⟨(some 53), none, (.mv (.tmp 0))⟩,
           ⟨(some 54), none, (.mv (.tmp 4))⟩,
           ⟨(some 55), none, (.sls (.tmp 53) (some (.tmp 54)) none)⟩,
           ⟨(some 56), none, (.callA (.func 50) [(.tmp 55)])⟩])
         (.block 0
          (.range (.tmp 56) [57]
           (.seq
            (.ops [
              ⟨(some 7), none, (.mv (.tmp 57))⟩])
            (.block 1
             (.ops [
               ⟨(some 58), none, (.ld false 1 (.tmp 6))⟩,
               ⟨(some 59), none, (.mv (.tmp 7))⟩,
               ⟨(some 60), none, (.bsl 34 1 1 [(.int .u32 0)] [(0, (1, (.tmp 59)))])⟩,
               ⟨(some 61), none, (.app 34 1 4 (.tmp 58) (.tmp 60))⟩,
               ⟨none, none, (.sto false 1 (.tmp 6) (.tmp 61))⟩]))))))
        (.seq
         (.par false (.one ⟨(some 62), none, (.ld false 1 (.tmp 6))⟩ (.one ⟨(some 63), none, (.mv (.tmp 5))⟩ (.one ⟨(some 64), none, (.idx 1 (.tmp 63) (.const (.int .i64 1)))⟩ (.one ⟨(some 65), none, (.ld false 1 (.tmp 64))⟩ (.one ⟨(some 66), none, (.conv .i64 (.tmp 65))⟩ (.one ⟨(some 67), none, (.bld [(.slice none 0 0), (.int .i64 0)] [(0, (1, (.tmp 62))), (1, (1, (.tmp 66)))])⟩ (.one ⟨none, none, (.sto true 2 (.tmp 2) (.tmp 67))⟩ (.one ⟨(some 3), none, (.mv (.const (.int .i64 0)))⟩ .done)))))))))
         .ret))))))))
theorem f_image_Read : compFB Try.prog false 38 = some (68, c_image_Read, [(.cell 2 true 2), (.tmp 3)]) := by kernel_rfl

/-- seedcorn/exec.steps$1 -/
def c_exec_steps_1 : VC :=
 (.seq
  (.ops [
    ⟨(some 4), none, (.mv (.const (.int .i64 0)))⟩])
  (.block 0
   (.loop
    (.seq
     (.seq
      (.ops [
        ⟨(some 6), none, (.mv (.tmp 4))⟩,
        ⟨(some 7), none, (.ld false 1 (.tmp 1))⟩,
        ⟨(some 8), none, (.bin .lss (.tmp 6) (.tmp 7))⟩,
        ⟨(some 9), none, (.mv (.tmp 8))⟩,
        ⟨(some 10), (some (9, true)), (.ld false 1 (.tmp 2))⟩,
        ⟨(some 11), (some (9, true)), (.call (.func 40) [(.tmp 10)])⟩,
        ⟨(some 12), none, (.pick (.tmp 9) (.tmp 11) (.const (.bool false)))⟩])
      (.cond (.tmp 12)
       .skip
       (.exit 0)))
     (.seq
      (.block 1
       (.seq
        (.ops [
          ⟨(some 15), none, (.ld false 1 (.tmp 2))⟩,
          ⟨(some 16), none, (.call (.func 41) [(.tmp 15)])⟩,
          ⟨(some 5), none, (.mv (.tmp 16))⟩])
        (.seq
         (.ops [
           ⟨(some 17), none, (.ld false 1 (.tmp 2))⟩,
           ⟨(some 18), none, (.call (.func 36) [(.tmp 17)])⟩,
           ⟨(some 19), none, (.mv (.tmp 18))⟩,
           ⟨(some 20), (some (19, true)), (.mv (.tmp 0))⟩,
           ⟨(some 21), (some (19, true)), (.mv (.tmp 5))⟩,
           ⟨(some 22), (some (19, true)), (.ycal (.tmp 20) [(.tmp 21)])⟩,
           ⟨(some 23), (some (19, true)), (.un .not (.tmp 22))⟩,
           ⟨(some 24), none, (.pick (.tmp 19) (.tmp 23) (.const (.bool false)))⟩])
         (.cond (.tmp 24)
          .ret
          .skip))))
      (.ops [
        ⟨(some 13), none, (.mv (.tmp 4))⟩,
        ⟨(some 14), none, (.bin .add (.tmp 13) (.const (.int .i64 1)))⟩,
        ⟨(some 4), none, (.mv (.tmp 14))⟩]))))))
theorem f_exec_steps_1 : compFB Try.prog true 39 = some (25, c_exec_steps_1, []) := by kernel_rfl

/-- (*seedcorn/machine.Runner).Going -/
def c_machine_Runner_Going : VC :=
 (.seq
  (.ops [
    ⟨(some 2), none, (.mv (.const (.bool false)))⟩])
  (.seq
   (.ops [
     ⟨(some 3), none, (.mv (.tmp 0))⟩,
     ⟨(some 4), none, (.nck (.tmp 3))⟩,
     ⟨(some 5), none, (.fad 2 true 22 (.tmp 4))⟩,
     ⟨(some 6), none, (.fad 21 false 1 (.tmp 5))⟩,
     ⟨(some 7), none, (.ld false 1 (.tmp 6))⟩,
     ⟨(some 8), none, (.bin .eql (.tmp 7) (.const (.int .i64 0)))⟩,
     ⟨(some 2), none, (.mv (.tmp 8))⟩])
   .ret))
theorem f_machine_Runner_Going : compF Try.prog 40 = some (9, c_machine_Runner_Going, [(.tmp 2)]) := by kernel_rfl

/-- (*seedcorn/machine.Runner).PC -/
def c_machine_Runner_PC : VC :=
 (.seq
  (.ops [
    ⟨(some 2), none, (.mv (.const (.int .i64 0)))⟩])
  (.seq
   (.ops [
     ⟨(some 3), none, (.mv (.tmp 0))⟩,
     ⟨(some 4), none, (.nck (.tmp 3))⟩,
     ⟨(some 5), none, (.fad 2 true 22 (.tmp 4))⟩,
     ⟨(some 6), none, (.fad 0 false 1 (.tmp 5))⟩,
     ⟨(some 7), none, (.ld false 1 (.tmp 6))⟩,
     ⟨(some 2), none, (.mv (.tmp 7))⟩])
   .ret))
theorem f_machine_Runner_PC : compF Try.prog 41 = some (8, c_machine_Runner_PC, [(.tmp 2)]) := by kernel_rfl

/-- seedcorn/seedcornref10.Code -/
def c_scref10_Code : VC :=
 (.seq
  (.ops [
    ⟨(some 1), none, (.box 24 (.tmp 0))⟩,
    ⟨(some 2), none, (.mv (.const (.slice none 0 0)))⟩,
    ⟨(some 3), none, (.mv (.const (.slice none 0 0)))⟩])
  (.seq
   (.ops [
     ⟨(some 9), none, (.fad 0 false 1 (.tmp 1))⟩,
     ⟨(some 10), none, (.ld false 1 (.tmp 9))⟩,
     ⟨(some 11), none, (.len (.tmp 10))⟩,
     ⟨(some 12), none, (.mk 47 4 32 [(.int .i64 0), (.int .i64 0), (.int .i64 0), (.int .i64 0)] (.tmp 11) (.tmp 11))⟩,
     ⟨(some 4), none, (.mv (.tmp 12))⟩])
   (.seq
    (.ops [
      ⟨(some 13), none, (.fad 0 false 1 (.tmp 1))⟩,
      ⟨(some 14), none, (.ld false 1 (.tmp 13))⟩,
      ⟨(some 15), none, (.len (.tmp 14))⟩,
      ⟨(some 16), none, (.mk 4 1 1 [(.bool false)] (.tmp 15) (.tmp 15))⟩,
      ⟨(some 5), none, (.mv (.tmp 16))⟩])
    (.seq
     (.seq
      (.ops [
        ⟨(some 6), none, (.mv (.const (.int .i64 0)))⟩])
      (.block 0
       (.loop
        (.seq
         (.seq
          (.ops [
            ⟨(some 17), none, (.mv (.tmp 6))⟩,
            ⟨(some 18), none, (.fad 0 false 1 (.tmp 1))⟩,
            ⟨(some 19), none, (.ld false 1 (.tmp 18))⟩,
            ⟨(some 20), none, (.len (.tmp 19))⟩,
            ⟨(some 21), none, (.bin .lss (.tmp 17) (.tmp 20))⟩])
          (.cond (.tmp 21)
           .skip
           (.exit 0)))
         (.seq
          (.block 1
           (.seq
            (.ops [
              ⟨(some 25), none, (.fad 0 false 1 (.tmp 1))⟩,
              ⟨(some 26), none, (.ld false 1 (.tmp 25))⟩,
              ⟨(some 27), none, (.mv (.tmp 6))⟩,
              ⟨(some 28), none, (.idx 1 (.tmp 26) (.tmp 27))⟩,
              ⟨(some 29), none, (.ld false 1 (.tmp 28))⟩,
              ⟨(some 30), none, (.call (.func 22) [(.tmp 29)])⟩,
              ⟨(some 24), none, (.mv (.tmp 30))⟩,
              ⟨(some 31), none, (.ext (.tmp 24) 0)⟩,
              ⟨(some 32), none, (.ext (.tmp 24) 1)⟩,
              ⟨(some 7), none, (.alc 47 [(.int .i64 0), (.int .i64 0), (.int .i64 0), (.int .i64 0)])⟩,
              ⟨none, none, (.sto true 4 (.tmp 7) (.tmp 31))⟩,
              ⟨(some 8), none, (.mv (.tmp 32))⟩])
            (.ops [
              ⟨(some 33), none, (.mv (.tmp 4))⟩,
              ⟨(some 34), none, (.mv (.tmp 6))⟩,
              ⟨(some 35), none, (.mv (.tmp 5))⟩,
              ⟨(some 36), none, (.mv (.tmp 6))⟩,
              ⟨(some 37), none, (.ld true 4 (.tmp 7))⟩,
              ⟨(some 38), none, (.mv (.tmp 8))⟩,
              ⟨(some 39), none, (.bin .eql (.tmp 38) (.const (.int .i64 0)))⟩,
              ⟨(some 40), none, (.idx 4 (.tmp 33) (.tmp 34))⟩,
              ⟨none, none, (.sto true 4 (.tmp 40) (.tmp 37))⟩,
              ⟨(some 41), none, (.idx 1 (.tmp 35) (.tmp 36))⟩,
              ⟨none, none, (.sto false 1 (.tmp 41) (.tmp 39))⟩])))
          (.ops [
            ⟨(some 22), none, (.mv (.tmp 6))⟩,
            ⟨(some 23), none, (.bin .add (.tmp 22) (.const (.int .i64 1)))⟩,
            ⟨(some 6), none, (.mv (.tmp 23))⟩]))))))
     (.seq
      (.ops [
        ⟨(some 42), none, (.mv (.tmp 4))⟩,
        ⟨(some 43), none, (.mv (.tmp 5))⟩,
        ⟨(some 2), none, (.mv (.tmp 42))⟩,
        ⟨(some 3), none, (.mv (.tmp 43))⟩])
      .ret)))))
theorem f_scref10_Code : compF Try.prog 42 = some (44, c_scref10_Code, [(.tmp 2), (.tmp 3)]) := by kernel_rfl

/-- (*seedcorn/seedcornref10.work).step -/
def c_scref10_work_step : VC :=
 (.seq
  (.seq
   (.ops [
     ⟨(some 11), none, (.mv (.tmp 0))⟩,
     ⟨(some 12), none, (.nck (.tmp 11))⟩,
     ⟨(some 13), none, (.fad 0 true 22 (.tmp 12))⟩,
     ⟨(some 14), none, (.fad 0 false 1 (.tmp 13))⟩,
     ⟨(some 15), none, (.ld false 1 (.tmp 14))⟩,
     ⟨(some 16), none, (.bin .lss (.tmp 15) (.const (.int .i64 0)))⟩,
     ⟨(some 17), none, (.mv (.tmp 16))⟩,
     ⟨(some 18), (some (17, false)), (.mv (.tmp 0))⟩,
     ⟨(some 19), (some (17, false)), (.nck (.tmp 18))⟩,
     ⟨(some 20), (some (17, false)), (.fad 0 true 22 (.tmp 19))⟩,
     ⟨(some 21), (some (17, false)), (.fad 0 false 1 (.tmp 20))⟩,
     ⟨(some 22), (some (17, false)), (.ld false 1 (.tmp 21))⟩,
     ⟨(some 23), (some (17, false)), (.mv (.tmp 0))⟩,
     ⟨(some 24), (some (17, false)), (.nck (.tmp 23))⟩,
     ⟨(some 25), (some (17, false)), (.fad 23 false 1 (.tmp 24))⟩,
     ⟨(some 26), (some (17, false)), (.ld false 1 (.tmp 25))⟩,
     ⟨(some 27), (some (17, false)), (.len (.tmp 26))⟩,
     ⟨(some 28), (some (17, false)), (.bin .geq (.tmp 22) (.tmp 27))⟩,
     ⟨(some 29), none, (.pick (.tmp 17) (.const (.bool true)) (.tmp 28))⟩])
   (.cond (.tmp 29)
    (.seq
     (.ops [
       ⟨(some 30), none, (.mv (.tmp 0))⟩,
       ⟨(some 31), none, (.nck (.tmp 30))⟩,
       ⟨(some 32), none, (.fad 0 true 22 (.tmp 31))⟩,
       ⟨(some 33), none, (.fad 21 false 1 (.tmp 32))⟩,
       ⟨none, none, (.sto false 1 (.tmp 33) (.const (.int .i64 7)))⟩])
     .ret)
    .skip))
  (.seq
   (.ops [
     ⟨(some 34), none, (.mv (.tmp 0))⟩,
     ⟨(some 35), none, (.nck (.tmp 34))⟩,
     ⟨(some 36), none, (.fad 0 true 22 (.tmp 35))⟩,
     ⟨(some 37), none, (.fad 20 false 1 (.tmp 36))⟩,
     ⟨(some 38), none, (.ld false 1 (.tmp 37))⟩,
     ⟨(some 39), none, (.bin .add (.tmp 38) (.const (.int .i64 1)))⟩,
     ⟨(some 40), none, (.nck (.tmp 34))⟩,
     ⟨(some 41), none, (.fad 0 true 22 (.tmp 40))⟩,
     ⟨(some 42), none, (.fad 20 false 1 (.tmp 41))⟩,
     ⟨none, none, (.sto false 1 (.tmp 42) (.tmp 39))⟩])
   (.seq
    (.ops [
      ⟨(some 43), none, (.mv (.tmp 0))⟩,
      ⟨(some 44), none, (.nck (.tmp 43))⟩,
      ⟨(some 45), none, (.fad 27 false 1 (.tmp 44))⟩,
      ⟨(some 46), none, (.ld false 1 (.tmp 45))⟩,
      ⟨(some 47), none, (.mv (.tmp 0))⟩,
      ⟨(some 48), none, (.nck (.tmp 47))⟩,
      ⟨(some 49), none, (.fad 0 true 22 (.tmp 48))⟩,
      ⟨(some 50), none, (.fad 0 false 1 (.tmp 49))⟩,
      ⟨(some 51), none, (.ld false 1 (.tmp 50))⟩,
      ⟨(some 52), none, (.idx 1 (.tmp 46) (.tmp 51))⟩,
      ⟨(some 53), none, (.ld false 1 (.tmp 52))⟩,
      ⟨(some 54), none, (.bin .add (.tmp 53) (.const (.int .i64 1)))⟩,
      ⟨(some 55), none, (.idx 1 (.tmp 46) (.tmp 51))⟩,
      ⟨none, none, (.sto false 1 (.tmp 55) (.tmp 54))⟩])
    (.seq
     (.par false (.one ⟨(some 56), none, (.mv (.tmp 0))⟩ (.one ⟨(some 57), none, (.nck (.tmp 56))⟩ (.one ⟨(some 58), none, (.fad 23 false 1 (.tmp 57))⟩ (.one ⟨(some 59), none, (.ld false 1 (.tmp 58))⟩ (.one ⟨(some 60), none, (.mv (.tmp 0))⟩ (.one ⟨(some 61), none, (.nck (.tmp 60))⟩ (.one ⟨(some 62), none, (.fad 0 true 22 (.tmp 61))⟩ (.one ⟨(some 63), none, (.fad 0 false 1 (.tmp 62))⟩ (.one ⟨(some 64), none, (.ld false 1 (.tmp 63))⟩ (.one ⟨(some 65), none, (.idx 4 (.tmp 59) (.tmp 64))⟩ (.one ⟨(some 66), none, (.ld true 4 (.tmp 65))⟩ (.one ⟨(some 2), none, (.alc 47 [(.int .i64 0), (.int .i64 0), (.int .i64 0), (.int .i64 0)])⟩ (.one ⟨none, none, (.sto true 4 (.tmp 2) (.tmp 66))⟩ .done))))))))))))))
     (.seq
      (.seq
       (.ops [
         ⟨(some 67), none, (.mv (.tmp 0))⟩,
         ⟨(some 68), none, (.nck (.tmp 67))⟩,
         ⟨(some 69), none, (.fad 24 false 1 (.tmp 68))⟩,
         ⟨(some 70), none, (.ld false 1 (.tmp 69))⟩,
         ⟨(some 71), none, (.mv (.tmp 0))⟩,
         ⟨(some 72), none, (.nck (.tmp 71))⟩,
         ⟨(some 73), none, (.fad 0 true 22 (.tmp 72))⟩,
         ⟨(some 74), none, (.fad 0 false 1 (.tmp 73))⟩,
         ⟨(some 75), none, (.ld false 1 (.tmp 74))⟩,
         ⟨(some 76), none, (.idx 1 (.tmp 70) (.tmp 75))⟩,
         ⟨(some 77), none, (.ld false 1 (.tmp 76))⟩,
         ⟨(some 78), none, (.un .not (.tmp 77))⟩])
       (.cond (.tmp 78)
        (.seq
         (.ops [
           ⟨(some 79), none, (.mv (.tmp 0))⟩,
           ⟨(some 80), none, (.nck (.tmp 79))⟩,
           ⟨(some 81), none, (.fad 0 true 22 (.tmp 80))⟩,
           ⟨(some 82), none, (.fad 21 false 1 (.tmp 81))⟩,
           ⟨none, none, (.sto false 1 (.tmp 82) (.const (.int .i64 6)))⟩])
         .ret)
        .skip))
      (.seq
       (.ops [
         ⟨(some 83), none, (.mv (.tmp 0))⟩,
         ⟨(some 84), none, (.fad 1 false 1 (.tmp 2))⟩,
         ⟨(some 85), none, (.ld false 1 (.tmp 84))⟩,
         ⟨(some 86), none, (.nck (.tmp 83))⟩,
         ⟨(some 87), none, (.fad 0 true 22 (.tmp 86))⟩,
         ⟨(some 88), none, (.fad 1 true 16 (.tmp 87))⟩,
         ⟨(some 89), none, (.aidx 16 false 1 (.tmp 88) (.tmp 85))⟩,
         ⟨(some 90), none, (.ld false 1 (.tmp 89))⟩,
         ⟨(some 3), none, (.mv (.tmp 90))⟩])
       (.seq
        (.ops [
          ⟨(some 91), none, (.fad 0 false 1 (.tmp 2))⟩,
          ⟨(some 92), none, (.ld false 1 (.tmp 91))⟩])
        (.block 0
         (.seq
          (.ops [
            ⟨(some 127), none, (.bin .eql (.tmp 92) (.const (.int .i64 1)))⟩,
            ⟨(some 126), none, (.mv (.tmp 127))⟩])
          (.cond (.tmp 126)
           (.ops [
             ⟨(some 128), none, (.mv (.tmp 0))⟩,
             ⟨(some 129), none, (.fad 1 false 1 (.tmp 2))⟩,
             ⟨(some 130), none, (.ld false 1 (.tmp 129))⟩,
             ⟨(some 131), none, (.fad 3 false 1 (.tmp 2))⟩,
             ⟨(some 132), none, (.ld false 1 (.tmp 131))⟩,
             ⟨(some 133), none, (.conv .u32 (.tmp 132))⟩,
             ⟨(some 134), none, (.call (.func 51) [(.tmp 128), (.tmp 130), (.tmp 133)])⟩])
           (.seq
            (.ops [
              ⟨(some 136), none, (.bin .eql (.tmp 92) (.const (.int .i64 2)))⟩,
              ⟨(some 135), none, (.mv (.tmp 136))⟩])
            (.cond (.tmp 135)
             (.ops [
               ⟨(some 137), none, (.mv (.tmp 0))⟩,
               ⟨(some 138), none, (.fad 1 false 1 (.tmp 2))⟩,
               ⟨(some 139), none, (.ld false 1 (.tmp 138))⟩,
               ⟨(some 140), none, (.mv (.tmp 3))⟩,
               ⟨(some 141), none, (.bin .rem (.tmp 140) (.const (.int .u32 65536)))⟩,
               ⟨(some 142), none, (.fad 3 false 1 (.tmp 2))⟩,
               ⟨(some 143), none, (.ld false 1 (.tmp 142))⟩,
               ⟨(some 144), none, (.conv .u32 (.tmp 143))⟩,
               ⟨(some 145), none, (.bin .mul (.tmp 144) (.const (.int .u32 65536)))⟩,
               ⟨(some 146), none, (.bin .add (.tmp 141) (.tmp 145))⟩,
               ⟨(some 147), none, (.call (.func 51) [(.tmp 137), (.tmp 139), (.tmp 146)])⟩])
             (.seq
              (.ops [
                ⟨(some 149), none, (.bin .eql (.tmp 92) (.const (.int .i64 3)))⟩,
                ⟨(some 148), none, (.mv (.tmp 149))⟩])
              (.cond (.tmp 148)
               (.ops [
                 ⟨(some 150), none, (.mv (.tmp 0))⟩,
                 ⟨(some 151), none, (.fad 1 false 1 (.tmp 2))⟩,
                 ⟨(some 152), none, (.ld false 1 (.tmp 151))⟩,
                 ⟨(some 153), none, (.mv (.tmp 0))⟩,
                 ⟨(some 154), none, (.fad 2 false 1 (.tmp 2))⟩,
                 ⟨(some 155), none, (.ld false 1 (.tmp 154))⟩,
                 ⟨(some 156), none, (.nck (.tmp 153))⟩,
                 ⟨(some 157), none, (.fad 0 true 22 (.tmp 156))⟩,
                 ⟨(some 158), none, (.fad 1 true 16 (.tmp 157))⟩,
                 ⟨(some 159), none, (.aidx 16 false 1 (.tmp 158) (.tmp 155))⟩,
                 ⟨(some 160), none, (.ld false 1 (.tmp 159))⟩,
                 ⟨(some 161), none, (.call (.func 51) [(.tmp 150), (.tmp 152), (.tmp 160)])⟩])
               (.seq
                (.seq
                 (.ops [
                   ⟨(some 163), none, (.bin .eql (.tmp 92) (.const (.int .i64 16)))⟩,
                   ⟨(some 162), none, (.mv (.tmp 163))⟩])
                 (.cond (.tmp 162)
                  .skip
                  (.ops [
                    ⟨(some 164), none, (.bin .eql (.tmp 92) (.const (.int .i64 27)))⟩,
                    ⟨(some 162), none, (.mv (.tmp 164))⟩])))
                (.cond (.tmp 162)
                 (.seq
                  (.ops [
                    ⟨(some 165), none, (.mv (.tmp 0))⟩,
                    ⟨(some 166), none, (.nck (.tmp 165))⟩,
                    ⟨(some 167), none, (.fad 0 true 22 (.tmp 166))⟩,
                    ⟨(some 168), none, (.fad 17 false 1 (.tmp 167))⟩,
                    ⟨(some 169), none, (.ld false 1 (.tmp 168))⟩,
                    ⟨(some 4), none, (.mv (.tmp 169))⟩])
                  (.seq
                   (.seq
                    (.ops [
                      ⟨(some 170), none, (.fad 0 false 1 (.tmp 2))⟩,
                      ⟨(some 171), none, (.ld false 1 (.tmp 170))⟩,
                      ⟨(some 172), none, (.bin .eql (.tmp 171) (.const (.int .i64 27)))⟩])
                    (.cond (.tmp 172)
                     (.ops [
                       ⟨(some 173), none, (.mv (.tmp 0))⟩,
                       ⟨(some 174), none, (.nck (.tmp 173))⟩,
                       ⟨(some 175), none, (.fad 25 false 1 (.tmp 174))⟩,
                       ⟨(some 176), none, (.ld false 1 (.tmp 175))⟩,
                       ⟨(some 4), none, (.mv (.tmp 176))⟩])
                     .skip))
                   (.seq
                    (.par false (.one ⟨(some 178), none, (.mv (.tmp 4))⟩ (.one ⟨(some 179), none, (.mv (.tmp 0))⟩ (.one ⟨(some 180), none, (.fad 2 false 1 (.tmp 2))⟩ (.one ⟨(some 181), none, (.ld false 1 (.tmp 180))⟩ (.one ⟨(some 182), none, (.nck (.tmp 179))⟩ (.one ⟨(some 183), none, (.fad 0 true 22 (.tmp 182))⟩ (.one ⟨(some 184), none, (.fad 1 true 16 (.tmp 183))⟩ (.one ⟨(some 185), none, (.aidx 16 false 1 (.tmp 184) (.tmp 181))⟩ (.one ⟨(some 186), none, (.ld false 1 (.tmp 185))⟩ (.one ⟨(some 187), none, (.fad 3 false 1 (.tmp 2))⟩ (.one ⟨(some 188), none, (.ld false 1 (.tmp 187))⟩ (.one ⟨(some 189), none, (.call (.func 52) [(.tmp 178), (.tmp 186), (.tmp 188)])⟩ (.one ⟨(some 177), none, (.mv (.tmp 189))⟩ (.one ⟨(some 190), none, (.ext (.tmp 177) 0)⟩ (.one ⟨(some 191), none, (.ext (.tmp 177) 1)⟩ (.one ⟨(some 5), none, (.mv (.tmp 190))⟩ (.one ⟨(some 6), none, (.mv (.tmp 191))⟩ .done))))))))))))))))))
                    (.seq
                     (.seq
                      (.ops [
                        ⟨(some 192), none, (.mv (.tmp 6))⟩,
                        ⟨(some 193), none, (.un .not (.tmp 192))⟩])
                      (.cond (.tmp 193)
                       (.seq
                        (.ops [
                          ⟨(some 194), none, (.mv (.tmp 0))⟩,
                          ⟨(some 195), none, (.nck (.tmp 194))⟩,
                          ⟨(some 196), none, (.fad 0 true 22 (.tmp 195))⟩,
                          ⟨(some 197), none, (.fad 21 false 1 (.tmp 196))⟩,
                          ⟨none, none, (.sto false 1 (.tmp 197) (.const (.int .i64 8)))⟩])
                        .ret)
                       .skip))
                     (.ops [
                       ⟨(some 198), none, (.mv (.tmp 0))⟩,
                       ⟨(some 199), none, (.fad 1 false 1 (.tmp 2))⟩,
                       ⟨(some 200), none, (.ld false 1 (.tmp 199))⟩,
                       ⟨(some 201), none, (.mv (.tmp 5))⟩,
                       ⟨(some 202), none, (.call (.func 51) [(.tmp 198), (.tmp 200), (.tmp 201)])⟩])))))
                 (.seq
                  (.ops [
                    ⟨(some 204), none, (.bin .eql (.tmp 92) (.const (.int .i64 17)))⟩,
                    ⟨(some 203), none, (.mv (.tmp 204))⟩])
                  (.cond (.tmp 203)
                   (.seq
                    (.ops [
                      ⟨(some 205), none, (.mv (.tmp 0))⟩,
                      ⟨(some 206), none, (.fad 2 false 1 (.tmp 2))⟩,
                      ⟨(some 207), none, (.ld false 1 (.tmp 206))⟩,
                      ⟨(some 208), none, (.nck (.tmp 205))⟩,
                      ⟨(some 209), none, (.fad 0 true 22 (.tmp 208))⟩,
                      ⟨(some 210), none, (.fad 1 true 16 (.tmp 209))⟩,
                      ⟨(some 211), none, (.aidx 16 false 1 (.tmp 210) (.tmp 207))⟩,
                      ⟨(some 212), none, (.ld false 1 (.tmp 211))⟩,
                      ⟨(some 213), none, (.fad 3 false 1 (.tmp 2))⟩,
                      ⟨(some 214), none, (.ld false 1 (.tmp 213))⟩,
                      ⟨(some 215), none, (.conv .u32 (.tmp 214))⟩,
                      ⟨(some 216), none, (.bin .add (.tmp 212) (.tmp 215))⟩,
                      ⟨(some 7), none, (.mv (.tmp 216))⟩])
                    (.seq
                     (.seq
                      (.ops [
                        ⟨(some 217), none, (.mv (.tmp 7))⟩,
                        ⟨(some 218), none, (.conv .u64 (.tmp 217))⟩,
                        ⟨(some 219), none, (.mv (.tmp 0))⟩,
                        ⟨(some 220), none, (.nck (.tmp 219))⟩,
                        ⟨(some 221), none, (.fad 0 true 22 (.tmp 220))⟩,
                        ⟨(some 222), none, (.fad 17 false 1 (.tmp 221))⟩,
                        ⟨(some 223), none, (.ld false 1 (.tmp 222))⟩,
                        ⟨(some 224), none, (.len (.tmp 223))⟩,
                        ⟨(some 225), none, (.conv .u64 (.tmp 224))⟩,
                        ⟨(some 226), none, (.bin .geq (.tmp 218) (.tmp 225))⟩])
                      (.cond (.tmp 226)
                       (.seq
                        (.ops [
                          ⟨(some 227), none, (.mv (.tmp 0))⟩,
                          ⟨(some 228), none, (.nck (.tmp 227))⟩,
                          ⟨(some 229), none, (.fad 0 true 22 (.tmp 228))⟩,
                          ⟨(some 230), none, (.fad 21 false 1 (.tmp 229))⟩,
                          ⟨none, none, (.sto false 1 (.tmp 230) (.const (.int .i64 8)))⟩])
                        .ret)
                       .skip))
                     (.seq
                      (.ops [
                        ⟨(some 231), none, (.mv (.tmp 0))⟩,
                        ⟨(some 232), none, (.nck (.tmp 231))⟩,
                        ⟨(some 233), none, (.fad 0 true 22 (.tmp 232))⟩,
                        ⟨(some 234), none, (.fad 17 false 1 (.tmp 233))⟩,
                        ⟨(some 235), none, (.ld false 1 (.tmp 234))⟩,
                        ⟨(some 236), none, (.mv (.tmp 7))⟩,
                        ⟨(some 237), none, (.mv (.tmp 3))⟩,
                        ⟨(some 238), none, (.idx 1 (.tmp 235) (.tmp 236))⟩,
                        ⟨none, none, (.sto false 1 (.tmp 238) (.tmp 237))⟩])
                      (.ops [
                        ⟨(some 239), none, (.mv (.tmp 0))⟩,
                        ⟨(some 240), none, (.nck (.tmp 239))⟩,
                        ⟨(some 241), none, (.fad 0 true 22 (.tmp 240))⟩,
                        ⟨(some 242), none, (.fad 0 false 1 (.tmp 241))⟩,
                        ⟨(some 243), none, (.ld false 1 (.tmp 242))⟩,
                        ⟨(some 244), none, (.bin .add (.tmp 243) (.const (.int .i64 1)))⟩,
                        ⟨(some 245), none, (.nck (.tmp 239))⟩,
                        ⟨(some 246), none, (.fad 0 true 22 (.tmp 245))⟩,
                        ⟨(some 247), none, (.fad 0 false 1 (.tmp 246))⟩,
                        ⟨none, none, (.sto false 1 (.tmp 247) (.tmp 244))⟩]))))
                   (.seq
                    (.ops [
                      ⟨(some 249), none, (.bin .eql (.tmp 92) (.const (.int .i64 18)))⟩,
                      ⟨(some 248), none, (.mv (.tmp 249))⟩])
                    (.cond (.tmp 248)
                     (.ops [
                       ⟨(some 250), none, (.mv (.tmp 0))⟩,
                       ⟨(some 251), none, (.fad 3 false 1 (.tmp 2))⟩,
                       ⟨(some 252), none, (.ld false 1 (.tmp 251))⟩,
                       ⟨(some 253), none, (.nck (.tmp 250))⟩,
                       ⟨(some 254), none, (.fad 0 true 22 (.tmp 253))⟩,
                       ⟨(some 255), none, (.fad 0 false 1 (.tmp 254))⟩,
                       ⟨none, none, (.sto false 1 (.tmp 255) (.tmp 252))⟩])
                     (.seq
                      (.ops [
                        ⟨(some 257), none, (.bin .eql (.tmp 92) (.const (.int .i64 19)))⟩,
                        ⟨(some 256), none, (.mv (.tmp 257))⟩])
                      (.cond (.tmp 256)
                       (.ops [
                         ⟨(some 258), none, (.mv (.tmp 0))⟩,
                         ⟨(some 259), none, (.mv (.tmp 3))⟩,
                         ⟨(some 260), none, (.bin .eql (.tmp 259) (.const (.int .u32 0)))⟩,
                         ⟨(some 261), none, (.fad 3 false 1 (.tmp 2))⟩,
                         ⟨(some 262), none, (.ld false 1 (.tmp 261))⟩,
                         ⟨(some 263), none, (.call (.func 53) [(.tmp 258), (.tmp 260), (.tmp 262)])⟩])
                       (.seq
                        (.ops [
                          ⟨(some 265), none, (.bin .eql (.tmp 92) (.const (.int .i64 20)))⟩,
                          ⟨(some 264), none, (.mv (.tmp 265))⟩])
                        (.cond (.tmp 264)
                         (.ops [
                           ⟨(some 266), none, (.mv (.tmp 0))⟩,
                           ⟨(some 267), none, (.mv (.tmp 3))⟩,
                           ⟨(some 268), none, (.bin .neq (.tmp 267) (.const (.int .u32 0)))⟩,
                           ⟨(some 269), none, (.fad 3 false 1 (.tmp 2))⟩,
                           ⟨(some 270), none, (.ld false 1 (.tmp 269))⟩,
                           ⟨(some 271), none, (.call (.func 53) [(.tmp 266), (.tmp 268), (.tmp 270)])⟩])
                         (.seq
                          (.ops [
                            ⟨(some 273), none, (.bin .eql (.tmp 92) (.const (.int .i64 21)))⟩,
                            ⟨(some 272), none, (.mv (.tmp 273))⟩])
                          (.cond (.tmp 272)
                           (.seq
                            (.ops [
                              ⟨(some 274), none, (.mv (.tmp 0))⟩,
                              ⟨(some 275), none, (.fad 1 false 1 (.tmp 2))⟩,
                              ⟨(some 276), none, (.ld false 1 (.tmp 275))⟩,
                              ⟨(some 277), none, (.mv (.tmp 0))⟩,
                              ⟨(some 278), none, (.nck (.tmp 277))⟩,
                              ⟨(some 279), none, (.fad 0 true 22 (.tmp 278))⟩,
                              ⟨(some 280), none, (.fad 0 false 1 (.tmp 279))⟩,
                              ⟨(some 281), none, (.ld false 1 (.tmp 280))⟩,
                              ⟨(some 282), none, (.conv .u32 (.tmp 281))⟩,
                              ⟨(some 283), none, (.bin .add (.tmp 282) (.const (.int .u32 1)))⟩,
                              ⟨(some 284), none, (.nck (.tmp 274))⟩,
                              ⟨(some 285), none, (.fad 0 true 22 (.tmp 284))⟩,
                              ⟨(some 286), none, (.fad 1 true 16 (.tmp 285))⟩,
                              ⟨(some 287), none, (.aidx 16 false 1 (.tmp 286) (.tmp 276))⟩,
                              ⟨none, none, (.sto false 1 (.tmp 287) (.tmp 283))⟩])
                            (.ops [
                              ⟨(some 288), none, (.mv (.tmp 0))⟩,
                              ⟨(some 289), none, (.fad 3 false 1 (.tmp 2))⟩,
                              ⟨(some 290), none, (.ld false 1 (.tmp 289))⟩,
                              ⟨(some 291), none, (.nck (.tmp 288))⟩,
                              ⟨(some 292), none, (.fad 0 true 22 (.tmp 291))⟩,
                              ⟨(some 293), none, (.fad 0 false 1 (.tmp 292))⟩,
                              ⟨none, none, (.sto false 1 (.tmp 293) (.tmp 290))⟩]))
                           (.seq
                            (.ops [
                              ⟨(some 295), none, (.bin .eql (.tmp 92) (.const (.int .i64 22)))⟩,
                              ⟨(some 294), none, (.mv (.tmp 295))⟩])
                            (.cond (.tmp 294)
                             (.ops [
                               ⟨(some 296), none, (.mv (.tmp 0))⟩,
                               ⟨(some 297), none, (.mv (.tmp 3))⟩,
                               ⟨(some 298), none, (.conv .i64 (.tmp 297))⟩,
                               ⟨(some 299), none, (.nck (.tmp 296))⟩,
                               ⟨(some 300), none, (.fad 0 true 22 (.tmp 299))⟩,
                               ⟨(some 301), none, (.fad 0 false 1 (.tmp 300))⟩,
                               ⟨none, none, (.sto false 1 (.tmp 301) (.tmp 298))⟩])
                             (.seq
                              (.ops [
                                ⟨(some 303), none, (.bin .eql (.tmp 92) (.const (.int .i64 23)))⟩,
                                ⟨(some 302), none, (.mv (.tmp 303))⟩])
                              (.cond (.tmp 302)
                               (.seq
                                (.seq
                                 (.ops [
                                   ⟨(some 304), none, (.mv (.tmp 0))⟩,
                                   ⟨(some 305), none, (.nck (.tmp 304))⟩,
                                   ⟨(some 306), none, (.fad 0 true 22 (.tmp 305))⟩,
                                   ⟨(some 307), none, (.fad 18 false 1 (.tmp 306))⟩,
                                   ⟨(some 308), none, (.ld false 1 (.tmp 307))⟩,
                                   ⟨(some 309), none, (.bin .lss (.tmp 308) (.const (.int .i64 0)))⟩,
                                   ⟨(some 310), none, (.mv (.tmp 309))⟩,
                                   ⟨(some 311), (some (310, false)), (.mv (.tmp 0))⟩,
                                   ⟨(some 312), (some (310, false)), (.nck (.tmp 311))⟩,
                                   ⟨(some 313), (some (310, false)), (.fad 0 true 22 (.tmp 312))⟩,
                                   ⟨(some 314), (some (310, false)), (.fad 18 false 1 (.tmp 313))⟩,
                                   ⟨(some 315), (some (310, false)), (.ld false 1 (.tmp 314))⟩,
                                   ⟨(some 316), (some (310, false)), (.mv (.tmp 0))⟩,
                                   ⟨(some 317), (some (310, false)), (.nck (.tmp 316))⟩,
                                   ⟨(some 318), (some (310, false)), (.fad 26 false 1 (.tmp 317))⟩,
                                   ⟨(some 319), (some (310, false)), (.ld false 1 (.tmp 318))⟩,
                                   ⟨(some 320), (some (310, false)), (.lens (.tmp 319))⟩,
                                   ⟨(some 321), (some (310, false)), (.bin .geq (.tmp 315) (.tmp 320))⟩,
                                   ⟨(some 322), none, (.pick (.tmp 310) (.const (.bool true)) (.tmp 321))⟩])
                                 (.cond (.tmp 322)
                                  (.seq
                                   (.ops [
                                     ⟨(some 323), none, (.mv (.tmp 0))⟩,
                                     ⟨(some 324), none, (.fad 1 false 1 (.tmp 2))⟩,
                                     ⟨(some 325), none, (.ld false 1 (.tmp 324))⟩,
                                     ⟨(some 326), none, (.call (.func 51) [(.tmp 323), (.tmp 325), (.const (.int .u32 256))])⟩])
                                   .ret)
                                  .skip))
                                (.seq
                                 (.ops [
                                   ⟨(some 327), none, (.mv (.tmp 0))⟩,
                                   ⟨(some 328), none, (.nck (.tmp 327))⟩,
                                   ⟨(some 329), none, (.fad 26 false 1 (.tmp 328))⟩,
                                   ⟨(some 330), none, (.ld false 1 (.tmp 329))⟩,
                                   ⟨(some 331), none, (.mv (.tmp 0))⟩,
                                   ⟨(some 332), none, (.nck (.tmp 331))⟩,
                                   ⟨(some 333), none, (.fad 0 true 22 (.tmp 332))⟩,
                                   ⟨(some 334), none, (.fad 18 false 1 (.tmp 333))⟩,
                                   ⟨(some 335), none, (.ld false 1 (.tmp 334))⟩,
                                   ⟨(some 336), none, (.pur .six [(.tmp 330), (.tmp 335)])⟩,
                                   ⟨(some 337), none, (.conv .u32 (.tmp 336))⟩,
                                   ⟨(some 8), none, (.mv (.tmp 337))⟩])
                                 (.seq
                                  (.ops [
                                    ⟨(some 338), none, (.mv (.tmp 0))⟩,
                                    ⟨(some 339), none, (.nck (.tmp 338))⟩,
                                    ⟨(some 340), none, (.fad 0 true 22 (.tmp 339))⟩,
                                    ⟨(some 341), none, (.fad 18 false 1 (.tmp 340))⟩,
                                    ⟨(some 342), none, (.ld false 1 (.tmp 341))⟩,
                                    ⟨(some 343), none, (.bin .add (.tmp 342) (.const (.int .i64 1)))⟩,
                                    ⟨(some 344), none, (.nck (.tmp 338))⟩,
                                    ⟨(some 345), none, (.fad 0 true 22 (.tmp 344))⟩,
                                    ⟨(some 346), none, (.fad 18 false 1 (.tmp 345))⟩,
                                    ⟨none, none, (.sto false 1 (.tmp 346) (.tmp 343))⟩])
                                  (.ops [
                                    ⟨(some 347), none, (.mv (.tmp 0))⟩,
                                    ⟨(some 348), none, (.fad 1 false 1 (.tmp 2))⟩,
                                    ⟨(some 349), none, (.ld false 1 (.tmp 348))⟩,
                                    ⟨(some 350), none, (.mv (.tmp 8))⟩,
                                    ⟨(some 351), none, (.call (.func 51) [(.tmp 347), (.tmp 349), (.tmp 350)])⟩]))))
                               (.seq
                                (.ops [
                                  ⟨(some 353), none, (.bin .eql (.tmp 92) (.const (.int .i64 24)))⟩,
                                  ⟨(some 352), none, (.mv (.tmp 353))⟩])
                                (.cond (.tmp 352)
                                 (.seq
                                  (.seq
                                   (.ops [
                                     ⟨(some 354), none, (.mv (.tmp 0))⟩,
                                     ⟨(some 355), none, (.nck (.tmp 354))⟩,
                                     ⟨(some 356), none, (.fad 22 false 1 (.tmp 355))⟩,
                                     ⟨(some 357), none, (.ld false 1 (.tmp 356))⟩,
                                     ⟨(some 358), none, (.len (.tmp 357))⟩,
                                     ⟨(some 359), none, (.bin .geq (.tmp 358) (.const (.int .i64 65536)))⟩])
                                   (.cond (.tmp 359)
                                    (.seq
                                     (.ops [
                                       ⟨(some 360), none, (.mv (.tmp 0))⟩,
                                       ⟨(some 361), none, (.nck (.tmp 360))⟩,
                                       ⟨(some 362), none, (.fad 0 true 22 (.tmp 361))⟩,
                                       ⟨(some 363), none, (.fad 21 false 1 (.tmp 362))⟩,
                                       ⟨none, none, (.sto false 1 (.tmp 363) (.const (.int .i64 4)))⟩])
                                     .ret)
                                    .skip))
                                  (.seq
                                   (.ops [
                                     ⟨(some 364), none, (.mv (.tmp 0))⟩,
                                     ⟨(some 365), none, (.mv (.tmp 0))⟩,
                                     ⟨(some 366), none, (.nck (.tmp 365))⟩,
                                     ⟨(some 367), none, (.fad 22 false 1 (.tmp 366))⟩,
                                     ⟨(some 368), none, (.ld false 1 (.tmp 367))⟩,
                                     ⟨(some 369), none, (.mv (.tmp 3))⟩,
                                     ⟨(some 370), none, (.bin .rem (.tmp 369) (.const (.int .u32 256)))⟩,
                                     ⟨(some 371), none, (.conv .u8 (.tmp 370))⟩,
                                     ⟨(some 372), none, (.bsl 5 1 1 [(.int .u8 0)] [(0, (1, (.tmp 371)))])⟩,
                                     ⟨(some 373), none, (.app 5 1 1 (.tmp 368) (.tmp 372))⟩,
                                     ⟨(some 374), none, (.nck (.tmp 364))⟩,
                                     ⟨(some 375), none, (.fad 22 false 1 (.tmp 374))⟩,
                                     ⟨none, none, (.sto false 1 (.tmp 375) (.tmp 373))⟩])
                                   (.ops [
                                     ⟨(some 376), none, (.mv (.tmp 0))⟩,
                                     ⟨(some 377), none, (.nck (.tmp 376))⟩,
                                     ⟨(some 378), none, (.fad 0 true 22 (.tmp 377))⟩,
                                     ⟨(some 379), none, (.fad 0 false 1 (.tmp 378))⟩,
                                     ⟨(some 380), none, (.ld false 1 (.tmp 379))⟩,
                                     ⟨(some 381), none, (.bin .add (.tmp 380) (.const (.int .i64 1)))⟩,
                                     ⟨(some 382), none, (.nck (.tmp 376))⟩,
                                     ⟨(some 383), none, (.fad 0 true 22 (.tmp 382))⟩,
                                     ⟨(some 384), none, (.fad 0 false 1 (.tmp 383))⟩,
                                     ⟨none, none, (.sto false 1 (.tmp 384) (.tmp 381))⟩])))
                                 (.seq
                                  (.ops [
                                    ⟨(some 386), none, (.bin .eql (.tmp 92) (.const (.int .i64 25)))⟩,
                                    ⟨(some 385), none, (.mv (.tmp 386))⟩])
                                  (.cond (.tmp 385)
                                   (.seq
                                    (.seq
                                     (.ops [
                                       ⟨(some 387), none, (.mv (.tmp 3))⟩,
                                       ⟨(some 388), none, (.fad 3 false 1 (.tmp 2))⟩,
                                       ⟨(some 389), none, (.ld false 1 (.tmp 388))⟩,
                                       ⟨(some 390), none, (.conv .u32 (.tmp 389))⟩,
                                       ⟨(some 391), none, (.bin .geq (.tmp 387) (.tmp 390))⟩])
                                     (.cond (.tmp 391)
                                      (.seq
                                       (.ops [
                                         ⟨(some 392), none, (.mv (.tmp 0))⟩,
                                         ⟨(some 393), none, (.nck (.tmp 392))⟩,
                                         ⟨(some 394), none, (.fad 0 true 22 (.tmp 393))⟩,
                                         ⟨(some 395), none, (.fad 21 false 1 (.tmp 394))⟩,
                                         ⟨none, none, (.sto false 1 (.tmp 395) (.const (.int .i64 3)))⟩])
                                       .ret)
                                      .skip))
                                    (.ops [
                                      ⟨(some 396), none, (.mv (.tmp 0))⟩,
                                      ⟨(some 397), none, (.nck (.tmp 396))⟩,
                                      ⟨(some 398), none, (.fad 0 true 22 (.tmp 397))⟩,
                                      ⟨(some 399), none, (.fad 0 false 1 (.tmp 398))⟩,
                                      ⟨(some 400), none, (.ld false 1 (.tmp 399))⟩,
                                      ⟨(some 401), none, (.bin .add (.tmp 400) (.const (.int .i64 1)))⟩,
                                      ⟨(some 402), none, (.nck (.tmp 396))⟩,
                                      ⟨(some 403), none, (.fad 0 true 22 (.tmp 402))⟩,
                                      ⟨(some 404), none, (.fad 0 false 1 (.tmp 403))⟩,
                                      ⟨none, none, (.sto false 1 (.tmp 404) (.tmp 401))⟩]))
                                   (.seq
                                    (.ops [
                                      ⟨(some 406), none, (.bin .eql (.tmp 92) (.const (.int .i64 26)))⟩,
                                      ⟨(some 405), none, (.mv (.tmp 406))⟩])
                                    (.cond (.tmp 405)
                                     (.ops [
                                       ⟨(some 407), none, (.mv (.tmp 0))⟩,
                                       ⟨(some 408), none, (.nck (.tmp 407))⟩,
                                       ⟨(some 409), none, (.fad 0 true 22 (.tmp 408))⟩,
                                       ⟨(some 410), none, (.fad 21 false 1 (.tmp 409))⟩,
                                       ⟨none, none, (.sto false 1 (.tmp 410) (.const (.int .i64 1)))⟩])
                                     (.seq
                                      (.par false (.one ⟨(some 94), none, (.fad 0 false 1 (.tmp 2))⟩ (.one ⟨(some 95), none, (.ld false 1 (.tmp 94))⟩ (.one ⟨(some 96), none, (.mv (.tmp 0))⟩ (.one ⟨(some 97), none, (.fad 2 false 1 (.tmp 2))⟩ (.one ⟨(some 98), none, (.ld false 1 (.tmp 97))⟩ (.one ⟨(some 99), none, (.nck (.tmp 96))⟩ (.one ⟨(some 100), none, (.fad 0 true 22 (.tmp 99))⟩ (.one ⟨(some 101), none, (.fad 1 true 16 (.tmp 100))⟩ (.one ⟨(some 102), none, (.aidx 16 false 1 (.tmp 101) (.tmp 98))⟩ (.one ⟨(some 103), none, (.ld false 1 (.tmp 102))⟩ (.one ⟨(some 104), none, (.mv (.tmp 0))⟩ (.one ⟨(some 105), none, (.fad 3 false 1 (.tmp 2))⟩ (.one ⟨(some 106), none, (.ld false 1 (.tmp 105))⟩ (.one ⟨(some 107), none, (.nck (.tmp 104))⟩ (.one ⟨(some 108), none, (.fad 0 true 22 (.tmp 107))⟩ (.one ⟨(some 109), none, (.fad 1 true 16 (.tmp 108))⟩ (.one ⟨(some 110), none, (.aidx 16 false 1 (.tmp 109) (.tmp 106))⟩ (.one ⟨(some 111), none, (.ld false 1 (.tmp 110))⟩ (.one ⟨(some 112), none, (.call (.func 54) [(.tmp 95), (.tmp 103), (.tmp 111)])⟩ (.one ⟨(some 93), none, (.mv (.tmp 112))⟩ (.one ⟨(some 113), none, (.ext (.tmp 93) 0)⟩ (.one ⟨(some 114), none, (.ext (.tmp 93) 1)⟩ (.one ⟨(some 9), none, (.mv (.tmp 113))⟩ (.one ⟨(some 10), none, (.mv (.tmp 114))⟩ .done)))))))))))))))))))))))))
                                      (.seq
                                       (.seq
                                        (.ops [
                                          ⟨(some 115), none, (.mv (.tmp 10))⟩,
                                          ⟨(some 116), none, (.bin .neq (.tmp 115) (.const (.int .i64 0)))⟩])
                                        (.cond (.tmp 116)
                                         (.seq
                                          (.ops [
                                            ⟨(some 117), none, (.mv (.tmp 0))⟩,
                                            ⟨(some 118), none, (.nck (.tmp 117))⟩,
                                            ⟨(some 119), none, (.fad 0 true 22 (.tmp 118))⟩,
                                            ⟨(some 120), none, (.fad 21 false 1 (.tmp 119))⟩,
                                            ⟨none, none, (.sto false 1 (.tmp 120) (.const (.int .i64 2)))⟩])
                                          .ret)
                                         .skip))
                                       (.ops [
                                         ⟨(some 121), none, (.mv (.tmp 0))⟩,
                                         ⟨(some 122), none, (.fad 1 false 1 (.tmp 2))⟩,
                                         ⟨(some 123), none, (.ld false 1 (.tmp 122))⟩,
                                         ⟨(some 124), none, (.mv (.tmp 9))⟩,
                                         ⟨(some 125), none, (.call (.func 51) [(.tmp 121), (.tmp 123), (.tmp 124)])⟩])))))))))))))))))))))))))))))))))))))))
theorem f_scref10_work_step : compF Try.prog 43 = some (411, c_scref10_work_step, []) := by kernel_rfl

/-- seedcorn/seedcornref07.Parts -/
def c_scref07_Parts : VC :=
 (.seq
  (.ops [
    ⟨(some 2), none, (.mv (.const (.string ⟨#[]⟩)))⟩])
  (.seq
   (.seq
    (.ops [
      ⟨(some 3), none, (.mv (.tmp 0))⟩])
    (.block 0
     (.seq
      (.seq
       (.ops [
         ⟨(some 5), none, (.bin .eql (.tmp 3) (.const (.int .i64 1)))⟩,
         ⟨(some 4), none, (.mv (.tmp 5))⟩])
       (.cond (.tmp 4)
        .skip
        (.seq
         (.ops [
           ⟨(some 6), none, (.bin .eql (.tmp 3) (.const (.int .i64 2)))⟩,
           ⟨(some 4), none, (.mv (.tmp 6))⟩])
         (.cond (.tmp 4)
          .skip
          (.seq
           (.ops [
             ⟨(some 7), none, (.bin .eql (.tmp 3) (.const (.int .i64 19)))⟩,
             ⟨(some 4), none, (.mv (.tmp 7))⟩])
           (.cond (.tmp 4)
            .skip
            (.seq
             (.ops [
               ⟨(some 8), none, (.bin .eql (.tmp 3) (.const (.int .i64 20)))⟩,
               ⟨(some 4), none, (.mv (.tmp 8))⟩])
             (.cond (.tmp 4)
              .skip
              (.seq
               (.ops [
                 ⟨(some 9), none, (.bin .eql (.tmp 3) (.const (.int .i64 21)))⟩,
                 ⟨(some 4), none, (.mv (.tmp 9))⟩])
               (.cond (.tmp 4)
                .skip
                (.ops [
                  ⟨(some 10), none, (.bin .eql (.tmp 3) (.const (.int .i64 25)))⟩,
                  ⟨(some 4), none, (.mv (.tmp 10))⟩])))))))))))
      (.cond (.tmp 4)
       (.seq
        (.ops [
          ⟨(some 2), none, (.mv (.const (.string ⟨#[97, 99]⟩)))⟩])
        .ret)
       (.seq
        (.ops [
          ⟨(some 12), none, (.bin .eql (.tmp 3) (.const (.int .i64 3)))⟩,
          ⟨(some 11), none, (.mv (.tmp 12))⟩])
        (.cond (.tmp 11)
         (.seq
          (.ops [
            ⟨(some 2), none, (.mv (.const (.string ⟨#[97, 98]⟩)))⟩])
          .ret)
         (.seq
          (.seq
           (.ops [
             ⟨(some 14), none, (.bin .eql (.tmp 3) (.const (.int .i64 16)))⟩,
             ⟨(some 13), none, (.mv (.tmp 14))⟩])
           (.cond (.tmp 13)
            .skip
            (.seq
             (.ops [
               ⟨(some 15), none, (.bin .eql (.tmp 3) (.const (.int .i64 17)))⟩,
               ⟨(some 13), none, (.mv (.tmp 15))⟩])
             (.cond (.tmp 13)
              .skip
              (.ops [
                ⟨(some 16), none, (.bin .eql (.tmp 3) (.const (.int .i64 27)))⟩,
                ⟨(some 13), none, (.mv (.tmp 16))⟩])))))
          (.cond (.tmp 13)
           (.seq
            (.ops [
              ⟨(some 2), none, (.mv (.const (.string ⟨#[97, 98, 99]⟩)))⟩])
            .ret)
           (.seq
            (.ops [
              ⟨(some 18), none, (.bin .eql (.tmp 3) (.const (.int .i64 18)))⟩,
              ⟨(some 17), none, (.mv (.tmp 18))⟩])
            (.cond (.tmp 17)
             (.seq
              (.ops [
                ⟨(some 2), none, (.mv (.const (.string ⟨#[99]⟩)))⟩])
              .ret)
             (.seq
              (.seq
               (.ops [
                 ⟨(some 20), none, (.bin .eql (.tmp 3) (.const (.int .i64 22)))⟩,
                 ⟨(some 19), none, (.mv (.tmp 20))⟩])
               (.cond (.tmp 19)
                .skip
                (.seq
                 (.ops [
                   ⟨(some 21), none, (.bin .eql (.tmp 3) (.const (.int .i64 23)))⟩,
                   ⟨(some 19), none, (.mv (.tmp 21))⟩])
                 (.cond (.tmp 19)
                  .skip
                  (.ops [
                    ⟨(some 22), none, (.bin .eql (.tmp 3) (.const (.int .i64 24)))⟩,
                    ⟨(some 19), none, (.mv (.tmp 22))⟩])))))
              (.cond (.tmp 19)
               (.seq
                (.ops [
                  ⟨(some 2), none, (.mv (.const (.string ⟨#[97]⟩)))⟩])
                .ret)
               (.seq
                (.ops [
                  ⟨(some 24), none, (.bin .eql (.tmp 3) (.const (.int .i64 26)))⟩,
                  ⟨(some 23), none, (.mv (.tmp 24))⟩])
                (.cond (.tmp 23)
                 (.seq
                  (.ops [
                    ⟨(some 2), none, (.mv (.const (.string ⟨#[]⟩)))⟩])
                  .ret)
                 .skip))))))))))))))
   (.seq
    (.seq
     (.ops [
       ⟨(some 25), none, (.mv (.tmp 0))⟩,
       ⟨(some 26), none, (.bin .geq (.tmp 25) (.const (.int .i64 4)))⟩,
       ⟨(some 27), none, (.mv (.tmp 26))⟩,
       ⟨(some 28), (some (27, true)), (.mv (.tmp 0))⟩,
       ⟨(some 29), (some (27, true)), (.bin .leq (.tmp 28) (.const (.int .i64 15)))⟩,
       ⟨(some 30), none, (.pick (.tmp 27) (.tmp 29) (.const (.bool false)))⟩])
     (.cond (.tmp 30)
      (.seq
       (.ops [
         ⟨(some 2), none, (.mv (.const (.string ⟨#[97, 98, 114]⟩)))⟩])
       .ret)
      .skip))
    (.seq
     (.ops [
       ⟨(some 2), none, (.mv (.const (.string ⟨#[63]⟩)))⟩])
     .ret))))
theorem f_scref07_Parts : compF Try.prog 44 = some (31, c_scref07_Parts, [(.tmp 2)]) := by kernel_rfl

/-- seedcorn/seedcornref07.has -/
def c_scref07_has : VC :=
 (.seq
  (.ops [
    ⟨(some 4), none, (.mv (.const (.bool false)))⟩])
  (.seq
   (.seq
    (.ops [
      ⟨(some 5), none, (.mv (.const (.int .i64 0)))⟩])
    (.block 0
     (.loop
      (.seq
       (.seq
        (.ops [
          ⟨(some 6), none, (.mv (.tmp 5))⟩,
          ⟨(some 7), none, (.mv (.tmp 0))⟩,
          ⟨(some 8), none, (.lens (.tmp 7))⟩,
          ⟨(some 9), none, (.bin .lss (.tmp 6) (.tmp 8))⟩])
        (.cond (.tmp 9)
         .skip
         (.exit 0)))
       (.seq
        (.block 1
         (.seq
          (.ops [
            ⟨(some 12), none, (.mv (.tmp 0))⟩,
            ⟨(some 13), none, (.mv (.tmp 5))⟩,
            ⟨(some 14), none, (.pur .six [(.tmp 12), (.tmp 13)])⟩,
            ⟨(some 15), none, (.mv (.tmp 1))⟩,
            ⟨(some 16), none, (.bin .eql (.tmp 14) (.tmp 15))⟩])
          (.cond (.tmp 16)
           (.seq
            (.ops [
              ⟨(some 4), none, (.mv (.const (.bool true)))⟩])
            .ret)
           .skip)))
        (.ops [
          ⟨(some 10), none, (.mv (.tmp 5))⟩,
          ⟨(some 11), none, (.bin .add (.tmp 10) (.const (.int .i64 1)))⟩,
          ⟨(some 5), none, (.mv (.tmp 11))⟩]))))))
   (.seq
    (.ops [
      ⟨(some 4), none, (.mv (.const (.bool false)))⟩])
    .ret)))
theorem f_scref07_has : compF Try.prog 45 = some (17, c_scref07_has, [(.tmp 4)]) := by kernel_rfl

/-- seedcorn/seedcornref07.within -/
def c_scref07_within : VC :=
 (.seq
  (.ops [
    ⟨(some 6), none, (.mv (.const (.bool false)))⟩])
  (.seq
   (.seq
    (.ops [
      ⟨(some 7), none, (.mv (.tmp 0))⟩,
      ⟨(some 8), none, (.un .not (.tmp 7))⟩])
    (.cond (.tmp 8)
     (.seq
      (.ops [
        ⟨(some 9), none, (.mv (.tmp 1))⟩,
        ⟨(some 10), none, (.bin .eql (.tmp 9) (.const (.int .i64 0)))⟩,
        ⟨(some 6), none, (.mv (.tmp 10))⟩])
      .ret)
     .skip))
   (.seq
    (.ops [
      ⟨(some 11), none, (.mv (.tmp 1))⟩,
      ⟨(some 12), none, (.bin .geq (.tmp 11) (.const (.int .i64 0)))⟩,
      ⟨(some 13), none, (.mv (.tmp 12))⟩,
      ⟨(some 14), (some (13, true)), (.mv (.tmp 1))⟩,
      ⟨(some 15), (some (13, true)), (.mv (.tmp 2))⟩,
      ⟨(some 16), (some (13, true)), (.bin .leq (.tmp 14) (.tmp 15))⟩,
      ⟨(some 17), none, (.pick (.tmp 13) (.tmp 16) (.const (.bool false)))⟩,
      ⟨(some 6), none, (.mv (.tmp 17))⟩])
    .ret)))
theorem f_scref07_within : compF Try.prog 46 = some (18, c_scref07_within, [(.tmp 6)]) := by kernel_rfl

/-- seedcorn/inst.Decode -/
def c_inst_Decode : VC :=
 (.seq
  (.ops [
    ⟨(some 2), none, (.alc 47 [(.int .i64 0), (.int .i64 0), (.int .i64 0), (.int .i64 0)])⟩,
    ⟨(some 3), none, (.mv (.const (.int .i64 0)))⟩])
  (.seq
   (.ops [
     ⟨(some 5), none, (.mv (.tmp 0))⟩,
     ⟨(some 6), none, (.bin .shr (.tmp 5) (.const (.int .u64 24)))⟩,
     ⟨(some 7), none, (.conv .i64 (.tmp 6))⟩,
     ⟨(some 8), none, (.mv (.tmp 0))⟩,
     ⟨(some 9), none, (.bin .shr (.tmp 8) (.const (.int .u64 20)))⟩,
     ⟨(some 10), none, (.bin .and (.tmp 9) (.const (.int .u32 15)))⟩,
     ⟨(some 11), none, (.conv .i64 (.tmp 10))⟩,
     ⟨(some 12), none, (.mv (.tmp 0))⟩,
     ⟨(some 13), none, (.bin .shr (.tmp 12) (.const (.int .u64 16)))⟩,
     ⟨(some 14), none, (.bin .and (.tmp 13) (.const (.int .u32 15)))⟩,
     ⟨(some 15), none, (.conv .i64 (.tmp 14))⟩,
     ⟨(some 16), none, (.mv (.tmp 0))⟩,
     ⟨(some 17), none, (.bin .and (.tmp 16) (.const (.int .u32 65535)))⟩,
     ⟨(some 18), none, (.conv .i64 (.tmp 17))⟩,
     ⟨(some 19), none, (.bld [(.int .i64 0), (.int .i64 0), (.int .i64 0), (.int .i64 0)] [(0, (1, (.tmp 7))), (1, (1, (.tmp 11))), (2, (1, (.tmp 15))), (3, (1, (.tmp 18)))])⟩,
     ⟨(some 4), none, (.alc 47 [(.int .i64 0), (.int .i64 0), (.int .i64 0), (.int .i64 0)])⟩,
     ⟨none, none, (.sto true 4 (.tmp 4) (.tmp 19))⟩])
   (.seq
    (.seq
     (.ops [
       ⟨(some 20), none, (.ld true 4 (.tmp 4))⟩,
       ⟨(some 21), none, (.call (.func 55) [(.tmp 20)])⟩,
       ⟨(some 22), none, (.un .not (.tmp 21))⟩])
     (.cond (.tmp 22)
      (.seq
       (.ops [
         ⟨(some 23), none, (.bld [(.int .i64 0), (.int .i64 0), (.int .i64 0), (.int .i64 0)] [])⟩,
         ⟨none, none, (.sto true 4 (.tmp 2) (.tmp 23))⟩,
         ⟨(some 3), none, (.mv (.const (.int .i64 7)))⟩])
       .ret)
      .skip))
    (.seq
     (.ops [
       ⟨(some 24), none, (.ld true 4 (.tmp 4))⟩,
       ⟨none, none, (.sto true 4 (.tmp 2) (.tmp 24))⟩,
       ⟨(some 3), none, (.mv (.const (.int .i64 0)))⟩])
     .ret))))
theorem f_inst_Decode : compF Try.prog 47 = some (25, c_inst_Decode, [(.cell 2 true 4), (.tmp 3)]) := by kernel_rfl

/-- (*seedcorn/machine.Runner).do -/
def c_machine_Runner_do : VC :=
 (.seq
  (.ops [
    ⟨(some 3), none, (.box 47 (.tmp 1))⟩,
    ⟨(some 4), none, (.mv (.const (.int .i64 0)))⟩])
  (.seq
   (.ops [
     ⟨(some 8), none, (.mv (.tmp 0))⟩,
     ⟨(some 9), none, (.nck (.tmp 8))⟩,
     ⟨(some 10), none, (.fad 2 true 22 (.tmp 9))⟩,
     ⟨(some 11), none, (.fad 1 true 16 (.tmp 10))⟩,
     ⟨(some 5), none, (.mv (.tmp 11))⟩])
   (.seq
    (.seq
     (.ops [
       ⟨(some 12), none, (.fad 0 false 1 (.tmp 3))⟩,
       ⟨(some 13), none, (.ld false 1 (.tmp 12))⟩])
     (.block 0
      (.seq
       (.seq
        (.ops [
          ⟨(some 41), none, (.bin .eql (.tmp 13) (.const (.int .i64 18)))⟩,
          ⟨(some 40), none, (.mv (.tmp 41))⟩])
        (.cond (.tmp 40)
         .skip
         (.seq
          (.ops [
            ⟨(some 42), none, (.bin .eql (.tmp 13) (.const (.int .i64 19)))⟩,
            ⟨(some 40), none, (.mv (.tmp 42))⟩])
          (.cond (.tmp 40)
           .skip
           (.seq
            (.ops [
              ⟨(some 43), none, (.bin .eql (.tmp 13) (.const (.int .i64 20)))⟩,
              ⟨(some 40), none, (.mv (.tmp 43))⟩])
            (.cond (.tmp 40)
             .skip
             (.seq
              (.ops [
                ⟨(some 44), none, (.bin .eql (.tmp 13) (.const (.int .i64 21)))⟩,
                ⟨(some 40), none, (.mv (.tmp 44))⟩])
              (.cond (.tmp 40)
               .skip
               (.ops [
                 ⟨(some 45), none, (.bin .eql (.tmp 13) (.const (.int .i64 22)))⟩,
                 ⟨(some 40), none, (.mv (.tmp 45))⟩])))))))))
       (.cond (.tmp 40)
        (.seq
         (.ops [
           ⟨(some 46), none, (.mv (.tmp 0))⟩,
           ⟨(some 47), none, (.ld true 4 (.tmp 3))⟩,
           ⟨(some 48), none, (.call (.func 56) [(.tmp 46), (.tmp 47)])⟩])
         (.seq
          (.ops [
            ⟨(some 4), none, (.mv (.const (.int .i64 0)))⟩])
          .ret))
        (.seq
         (.ops [
           ⟨(some 50), none, (.bin .eql (.tmp 13) (.const (.int .i64 1)))⟩,
           ⟨(some 49), none, (.mv (.tmp 50))⟩])
         (.cond (.tmp 49)
          (.ops [
            ⟨(some 51), none, (.mv (.tmp 5))⟩,
            ⟨(some 52), none, (.fad 1 false 1 (.tmp 3))⟩,
            ⟨(some 53), none, (.ld false 1 (.tmp 52))⟩,
            ⟨(some 54), none, (.fad 3 false 1 (.tmp 3))⟩,
            ⟨(some 55), none, (.ld false 1 (.tmp 54))⟩,
            ⟨(some 56), none, (.conv .u32 (.tmp 55))⟩,
            ⟨(some 57), none, (.nck (.tmp 51))⟩,
            ⟨(some 58), none, (.aidx 16 false 1 (.tmp 57) (.tmp 53))⟩,
            ⟨none, none, (.sto false 1 (.tmp 58) (.tmp 56))⟩])
          (.seq
           (.ops [
             ⟨(some 60), none, (.bin .eql (.tmp 13) (.const (.int .i64 2)))⟩,
             ⟨(some 59), none, (.mv (.tmp 60))⟩])
           (.cond (.tmp 59)
            (.ops [
              ⟨(some 61), none, (.mv (.tmp 5))⟩,
              ⟨(some 62), none, (.fad 1 false 1 (.tmp 3))⟩,
              ⟨(some 63), none, (.ld false 1 (.tmp 62))⟩,
              ⟨(some 64), none, (.mv (.tmp 5))⟩,
              ⟨(some 65), none, (.fad 1 false 1 (.tmp 3))⟩,
              ⟨(some 66), none, (.ld false 1 (.tmp 65))⟩,
              ⟨(some 67), none, (.nck (.tmp 64))⟩,
              ⟨(some 68), none, (.aidx 16 false 1 (.tmp 67) (.tmp 66))⟩,
              ⟨(some 69), none, (.ld false 1 (.tmp 68))⟩,
              ⟨(some 70), none, (.bin .and (.tmp 69) (.const (.int .u32 65535)))⟩,
              ⟨(some 71), none, (.fad 3 false 1 (.tmp 3))⟩,
              ⟨(some 72), none, (.ld false 1 (.tmp 71))⟩,
              ⟨(some 73), none, (.conv .u32 (.tmp 72))⟩,
              ⟨(some 74), none, (.bin .shl (.tmp 73) (.const (.int .u64 16)))⟩,
              ⟨(some 75), none, (.bin .or (.tmp 70) (.tmp 74))⟩,
              ⟨(some 76), none, (.nck (.tmp 61))⟩,
              ⟨(some 77), none, (.aidx 16 false 1 (.tmp 76) (.tmp 63))⟩,
              ⟨none, none, (.sto false 1 (.tmp 77) (.tmp 75))⟩])
            (.seq
             (.ops [
               ⟨(some 79), none, (.bin .eql (.tmp 13) (.const (.int .i64 3)))⟩,
               ⟨(some 78), none, (.mv (.tmp 79))⟩])
             (.cond (.tmp 78)
              (.ops [
                ⟨(some 80), none, (.mv (.tmp 5))⟩,
                ⟨(some 81), none, (.fad 1 false 1 (.tmp 3))⟩,
                ⟨(some 82), none, (.ld false 1 (.tmp 81))⟩,
                ⟨(some 83), none, (.mv (.tmp 5))⟩,
                ⟨(some 84), none, (.fad 2 false 1 (.tmp 3))⟩,
                ⟨(some 85), none, (.ld false 1 (.tmp 84))⟩,
                ⟨(some 86), none, (.nck (.tmp 83))⟩,
                ⟨(some 87), none, (.aidx 16 false 1 (.tmp 86) (.tmp 85))⟩,
                ⟨(some 88), none, (.ld false 1 (.tmp 87))⟩,
                ⟨(some 89), none, (.nck (.tmp 80))⟩,
                ⟨(some 90), none, (.aidx 16 false 1 (.tmp 89) (.tmp 82))⟩,
                ⟨none, none, (.sto false 1 (.tmp 90) (.tmp 88))⟩])
              (.seq
               (.seq
                (.ops [
                  ⟨(some 92), none, (.bin .eql (.tmp 13) (.const (.int .i64 16)))⟩,
                  ⟨(some 91), none, (.mv (.tmp 92))⟩])
                (.cond (.tmp 91)
                 .skip
                 (.seq
                  (.ops [
                    ⟨(some 93), none, (.bin .eql (.tmp 13) (.const (.int .i64 17)))⟩,
                    ⟨(some 91), none, (.mv (.tmp 93))⟩])
                  (.cond (.tmp 91)
                   .skip
                   (.ops [
                     ⟨(some 94), none, (.bin .eql (.tmp 13) (.const (.int .i64 27)))⟩,
                     ⟨(some 91), none, (.mv (.tmp 94))⟩])))))
               (.cond (.tmp 91)
                (.seq
                 (.ops [
                   ⟨(some 95), none, (.mv (.tmp 0))⟩,
                   ⟨(some 96), none, (.ld true 4 (.tmp 3))⟩,
                   ⟨(some 97), none, (.call (.func 57) [(.tmp 95), (.tmp 96)])⟩,
                   ⟨(some 98), none, (.un .not (.tmp 97))⟩])
                 (.cond (.tmp 98)
                  (.seq
                   (.ops [
                     ⟨(some 4), none, (.mv (.const (.int .i64 8)))⟩])
                   .ret)
                  .skip))
                (.seq
                 (.ops [
                   ⟨(some 100), none, (.bin .eql (.tmp 13) (.const (.int .i64 23)))⟩,
                   ⟨(some 99), none, (.mv (.tmp 100))⟩])
                 (.cond (.tmp 99)
                  (.ops [
                    ⟨(some 101), none, (.mv (.tmp 0))⟩,
                    ⟨(some 102), none, (.fad 1 false 1 (.tmp 3))⟩,
                    ⟨(some 103), none, (.ld false 1 (.tmp 102))⟩,
                    ⟨(some 104), none, (.call (.func 58) [(.tmp 101), (.tmp 103)])⟩])
                  (.seq
                   (.ops [
                     ⟨(some 106), none, (.bin .eql (.tmp 13) (.const (.int .i64 24)))⟩,
                     ⟨(some 105), none, (.mv (.tmp 106))⟩])
                   (.cond (.tmp 105)
                    (.seq
                     (.seq
                      (.ops [
                        ⟨(some 107), none, (.mv (.tmp 0))⟩,
                        ⟨(some 108), none, (.nck (.tmp 107))⟩,
                        ⟨(some 109), none, (.fad 2 true 22 (.tmp 108))⟩,
                        ⟨(some 110), none, (.fad 19 false 1 (.tmp 109))⟩,
                        ⟨(some 111), none, (.ld false 1 (.tmp 110))⟩,
                        ⟨(some 112), none, (.lens (.tmp 111))⟩,
                        ⟨(some 113), none, (.mv (.tmp 0))⟩,
                        ⟨(some 114), none, (.nck (.tmp 113))⟩,
                        ⟨(some 115), none, (.fad 25 false 1 (.tmp 114))⟩,
                        ⟨(some 116), none, (.ld false 1 (.tmp 115))⟩,
                        ⟨(some 117), none, (.len (.tmp 116))⟩,
                        ⟨(some 118), none, (.bin .add (.tmp 112) (.tmp 117))⟩,
                        ⟨(some 119), none, (.bin .geq (.tmp 118) (.const (.int .i64 65536)))⟩])
                      (.cond (.tmp 119)
                       (.seq
                        (.ops [
                          ⟨(some 4), none, (.mv (.const (.int .i64 4)))⟩])
                        .ret)
                       .skip))
                     (.par false (.one ⟨(some 120), none, (.mv (.tmp 0))⟩ (.one ⟨(some 121), none, (.mv (.tmp 0))⟩ (.one ⟨(some 122), none, (.nck (.tmp 121))⟩ (.one ⟨(some 123), none, (.fad 25 false 1 (.tmp 122))⟩ (.one ⟨(some 124), none, (.ld false 1 (.tmp 123))⟩ (.one ⟨(some 125), none, (.mv (.tmp 5))⟩ (.one ⟨(some 126), none, (.fad 1 false 1 (.tmp 3))⟩ (.one ⟨(some 127), none, (.ld false 1 (.tmp 126))⟩ (.one ⟨(some 128), none, (.nck (.tmp 125))⟩ (.one ⟨(some 129), none, (.aidx 16 false 1 (.tmp 128) (.tmp 127))⟩ (.one ⟨(some 130), none, (.ld false 1 (.tmp 129))⟩ (.one ⟨(some 131), none, (.conv .u8 (.tmp 130))⟩ (.one ⟨(some 132), none, (.bsl 5 1 1 [(.int .u8 0)] [(0, (1, (.tmp 131)))])⟩ (.one ⟨(some 133), none, (.app 5 1 1 (.tmp 124) (.tmp 132))⟩ (.one ⟨(some 134), none, (.nck (.tmp 120))⟩ (.one ⟨(some 135), none, (.fad 25 false 1 (.tmp 134))⟩ (.one ⟨none, none, (.sto false 1 (.tmp 135) (.tmp 133))⟩ .done)))))))))))))))))))
                    (.seq
                     (.ops [
                       ⟨(some 137), none, (.bin .eql (.tmp 13) (.const (.int .i64 25)))⟩,
                       ⟨(some 136), none, (.mv (.tmp 137))⟩])
                     (.cond (.tmp 136)
                      (.seq
                       (.ops [
                         ⟨(some 138), none, (.mv (.tmp 5))⟩,
                         ⟨(some 139), none, (.fad 1 false 1 (.tmp 3))⟩,
                         ⟨(some 140), none, (.ld false 1 (.tmp 139))⟩,
                         ⟨(some 141), none, (.nck (.tmp 138))⟩,
                         ⟨(some 142), none, (.aidx 16 false 1 (.tmp 141) (.tmp 140))⟩,
                         ⟨(some 143), none, (.ld false 1 (.tmp 142))⟩,
                         ⟨(some 144), none, (.fad 3 false 1 (.tmp 3))⟩,
                         ⟨(some 145), none, (.ld false 1 (.tmp 144))⟩,
                         ⟨(some 146), none, (.conv .u32 (.tmp 145))⟩,
                         ⟨(some 147), none, (.bin .geq (.tmp 143) (.tmp 146))⟩])
                       (.cond (.tmp 147)
                        (.seq
                         (.ops [
                           ⟨(some 4), none, (.mv (.const (.int .i64 3)))⟩])
                         .ret)
                        .skip))
                      (.seq
                       (.ops [
                         ⟨(some 149), none, (.bin .eql (.tmp 13) (.const (.int .i64 26)))⟩,
                         ⟨(some 148), none, (.mv (.tmp 149))⟩])
                       (.cond (.tmp 148)
                        (.seq
                         (.ops [
                           ⟨(some 4), none, (.mv (.const (.int .i64 1)))⟩])
                         .ret)
                        (.seq
                         (.par false (.one ⟨(some 15), none, (.fad 0 false 1 (.tmp 3))⟩ (.one ⟨(some 16), none, (.ld false 1 (.tmp 15))⟩ (.one ⟨(some 17), none, (.mv (.tmp 5))⟩ (.one ⟨(some 18), none, (.fad 2 false 1 (.tmp 3))⟩ (.one ⟨(some 19), none, (.ld false 1 (.tmp 18))⟩ (.one ⟨(some 20), none, (.nck (.tmp 17))⟩ (.one ⟨(some 21), none, (.aidx 16 false 1 (.tmp 20) (.tmp 19))⟩ (.one ⟨(some 22), none, (.ld false 1 (.tmp 21))⟩ (.one ⟨(some 23), none, (.mv (.tmp 5))⟩ (.one ⟨(some 24), none, (.fad 3 false 1 (.tmp 3))⟩ (.one ⟨(some 25), none, (.ld false 1 (.tmp 24))⟩ (.one ⟨(some 26), none, (.nck (.tmp 23))⟩ (.one ⟨(some 27), none, (.aidx 16 false 1 (.tmp 26) (.tmp 25))⟩ (.one ⟨(some 28), none, (.ld false 1 (.tmp 27))⟩ (.one ⟨(some 29), none, (.call (.func 59) [(.tmp 16), (.tmp 22), (.tmp 28)])⟩ (.one ⟨(some 14), none, (.mv (.tmp 29))⟩ (.one ⟨(some 30), none, (.ext (.tmp 14) 0)⟩ (.one ⟨(some 31), none, (.ext (.tmp 14) 1)⟩ (.one ⟨(some 6), none, (.mv (.tmp 30))⟩ (.one ⟨(some 7), none, (.mv (.tmp 31))⟩ .done)))))))))))))))))))))
                         (.seq
                          (.seq
                           (.ops [
                             ⟨(some 32), none, (.mv (.tmp 7))⟩,
                             ⟨(some 33), none, (.bin .neq (.tmp 32) (.const (.int .i64 0)))⟩])
                           (.cond (.tmp 33)
                            (.seq
                             (.ops [
                               ⟨(some 4), none, (.mv (.const (.int .i64 2)))⟩])
                             .ret)
                            .skip))
                          (.ops [
                            ⟨(some 34), none, (.mv (.tmp 5))⟩,
                            ⟨(some 35), none, (.fad 1 false 1 (.tmp 3))⟩,
                            ⟨(some 36), none, (.ld false 1 (.tmp 35))⟩,
                            ⟨(some 37), none, (.mv (.tmp 6))⟩,
                            ⟨(some 38), none, (.nck (.tmp 34))⟩,
                            ⟨(some 39), none, (.aidx 16 false 1 (.tmp 38) (.tmp 36))⟩,
                            ⟨none, none, (.sto false 1 (.tmp 39) (.tmp 37))⟩])))))))))))))))))))))))
    (.seq
     (.ops [
       ⟨(some 150), none, (.mv (.tmp 0))⟩,
       ⟨(some 151), none, (.nck (.tmp 150))⟩,
       ⟨(some 152), none, (.fad 2 true 22 (.tmp 151))⟩,
       ⟨(some 153), none, (.fad 0 false 1 (.tmp 152))⟩,
       ⟨(some 154), none, (.ld false 1 (.tmp 153))⟩,
       ⟨(some 155), none, (.bin .add (.tmp 154) (.const (.int .i64 1)))⟩,
       ⟨(some 156), none, (.nck (.tmp 150))⟩,
       ⟨(some 157), none, (.fad 2 true 22 (.tmp 156))⟩,
       ⟨(some 158), none, (.fad 0 false 1 (.tmp 157))⟩,
       ⟨none, none, (.sto false 1 (.tmp 158) (.tmp 155))⟩])
     (.seq
      (.ops [
        ⟨(some 4), none, (.mv (.const (.int .i64 0)))⟩])
      .ret)))))
theorem f_machine_Runner_do : compF Try.prog 48 = some (159, c_machine_Runner_do, [(.tmp 4)]) := by kernel_rfl

/-- slices.Collect[uint32] -/
def c_slices_Collect_uint32 : VC :=
 (.seq
  (.ops [
    ⟨(some 2), none, (.mv (.const (.slice none 0 0)))⟩])
  (.seq
   (.ops [
     ⟨(some 3), none, (.mv (.tmp 0))⟩,
     ⟨(some 4), none, (.call (.func 60) [(.const (.slice none 0 0)), (.tmp 3)])⟩,
     ⟨(some 2), none, (.mv (.tmp 4))⟩])
   .ret))
theorem f_slices_Collect_uint32 : compF Try.prog 49 = some (5, c_slices_Collect_uint32, [(.tmp 2)]) := by kernel_rfl

/-- seedcorn/image.words -/
def c_image_words : VC :=
 (.seq
  (.ops [
    ⟨(some 1), none, (.box 9 (.tmp 0))⟩,
    ⟨(some 2), none, (.mv (.const .nilFunc))⟩])
  (.seq
   (.ops [
     ⟨(some 3), none, (.mkf 61 [(.tmp 1)])⟩,
     ⟨(some 2), none, (.mv (.tmp 3))⟩])
   .ret))
theorem f_image_words : compF Try.prog 50 = some (4, c_image_words, [(.tmp 2)]) := by kernel_rfl

/-- (*seedcorn/seedcornref10.work).set -/
def c_scref10_work_set : VC :=
 (.seq
  (.ops [
    ⟨(some 6), none, (.mv (.tmp 0))⟩,
    ⟨(some 7), none, (.mv (.tmp 1))⟩,
    ⟨(some 8), none, (.mv (.tmp 2))⟩,
    ⟨(some 9), none, (.nck (.tmp 6))⟩,
    ⟨(some 10), none, (.fad 0 true 22 (.tmp 9))⟩,
    ⟨(some 11), none, (.fad 1 true 16 (.tmp 10))⟩,
    ⟨(some 12), none, (.aidx 16 false 1 (.tmp 11) (.tmp 7))⟩,
    ⟨none, none, (.sto false 1 (.tmp 12) (.tmp 8))⟩])
  (.ops [
    ⟨(some 13), none, (.mv (.tmp 0))⟩,
    ⟨(some 14), none, (.nck (.tmp 13))⟩,
    ⟨(some 15), none, (.fad 0 true 22 (.tmp 14))⟩,
    ⟨(some 16), none, (.fad 0 false 1 (.tmp 15))⟩,
    ⟨(some 17), none, (.ld false 1 (.tmp 16))⟩,
    ⟨(some 18), none, (.bin .add (.tmp 17) (.const (.int .i64 1)))⟩,
    ⟨(some 19), none, (.nck (.tmp 13))⟩,
    ⟨(some 20), none, (.fad 0 true 22 (.tmp 19))⟩,
    ⟨(some 21), none, (.fad 0 false 1 (.tmp 20))⟩,
    ⟨none, none, (.sto false 1 (.tmp 21) (.tmp 18))⟩]))
theorem f_scref10_work_set : compF Try.prog 51 = some (22, c_scref10_work_set, []) := by kernel_rfl

/-- seedcorn/seedcornref10.fetch -/
def c_scref10_fetch : VC :=
 (.seq
  (.ops [
    ⟨(some 6), none, (.mv (.const (.int .u32 0)))⟩,
    ⟨(some 7), none, (.mv (.const (.bool false)))⟩])
  (.seq
   (.ops [
     ⟨(some 9), none, (.mv (.tmp 1))⟩,
     ⟨(some 10), none, (.mv (.tmp 2))⟩,
     ⟨(some 11), none, (.conv .u32 (.tmp 10))⟩,
     ⟨(some 12), none, (.bin .add (.tmp 9) (.tmp 11))⟩,
     ⟨(some 8), none, (.mv (.tmp 12))⟩])
   (.seq
    (.seq
     (.ops [
       ⟨(some 13), none, (.mv (.tmp 8))⟩,
       ⟨(some 14), none, (.conv .u64 (.tmp 13))⟩,
       ⟨(some 15), none, (.mv (.tmp 0))⟩,
       ⟨(some 16), none, (.len (.tmp 15))⟩,
       ⟨(some 17), none, (.conv .u64 (.tmp 16))⟩,
       ⟨(some 18), none, (.bin .geq (.tmp 14) (.tmp 17))⟩])
     (.cond (.tmp 18)
      (.seq
       (.ops [
         ⟨(some 6), none, (.mv (.const (.int .u32 0)))⟩,
         ⟨(some 7), none, (.mv (.const (.bool false)))⟩])
       .ret)
      .skip))
    (.seq
     (.ops [
       ⟨(some 19), none, (.mv (.tmp 0))⟩,
       ⟨(some 20), none, (.mv (.tmp 8))⟩,
       ⟨(some 21), none, (.idx 1 (.tmp 19) (.tmp 20))⟩,
       ⟨(some 22), none, (.ld false 1 (.tmp 21))⟩,
       ⟨(some 6), none, (.mv (.tmp 22))⟩,
       ⟨(some 7), none, (.mv (.const (.bool true)))⟩])
     .ret))))
theorem f_scref10_fetch : compF Try.prog 52 = some (23, c_scref10_fetch, [(.tmp 6), (.tmp 7)]) := by kernel_rfl

/-- (*seedcorn/seedcornref10.work).jump -/
def c_scref10_work_jump : VC :=
 (.seq
  (.ops [
    ⟨(some 6), none, (.mv (.tmp 1))⟩])
  (.cond (.tmp 6)
   (.ops [
     ⟨(some 7), none, (.mv (.tmp 0))⟩,
     ⟨(some 8), none, (.mv (.tmp 2))⟩,
     ⟨(some 9), none, (.nck (.tmp 7))⟩,
     ⟨(some 10), none, (.fad 0 true 22 (.tmp 9))⟩,
     ⟨(some 11), none, (.fad 0 false 1 (.tmp 10))⟩,
     ⟨none, none, (.sto false 1 (.tmp 11) (.tmp 8))⟩])
   (.ops [
     ⟨(some 12), none, (.mv (.tmp 0))⟩,
     ⟨(some 13), none, (.nck (.tmp 12))⟩,
     ⟨(some 14), none, (.fad 0 true 22 (.tmp 13))⟩,
     ⟨(some 15), none, (.fad 0 false 1 (.tmp 14))⟩,
     ⟨(some 16), none, (.ld false 1 (.tmp 15))⟩,
     ⟨(some 17), none, (.bin .add (.tmp 16) (.const (.int .i64 1)))⟩,
     ⟨(some 18), none, (.nck (.tmp 12))⟩,
     ⟨(some 19), none, (.fad 0 true 22 (.tmp 18))⟩,
     ⟨(some 20), none, (.fad 0 false 1 (.tmp 19))⟩,
     ⟨none, none, (.sto false 1 (.tmp 20) (.tmp 17))⟩])))
theorem f_scref10_work_jump : compF Try.prog 53 = some (21, c_scref10_work_jump, []) := by kernel_rfl

/-- seedcorn/seedcornref01.Apply -/
def c_scref01_Apply : VC :=
 (.seq
  (.ops [
    ⟨(some 6), none, (.mv (.const (.int .u32 0)))⟩,
    ⟨(some 7), none, (.mv (.const (.int .i64 0)))⟩])
  (.seq
   (.ops [
     ⟨(some 10), none, (.mv (.tmp 1))⟩,
     ⟨(some 11), none, (.conv .u64 (.tmp 10))⟩,
     ⟨(some 12), none, (.mv (.tmp 2))⟩,
     ⟨(some 13), none, (.conv .u64 (.tmp 12))⟩,
     ⟨(some 8), none, (.mv (.tmp 11))⟩,
     ⟨(some 9), none, (.mv (.tmp 13))⟩])
   (.seq
    (.seq
     (.ops [
       ⟨(some 14), none, (.mv (.tmp 0))⟩])
     (.block 0
      (.seq
       (.ops [
         ⟨(some 16), none, (.bin .eql (.tmp 14) (.const (.int .i64 4)))⟩,
         ⟨(some 15), none, (.mv (.tmp 16))⟩])
       (.cond (.tmp 15)
        (.seq
         (.ops [
           ⟨(some 17), none, (.mv (.tmp 8))⟩,
           ⟨(some 18), none, (.mv (.tmp 9))⟩,
           ⟨(some 19), none, (.bin .add (.tmp 17) (.tmp 18))⟩,
           ⟨(some 20), none, (.bin .rem (.tmp 19) (.const (.int .u64 4294967296)))⟩,
           ⟨(some 21), none, (.conv .u32 (.tmp 20))⟩,
           ⟨(some 6), none, (.mv (.tmp 21))⟩,
           ⟨(some 7), none, (.mv (.const (.int .i64 0)))⟩])
         .ret)
        (.seq
         (.ops [
           ⟨(some 23), none, (.bin .eql (.tmp 14) (.const (.int .i64 5)))⟩,
           ⟨(some 22), none, (.mv (.tmp 23))⟩])
         (.cond (.tmp 22)
          (.seq
           (.ops [
             ⟨(some 24), none, (.mv (.tmp 8))⟩,
             ⟨(some 25), none, (.bin .add (.tmp 24) (.const (.int .u64 4294967296)))⟩,
             ⟨(some 26), none, (.mv (.tmp 9))⟩,
             ⟨(some 27), none, (.bin .sub (.tmp 25) (.tmp 26))⟩,
             ⟨(some 28), none, (.bin .rem (.tmp 27) (.const (.int .u64 4294967296)))⟩,
             ⟨(some 29), none, (.conv .u32 (.tmp 28))⟩,
             ⟨(some 6), none, (.mv (.tmp 29))⟩,
             ⟨(some 7), none, (.mv (.const (.int .i64 0)))⟩])
           .ret)
          (.seq
           (.ops [
             ⟨(some 31), none, (.bin .eql (.tmp 14) (.const (.int .i64 6)))⟩,
             ⟨(some 30), none, (.mv (.tmp 31))⟩])
           (.cond (.tmp 30)
            (.seq
             (.ops [
               ⟨(some 32), none, (.mv (.tmp 8))⟩,
               ⟨(some 33), none, (.mv (.tmp 9))⟩,
               ⟨(some 34), none, (.bin .mul (.tmp 32) (.tmp 33))⟩,
               ⟨(some 35), none, (.bin .rem (.tmp 34) (.const (.int .u64 4294967296)))⟩,
               ⟨(some 36), none, (.conv .u32 (.tmp 35))⟩,
               ⟨(some 6), none, (.mv (.tmp 36))⟩,
               ⟨(some 7), none, (.mv (.const (.int .i64 0)))⟩])
             .ret)
            (.seq
             (.ops [
               ⟨(some 38), none, (.bin .eql (.tmp 14) (.const (.int .i64 7)))⟩,
               ⟨(some 37), none, (.mv (.tmp 38))⟩])
             (.cond (.tmp 37)
              (.seq
               (.seq
                (.ops [
                  ⟨(some 39), none, (.mv (.tmp 2))⟩,
                  ⟨(some 40), none, (.bin .eql (.tmp 39) (.const (.int .u32 0)))⟩])
                (.cond (.tmp 40)
                 (.seq
                  (.ops [
                    ⟨(some 6), none, (.mv (.const (.int .u32 0)))⟩,
                    ⟨(some 7), none, (.mv (.const (.int .i64 14)))⟩])
                  .ret)
                 .skip))
               (.seq
                (.ops [
                  ⟨(some 41), none, (.mv (.tmp 8))⟩,
                  ⟨(some 42), none, (.mv (.tmp 9))⟩,
                  ⟨(some 43), none, (.bin .quo (.tmp 41) (.tmp 42))⟩,
                  ⟨(some 44), none, (.conv .u32 (.tmp 43))⟩,
                  ⟨(some 6), none, (.mv (.tmp 44))⟩,
                  ⟨(some 7), none, (.mv (.const (.int .i64 0)))⟩])
                .ret))
              (.seq
               (.ops [
                 ⟨(some 46), none, (.bin .eql (.tmp 14) (.const (.int .i64 8)))⟩,
                 ⟨(some 45), none, (.mv (.tmp 46))⟩])
               (.cond (.tmp 45)
                (.seq
                 (.seq
                  (.ops [
                    ⟨(some 47), none, (.mv (.tmp 2))⟩,
                    ⟨(some 48), none, (.bin .eql (.tmp 47) (.const (.int .u32 0)))⟩])
                  (.cond (.tmp 48)
                   (.seq
                    (.ops [
                      ⟨(some 6), none, (.mv (.const (.int .u32 0)))⟩,
                      ⟨(some 7), none, (.mv (.const (.int .i64 14)))⟩])
                    .ret)
                   .skip))
                 (.seq
                  (.ops [
                    ⟨(some 49), none, (.mv (.tmp 8))⟩,
                    ⟨(some 50), none, (.mv (.tmp 9))⟩,
                    ⟨(some 51), none, (.bin .rem (.tmp 49) (.tmp 50))⟩,
                    ⟨(some 52), none, (.conv .u32 (.tmp 51))⟩,
                    ⟨(some 6), none, (.mv (.tmp 52))⟩,
                    ⟨(some 7), none, (.mv (.const (.int .i64 0)))⟩])
                  .ret))
                (.seq
                 (.seq
                  (.ops [
                    ⟨(some 54), none, (.bin .eql (.tmp 14) (.const (.int .i64 9)))⟩,
                    ⟨(some 53), none, (.mv (.tmp 54))⟩])
                  (.cond (.tmp 53)
                   .skip
                   (.seq
                    (.ops [
                      ⟨(some 55), none, (.bin .eql (.tmp 14) (.const (.int .i64 10)))⟩,
                      ⟨(some 53), none, (.mv (.tmp 55))⟩])
                    (.cond (.tmp 53)
                     .skip
                     (.ops [
                       ⟨(some 56), none, (.bin .eql (.tmp 14) (.const (.int .i64 11)))⟩,
                       ⟨(some 53), none, (.mv (.tmp 56))⟩])))))
                 (.cond (.tmp 53)
                  (.seq
                   (.ops [
                     ⟨(some 57), none, (.mv (.tmp 0))⟩,
                     ⟨(some 58), none, (.mv (.tmp 1))⟩,
                     ⟨(some 59), none, (.mv (.tmp 2))⟩,
                     ⟨(some 60), none, (.call (.func 62) [(.tmp 57), (.tmp 58), (.tmp 59)])⟩,
                     ⟨(some 6), none, (.mv (.tmp 60))⟩,
                     ⟨(some 7), none, (.mv (.const (.int .i64 0)))⟩])
                   .ret)
                  (.seq
                   (.seq
                    (.ops [
                      ⟨(some 62), none, (.bin .eql (.tmp 14) (.const (.int .i64 12)))⟩,
                      ⟨(some 61), none, (.mv (.tmp 62))⟩])
                    (.cond (.tmp 61)
                     .skip
                     (.ops [
                       ⟨(some 63), none, (.bin .eql (.tmp 14) (.const (.int .i64 13)))⟩,
                       ⟨(some 61), none, (.mv (.tmp 63))⟩])))
                   (.cond (.tmp 61)
                    (.seq
                     (.ops [
                       ⟨(some 64), none, (.mv (.tmp 0))⟩,
                       ⟨(some 65), none, (.mv (.tmp 1))⟩,
                       ⟨(some 66), none, (.mv (.tmp 2))⟩,
                       ⟨(some 67), none, (.call (.func 63) [(.tmp 64), (.tmp 65), (.tmp 66)])⟩,
                       ⟨(some 6), none, (.mv (.tmp 67))⟩,
                       ⟨(some 7), none, (.mv (.const (.int .i64 0)))⟩])
                     .ret)
                    (.seq
                     (.ops [
                       ⟨(some 69), none, (.bin .eql (.tmp 14) (.const (.int .i64 14)))⟩,
                       ⟨(some 68), none, (.mv (.tmp 69))⟩])
                     (.cond (.tmp 68)
                      (.seq
                       (.ops [
                         ⟨(some 70), none, (.mv (.tmp 1))⟩,
                         ⟨(some 71), none, (.mv (.tmp 2))⟩,
                         ⟨(some 72), none, (.bin .lss (.tmp 70) (.tmp 71))⟩,
                         ⟨(some 73), none, (.call (.func 64) [(.tmp 72)])⟩,
                         ⟨(some 6), none, (.mv (.tmp 73))⟩,
                         ⟨(some 7), none, (.mv (.const (.int .i64 0)))⟩])
                       .ret)
                      (.seq
                       (.ops [
                         ⟨(some 75), none, (.bin .eql (.tmp 14) (.const (.int .i64 15)))⟩,
                         ⟨(some 74), none, (.mv (.tmp 75))⟩])
                       (.cond (.tmp 74)
                        (.seq
                         (.ops [
                           ⟨(some 76), none, (.mv (.tmp 1))⟩,
                           ⟨(some 77), none, (.mv (.tmp 2))⟩,
                           ⟨(some 78), none, (.bin .eql (.tmp 76) (.tmp 77))⟩,
                           ⟨(some 79), none, (.call (.func 64) [(.tmp 78)])⟩,
                           ⟨(some 6), none, (.mv (.tmp 79))⟩,
                           ⟨(some 7), none, (.mv (.const (.int .i64 0)))⟩])
                         .ret)
                        .skip))))))))))))))))))))
    (.seq
     (.ops [
       ⟨(some 6), none, (.mv (.const (.int .u32 0)))⟩,
       ⟨(some 7), none, (.mv (.const (.int .i64 1)))⟩])
     .ret))))
theorem f_scref01_Apply : compF Try.prog 54 = some (80, c_scref01_Apply, [(.tmp 6), (.tmp 7)]) := by kernel_rfl

/-- seedcorn/inst.Right -/
def c_inst_Right : VC :=
 (.seq
  (.ops [
    ⟨(some 1), none, (.box 47 (.tmp 0))⟩,
    ⟨(some 2), none, (.mv (.const (.bool false)))⟩])
  (.seq
   (.seq
    (.ops [
      ⟨(some 5), none, (.fad 0 false 1 (.tmp 1))⟩,
      ⟨(some 6), none, (.ld false 1 (.tmp 5))⟩,
      ⟨(some 7), none, (.call (.func 65) [(.tmp 6)])⟩,
      ⟨(some 8), none, (.un .not (.tmp 7))⟩])
    (.cond (.tmp 8)
     (.seq
      (.ops [
        ⟨(some 2), none, (.mv (.const (.bool false)))⟩])
      .ret)
     .skip))
   (.seq
    (.ops [
      ⟨(some 9), none, (.fad 0 false 1 (.tmp 1))⟩,
      ⟨(some 10), none, (.ld false 1 (.tmp 9))⟩,
      ⟨(some 11), none, (.call (.func 66) [(.tmp 10)])⟩,
      ⟨(some 3), none, (.alc 107 [(.string ⟨#[]⟩), (.bool false), (.bool false), (.int .i64 0)])⟩,
      ⟨none, none, (.sto true 4 (.tmp 3) (.tmp 11))⟩])
    (.seq
     (.ops [
       ⟨(some 4), none, (.mv (.const (.int .i64 65535)))⟩])
     (.seq
      (.seq
       (.ops [
         ⟨(some 12), none, (.fad 3 false 1 (.tmp 3))⟩,
         ⟨(some 13), none, (.ld false 1 (.tmp 12))⟩,
         ⟨(some 14), none, (.bin .eql (.tmp 13) (.const (.int .i64 2)))⟩])
       (.cond (.tmp 14)
        (.ops [
          ⟨(some 4), none, (.mv (.const (.int .i64 15)))⟩])
        .skip))
      (.seq
       (.ops [
         ⟨(some 15), none, (.fad 1 false 1 (.tmp 1))⟩,
         ⟨(some 16), none, (.ld false 1 (.tmp 15))⟩,
         ⟨(some 17), none, (.fad 1 false 1 (.tmp 3))⟩,
         ⟨(some 18), none, (.ld false 1 (.tmp 17))⟩,
         ⟨(some 19), none, (.call (.func 67) [(.tmp 16), (.const (.int .i64 15)), (.tmp 18)])⟩,
         ⟨(some 20), none, (.mv (.tmp 19))⟩,
         ⟨(some 21), (some (20, true)), (.fad 2 false 1 (.tmp 1))⟩,
         ⟨(some 22), (some (20, true)), (.ld false 1 (.tmp 21))⟩,
         ⟨(some 23), (some (20, true)), (.fad 2 false 1 (.tmp 3))⟩,
         ⟨(some 24), (some (20, true)), (.ld false 1 (.tmp 23))⟩,
         ⟨(some 25), (some (20, true)), (.call (.func 67) [(.tmp 22), (.const (.int .i64 15)), (.tmp 24)])⟩,
         ⟨(some 26), none, (.pick (.tmp 20) (.tmp 25) (.const (.bool false)))⟩,
         ⟨(some 27), none, (.mv (.tmp 26))⟩,
         ⟨(some 28), (some (27, true)), (.fad 3 false 1 (.tmp 1))⟩,
         ⟨(some 29), (some (27, true)), (.ld false 1 (.tmp 28))⟩,
         ⟨(some 30), (some (27, true)), (.mv (.tmp 4))⟩,
         ⟨(some 31), (some (27, true)), (.fad 3 false 1 (.tmp 3))⟩,
         ⟨(some 32), (some (27, true)), (.ld false 1 (.tmp 31))⟩,
         ⟨(some 33), (some (27, true)), (.bin .neq (.tmp 32) (.const (.int .i64 0)))⟩,
         ⟨(some 34), (some (27, true)), (.call (.func 67) [(.tmp 29), (.tmp 30), (.tmp 33)])⟩,
         ⟨(some 35), none, (.pick (.tmp 27) (.tmp 34) (.const (.bool false)))⟩,
         ⟨(some 2), none, (.mv (.tmp 35))⟩])
       .ret))))))
theorem f_inst_Right : compF Try.prog 55 = some (36, c_inst_Right, [(.tmp 2)]) := by kernel_rfl

/-- (*seedcorn/machine.Runner).jump -/
def c_machine_Runner_jump : VC :=
 (.seq
  (.ops [
    ⟨(some 3), none, (.box 47 (.tmp 1))⟩])
  (.seq
   (.ops [
     ⟨(some 6), none, (.mv (.tmp 0))⟩,
     ⟨(some 7), none, (.nck (.tmp 6))⟩,
     ⟨(some 8), none, (.fad 2 true 22 (.tmp 7))⟩,
     ⟨(some 9), none, (.fad 1 true 16 (.tmp 8))⟩,
     ⟨(some 4), none, (.mv (.tmp 9))⟩])
   (.seq
    (.ops [
      ⟨(some 10), none, (.mv (.tmp 0))⟩,
      ⟨(some 11), none, (.nck (.tmp 10))⟩,
      ⟨(some 12), none, (.fad 2 true 22 (.tmp 11))⟩,
      ⟨(some 13), none, (.fad 0 false 1 (.tmp 12))⟩,
      ⟨(some 14), none, (.ld false 1 (.tmp 13))⟩,
      ⟨(some 15), none, (.bin .add (.tmp 14) (.const (.int .i64 1)))⟩,
      ⟨(some 5), none, (.mv (.tmp 15))⟩])
    (.seq
     (.seq
      (.ops [
        ⟨(some 16), none, (.fad 0 false 1 (.tmp 3))⟩,
        ⟨(some 17), none, (.ld false 1 (.tmp 16))⟩])
      (.block 0
       (.seq
        (.block 5
         (.seq
          (.block 4
           (.seq
            (.block 3
             (.seq
              (.block 2
               (.seq
                (.block 1
                 (.seq
                  (.seq
                   (.seq
                    (.ops [
                      ⟨(some 19), none, (.bin .eql (.tmp 17) (.const (.int .i64 19)))⟩,
                      ⟨(some 18), none, (.mv (.tmp 19))⟩])
                    (.cond (.tmp 18)
                     (.exit 1)
                     .skip))
                   (.seq
                    (.seq
                     (.ops [
                       ⟨(some 21), none, (.bin .eql (.tmp 17) (.const (.int .i64 20)))⟩,
                       ⟨(some 20), none, (.mv (.tmp 21))⟩])
                     (.cond (.tmp 20)
                      (.exit 2)
                      .skip))
                    (.seq
                     (.seq
                      (.ops [
                        ⟨(some 23), none, (.bin .eql (.tmp 17) (.const (.int .i64 21)))⟩,
                        ⟨(some 22), none, (.mv (.tmp 23))⟩])
                      (.cond (.tmp 22)
                       (.exit 3)
                       .skip))
                     (.seq
                      (.seq
                       (.ops [
                         ⟨(some 25), none, (.bin .eql (.tmp 17) (.const (.int .i64 18)))⟩,
                         ⟨(some 24), none, (.mv (.tmp 25))⟩])
                       (.cond (.tmp 24)
                        (.exit 4)
                        .skip))
                      (.seq
                       (.ops [
                         ⟨(some 27), none, (.bin .eql (.tmp 17) (.const (.int .i64 22)))⟩,
                         ⟨(some 26), none, (.mv (.tmp 27))⟩])
                       (.cond (.tmp 26)
                        (.exit 5)
                        .skip))))))
                  (.exit 0)))
                (.seq
                 (.seq
                  (.ops [
                    ⟨(some 28), none, (.mv (.tmp 4))⟩,
                    ⟨(some 29), none, (.fad 1 false 1 (.tmp 3))⟩,
                    ⟨(some 30), none, (.ld false 1 (.tmp 29))⟩,
                    ⟨(some 31), none, (.nck (.tmp 28))⟩,
                    ⟨(some 32), none, (.aidx 16 false 1 (.tmp 31) (.tmp 30))⟩,
                    ⟨(some 33), none, (.ld false 1 (.tmp 32))⟩,
                    ⟨(some 34), none, (.bin .eql (.tmp 33) (.const (.int .u32 0)))⟩])
                  (.cond (.tmp 34)
                   (.ops [
                     ⟨(some 35), none, (.fad 3 false 1 (.tmp 3))⟩,
                     ⟨(some 36), none, (.ld false 1 (.tmp 35))⟩,
                     ⟨(some 5), none, (.mv (.tmp 36))⟩])
                   .skip))
                 (.exit 0))))
              (.seq
               (.seq
                (.ops [
                  ⟨(some 37), none, (.mv (.tmp 4))⟩,
                  ⟨(some 38), none, (.fad 1 false 1 (.tmp 3))⟩,
                  ⟨(some 39), none, (.ld false 1 (.tmp 38))⟩,
                  ⟨(some 40), none, (.nck (.tmp 37))⟩,
                  ⟨(some 41), none, (.aidx 16 false 1 (.tmp 40) (.tmp 39))⟩,
                  ⟨(some 42), none, (.ld false 1 (.tmp 41))⟩,
                  ⟨(some 43), none, (.bin .neq (.tmp 42) (.const (.int .u32 0)))⟩])
                (.cond (.tmp 43)
                 (.ops [
                   ⟨(some 44), none, (.fad 3 false 1 (.tmp 3))⟩,
                   ⟨(some 45), none, (.ld false 1 (.tmp 44))⟩,
                   ⟨(some 5), none, (.mv (.tmp 45))⟩])
                 .skip))
               (.exit 0))))
            (.ops [
              ⟨(some 46), none, (.mv (.tmp 4))⟩,
              ⟨(some 47), none, (.fad 1 false 1 (.tmp 3))⟩,
              ⟨(some 48), none, (.ld false 1 (.tmp 47))⟩,
              ⟨(some 49), none, (.mv (.tmp 5))⟩,
              ⟨(some 50), none, (.conv .u32 (.tmp 49))⟩,
              ⟨(some 51), none, (.nck (.tmp 46))⟩,
              ⟨(some 52), none, (.aidx 16 false 1 (.tmp 51) (.tmp 48))⟩,
              ⟨none, none, (.sto false 1 (.tmp 52) (.tmp 50))⟩])))
          (.seq
           (.ops [
             ⟨(some 53), none, (.fad 3 false 1 (.tmp 3))⟩,
             ⟨(some 54), none, (.ld false 1 (.tmp 53))⟩,
             ⟨(some 5), none, (.mv (.tmp 54))⟩])
           (.exit 0))))
        (.seq
         (.ops [
           ⟨(some 55), none, (.mv (.tmp 4))⟩,
           ⟨(some 56), none, (.fad 1 false 1 (.tmp 3))⟩,
           ⟨(some 57), none, (.ld false 1 (.tmp 56))⟩,
           ⟨(some 58), none, (.nck (.tmp 55))⟩,
           ⟨(some 59), none, (.aidx 16 false 1 (.tmp 58) (.tmp 57))⟩,
           ⟨(some 60), none, (.ld false 1 (.tmp 59))⟩,
           ⟨(some 61), none, (.conv .i64 (.tmp 60))⟩,
           ⟨(some 5), none, (.mv (.tmp 61))⟩])
         (.exit 0)))))
     (.ops [
       ⟨(some 62), none, (.mv (.tmp 0))⟩,
       ⟨(some 63), none, (.mv (.tmp 5))⟩,
       ⟨(some 64), none, (.nck (.tmp 62))⟩,
       ⟨(some 65), none, (.fad 2 true 22 (.tmp 64))⟩,
       ⟨(some 66), none, (.fad 0 false 1 (.tmp 65))⟩,
       ⟨none, none, (.sto false 1 (.tmp 66) (.tmp 63))⟩])))))
theorem f_machine_Runner_jump : compF Try.prog 56 = some (67, c_machine_Runner_jump, []) := by kernel_rfl

/-- (*seedcorn/machine.Runner).move -/
def c_machine_Runner_move : VC :=
 (.seq
  (.ops [
    ⟨(some 3), none, (.box 47 (.tmp 1))⟩,
    ⟨(some 4), none, (.mv (.const (.bool false)))⟩])
  (.seq
   (.ops [
     ⟨(some 6), none, (.mv (.tmp 0))⟩,
     ⟨(some 7), none, (.fad 2 false 1 (.tmp 3))⟩,
     ⟨(some 8), none, (.ld false 1 (.tmp 7))⟩,
     ⟨(some 9), none, (.nck (.tmp 6))⟩,
     ⟨(some 10), none, (.fad 2 true 22 (.tmp 9))⟩,
     ⟨(some 11), none, (.fad 1 true 16 (.tmp 10))⟩,
     ⟨(some 12), none, (.aidx 16 false 1 (.tmp 11) (.tmp 8))⟩,
     ⟨(some 13), none, (.ld false 1 (.tmp 12))⟩,
     ⟨(some 14), none, (.fad 3 false 1 (.tmp 3))⟩,
     ⟨(some 15), none, (.ld false 1 (.tmp 14))⟩,
     ⟨(some 16), none, (.conv .u32 (.tmp 15))⟩,
     ⟨(some 17), none, (.bin .add (.tmp 13) (.tmp 16))⟩,
     ⟨(some 18), none, (.conv .i64 (.tmp 17))⟩,
     ⟨(some 5), none, (.mv (.tmp 18))⟩])
   (.seq
    (.seq
     (.ops [
       ⟨(some 19), none, (.fad 0 false 1 (.tmp 3))⟩,
       ⟨(some 20), none, (.ld false 1 (.tmp 19))⟩,
       ⟨(some 21), none, (.bin .eql (.tmp 20) (.const (.int .i64 27)))⟩])
     (.cond (.tmp 21)
      (.seq
       (.seq
        (.ops [
          ⟨(some 22), none, (.mv (.tmp 5))⟩,
          ⟨(some 23), none, (.mv (.tmp 0))⟩,
          ⟨(some 24), none, (.nck (.tmp 23))⟩,
          ⟨(some 25), none, (.fad 0 false 1 (.tmp 24))⟩,
          ⟨(some 26), none, (.ld false 1 (.tmp 25))⟩,
          ⟨(some 27), none, (.len (.tmp 26))⟩,
          ⟨(some 28), none, (.bin .geq (.tmp 22) (.tmp 27))⟩])
        (.cond (.tmp 28)
         (.seq
          (.ops [
            ⟨(some 4), none, (.mv (.const (.bool false)))⟩])
          .ret)
         .skip))
       (.seq
        (.ops [
          ⟨(some 29), none, (.mv (.tmp 0))⟩,
          ⟨(some 30), none, (.fad 1 false 1 (.tmp 3))⟩,
          ⟨(some 31), none, (.ld false 1 (.tmp 30))⟩,
          ⟨(some 32), none, (.mv (.tmp 0))⟩,
          ⟨(some 33), none, (.nck (.tmp 32))⟩,
          ⟨(some 34), none, (.fad 0 false 1 (.tmp 33))⟩,
          ⟨(some 35), none, (.ld false 1 (.tmp 34))⟩,
          ⟨(some 36), none, (.mv (.tmp 5))⟩,
          ⟨(some 37), none, (.idx 1 (.tmp 35) (.tmp 36))⟩,
          ⟨(some 38), none, (.ld false 1 (.tmp 37))⟩,
          ⟨(some 39), none, (.nck (.tmp 29))⟩,
          ⟨(some 40), none, (.fad 2 true 22 (.tmp 39))⟩,
          ⟨(some 41), none, (.fad 1 true 16 (.tmp 40))⟩,
          ⟨(some 42), none, (.aidx 16 false 1 (.tmp 41) (.tmp 31))⟩,
          ⟨none, none, (.sto false 1 (.tmp 42) (.tmp 38))⟩])
        (.seq
         (.ops [
           ⟨(some 4), none, (.mv (.const (.bool true)))⟩])
         .ret)))
      .skip))
    (.seq
     (.seq
      (.ops [
        ⟨(some 43), none, (.mv (.tmp 5))⟩,
        ⟨(some 44), none, (.mv (.tmp 0))⟩,
        ⟨(some 45), none, (.nck (.tmp 44))⟩,
        ⟨(some 46), none, (.fad 2 true 22 (.tmp 45))⟩,
        ⟨(some 47), none, (.fad 17 false 1 (.tmp 46))⟩,
        ⟨(some 48), none, (.ld false 1 (.tmp 47))⟩,
        ⟨(some 49), none, (.len (.tmp 48))⟩,
        ⟨(some 50), none, (.bin .geq (.tmp 43) (.tmp 49))⟩])
      (.cond (.tmp 50)
       (.seq
        (.ops [
          ⟨(some 4), none, (.mv (.const (.bool false)))⟩])
        .ret)
       .skip))
     (.seq
      (.seq
       (.ops [
         ⟨(some 51), none, (.fad 0 false 1 (.tmp 3))⟩,
         ⟨(some 52), none, (.ld false 1 (.tmp 51))⟩,
         ⟨(some 53), none, (.bin .eql (.tmp 52) (.const (.int .i64 16)))⟩])
       (.cond (.tmp 53)
        (.seq
         (.ops [
           ⟨(some 54), none, (.mv (.tmp 0))⟩,
           ⟨(some 55), none, (.fad 1 false 1 (.tmp 3))⟩,
           ⟨(some 56), none, (.ld false 1 (.tmp 55))⟩,
           ⟨(some 57), none, (.mv (.tmp 0))⟩,
           ⟨(some 58), none, (.nck (.tmp 57))⟩,
           ⟨(some 59), none, (.fad 2 true 22 (.tmp 58))⟩,
           ⟨(some 60), none, (.fad 17 false 1 (.tmp 59))⟩,
           ⟨(some 61), none, (.ld false 1 (.tmp 60))⟩,
           ⟨(some 62), none, (.mv (.tmp 5))⟩,
           ⟨(some 63), none, (.idx 1 (.tmp 61) (.tmp 62))⟩,
           ⟨(some 64), none, (.ld false 1 (.tmp 63))⟩,
           ⟨(some 65), none, (.nck (.tmp 54))⟩,
           ⟨(some 66), none, (.fad 2 true 22 (.tmp 65))⟩,
           ⟨(some 67), none, (.fad 1 true 16 (.tmp 66))⟩,
           ⟨(some 68), none, (.aidx 16 false 1 (.tmp 67) (.tmp 56))⟩,
           ⟨none, none, (.sto false 1 (.tmp 68) (.tmp 64))⟩])
         (.seq
          (.ops [
            ⟨(some 4), none, (.mv (.const (.bool true)))⟩])
          .ret))
        .skip))
      (.seq
       (.seq
        (.ops [
          ⟨(some 69), none, (.mv (.tmp 0))⟩,
          ⟨(some 70), none, (.nck (.tmp 69))⟩,
          ⟨(some 71), none, (.fad 24 false 1 (.tmp 70))⟩,
          ⟨(some 72), none, (.ld false 1 (.tmp 71))⟩,
          ⟨(some 73), none, (.un .not (.tmp 72))⟩])
        (.cond (.tmp 73)
         (.seq
          (.ops [
            ⟨(some 74), none, (.mv (.tmp 0))⟩,
            ⟨(some 75), none, (.mv (.tmp 0))⟩,
            ⟨(some 76), none, (.nck (.tmp 75))⟩,
            ⟨(some 77), none, (.fad 2 true 22 (.tmp 76))⟩,
            ⟨(some 78), none, (.fad 17 false 1 (.tmp 77))⟩,
            ⟨(some 79), none, (.ld false 1 (.tmp 78))⟩,
            ⟨(some 80), none, (.call (.func 68) [(.tmp 79)])⟩,
            ⟨(some 81), none, (.nck (.tmp 74))⟩,
            ⟨(some 82), none, (.fad 2 true 22 (.tmp 81))⟩,
            ⟨(some 83), none, (.fad 17 false 1 (.tmp 82))⟩,
            ⟨none, none, (.sto false 1 (.tmp 83) (.tmp 80))⟩])
          (.ops [
            ⟨(some 84), none, (.mv (.tmp 0))⟩,
            ⟨(some 85), none, (.nck (.tmp 84))⟩,
            ⟨(some 86), none, (.fad 24 false 1 (.tmp 85))⟩,
            ⟨none, none, (.sto false 1 (.tmp 86) (.const (.bool true)))⟩]))
         .skip))
       (.seq
        (.ops [
          ⟨(some 87), none, (.mv (.tmp 0))⟩,
          ⟨(some 88), none, (.nck (.tmp 87))⟩,
          ⟨(some 89), none, (.fad 2 true 22 (.tmp 88))⟩,
          ⟨(some 90), none, (.fad 17 false 1 (.tmp 89))⟩,
          ⟨(some 91), none, (.ld false 1 (.tmp 90))⟩,
          ⟨(some 92), none, (.mv (.tmp 5))⟩,
          ⟨(some 93), none, (.mv (.tmp 0))⟩,
          ⟨(some 94), none, (.fad 1 false 1 (.tmp 3))⟩,
          ⟨(some 95), none, (.ld false 1 (.tmp 94))⟩,
          ⟨(some 96), none, (.nck (.tmp 93))⟩,
          ⟨(some 97), none, (.fad 2 true 22 (.tmp 96))⟩,
          ⟨(some 98), none, (.fad 1 true 16 (.tmp 97))⟩,
          ⟨(some 99), none, (.aidx 16 false 1 (.tmp 98) (.tmp 95))⟩,
          ⟨(some 100), none, (.ld false 1 (.tmp 99))⟩,
          ⟨(some 101), none, (.idx 1 (.tmp 91) (.tmp 92))⟩,
          ⟨none, none, (.sto false 1 (.tmp 101) (.tmp 100))⟩])
        (.seq
         (.ops [
           ⟨(some 4), none, (.mv (.const (.bool true)))⟩])
         .ret))))))))
theorem f_machine_Runner_move : compF Try.prog 57 = some (102, c_machine_Runner_move, [(.tmp 4)]) := by kernel_rfl

/-- (*seedcorn/machine.Runner).get -/
def c_machine_Runner_get : VC :=
 (.seq
  (.seq
   (.ops [
     ⟨(some 4), none, (.mv (.tmp 0))⟩,
     ⟨(some 5), none, (.nck (.tmp 4))⟩,
     ⟨(some 6), none, (.fad 2 true 22 (.tmp 5))⟩,
     ⟨(some 7), none, (.fad 18 false 1 (.tmp 6))⟩,
     ⟨(some 8), none, (.ld false 1 (.tmp 7))⟩,
     ⟨(some 9), none, (.bin .lss (.tmp 8) (.const (.int .i64 0)))⟩,
     ⟨(some 10), none, (.mv (.tmp 9))⟩,
     ⟨(some 11), (some (10, false)), (.mv (.tmp 0))⟩,
     ⟨(some 12), (some (10, false)), (.nck (.tmp 11))⟩,
     ⟨(some 13), (some (10, false)), (.fad 2 true 22 (.tmp 12))⟩,
     ⟨(some 14), (some (10, false)), (.fad 18 false 1 (.tmp 13))⟩,
     ⟨(some 15), (some (10, false)), (.ld false 1 (.tmp 14))⟩,
     ⟨(some 16), (some (10, false)), (.mv (.tmp 0))⟩,
     ⟨(some 17), (some (10, false)), (.nck (.tmp 16))⟩,
     ⟨(some 18), (some (10, false)), (.fad 1 false 1 (.tmp 17))⟩,
     ⟨(some 19), (some (10, false)), (.ld false 1 (.tmp 18))⟩,
     ⟨(some 20), (some (10, false)), (.lens (.tmp 19))⟩,
     ⟨(some 21), (some (10, false)), (.bin .geq (.tmp 15) (.tmp 20))⟩,
     ⟨(some 22), none, (.pick (.tmp 10) (.const (.bool true)) (.tmp 21))⟩])
   (.cond (.tmp 22)
    (.seq
     (.ops [
       ⟨(some 23), none, (.mv (.tmp 0))⟩,
       ⟨(some 24), none, (.mv (.tmp 1))⟩,
       ⟨(some 25), none, (.nck (.tmp 23))⟩,
       ⟨(some 26), none, (.fad 2 true 22 (.tmp 25))⟩,
       ⟨(some 27), none, (.fad 1 true 16 (.tmp 26))⟩,
       ⟨(some 28), none, (.aidx 16 false 1 (.tmp 27) (.tmp 24))⟩,
       ⟨none, none, (.sto false 1 (.tmp 28) (.const (.int .u32 256)))⟩])
     .ret)
    .skip))
  (.seq
   (.ops [
     ⟨(some 29), none, (.mv (.tmp 0))⟩,
     ⟨(some 30), none, (.mv (.tmp 1))⟩,
     ⟨(some 31), none, (.mv (.tmp 0))⟩,
     ⟨(some 32), none, (.nck (.tmp 31))⟩,
     ⟨(some 33), none, (.fad 1 false 1 (.tmp 32))⟩,
     ⟨(some 34), none, (.ld false 1 (.tmp 33))⟩,
     ⟨(some 35), none, (.mv (.tmp 0))⟩,
     ⟨(some 36), none, (.nck (.tmp 35))⟩,
     ⟨(some 37), none, (.fad 2 true 22 (.tmp 36))⟩,
     ⟨(some 38), none, (.fad 18 false 1 (.tmp 37))⟩,
     ⟨(some 39), none, (.ld false 1 (.tmp 38))⟩,
     ⟨(some 40), none, (.pur .six [(.tmp 34), (.tmp 39)])⟩,
     ⟨(some 41), none, (.conv .u32 (.tmp 40))⟩,
     ⟨(some 42), none, (.nck (.tmp 29))⟩,
     ⟨(some 43), none, (.fad 2 true 22 (.tmp 42))⟩,
     ⟨(some 44), none, (.fad 1 true 16 (.tmp 43))⟩,
     ⟨(some 45), none, (.aidx 16 false 1 (.tmp 44) (.tmp 30))⟩,
     ⟨none, none, (.sto false 1 (.tmp 45) (.tmp 41))⟩])
   (.ops [
     ⟨(some 46), none, (.mv (.tmp 0))⟩,
     ⟨(some 47), none, (.nck (.tmp 46))⟩,
     ⟨(some 48), none, (.fad 2 true 22 (.tmp 47))⟩,
     ⟨(some 49), none, (.fad 18 false 1 (.tmp 48))⟩,
     ⟨(some 50), none, (.ld false 1 (.tmp 49))⟩,
     ⟨(some 51), none, (.bin .add (.tmp 50) (.const (.int .i64 1)))⟩,
     ⟨(some 52), none, (.nck (.tmp 46))⟩,
     ⟨(some 53), none, (.fad 2 true 22 (.tmp 52))⟩,
     ⟨(some 54), none, (.fad 18 false 1 (.tmp 53))⟩,
     ⟨none, none, (.sto false 1 (.tmp 54) (.tmp 51))⟩])))
theorem f_machine_Runner_get : compF Try.prog 58 = some (55, c_machine_Runner_get, []) := by kernel_rfl

/-- seedcorn/word.Apply -/
def c_word_Apply : VC :=
 (.seq
  (.ops [
    ⟨(some 6), none, (.mv (.const (.int .u32 0)))⟩,
    ⟨(some 7), none, (.mv (.const (.int .i64 0)))⟩])
  (.seq
   (.seq
    (.ops [
      ⟨(some 8), none, (.mv (.tmp 0))⟩])
    (.block 0
     (.seq
      (.ops [
        ⟨(some 10), none, (.bin .eql (.tmp 8) (.const (.int .i64 4)))⟩,
        ⟨(some 9), none, (.mv (.tmp 10))⟩])
      (.cond (.tmp 9)
       (.seq
        (.ops [
          ⟨(some 11), none, (.mv (.tmp 1))⟩,
          ⟨(some 12), none, (.mv (.tmp 2))⟩,
          ⟨(some 13), none, (.bin .add (.tmp 11) (.tmp 12))⟩,
          ⟨(some 6), none, (.mv (.tmp 13))⟩,
          ⟨(some 7), none, (.mv (.const (.int .i64 0)))⟩])
        .ret)
       (.seq
        (.ops [
          ⟨(some 15), none, (.bin .eql (.tmp 8) (.const (.int .i64 5)))⟩,
          ⟨(some 14), none, (.mv (.tmp 15))⟩])
        (.cond (.tmp 14)
         (.seq
          (.ops [
            ⟨(some 16), none, (.mv (.tmp 1))⟩,
            ⟨(some 17), none, (.mv (.tmp 2))⟩,
            ⟨(some 18), none, (.bin .sub (.tmp 16) (.tmp 17))⟩,
            ⟨(some 6), none, (.mv (.tmp 18))⟩,
            ⟨(some 7), none, (.mv (.const (.int .i64 0)))⟩])
          .ret)
         (.seq
          (.ops [
            ⟨(some 20), none, (.bin .eql (.tmp 8) (.const (.int .i64 6)))⟩,
            ⟨(some 19), none, (.mv (.tmp 20))⟩])
          (.cond (.tmp 19)
           (.seq
            (.ops [
              ⟨(some 21), none, (.mv (.tmp 1))⟩,
              ⟨(some 22), none, (.mv (.tmp 2))⟩,
              ⟨(some 23), none, (.bin .mul (.tmp 21) (.tmp 22))⟩,
              ⟨(some 6), none, (.mv (.tmp 23))⟩,
              ⟨(some 7), none, (.mv (.const (.int .i64 0)))⟩])
            .ret)
           (.seq
            (.seq
             (.ops [
               ⟨(some 25), none, (.bin .eql (.tmp 8) (.const (.int .i64 7)))⟩,
               ⟨(some 24), none, (.mv (.tmp 25))⟩])
             (.cond (.tmp 24)
              .skip
              (.ops [
                ⟨(some 26), none, (.bin .eql (.tmp 8) (.const (.int .i64 8)))⟩,
                ⟨(some 24), none, (.mv (.tmp 26))⟩])))
            (.cond (.tmp 24)
             (.seq
              (.ops [
                ⟨(some 27), none, (.mv (.tmp 0))⟩,
                ⟨(some 28), none, (.mv (.tmp 1))⟩,
                ⟨(some 29), none, (.mv (.tmp 2))⟩,
                ⟨(some 30), none, (.call (.func 69) [(.tmp 27), (.tmp 28), (.tmp 29)])⟩,
                ⟨(some 31), none, (.ext (.tmp 30) 0)⟩,
                ⟨(some 32), none, (.ext (.tmp 30) 1)⟩,
                ⟨(some 6), none, (.mv (.tmp 31))⟩,
                ⟨(some 7), none, (.mv (.tmp 32))⟩])
              .ret)
             (.seq
              (.ops [
                ⟨(some 34), none, (.bin .eql (.tmp 8) (.const (.int .i64 9)))⟩,
                ⟨(some 33), none, (.mv (.tmp 34))⟩])
              (.cond (.tmp 33)
               (.seq
                (.ops [
                  ⟨(some 35), none, (.mv (.tmp 1))⟩,
                  ⟨(some 36), none, (.mv (.tmp 2))⟩,
                  ⟨(some 37), none, (.bin .and (.tmp 35) (.tmp 36))⟩,
                  ⟨(some 6), none, (.mv (.tmp 37))⟩,
                  ⟨(some 7), none, (.mv (.const (.int .i64 0)))⟩])
                .ret)
               (.seq
                (.ops [
                  ⟨(some 39), none, (.bin .eql (.tmp 8) (.const (.int .i64 10)))⟩,
                  ⟨(some 38), none, (.mv (.tmp 39))⟩])
                (.cond (.tmp 38)
                 (.seq
                  (.ops [
                    ⟨(some 40), none, (.mv (.tmp 1))⟩,
                    ⟨(some 41), none, (.mv (.tmp 2))⟩,
                    ⟨(some 42), none, (.bin .or (.tmp 40) (.tmp 41))⟩,
                    ⟨(some 6), none, (.mv (.tmp 42))⟩,
                    ⟨(some 7), none, (.mv (.const (.int .i64 0)))⟩])
                  .ret)
                 (.seq
                  (.ops [
                    ⟨(some 44), none, (.bin .eql (.tmp 8) (.const (.int .i64 11)))⟩,
                    ⟨(some 43), none, (.mv (.tmp 44))⟩])
                  (.cond (.tmp 43)
                   (.seq
                    (.ops [
                      ⟨(some 45), none, (.mv (.tmp 1))⟩,
                      ⟨(some 46), none, (.mv (.tmp 2))⟩,
                      ⟨(some 47), none, (.bin .xor (.tmp 45) (.tmp 46))⟩,
                      ⟨(some 6), none, (.mv (.tmp 47))⟩,
                      ⟨(some 7), none, (.mv (.const (.int .i64 0)))⟩])
                    .ret)
                   (.seq
                    (.seq
                     (.ops [
                       ⟨(some 49), none, (.bin .eql (.tmp 8) (.const (.int .i64 12)))⟩,
                       ⟨(some 48), none, (.mv (.tmp 49))⟩])
                     (.cond (.tmp 48)
                      .skip
                      (.ops [
                        ⟨(some 50), none, (.bin .eql (.tmp 8) (.const (.int .i64 13)))⟩,
                        ⟨(some 48), none, (.mv (.tmp 50))⟩])))
                    (.cond (.tmp 48)
                     (.seq
                      (.ops [
                        ⟨(some 51), none, (.mv (.tmp 0))⟩,
                        ⟨(some 52), none, (.mv (.tmp 1))⟩,
                        ⟨(some 53), none, (.mv (.tmp 2))⟩,
                        ⟨(some 54), none, (.call (.func 70) [(.tmp 51), (.tmp 52), (.tmp 53)])⟩,
                        ⟨(some 6), none, (.mv (.tmp 54))⟩,
                        ⟨(some 7), none, (.mv (.const (.int .i64 0)))⟩])
                      .ret)
                     (.seq
                      (.seq
                       (.ops [
                         ⟨(some 56), none, (.bin .eql (.tmp 8) (.const (.int .i64 14)))⟩,
                         ⟨(some 55), none, (.mv (.tmp 56))⟩])
                       (.cond (.tmp 55)
                        .skip
                        (.ops [
                          ⟨(some 57), none, (.bin .eql (.tmp 8) (.const (.int .i64 15)))⟩,
                          ⟨(some 55), none, (.mv (.tmp 57))⟩])))
                      (.cond (.tmp 55)
                       (.seq
                        (.ops [
                          ⟨(some 58), none, (.mv (.tmp 0))⟩,
                          ⟨(some 59), none, (.mv (.tmp 1))⟩,
                          ⟨(some 60), none, (.mv (.tmp 2))⟩,
                          ⟨(some 61), none, (.call (.func 71) [(.tmp 58), (.tmp 59), (.tmp 60)])⟩,
                          ⟨(some 6), none, (.mv (.tmp 61))⟩,
                          ⟨(some 7), none, (.mv (.const (.int .i64 0)))⟩])
                        .ret)
                       .skip))))))))))))))))))))
   (.seq
    (.ops [
      ⟨(some 6), none, (.mv (.const (.int .u32 0)))⟩,
      ⟨(some 7), none, (.mv (.const (.int .i64 1)))⟩])
    .ret)))
theorem f_word_Apply : compF Try.prog 59 = some (62, c_word_Apply, [(.tmp 6), (.tmp 7)]) := by kernel_rfl

/-- slices.AppendSeq[[]uint32,uint32] -/
def c_slices_AppendSeq__uint32uint32 : VC :=
 (.seq
  (.ops [
    ⟨(some 2), none, (.box 22 (.tmp 0))⟩,
    ⟨(some 4), none, (.mv (.const (.slice none 0 0)))⟩])
  (.seq
   (.seq
    (.ops [
      ⟨(some 6), none, (.mv (.tmp 1))⟩])
    (.block 0
     (.range (.tmp 6) [7]
      (.seq
       (.ops [
         ⟨(some 5), none, (.mv (.tmp 7))⟩])
       (.block 1
        (.ops [
          ⟨(some 8), none, (.ld false 1 (.tmp 2))⟩,
          ⟨(some 9), none, (.mv (.tmp 5))⟩,
          ⟨(some 10), none, (.bsl 34 1 1 [(.int .u32 0)] [(0, (1, (.tmp 9)))])⟩,
          ⟨(some 11), none, (.app 34 1 4 (.tmp 8) (.tmp 10))⟩,
          ⟨none, none, (.sto false 1 (.tmp 2) (.tmp 11))⟩]))))))
   (.seq
    (.ops [
      ⟨(some 12), none, (.ld false 1 (.tmp 2))⟩,
      ⟨(some 4), none, (.mv (.tmp 12))⟩])
    .ret)))
theorem f_slices_AppendSeq__uint32uint32 : compFB Try.prog false 60 = some (13, c_slices_AppendSeq__uint32uint32, [(.tmp 4)]) := by kernel_rfl

/-- seedcorn/image.words$1 -/
def c_image_words_1 : VC :=
 (.seq
  (.ops [
    ⟨(some 3), none, (.mv (.const (.int .i64 0)))⟩])
  (.block 0
   (.loop
    (.seq
     (.seq
      (.ops [
        ⟨(some 5), none, (.mv (.tmp 3))⟩,
        ⟨(some 6), none, (.bin .add (.tmp 5) (.const (.int .i64 4)))⟩,
        ⟨(some 7), none, (.ld false 1 (.tmp 1))⟩,
        ⟨(some 8), none, (.lens (.tmp 7))⟩,
        ⟨(some 9), none, (.bin .leq (.tmp 6) (.tmp 8))⟩])
      (.cond (.tmp 9)
       .skip
       (.exit 0)))
     (.seq
      (.block 1
       (.seq
        (.par false (.one ⟨(some 12), none, (.ld false 1 (.tmp 1))⟩ (.one ⟨(some 13), none, (.mv (.tmp 3))⟩ (.one ⟨(some 14), none, (.pur .six [(.tmp 12), (.tmp 13)])⟩ (.one ⟨(some 15), none, (.conv .u32 (.tmp 14))⟩ (.one ⟨(some 16), none, (.ld false 1 (.tmp 1))⟩ (.one ⟨(some 17), none, (.mv (.tmp 3))⟩ (.one ⟨(some 18), none, (.bin .add (.tmp 17) (.const (.int .i64 1)))⟩ (.one ⟨(some 19), none, (.pur .six [(.tmp 16), (.tmp 18)])⟩ (.one ⟨(some 20), none, (.conv .u32 (.tmp 19))⟩ (.one ⟨(some 21), none, (.bin .shl (.tmp 20) (.const (.int .u64 8)))⟩ (.one ⟨(some 22), none, (.bin .or (.tmp 15) (.tmp 21))⟩ (.one ⟨(some 23), none, (.ld false 1 (.tmp 1))⟩ (.one ⟨(some 24), none, (.mv (.tmp 3))⟩ (.one ⟨(some 25), none, (.bin .add (.tmp 24) (.const (.int .i64 2)))⟩ (.one ⟨(some 26), none, (.pur .six [(.tmp 23), (.tmp 25)])⟩ (.one ⟨(some 27), none, (.conv .u32 (.tmp 26))⟩ (.one ⟨(some 28), none, (.bin .shl (.tmp 27) (.const (.int .u64 16)))⟩ (.one ⟨(some 29), none, (.bin .or (.tmp 22) (.tmp 28))⟩ (.one ⟨(some 30), none, (.ld false 1 (.tmp 1))⟩ (.one ⟨(some 31), none, (.mv (.tmp 3))⟩ (.one ⟨(some 32), none, (.bin .add (.tmp 31) (.const (.int .i64 3)))⟩ (.one ⟨(some 33), none, (.pur .six [(.tmp 30), (.tmp 32)])⟩ (.one ⟨(some 34), none, (.conv .u32 (.tmp 33))⟩ (.one ⟨(some 35), none, (.bin .shl (.tmp 34) (.const (.int .u64 24)))⟩ (.one ⟨(some 36), none, (.bin .or (.tmp 29) (.tmp 35))⟩ (.one ⟨(some 4), none, (.mv (.tmp 36))⟩ .done)))))))))))))))))))))))))))
        (.seq
         (.ops [
           ⟨(some 37), none, (.mv (.tmp 0))⟩,
           ⟨(some 38), none, (.mv (.tmp 4))⟩,
           ⟨(some 39), none, (.ycal (.tmp 37) [(.tmp 38)])⟩,
           ⟨(some 40), none, (.un .not (.tmp 39))⟩])
         (.cond (.tmp 40)
          .ret
          .skip))))
      (.ops [
        ⟨(some 10), none, (.mv (.tmp 3))⟩,
        ⟨(some 11), none, (.bin .add (.tmp 10) (.const (.int .i64 4)))⟩,
        ⟨(some 3), none, (.mv (.tmp 11))⟩]))))))
theorem f_image_words_1 : compFB Try.prog true 61 = some (41, c_image_words_1, []) := by kernel_rfl

/-- seedcorn/seedcornref01.both -/
def c_scref01_both : VC :=
 (.seq
  (.ops [
    ⟨(some 6), none, (.mv (.const (.int .u32 0)))⟩])
  (.seq
   (.ops [
     ⟨(some 11), none, (.mv (.tmp 1))⟩,
     ⟨(some 12), none, (.call (.func 72) [(.tmp 11)])⟩,
     ⟨(some 13), none, (.mv (.tmp 2))⟩,
     ⟨(some 14), none, (.call (.func 72) [(.tmp 13)])⟩,
     ⟨(some 7), none, (.mv (.tmp 12))⟩,
     ⟨(some 8), none, (.mv (.tmp 14))⟩])
   (.seq
    (.seq
     (.ops [
       ⟨(some 9), none, (.mv (.const (.int .i64 0)))⟩])
     (.block 0
      (.loop
       (.seq
        (.seq
         (.ops [
           ⟨(some 15), none, (.mv (.tmp 9))⟩,
           ⟨(some 16), none, (.bin .lss (.tmp 15) (.const (.int .i64 32)))⟩])
         (.cond (.tmp 16)
          .skip
          (.exit 0)))
        (.seq
         (.block 1
          (.seq
           (.ops [
             ⟨(some 19), none, (.mv (.tmp 7))⟩,
             ⟨(some 20), none, (.mv (.tmp 9))⟩,
             ⟨(some 21), none, (.idx 1 (.tmp 19) (.tmp 20))⟩,
             ⟨(some 22), none, (.ld false 1 (.tmp 21))⟩,
             ⟨(some 23), none, (.mv (.tmp 8))⟩,
             ⟨(some 24), none, (.mv (.tmp 9))⟩,
             ⟨(some 25), none, (.idx 1 (.tmp 23) (.tmp 24))⟩,
             ⟨(some 26), none, (.ld false 1 (.tmp 25))⟩,
             ⟨(some 27), none, (.bin .add (.tmp 22) (.tmp 26))⟩,
             ⟨(some 10), none, (.mv (.tmp 27))⟩])
           (.seq
            (.ops [
              ⟨(some 28), none, (.mv (.tmp 7))⟩,
              ⟨(some 29), none, (.mv (.tmp 9))⟩,
              ⟨(some 30), none, (.idx 1 (.tmp 28) (.tmp 29))⟩,
              ⟨none, none, (.sto false 1 (.tmp 30) (.const (.int .i64 0)))⟩])
            (.seq
             (.ops [
               ⟨(some 31), none, (.mv (.tmp 10))⟩,
               ⟨(some 32), none, (.bin .eql (.tmp 31) (.const (.int .i64 2)))⟩,
               ⟨(some 33), none, (.mv (.tmp 32))⟩,
               ⟨(some 34), (some (33, true)), (.mv (.tmp 0))⟩,
               ⟨(some 35), (some (33, true)), (.bin .neq (.tmp 34) (.const (.int .i64 11)))⟩,
               ⟨(some 36), none, (.pick (.tmp 33) (.tmp 35) (.const (.bool false)))⟩,
               ⟨(some 37), none, (.mv (.tmp 36))⟩,
               ⟨(some 38), (some (37, false)), (.mv (.tmp 10))⟩,
               ⟨(some 39), (some (37, false)), (.bin .eql (.tmp 38) (.const (.int .i64 1)))⟩,
               ⟨(some 40), (some (37, false)), (.mv (.tmp 39))⟩,
               ⟨(some 41), (some (40, true)), (.mv (.tmp 0))⟩,
               ⟨(some 42), (some (40, true)), (.bin .neq (.tmp 41) (.const (.int .i64 9)))⟩,
               ⟨(some 43), (some (37, false)), (.pick (.tmp 40) (.tmp 42) (.const (.bool false)))⟩,
               ⟨(some 44), none, (.pick (.tmp 37) (.const (.bool true)) (.tmp 43))⟩])
             (.cond (.tmp 44)
              (.ops [
                ⟨(some 45), none, (.mv (.tmp 7))⟩,
                ⟨(some 46), none, (.mv (.tmp 9))⟩,
                ⟨(some 47), none, (.idx 1 (.tmp 45) (.tmp 46))⟩,
                ⟨none, none, (.sto false 1 (.tmp 47) (.const (.int .i64 1)))⟩])
              .skip)))))
         (.ops [
           ⟨(some 17), none, (.mv (.tmp 9))⟩,
           ⟨(some 18), none, (.bin .add (.tmp 17) (.const (.int .i64 1)))⟩,
           ⟨(some 9), none, (.mv (.tmp 18))⟩]))))))
    (.seq
     (.ops [
       ⟨(some 48), none, (.mv (.tmp 7))⟩,
       ⟨(some 49), none, (.call (.func 73) [(.tmp 48)])⟩,
       ⟨(some 6), none, (.mv (.tmp 49))⟩])
     .ret))))
theorem f_scref01_both : compF Try.prog 62 = some (50, c_scref01_both, [(.tmp 6)]) := by kernel_rfl

/-- seedcorn/seedcornref01.shift -/
def c_scref01_shift : VC :=
 (.seq
  (.ops [
    ⟨(some 6), none, (.mv (.const (.int .u32 0)))⟩])
  (.seq
   (.seq
    (.ops [
      ⟨(some 9), none, (.mv (.tmp 2))⟩,
      ⟨(some 10), none, (.bin .geq (.tmp 9) (.const (.int .u32 32)))⟩])
    (.cond (.tmp 10)
     (.seq
      (.ops [
        ⟨(some 6), none, (.mv (.const (.int .u32 0)))⟩])
      .ret)
     .skip))
   (.seq
    (.ops [
      ⟨(some 11), none, (.mv (.tmp 1))⟩,
      ⟨(some 12), none, (.conv .u64 (.tmp 11))⟩,
      ⟨(some 7), none, (.mv (.tmp 12))⟩])
    (.seq
     (.seq
      (.ops [
        ⟨(some 8), none, (.mv (.const (.int .u32 0)))⟩])
      (.block 0
       (.loop
        (.seq
         (.seq
          (.ops [
            ⟨(some 13), none, (.mv (.tmp 8))⟩,
            ⟨(some 14), none, (.mv (.tmp 2))⟩,
            ⟨(some 15), none, (.bin .lss (.tmp 13) (.tmp 14))⟩])
          (.cond (.tmp 15)
           .skip
           (.exit 0)))
         (.seq
          (.block 1
           (.seq
            (.ops [
              ⟨(some 18), none, (.mv (.tmp 0))⟩,
              ⟨(some 19), none, (.bin .eql (.tmp 18) (.const (.int .i64 12)))⟩])
            (.cond (.tmp 19)
             (.ops [
               ⟨(some 20), none, (.mv (.tmp 7))⟩,
               ⟨(some 21), none, (.bin .mul (.const (.int .u64 2)) (.tmp 20))⟩,
               ⟨(some 22), none, (.bin .rem (.tmp 21) (.const (.int .u64 4294967296)))⟩,
               ⟨(some 7), none, (.mv (.tmp 22))⟩])
             (.ops [
               ⟨(some 23), none, (.mv (.tmp 7))⟩,
               ⟨(some 24), none, (.bin .quo (.tmp 23) (.const (.int .u64 2)))⟩,
               ⟨(some 7), none, (.mv (.tmp 24))⟩]))))
          (.ops [
            ⟨(some 16), none, (.mv (.tmp 8))⟩,
            ⟨(some 17), none, (.bin .add (.tmp 16) (.const (.int .u32 1)))⟩,
            ⟨(some 8), none, (.mv (.tmp 17))⟩]))))))
     (.seq
      (.ops [
        ⟨(some 25), none, (.mv (.tmp 7))⟩,
        ⟨(some 26), none, (.conv .u32 (.tmp 25))⟩,
        ⟨(some 6), none, (.mv (.tmp 26))⟩])
      .ret)))))
theorem f_scref01_shift : compF Try.prog 63 = some (27, c_scref01_shift, [(.tmp 6)]) := by kernel_rfl

/-- seedcorn/seedcornref01.flag -/
def c_scref01_flag : VC :=
 (.seq
  (.ops [
    ⟨(some 2), none, (.mv (.const (.int .u32 0)))⟩])
  (.seq
   (.seq
    (.ops [
      ⟨(some 3), none, (.mv (.tmp 0))⟩])
    (.cond (.tmp 3)
     (.seq
      (.ops [
        ⟨(some 2), none, (.mv (.const (.int .u32 1)))⟩])
      .ret)
     .skip))
   (.seq
    (.ops [
      ⟨(some 2), none, (.mv (.const (.int .u32 0)))⟩])
    .ret)))
theorem f_scref01_flag : compF Try.prog 64 = some (4, c_scref01_flag, [(.tmp 2)]) := by kernel_rfl

/-- seedcorn/inst.known -/
def c_inst_known : VC :=
 (.seq
  (.ops [
    ⟨(some 2), none, (.mv (.const (.bool false)))⟩])
  (.seq
   (.ops [
     ⟨(some 3), none, (.mv (.tmp 0))⟩,
     ⟨(some 4), none, (.call (.func 66) [(.tmp 3)])⟩,
     ⟨(some 5), none, (.fld 0 false 1 (.tmp 4))⟩,
     ⟨(some 6), none, (.bin .neq (.tmp 5) (.const (.string ⟨#[]⟩)))⟩,
     ⟨(some 2), none, (.mv (.tmp 6))⟩])
   .ret))
theorem f_inst_known : compF Try.prog 65 = some (7, c_inst_known, [(.tmp 2)]) := by kernel_rfl

/-- seedcorn/inst.shapeOf -/
def c_inst_shapeOf : VC :=
 (.seq
  (.ops [
    ⟨(some 2), none, (.alc 107 [(.string ⟨#[]⟩), (.bool false), (.bool false), (.int .i64 0)])⟩])
  (.seq
   (.seq
    (.ops [
      ⟨(some 3), none, (.mv (.tmp 0))⟩])
    (.block 0
     (.seq
      (.ops [
        ⟨(some 5), none, (.bin .eql (.tmp 3) (.const (.int .i64 1)))⟩,
        ⟨(some 4), none, (.mv (.tmp 5))⟩])
      (.cond (.tmp 4)
       (.seq
        (.ops [
          ⟨(some 6), none, (.bld [(.string ⟨#[]⟩), (.bool false), (.bool false), (.int .i64 0)] [(0, (1, (.const (.string ⟨#[108, 105]⟩)))), (1, (1, (.const (.bool true)))), (2, (1, (.const (.bool false)))), (3, (1, (.const (.int .i64 1))))])⟩,
          ⟨none, none, (.sto true 4 (.tmp 2) (.tmp 6))⟩])
        .ret)
       (.seq
        (.ops [
          ⟨(some 8), none, (.bin .eql (.tmp 3) (.const (.int .i64 2)))⟩,
          ⟨(some 7), none, (.mv (.tmp 8))⟩])
        (.cond (.tmp 7)
         (.seq
          (.ops [
            ⟨(some 9), none, (.bld [(.string ⟨#[]⟩), (.bool false), (.bool false), (.int .i64 0)] [(0, (1, (.const (.string ⟨#[108, 117, 105]⟩)))), (1, (1, (.const (.bool true)))), (2, (1, (.const (.bool false)))), (3, (1, (.const (.int .i64 1))))])⟩,
            ⟨none, none, (.sto true 4 (.tmp 2) (.tmp 9))⟩])
          .ret)
         (.seq
          (.ops [
            ⟨(some 11), none, (.bin .eql (.tmp 3) (.const (.int .i64 3)))⟩,
            ⟨(some 10), none, (.mv (.tmp 11))⟩])
          (.cond (.tmp 10)
           (.seq
            (.ops [
              ⟨(some 12), none, (.bld [(.string ⟨#[]⟩), (.bool false), (.bool false), (.int .i64 0)] [(0, (1, (.const (.string ⟨#[109, 111, 118]⟩)))), (1, (1, (.const (.bool true)))), (2, (1, (.const (.bool true)))), (3, (1, (.const (.int .i64 0))))])⟩,
              ⟨none, none, (.sto true 4 (.tmp 2) (.tmp 12))⟩])
            .ret)
           (.seq
            (.ops [
              ⟨(some 14), none, (.bin .eql (.tmp 3) (.const (.int .i64 4)))⟩,
              ⟨(some 13), none, (.mv (.tmp 14))⟩])
            (.cond (.tmp 13)
             (.seq
              (.ops [
                ⟨(some 15), none, (.bld [(.string ⟨#[]⟩), (.bool false), (.bool false), (.int .i64 0)] [(0, (1, (.const (.string ⟨#[97, 100, 100]⟩)))), (1, (1, (.const (.bool true)))), (2, (1, (.const (.bool true)))), (3, (1, (.const (.int .i64 2))))])⟩,
                ⟨none, none, (.sto true 4 (.tmp 2) (.tmp 15))⟩])
              .ret)
             (.seq
              (.ops [
                ⟨(some 17), none, (.bin .eql (.tmp 3) (.const (.int .i64 5)))⟩,
                ⟨(some 16), none, (.mv (.tmp 17))⟩])
              (.cond (.tmp 16)
               (.seq
                (.ops [
                  ⟨(some 18), none, (.bld [(.string ⟨#[]⟩), (.bool false), (.bool false), (.int .i64 0)] [(0, (1, (.const (.string ⟨#[115, 117, 98]⟩)))), (1, (1, (.const (.bool true)))), (2, (1, (.const (.bool true)))), (3, (1, (.const (.int .i64 2))))])⟩,
                  ⟨none, none, (.sto true 4 (.tmp 2) (.tmp 18))⟩])
                .ret)
               (.seq
                (.ops [
                  ⟨(some 20), none, (.bin .eql (.tmp 3) (.const (.int .i64 6)))⟩,
                  ⟨(some 19), none, (.mv (.tmp 20))⟩])
                (.cond (.tmp 19)
                 (.seq
                  (.ops [
                    ⟨(some 21), none, (.bld [(.string ⟨#[]⟩), (.bool false), (.bool false), (.int .i64 0)] [(0, (1, (.const (.string ⟨#[109, 117, 108]⟩)))), (1, (1, (.const (.bool true)))), (2, (1, (.const (.bool true)))), (3, (1, (.const (.int .i64 2))))])⟩,
                    ⟨none, none, (.sto true 4 (.tmp 2) (.tmp 21))⟩])
                  .ret)
                 (.seq
                  (.ops [
                    ⟨(some 23), none, (.bin .eql (.tmp 3) (.const (.int .i64 7)))⟩,
                    ⟨(some 22), none, (.mv (.tmp 23))⟩])
                  (.cond (.tmp 22)
                   (.seq
                    (.ops [
                      ⟨(some 24), none, (.bld [(.string ⟨#[]⟩), (.bool false), (.bool false), (.int .i64 0)] [(0, (1, (.const (.string ⟨#[100, 105, 118]⟩)))), (1, (1, (.const (.bool true)))), (2, (1, (.const (.bool true)))), (3, (1, (.const (.int .i64 2))))])⟩,
                      ⟨none, none, (.sto true 4 (.tmp 2) (.tmp 24))⟩])
                    .ret)
                   (.seq
                    (.ops [
                      ⟨(some 26), none, (.bin .eql (.tmp 3) (.const (.int .i64 8)))⟩,
                      ⟨(some 25), none, (.mv (.tmp 26))⟩])
                    (.cond (.tmp 25)
                     (.seq
                      (.ops [
                        ⟨(some 27), none, (.bld [(.string ⟨#[]⟩), (.bool false), (.bool false), (.int .i64 0)] [(0, (1, (.const (.string ⟨#[109, 111, 100]⟩)))), (1, (1, (.const (.bool true)))), (2, (1, (.const (.bool true)))), (3, (1, (.const (.int .i64 2))))])⟩,
                        ⟨none, none, (.sto true 4 (.tmp 2) (.tmp 27))⟩])
                      .ret)
                     (.seq
                      (.ops [
                        ⟨(some 29), none, (.bin .eql (.tmp 3) (.const (.int .i64 9)))⟩,
                        ⟨(some 28), none, (.mv (.tmp 29))⟩])
                      (.cond (.tmp 28)
                       (.seq
                        (.ops [
                          ⟨(some 30), none, (.bld [(.string ⟨#[]⟩), (.bool false), (.bool false), (.int .i64 0)] [(0, (1, (.const (.string ⟨#[97, 110, 100]⟩)))), (1, (1, (.const (.bool true)))), (2, (1, (.const (.bool true)))), (3, (1, (.const (.int .i64 2))))])⟩,
                          ⟨none, none, (.sto true 4 (.tmp 2) (.tmp 30))⟩])
                        .ret)
                       (.seq
                        (.ops [
                          ⟨(some 32), none, (.bin .eql (.tmp 3) (.const (.int .i64 10)))⟩,
                          ⟨(some 31), none, (.mv (.tmp 32))⟩])
                        (.cond (.tmp 31)
                         (.seq
                          (.ops [
                            ⟨(some 33), none, (.bld [(.string ⟨#[]⟩), (.bool false), (.bool false), (.int .i64 0)] [(0, (1, (.const (.string ⟨#[111, 114]⟩)))), (1, (1, (.const (.bool true)))), (2, (1, (.const (.bool true)))), (3, (1, (.const (.int .i64 2))))])⟩,
                            ⟨none, none, (.sto true 4 (.tmp 2) (.tmp 33))⟩])
                          .ret)
                         (.seq
                          (.ops [
                            ⟨(some 35), none, (.bin .eql (.tmp 3) (.const (.int .i64 11)))⟩,
                            ⟨(some 34), none, (.mv (.tmp 35))⟩])
                          (.cond (.tmp 34)
                           (.seq
                            (.ops [
                              ⟨(some 36), none, (.bld [(.string ⟨#[]⟩), (.bool false), (.bool false), (.int .i64 0)] [(0, (1, (.const (.string ⟨#[120, 111, 114]⟩)))), (1, (1, (.const (.bool true)))), (2, (1, (.const (.bool true)))), (3, (1, (.const (.int .i64 2))))])⟩,
                              ⟨none, none, (.sto true 4 (.tmp 2) (.tmp 36))⟩])
                            .ret)
                           (.seq
                            (.ops [
                              ⟨(some 38), none, (.bin .eql (.tmp 3) (.const (.int .i64 12)))⟩,
                              ⟨(some 37), none, (.mv (.tmp 38))⟩])
                            (.cond (.tmp 37)
                             (.seq
                              (.ops [
                                ⟨(some 39), none, (.bld [(.string ⟨#[]⟩), (.bool false), (.bool false), (.int .i64 0)] [(0, (1, (.const (.string ⟨#[115, 104, 108]⟩)))), (1, (1, (.const (.bool true)))), (2, (1, (.const (.bool true)))), (3, (1, (.const (.int .i64 2))))])⟩,
                                ⟨none, none, (.sto true 4 (.tmp 2) (.tmp 39))⟩])
                              .ret)
                             (.seq
                              (.ops [
                                ⟨(some 41), none, (.bin .eql (.tmp 3) (.const (.int .i64 13)))⟩,
                                ⟨(some 40), none, (.mv (.tmp 41))⟩])
                              (.cond (.tmp 40)
                               (.seq
                                (.ops [
                                  ⟨(some 42), none, (.bld [(.string ⟨#[]⟩), (.bool false), (.bool false), (.int .i64 0)] [(0, (1, (.const (.string ⟨#[115, 104, 114]⟩)))), (1, (1, (.const (.bool true)))), (2, (1, (.const (.bool true)))), (3, (1, (.const (.int .i64 2))))])⟩,
                                  ⟨none, none, (.sto true 4 (.tmp 2) (.tmp 42))⟩])
                                .ret)
                               (.seq
                                (.ops [
                                  ⟨(some 44), none, (.bin .eql (.tmp 3) (.const (.int .i64 14)))⟩,
                                  ⟨(some 43), none, (.mv (.tmp 44))⟩])
                                (.cond (.tmp 43)
                                 (.seq
                                  (.ops [
                                    ⟨(some 45), none, (.bld [(.string ⟨#[]⟩), (.bool false), (.bool false), (.int .i64 0)] [(0, (1, (.const (.string ⟨#[108, 116]⟩)))), (1, (1, (.const (.bool true)))), (2, (1, (.const (.bool true)))), (3, (1, (.const (.int .i64 2))))])⟩,
                                    ⟨none, none, (.sto true 4 (.tmp 2) (.tmp 45))⟩])
                                  .ret)
                                 (.seq
                                  (.ops [
                                    ⟨(some 47), none, (.bin .eql (.tmp 3) (.const (.int .i64 15)))⟩,
                                    ⟨(some 46), none, (.mv (.tmp 47))⟩])
                                  (.cond (.tmp 46)
                                   (.seq
                                    (.ops [
                                      ⟨(some 48), none, (.bld [(.string ⟨#[]⟩), (.bool false), (.bool false), (.int .i64 0)] [(0, (1, (.const (.string ⟨#[101, 113]⟩)))), (1, (1, (.const (.bool true)))), (2, (1, (.const (.bool true)))), (3, (1, (.const (.int .i64 2))))])⟩,
                                      ⟨none, none, (.sto true 4 (.tmp 2) (.tmp 48))⟩])
                                    .ret)
                                   (.seq
                                    (.ops [
                                      ⟨(some 50), none, (.bin .eql (.tmp 3) (.const (.int .i64 16)))⟩,
                                      ⟨(some 49), none, (.mv (.tmp 50))⟩])
                                    (.cond (.tmp 49)
                                     (.seq
                                      (.ops [
                                        ⟨(some 51), none, (.bld [(.string ⟨#[]⟩), (.bool false), (.bool false), (.int .i64 0)] [(0, (1, (.const (.string ⟨#[108, 100]⟩)))), (1, (1, (.const (.bool true)))), (2, (1, (.const (.bool true)))), (3, (1, (.const (.int .i64 1))))])⟩,
                                        ⟨none, none, (.sto true 4 (.tmp 2) (.tmp 51))⟩])
                                      .ret)
                                     (.seq
                                      (.ops [
                                        ⟨(some 53), none, (.bin .eql (.tmp 3) (.const (.int .i64 17)))⟩,
                                        ⟨(some 52), none, (.mv (.tmp 53))⟩])
                                      (.cond (.tmp 52)
                                       (.seq
                                        (.ops [
                                          ⟨(some 54), none, (.bld [(.string ⟨#[]⟩), (.bool false), (.bool false), (.int .i64 0)] [(0, (1, (.const (.string ⟨#[115, 116]⟩)))), (1, (1, (.const (.bool true)))), (2, (1, (.const (.bool true)))), (3, (1, (.const (.int .i64 1))))])⟩,
                                          ⟨none, none, (.sto true 4 (.tmp 2) (.tmp 54))⟩])
                                        .ret)
                                       (.seq
                                        (.ops [
                                          ⟨(some 56), none, (.bin .eql (.tmp 3) (.const (.int .i64 18)))⟩,
                                          ⟨(some 55), none, (.mv (.tmp 56))⟩])
                                        (.cond (.tmp 55)
                                         (.seq
                                          (.ops [
                                            ⟨(some 57), none, (.bld [(.string ⟨#[]⟩), (.bool false), (.bool false), (.int .i64 0)] [(0, (1, (.const (.string ⟨#[106, 109, 112]⟩)))), (1, (1, (.const (.bool false)))), (2, (1, (.const (.bool false)))), (3, (1, (.const (.int .i64 1))))])⟩,
                                            ⟨none, none, (.sto true 4 (.tmp 2) (.tmp 57))⟩])
                                          .ret)
                                         (.seq
                                          (.ops [
                                            ⟨(some 59), none, (.bin .eql (.tmp 3) (.const (.int .i64 19)))⟩,
                                            ⟨(some 58), none, (.mv (.tmp 59))⟩])
                                          (.cond (.tmp 58)
                                           (.seq
                                            (.ops [
                                              ⟨(some 60), none, (.bld [(.string ⟨#[]⟩), (.bool false), (.bool false), (.int .i64 0)] [(0, (1, (.const (.string ⟨#[106, 122]⟩)))), (1, (1, (.const (.bool true)))), (2, (1, (.const (.bool false)))), (3, (1, (.const (.int .i64 1))))])⟩,
                                              ⟨none, none, (.sto true 4 (.tmp 2) (.tmp 60))⟩])
                                            .ret)
                                           (.seq
                                            (.ops [
                                              ⟨(some 62), none, (.bin .eql (.tmp 3) (.const (.int .i64 20)))⟩,
                                              ⟨(some 61), none, (.mv (.tmp 62))⟩])
                                            (.cond (.tmp 61)
                                             (.seq
                                              (.ops [
                                                ⟨(some 63), none, (.bld [(.string ⟨#[]⟩), (.bool false), (.bool false), (.int .i64 0)] [(0, (1, (.const (.string ⟨#[106, 110, 122]⟩)))), (1, (1, (.const (.bool true)))), (2, (1, (.const (.bool false)))), (3, (1, (.const (.int .i64 1))))])⟩,
                                                ⟨none, none, (.sto true 4 (.tmp 2) (.tmp 63))⟩])
                                              .ret)
                                             (.seq
                                              (.ops [
                                                ⟨(some 65), none, (.bin .eql (.tmp 3) (.const (.int .i64 21)))⟩,
                                                ⟨(some 64), none, (.mv (.tmp 65))⟩])
                                              (.cond (.tmp 64)
                                               (.seq
                                                (.ops [
                                                  ⟨(some 66), none, (.bld [(.string ⟨#[]⟩), (.bool false), (.bool false), (.int .i64 0)] [(0, (1, (.const (.string ⟨#[99, 97, 108, 108]⟩)))), (1, (1, (.const (.bool true)))), (2, (1, (.const (.bool false)))), (3, (1, (.const (.int .i64 1))))])⟩,
                                                  ⟨none, none, (.sto true 4 (.tmp 2) (.tmp 66))⟩])
                                                .ret)
                                               (.seq
                                                (.ops [
                                                  ⟨(some 68), none, (.bin .eql (.tmp 3) (.const (.int .i64 22)))⟩,
                                                  ⟨(some 67), none, (.mv (.tmp 68))⟩])
                                                (.cond (.tmp 67)
                                                 (.seq
                                                  (.ops [
                                                    ⟨(some 69), none, (.bld [(.string ⟨#[]⟩), (.bool false), (.bool false), (.int .i64 0)] [(0, (1, (.const (.string ⟨#[114, 101, 116]⟩)))), (1, (1, (.const (.bool true)))), (2, (1, (.const (.bool false)))), (3, (1, (.const (.int .i64 0))))])⟩,
                                                    ⟨none, none, (.sto true 4 (.tmp 2) (.tmp 69))⟩])
                                                  .ret)
                                                 (.seq
                                                  (.ops [
                                                    ⟨(some 71), none, (.bin .eql (.tmp 3) (.const (.int .i64 23)))⟩,
                                                    ⟨(some 70), none, (.mv (.tmp 71))⟩])
                                                  (.cond (.tmp 70)
                                                   (.seq
                                                    (.ops [
                                                      ⟨(some 72), none, (.bld [(.string ⟨#[]⟩), (.bool false), (.bool false), (.int .i64 0)] [(0, (1, (.const (.string ⟨#[103, 101, 116]⟩)))), (1, (1, (.const (.bool true)))), (2, (1, (.const (.bool false)))), (3, (1, (.const (.int .i64 0))))])⟩,
                                                      ⟨none, none, (.sto true 4 (.tmp 2) (.tmp 72))⟩])
                                                    .ret)
                                                   (.seq
                                                    (.ops [
                                                      ⟨(some 74), none, (.bin .eql (.tmp 3) (.const (.int .i64 24)))⟩,
                                                      ⟨(some 73), none, (.mv (.tmp 74))⟩])
                                                    (.cond (.tmp 73)
                                                     (.seq
                                                      (.ops [
                                                        ⟨(some 75), none, (.bld [(.string ⟨#[]⟩), (.bool false), (.bool false), (.int .i64 0)] [(0, (1, (.const (.string ⟨#[112, 117, 116]⟩)))), (1, (1, (.const (.bool true)))), (2, (1, (.const (.bool false)))), (3, (1, (.const (.int .i64 0))))])⟩,
                                                        ⟨none, none, (.sto true 4 (.tmp 2) (.tmp 75))⟩])
                                                      .ret)
                                                     (.seq
                                                      (.ops [
                                                        ⟨(some 77), none, (.bin .eql (.tmp 3) (.const (.int .i64 25)))⟩,
                                                        ⟨(some 76), none, (.mv (.tmp 77))⟩])
                                                      (.cond (.tmp 76)
                                                       (.seq
                                                        (.ops [
                                                          ⟨(some 78), none, (.bld [(.string ⟨#[]⟩), (.bool false), (.bool false), (.int .i64 0)] [(0, (1, (.const (.string ⟨#[99, 104, 107]⟩)))), (1, (1, (.const (.bool true)))), (2, (1, (.const (.bool false)))), (3, (1, (.const (.int .i64 1))))])⟩,
                                                          ⟨none, none, (.sto true 4 (.tmp 2) (.tmp 78))⟩])
                                                        .ret)
                                                       (.seq
                                                        (.ops [
                                                          ⟨(some 80), none, (.bin .eql (.tmp 3) (.const (.int .i64 26)))⟩,
                                                          ⟨(some 79), none, (.mv (.tmp 80))⟩])
                                                        (.cond (.tmp 79)
                                                         (.seq
                                                          (.ops [
                                                            ⟨(some 81), none, (.bld [(.string ⟨#[]⟩), (.bool false), (.bool false), (.int .i64 0)] [(0, (1, (.const (.string ⟨#[104, 97, 108, 116]⟩)))), (1, (1, (.const (.bool false)))), (2, (1, (.const (.bool false)))), (3, (1, (.const (.int .i64 0))))])⟩,
                                                            ⟨none, none, (.sto true 4 (.tmp 2) (.tmp 81))⟩])
                                                          .ret)
                                                         (.seq
                                                          (.ops [
                                                            ⟨(some 83), none, (.bin .eql (.tmp 3) (.const (.int .i64 27)))⟩,
                                                            ⟨(some 82), none, (.mv (.tmp 83))⟩])
                                                          (.cond (.tmp 82)
                                                           (.seq
                                                            (.ops [
                                                              ⟨(some 84), none, (.bld [(.string ⟨#[]⟩), (.bool false), (.bool false), (.int .i64 0)] [(0, (1, (.const (.string ⟨#[108, 100, 99]⟩)))), (1, (1, (.const (.bool true)))), (2, (1, (.const (.bool true)))), (3, (1, (.const (.int .i64 1))))])⟩,
                                                              ⟨none, none, (.sto true 4 (.tmp 2) (.tmp 84))⟩])
                                                            .ret)
                                                           .skip))))))))))))))))))))))))))))))))))))))))))))))))))))))))
   (.seq
    (.ops [
      ⟨(some 85), none, (.bld [(.string ⟨#[]⟩), (.bool false), (.bool false), (.int .i64 0)] [])⟩,
      ⟨none, none, (.sto true 4 (.tmp 2) (.tmp 85))⟩])
    .ret)))
theorem f_inst_shapeOf : compF Try.prog 66 = some (86, c_inst_shapeOf, [(.cell 2 true 4)]) := by kernel_rfl

/-- seedcorn/inst.within -/
def c_inst_within : VC :=
 (.seq
  (.ops [
    ⟨(some 6), none, (.mv (.const (.bool false)))⟩])
  (.seq
   (.seq
    (.ops [
      ⟨(some 7), none, (.mv (.tmp 2))⟩,
      ⟨(some 8), none, (.un .not (.tmp 7))⟩])
    (.cond (.tmp 8)
     (.seq
      (.ops [
        ⟨(some 9), none, (.mv (.tmp 0))⟩,
        ⟨(some 10), none, (.bin .eql (.tmp 9) (.const (.int .i64 0)))⟩,
        ⟨(some 6), none, (.mv (.tmp 10))⟩])
      .ret)
     .skip))
   (.seq
    (.ops [
      ⟨(some 11), none, (.mv (.tmp 0))⟩,
      ⟨(some 12), none, (.bin .geq (.tmp 11) (.const (.int .i64 0)))⟩,
      ⟨(some 13), none, (.mv (.tmp 12))⟩,
      ⟨(some 14), (some (13, true)), (.mv (.tmp 0))⟩,
      ⟨(some 15), (some (13, true)), (.mv (.tmp 1))⟩,
      ⟨(some 16), (some (13, true)), (.bin .leq (.tmp 14) (.tmp 15))⟩,
      ⟨(some 17), none, (.pick (.tmp 13) (.tmp 16) (.const (.bool false)))⟩,
      ⟨(some 6), none, (.mv (.tmp 17))⟩])
    .ret)))
theorem f_inst_within : compF Try.prog 67 = some (18, c_inst_within, [(.tmp 6)]) := by kernel_rfl

/-- slices.Clone[[]uint32,uint32] -/
def c_slices_Clone__uint32uint32 : VC :=
 (.seq
  (.ops [
    ⟨(some 2), none, (.mv (.const (.slice none 0 0)))⟩])
  (.seq
   (.seq
    (.ops [
      ⟨(some 3), none, (.mv (.tmp 0))⟩,
      ⟨(some 4), none, (.pur (.nils false) [(.tmp 3)])⟩])
    (.cond (.tmp 4)
     (.seq
      (.ops [
        ⟨(some 2), none, (.mv (.const (.slice none 0 0)))⟩])
      .ret)
     .skip))
   (.seq
    (.ops [
      ⟨(some 5), none, (.bsl 34 1 0 [] [])⟩,
      ⟨(some 6), none, (.mv (.tmp 0))⟩,
      ⟨(some 7), none, (.app 34 1 4 (.tmp 5) (.tmp 6))⟩,
      ⟨(some 2), none, (.mv (.tmp 7))⟩])
    .ret)))
theorem f_slices_Clone__uint32uint32 : compF Try.prog 68 = some (8, c_slices_Clone__uint32uint32, [(.tmp 2)]) := by kernel_rfl

/-- seedcorn/word.divide -/
def c_word_divide : VC :=
 (.seq
  (.ops [
    ⟨(some 6), none, (.mv (.const (.int .u32 0)))⟩,
    ⟨(some 7), none, (.mv (.const (.int .i64 0)))⟩])
  (.seq
   (.seq
    (.ops [
      ⟨(some 8), none, (.mv (.tmp 2))⟩,
      ⟨(some 9), none, (.bin .eql (.tmp 8) (.const (.int .u32 0)))⟩])
    (.cond (.tmp 9)
     (.seq
      (.ops [
        ⟨(some 6), none, (.mv (.const (.int .u32 0)))⟩,
        ⟨(some 7), none, (.mv (.const (.int .i64 14)))⟩])
      .ret)
     .skip))
   (.seq
    (.seq
     (.ops [
       ⟨(some 10), none, (.mv (.tmp 0))⟩,
       ⟨(some 11), none, (.bin .eql (.tmp 10) (.const (.int .i64 7)))⟩])
     (.cond (.tmp 11)
      (.seq
       (.ops [
         ⟨(some 12), none, (.mv (.tmp 1))⟩,
         ⟨(some 13), none, (.mv (.tmp 2))⟩,
         ⟨(some 14), none, (.bin .quo (.tmp 12) (.tmp 13))⟩,
         ⟨(some 6), none, (.mv (.tmp 14))⟩,
         ⟨(some 7), none, (.mv (.const (.int .i64 0)))⟩])
       .ret)
      .skip))
    (.seq
     (.ops [
       ⟨(some 15), none, (.mv (.tmp 1))⟩,
       ⟨(some 16), none, (.mv (.tmp 2))⟩,
       ⟨(some 17), none, (.bin .rem (.tmp 15) (.tmp 16))⟩,
       ⟨(some 6), none, (.mv (.tmp 17))⟩,
       ⟨(some 7), none, (.mv (.const (.int .i64 0)))⟩])
     .ret))))
theorem f_word_divide : compF Try.prog 69 = some (18, c_word_divide, [(.tmp 6), (.tmp 7)]) := by kernel_rfl

/-- seedcorn/word.shift -/
def c_word_shift : VC :=
 (.seq
  (.ops [
    ⟨(some 6), none, (.mv (.const (.int .u32 0)))⟩])
  (.seq
   (.block 0
    (.seq
     (.ops [
       ⟨(some 8), none, (.mv (.tmp 2))⟩,
       ⟨(some 9), none, (.bin .gtr (.tmp 8) (.const (.int .u32 31)))⟩,
       ⟨(some 7), none, (.mv (.tmp 9))⟩])
     (.cond (.tmp 7)
      (.seq
       (.ops [
         ⟨(some 6), none, (.mv (.const (.int .u32 0)))⟩])
       .ret)
      (.seq
       (.ops [
         ⟨(some 11), none, (.mv (.tmp 0))⟩,
         ⟨(some 12), none, (.bin .eql (.tmp 11) (.const (.int .i64 12)))⟩,
         ⟨(some 10), none, (.mv (.tmp 12))⟩])
       (.cond (.tmp 10)
        (.seq
         (.ops [
           ⟨(some 13), none, (.mv (.tmp 1))⟩,
           ⟨(some 14), none, (.mv (.tmp 2))⟩,
           ⟨(some 15), none, (.bin .shl (.tmp 13) (.tmp 14))⟩,
           ⟨(some 6), none, (.mv (.tmp 15))⟩])
         .ret)
        .skip)))))
   (.seq
    (.ops [
      ⟨(some 16), none, (.mv (.tmp 1))⟩,
      ⟨(some 17), none, (.mv (.tmp 2))⟩,
      ⟨(some 18), none, (.bin .shr (.tmp 16) (.tmp 17))⟩,
      ⟨(some 6), none, (.mv (.tmp 18))⟩])
    .ret)))
theorem f_word_shift : compF Try.prog 70 = some (19, c_word_shift, [(.tmp 6)]) := by kernel_rfl

/-- seedcorn/word.compare -/
def c_word_compare : VC :=
 (.seq
  (.ops [
    ⟨(some 6), none, (.mv (.const (.int .u32 0)))⟩])
  (.seq
   (.block 0
    (.seq
     (.block 2
      (.block 1
       (.seq
        (.seq
         (.seq
          (.ops [
            ⟨(some 8), none, (.mv (.tmp 0))⟩,
            ⟨(some 9), none, (.bin .eql (.tmp 8) (.const (.int .i64 14)))⟩,
            ⟨(some 10), none, (.mv (.tmp 9))⟩,
            ⟨(some 11), (some (10, true)), (.mv (.tmp 1))⟩,
            ⟨(some 12), (some (10, true)), (.mv (.tmp 2))⟩,
            ⟨(some 13), (some (10, true)), (.bin .lss (.tmp 11) (.tmp 12))⟩,
            ⟨(some 14), none, (.pick (.tmp 10) (.tmp 13) (.const (.bool false)))⟩,
            ⟨(some 7), none, (.mv (.tmp 14))⟩])
          (.cond (.tmp 7)
           (.exit 1)
           .skip))
         (.seq
          (.ops [
            ⟨(some 16), none, (.mv (.tmp 0))⟩,
            ⟨(some 17), none, (.bin .eql (.tmp 16) (.const (.int .i64 15)))⟩,
            ⟨(some 18), none, (.mv (.tmp 17))⟩,
            ⟨(some 19), (some (18, true)), (.mv (.tmp 1))⟩,
            ⟨(some 20), (some (18, true)), (.mv (.tmp 2))⟩,
            ⟨(some 21), (some (18, true)), (.bin .eql (.tmp 19) (.tmp 20))⟩,
            ⟨(some 22), none, (.pick (.tmp 18) (.tmp 21) (.const (.bool false)))⟩,
            ⟨(some 15), none, (.mv (.tmp 22))⟩])
          (.cond (.tmp 15)
           (.exit 2)
           .skip)))
        (.exit 0))))
     (.seq
      (.seq
       (.ops [
         ⟨(some 6), none, (.mv (.const (.int .u32 1)))⟩])
       .ret)
      (.exit 0))))
   (.seq
    (.ops [
      ⟨(some 6), none, (.mv (.const (.int .u32 0)))⟩])
    .ret)))
theorem f_word_compare : compF Try.prog 71 = some (23, c_word_compare, [(.tmp 6)]) := by kernel_rfl

/-- seedcorn/seedcornref01.Bits -/
def c_scref01_Bits : VC :=
 (.seq
  (.ops [
    ⟨(some 2), none, (.mv (.const (.slice none 0 0)))⟩])
  (.seq
   (.ops [
     ⟨(some 3), none, (.mv (.const (.slice none 0 0)))⟩])
   (.seq
    (.seq
     (.ops [
       ⟨(some 4), none, (.mv (.const (.int .i64 0)))⟩])
     (.block 0
      (.loop
       (.seq
        (.seq
         (.ops [
           ⟨(some 5), none, (.mv (.tmp 4))⟩,
           ⟨(some 6), none, (.bin .lss (.tmp 5) (.const (.int .i64 32)))⟩])
         (.cond (.tmp 6)
          .skip
          (.exit 0)))
        (.seq
         (.block 1
          (.seq
           (.ops [
             ⟨(some 9), none, (.mv (.tmp 3))⟩,
             ⟨(some 10), none, (.mv (.tmp 0))⟩,
             ⟨(some 11), none, (.bin .rem (.tmp 10) (.const (.int .u32 2)))⟩,
             ⟨(some 12), none, (.conv .i64 (.tmp 11))⟩,
             ⟨(some 13), none, (.bsl 3 1 1 [(.int .i64 0)] [(0, (1, (.tmp 12)))])⟩,
             ⟨(some 14), none, (.app 3 1 8 (.tmp 9) (.tmp 13))⟩,
             ⟨(some 3), none, (.mv (.tmp 14))⟩])
           (.ops [
             ⟨(some 15), none, (.mv (.tmp 0))⟩,
             ⟨(some 16), none, (.bin .quo (.tmp 15) (.const (.int .u32 2)))⟩,
             ⟨(some 0), none, (.mv (.tmp 16))⟩])))
         (.ops [
           ⟨(some 7), none, (.mv (.tmp 4))⟩,
           ⟨(some 8), none, (.bin .add (.tmp 7) (.const (.int .i64 1)))⟩,
           ⟨(some 4), none, (.mv (.tmp 8))⟩]))))))
    (.seq
     (.ops [
       ⟨(some 17), none, (.mv (.tmp 3))⟩,
       ⟨(some 2), none, (.mv (.tmp 17))⟩])
     .ret))))
theorem f_scref01_Bits : compF Try.prog 72 = some (18, c_scref01_Bits, [(.tmp 2)]) := by kernel_rfl

/-- seedcorn/seedcornref01.Of -/
def c_scref01_Of : VC :=
 (.seq
  (.ops [
    ⟨(some 2), none, (.mv (.const (.int .u32 0)))⟩])
  (.seq
   (.ops [
     ⟨(some 3), none, (.mv (.const (.int .u64 0)))⟩])
   (.seq
    (.seq
     (.ops [
       ⟨(some 5), none, (.mv (.tmp 0))⟩,
       ⟨(some 6), none, (.len (.tmp 5))⟩,
       ⟨(some 7), none, (.bin .sub (.tmp 6) (.const (.int .i64 1)))⟩,
       ⟨(some 4), none, (.mv (.tmp 7))⟩])
     (.block 0
      (.loop
       (.seq
        (.seq
         (.ops [
           ⟨(some 8), none, (.mv (.tmp 4))⟩,
           ⟨(some 9), none, (.bin .geq (.tmp 8) (.const (.int .i64 0)))⟩])
         (.cond (.tmp 9)
          .skip
          (.exit 0)))
        (.seq
         (.block 1
          (.ops [
            ⟨(some 12), none, (.mv (.tmp 3))⟩,
            ⟨(some 13), none, (.bin .mul (.const (.int .u64 2)) (.tmp 12))⟩,
            ⟨(some 14), none, (.mv (.tmp 0))⟩,
            ⟨(some 15), none, (.mv (.tmp 4))⟩,
            ⟨(some 16), none, (.idx 1 (.tmp 14) (.tmp 15))⟩,
            ⟨(some 17), none, (.ld false 1 (.tmp 16))⟩,
            ⟨(some 18), none, (.conv .u64 (.tmp 17))⟩,
            ⟨(some 19), none, (.bin .add (.tmp 13) (.tmp 18))⟩,
            ⟨(some 3), none, (.mv (.tmp 19))⟩]))
         (.ops [
           ⟨(some 10), none, (.mv (.tmp 4))⟩,
           ⟨(some 11), none, (.bin .sub (.tmp 10) (.const (.int .i64 1)))⟩,
           ⟨(some 4), none, (.mv (.tmp 11))⟩]))))))
    (.seq
     (.ops [
       ⟨(some 20), none, (.mv (.tmp 3))⟩,
       ⟨(some 21), none, (.bin .rem (.tmp 20) (.const (.int .u64 4294967296)))⟩,
       ⟨(some 22), none, (.conv .u32 (.tmp 21))⟩,
       ⟨(some 2), none, (.mv (.tmp 22))⟩])
     .ret))))
theorem f_scref01_Of : compF Try.prog 73 = some (23, c_scref01_Of, [(.tmp 2)]) := by kernel_rfl

end Go.Proofs.Ytjoldjcfabbekaa
