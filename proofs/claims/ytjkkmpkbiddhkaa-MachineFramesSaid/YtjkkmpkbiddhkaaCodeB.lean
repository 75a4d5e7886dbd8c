/-
  The functions of this seat, made small by the program: each is what the engine makes of the function of that number. No condition.
-/
import Derived.Test.YtjkkmpkbiddhkaaCode
namespace Go.Proofs.Ytjkkmpkbiddhkaa
open Go.V
/-- seedcorn/seedcornlaw09.MachineSteps -/
def c_sclaw09_MachineSteps : VC :=
 (.seq
  (.ops [
    ⟨(some 1), none, (.box 34 (.tmp 0))⟩,
    ⟨(some 2), none, (.mv (.const (.bool false)))⟩])
  (.seq
   (.seq
    (.ops [
      ⟨(some 3), none, (.fad 0 true 2 (.tmp 1))⟩,
      ⟨(some 4), none, (.ld true 2 (.tmp 3))⟩,
      ⟨(some 5), none, (.fad 2 false 1 (.tmp 1))⟩,
      ⟨(some 6), none, (.ld false 1 (.tmp 5))⟩,
      ⟨(some 7), none, (.fad 3 true 22 (.tmp 1))⟩,
      ⟨(some 8), none, (.ld true 22 (.tmp 7))⟩,
      ⟨(some 9), none, (.call (.func 14) [(.tmp 4), (.tmp 6), (.tmp 8)])⟩,
      ⟨(some 10), none, (.un .not (.tmp 9))⟩])
    (.cond (.tmp 10)
     (.seq
      (.ops [
        ⟨(some 11), none, (.call (.func 10) [])⟩,
        ⟨(some 2), none, (.mv (.tmp 11))⟩])
      .ret)
     .skip))
   (.seq
    (.par false (.one ⟨(some 12), none, (.call (.func 10) [])⟩ (.one ⟨(some 13), none, (.mv (.tmp 12))⟩ (.one ⟨(some 14), (some (13, true)), (.fad 0 true 2 (.tmp 1))⟩ (.one ⟨(some 15), (some (13, true)), (.ld true 2 (.tmp 14))⟩ (.one ⟨(some 16), (some (13, true)), (.fad 2 false 1 (.tmp 1))⟩ (.one ⟨(some 17), (some (13, true)), (.ld false 1 (.tmp 16))⟩ (.one ⟨(some 18), (some (13, true)), (.fad 3 true 22 (.tmp 1))⟩ (.one ⟨(some 19), (some (13, true)), (.ld true 22 (.tmp 18))⟩ (.one ⟨(some 20), (some (13, true)), (.call (.func 15) [(.tmp 15), (.tmp 17), (.tmp 19)])⟩ (.one ⟨(some 21), (some (13, true)), (.fad 0 true 2 (.tmp 1))⟩ (.one ⟨(some 22), (some (13, true)), (.ld true 2 (.tmp 21))⟩ (.one ⟨(some 23), (some (13, true)), (.fad 2 false 1 (.tmp 1))⟩ (.one ⟨(some 24), (some (13, true)), (.ld false 1 (.tmp 23))⟩ (.one ⟨(some 25), (some (13, true)), (.fad 3 true 22 (.tmp 1))⟩ (.one ⟨(some 26), (some (13, true)), (.ld true 22 (.tmp 25))⟩ (.one ⟨(some 27), (some (13, true)), (.call (.func 16) [(.tmp 22), (.tmp 24), (.tmp 26)])⟩ (.one ⟨(some 28), (some (13, true)), (.call (.func 11) [(.tmp 20), (.tmp 27)])⟩ (.one ⟨(some 29), none, (.pick (.tmp 13) (.tmp 28) (.const (.bool false)))⟩ (.one ⟨(some 2), none, (.mv (.tmp 29))⟩ .done))))))))))))))))))))
    .ret)))
theorem f_sclaw09_MachineSteps : compF Try.prog 4 = some (30, c_sclaw09_MachineSteps, [(.tmp 2)]) := by kernel_rfl

/-- seedcorn/seedcornlaw09.MachineRuns -/
def c_sclaw09_MachineRuns : VC :=
 (.seq
  (.ops [
    ⟨(some 3), none, (.box 24 (.tmp 0))⟩,
    ⟨(some 6), none, (.mv (.const (.bool false)))⟩])
  (.seq
   (.seq
    (.ops [
      ⟨(some 10), none, (.fad 0 false 1 (.tmp 3))⟩,
      ⟨(some 11), none, (.ld false 1 (.tmp 10))⟩,
      ⟨(some 12), none, (.len (.tmp 11))⟩,
      ⟨(some 13), none, (.bin .gtr (.tmp 12) (.const (.int .i64 200)))⟩,
      ⟨(some 14), none, (.mv (.tmp 13))⟩,
      ⟨(some 15), (some (14, false)), (.mv (.tmp 1))⟩,
      ⟨(some 16), (some (14, false)), (.lens (.tmp 15))⟩,
      ⟨(some 17), (some (14, false)), (.bin .gtr (.tmp 16) (.const (.int .i64 200)))⟩,
      ⟨(some 18), none, (.pick (.tmp 14) (.const (.bool true)) (.tmp 17))⟩,
      ⟨(some 19), none, (.mv (.tmp 18))⟩,
      ⟨(some 20), (some (19, false)), (.fad 1 false 1 (.tmp 3))⟩,
      ⟨(some 21), (some (19, false)), (.ld false 1 (.tmp 20))⟩,
      ⟨(some 22), (some (19, false)), (.bin .gtr (.tmp 21) (.const (.int .i64 200)))⟩,
      ⟨(some 23), none, (.pick (.tmp 19) (.const (.bool true)) (.tmp 22))⟩])
    (.cond (.tmp 23)
     (.seq
      (.ops [
        ⟨(some 24), none, (.call (.func 10) [])⟩,
        ⟨(some 6), none, (.mv (.tmp 24))⟩])
      .ret)
     .skip))
   (.seq
    (.par false (.one ⟨(some 25), none, (.ld true 2 (.tmp 3))⟩ (.one ⟨(some 26), none, (.call (.func 12) [(.tmp 25)])⟩ (.one ⟨(some 27), none, (.ld true 2 (.tmp 3))⟩ (.one ⟨(some 28), none, (.call (.func 13) [(.tmp 27)])⟩ (.both (.one ⟨(some 7), none, (.alc 30 [(.int .i64 0), (.int .u32 0), (.int .u32 0), (.int .u32 0), (.int .u32 0), (.int .u32 0), (.int .u32 0), (.int .u32 0), (.int .u32 0), (.int .u32 0), (.int .u32 0), (.int .u32 0), (.int .u32 0), (.int .u32 0), (.int .u32 0), (.int .u32 0), (.int .u32 0), (.slice none 0 0), (.int .i64 0), (.string ⟨#[]⟩), (.int .i64 0), (.int .i64 0)])⟩ (.one ⟨(some 8), none, (.alc 30 [(.int .i64 0), (.int .u32 0), (.int .u32 0), (.int .u32 0), (.int .u32 0), (.int .u32 0), (.int .u32 0), (.int .u32 0), (.int .u32 0), (.int .u32 0), (.int .u32 0), (.int .u32 0), (.int .u32 0), (.int .u32 0), (.int .u32 0), (.int .u32 0), (.int .u32 0), (.slice none 0 0), (.int .i64 0), (.string ⟨#[]⟩), (.int .i64 0), (.int .i64 0)])⟩ (.one ⟨none, none, (.sto true 22 (.tmp 7) (.tmp 26))⟩ (.one ⟨none, none, (.sto true 22 (.tmp 8) (.tmp 28))⟩ .done)))) (.one ⟨(some 8), none, (.alc 30 [(.int .i64 0), (.int .u32 0), (.int .u32 0), (.int .u32 0), (.int .u32 0), (.int .u32 0), (.int .u32 0), (.int .u32 0), (.int .u32 0), (.int .u32 0), (.int .u32 0), (.int .u32 0), (.int .u32 0), (.int .u32 0), (.int .u32 0), (.int .u32 0), (.int .u32 0), (.slice none 0 0), (.int .i64 0), (.string ⟨#[]⟩), (.int .i64 0), (.int .i64 0)])⟩ (.one ⟨(some 7), none, (.alc 30 [(.int .i64 0), (.int .u32 0), (.int .u32 0), (.int .u32 0), (.int .u32 0), (.int .u32 0), (.int .u32 0), (.int .u32 0), (.int .u32 0), (.int .u32 0), (.int .u32 0), (.int .u32 0), (.int .u32 0), (.int .u32 0), (.int .u32 0), (.int .u32 0), (.int .u32 0), (.slice none 0 0), (.int .i64 0), (.string ⟨#[]⟩), (.int .i64 0), (.int .i64 0)])⟩ (.one ⟨none, none, (.sto true 22 (.tmp 7) (.tmp 26))⟩ (.one ⟨none, none, (.sto true 22 (.tmp 8) (.tmp 28))⟩ .done))))))))))
    (.seq
     (.seq
      (.ops [
        ⟨(some 9), none, (.mv (.const (.int .i64 0)))⟩])
      (.block 0
       (.loop
        (.seq
         (.seq
          (.ops [
            ⟨(some 29), none, (.mv (.tmp 9))⟩,
            ⟨(some 30), none, (.mv (.tmp 2))⟩,
            ⟨(some 31), none, (.bin .rem (.tmp 30) (.const (.int .u8 41)))⟩,
            ⟨(some 32), none, (.conv .i64 (.tmp 31))⟩,
            ⟨(some 33), none, (.bin .lss (.tmp 29) (.tmp 32))⟩])
          (.cond (.tmp 33)
           .skip
           (.exit 0)))
         (.seq
          (.block 1
           (.seq
            (.par false (.one ⟨(some 36), none, (.ld true 2 (.tmp 3))⟩ (.one ⟨(some 37), none, (.mv (.tmp 1))⟩ (.one ⟨(some 38), none, (.ld true 22 (.tmp 7))⟩ (.one ⟨(some 39), none, (.call (.func 15) [(.tmp 36), (.tmp 37), (.tmp 38)])⟩ (.one ⟨(some 40), none, (.ld true 2 (.tmp 3))⟩ (.one ⟨(some 41), none, (.mv (.tmp 1))⟩ (.one ⟨(some 42), none, (.ld true 22 (.tmp 8))⟩ (.one ⟨(some 43), none, (.call (.func 16) [(.tmp 40), (.tmp 41), (.tmp 42)])⟩ (.one ⟨none, none, (.sto true 22 (.tmp 7) (.tmp 39))⟩ (.one ⟨none, none, (.sto true 22 (.tmp 8) (.tmp 43))⟩ .done)))))))))))
            (.seq
             (.ops [
               ⟨(some 44), none, (.ld true 22 (.tmp 7))⟩,
               ⟨(some 45), none, (.ld true 22 (.tmp 8))⟩,
               ⟨(some 46), none, (.call (.func 11) [(.tmp 44), (.tmp 45)])⟩,
               ⟨(some 47), none, (.un .not (.tmp 46))⟩])
             (.cond (.tmp 47)
              (.seq
               (.ops [
                 ⟨(some 6), none, (.mv (.const (.bool false)))⟩])
               .ret)
              .skip))))
          (.ops [
            ⟨(some 34), none, (.mv (.tmp 9))⟩,
            ⟨(some 35), none, (.bin .add (.tmp 34) (.const (.int .i64 1)))⟩,
            ⟨(some 9), none, (.mv (.tmp 35))⟩]))))))
     (.seq
      (.ops [
        ⟨(some 48), none, (.call (.func 10) [])⟩,
        ⟨(some 6), none, (.mv (.tmp 48))⟩])
      .ret)))))
theorem f_sclaw09_MachineRuns : compF Try.prog 5 = some (49, c_sclaw09_MachineRuns, [(.tmp 6)]) := by kernel_rfl

/-- seedcorn/seedcornlaw09.MachineFrames -/
def c_sclaw09_MachineFrames : VC :=
 (.seq
  (.ops [
    ⟨(some 1), none, (.box 34 (.tmp 0))⟩,
    ⟨(some 2), none, (.mv (.const (.bool false)))⟩])
  (.seq
   (.seq
    (.ops [
      ⟨(some 10), none, (.fad 0 true 2 (.tmp 1))⟩,
      ⟨(some 11), none, (.ld true 2 (.tmp 10))⟩,
      ⟨(some 12), none, (.fad 2 false 1 (.tmp 1))⟩,
      ⟨(some 13), none, (.ld false 1 (.tmp 12))⟩,
      ⟨(some 14), none, (.fad 3 true 22 (.tmp 1))⟩,
      ⟨(some 15), none, (.ld true 22 (.tmp 14))⟩,
      ⟨(some 16), none, (.call (.func 14) [(.tmp 11), (.tmp 13), (.tmp 15)])⟩,
      ⟨(some 17), none, (.un .not (.tmp 16))⟩])
    (.cond (.tmp 17)
     (.seq
      (.ops [
        ⟨(some 18), none, (.call (.func 10) [])⟩,
        ⟨(some 2), none, (.mv (.tmp 18))⟩])
      .ret)
     .skip))
   (.seq
    (.par false (.one ⟨(some 19), none, (.fad 3 true 22 (.tmp 1))⟩ (.one ⟨(some 20), none, (.ld true 22 (.tmp 19))⟩ (.one ⟨(some 21), none, (.fad 0 true 2 (.tmp 1))⟩ (.one ⟨(some 22), none, (.ld true 2 (.tmp 21))⟩ (.one ⟨(some 23), none, (.fad 2 false 1 (.tmp 1))⟩ (.one ⟨(some 24), none, (.ld false 1 (.tmp 23))⟩ (.one ⟨(some 25), none, (.fad 3 true 22 (.tmp 1))⟩ (.one ⟨(some 26), none, (.ld true 22 (.tmp 25))⟩ (.one ⟨(some 27), none, (.call (.func 15) [(.tmp 22), (.tmp 24), (.tmp 26)])⟩ (.both (.one ⟨(some 3), none, (.alc 30 [(.int .i64 0), (.int .u32 0), (.int .u32 0), (.int .u32 0), (.int .u32 0), (.int .u32 0), (.int .u32 0), (.int .u32 0), (.int .u32 0), (.int .u32 0), (.int .u32 0), (.int .u32 0), (.int .u32 0), (.int .u32 0), (.int .u32 0), (.int .u32 0), (.int .u32 0), (.slice none 0 0), (.int .i64 0), (.string ⟨#[]⟩), (.int .i64 0), (.int .i64 0)])⟩ (.one ⟨(some 4), none, (.alc 30 [(.int .i64 0), (.int .u32 0), (.int .u32 0), (.int .u32 0), (.int .u32 0), (.int .u32 0), (.int .u32 0), (.int .u32 0), (.int .u32 0), (.int .u32 0), (.int .u32 0), (.int .u32 0), (.int .u32 0), (.int .u32 0), (.int .u32 0), (.int .u32 0), (.int .u32 0), (.slice none 0 0), (.int .i64 0), (.string ⟨#[]⟩), (.int .i64 0), (.int .i64 0)])⟩ (.one ⟨none, none, (.sto true 22 (.tmp 3) (.tmp 20))⟩ (.one ⟨none, none, (.sto true 22 (.tmp 4) (.tmp 27))⟩ .done)))) (.one ⟨(some 4), none, (.alc 30 [(.int .i64 0), (.int .u32 0), (.int .u32 0), (.int .u32 0), (.int .u32 0), (.int .u32 0), (.int .u32 0), (.int .u32 0), (.int .u32 0), (.int .u32 0), (.int .u32 0), (.int .u32 0), (.int .u32 0), (.int .u32 0), (.int .u32 0), (.int .u32 0), (.int .u32 0), (.slice none 0 0), (.int .i64 0), (.string ⟨#[]⟩), (.int .i64 0), (.int .i64 0)])⟩ (.one ⟨(some 3), none, (.alc 30 [(.int .i64 0), (.int .u32 0), (.int .u32 0), (.int .u32 0), (.int .u32 0), (.int .u32 0), (.int .u32 0), (.int .u32 0), (.int .u32 0), (.int .u32 0), (.int .u32 0), (.int .u32 0), (.int .u32 0), (.int .u32 0), (.int .u32 0), (.int .u32 0), (.int .u32 0), (.slice none 0 0), (.int .i64 0), (.string ⟨#[]⟩), (.int .i64 0), (.int .i64 0)])⟩ (.one ⟨none, none, (.sto true 22 (.tmp 3) (.tmp 20))⟩ (.one ⟨none, none, (.sto true 22 (.tmp 4) (.tmp 27))⟩ .done)))))))))))))))
    (.seq
     (.ops [
       ⟨(some 5), none, (.mv (.const (.int .i64 0)))⟩,
       ⟨(some 6), none, (.mv (.const (.int .i64 0)))⟩])
     (.seq
      (.seq
       (.ops [
         ⟨(some 7), none, (.mv (.const (.int .i64 0)))⟩])
       (.block 0
        (.loop
         (.seq
          (.seq
           (.ops [
             ⟨(some 28), none, (.mv (.tmp 7))⟩,
             ⟨(some 29), none, (.bin .lss (.tmp 28) (.const (.int .i64 16)))⟩])
           (.cond (.tmp 29)
            .skip
            (.exit 0)))
          (.seq
           (.block 1
            (.seq
             (.ops [
               ⟨(some 32), none, (.mv (.tmp 7))⟩,
               ⟨(some 33), none, (.fad 1 true 16 (.tmp 3))⟩,
               ⟨(some 34), none, (.aidx 16 false 1 (.tmp 33) (.tmp 32))⟩,
               ⟨(some 35), none, (.ld false 1 (.tmp 34))⟩,
               ⟨(some 36), none, (.mv (.tmp 7))⟩,
               ⟨(some 37), none, (.fad 1 true 16 (.tmp 4))⟩,
               ⟨(some 38), none, (.aidx 16 false 1 (.tmp 37) (.tmp 36))⟩,
               ⟨(some 39), none, (.ld false 1 (.tmp 38))⟩,
               ⟨(some 40), none, (.bin .neq (.tmp 35) (.tmp 39))⟩])
             (.cond (.tmp 40)
              (.ops [
                ⟨(some 41), none, (.mv (.tmp 5))⟩,
                ⟨(some 42), none, (.bin .add (.tmp 41) (.const (.int .i64 1)))⟩,
                ⟨(some 5), none, (.mv (.tmp 42))⟩])
              .skip)))
           (.ops [
             ⟨(some 30), none, (.mv (.tmp 7))⟩,
             ⟨(some 31), none, (.bin .add (.tmp 30) (.const (.int .i64 1)))⟩,
             ⟨(some 7), none, (.mv (.tmp 31))⟩]))))))
      (.seq
       (.seq
        (.ops [
          ⟨(some 43), none, (.fad 17 false 1 (.tmp 3))⟩,
          ⟨(some 44), none, (.ld false 1 (.tmp 43))⟩,
          ⟨(some 45), none, (.len (.tmp 44))⟩,
          ⟨(some 46), none, (.fad 17 false 1 (.tmp 4))⟩,
          ⟨(some 47), none, (.ld false 1 (.tmp 46))⟩,
          ⟨(some 48), none, (.len (.tmp 47))⟩,
          ⟨(some 49), none, (.bin .neq (.tmp 45) (.tmp 48))⟩])
        (.cond (.tmp 49)
         (.seq
          (.ops [
            ⟨(some 2), none, (.mv (.const (.bool false)))⟩])
          .ret)
         .skip))
       (.seq
        (.seq
         (.ops [
           ⟨(some 8), none, (.mv (.const (.int .i64 0)))⟩])
         (.block 2
          (.loop
           (.seq
            (.seq
             (.ops [
               ⟨(some 50), none, (.mv (.tmp 8))⟩,
               ⟨(some 51), none, (.fad 17 false 1 (.tmp 3))⟩,
               ⟨(some 52), none, (.ld false 1 (.tmp 51))⟩,
               ⟨(some 53), none, (.len (.tmp 52))⟩,
               ⟨(some 54), none, (.bin .lss (.tmp 50) (.tmp 53))⟩])
             (.cond (.tmp 54)
              .skip
              (.exit 2)))
            (.seq
             (.block 3
              (.seq
               (.ops [
                 ⟨(some 57), none, (.fad 17 false 1 (.tmp 3))⟩,
                 ⟨(some 58), none, (.ld false 1 (.tmp 57))⟩,
                 ⟨(some 59), none, (.mv (.tmp 8))⟩,
                 ⟨(some 60), none, (.idx 1 (.tmp 58) (.tmp 59))⟩,
                 ⟨(some 61), none, (.ld false 1 (.tmp 60))⟩,
                 ⟨(some 62), none, (.fad 17 false 1 (.tmp 4))⟩,
                 ⟨(some 63), none, (.ld false 1 (.tmp 62))⟩,
                 ⟨(some 64), none, (.mv (.tmp 8))⟩,
                 ⟨(some 65), none, (.idx 1 (.tmp 63) (.tmp 64))⟩,
                 ⟨(some 66), none, (.ld false 1 (.tmp 65))⟩,
                 ⟨(some 67), none, (.bin .neq (.tmp 61) (.tmp 66))⟩])
               (.cond (.tmp 67)
                (.ops [
                  ⟨(some 68), none, (.mv (.tmp 6))⟩,
                  ⟨(some 69), none, (.bin .add (.tmp 68) (.const (.int .i64 1)))⟩,
                  ⟨(some 6), none, (.mv (.tmp 69))⟩])
                .skip)))
             (.ops [
               ⟨(some 55), none, (.mv (.tmp 8))⟩,
               ⟨(some 56), none, (.bin .add (.tmp 55) (.const (.int .i64 1)))⟩,
               ⟨(some 8), none, (.mv (.tmp 56))⟩]))))))
        (.seq
         (.ops [
           ⟨(some 70), none, (.fad 19 false 1 (.tmp 4))⟩,
           ⟨(some 71), none, (.ld false 1 (.tmp 70))⟩,
           ⟨(some 72), none, (.lens (.tmp 71))⟩,
           ⟨(some 73), none, (.fad 19 false 1 (.tmp 3))⟩,
           ⟨(some 74), none, (.ld false 1 (.tmp 73))⟩,
           ⟨(some 75), none, (.lens (.tmp 74))⟩,
           ⟨(some 76), none, (.bin .sub (.tmp 72) (.tmp 75))⟩,
           ⟨(some 9), none, (.mv (.tmp 76))⟩])
         (.seq
          (.seq
           (.ops [
             ⟨(some 77), none, (.mv (.tmp 9))⟩,
             ⟨(some 78), none, (.bin .lss (.tmp 77) (.const (.int .i64 0)))⟩,
             ⟨(some 79), none, (.mv (.tmp 78))⟩,
             ⟨(some 80), (some (79, false)), (.mv (.tmp 9))⟩,
             ⟨(some 81), (some (79, false)), (.bin .gtr (.tmp 80) (.const (.int .i64 1)))⟩,
             ⟨(some 82), none, (.pick (.tmp 79) (.const (.bool true)) (.tmp 81))⟩,
             ⟨(some 83), none, (.mv (.tmp 82))⟩,
             ⟨(some 84), (some (83, false)), (.fad 19 false 1 (.tmp 4))⟩,
             ⟨(some 85), (some (83, false)), (.ld false 1 (.tmp 84))⟩,
             ⟨(some 86), (some (83, false)), (.fad 19 false 1 (.tmp 3))⟩,
             ⟨(some 87), (some (83, false)), (.ld false 1 (.tmp 86))⟩,
             ⟨(some 88), (some (83, false)), (.lens (.tmp 87))⟩,
             ⟨(some 89), (some (83, false)), (.sls (.tmp 85) none (some (.tmp 88)))⟩,
             ⟨(some 90), (some (83, false)), (.fad 19 false 1 (.tmp 3))⟩,
             ⟨(some 91), (some (83, false)), (.ld false 1 (.tmp 90))⟩,
             ⟨(some 92), (some (83, false)), (.bin .neq (.tmp 89) (.tmp 91))⟩,
             ⟨(some 93), none, (.pick (.tmp 83) (.const (.bool true)) (.tmp 92))⟩,
             ⟨(some 94), none, (.mv (.tmp 93))⟩,
             ⟨(some 95), (some (94, false)), (.mv (.tmp 5))⟩,
             ⟨(some 96), (some (94, false)), (.mv (.tmp 6))⟩,
             ⟨(some 97), (some (94, false)), (.bin .add (.tmp 95) (.tmp 96))⟩,
             ⟨(some 98), (some (94, false)), (.mv (.tmp 9))⟩,
             ⟨(some 99), (some (94, false)), (.bin .add (.tmp 97) (.tmp 98))⟩,
             ⟨(some 100), (some (94, false)), (.bin .gtr (.tmp 99) (.const (.int .i64 1)))⟩,
             ⟨(some 101), none, (.pick (.tmp 94) (.const (.bool true)) (.tmp 100))⟩])
           (.cond (.tmp 101)
            (.seq
             (.ops [
               ⟨(some 2), none, (.mv (.const (.bool false)))⟩])
             .ret)
            .skip))
          (.seq
           (.ops [
             ⟨(some 102), none, (.call (.func 10) [])⟩,
             ⟨(some 103), none, (.mv (.tmp 102))⟩,
             ⟨(some 104), (some (103, true)), (.fad 18 false 1 (.tmp 4))⟩,
             ⟨(some 105), (some (103, true)), (.ld false 1 (.tmp 104))⟩,
             ⟨(some 106), (some (103, true)), (.fad 18 false 1 (.tmp 3))⟩,
             ⟨(some 107), (some (103, true)), (.ld false 1 (.tmp 106))⟩,
             ⟨(some 108), (some (103, true)), (.bin .eql (.tmp 105) (.tmp 107))⟩,
             ⟨(some 109), (some (103, true)), (.mv (.tmp 108))⟩,
             ⟨(some 110), (some (109, false)), (.fad 18 false 1 (.tmp 4))⟩,
             ⟨(some 111), (some (109, false)), (.ld false 1 (.tmp 110))⟩,
             ⟨(some 112), (some (109, false)), (.fad 18 false 1 (.tmp 3))⟩,
             ⟨(some 113), (some (109, false)), (.ld false 1 (.tmp 112))⟩,
             ⟨(some 114), (some (109, false)), (.bin .add (.tmp 113) (.const (.int .i64 1)))⟩,
             ⟨(some 115), (some (109, false)), (.bin .eql (.tmp 111) (.tmp 114))⟩,
             ⟨(some 116), (some (109, false)), (.mv (.tmp 115))⟩,
             ⟨(some 117), (some (116, true)), (.mv (.tmp 6))⟩,
             ⟨(some 118), (some (116, true)), (.mv (.tmp 9))⟩,
             ⟨(some 119), (some (116, true)), (.bin .add (.tmp 117) (.tmp 118))⟩,
             ⟨(some 120), (some (116, true)), (.bin .eql (.tmp 119) (.const (.int .i64 0)))⟩,
             ⟨(some 121), (some (109, false)), (.pick (.tmp 116) (.tmp 120) (.const (.bool false)))⟩,
             ⟨(some 122), (some (103, true)), (.pick (.tmp 109) (.const (.bool true)) (.tmp 121))⟩,
             ⟨(some 123), none, (.pick (.tmp 103) (.tmp 122) (.const (.bool false)))⟩,
             ⟨(some 124), none, (.mv (.tmp 123))⟩,
             ⟨(some 125), (some (124, true)), (.fad 20 false 1 (.tmp 4))⟩,
             ⟨(some 126), (some (124, true)), (.ld false 1 (.tmp 125))⟩,
             ⟨(some 127), (some (124, true)), (.fad 20 false 1 (.tmp 3))⟩,
             ⟨(some 128), (some (124, true)), (.ld false 1 (.tmp 127))⟩,
             ⟨(some 129), (some (124, true)), (.bin .eql (.tmp 126) (.tmp 128))⟩,
             ⟨(some 130), (some (124, true)), (.mv (.tmp 129))⟩,
             ⟨(some 131), (some (130, false)), (.fad 20 false 1 (.tmp 4))⟩,
             ⟨(some 132), (some (130, false)), (.ld false 1 (.tmp 131))⟩,
             ⟨(some 133), (some (130, false)), (.fad 20 false 1 (.tmp 3))⟩,
             ⟨(some 134), (some (130, false)), (.ld false 1 (.tmp 133))⟩,
             ⟨(some 135), (some (130, false)), (.bin .add (.tmp 134) (.const (.int .i64 1)))⟩,
             ⟨(some 136), (some (130, false)), (.bin .eql (.tmp 132) (.tmp 135))⟩,
             ⟨(some 137), (some (124, true)), (.pick (.tmp 130) (.const (.bool true)) (.tmp 136))⟩,
             ⟨(some 138), none, (.pick (.tmp 124) (.tmp 137) (.const (.bool false)))⟩,
             ⟨(some 2), none, (.mv (.tmp 138))⟩])
           .ret))))))))))
theorem f_sclaw09_MachineFrames : compF Try.prog 7 = some (139, c_sclaw09_MachineFrames, [(.tmp 2)]) := by kernel_rfl

/-- seedcorn/seedcornlaw09.MachineHangs -/
def c_sclaw09_MachineHangs : VC :=
 (.seq
  (.ops [
    ⟨(some 2), none, (.box 34 (.tmp 0))⟩,
    ⟨(some 4), none, (.mv (.const (.bool false)))⟩])
  (.seq
   (.seq
    (.ops [
      ⟨(some 9), none, (.fad 0 true 2 (.tmp 2))⟩,
      ⟨(some 10), none, (.ld true 2 (.tmp 9))⟩,
      ⟨(some 11), none, (.fad 2 false 1 (.tmp 2))⟩,
      ⟨(some 12), none, (.ld false 1 (.tmp 11))⟩,
      ⟨(some 13), none, (.fad 3 true 22 (.tmp 2))⟩,
      ⟨(some 14), none, (.ld true 22 (.tmp 13))⟩,
      ⟨(some 15), none, (.call (.func 14) [(.tmp 10), (.tmp 12), (.tmp 14)])⟩,
      ⟨(some 16), none, (.un .not (.tmp 15))⟩,
      ⟨(some 17), none, (.mv (.tmp 16))⟩,
      ⟨(some 18), (some (17, false)), (.mv (.tmp 1))⟩,
      ⟨(some 19), (some (17, false)), (.len (.tmp 18))⟩,
      ⟨(some 20), (some (17, false)), (.bin .gtr (.tmp 19) (.const (.int .i64 200)))⟩,
      ⟨(some 21), none, (.pick (.tmp 17) (.const (.bool true)) (.tmp 20))⟩,
      ⟨(some 22), none, (.mv (.tmp 21))⟩,
      ⟨(some 23), (some (22, false)), (.fad 3 true 22 (.tmp 2))⟩,
      ⟨(some 24), (some (22, false)), (.fad 0 false 1 (.tmp 23))⟩,
      ⟨(some 25), (some (22, false)), (.ld false 1 (.tmp 24))⟩,
      ⟨(some 26), (some (22, false)), (.bin .lss (.tmp 25) (.const (.int .i64 0)))⟩,
      ⟨(some 27), none, (.pick (.tmp 22) (.const (.bool true)) (.tmp 26))⟩,
      ⟨(some 28), none, (.mv (.tmp 27))⟩,
      ⟨(some 29), (some (28, false)), (.fad 3 true 22 (.tmp 2))⟩,
      ⟨(some 30), (some (28, false)), (.fad 0 false 1 (.tmp 29))⟩,
      ⟨(some 31), (some (28, false)), (.ld false 1 (.tmp 30))⟩,
      ⟨(some 32), (some (28, false)), (.fad 0 true 2 (.tmp 2))⟩,
      ⟨(some 33), (some (28, false)), (.fad 0 false 1 (.tmp 32))⟩,
      ⟨(some 34), (some (28, false)), (.ld false 1 (.tmp 33))⟩,
      ⟨(some 35), (some (28, false)), (.len (.tmp 34))⟩,
      ⟨(some 36), (some (28, false)), (.bin .geq (.tmp 31) (.tmp 35))⟩,
      ⟨(some 37), none, (.pick (.tmp 28) (.const (.bool true)) (.tmp 36))⟩,
      ⟨(some 38), none, (.mv (.tmp 37))⟩,
      ⟨(some 39), (some (38, false)), (.fad 3 true 22 (.tmp 2))⟩,
      ⟨(some 40), (some (38, false)), (.fad 0 false 1 (.tmp 39))⟩,
      ⟨(some 41), (some (38, false)), (.ld false 1 (.tmp 40))⟩,
      ⟨(some 42), (some (38, false)), (.mv (.tmp 1))⟩,
      ⟨(some 43), (some (38, false)), (.len (.tmp 42))⟩,
      ⟨(some 44), (some (38, false)), (.bin .geq (.tmp 41) (.tmp 43))⟩,
      ⟨(some 45), none, (.pick (.tmp 38) (.const (.bool true)) (.tmp 44))⟩])
    (.cond (.tmp 45)
     (.seq
      (.ops [
        ⟨(some 46), none, (.call (.func 10) [])⟩,
        ⟨(some 4), none, (.mv (.tmp 46))⟩])
      .ret)
     .skip))
   (.seq
    (.ops [
      ⟨(some 48), none, (.fad 0 true 2 (.tmp 2))⟩,
      ⟨(some 49), none, (.fad 0 false 1 (.tmp 48))⟩,
      ⟨(some 50), none, (.ld false 1 (.tmp 49))⟩,
      ⟨(some 51), none, (.fad 3 true 22 (.tmp 2))⟩,
      ⟨(some 52), none, (.fad 0 false 1 (.tmp 51))⟩,
      ⟨(some 53), none, (.ld false 1 (.tmp 52))⟩,
      ⟨(some 54), none, (.idx 1 (.tmp 50) (.tmp 53))⟩,
      ⟨(some 55), none, (.ld false 1 (.tmp 54))⟩,
      ⟨(some 56), none, (.call (.func 18) [(.tmp 55)])⟩,
      ⟨(some 47), none, (.mv (.tmp 56))⟩,
      ⟨(some 57), none, (.ext (.tmp 47) 0)⟩,
      ⟨(some 58), none, (.ext (.tmp 47) 1)⟩,
      ⟨(some 5), none, (.alc 40 [(.int .i64 0), (.int .i64 0), (.int .i64 0), (.int .i64 0)])⟩,
      ⟨none, none, (.sto true 4 (.tmp 5) (.tmp 57))⟩,
      ⟨(some 6), none, (.mv (.tmp 58))⟩])
    (.seq
     (.seq
      (.ops [
        ⟨(some 59), none, (.mv (.tmp 6))⟩,
        ⟨(some 60), none, (.bin .eql (.tmp 59) (.const (.int .i64 0)))⟩,
        ⟨(some 61), none, (.mv (.tmp 60))⟩,
        ⟨(some 62), (some (61, true)), (.fad 0 false 1 (.tmp 5))⟩,
        ⟨(some 63), (some (61, true)), (.ld false 1 (.tmp 62))⟩,
        ⟨(some 64), (some (61, true)), (.bin .eql (.tmp 63) (.const (.int .i64 27)))⟩,
        ⟨(some 65), none, (.pick (.tmp 61) (.tmp 64) (.const (.bool false)))⟩])
      (.cond (.tmp 65)
       (.seq
        (.ops [
          ⟨(some 66), none, (.call (.func 10) [])⟩,
          ⟨(some 4), none, (.mv (.tmp 66))⟩])
        .ret)
       .skip))
     (.seq
      (.ops [
        ⟨(some 67), none, (.bsl 27 1 0 [] [])⟩,
        ⟨(some 68), none, (.mv (.tmp 1))⟩,
        ⟨(some 69), none, (.app 27 1 4 (.tmp 67) (.tmp 68))⟩,
        ⟨(some 7), none, (.mv (.tmp 69))⟩])
      (.seq
       (.ops [
         ⟨(some 70), none, (.mv (.tmp 7))⟩,
         ⟨(some 71), none, (.fad 3 true 22 (.tmp 2))⟩,
         ⟨(some 72), none, (.fad 0 false 1 (.tmp 71))⟩,
         ⟨(some 73), none, (.ld false 1 (.tmp 72))⟩,
         ⟨(some 74), none, (.fad 0 true 2 (.tmp 2))⟩,
         ⟨(some 75), none, (.fad 0 false 1 (.tmp 74))⟩,
         ⟨(some 76), none, (.ld false 1 (.tmp 75))⟩,
         ⟨(some 77), none, (.fad 3 true 22 (.tmp 2))⟩,
         ⟨(some 78), none, (.fad 0 false 1 (.tmp 77))⟩,
         ⟨(some 79), none, (.ld false 1 (.tmp 78))⟩,
         ⟨(some 80), none, (.idx 1 (.tmp 76) (.tmp 79))⟩,
         ⟨(some 81), none, (.ld false 1 (.tmp 80))⟩,
         ⟨(some 82), none, (.idx 1 (.tmp 70) (.tmp 73))⟩,
         ⟨none, none, (.sto false 1 (.tmp 82) (.tmp 81))⟩])
       (.seq
        (.ops [
          ⟨(some 83), none, (.mv (.tmp 7))⟩,
          ⟨(some 84), none, (.fad 0 true 2 (.tmp 2))⟩,
          ⟨(some 85), none, (.fad 1 false 1 (.tmp 84))⟩,
          ⟨(some 86), none, (.ld false 1 (.tmp 85))⟩,
          ⟨(some 87), none, (.bld [(.slice none 0 0), (.int .i64 0)] [(0, (1, (.tmp 83))), (1, (1, (.tmp 86)))])⟩,
          ⟨(some 8), none, (.alc 24 [(.slice none 0 0), (.int .i64 0)])⟩,
          ⟨none, none, (.sto true 2 (.tmp 8) (.tmp 87))⟩])
        (.seq
         (.par false (.one ⟨(some 88), none, (.call (.func 10) [])⟩ (.one ⟨(some 89), none, (.mv (.tmp 88))⟩ (.one ⟨(some 90), (some (89, true)), (.ld true 2 (.tmp 8))⟩ (.one ⟨(some 91), (some (89, true)), (.fad 2 false 1 (.tmp 2))⟩ (.one ⟨(some 92), (some (89, true)), (.ld false 1 (.tmp 91))⟩ (.one ⟨(some 93), (some (89, true)), (.fad 3 true 22 (.tmp 2))⟩ (.one ⟨(some 94), (some (89, true)), (.ld true 22 (.tmp 93))⟩ (.one ⟨(some 95), (some (89, true)), (.call (.func 15) [(.tmp 90), (.tmp 92), (.tmp 94)])⟩ (.one ⟨(some 96), (some (89, true)), (.fad 0 true 2 (.tmp 2))⟩ (.one ⟨(some 97), (some (89, true)), (.ld true 2 (.tmp 96))⟩ (.one ⟨(some 98), (some (89, true)), (.fad 2 false 1 (.tmp 2))⟩ (.one ⟨(some 99), (some (89, true)), (.ld false 1 (.tmp 98))⟩ (.one ⟨(some 100), (some (89, true)), (.fad 3 true 22 (.tmp 2))⟩ (.one ⟨(some 101), (some (89, true)), (.ld true 22 (.tmp 100))⟩ (.one ⟨(some 102), (some (89, true)), (.call (.func 15) [(.tmp 97), (.tmp 99), (.tmp 101)])⟩ (.one ⟨(some 103), (some (89, true)), (.call (.func 17) [(.tmp 95), (.tmp 102)])⟩ (.one ⟨(some 104), none, (.pick (.tmp 89) (.tmp 103) (.const (.bool false)))⟩ (.one ⟨(some 4), none, (.mv (.tmp 104))⟩ .done)))))))))))))))))))
         .ret))))))))
theorem f_sclaw09_MachineHangs : compF Try.prog 8 = some (105, c_sclaw09_MachineHangs, [(.tmp 4)]) := by kernel_rfl

/-- seedcorn/seedcornlaw09.awake -/
def c_sclaw09_awake : VC :=
 (.seq
  (.ops [
    ⟨(some 0), none, (.mv (.const (.bool false)))⟩])
  (.seq
   (.ops [
     ⟨(some 7), none, (.bld [(.int .i64 0), (.int .i64 0), (.int .i64 0), (.int .i64 0)] [(0, (1, (.const (.int .i64 26))))])⟩,
     ⟨(some 8), none, (.call (.func 19) [(.tmp 7)])⟩,
     ⟨(some 6), none, (.mv (.tmp 8))⟩,
     ⟨(some 9), none, (.ext (.tmp 6) 0)⟩,
     ⟨(some 10), none, (.ext (.tmp 6) 1)⟩,
     ⟨(some 1), none, (.mv (.tmp 9))⟩,
     ⟨(some 2), none, (.mv (.tmp 10))⟩])
   (.seq
    (.ops [
      ⟨(some 11), none, (.bld [(.slice none 0 0), (.int .i64 0)] [])⟩,
      ⟨(some 12), none, (.bld [(.slice none 0 0), (.int .i64 0)] [])⟩,
      ⟨(some 13), none, (.call (.func 12) [(.tmp 12)])⟩,
      ⟨(some 14), none, (.call (.func 15) [(.tmp 11), (.const (.string ⟨#[]⟩)), (.tmp 13)])⟩,
      ⟨(some 3), none, (.alc 30 [(.int .i64 0), (.int .u32 0), (.int .u32 0), (.int .u32 0), (.int .u32 0), (.int .u32 0), (.int .u32 0), (.int .u32 0), (.int .u32 0), (.int .u32 0), (.int .u32 0), (.int .u32 0), (.int .u32 0), (.int .u32 0), (.int .u32 0), (.int .u32 0), (.int .u32 0), (.slice none 0 0), (.int .i64 0), (.string ⟨#[]⟩), (.int .i64 0), (.int .i64 0)])⟩,
      ⟨none, none, (.sto true 22 (.tmp 3) (.tmp 14))⟩])
    (.seq
     (.ops [
       ⟨(some 15), none, (.mv (.tmp 1))⟩,
       ⟨(some 16), none, (.bsl 27 1 1 [(.int .u32 0)] [(0, (1, (.tmp 15)))])⟩,
       ⟨(some 17), none, (.bld [(.slice none 0 0), (.int .i64 0)] [(0, (1, (.tmp 16))), (1, (1, (.const (.int .i64 2))))])⟩,
       ⟨(some 4), none, (.alc 24 [(.slice none 0 0), (.int .i64 0)])⟩,
       ⟨none, none, (.sto true 2 (.tmp 4) (.tmp 17))⟩])
     (.seq
      (.par false (.one ⟨(some 18), none, (.ld true 2 (.tmp 4))⟩ (.one ⟨(some 19), none, (.ld true 2 (.tmp 4))⟩ (.one ⟨(some 20), none, (.call (.func 12) [(.tmp 19)])⟩ (.one ⟨(some 21), none, (.call (.func 15) [(.tmp 18), (.const (.string ⟨#[]⟩)), (.tmp 20)])⟩ (.one ⟨(some 5), none, (.alc 30 [(.int .i64 0), (.int .u32 0), (.int .u32 0), (.int .u32 0), (.int .u32 0), (.int .u32 0), (.int .u32 0), (.int .u32 0), (.int .u32 0), (.int .u32 0), (.int .u32 0), (.int .u32 0), (.int .u32 0), (.int .u32 0), (.int .u32 0), (.int .u32 0), (.int .u32 0), (.slice none 0 0), (.int .i64 0), (.string ⟨#[]⟩), (.int .i64 0), (.int .i64 0)])⟩ (.one ⟨none, none, (.sto true 22 (.tmp 5) (.tmp 21))⟩ .done)))))))
      (.seq
       (.ops [
         ⟨(some 22), none, (.fad 21 false 1 (.tmp 3))⟩,
         ⟨(some 23), none, (.ld false 1 (.tmp 22))⟩,
         ⟨(some 24), none, (.bin .eql (.tmp 23) (.const (.int .i64 7)))⟩,
         ⟨(some 25), none, (.mv (.tmp 24))⟩,
         ⟨(some 26), (some (25, true)), (.fad 20 false 1 (.tmp 3))⟩,
         ⟨(some 27), (some (25, true)), (.ld false 1 (.tmp 26))⟩,
         ⟨(some 28), (some (25, true)), (.bin .eql (.tmp 27) (.const (.int .i64 0)))⟩,
         ⟨(some 29), none, (.pick (.tmp 25) (.tmp 28) (.const (.bool false)))⟩,
         ⟨(some 30), none, (.mv (.tmp 29))⟩,
         ⟨(some 31), (some (30, true)), (.fad 21 false 1 (.tmp 5))⟩,
         ⟨(some 32), (some (30, true)), (.ld false 1 (.tmp 31))⟩,
         ⟨(some 33), (some (30, true)), (.bin .eql (.tmp 32) (.const (.int .i64 1)))⟩,
         ⟨(some 34), none, (.pick (.tmp 30) (.tmp 33) (.const (.bool false)))⟩,
         ⟨(some 35), none, (.mv (.tmp 34))⟩,
         ⟨(some 36), (some (35, true)), (.fad 20 false 1 (.tmp 5))⟩,
         ⟨(some 37), (some (35, true)), (.ld false 1 (.tmp 36))⟩,
         ⟨(some 38), (some (35, true)), (.bin .eql (.tmp 37) (.const (.int .i64 1)))⟩,
         ⟨(some 39), none, (.pick (.tmp 35) (.tmp 38) (.const (.bool false)))⟩,
         ⟨(some 40), none, (.mv (.tmp 39))⟩,
         ⟨(some 41), (some (40, true)), (.fad 0 false 1 (.tmp 5))⟩,
         ⟨(some 42), (some (40, true)), (.ld false 1 (.tmp 41))⟩,
         ⟨(some 43), (some (40, true)), (.bin .eql (.tmp 42) (.const (.int .i64 0)))⟩,
         ⟨(some 44), none, (.pick (.tmp 40) (.tmp 43) (.const (.bool false)))⟩,
         ⟨(some 45), none, (.mv (.tmp 44))⟩,
         ⟨(some 46), (some (45, true)), (.fad 17 false 1 (.tmp 5))⟩,
         ⟨(some 47), (some (45, true)), (.ld false 1 (.tmp 46))⟩,
         ⟨(some 48), (some (45, true)), (.len (.tmp 47))⟩,
         ⟨(some 49), (some (45, true)), (.bin .eql (.tmp 48) (.const (.int .i64 2)))⟩,
         ⟨(some 50), none, (.pick (.tmp 45) (.tmp 49) (.const (.bool false)))⟩,
         ⟨(some 51), none, (.mv (.tmp 50))⟩,
         ⟨(some 52), (some (51, true)), (.ld true 22 (.tmp 3))⟩,
         ⟨(some 53), (some (51, true)), (.ld true 22 (.tmp 5))⟩,
         ⟨(some 54), (some (51, true)), (.call (.func 17) [(.tmp 52), (.tmp 53)])⟩,
         ⟨(some 55), (some (51, true)), (.un .not (.tmp 54))⟩,
         ⟨(some 56), none, (.pick (.tmp 51) (.tmp 55) (.const (.bool false)))⟩,
         ⟨(some 0), none, (.mv (.tmp 56))⟩])
       .ret))))))
theorem f_sclaw09_awake : compF Try.prog 10 = some (57, c_sclaw09_awake, [(.tmp 0)]) := by kernel_rfl

/-- seedcorn/seedcornref09.Step -/
def c_scref09_Step : VC :=
 (.seq
  (.ops [
    ⟨(some 3), none, (.box 24 (.tmp 0))⟩,
    ⟨(some 5), none, (.box 30 (.tmp 2))⟩,
    ⟨(some 6), none, (.alc 30 [(.int .i64 0), (.int .u32 0), (.int .u32 0), (.int .u32 0), (.int .u32 0), (.int .u32 0), (.int .u32 0), (.int .u32 0), (.int .u32 0), (.int .u32 0), (.int .u32 0), (.int .u32 0), (.int .u32 0), (.int .u32 0), (.int .u32 0), (.int .u32 0), (.int .u32 0), (.slice none 0 0), (.int .i64 0), (.string ⟨#[]⟩), (.int .i64 0), (.int .i64 0)])⟩])
  (.seq
   (.seq
    (.ops [
      ⟨(some 15), none, (.fad 21 false 1 (.tmp 5))⟩,
      ⟨(some 16), none, (.ld false 1 (.tmp 15))⟩,
      ⟨(some 17), none, (.bin .neq (.tmp 16) (.const (.int .i64 0)))⟩])
    (.cond (.tmp 17)
     (.seq
      (.ops [
        ⟨(some 18), none, (.ld true 22 (.tmp 5))⟩,
        ⟨none, none, (.sto true 22 (.tmp 6) (.tmp 18))⟩])
      .ret)
     .skip))
   (.seq
    (.seq
     (.ops [
       ⟨(some 19), none, (.fad 0 false 1 (.tmp 5))⟩,
       ⟨(some 20), none, (.ld false 1 (.tmp 19))⟩,
       ⟨(some 21), none, (.bin .lss (.tmp 20) (.const (.int .i64 0)))⟩,
       ⟨(some 22), none, (.mv (.tmp 21))⟩,
       ⟨(some 23), (some (22, false)), (.fad 0 false 1 (.tmp 5))⟩,
       ⟨(some 24), (some (22, false)), (.ld false 1 (.tmp 23))⟩,
       ⟨(some 25), (some (22, false)), (.fad 0 false 1 (.tmp 3))⟩,
       ⟨(some 26), (some (22, false)), (.ld false 1 (.tmp 25))⟩,
       ⟨(some 27), (some (22, false)), (.len (.tmp 26))⟩,
       ⟨(some 28), (some (22, false)), (.bin .geq (.tmp 24) (.tmp 27))⟩,
       ⟨(some 29), none, (.pick (.tmp 22) (.const (.bool true)) (.tmp 28))⟩])
     (.cond (.tmp 29)
      (.seq
       (.ops [
         ⟨(some 30), none, (.ld true 22 (.tmp 5))⟩,
         ⟨(some 31), none, (.call (.func 24) [(.tmp 30), (.const (.int .i64 7))])⟩,
         ⟨none, none, (.sto true 22 (.tmp 6) (.tmp 31))⟩])
       .ret)
      .skip))
    (.seq
     (.ops [
       ⟨(some 32), none, (.fad 20 false 1 (.tmp 5))⟩,
       ⟨(some 33), none, (.ld false 1 (.tmp 32))⟩,
       ⟨(some 34), none, (.bin .add (.tmp 33) (.const (.int .i64 1)))⟩,
       ⟨(some 35), none, (.fad 20 false 1 (.tmp 5))⟩,
       ⟨none, none, (.sto false 1 (.tmp 35) (.tmp 34))⟩])
     (.seq
      (.ops [
        ⟨(some 37), none, (.fad 0 false 1 (.tmp 3))⟩,
        ⟨(some 38), none, (.ld false 1 (.tmp 37))⟩,
        ⟨(some 39), none, (.fad 0 false 1 (.tmp 5))⟩,
        ⟨(some 40), none, (.ld false 1 (.tmp 39))⟩,
        ⟨(some 41), none, (.idx 1 (.tmp 38) (.tmp 40))⟩,
        ⟨(some 42), none, (.ld false 1 (.tmp 41))⟩,
        ⟨(some 43), none, (.call (.func 18) [(.tmp 42)])⟩,
        ⟨(some 36), none, (.mv (.tmp 43))⟩,
        ⟨(some 44), none, (.ext (.tmp 36) 0)⟩,
        ⟨(some 45), none, (.ext (.tmp 36) 1)⟩,
        ⟨(some 7), none, (.alc 40 [(.int .i64 0), (.int .i64 0), (.int .i64 0), (.int .i64 0)])⟩,
        ⟨none, none, (.sto true 4 (.tmp 7) (.tmp 44))⟩,
        ⟨(some 8), none, (.mv (.tmp 45))⟩])
      (.seq
       (.seq
        (.ops [
          ⟨(some 46), none, (.mv (.tmp 8))⟩,
          ⟨(some 47), none, (.bin .neq (.tmp 46) (.const (.int .i64 0)))⟩])
        (.cond (.tmp 47)
         (.seq
          (.ops [
            ⟨(some 48), none, (.ld true 22 (.tmp 5))⟩,
            ⟨(some 49), none, (.call (.func 24) [(.tmp 48), (.const (.int .i64 6))])⟩,
            ⟨none, none, (.sto true 22 (.tmp 6) (.tmp 49))⟩])
          .ret)
         .skip))
       (.seq
        (.seq
         (.ops [
           ⟨(some 50), none, (.fad 0 false 1 (.tmp 7))⟩,
           ⟨(some 51), none, (.ld false 1 (.tmp 50))⟩,
           ⟨(some 52), none, (.bin .geq (.tmp 51) (.const (.int .i64 4)))⟩,
           ⟨(some 53), none, (.mv (.tmp 52))⟩,
           ⟨(some 54), (some (53, true)), (.fad 0 false 1 (.tmp 7))⟩,
           ⟨(some 55), (some (53, true)), (.ld false 1 (.tmp 54))⟩,
           ⟨(some 56), (some (53, true)), (.bin .leq (.tmp 55) (.const (.int .i64 15)))⟩,
           ⟨(some 57), none, (.pick (.tmp 53) (.tmp 56) (.const (.bool false)))⟩])
         (.cond (.tmp 57)
          (.seq
           (.par false (.one ⟨(some 59), none, (.fad 0 false 1 (.tmp 7))⟩ (.one ⟨(some 60), none, (.ld false 1 (.tmp 59))⟩ (.one ⟨(some 61), none, (.fad 2 false 1 (.tmp 7))⟩ (.one ⟨(some 62), none, (.ld false 1 (.tmp 61))⟩ (.one ⟨(some 63), none, (.fad 1 true 16 (.tmp 5))⟩ (.one ⟨(some 64), none, (.aidx 16 false 1 (.tmp 63) (.tmp 62))⟩ (.one ⟨(some 65), none, (.ld false 1 (.tmp 64))⟩ (.one ⟨(some 66), none, (.fad 3 false 1 (.tmp 7))⟩ (.one ⟨(some 67), none, (.ld false 1 (.tmp 66))⟩ (.one ⟨(some 68), none, (.fad 1 true 16 (.tmp 5))⟩ (.one ⟨(some 69), none, (.aidx 16 false 1 (.tmp 68) (.tmp 67))⟩ (.one ⟨(some 70), none, (.ld false 1 (.tmp 69))⟩ (.one ⟨(some 71), none, (.call (.func 25) [(.tmp 60), (.tmp 65), (.tmp 70)])⟩ (.one ⟨(some 58), none, (.mv (.tmp 71))⟩ (.one ⟨(some 72), none, (.ext (.tmp 58) 0)⟩ (.one ⟨(some 73), none, (.ext (.tmp 58) 1)⟩ (.one ⟨(some 9), none, (.mv (.tmp 72))⟩ (.one ⟨(some 10), none, (.mv (.tmp 73))⟩ .done)))))))))))))))))))
           (.seq
            (.seq
             (.ops [
               ⟨(some 74), none, (.mv (.tmp 10))⟩,
               ⟨(some 75), none, (.bin .neq (.tmp 74) (.const (.int .i64 0)))⟩])
             (.cond (.tmp 75)
              (.seq
               (.ops [
                 ⟨(some 76), none, (.ld true 22 (.tmp 5))⟩,
                 ⟨(some 77), none, (.call (.func 24) [(.tmp 76), (.const (.int .i64 2))])⟩,
                 ⟨none, none, (.sto true 22 (.tmp 6) (.tmp 77))⟩])
               .ret)
              .skip))
            (.seq
             (.ops [
               ⟨(some 78), none, (.ld true 22 (.tmp 5))⟩,
               ⟨(some 79), none, (.fad 1 false 1 (.tmp 7))⟩,
               ⟨(some 80), none, (.ld false 1 (.tmp 79))⟩,
               ⟨(some 81), none, (.mv (.tmp 9))⟩,
               ⟨(some 82), none, (.call (.func 26) [(.tmp 78), (.tmp 80), (.tmp 81)])⟩,
               ⟨none, none, (.sto true 22 (.tmp 6) (.tmp 82))⟩])
             .ret)))
          .skip))
        (.seq
         (.seq
          (.ops [
            ⟨(some 83), none, (.fad 0 false 1 (.tmp 7))⟩,
            ⟨(some 84), none, (.ld false 1 (.tmp 83))⟩])
          (.block 0
           (.seq
            (.ops [
              ⟨(some 86), none, (.bin .eql (.tmp 84) (.const (.int .i64 1)))⟩,
              ⟨(some 85), none, (.mv (.tmp 86))⟩])
            (.cond (.tmp 85)
             (.seq
              (.ops [
                ⟨(some 87), none, (.ld true 22 (.tmp 5))⟩,
                ⟨(some 88), none, (.fad 1 false 1 (.tmp 7))⟩,
                ⟨(some 89), none, (.ld false 1 (.tmp 88))⟩,
                ⟨(some 90), none, (.fad 3 false 1 (.tmp 7))⟩,
                ⟨(some 91), none, (.ld false 1 (.tmp 90))⟩,
                ⟨(some 92), none, (.conv .u32 (.tmp 91))⟩,
                ⟨(some 93), none, (.call (.func 26) [(.tmp 87), (.tmp 89), (.tmp 92)])⟩,
                ⟨none, none, (.sto true 22 (.tmp 6) (.tmp 93))⟩])
              .ret)
             (.seq
              (.ops [
                ⟨(some 95), none, (.bin .eql (.tmp 84) (.const (.int .i64 2)))⟩,
                ⟨(some 94), none, (.mv (.tmp 95))⟩])
              (.cond (.tmp 94)
               (.seq
                (.ops [
                  ⟨(some 96), none, (.ld true 22 (.tmp 5))⟩,
                  ⟨(some 97), none, (.fad 1 false 1 (.tmp 7))⟩,
                  ⟨(some 98), none, (.ld false 1 (.tmp 97))⟩,
                  ⟨(some 99), none, (.fad 1 false 1 (.tmp 7))⟩,
                  ⟨(some 100), none, (.ld false 1 (.tmp 99))⟩,
                  ⟨(some 101), none, (.fad 1 true 16 (.tmp 5))⟩,
                  ⟨(some 102), none, (.aidx 16 false 1 (.tmp 101) (.tmp 100))⟩,
                  ⟨(some 103), none, (.ld false 1 (.tmp 102))⟩,
                  ⟨(some 104), none, (.bin .rem (.tmp 103) (.const (.int .u32 65536)))⟩,
                  ⟨(some 105), none, (.fad 3 false 1 (.tmp 7))⟩,
                  ⟨(some 106), none, (.ld false 1 (.tmp 105))⟩,
                  ⟨(some 107), none, (.conv .u32 (.tmp 106))⟩,
                  ⟨(some 108), none, (.bin .mul (.tmp 107) (.const (.int .u32 65536)))⟩,
                  ⟨(some 109), none, (.bin .add (.tmp 104) (.tmp 108))⟩,
                  ⟨(some 110), none, (.call (.func 26) [(.tmp 96), (.tmp 98), (.tmp 109)])⟩,
                  ⟨none, none, (.sto true 22 (.tmp 6) (.tmp 110))⟩])
                .ret)
               (.seq
                (.ops [
                  ⟨(some 112), none, (.bin .eql (.tmp 84) (.const (.int .i64 3)))⟩,
                  ⟨(some 111), none, (.mv (.tmp 112))⟩])
                (.cond (.tmp 111)
                 (.seq
                  (.ops [
                    ⟨(some 113), none, (.ld true 22 (.tmp 5))⟩,
                    ⟨(some 114), none, (.fad 1 false 1 (.tmp 7))⟩,
                    ⟨(some 115), none, (.ld false 1 (.tmp 114))⟩,
                    ⟨(some 116), none, (.fad 2 false 1 (.tmp 7))⟩,
                    ⟨(some 117), none, (.ld false 1 (.tmp 116))⟩,
                    ⟨(some 118), none, (.fad 1 true 16 (.tmp 5))⟩,
                    ⟨(some 119), none, (.aidx 16 false 1 (.tmp 118) (.tmp 117))⟩,
                    ⟨(some 120), none, (.ld false 1 (.tmp 119))⟩,
                    ⟨(some 121), none, (.call (.func 26) [(.tmp 113), (.tmp 115), (.tmp 120)])⟩,
                    ⟨none, none, (.sto true 22 (.tmp 6) (.tmp 121))⟩])
                  .ret)
                 (.seq
                  (.ops [
                    ⟨(some 123), none, (.bin .eql (.tmp 84) (.const (.int .i64 16)))⟩,
                    ⟨(some 122), none, (.mv (.tmp 123))⟩])
                  (.cond (.tmp 122)
                   (.seq
                    (.par false (.one ⟨(some 125), none, (.fad 17 false 1 (.tmp 5))⟩ (.one ⟨(some 126), none, (.ld false 1 (.tmp 125))⟩ (.one ⟨(some 127), none, (.fad 2 false 1 (.tmp 7))⟩ (.one ⟨(some 128), none, (.ld false 1 (.tmp 127))⟩ (.one ⟨(some 129), none, (.fad 1 true 16 (.tmp 5))⟩ (.one ⟨(some 130), none, (.aidx 16 false 1 (.tmp 129) (.tmp 128))⟩ (.one ⟨(some 131), none, (.ld false 1 (.tmp 130))⟩ (.one ⟨(some 132), none, (.fad 3 false 1 (.tmp 7))⟩ (.one ⟨(some 133), none, (.ld false 1 (.tmp 132))⟩ (.one ⟨(some 134), none, (.call (.func 27) [(.tmp 126), (.tmp 131), (.tmp 133)])⟩ (.one ⟨(some 124), none, (.mv (.tmp 134))⟩ (.one ⟨(some 135), none, (.ext (.tmp 124) 0)⟩ (.one ⟨(some 136), none, (.ext (.tmp 124) 1)⟩ (.one ⟨(some 11), none, (.mv (.tmp 135))⟩ (.one ⟨(some 12), none, (.mv (.tmp 136))⟩ .done))))))))))))))))
                    (.seq
                     (.seq
                      (.ops [
                        ⟨(some 137), none, (.mv (.tmp 12))⟩,
                        ⟨(some 138), none, (.un .not (.tmp 137))⟩])
                      (.cond (.tmp 138)
                       (.seq
                        (.ops [
                          ⟨(some 139), none, (.ld true 22 (.tmp 5))⟩,
                          ⟨(some 140), none, (.call (.func 24) [(.tmp 139), (.const (.int .i64 8))])⟩,
                          ⟨none, none, (.sto true 22 (.tmp 6) (.tmp 140))⟩])
                        .ret)
                       .skip))
                     (.seq
                      (.ops [
                        ⟨(some 141), none, (.ld true 22 (.tmp 5))⟩,
                        ⟨(some 142), none, (.fad 1 false 1 (.tmp 7))⟩,
                        ⟨(some 143), none, (.ld false 1 (.tmp 142))⟩,
                        ⟨(some 144), none, (.mv (.tmp 11))⟩,
                        ⟨(some 145), none, (.call (.func 26) [(.tmp 141), (.tmp 143), (.tmp 144)])⟩,
                        ⟨none, none, (.sto true 22 (.tmp 6) (.tmp 145))⟩])
                      .ret)))
                   (.seq
                    (.ops [
                      ⟨(some 147), none, (.bin .eql (.tmp 84) (.const (.int .i64 27)))⟩,
                      ⟨(some 146), none, (.mv (.tmp 147))⟩])
                    (.cond (.tmp 146)
                     (.seq
                      (.par false (.one ⟨(some 149), none, (.fad 0 false 1 (.tmp 3))⟩ (.one ⟨(some 150), none, (.ld false 1 (.tmp 149))⟩ (.one ⟨(some 151), none, (.fad 2 false 1 (.tmp 7))⟩ (.one ⟨(some 152), none, (.ld false 1 (.tmp 151))⟩ (.one ⟨(some 153), none, (.fad 1 true 16 (.tmp 5))⟩ (.one ⟨(some 154), none, (.aidx 16 false 1 (.tmp 153) (.tmp 152))⟩ (.one ⟨(some 155), none, (.ld false 1 (.tmp 154))⟩ (.one ⟨(some 156), none, (.fad 3 false 1 (.tmp 7))⟩ (.one ⟨(some 157), none, (.ld false 1 (.tmp 156))⟩ (.one ⟨(some 158), none, (.call (.func 27) [(.tmp 150), (.tmp 155), (.tmp 157)])⟩ (.one ⟨(some 148), none, (.mv (.tmp 158))⟩ (.one ⟨(some 159), none, (.ext (.tmp 148) 0)⟩ (.one ⟨(some 160), none, (.ext (.tmp 148) 1)⟩ (.one ⟨(some 13), none, (.mv (.tmp 159))⟩ (.one ⟨(some 14), none, (.mv (.tmp 160))⟩ .done))))))))))))))))
                      (.seq
                       (.seq
                        (.ops [
                          ⟨(some 161), none, (.mv (.tmp 14))⟩,
                          ⟨(some 162), none, (.un .not (.tmp 161))⟩])
                        (.cond (.tmp 162)
                         (.seq
                          (.ops [
                            ⟨(some 163), none, (.ld true 22 (.tmp 5))⟩,
                            ⟨(some 164), none, (.call (.func 24) [(.tmp 163), (.const (.int .i64 8))])⟩,
                            ⟨none, none, (.sto true 22 (.tmp 6) (.tmp 164))⟩])
                          .ret)
                         .skip))
                       (.seq
                        (.ops [
                          ⟨(some 165), none, (.ld true 22 (.tmp 5))⟩,
                          ⟨(some 166), none, (.fad 1 false 1 (.tmp 7))⟩,
                          ⟨(some 167), none, (.ld false 1 (.tmp 166))⟩,
                          ⟨(some 168), none, (.mv (.tmp 13))⟩,
                          ⟨(some 169), none, (.call (.func 26) [(.tmp 165), (.tmp 167), (.tmp 168)])⟩,
                          ⟨none, none, (.sto true 22 (.tmp 6) (.tmp 169))⟩])
                        .ret)))
                     (.seq
                      (.ops [
                        ⟨(some 171), none, (.bin .eql (.tmp 84) (.const (.int .i64 17)))⟩,
                        ⟨(some 170), none, (.mv (.tmp 171))⟩])
                      (.cond (.tmp 170)
                       (.seq
                        (.ops [
                          ⟨(some 172), none, (.ld true 22 (.tmp 5))⟩,
                          ⟨(some 173), none, (.fad 2 false 1 (.tmp 7))⟩,
                          ⟨(some 174), none, (.ld false 1 (.tmp 173))⟩,
                          ⟨(some 175), none, (.fad 1 true 16 (.tmp 5))⟩,
                          ⟨(some 176), none, (.aidx 16 false 1 (.tmp 175) (.tmp 174))⟩,
                          ⟨(some 177), none, (.ld false 1 (.tmp 176))⟩,
                          ⟨(some 178), none, (.fad 3 false 1 (.tmp 7))⟩,
                          ⟨(some 179), none, (.ld false 1 (.tmp 178))⟩,
                          ⟨(some 180), none, (.fad 1 false 1 (.tmp 7))⟩,
                          ⟨(some 181), none, (.ld false 1 (.tmp 180))⟩,
                          ⟨(some 182), none, (.fad 1 true 16 (.tmp 5))⟩,
                          ⟨(some 183), none, (.aidx 16 false 1 (.tmp 182) (.tmp 181))⟩,
                          ⟨(some 184), none, (.ld false 1 (.tmp 183))⟩,
                          ⟨(some 185), none, (.call (.func 28) [(.tmp 172), (.tmp 177), (.tmp 179), (.tmp 184)])⟩,
                          ⟨none, none, (.sto true 22 (.tmp 6) (.tmp 185))⟩])
                        .ret)
                       (.seq
                        (.ops [
                          ⟨(some 187), none, (.bin .eql (.tmp 84) (.const (.int .i64 18)))⟩,
                          ⟨(some 186), none, (.mv (.tmp 187))⟩])
                        (.cond (.tmp 186)
                         (.seq
                          (.ops [
                            ⟨(some 188), none, (.ld true 22 (.tmp 5))⟩,
                            ⟨(some 189), none, (.fad 3 false 1 (.tmp 7))⟩,
                            ⟨(some 190), none, (.ld false 1 (.tmp 189))⟩,
                            ⟨(some 191), none, (.call (.func 29) [(.tmp 188), (.tmp 190)])⟩,
                            ⟨none, none, (.sto true 22 (.tmp 6) (.tmp 191))⟩])
                          .ret)
                         (.seq
                          (.ops [
                            ⟨(some 193), none, (.bin .eql (.tmp 84) (.const (.int .i64 19)))⟩,
                            ⟨(some 192), none, (.mv (.tmp 193))⟩])
                          (.cond (.tmp 192)
                           (.seq
                            (.seq
                             (.ops [
                               ⟨(some 194), none, (.fad 1 false 1 (.tmp 7))⟩,
                               ⟨(some 195), none, (.ld false 1 (.tmp 194))⟩,
                               ⟨(some 196), none, (.fad 1 true 16 (.tmp 5))⟩,
                               ⟨(some 197), none, (.aidx 16 false 1 (.tmp 196) (.tmp 195))⟩,
                               ⟨(some 198), none, (.ld false 1 (.tmp 197))⟩,
                               ⟨(some 199), none, (.bin .eql (.tmp 198) (.const (.int .u32 0)))⟩])
                             (.cond (.tmp 199)
                              (.seq
                               (.ops [
                                 ⟨(some 200), none, (.ld true 22 (.tmp 5))⟩,
                                 ⟨(some 201), none, (.fad 3 false 1 (.tmp 7))⟩,
                                 ⟨(some 202), none, (.ld false 1 (.tmp 201))⟩,
                                 ⟨(some 203), none, (.call (.func 29) [(.tmp 200), (.tmp 202)])⟩,
                                 ⟨none, none, (.sto true 22 (.tmp 6) (.tmp 203))⟩])
                               .ret)
                              .skip))
                            (.seq
                             (.ops [
                               ⟨(some 204), none, (.ld true 22 (.tmp 5))⟩,
                               ⟨(some 205), none, (.fad 0 false 1 (.tmp 5))⟩,
                               ⟨(some 206), none, (.ld false 1 (.tmp 205))⟩,
                               ⟨(some 207), none, (.bin .add (.tmp 206) (.const (.int .i64 1)))⟩,
                               ⟨(some 208), none, (.call (.func 29) [(.tmp 204), (.tmp 207)])⟩,
                               ⟨none, none, (.sto true 22 (.tmp 6) (.tmp 208))⟩])
                             .ret))
                           (.seq
                            (.ops [
                              ⟨(some 210), none, (.bin .eql (.tmp 84) (.const (.int .i64 20)))⟩,
                              ⟨(some 209), none, (.mv (.tmp 210))⟩])
                            (.cond (.tmp 209)
                             (.seq
                              (.seq
                               (.ops [
                                 ⟨(some 211), none, (.fad 1 false 1 (.tmp 7))⟩,
                                 ⟨(some 212), none, (.ld false 1 (.tmp 211))⟩,
                                 ⟨(some 213), none, (.fad 1 true 16 (.tmp 5))⟩,
                                 ⟨(some 214), none, (.aidx 16 false 1 (.tmp 213) (.tmp 212))⟩,
                                 ⟨(some 215), none, (.ld false 1 (.tmp 214))⟩,
                                 ⟨(some 216), none, (.bin .neq (.tmp 215) (.const (.int .u32 0)))⟩])
                               (.cond (.tmp 216)
                                (.seq
                                 (.ops [
                                   ⟨(some 217), none, (.ld true 22 (.tmp 5))⟩,
                                   ⟨(some 218), none, (.fad 3 false 1 (.tmp 7))⟩,
                                   ⟨(some 219), none, (.ld false 1 (.tmp 218))⟩,
                                   ⟨(some 220), none, (.call (.func 29) [(.tmp 217), (.tmp 219)])⟩,
                                   ⟨none, none, (.sto true 22 (.tmp 6) (.tmp 220))⟩])
                                 .ret)
                                .skip))
                              (.seq
                               (.ops [
                                 ⟨(some 221), none, (.ld true 22 (.tmp 5))⟩,
                                 ⟨(some 222), none, (.fad 0 false 1 (.tmp 5))⟩,
                                 ⟨(some 223), none, (.ld false 1 (.tmp 222))⟩,
                                 ⟨(some 224), none, (.bin .add (.tmp 223) (.const (.int .i64 1)))⟩,
                                 ⟨(some 225), none, (.call (.func 29) [(.tmp 221), (.tmp 224)])⟩,
                                 ⟨none, none, (.sto true 22 (.tmp 6) (.tmp 225))⟩])
                               .ret))
                             (.seq
                              (.ops [
                                ⟨(some 227), none, (.bin .eql (.tmp 84) (.const (.int .i64 21)))⟩,
                                ⟨(some 226), none, (.mv (.tmp 227))⟩])
                              (.cond (.tmp 226)
                               (.seq
                                (.par false (.one ⟨(some 228), none, (.ld true 22 (.tmp 5))⟩ (.one ⟨(some 229), none, (.fad 1 false 1 (.tmp 7))⟩ (.one ⟨(some 230), none, (.ld false 1 (.tmp 229))⟩ (.one ⟨(some 231), none, (.fad 0 false 1 (.tmp 5))⟩ (.one ⟨(some 232), none, (.ld false 1 (.tmp 231))⟩ (.one ⟨(some 233), none, (.conv .u32 (.tmp 232))⟩ (.one ⟨(some 234), none, (.bin .add (.tmp 233) (.const (.int .u32 1)))⟩ (.one ⟨(some 235), none, (.call (.func 26) [(.tmp 228), (.tmp 230), (.tmp 234)])⟩ (.one ⟨(some 236), none, (.fad 3 false 1 (.tmp 7))⟩ (.one ⟨(some 237), none, (.ld false 1 (.tmp 236))⟩ (.one ⟨(some 238), none, (.call (.func 29) [(.tmp 235), (.tmp 237)])⟩ (.one ⟨none, none, (.sto true 22 (.tmp 6) (.tmp 238))⟩ .done)))))))))))))
                                .ret)
                               (.seq
                                (.ops [
                                  ⟨(some 240), none, (.bin .eql (.tmp 84) (.const (.int .i64 22)))⟩,
                                  ⟨(some 239), none, (.mv (.tmp 240))⟩])
                                (.cond (.tmp 239)
                                 (.seq
                                  (.ops [
                                    ⟨(some 241), none, (.ld true 22 (.tmp 5))⟩,
                                    ⟨(some 242), none, (.fad 1 false 1 (.tmp 7))⟩,
                                    ⟨(some 243), none, (.ld false 1 (.tmp 242))⟩,
                                    ⟨(some 244), none, (.fad 1 true 16 (.tmp 5))⟩,
                                    ⟨(some 245), none, (.aidx 16 false 1 (.tmp 244) (.tmp 243))⟩,
                                    ⟨(some 246), none, (.ld false 1 (.tmp 245))⟩,
                                    ⟨(some 247), none, (.conv .i64 (.tmp 246))⟩,
                                    ⟨(some 248), none, (.call (.func 29) [(.tmp 241), (.tmp 247)])⟩,
                                    ⟨none, none, (.sto true 22 (.tmp 6) (.tmp 248))⟩])
                                  .ret)
                                 (.seq
                                  (.ops [
                                    ⟨(some 250), none, (.bin .eql (.tmp 84) (.const (.int .i64 23)))⟩,
                                    ⟨(some 249), none, (.mv (.tmp 250))⟩])
                                  (.cond (.tmp 249)
                                   (.seq
                                    (.ops [
                                      ⟨(some 251), none, (.ld true 22 (.tmp 5))⟩,
                                      ⟨(some 252), none, (.mv (.tmp 1))⟩,
                                      ⟨(some 253), none, (.fad 1 false 1 (.tmp 7))⟩,
                                      ⟨(some 254), none, (.ld false 1 (.tmp 253))⟩,
                                      ⟨(some 255), none, (.call (.func 30) [(.tmp 251), (.tmp 252), (.tmp 254)])⟩,
                                      ⟨none, none, (.sto true 22 (.tmp 6) (.tmp 255))⟩])
                                    .ret)
                                   (.seq
                                    (.ops [
                                      ⟨(some 257), none, (.bin .eql (.tmp 84) (.const (.int .i64 24)))⟩,
                                      ⟨(some 256), none, (.mv (.tmp 257))⟩])
                                    (.cond (.tmp 256)
                                     (.seq
                                      (.ops [
                                        ⟨(some 258), none, (.ld true 22 (.tmp 5))⟩,
                                        ⟨(some 259), none, (.fad 1 false 1 (.tmp 7))⟩,
                                        ⟨(some 260), none, (.ld false 1 (.tmp 259))⟩,
                                        ⟨(some 261), none, (.fad 1 true 16 (.tmp 5))⟩,
                                        ⟨(some 262), none, (.aidx 16 false 1 (.tmp 261) (.tmp 260))⟩,
                                        ⟨(some 263), none, (.ld false 1 (.tmp 262))⟩,
                                        ⟨(some 264), none, (.call (.func 31) [(.tmp 258), (.tmp 263)])⟩,
                                        ⟨none, none, (.sto true 22 (.tmp 6) (.tmp 264))⟩])
                                      .ret)
                                     (.seq
                                      (.ops [
                                        ⟨(some 266), none, (.bin .eql (.tmp 84) (.const (.int .i64 25)))⟩,
                                        ⟨(some 265), none, (.mv (.tmp 266))⟩])
                                      (.cond (.tmp 265)
                                       (.seq
                                        (.seq
                                         (.ops [
                                           ⟨(some 267), none, (.fad 1 false 1 (.tmp 7))⟩,
                                           ⟨(some 268), none, (.ld false 1 (.tmp 267))⟩,
                                           ⟨(some 269), none, (.fad 1 true 16 (.tmp 5))⟩,
                                           ⟨(some 270), none, (.aidx 16 false 1 (.tmp 269) (.tmp 268))⟩,
                                           ⟨(some 271), none, (.ld false 1 (.tmp 270))⟩,
                                           ⟨(some 272), none, (.fad 3 false 1 (.tmp 7))⟩,
                                           ⟨(some 273), none, (.ld false 1 (.tmp 272))⟩,
                                           ⟨(some 274), none, (.conv .u32 (.tmp 273))⟩,
                                           ⟨(some 275), none, (.bin .lss (.tmp 271) (.tmp 274))⟩])
                                         (.cond (.tmp 275)
                                          (.seq
                                           (.ops [
                                             ⟨(some 276), none, (.ld true 22 (.tmp 5))⟩,
                                             ⟨(some 277), none, (.fad 0 false 1 (.tmp 5))⟩,
                                             ⟨(some 278), none, (.ld false 1 (.tmp 277))⟩,
                                             ⟨(some 279), none, (.bin .add (.tmp 278) (.const (.int .i64 1)))⟩,
                                             ⟨(some 280), none, (.call (.func 29) [(.tmp 276), (.tmp 279)])⟩,
                                             ⟨none, none, (.sto true 22 (.tmp 6) (.tmp 280))⟩])
                                           .ret)
                                          .skip))
                                        (.seq
                                         (.ops [
                                           ⟨(some 281), none, (.ld true 22 (.tmp 5))⟩,
                                           ⟨(some 282), none, (.call (.func 24) [(.tmp 281), (.const (.int .i64 3))])⟩,
                                           ⟨none, none, (.sto true 22 (.tmp 6) (.tmp 282))⟩])
                                         .ret))
                                       .skip))))))))))))))))))))))))))))))
         (.seq
          (.ops [
            ⟨(some 283), none, (.ld true 22 (.tmp 5))⟩,
            ⟨(some 284), none, (.call (.func 24) [(.tmp 283), (.const (.int .i64 1))])⟩,
            ⟨none, none, (.sto true 22 (.tmp 6) (.tmp 284))⟩])
          .ret)))))))))
theorem f_scref09_Step : compF Try.prog 16 = some (285, c_scref09_Step, [(.cell 6 true 22)]) := by kernel_rfl

/-- seedcorn/seedcornref09.end -/
def c_scref09_end : VC :=
 (.seq
  (.ops [
    ⟨(some 2), none, (.box 30 (.tmp 0))⟩,
    ⟨(some 4), none, (.alc 30 [(.int .i64 0), (.int .u32 0), (.int .u32 0), (.int .u32 0), (.int .u32 0), (.int .u32 0), (.int .u32 0), (.int .u32 0), (.int .u32 0), (.int .u32 0), (.int .u32 0), (.int .u32 0), (.int .u32 0), (.int .u32 0), (.int .u32 0), (.int .u32 0), (.int .u32 0), (.slice none 0 0), (.int .i64 0), (.string ⟨#[]⟩), (.int .i64 0), (.int .i64 0)])⟩])
  (.seq
   (.ops [
     ⟨(some 5), none, (.mv (.tmp 1))⟩,
     ⟨(some 6), none, (.fad 21 false 1 (.tmp 2))⟩,
     ⟨none, none, (.sto false 1 (.tmp 6) (.tmp 5))⟩])
   (.seq
    (.ops [
      ⟨(some 7), none, (.ld true 22 (.tmp 2))⟩,
      ⟨none, none, (.sto true 22 (.tmp 4) (.tmp 7))⟩])
    .ret)))
theorem f_scref09_end : compF Try.prog 24 = some (8, c_scref09_end, [(.cell 4 true 22)]) := by kernel_rfl

/-- seedcorn/seedcornref09.set -/
def c_scref09_set : VC :=
 (.seq
  (.ops [
    ⟨(some 3), none, (.box 30 (.tmp 0))⟩,
    ⟨(some 6), none, (.alc 30 [(.int .i64 0), (.int .u32 0), (.int .u32 0), (.int .u32 0), (.int .u32 0), (.int .u32 0), (.int .u32 0), (.int .u32 0), (.int .u32 0), (.int .u32 0), (.int .u32 0), (.int .u32 0), (.int .u32 0), (.int .u32 0), (.int .u32 0), (.int .u32 0), (.int .u32 0), (.slice none 0 0), (.int .i64 0), (.string ⟨#[]⟩), (.int .i64 0), (.int .i64 0)])⟩])
  (.seq
   (.ops [
     ⟨(some 7), none, (.mv (.tmp 1))⟩,
     ⟨(some 8), none, (.mv (.tmp 2))⟩,
     ⟨(some 9), none, (.fad 1 true 16 (.tmp 3))⟩,
     ⟨(some 10), none, (.aidx 16 false 1 (.tmp 9) (.tmp 7))⟩,
     ⟨none, none, (.sto false 1 (.tmp 10) (.tmp 8))⟩])
   (.seq
    (.ops [
      ⟨(some 11), none, (.fad 0 false 1 (.tmp 3))⟩,
      ⟨(some 12), none, (.ld false 1 (.tmp 11))⟩,
      ⟨(some 13), none, (.bin .add (.tmp 12) (.const (.int .i64 1)))⟩,
      ⟨(some 14), none, (.fad 0 false 1 (.tmp 3))⟩,
      ⟨none, none, (.sto false 1 (.tmp 14) (.tmp 13))⟩])
    (.seq
     (.ops [
       ⟨(some 15), none, (.ld true 22 (.tmp 3))⟩,
       ⟨none, none, (.sto true 22 (.tmp 6) (.tmp 15))⟩])
     .ret))))
theorem f_scref09_set : compF Try.prog 26 = some (16, c_scref09_set, [(.cell 6 true 22)]) := by kernel_rfl

/-- seedcorn/seedcornref09.word -/
def c_scref09_word : VC :=
 (.seq
  (.ops [
    ⟨(some 6), none, (.mv (.const (.int .u32 0)))⟩,
    ⟨(some 7), none, (.mv (.const (.bool false)))⟩])
  (.seq
   (.ops [
     ⟨(some 9), none, (.mv (.tmp 1))⟩,
     ⟨(some 10), none, (.mv (.tmp 2))⟩,
     ⟨(some 11), none, (.conv .u32 (.tmp 10))⟩,
     ⟨(some 12), none, (.bin .add (.tmp 9) (.tmp 11))⟩,
     ⟨(some 8), none, (.mv (.tmp 12))⟩])
   (.seq
    (.seq
     (.ops [
       ⟨(some 13), none, (.mv (.tmp 8))⟩,
       ⟨(some 14), none, (.conv .u64 (.tmp 13))⟩,
       ⟨(some 15), none, (.mv (.tmp 0))⟩,
       ⟨(some 16), none, (.len (.tmp 15))⟩,
       ⟨(some 17), none, (.conv .u64 (.tmp 16))⟩,
       ⟨(some 18), none, (.bin .geq (.tmp 14) (.tmp 17))⟩])
     (.cond (.tmp 18)
      (.seq
       (.ops [
         ⟨(some 6), none, (.mv (.const (.int .u32 0)))⟩,
         ⟨(some 7), none, (.mv (.const (.bool false)))⟩])
       .ret)
      .skip))
    (.seq
     (.ops [
       ⟨(some 19), none, (.mv (.tmp 0))⟩,
       ⟨(some 20), none, (.mv (.tmp 8))⟩,
       ⟨(some 21), none, (.idx 1 (.tmp 19) (.tmp 20))⟩,
       ⟨(some 22), none, (.ld false 1 (.tmp 21))⟩,
       ⟨(some 6), none, (.mv (.tmp 22))⟩,
       ⟨(some 7), none, (.mv (.const (.bool true)))⟩])
     .ret))))
theorem f_scref09_word : compF Try.prog 27 = some (23, c_scref09_word, [(.tmp 6), (.tmp 7)]) := by kernel_rfl

/-- seedcorn/seedcornref09.store -/
def c_scref09_store : VC :=
 (.seq
  (.ops [
    ⟨(some 4), none, (.box 30 (.tmp 0))⟩,
    ⟨(some 8), none, (.alc 30 [(.int .i64 0), (.int .u32 0), (.int .u32 0), (.int .u32 0), (.int .u32 0), (.int .u32 0), (.int .u32 0), (.int .u32 0), (.int .u32 0), (.int .u32 0), (.int .u32 0), (.int .u32 0), (.int .u32 0), (.int .u32 0), (.int .u32 0), (.int .u32 0), (.int .u32 0), (.slice none 0 0), (.int .i64 0), (.string ⟨#[]⟩), (.int .i64 0), (.int .i64 0)])⟩])
  (.seq
   (.ops [
     ⟨(some 10), none, (.mv (.tmp 1))⟩,
     ⟨(some 11), none, (.mv (.tmp 2))⟩,
     ⟨(some 12), none, (.conv .u32 (.tmp 11))⟩,
     ⟨(some 13), none, (.bin .add (.tmp 10) (.tmp 12))⟩,
     ⟨(some 9), none, (.mv (.tmp 13))⟩])
   (.seq
    (.seq
     (.ops [
       ⟨(some 14), none, (.mv (.tmp 9))⟩,
       ⟨(some 15), none, (.conv .u64 (.tmp 14))⟩,
       ⟨(some 16), none, (.fad 17 false 1 (.tmp 4))⟩,
       ⟨(some 17), none, (.ld false 1 (.tmp 16))⟩,
       ⟨(some 18), none, (.len (.tmp 17))⟩,
       ⟨(some 19), none, (.conv .u64 (.tmp 18))⟩,
       ⟨(some 20), none, (.bin .geq (.tmp 15) (.tmp 19))⟩])
     (.cond (.tmp 20)
      (.seq
       (.ops [
         ⟨(some 21), none, (.ld true 22 (.tmp 4))⟩,
         ⟨(some 22), none, (.call (.func 24) [(.tmp 21), (.const (.int .i64 8))])⟩,
         ⟨none, none, (.sto true 22 (.tmp 8) (.tmp 22))⟩])
       .ret)
      .skip))
    (.seq
     (.ops [
       ⟨(some 23), none, (.bsl 27 1 0 [] [])⟩,
       ⟨(some 24), none, (.fad 17 false 1 (.tmp 4))⟩,
       ⟨(some 25), none, (.ld false 1 (.tmp 24))⟩,
       ⟨(some 26), none, (.app 27 1 4 (.tmp 23) (.tmp 25))⟩,
       ⟨(some 27), none, (.fad 17 false 1 (.tmp 4))⟩,
       ⟨none, none, (.sto false 1 (.tmp 27) (.tmp 26))⟩])
     (.seq
      (.ops [
        ⟨(some 28), none, (.fad 17 false 1 (.tmp 4))⟩,
        ⟨(some 29), none, (.ld false 1 (.tmp 28))⟩,
        ⟨(some 30), none, (.mv (.tmp 9))⟩,
        ⟨(some 31), none, (.mv (.tmp 3))⟩,
        ⟨(some 32), none, (.idx 1 (.tmp 29) (.tmp 30))⟩,
        ⟨none, none, (.sto false 1 (.tmp 32) (.tmp 31))⟩])
      (.seq
       (.ops [
         ⟨(some 33), none, (.fad 0 false 1 (.tmp 4))⟩,
         ⟨(some 34), none, (.ld false 1 (.tmp 33))⟩,
         ⟨(some 35), none, (.bin .add (.tmp 34) (.const (.int .i64 1)))⟩,
         ⟨(some 36), none, (.fad 0 false 1 (.tmp 4))⟩,
         ⟨none, none, (.sto false 1 (.tmp 36) (.tmp 35))⟩])
       (.seq
        (.ops [
          ⟨(some 37), none, (.ld true 22 (.tmp 4))⟩,
          ⟨none, none, (.sto true 22 (.tmp 8) (.tmp 37))⟩])
        .ret)))))))
theorem f_scref09_store : compF Try.prog 28 = some (38, c_scref09_store, [(.cell 8 true 22)]) := by kernel_rfl

/-- seedcorn/seedcornref09.jump -/
def c_scref09_jump : VC :=
 (.seq
  (.ops [
    ⟨(some 2), none, (.box 30 (.tmp 0))⟩,
    ⟨(some 4), none, (.alc 30 [(.int .i64 0), (.int .u32 0), (.int .u32 0), (.int .u32 0), (.int .u32 0), (.int .u32 0), (.int .u32 0), (.int .u32 0), (.int .u32 0), (.int .u32 0), (.int .u32 0), (.int .u32 0), (.int .u32 0), (.int .u32 0), (.int .u32 0), (.int .u32 0), (.int .u32 0), (.slice none 0 0), (.int .i64 0), (.string ⟨#[]⟩), (.int .i64 0), (.int .i64 0)])⟩])
  (.seq
   (.ops [
     ⟨(some 5), none, (.mv (.tmp 1))⟩,
     ⟨(some 6), none, (.fad 0 false 1 (.tmp 2))⟩,
     ⟨none, none, (.sto false 1 (.tmp 6) (.tmp 5))⟩])
   (.seq
    (.ops [
      ⟨(some 7), none, (.ld true 22 (.tmp 2))⟩,
      ⟨none, none, (.sto true 22 (.tmp 4) (.tmp 7))⟩])
    .ret)))
theorem f_scref09_jump : compF Try.prog 29 = some (8, c_scref09_jump, [(.cell 4 true 22)]) := by kernel_rfl

/-- seedcorn/seedcornref09.get -/
def c_scref09_get : VC :=
 (.seq
  (.ops [
    ⟨(some 3), none, (.box 30 (.tmp 0))⟩,
    ⟨(some 6), none, (.alc 30 [(.int .i64 0), (.int .u32 0), (.int .u32 0), (.int .u32 0), (.int .u32 0), (.int .u32 0), (.int .u32 0), (.int .u32 0), (.int .u32 0), (.int .u32 0), (.int .u32 0), (.int .u32 0), (.int .u32 0), (.int .u32 0), (.int .u32 0), (.int .u32 0), (.int .u32 0), (.slice none 0 0), (.int .i64 0), (.string ⟨#[]⟩), (.int .i64 0), (.int .i64 0)])⟩])
  (.seq
   (.seq
    (.ops [
      ⟨(some 8), none, (.fad 18 false 1 (.tmp 3))⟩,
      ⟨(some 9), none, (.ld false 1 (.tmp 8))⟩,
      ⟨(some 10), none, (.bin .lss (.tmp 9) (.const (.int .i64 0)))⟩,
      ⟨(some 11), none, (.mv (.tmp 10))⟩,
      ⟨(some 12), (some (11, false)), (.fad 18 false 1 (.tmp 3))⟩,
      ⟨(some 13), (some (11, false)), (.ld false 1 (.tmp 12))⟩,
      ⟨(some 14), (some (11, false)), (.mv (.tmp 1))⟩,
      ⟨(some 15), (some (11, false)), (.lens (.tmp 14))⟩,
      ⟨(some 16), (some (11, false)), (.bin .geq (.tmp 13) (.tmp 15))⟩,
      ⟨(some 17), none, (.pick (.tmp 11) (.const (.bool true)) (.tmp 16))⟩])
    (.cond (.tmp 17)
     (.seq
      (.ops [
        ⟨(some 18), none, (.ld true 22 (.tmp 3))⟩,
        ⟨(some 19), none, (.mv (.tmp 2))⟩,
        ⟨(some 20), none, (.call (.func 26) [(.tmp 18), (.tmp 19), (.const (.int .u32 256))])⟩,
        ⟨none, none, (.sto true 22 (.tmp 6) (.tmp 20))⟩])
      .ret)
     .skip))
   (.seq
    (.ops [
      ⟨(some 21), none, (.mv (.tmp 1))⟩,
      ⟨(some 22), none, (.fad 18 false 1 (.tmp 3))⟩,
      ⟨(some 23), none, (.ld false 1 (.tmp 22))⟩,
      ⟨(some 24), none, (.pur .six [(.tmp 21), (.tmp 23)])⟩,
      ⟨(some 25), none, (.conv .u32 (.tmp 24))⟩,
      ⟨(some 7), none, (.mv (.tmp 25))⟩])
    (.seq
     (.ops [
       ⟨(some 26), none, (.fad 18 false 1 (.tmp 3))⟩,
       ⟨(some 27), none, (.ld false 1 (.tmp 26))⟩,
       ⟨(some 28), none, (.bin .add (.tmp 27) (.const (.int .i64 1)))⟩,
       ⟨(some 29), none, (.fad 18 false 1 (.tmp 3))⟩,
       ⟨none, none, (.sto false 1 (.tmp 29) (.tmp 28))⟩])
     (.seq
      (.ops [
        ⟨(some 30), none, (.ld true 22 (.tmp 3))⟩,
        ⟨(some 31), none, (.mv (.tmp 2))⟩,
        ⟨(some 32), none, (.mv (.tmp 7))⟩,
        ⟨(some 33), none, (.call (.func 26) [(.tmp 30), (.tmp 31), (.tmp 32)])⟩,
        ⟨none, none, (.sto true 22 (.tmp 6) (.tmp 33))⟩])
      .ret)))))
theorem f_scref09_get : compF Try.prog 30 = some (34, c_scref09_get, [(.cell 6 true 22)]) := by kernel_rfl

/-- seedcorn/seedcornref09.put -/
def c_scref09_put : VC :=
 (.seq
  (.ops [
    ⟨(some 2), none, (.box 30 (.tmp 0))⟩,
    ⟨(some 4), none, (.alc 30 [(.int .i64 0), (.int .u32 0), (.int .u32 0), (.int .u32 0), (.int .u32 0), (.int .u32 0), (.int .u32 0), (.int .u32 0), (.int .u32 0), (.int .u32 0), (.int .u32 0), (.int .u32 0), (.int .u32 0), (.int .u32 0), (.int .u32 0), (.int .u32 0), (.int .u32 0), (.slice none 0 0), (.int .i64 0), (.string ⟨#[]⟩), (.int .i64 0), (.int .i64 0)])⟩])
  (.seq
   (.seq
    (.ops [
      ⟨(some 5), none, (.fad 19 false 1 (.tmp 2))⟩,
      ⟨(some 6), none, (.ld false 1 (.tmp 5))⟩,
      ⟨(some 7), none, (.lens (.tmp 6))⟩,
      ⟨(some 8), none, (.bin .geq (.tmp 7) (.const (.int .i64 65536)))⟩])
    (.cond (.tmp 8)
     (.seq
      (.ops [
        ⟨(some 9), none, (.ld true 22 (.tmp 2))⟩,
        ⟨(some 10), none, (.call (.func 24) [(.tmp 9), (.const (.int .i64 4))])⟩,
        ⟨none, none, (.sto true 22 (.tmp 4) (.tmp 10))⟩])
      .ret)
     .skip))
   (.seq
    (.ops [
      ⟨(some 11), none, (.fad 19 false 1 (.tmp 2))⟩,
      ⟨(some 12), none, (.ld false 1 (.tmp 11))⟩,
      ⟨(some 13), none, (.mv (.tmp 1))⟩,
      ⟨(some 14), none, (.conv .u8 (.tmp 13))⟩,
      ⟨(some 15), none, (.bsl 5 1 1 [(.int .u8 0)] [(0, (1, (.tmp 14)))])⟩,
      ⟨(some 16), none, (.see .b2s [(.tmp 15)])⟩,
      ⟨(some 17), none, (.bin .add (.tmp 12) (.tmp 16))⟩,
      ⟨(some 18), none, (.fad 19 false 1 (.tmp 2))⟩,
      ⟨none, none, (.sto false 1 (.tmp 18) (.tmp 17))⟩])
    (.seq
     (.ops [
       ⟨(some 19), none, (.fad 0 false 1 (.tmp 2))⟩,
       ⟨(some 20), none, (.ld false 1 (.tmp 19))⟩,
       ⟨(some 21), none, (.bin .add (.tmp 20) (.const (.int .i64 1)))⟩,
       ⟨(some 22), none, (.fad 0 false 1 (.tmp 2))⟩,
       ⟨none, none, (.sto false 1 (.tmp 22) (.tmp 21))⟩])
     (.seq
      (.ops [
        ⟨(some 23), none, (.ld true 22 (.tmp 2))⟩,
        ⟨none, none, (.sto true 22 (.tmp 4) (.tmp 23))⟩])
      .ret)))))
theorem f_scref09_put : compF Try.prog 31 = some (24, c_scref09_put, [(.cell 4 true 22)]) := by kernel_rfl

end Go.Proofs.Ytjkkmpkbiddhkaa
