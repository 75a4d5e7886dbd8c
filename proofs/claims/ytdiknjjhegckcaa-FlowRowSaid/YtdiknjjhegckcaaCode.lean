/-
  The functions of this seat, made small by the program: each is what the engine makes of the function of that number. No condition.
-/
import Derived.Test.YtdiknjjhegckcaaVS
import Derived.Test.YtdiknjjhegckcaaRows
import Derived.KernelRfl
namespace Go.Proofs.Ytdiknjjhegckcaa
open Go.V
/-- seedcorn/seedcornlaw26.FlowReach -/
def c_sclaw26_FlowReach : VC :=
 (.seq
  (.ops [
    ⟨(some 2), none, (.mv (.const (.bool false)))⟩])
  (.seq
   (.seq
    (.ops [
      ⟨(some 6), none, (.call (.func 11) [])⟩,
      ⟨(some 7), none, (.un .not (.tmp 6))⟩])
    (.cond (.tmp 7)
     (.seq
      (.ops [
        ⟨(some 2), none, (.mv (.const (.bool false)))⟩])
      .ret)
     .skip))
   (.seq
    (.seq
     (.ops [
       ⟨(some 8), none, (.mv (.tmp 0))⟩,
       ⟨(some 9), none, (.call (.func 12) [(.tmp 8), (.const (.int .i64 100)), (.const (.int .i64 400))])⟩,
       ⟨(some 10), none, (.un .not (.tmp 9))⟩])
     (.cond (.tmp 10)
      (.seq
       (.ops [
         ⟨(some 2), none, (.mv (.const (.bool true)))⟩])
       .ret)
      .skip))
    (.seq
     (.ops [
       ⟨(some 11), none, (.mv (.tmp 0))⟩,
       ⟨(some 12), none, (.call (.func 13) [(.tmp 11)])⟩,
       ⟨(some 3), none, (.mv (.tmp 12))⟩])
     (.seq
      (.ops [
        ⟨(some 13), none, (.mv (.tmp 0))⟩,
        ⟨(some 14), none, (.call (.func 14) [(.tmp 13)])⟩,
        ⟨(some 4), none, (.mv (.tmp 14))⟩])
      (.seq
       (.seq
        (.ops [
          ⟨(some 15), none, (.mv (.tmp 3))⟩,
          ⟨(some 16), none, (.len (.tmp 15))⟩,
          ⟨(some 17), none, (.mv (.tmp 4))⟩,
          ⟨(some 18), none, (.len (.tmp 17))⟩,
          ⟨(some 19), none, (.bin .neq (.tmp 16) (.tmp 18))⟩])
        (.cond (.tmp 19)
         (.seq
          (.ops [
            ⟨(some 2), none, (.mv (.const (.bool false)))⟩])
          .ret)
         .skip))
       (.seq
        (.seq
         (.ops [
           ⟨(some 5), none, (.mv (.const (.int .i64 0)))⟩])
         (.block 0
          (.loop
           (.seq
            (.seq
             (.ops [
               ⟨(some 20), none, (.mv (.tmp 5))⟩,
               ⟨(some 21), none, (.mv (.tmp 3))⟩,
               ⟨(some 22), none, (.len (.tmp 21))⟩,
               ⟨(some 23), none, (.bin .lss (.tmp 20) (.tmp 22))⟩])
             (.cond (.tmp 23)
              .skip
              (.exit 0)))
            (.seq
             (.block 1
              (.seq
               (.ops [
                 ⟨(some 26), none, (.mv (.tmp 3))⟩,
                 ⟨(some 27), none, (.mv (.tmp 5))⟩,
                 ⟨(some 28), none, (.idx 1 (.tmp 26) (.tmp 27))⟩,
                 ⟨(some 29), none, (.ld false 1 (.tmp 28))⟩,
                 ⟨(some 30), none, (.mv (.tmp 4))⟩,
                 ⟨(some 31), none, (.mv (.tmp 5))⟩,
                 ⟨(some 32), none, (.idx 1 (.tmp 30) (.tmp 31))⟩,
                 ⟨(some 33), none, (.ld false 1 (.tmp 32))⟩,
                 ⟨(some 34), none, (.beq true (.tmp 29) (.tmp 33))⟩])
               (.cond (.tmp 34)
                (.seq
                 (.ops [
                   ⟨(some 2), none, (.mv (.const (.bool false)))⟩])
                 .ret)
                .skip)))
             (.ops [
               ⟨(some 24), none, (.mv (.tmp 5))⟩,
               ⟨(some 25), none, (.bin .add (.tmp 24) (.const (.int .i64 1)))⟩,
               ⟨(some 5), none, (.mv (.tmp 25))⟩]))))))
        (.seq
         (.ops [
           ⟨(some 35), none, (.mv (.tmp 0))⟩,
           ⟨(some 36), none, (.call (.func 16) [(.tmp 35)])⟩,
           ⟨(some 37), none, (.mv (.tmp 0))⟩,
           ⟨(some 38), none, (.call (.func 17) [(.tmp 37)])⟩,
           ⟨(some 39), none, (.call (.func 15) [(.tmp 36), (.tmp 38)])⟩,
           ⟨(some 2), none, (.mv (.tmp 39))⟩])
         .ret))))))))
theorem f_sclaw26_FlowReach : compF Try.prog 3 = some (40, c_sclaw26_FlowReach, [(.tmp 2)]) := by kernel_rfl

/-- seedcorn/seedcornlaw26.FlowAbove -/
def c_sclaw26_FlowAbove : VC :=
 (.seq
  (.ops [
    ⟨(some 2), none, (.mv (.const (.bool false)))⟩])
  (.seq
   (.seq
    (.ops [
      ⟨(some 3), none, (.call (.func 11) [])⟩,
      ⟨(some 4), none, (.un .not (.tmp 3))⟩])
    (.cond (.tmp 4)
     (.seq
      (.ops [
        ⟨(some 2), none, (.mv (.const (.bool false)))⟩])
      .ret)
     .skip))
   (.seq
    (.seq
     (.ops [
       ⟨(some 5), none, (.mv (.tmp 0))⟩,
       ⟨(some 6), none, (.call (.func 12) [(.tmp 5), (.const (.int .i64 40)), (.const (.int .i64 150))])⟩,
       ⟨(some 7), none, (.un .not (.tmp 6))⟩])
     (.cond (.tmp 7)
      (.seq
       (.ops [
         ⟨(some 2), none, (.mv (.const (.bool true)))⟩])
       .ret)
      .skip))
    (.seq
     (.ops [
       ⟨(some 8), none, (.mv (.tmp 0))⟩,
       ⟨(some 9), none, (.call (.func 18) [(.tmp 8)])⟩,
       ⟨(some 10), none, (.mv (.tmp 0))⟩,
       ⟨(some 11), none, (.call (.func 19) [(.tmp 10)])⟩,
       ⟨(some 12), none, (.call (.func 15) [(.tmp 9), (.tmp 11)])⟩,
       ⟨(some 2), none, (.mv (.tmp 12))⟩])
     .ret))))
theorem f_sclaw26_FlowAbove : compF Try.prog 4 = some (13, c_sclaw26_FlowAbove, [(.tmp 2)]) := by kernel_rfl

/-- seedcorn/seedcornlaw26.FlowMust -/
def c_sclaw26_FlowMust : VC :=
 (.seq
  (.ops [
    ⟨(some 6), none, (.mv (.const (.bool false)))⟩])
  (.seq
   (.seq
    (.ops [
      ⟨(some 7), none, (.call (.func 11) [])⟩,
      ⟨(some 8), none, (.un .not (.tmp 7))⟩])
    (.cond (.tmp 8)
     (.seq
      (.ops [
        ⟨(some 6), none, (.mv (.const (.bool false)))⟩])
      .ret)
     .skip))
   (.seq
    (.seq
     (.ops [
       ⟨(some 9), none, (.mv (.tmp 0))⟩,
       ⟨(some 10), none, (.call (.func 12) [(.tmp 9), (.const (.int .i64 60)), (.const (.int .i64 250))])⟩,
       ⟨(some 11), none, (.un .not (.tmp 10))⟩])
     (.cond (.tmp 11)
      (.seq
       (.ops [
         ⟨(some 6), none, (.mv (.const (.bool true)))⟩])
       .ret)
      .skip))
    (.seq
     (.ops [
       ⟨(some 12), none, (.mv (.tmp 0))⟩,
       ⟨(some 13), none, (.mv (.tmp 1))⟩,
       ⟨(some 14), none, (.mv (.tmp 2))⟩,
       ⟨(some 15), none, (.call (.func 20) [(.tmp 12), (.tmp 13), (.tmp 14)])⟩,
       ⟨(some 16), none, (.mv (.tmp 0))⟩,
       ⟨(some 17), none, (.mv (.tmp 1))⟩,
       ⟨(some 18), none, (.mv (.tmp 2))⟩,
       ⟨(some 19), none, (.call (.func 21) [(.tmp 16), (.tmp 17), (.tmp 18)])⟩,
       ⟨(some 20), none, (.beq false (.tmp 15) (.tmp 19))⟩,
       ⟨(some 6), none, (.mv (.tmp 20))⟩])
     .ret))))
theorem f_sclaw26_FlowMust : compF Try.prog 5 = some (21, c_sclaw26_FlowMust, [(.tmp 6)]) := by kernel_rfl

/-- seedcorn/seedcornlaw26.FlowCut -/
def c_sclaw26_FlowCut : VC :=
 (.seq
  (.ops [
    ⟨(some 6), none, (.mv (.const (.bool false)))⟩])
  (.seq
   (.seq
    (.ops [
      ⟨(some 10), none, (.call (.func 11) [])⟩,
      ⟨(some 11), none, (.un .not (.tmp 10))⟩])
    (.cond (.tmp 11)
     (.seq
      (.ops [
        ⟨(some 6), none, (.mv (.const (.bool false)))⟩])
      .ret)
     .skip))
   (.seq
    (.seq
     (.ops [
       ⟨(some 12), none, (.mv (.tmp 0))⟩,
       ⟨(some 13), none, (.call (.func 12) [(.tmp 12), (.const (.int .i64 60)), (.const (.int .i64 250))])⟩,
       ⟨(some 14), none, (.un .not (.tmp 13))⟩,
       ⟨(some 15), none, (.mv (.tmp 14))⟩,
       ⟨(some 16), (some (15, false)), (.mv (.tmp 1))⟩,
       ⟨(some 17), (some (15, false)), (.conv .i64 (.tmp 16))⟩,
       ⟨(some 18), (some (15, false)), (.mv (.tmp 0))⟩,
       ⟨(some 19), (some (15, false)), (.len (.tmp 18))⟩,
       ⟨(some 20), (some (15, false)), (.bin .geq (.tmp 17) (.tmp 19))⟩,
       ⟨(some 21), none, (.pick (.tmp 15) (.const (.bool true)) (.tmp 20))⟩,
       ⟨(some 22), none, (.mv (.tmp 21))⟩,
       ⟨(some 23), (some (22, false)), (.mv (.tmp 2))⟩,
       ⟨(some 24), (some (22, false)), (.conv .i64 (.tmp 23))⟩,
       ⟨(some 25), (some (22, false)), (.mv (.tmp 0))⟩,
       ⟨(some 26), (some (22, false)), (.len (.tmp 25))⟩,
       ⟨(some 27), (some (22, false)), (.bin .geq (.tmp 24) (.tmp 26))⟩,
       ⟨(some 28), none, (.pick (.tmp 22) (.const (.bool true)) (.tmp 27))⟩])
     (.cond (.tmp 28)
      (.seq
       (.ops [
         ⟨(some 6), none, (.mv (.const (.bool true)))⟩])
       .ret)
      .skip))
    (.seq
     (.ops [
       ⟨(some 29), none, (.bsl 28 1 0 [] [])⟩,
       ⟨(some 30), none, (.mv (.tmp 0))⟩,
       ⟨(some 31), none, (.app 28 1 24 (.tmp 29) (.tmp 30))⟩,
       ⟨(some 7), none, (.mv (.tmp 31))⟩])
     (.seq
      (.ops [
        ⟨(some 32), none, (.mv (.tmp 7))⟩,
        ⟨(some 33), none, (.mv (.tmp 1))⟩,
        ⟨(some 34), none, (.idx 1 (.tmp 32) (.tmp 33))⟩,
        ⟨none, none, (.sto false 1 (.tmp 34) (.const (.slice none 0 0)))⟩])
      (.seq
       (.ops [
         ⟨(some 35), none, (.mv (.tmp 0))⟩,
         ⟨(some 36), none, (.call (.func 13) [(.tmp 35)])⟩,
         ⟨(some 8), none, (.mv (.tmp 36))⟩])
       (.seq
        (.ops [
          ⟨(some 37), none, (.mv (.tmp 7))⟩,
          ⟨(some 38), none, (.call (.func 13) [(.tmp 37)])⟩,
          ⟨(some 9), none, (.mv (.tmp 38))⟩])
        (.seq
         (.seq
          (.ops [
            ⟨(some 39), none, (.mv (.tmp 8))⟩,
            ⟨(some 40), none, (.len (.tmp 39))⟩,
            ⟨(some 41), none, (.mv (.tmp 0))⟩,
            ⟨(some 42), none, (.len (.tmp 41))⟩,
            ⟨(some 43), none, (.bin .neq (.tmp 40) (.tmp 42))⟩,
            ⟨(some 44), none, (.mv (.tmp 43))⟩,
            ⟨(some 45), (some (44, false)), (.mv (.tmp 9))⟩,
            ⟨(some 46), (some (44, false)), (.len (.tmp 45))⟩,
            ⟨(some 47), (some (44, false)), (.mv (.tmp 0))⟩,
            ⟨(some 48), (some (44, false)), (.len (.tmp 47))⟩,
            ⟨(some 49), (some (44, false)), (.bin .neq (.tmp 46) (.tmp 48))⟩,
            ⟨(some 50), none, (.pick (.tmp 44) (.const (.bool true)) (.tmp 49))⟩])
          (.cond (.tmp 50)
           (.seq
            (.ops [
              ⟨(some 6), none, (.mv (.const (.bool false)))⟩])
            .ret)
           .skip))
         (.seq
          (.seq
           (.ops [
             ⟨(some 51), none, (.mv (.tmp 1))⟩,
             ⟨(some 52), none, (.mv (.tmp 2))⟩,
             ⟨(some 53), none, (.bin .eql (.tmp 51) (.tmp 52))⟩])
           (.cond (.tmp 53)
            (.seq
             (.par false (.one ⟨(some 54), none, (.mv (.tmp 0))⟩ (.one ⟨(some 55), none, (.mv (.tmp 1))⟩ (.one ⟨(some 56), none, (.conv .i64 (.tmp 55))⟩ (.one ⟨(some 57), none, (.mv (.tmp 2))⟩ (.one ⟨(some 58), none, (.conv .i64 (.tmp 57))⟩ (.one ⟨(some 60), none, (.mv (.tmp 8))⟩ (.one ⟨(some 61), none, (.mv (.tmp 2))⟩ (.one ⟨(some 62), none, (.idx 1 (.tmp 60) (.tmp 61))⟩ (.one ⟨(some 63), none, (.ld false 1 (.tmp 62))⟩ (.one ⟨(some 59), none, (.call (.func 20) [(.tmp 54), (.tmp 56), (.tmp 58)])⟩ (.one ⟨(some 64), none, (.beq false (.tmp 59) (.tmp 63))⟩ (.one ⟨(some 6), none, (.mv (.tmp 64))⟩ .done)))))))))))))
             .ret)
            .skip))
          (.seq
           (.par false (.one ⟨(some 65), none, (.mv (.tmp 0))⟩ (.one ⟨(some 66), none, (.mv (.tmp 1))⟩ (.one ⟨(some 67), none, (.conv .i64 (.tmp 66))⟩ (.one ⟨(some 68), none, (.mv (.tmp 2))⟩ (.one ⟨(some 69), none, (.conv .i64 (.tmp 68))⟩ (.one ⟨(some 71), none, (.mv (.tmp 8))⟩ (.one ⟨(some 72), none, (.mv (.tmp 2))⟩ (.one ⟨(some 73), none, (.idx 1 (.tmp 71) (.tmp 72))⟩ (.one ⟨(some 74), none, (.ld false 1 (.tmp 73))⟩ (.one ⟨(some 70), none, (.call (.func 20) [(.tmp 65), (.tmp 67), (.tmp 69)])⟩ (.one ⟨(some 75), none, (.mv (.tmp 74))⟩ (.one ⟨(some 76), (some (75, true)), (.mv (.tmp 9))⟩ (.one ⟨(some 77), (some (75, true)), (.mv (.tmp 2))⟩ (.one ⟨(some 78), (some (75, true)), (.idx 1 (.tmp 76) (.tmp 77))⟩ (.one ⟨(some 79), (some (75, true)), (.ld false 1 (.tmp 78))⟩ (.one ⟨(some 80), (some (75, true)), (.un .not (.tmp 79))⟩ (.one ⟨(some 81), none, (.pick (.tmp 75) (.tmp 80) (.const (.bool false)))⟩ (.one ⟨(some 82), none, (.beq false (.tmp 70) (.tmp 81))⟩ (.one ⟨(some 6), none, (.mv (.tmp 82))⟩ .done))))))))))))))))))))
           .ret))))))))))
theorem f_sclaw26_FlowCut : compF Try.prog 6 = some (83, c_sclaw26_FlowCut, [(.tmp 6)]) := by kernel_rfl

/-- seedcorn/seedcornlaw26.FlowRow -/
def c_sclaw26_FlowRow : VC :=
 (.seq
  (.ops [
    ⟨(some 6), none, (.mv (.const (.bool false)))⟩])
  (.seq
   (.seq
    (.ops [
      ⟨(some 16), none, (.call (.func 11) [])⟩,
      ⟨(some 17), none, (.un .not (.tmp 16))⟩])
    (.cond (.tmp 17)
     (.seq
      (.ops [
        ⟨(some 6), none, (.mv (.const (.bool false)))⟩])
      .ret)
     .skip))
   (.seq
    (.seq
     (.ops [
       ⟨(some 18), none, (.mv (.tmp 0))⟩,
       ⟨(some 19), none, (.call (.func 12) [(.tmp 18), (.const (.int .i64 40)), (.const (.int .i64 150))])⟩,
       ⟨(some 20), none, (.un .not (.tmp 19))⟩,
       ⟨(some 21), none, (.mv (.tmp 20))⟩,
       ⟨(some 22), (some (21, false)), (.mv (.tmp 1))⟩,
       ⟨(some 23), (some (21, false)), (.conv .i64 (.tmp 22))⟩,
       ⟨(some 24), (some (21, false)), (.mv (.tmp 0))⟩,
       ⟨(some 25), (some (21, false)), (.len (.tmp 24))⟩,
       ⟨(some 26), (some (21, false)), (.bin .geq (.tmp 23) (.tmp 25))⟩,
       ⟨(some 27), none, (.pick (.tmp 21) (.const (.bool true)) (.tmp 26))⟩,
       ⟨(some 28), none, (.mv (.tmp 27))⟩,
       ⟨(some 29), (some (28, false)), (.mv (.tmp 2))⟩,
       ⟨(some 30), (some (28, false)), (.conv .i64 (.tmp 29))⟩,
       ⟨(some 31), (some (28, false)), (.mv (.tmp 0))⟩,
       ⟨(some 32), (some (28, false)), (.len (.tmp 31))⟩,
       ⟨(some 33), (some (28, false)), (.bin .geq (.tmp 30) (.tmp 32))⟩,
       ⟨(some 34), none, (.pick (.tmp 28) (.const (.bool true)) (.tmp 33))⟩])
     (.cond (.tmp 34)
      (.seq
       (.ops [
         ⟨(some 6), none, (.mv (.const (.bool true)))⟩])
       .ret)
      .skip))
    (.seq
     (.ops [
       ⟨(some 35), none, (.mv (.tmp 0))⟩,
       ⟨(some 36), none, (.call (.func 13) [(.tmp 35)])⟩,
       ⟨(some 7), none, (.mv (.tmp 36))⟩])
     (.seq
      (.ops [
        ⟨(some 37), none, (.mv (.tmp 0))⟩,
        ⟨(some 38), none, (.call (.func 18) [(.tmp 37)])⟩,
        ⟨(some 8), none, (.mv (.tmp 38))⟩])
      (.seq
       (.ops [
         ⟨(some 39), none, (.mv (.tmp 0))⟩,
         ⟨(some 40), none, (.call (.func 16) [(.tmp 39)])⟩,
         ⟨(some 9), none, (.mv (.tmp 40))⟩])
       (.seq
        (.seq
         (.ops [
           ⟨(some 41), none, (.mv (.tmp 7))⟩,
           ⟨(some 42), none, (.len (.tmp 41))⟩,
           ⟨(some 43), none, (.mv (.tmp 0))⟩,
           ⟨(some 44), none, (.len (.tmp 43))⟩,
           ⟨(some 45), none, (.bin .neq (.tmp 42) (.tmp 44))⟩,
           ⟨(some 46), none, (.mv (.tmp 45))⟩,
           ⟨(some 47), (some (46, false)), (.mv (.tmp 8))⟩,
           ⟨(some 48), (some (46, false)), (.len (.tmp 47))⟩,
           ⟨(some 49), (some (46, false)), (.mv (.tmp 0))⟩,
           ⟨(some 50), (some (46, false)), (.len (.tmp 49))⟩,
           ⟨(some 51), (some (46, false)), (.bin .neq (.tmp 48) (.tmp 50))⟩,
           ⟨(some 52), none, (.pick (.tmp 46) (.const (.bool true)) (.tmp 51))⟩])
         (.cond (.tmp 52)
          (.seq
           (.ops [
             ⟨(some 6), none, (.mv (.const (.bool false)))⟩])
           .ret)
          .skip))
        (.seq
         (.ops [
           ⟨(some 53), none, (.mv (.tmp 0))⟩,
           ⟨(some 54), none, (.len (.tmp 53))⟩,
           ⟨(some 55), none, (.mk 3 1 8 [(.int .i64 0)] (.tmp 54) (.tmp 54))⟩,
           ⟨(some 10), none, (.mv (.tmp 55))⟩])
         (.seq
          (.seq
           (.ops [
             ⟨(some 11), none, (.mv (.const (.int .i64 0)))⟩])
           (.block 0
            (.loop
             (.seq
              (.seq
               (.ops [
                 ⟨(some 56), none, (.mv (.tmp 11))⟩,
                 ⟨(some 57), none, (.mv (.tmp 9))⟩,
                 ⟨(some 58), none, (.len (.tmp 57))⟩,
                 ⟨(some 59), none, (.bin .lss (.tmp 56) (.tmp 58))⟩])
               (.cond (.tmp 59)
                .skip
                (.exit 0)))
              (.seq
               (.block 1
                (.seq
                 (.seq
                  (.ops [
                    ⟨(some 62), none, (.mv (.tmp 9))⟩,
                    ⟨(some 63), none, (.mv (.tmp 11))⟩,
                    ⟨(some 64), none, (.idx 1 (.tmp 62) (.tmp 63))⟩,
                    ⟨(some 65), none, (.ld false 1 (.tmp 64))⟩,
                    ⟨(some 66), none, (.bin .lss (.tmp 65) (.const (.int .i64 0)))⟩,
                    ⟨(some 67), none, (.mv (.tmp 66))⟩,
                    ⟨(some 68), (some (67, false)), (.mv (.tmp 9))⟩,
                    ⟨(some 69), (some (67, false)), (.mv (.tmp 11))⟩,
                    ⟨(some 70), (some (67, false)), (.idx 1 (.tmp 68) (.tmp 69))⟩,
                    ⟨(some 71), (some (67, false)), (.ld false 1 (.tmp 70))⟩,
                    ⟨(some 72), (some (67, false)), (.mv (.tmp 0))⟩,
                    ⟨(some 73), (some (67, false)), (.len (.tmp 72))⟩,
                    ⟨(some 74), (some (67, false)), (.bin .geq (.tmp 71) (.tmp 73))⟩,
                    ⟨(some 75), none, (.pick (.tmp 67) (.const (.bool true)) (.tmp 74))⟩])
                  (.cond (.tmp 75)
                   (.seq
                    (.ops [
                      ⟨(some 6), none, (.mv (.const (.bool false)))⟩])
                    .ret)
                   .skip))
                 (.ops [
                   ⟨(some 76), none, (.mv (.tmp 10))⟩,
                   ⟨(some 77), none, (.mv (.tmp 9))⟩,
                   ⟨(some 78), none, (.mv (.tmp 11))⟩,
                   ⟨(some 79), none, (.idx 1 (.tmp 77) (.tmp 78))⟩,
                   ⟨(some 80), none, (.ld false 1 (.tmp 79))⟩,
                   ⟨(some 81), none, (.mv (.tmp 11))⟩,
                   ⟨(some 82), none, (.idx 1 (.tmp 76) (.tmp 80))⟩,
                   ⟨none, none, (.sto false 1 (.tmp 82) (.tmp 81))⟩])))
               (.ops [
                 ⟨(some 60), none, (.mv (.tmp 11))⟩,
                 ⟨(some 61), none, (.bin .add (.tmp 60) (.const (.int .i64 1)))⟩,
                 ⟨(some 11), none, (.mv (.tmp 61))⟩]))))))
          (.seq
           (.ops [
             ⟨(some 12), none, (.mv (.const (.bool false)))⟩])
           (.seq
            (.ops [
              ⟨(some 83), none, (.mv (.tmp 2))⟩,
              ⟨(some 84), none, (.conv .i64 (.tmp 83))⟩,
              ⟨(some 13), none, (.mv (.tmp 84))⟩])
            (.seq
             (.seq
              (.ops [
                ⟨(some 14), none, (.mv (.const (.int .i64 0)))⟩])
              (.block 2
               (.loop
                (.seq
                 (.seq
                  (.ops [
                    ⟨(some 85), none, (.mv (.tmp 14))⟩,
                    ⟨(some 86), none, (.mv (.tmp 0))⟩,
                    ⟨(some 87), none, (.len (.tmp 86))⟩,
                    ⟨(some 88), none, (.bin .leq (.tmp 85) (.tmp 87))⟩,
                    ⟨(some 89), none, (.mv (.tmp 88))⟩,
                    ⟨(some 90), (some (89, true)), (.mv (.tmp 13))⟩,
                    ⟨(some 91), (some (89, true)), (.bin .geq (.tmp 90) (.const (.int .i64 0)))⟩,
                    ⟨(some 92), none, (.pick (.tmp 89) (.tmp 91) (.const (.bool false)))⟩])
                  (.cond (.tmp 92)
                   .skip
                   (.exit 2)))
                 (.seq
                  (.block 3
                   (.seq
                    (.seq
                     (.ops [
                       ⟨(some 95), none, (.mv (.tmp 13))⟩,
                       ⟨(some 96), none, (.mv (.tmp 0))⟩,
                       ⟨(some 97), none, (.len (.tmp 96))⟩,
                       ⟨(some 98), none, (.bin .geq (.tmp 95) (.tmp 97))⟩])
                     (.cond (.tmp 98)
                      (.seq
                       (.ops [
                         ⟨(some 6), none, (.mv (.const (.bool false)))⟩])
                       .ret)
                      .skip))
                    (.seq
                     (.ops [
                       ⟨(some 99), none, (.mv (.tmp 12))⟩,
                       ⟨(some 100), none, (.mv (.tmp 99))⟩,
                       ⟨(some 101), (some (100, false)), (.mv (.tmp 13))⟩,
                       ⟨(some 102), (some (100, false)), (.mv (.tmp 1))⟩,
                       ⟨(some 103), (some (100, false)), (.conv .i64 (.tmp 102))⟩,
                       ⟨(some 104), (some (100, false)), (.bin .eql (.tmp 101) (.tmp 103))⟩,
                       ⟨(some 105), none, (.pick (.tmp 100) (.const (.bool true)) (.tmp 104))⟩,
                       ⟨(some 12), none, (.mv (.tmp 105))⟩])
                     (.seq
                      (.ops [
                        ⟨(some 106), none, (.mv (.tmp 8))⟩,
                        ⟨(some 107), none, (.mv (.tmp 13))⟩,
                        ⟨(some 108), none, (.idx 1 (.tmp 106) (.tmp 107))⟩,
                        ⟨(some 109), none, (.ld false 1 (.tmp 108))⟩,
                        ⟨(some 15), none, (.mv (.tmp 109))⟩])
                      (.seq
                       (.seq
                        (.ops [
                          ⟨(some 110), none, (.mv (.tmp 15))⟩,
                          ⟨(some 111), none, (.bin .geq (.tmp 110) (.const (.int .i64 0)))⟩,
                          ⟨(some 112), none, (.mv (.tmp 111))⟩,
                          ⟨(some 113), (some (112, true)), (.mv (.tmp 15))⟩,
                          ⟨(some 114), (some (112, true)), (.mv (.tmp 0))⟩,
                          ⟨(some 115), (some (112, true)), (.len (.tmp 114))⟩,
                          ⟨(some 116), (some (112, true)), (.bin .geq (.tmp 113) (.tmp 115))⟩,
                          ⟨(some 117), (some (112, true)), (.mv (.tmp 116))⟩,
                          ⟨(some 118), (some (117, false)), (.mv (.tmp 10))⟩,
                          ⟨(some 119), (some (117, false)), (.mv (.tmp 15))⟩,
                          ⟨(some 120), (some (117, false)), (.idx 1 (.tmp 118) (.tmp 119))⟩,
                          ⟨(some 121), (some (117, false)), (.ld false 1 (.tmp 120))⟩,
                          ⟨(some 122), (some (117, false)), (.mv (.tmp 10))⟩,
                          ⟨(some 123), (some (117, false)), (.mv (.tmp 13))⟩,
                          ⟨(some 124), (some (117, false)), (.idx 1 (.tmp 122) (.tmp 123))⟩,
                          ⟨(some 125), (some (117, false)), (.ld false 1 (.tmp 124))⟩,
                          ⟨(some 126), (some (117, false)), (.bin .geq (.tmp 121) (.tmp 125))⟩,
                          ⟨(some 127), (some (112, true)), (.pick (.tmp 117) (.const (.bool true)) (.tmp 126))⟩,
                          ⟨(some 128), none, (.pick (.tmp 112) (.tmp 127) (.const (.bool false)))⟩])
                        (.cond (.tmp 128)
                         (.seq
                          (.ops [
                            ⟨(some 6), none, (.mv (.const (.bool false)))⟩])
                          .ret)
                         .skip))
                       (.ops [
                         ⟨(some 129), none, (.mv (.tmp 15))⟩,
                         ⟨(some 13), none, (.mv (.tmp 129))⟩]))))))
                  (.ops [
                    ⟨(some 93), none, (.mv (.tmp 14))⟩,
                    ⟨(some 94), none, (.bin .add (.tmp 93) (.const (.int .i64 1)))⟩,
                    ⟨(some 14), none, (.mv (.tmp 94))⟩]))))))
             (.seq
              (.par false (.one ⟨(some 130), none, (.mv (.tmp 13))⟩ (.one ⟨(some 131), none, (.bin .lss (.tmp 130) (.const (.int .i64 0)))⟩ (.one ⟨(some 132), none, (.mv (.tmp 131))⟩ (.one ⟨(some 133), (some (132, true)), (.mv (.tmp 0))⟩ (.one ⟨(some 134), (some (132, true)), (.mv (.tmp 1))⟩ (.one ⟨(some 135), (some (132, true)), (.conv .i64 (.tmp 134))⟩ (.one ⟨(some 136), (some (132, true)), (.mv (.tmp 2))⟩ (.one ⟨(some 137), (some (132, true)), (.conv .i64 (.tmp 136))⟩ (.one ⟨(some 139), (some (132, true)), (.mv (.tmp 7))⟩ (.one ⟨(some 140), (some (132, true)), (.mv (.tmp 2))⟩ (.one ⟨(some 141), (some (132, true)), (.idx 1 (.tmp 139) (.tmp 140))⟩ (.one ⟨(some 142), (some (132, true)), (.ld false 1 (.tmp 141))⟩ (.one ⟨(some 138), (some (132, true)), (.call (.func 20) [(.tmp 133), (.tmp 135), (.tmp 137)])⟩ (.one ⟨(some 143), (some (132, true)), (.mv (.tmp 142))⟩ (.one ⟨(some 144), (some (143, true)), (.mv (.tmp 12))⟩ (.one ⟨(some 145), (some (132, true)), (.pick (.tmp 143) (.tmp 144) (.const (.bool false)))⟩ (.one ⟨(some 146), (some (132, true)), (.beq false (.tmp 138) (.tmp 145))⟩ (.one ⟨(some 147), none, (.pick (.tmp 132) (.tmp 146) (.const (.bool false)))⟩ (.one ⟨(some 6), none, (.mv (.tmp 147))⟩ .done))))))))))))))))))))
              .ret)))))))))))))
theorem f_sclaw26_FlowRow : compF Try.prog 7 = some (148, c_sclaw26_FlowRow, [(.tmp 6)]) := by kernel_rfl

/-- seedcorn/seedcornlaw26.FlowMore -/
def c_sclaw26_FlowMore : VC :=
 (.seq
  (.ops [
    ⟨(some 4), none, (.box 32 (.tmp 1))⟩,
    ⟨(some 5), none, (.box 32 (.tmp 2))⟩,
    ⟨(some 6), none, (.mv (.const (.bool false)))⟩])
  (.seq
   (.seq
    (.ops [
      ⟨(some 14), none, (.call (.func 11) [])⟩,
      ⟨(some 15), none, (.un .not (.tmp 14))⟩])
    (.cond (.tmp 15)
     (.seq
      (.ops [
        ⟨(some 6), none, (.mv (.const (.bool false)))⟩])
      .ret)
     .skip))
   (.seq
    (.ops [
      ⟨(some 16), none, (.mv (.tmp 0))⟩,
      ⟨(some 17), none, (.len (.tmp 16))⟩,
      ⟨(some 7), none, (.mv (.tmp 17))⟩])
    (.seq
     (.seq
      (.ops [
        ⟨(some 18), none, (.mv (.tmp 0))⟩,
        ⟨(some 19), none, (.call (.func 12) [(.tmp 18), (.const (.int .i64 60)), (.const (.int .i64 250))])⟩,
        ⟨(some 20), none, (.un .not (.tmp 19))⟩,
        ⟨(some 21), none, (.mv (.tmp 20))⟩,
        ⟨(some 22), (some (21, false)), (.aidx 2 false 1 (.tmp 4) (.const (.int .i64 0)))⟩,
        ⟨(some 23), (some (21, false)), (.ld false 1 (.tmp 22))⟩,
        ⟨(some 24), (some (21, false)), (.conv .i64 (.tmp 23))⟩,
        ⟨(some 25), (some (21, false)), (.mv (.tmp 7))⟩,
        ⟨(some 26), (some (21, false)), (.bin .geq (.tmp 24) (.tmp 25))⟩,
        ⟨(some 27), none, (.pick (.tmp 21) (.const (.bool true)) (.tmp 26))⟩,
        ⟨(some 28), none, (.mv (.tmp 27))⟩,
        ⟨(some 29), (some (28, false)), (.aidx 2 false 1 (.tmp 4) (.const (.int .i64 1)))⟩,
        ⟨(some 30), (some (28, false)), (.ld false 1 (.tmp 29))⟩,
        ⟨(some 31), (some (28, false)), (.conv .i64 (.tmp 30))⟩,
        ⟨(some 32), (some (28, false)), (.mv (.tmp 7))⟩,
        ⟨(some 33), (some (28, false)), (.bin .geq (.tmp 31) (.tmp 32))⟩,
        ⟨(some 34), none, (.pick (.tmp 28) (.const (.bool true)) (.tmp 33))⟩,
        ⟨(some 35), none, (.mv (.tmp 34))⟩,
        ⟨(some 36), (some (35, false)), (.aidx 2 false 1 (.tmp 5) (.const (.int .i64 0)))⟩,
        ⟨(some 37), (some (35, false)), (.ld false 1 (.tmp 36))⟩,
        ⟨(some 38), (some (35, false)), (.conv .i64 (.tmp 37))⟩,
        ⟨(some 39), (some (35, false)), (.mv (.tmp 7))⟩,
        ⟨(some 40), (some (35, false)), (.bin .geq (.tmp 38) (.tmp 39))⟩,
        ⟨(some 41), none, (.pick (.tmp 35) (.const (.bool true)) (.tmp 40))⟩,
        ⟨(some 42), none, (.mv (.tmp 41))⟩,
        ⟨(some 43), (some (42, false)), (.aidx 2 false 1 (.tmp 5) (.const (.int .i64 1)))⟩,
        ⟨(some 44), (some (42, false)), (.ld false 1 (.tmp 43))⟩,
        ⟨(some 45), (some (42, false)), (.conv .i64 (.tmp 44))⟩,
        ⟨(some 46), (some (42, false)), (.mv (.tmp 7))⟩,
        ⟨(some 47), (some (42, false)), (.bin .geq (.tmp 45) (.tmp 46))⟩,
        ⟨(some 48), none, (.pick (.tmp 42) (.const (.bool true)) (.tmp 47))⟩])
      (.cond (.tmp 48)
       (.seq
        (.ops [
          ⟨(some 6), none, (.mv (.const (.bool true)))⟩])
        .ret)
       .skip))
     (.seq
      (.ops [
        ⟨(some 49), none, (.bsl 28 1 0 [] [])⟩,
        ⟨(some 50), none, (.mv (.tmp 0))⟩,
        ⟨(some 51), none, (.app 28 1 24 (.tmp 49) (.tmp 50))⟩,
        ⟨(some 8), none, (.mv (.tmp 51))⟩])
      (.seq
       (.par true (.one ⟨(some 52), none, (.mv (.tmp 8))⟩ (.one ⟨(some 53), none, (.aidx 2 false 1 (.tmp 4) (.const (.int .i64 0)))⟩ (.one ⟨(some 54), none, (.ld false 1 (.tmp 53))⟩ (.one ⟨(some 56), none, (.mv (.tmp 0))⟩ (.one ⟨(some 57), none, (.aidx 2 false 1 (.tmp 4) (.const (.int .i64 0)))⟩ (.one ⟨(some 58), none, (.ld false 1 (.tmp 57))⟩ (.one ⟨(some 59), none, (.idx 1 (.tmp 56) (.tmp 58))⟩ (.one ⟨(some 60), none, (.ld false 1 (.tmp 59))⟩ (.one ⟨(some 62), none, (.aidx 2 false 1 (.tmp 4) (.const (.int .i64 1)))⟩ (.one ⟨(some 63), none, (.ld false 1 (.tmp 62))⟩ (.one ⟨(some 64), none, (.conv .i64 (.tmp 63))⟩ (.both (.one ⟨(some 55), none, (.bsl 3 1 0 [] [])⟩ (.both (.one ⟨(some 61), none, (.app 3 1 8 (.tmp 55) (.tmp 60))⟩ (.one ⟨(some 65), none, (.bsl 3 1 1 [(.int .i64 0)] [(0, (1, (.tmp 64)))])⟩ (.one ⟨(some 66), none, (.app 3 1 8 (.tmp 61) (.tmp 65))⟩ (.one ⟨(some 67), none, (.idx 1 (.tmp 52) (.tmp 54))⟩ (.one ⟨none, none, (.sto false 1 (.tmp 67) (.tmp 66))⟩ .done))))) (.one ⟨(some 65), none, (.bsl 3 1 1 [(.int .i64 0)] [(0, (1, (.tmp 64)))])⟩ (.one ⟨(some 61), none, (.app 3 1 8 (.tmp 55) (.tmp 60))⟩ (.one ⟨(some 66), none, (.app 3 1 8 (.tmp 61) (.tmp 65))⟩ (.one ⟨(some 67), none, (.idx 1 (.tmp 52) (.tmp 54))⟩ (.one ⟨none, none, (.sto false 1 (.tmp 67) (.tmp 66))⟩ .done))))))) (.one ⟨(some 65), none, (.bsl 3 1 1 [(.int .i64 0)] [(0, (1, (.tmp 64)))])⟩ (.one ⟨(some 55), none, (.bsl 3 1 0 [] [])⟩ (.one ⟨(some 61), none, (.app 3 1 8 (.tmp 55) (.tmp 60))⟩ (.one ⟨(some 66), none, (.app 3 1 8 (.tmp 61) (.tmp 65))⟩ (.one ⟨(some 67), none, (.idx 1 (.tmp 52) (.tmp 54))⟩ (.one ⟨none, none, (.sto false 1 (.tmp 67) (.tmp 66))⟩ .done)))))))))))))))))))
       (.seq
        (.ops [
          ⟨(some 68), none, (.mv (.tmp 0))⟩,
          ⟨(some 69), none, (.call (.func 13) [(.tmp 68)])⟩,
          ⟨(some 9), none, (.mv (.tmp 69))⟩])
        (.seq
         (.ops [
           ⟨(some 70), none, (.mv (.tmp 8))⟩,
           ⟨(some 71), none, (.call (.func 13) [(.tmp 70)])⟩,
           ⟨(some 10), none, (.mv (.tmp 71))⟩])
         (.seq
          (.seq
           (.ops [
             ⟨(some 72), none, (.mv (.tmp 9))⟩,
             ⟨(some 73), none, (.len (.tmp 72))⟩,
             ⟨(some 74), none, (.mv (.tmp 7))⟩,
             ⟨(some 75), none, (.bin .neq (.tmp 73) (.tmp 74))⟩,
             ⟨(some 76), none, (.mv (.tmp 75))⟩,
             ⟨(some 77), (some (76, false)), (.mv (.tmp 10))⟩,
             ⟨(some 78), (some (76, false)), (.len (.tmp 77))⟩,
             ⟨(some 79), (some (76, false)), (.mv (.tmp 7))⟩,
             ⟨(some 80), (some (76, false)), (.bin .neq (.tmp 78) (.tmp 79))⟩,
             ⟨(some 81), none, (.pick (.tmp 76) (.const (.bool true)) (.tmp 80))⟩])
           (.cond (.tmp 81)
            (.seq
             (.ops [
               ⟨(some 6), none, (.mv (.const (.bool false)))⟩])
             .ret)
            .skip))
          (.seq
           (.seq
            (.ops [
              ⟨(some 11), none, (.mv (.const (.int .i64 0)))⟩])
            (.block 0
             (.loop
              (.seq
               (.seq
                (.ops [
                  ⟨(some 82), none, (.mv (.tmp 11))⟩,
                  ⟨(some 83), none, (.mv (.tmp 7))⟩,
                  ⟨(some 84), none, (.bin .lss (.tmp 82) (.tmp 83))⟩])
                (.cond (.tmp 84)
                 .skip
                 (.exit 0)))
               (.seq
                (.block 1
                 (.seq
                  (.ops [
                    ⟨(some 87), none, (.mv (.tmp 9))⟩,
                    ⟨(some 88), none, (.mv (.tmp 11))⟩,
                    ⟨(some 89), none, (.idx 1 (.tmp 87) (.tmp 88))⟩,
                    ⟨(some 90), none, (.ld false 1 (.tmp 89))⟩,
                    ⟨(some 91), none, (.mv (.tmp 90))⟩,
                    ⟨(some 92), (some (91, true)), (.mv (.tmp 10))⟩,
                    ⟨(some 93), (some (91, true)), (.mv (.tmp 11))⟩,
                    ⟨(some 94), (some (91, true)), (.idx 1 (.tmp 92) (.tmp 93))⟩,
                    ⟨(some 95), (some (91, true)), (.ld false 1 (.tmp 94))⟩,
                    ⟨(some 96), (some (91, true)), (.un .not (.tmp 95))⟩,
                    ⟨(some 97), none, (.pick (.tmp 91) (.tmp 96) (.const (.bool false)))⟩])
                  (.cond (.tmp 97)
                   (.seq
                    (.ops [
                      ⟨(some 6), none, (.mv (.const (.bool false)))⟩])
                    .ret)
                   .skip)))
                (.ops [
                  ⟨(some 85), none, (.mv (.tmp 11))⟩,
                  ⟨(some 86), none, (.bin .add (.tmp 85) (.const (.int .i64 1)))⟩,
                  ⟨(some 11), none, (.mv (.tmp 86))⟩]))))))
           (.seq
            (.ops [
              ⟨(some 98), none, (.aidx 2 false 1 (.tmp 5) (.const (.int .i64 0)))⟩,
              ⟨(some 99), none, (.ld false 1 (.tmp 98))⟩,
              ⟨(some 100), none, (.conv .i64 (.tmp 99))⟩,
              ⟨(some 12), none, (.mv (.tmp 100))⟩])
            (.seq
             (.ops [
               ⟨(some 101), none, (.aidx 2 false 1 (.tmp 5) (.const (.int .i64 1)))⟩,
               ⟨(some 102), none, (.ld false 1 (.tmp 101))⟩,
               ⟨(some 103), none, (.conv .i64 (.tmp 102))⟩,
               ⟨(some 13), none, (.mv (.tmp 103))⟩])
             (.seq
              (.ops [
                ⟨(some 104), none, (.mv (.tmp 9))⟩,
                ⟨(some 105), none, (.mv (.tmp 13))⟩,
                ⟨(some 106), none, (.idx 1 (.tmp 104) (.tmp 105))⟩,
                ⟨(some 107), none, (.ld false 1 (.tmp 106))⟩,
                ⟨(some 108), none, (.un .not (.tmp 107))⟩,
                ⟨(some 109), none, (.mv (.tmp 108))⟩,
                ⟨(some 110), (some (109, false)), (.mv (.tmp 8))⟩,
                ⟨(some 111), (some (109, false)), (.mv (.tmp 12))⟩,
                ⟨(some 112), (some (109, false)), (.mv (.tmp 13))⟩,
                ⟨(some 113), (some (109, false)), (.call (.func 20) [(.tmp 110), (.tmp 111), (.tmp 112)])⟩,
                ⟨(some 114), (some (109, false)), (.un .not (.tmp 113))⟩,
                ⟨(some 115), none, (.pick (.tmp 109) (.const (.bool true)) (.tmp 114))⟩,
                ⟨(some 116), none, (.mv (.tmp 115))⟩,
                ⟨(some 117), (some (116, false)), (.mv (.tmp 0))⟩,
                ⟨(some 118), (some (116, false)), (.mv (.tmp 12))⟩,
                ⟨(some 119), (some (116, false)), (.mv (.tmp 13))⟩,
                ⟨(some 120), (some (116, false)), (.call (.func 20) [(.tmp 117), (.tmp 118), (.tmp 119)])⟩,
                ⟨(some 121), none, (.pick (.tmp 116) (.const (.bool true)) (.tmp 120))⟩,
                ⟨(some 6), none, (.mv (.tmp 121))⟩])
              .ret)))))))))))))
theorem f_sclaw26_FlowMore : compF Try.prog 8 = some (122, c_sclaw26_FlowMore, [(.tmp 6)]) := by kernel_rfl

/-- seedcorn/seedcornlaw26.FlowRows -/
def c_sclaw26_FlowRows : VC :=
 (.seq
  (.ops [
    ⟨(some 3), none, (.box 34 (.tmp 1))⟩,
    ⟨(some 4), none, (.mv (.const (.bool false)))⟩])
  (.seq
   (.seq
    (.ops [
      ⟨(some 12), none, (.call (.func 11) [])⟩,
      ⟨(some 13), none, (.un .not (.tmp 12))⟩])
    (.cond (.tmp 13)
     (.seq
      (.ops [
        ⟨(some 4), none, (.mv (.const (.bool false)))⟩])
      .ret)
     .skip))
   (.seq
    (.seq
     (.ops [
       ⟨(some 14), none, (.mv (.tmp 0))⟩,
       ⟨(some 15), none, (.call (.func 12) [(.tmp 14), (.const (.int .i64 60)), (.const (.int .i64 250))])⟩,
       ⟨(some 16), none, (.un .not (.tmp 15))⟩])
     (.cond (.tmp 16)
      (.seq
       (.ops [
         ⟨(some 4), none, (.mv (.const (.bool true)))⟩])
       .ret)
      .skip))
    (.seq
     (.ops [
       ⟨(some 17), none, (.aidx 3 false 1 (.tmp 3) (.const (.int .i64 0)))⟩,
       ⟨(some 18), none, (.ld false 1 (.tmp 17))⟩,
       ⟨(some 19), none, (.conv .i64 (.tmp 18))⟩,
       ⟨(some 5), none, (.mv (.tmp 19))⟩])
     (.seq
      (.ops [
        ⟨(some 20), none, (.aidx 3 false 1 (.tmp 3) (.const (.int .i64 1)))⟩,
        ⟨(some 21), none, (.ld false 1 (.tmp 20))⟩,
        ⟨(some 22), none, (.conv .i64 (.tmp 21))⟩,
        ⟨(some 6), none, (.mv (.tmp 22))⟩])
      (.seq
       (.ops [
         ⟨(some 23), none, (.aidx 3 false 1 (.tmp 3) (.const (.int .i64 2)))⟩,
         ⟨(some 24), none, (.ld false 1 (.tmp 23))⟩,
         ⟨(some 25), none, (.conv .i64 (.tmp 24))⟩,
         ⟨(some 7), none, (.mv (.tmp 25))⟩])
       (.seq
        (.ops [
          ⟨(some 26), none, (.mv (.tmp 0))⟩,
          ⟨(some 27), none, (.mv (.tmp 5))⟩,
          ⟨(some 28), none, (.mv (.tmp 6))⟩,
          ⟨(some 29), none, (.call (.func 20) [(.tmp 26), (.tmp 27), (.tmp 28)])⟩,
          ⟨(some 8), none, (.mv (.tmp 29))⟩])
        (.seq
         (.ops [
           ⟨(some 30), none, (.mv (.tmp 0))⟩,
           ⟨(some 31), none, (.mv (.tmp 6))⟩,
           ⟨(some 32), none, (.mv (.tmp 7))⟩,
           ⟨(some 33), none, (.call (.func 20) [(.tmp 30), (.tmp 31), (.tmp 32)])⟩,
           ⟨(some 9), none, (.mv (.tmp 33))⟩])
         (.seq
          (.ops [
            ⟨(some 34), none, (.mv (.tmp 0))⟩,
            ⟨(some 35), none, (.mv (.tmp 5))⟩,
            ⟨(some 36), none, (.mv (.tmp 7))⟩,
            ⟨(some 37), none, (.call (.func 20) [(.tmp 34), (.tmp 35), (.tmp 36)])⟩,
            ⟨(some 10), none, (.mv (.tmp 37))⟩])
          (.seq
           (.ops [
             ⟨(some 38), none, (.mv (.tmp 0))⟩,
             ⟨(some 39), none, (.mv (.tmp 6))⟩,
             ⟨(some 40), none, (.mv (.tmp 5))⟩,
             ⟨(some 41), none, (.call (.func 20) [(.tmp 38), (.tmp 39), (.tmp 40)])⟩,
             ⟨(some 11), none, (.mv (.tmp 41))⟩])
           (.seq
            (.seq
             (.ops [
               ⟨(some 42), none, (.mv (.tmp 8))⟩,
               ⟨(some 43), none, (.mv (.tmp 42))⟩,
               ⟨(some 44), (some (43, true)), (.mv (.tmp 9))⟩,
               ⟨(some 45), none, (.pick (.tmp 43) (.tmp 44) (.const (.bool false)))⟩,
               ⟨(some 46), none, (.mv (.tmp 45))⟩,
               ⟨(some 47), (some (46, true)), (.mv (.tmp 10))⟩,
               ⟨(some 48), (some (46, true)), (.un .not (.tmp 47))⟩,
               ⟨(some 49), none, (.pick (.tmp 46) (.tmp 48) (.const (.bool false)))⟩,
               ⟨(some 50), none, (.mv (.tmp 49))⟩,
               ⟨(some 51), (some (50, false)), (.mv (.tmp 8))⟩,
               ⟨(some 52), (some (50, false)), (.mv (.tmp 51))⟩,
               ⟨(some 53), (some (52, true)), (.mv (.tmp 11))⟩,
               ⟨(some 54), (some (50, false)), (.pick (.tmp 52) (.tmp 53) (.const (.bool false)))⟩,
               ⟨(some 55), (some (50, false)), (.mv (.tmp 54))⟩,
               ⟨(some 56), (some (55, true)), (.mv (.tmp 5))⟩,
               ⟨(some 57), (some (55, true)), (.mv (.tmp 6))⟩,
               ⟨(some 58), (some (55, true)), (.bin .neq (.tmp 56) (.tmp 57))⟩,
               ⟨(some 59), (some (50, false)), (.pick (.tmp 55) (.tmp 58) (.const (.bool false)))⟩,
               ⟨(some 60), none, (.pick (.tmp 50) (.const (.bool true)) (.tmp 59))⟩])
             (.cond (.tmp 60)
              (.seq
               (.ops [
                 ⟨(some 4), none, (.mv (.const (.bool false)))⟩])
               .ret)
              .skip))
            (.seq
             (.ops [
               ⟨(some 61), none, (.mv (.tmp 10))⟩,
               ⟨(some 62), none, (.un .not (.tmp 61))⟩,
               ⟨(some 63), none, (.mv (.tmp 62))⟩,
               ⟨(some 64), (some (63, false)), (.mv (.tmp 9))⟩,
               ⟨(some 65), (some (63, false)), (.un .not (.tmp 64))⟩,
               ⟨(some 66), none, (.pick (.tmp 63) (.const (.bool true)) (.tmp 65))⟩,
               ⟨(some 67), none, (.mv (.tmp 66))⟩,
               ⟨(some 68), (some (67, false)), (.mv (.tmp 8))⟩,
               ⟨(some 69), none, (.pick (.tmp 67) (.const (.bool true)) (.tmp 68))⟩,
               ⟨(some 70), none, (.mv (.tmp 69))⟩,
               ⟨(some 71), (some (70, false)), (.mv (.tmp 11))⟩,
               ⟨(some 72), none, (.pick (.tmp 70) (.const (.bool true)) (.tmp 71))⟩,
               ⟨(some 4), none, (.mv (.tmp 72))⟩])
             .ret))))))))))))
theorem f_sclaw26_FlowRows : compF Try.prog 9 = some (73, c_sclaw26_FlowRows, [(.tmp 4)]) := by kernel_rfl

/-- seedcorn/seedcornlaw26.FlowNext -/
def c_sclaw26_FlowNext : VC :=
 (.seq
  (.ops [
    ⟨(some 1), none, (.box 38 (.tmp 0))⟩,
    ⟨(some 2), none, (.mv (.const (.bool false)))⟩])
  (.seq
   (.seq
    (.ops [
      ⟨(some 6), none, (.call (.func 11) [])⟩,
      ⟨(some 7), none, (.un .not (.tmp 6))⟩])
    (.cond (.tmp 7)
     (.seq
      (.ops [
        ⟨(some 2), none, (.mv (.const (.bool false)))⟩])
      .ret)
     .skip))
   (.seq
    (.seq
     (.ops [
       ⟨(some 8), none, (.fad 1 false 1 (.tmp 1))⟩,
       ⟨(some 9), none, (.ld false 1 (.tmp 8))⟩,
       ⟨(some 10), none, (.len (.tmp 9))⟩,
       ⟨(some 11), none, (.bin .gtr (.tmp 10) (.const (.int .i64 500)))⟩])
     (.cond (.tmp 11)
      (.seq
       (.ops [
         ⟨(some 2), none, (.mv (.const (.bool true)))⟩])
       .ret)
      .skip))
    (.seq
     (.ops [
       ⟨(some 12), none, (.ld true 2 (.tmp 1))⟩,
       ⟨(some 13), none, (.call (.func 22) [(.tmp 12)])⟩,
       ⟨(some 3), none, (.mv (.tmp 13))⟩])
     (.seq
      (.ops [
        ⟨(some 14), none, (.ld true 2 (.tmp 1))⟩,
        ⟨(some 15), none, (.call (.func 23) [(.tmp 14)])⟩,
        ⟨(some 4), none, (.mv (.tmp 15))⟩])
      (.seq
       (.seq
        (.ops [
          ⟨(some 16), none, (.mv (.tmp 3))⟩,
          ⟨(some 17), none, (.len (.tmp 16))⟩,
          ⟨(some 18), none, (.mv (.tmp 4))⟩,
          ⟨(some 19), none, (.len (.tmp 18))⟩,
          ⟨(some 20), none, (.bin .neq (.tmp 17) (.tmp 19))⟩])
        (.cond (.tmp 20)
         (.seq
          (.ops [
            ⟨(some 2), none, (.mv (.const (.bool false)))⟩])
          .ret)
         .skip))
       (.seq
        (.seq
         (.ops [
           ⟨(some 5), none, (.mv (.const (.int .i64 0)))⟩])
         (.block 0
          (.loop
           (.seq
            (.seq
             (.ops [
               ⟨(some 21), none, (.mv (.tmp 5))⟩,
               ⟨(some 22), none, (.mv (.tmp 3))⟩,
               ⟨(some 23), none, (.len (.tmp 22))⟩,
               ⟨(some 24), none, (.bin .lss (.tmp 21) (.tmp 23))⟩])
             (.cond (.tmp 24)
              .skip
              (.exit 0)))
            (.seq
             (.block 1
              (.seq
               (.ops [
                 ⟨(some 27), none, (.mv (.tmp 3))⟩,
                 ⟨(some 28), none, (.mv (.tmp 5))⟩,
                 ⟨(some 29), none, (.idx 1 (.tmp 27) (.tmp 28))⟩,
                 ⟨(some 30), none, (.ld false 1 (.tmp 29))⟩,
                 ⟨(some 31), none, (.mv (.tmp 4))⟩,
                 ⟨(some 32), none, (.mv (.tmp 5))⟩,
                 ⟨(some 33), none, (.idx 1 (.tmp 31) (.tmp 32))⟩,
                 ⟨(some 34), none, (.ld false 1 (.tmp 33))⟩,
                 ⟨(some 35), none, (.call (.func 15) [(.tmp 30), (.tmp 34)])⟩,
                 ⟨(some 36), none, (.un .not (.tmp 35))⟩])
               (.cond (.tmp 36)
                (.seq
                 (.ops [
                   ⟨(some 2), none, (.mv (.const (.bool false)))⟩])
                 .ret)
                .skip)))
             (.ops [
               ⟨(some 25), none, (.mv (.tmp 5))⟩,
               ⟨(some 26), none, (.bin .add (.tmp 25) (.const (.int .i64 1)))⟩,
               ⟨(some 5), none, (.mv (.tmp 26))⟩]))))))
        (.seq
         (.ops [
           ⟨(some 2), none, (.mv (.const (.bool true)))⟩])
         .ret))))))))
theorem f_sclaw26_FlowNext : compF Try.prog 10 = some (37, c_sclaw26_FlowNext, [(.tmp 2)]) := by kernel_rfl

/-- seedcorn/seedcornlaw26.awake -/
def c_sclaw26_awake : VC :=
 (.seq
  (.ops [
    ⟨(some 0), none, (.mv (.const (.bool false)))⟩])
  (.seq
   (.ops [
     ⟨(some 3), none, (.bsl 3 1 2 [(.int .i64 0), (.int .i64 0)] [(0, (1, (.const (.int .i64 1)))), (1, (1, (.const (.int .i64 2))))])⟩,
     ⟨(some 4), none, (.bsl 3 1 1 [(.int .i64 0)] [(0, (1, (.const (.int .i64 3))))])⟩,
     ⟨(some 5), none, (.bsl 3 1 1 [(.int .i64 0)] [(0, (1, (.const (.int .i64 3))))])⟩,
     ⟨(some 6), none, (.bsl 3 1 1 [(.int .i64 0)] [(0, (1, (.const (.int .i64 1))))])⟩,
     ⟨(some 7), none, (.bsl 3 1 2 [(.int .i64 0), (.int .i64 0)] [(0, (1, (.const (.int .i64 0)))), (1, (1, (.const (.int .i64 9))))])⟩,
     ⟨(some 8), none, (.bsl 28 1 5 [(.slice none 0 0), (.slice none 0 0), (.slice none 0 0), (.slice none 0 0), (.slice none 0 0)] [(0, (1, (.tmp 3))), (1, (1, (.tmp 4))), (2, (1, (.tmp 5))), (3, (1, (.tmp 6))), (4, (1, (.tmp 7)))])⟩,
     ⟨(some 1), none, (.mv (.tmp 8))⟩])
   (.seq
    (.ops [
      ⟨(some 9), none, (.mv (.tmp 1))⟩,
      ⟨(some 10), none, (.call (.func 13) [(.tmp 9)])⟩,
      ⟨(some 2), none, (.mv (.tmp 10))⟩])
    (.seq
     (.ops [
       ⟨(some 11), none, (.mv (.tmp 1))⟩,
       ⟨(some 12), none, (.call (.func 18) [(.tmp 11)])⟩,
       ⟨(some 13), none, (.bsl 3 1 5 [(.int .i64 0), (.int .i64 0), (.int .i64 0), (.int .i64 0), (.int .i64 0)] [(0, (1, (.const (.int .i64 (-1))))), (1, (1, (.const (.int .i64 0)))), (2, (1, (.const (.int .i64 0)))), (3, (1, (.const (.int .i64 0)))), (4, (1, (.const (.int .i64 (-1)))))])⟩,
       ⟨(some 14), none, (.call (.func 15) [(.tmp 12), (.tmp 13)])⟩,
       ⟨(some 15), none, (.mv (.tmp 14))⟩,
       ⟨(some 16), (some (15, true)), (.mv (.tmp 1))⟩,
       ⟨(some 17), (some (15, true)), (.call (.func 16) [(.tmp 16)])⟩,
       ⟨(some 18), (some (15, true)), (.bsl 3 1 4 [(.int .i64 0), (.int .i64 0), (.int .i64 0), (.int .i64 0)] [(0, (1, (.const (.int .i64 0)))), (1, (1, (.const (.int .i64 2)))), (2, (1, (.const (.int .i64 1)))), (3, (1, (.const (.int .i64 3))))])⟩,
       ⟨(some 19), (some (15, true)), (.call (.func 15) [(.tmp 17), (.tmp 18)])⟩,
       ⟨(some 20), none, (.pick (.tmp 15) (.tmp 19) (.const (.bool false)))⟩,
       ⟨(some 21), none, (.mv (.tmp 20))⟩,
       ⟨(some 22), (some (21, true)), (.mv (.tmp 2))⟩,
       ⟨(some 23), (some (21, true)), (.len (.tmp 22))⟩,
       ⟨(some 24), (some (21, true)), (.bin .eql (.tmp 23) (.const (.int .i64 5)))⟩,
       ⟨(some 25), none, (.pick (.tmp 21) (.tmp 24) (.const (.bool false)))⟩,
       ⟨(some 26), none, (.mv (.tmp 25))⟩,
       ⟨(some 27), (some (26, true)), (.mv (.tmp 2))⟩,
       ⟨(some 28), (some (26, true)), (.idx 1 (.tmp 27) (.const (.int .i64 3)))⟩,
       ⟨(some 29), (some (26, true)), (.ld false 1 (.tmp 28))⟩,
       ⟨(some 30), none, (.pick (.tmp 26) (.tmp 29) (.const (.bool false)))⟩,
       ⟨(some 31), none, (.mv (.tmp 30))⟩,
       ⟨(some 32), (some (31, true)), (.mv (.tmp 2))⟩,
       ⟨(some 33), (some (31, true)), (.idx 1 (.tmp 32) (.const (.int .i64 4)))⟩,
       ⟨(some 34), (some (31, true)), (.ld false 1 (.tmp 33))⟩,
       ⟨(some 35), (some (31, true)), (.un .not (.tmp 34))⟩,
       ⟨(some 36), none, (.pick (.tmp 31) (.tmp 35) (.const (.bool false)))⟩,
       ⟨(some 37), none, (.mv (.tmp 36))⟩,
       ⟨(some 38), (some (37, true)), (.mv (.tmp 1))⟩,
       ⟨(some 39), (some (37, true)), (.call (.func 20) [(.tmp 38), (.const (.int .i64 0)), (.const (.int .i64 3))])⟩,
       ⟨(some 40), none, (.pick (.tmp 37) (.tmp 39) (.const (.bool false)))⟩,
       ⟨(some 41), none, (.mv (.tmp 40))⟩,
       ⟨(some 42), (some (41, true)), (.mv (.tmp 1))⟩,
       ⟨(some 43), (some (41, true)), (.call (.func 20) [(.tmp 42), (.const (.int .i64 1)), (.const (.int .i64 3))])⟩,
       ⟨(some 44), (some (41, true)), (.un .not (.tmp 43))⟩,
       ⟨(some 45), none, (.pick (.tmp 41) (.tmp 44) (.const (.bool false)))⟩,
       ⟨(some 46), none, (.mv (.tmp 45))⟩,
       ⟨(some 47), (some (46, true)), (.mv (.tmp 1))⟩,
       ⟨(some 48), (some (46, true)), (.call (.func 20) [(.tmp 47), (.const (.int .i64 0)), (.const (.int .i64 4))])⟩,
       ⟨(some 49), (some (46, true)), (.un .not (.tmp 48))⟩,
       ⟨(some 50), none, (.pick (.tmp 46) (.tmp 49) (.const (.bool false)))⟩,
       ⟨(some 51), none, (.mv (.tmp 50))⟩,
       ⟨(some 52), (some (51, true)), (.call (.func 16) [(.const (.slice none 0 0))])⟩,
       ⟨(some 53), (some (51, true)), (.len (.tmp 52))⟩,
       ⟨(some 54), (some (51, true)), (.bin .eql (.tmp 53) (.const (.int .i64 0)))⟩,
       ⟨(some 55), none, (.pick (.tmp 51) (.tmp 54) (.const (.bool false)))⟩,
       ⟨(some 0), none, (.mv (.tmp 55))⟩])
     .ret))))
theorem f_sclaw26_awake : compF Try.prog 11 = some (56, c_sclaw26_awake, [(.tmp 0)]) := by kernel_rfl

/-- seedcorn/seedcornref26.Small -/
def c_scref26_Small : VC :=
 (.seq
  (.ops [
    ⟨(some 6), none, (.mv (.const (.bool false)))⟩])
  (.seq
   (.ops [
     ⟨(some 7), none, (.mv (.const (.int .i64 0)))⟩])
   (.seq
    (.seq
     (.ops [
       ⟨(some 8), none, (.mv (.const (.int .i64 0)))⟩])
     (.block 0
      (.loop
       (.seq
        (.seq
         (.ops [
           ⟨(some 9), none, (.mv (.tmp 8))⟩,
           ⟨(some 10), none, (.mv (.tmp 0))⟩,
           ⟨(some 11), none, (.len (.tmp 10))⟩,
           ⟨(some 12), none, (.bin .lss (.tmp 9) (.tmp 11))⟩,
           ⟨(some 13), none, (.mv (.tmp 12))⟩,
           ⟨(some 14), (some (13, true)), (.mv (.tmp 7))⟩,
           ⟨(some 15), (some (13, true)), (.mv (.tmp 2))⟩,
           ⟨(some 16), (some (13, true)), (.bin .leq (.tmp 14) (.tmp 15))⟩,
           ⟨(some 17), none, (.pick (.tmp 13) (.tmp 16) (.const (.bool false)))⟩])
         (.cond (.tmp 17)
          .skip
          (.exit 0)))
        (.seq
         (.block 1
          (.ops [
            ⟨(some 20), none, (.mv (.tmp 7))⟩,
            ⟨(some 21), none, (.mv (.tmp 0))⟩,
            ⟨(some 22), none, (.mv (.tmp 8))⟩,
            ⟨(some 23), none, (.idx 1 (.tmp 21) (.tmp 22))⟩,
            ⟨(some 24), none, (.ld false 1 (.tmp 23))⟩,
            ⟨(some 25), none, (.len (.tmp 24))⟩,
            ⟨(some 26), none, (.bin .add (.tmp 20) (.tmp 25))⟩,
            ⟨(some 7), none, (.mv (.tmp 26))⟩]))
         (.ops [
           ⟨(some 18), none, (.mv (.tmp 8))⟩,
           ⟨(some 19), none, (.bin .add (.tmp 18) (.const (.int .i64 1)))⟩,
           ⟨(some 8), none, (.mv (.tmp 19))⟩]))))))
    (.seq
     (.ops [
       ⟨(some 27), none, (.mv (.tmp 0))⟩,
       ⟨(some 28), none, (.len (.tmp 27))⟩,
       ⟨(some 29), none, (.mv (.tmp 1))⟩,
       ⟨(some 30), none, (.bin .leq (.tmp 28) (.tmp 29))⟩,
       ⟨(some 31), none, (.mv (.tmp 30))⟩,
       ⟨(some 32), (some (31, true)), (.mv (.tmp 7))⟩,
       ⟨(some 33), (some (31, true)), (.mv (.tmp 2))⟩,
       ⟨(some 34), (some (31, true)), (.bin .leq (.tmp 32) (.tmp 33))⟩,
       ⟨(some 35), none, (.pick (.tmp 31) (.tmp 34) (.const (.bool false)))⟩,
       ⟨(some 6), none, (.mv (.tmp 35))⟩])
     .ret))))
theorem f_scref26_Small : compF Try.prog 12 = some (36, c_scref26_Small, [(.tmp 6)]) := by kernel_rfl

/-- seedcorn/flow.Reach -/
def c_flow_Reach : VC :=
 (.seq
  (.ops [
    ⟨(some 2), none, (.mv (.const (.slice none 0 0)))⟩])
  (.seq
   (.ops [
     ⟨(some 4), none, (.mv (.tmp 0))⟩,
     ⟨(some 5), none, (.len (.tmp 4))⟩,
     ⟨(some 6), none, (.mk 4 1 1 [(.bool false)] (.tmp 5) (.tmp 5))⟩,
     ⟨(some 3), none, (.mv (.tmp 6))⟩])
   (.seq
    (.ops [
      ⟨(some 7), none, (.mv (.tmp 0))⟩,
      ⟨(some 8), none, (.mv (.tmp 3))⟩,
      ⟨(some 9), none, (.call (.func 24) [(.tmp 7), (.tmp 8), (.func 25)])⟩])
    (.seq
     (.ops [
       ⟨(some 10), none, (.mv (.tmp 3))⟩,
       ⟨(some 2), none, (.mv (.tmp 10))⟩])
     .ret))))
theorem f_flow_Reach : compF Try.prog 13 = some (11, c_flow_Reach, [(.tmp 2)]) := by kernel_rfl

/-- seedcorn/seedcornref26.Reach -/
def c_scref26_Reach : VC :=
 (.seq
  (.ops [
    ⟨(some 2), none, (.mv (.const (.slice none 0 0)))⟩])
  (.seq
   (.ops [
     ⟨(some 3), none, (.mv (.tmp 0))⟩,
     ⟨(some 4), none, (.call (.func 26) [(.tmp 3), (.const (.int .i64 (-1)))])⟩,
     ⟨(some 2), none, (.mv (.tmp 4))⟩])
   .ret))
theorem f_scref26_Reach : compF Try.prog 14 = some (5, c_scref26_Reach, [(.tmp 2)]) := by kernel_rfl

/-- seedcorn/seedcornref26.List -/
def c_scref26_List : VC :=
 (.seq
  (.ops [
    ⟨(some 4), none, (.mv (.const (.bool false)))⟩])
  (.seq
   (.seq
    (.ops [
      ⟨(some 6), none, (.mv (.tmp 0))⟩,
      ⟨(some 7), none, (.len (.tmp 6))⟩,
      ⟨(some 8), none, (.mv (.tmp 1))⟩,
      ⟨(some 9), none, (.len (.tmp 8))⟩,
      ⟨(some 10), none, (.bin .neq (.tmp 7) (.tmp 9))⟩])
    (.cond (.tmp 10)
     (.seq
      (.ops [
        ⟨(some 4), none, (.mv (.const (.bool false)))⟩])
      .ret)
     .skip))
   (.seq
    (.seq
     (.ops [
       ⟨(some 5), none, (.mv (.const (.int .i64 0)))⟩])
     (.block 0
      (.loop
       (.seq
        (.seq
         (.ops [
           ⟨(some 11), none, (.mv (.tmp 5))⟩,
           ⟨(some 12), none, (.mv (.tmp 0))⟩,
           ⟨(some 13), none, (.len (.tmp 12))⟩,
           ⟨(some 14), none, (.bin .lss (.tmp 11) (.tmp 13))⟩])
         (.cond (.tmp 14)
          .skip
          (.exit 0)))
        (.seq
         (.block 1
          (.seq
           (.ops [
             ⟨(some 17), none, (.mv (.tmp 0))⟩,
             ⟨(some 18), none, (.mv (.tmp 5))⟩,
             ⟨(some 19), none, (.idx 1 (.tmp 17) (.tmp 18))⟩,
             ⟨(some 20), none, (.ld false 1 (.tmp 19))⟩,
             ⟨(some 21), none, (.mv (.tmp 1))⟩,
             ⟨(some 22), none, (.mv (.tmp 5))⟩,
             ⟨(some 23), none, (.idx 1 (.tmp 21) (.tmp 22))⟩,
             ⟨(some 24), none, (.ld false 1 (.tmp 23))⟩,
             ⟨(some 25), none, (.bin .neq (.tmp 20) (.tmp 24))⟩])
           (.cond (.tmp 25)
            (.seq
             (.ops [
               ⟨(some 4), none, (.mv (.const (.bool false)))⟩])
             .ret)
            .skip)))
         (.ops [
           ⟨(some 15), none, (.mv (.tmp 5))⟩,
           ⟨(some 16), none, (.bin .add (.tmp 15) (.const (.int .i64 1)))⟩,
           ⟨(some 5), none, (.mv (.tmp 16))⟩]))))))
    (.seq
     (.ops [
       ⟨(some 4), none, (.mv (.const (.bool true)))⟩])
     .ret))))
theorem f_scref26_List : compF Try.prog 15 = some (26, c_scref26_List, [(.tmp 4)]) := by kernel_rfl

/-- seedcorn/flow.Order -/
def c_flow_Order : VC :=
 (.seq
  (.ops [
    ⟨(some 2), none, (.mv (.const (.slice none 0 0)))⟩])
  (.seq
   (.ops [
     ⟨(some 3), none, (.alc 28 [(.slice none 0 0)])⟩])
   (.seq
    (.ops [
      ⟨(some 6), none, (.mv (.tmp 0))⟩,
      ⟨(some 7), none, (.mv (.tmp 0))⟩,
      ⟨(some 8), none, (.len (.tmp 7))⟩,
      ⟨(some 9), none, (.mk 4 1 1 [(.bool false)] (.tmp 8) (.tmp 8))⟩,
      ⟨(some 10), none, (.mkf 27 [(.tmp 3)])⟩,
      ⟨(some 11), none, (.call (.func 24) [(.tmp 6), (.tmp 9), (.tmp 10)])⟩])
    (.seq
     (.seq
      (.ops [
        ⟨(some 12), none, (.ld false 1 (.tmp 3))⟩,
        ⟨(some 13), none, (.len (.tmp 12))⟩,
        ⟨(some 14), none, (.bin .sub (.tmp 13) (.const (.int .i64 1)))⟩,
        ⟨(some 4), none, (.mv (.const (.int .i64 0)))⟩,
        ⟨(some 5), none, (.mv (.tmp 14))⟩])
      (.block 0
       (.loop
        (.seq
         (.seq
          (.ops [
            ⟨(some 15), none, (.mv (.tmp 4))⟩,
            ⟨(some 16), none, (.mv (.tmp 5))⟩,
            ⟨(some 17), none, (.bin .lss (.tmp 15) (.tmp 16))⟩])
          (.cond (.tmp 17)
           .skip
           (.exit 0)))
         (.seq
          (.block 1
           (.par false (.one ⟨(some 22), none, (.ld false 1 (.tmp 3))⟩ (.one ⟨(some 23), none, (.mv (.tmp 4))⟩ (.one ⟨(some 25), none, (.mv (.tmp 5))⟩ (.one ⟨(some 26), none, (.ld false 1 (.tmp 3))⟩ (.one ⟨(some 27), none, (.mv (.tmp 5))⟩ (.one ⟨(some 28), none, (.idx 1 (.tmp 26) (.tmp 27))⟩ (.one ⟨(some 29), none, (.ld false 1 (.tmp 28))⟩ (.one ⟨(some 31), none, (.mv (.tmp 4))⟩ (.both (.one ⟨(some 24), none, (.ld false 1 (.tmp 3))⟩ (.one ⟨(some 30), none, (.ld false 1 (.tmp 3))⟩ (.one ⟨(some 32), none, (.idx 1 (.tmp 30) (.tmp 31))⟩ (.one ⟨(some 33), none, (.ld false 1 (.tmp 32))⟩ (.one ⟨(some 34), none, (.idx 1 (.tmp 22) (.tmp 23))⟩ (.one ⟨none, none, (.sto false 1 (.tmp 34) (.tmp 29))⟩ (.one ⟨(some 35), none, (.idx 1 (.tmp 24) (.tmp 25))⟩ (.one ⟨none, none, (.sto false 1 (.tmp 35) (.tmp 33))⟩ .done)))))))) (.one ⟨(some 30), none, (.ld false 1 (.tmp 3))⟩ (.one ⟨(some 32), none, (.idx 1 (.tmp 30) (.tmp 31))⟩ (.one ⟨(some 33), none, (.ld false 1 (.tmp 32))⟩ (.one ⟨(some 34), none, (.idx 1 (.tmp 22) (.tmp 23))⟩ (.both (.one ⟨(some 24), none, (.ld false 1 (.tmp 3))⟩ (.one ⟨none, none, (.sto false 1 (.tmp 34) (.tmp 29))⟩ (.one ⟨(some 35), none, (.idx 1 (.tmp 24) (.tmp 25))⟩ (.one ⟨none, none, (.sto false 1 (.tmp 35) (.tmp 33))⟩ .done)))) (.one ⟨none, none, (.sto false 1 (.tmp 34) (.tmp 29))⟩ (.one ⟨(some 24), none, (.ld false 1 (.tmp 3))⟩ (.one ⟨(some 35), none, (.idx 1 (.tmp 24) (.tmp 25))⟩ (.one ⟨none, none, (.sto false 1 (.tmp 35) (.tmp 33))⟩ .done))))))))))))))))))))
          (.ops [
            ⟨(some 18), none, (.mv (.tmp 4))⟩,
            ⟨(some 19), none, (.bin .add (.tmp 18) (.const (.int .i64 1)))⟩,
            ⟨(some 20), none, (.mv (.tmp 5))⟩,
            ⟨(some 21), none, (.bin .sub (.tmp 20) (.const (.int .i64 1)))⟩,
            ⟨(some 4), none, (.mv (.tmp 19))⟩,
            ⟨(some 5), none, (.mv (.tmp 21))⟩]))))))
     (.seq
      (.ops [
        ⟨(some 36), none, (.ld false 1 (.tmp 3))⟩,
        ⟨(some 2), none, (.mv (.tmp 36))⟩])
      .ret)))))
theorem f_flow_Order : compF Try.prog 16 = some (37, c_flow_Order, [(.tmp 2)]) := by kernel_rfl

/-- seedcorn/seedcornref26.Order -/
def c_scref26_Order : VC :=
 (.seq
  (.ops [
    ⟨(some 2), none, (.mv (.const (.slice none 0 0)))⟩])
  (.seq
   (.seq
    (.ops [
      ⟨(some 10), none, (.mv (.tmp 0))⟩,
      ⟨(some 11), none, (.len (.tmp 10))⟩,
      ⟨(some 12), none, (.bin .eql (.tmp 11) (.const (.int .i64 0)))⟩])
    (.cond (.tmp 12)
     (.seq
      (.ops [
        ⟨(some 2), none, (.mv (.const (.slice none 0 0)))⟩])
      .ret)
     .skip))
   (.seq
    (.ops [
      ⟨(some 13), none, (.mv (.tmp 0))⟩,
      ⟨(some 14), none, (.len (.tmp 13))⟩,
      ⟨(some 15), none, (.mk 4 1 1 [(.bool false)] (.tmp 14) (.tmp 14))⟩,
      ⟨(some 3), none, (.mv (.tmp 15))⟩])
    (.seq
     (.ops [
       ⟨(some 16), none, (.mv (.tmp 3))⟩,
       ⟨(some 17), none, (.idx 1 (.tmp 16) (.const (.int .i64 0)))⟩,
       ⟨none, none, (.sto false 1 (.tmp 17) (.const (.bool true)))⟩])
     (.seq
      (.ops [
        ⟨(some 18), none, (.bsl 3 1 1 [(.int .i64 0)] [(0, (1, (.const (.int .i64 0))))])⟩,
        ⟨(some 4), none, (.mv (.tmp 18))⟩])
      (.seq
       (.ops [
         ⟨(some 19), none, (.bsl 3 1 1 [(.int .i64 0)] [(0, (1, (.const (.int .i64 0))))])⟩,
         ⟨(some 5), none, (.mv (.tmp 19))⟩])
       (.seq
        (.ops [
          ⟨(some 6), none, (.mv (.const (.slice none 0 0)))⟩])
        (.seq
         (.block 0
          (.loop
           (.seq
            (.seq
             (.ops [
               ⟨(some 20), none, (.mv (.tmp 4))⟩,
               ⟨(some 21), none, (.len (.tmp 20))⟩,
               ⟨(some 22), none, (.bin .gtr (.tmp 21) (.const (.int .i64 0)))⟩])
             (.cond (.tmp 22)
              .skip
              (.exit 0)))
            (.block 1
             (.seq
              (.ops [
                ⟨(some 23), none, (.mv (.tmp 4))⟩,
                ⟨(some 24), none, (.len (.tmp 23))⟩,
                ⟨(some 25), none, (.bin .sub (.tmp 24) (.const (.int .i64 1)))⟩,
                ⟨(some 7), none, (.mv (.tmp 25))⟩])
              (.seq
               (.ops [
                 ⟨(some 26), none, (.mv (.tmp 4))⟩,
                 ⟨(some 27), none, (.mv (.tmp 7))⟩,
                 ⟨(some 28), none, (.idx 1 (.tmp 26) (.tmp 27))⟩,
                 ⟨(some 29), none, (.ld false 1 (.tmp 28))⟩,
                 ⟨(some 8), none, (.mv (.tmp 29))⟩])
               (.seq
                (.seq
                 (.ops [
                   ⟨(some 30), none, (.mv (.tmp 5))⟩,
                   ⟨(some 31), none, (.mv (.tmp 7))⟩,
                   ⟨(some 32), none, (.idx 1 (.tmp 30) (.tmp 31))⟩,
                   ⟨(some 33), none, (.ld false 1 (.tmp 32))⟩,
                   ⟨(some 34), none, (.mv (.tmp 0))⟩,
                   ⟨(some 35), none, (.mv (.tmp 8))⟩,
                   ⟨(some 36), none, (.idx 1 (.tmp 34) (.tmp 35))⟩,
                   ⟨(some 37), none, (.ld false 1 (.tmp 36))⟩,
                   ⟨(some 38), none, (.len (.tmp 37))⟩,
                   ⟨(some 39), none, (.bin .eql (.tmp 33) (.tmp 38))⟩])
                 (.cond (.tmp 39)
                  (.seq
                   (.ops [
                     ⟨(some 40), none, (.mv (.tmp 8))⟩,
                     ⟨(some 41), none, (.bsl 3 1 1 [(.int .i64 0)] [(0, (1, (.tmp 40)))])⟩,
                     ⟨(some 42), none, (.mv (.tmp 6))⟩,
                     ⟨(some 43), none, (.app 3 1 8 (.tmp 41) (.tmp 42))⟩,
                     ⟨(some 6), none, (.mv (.tmp 43))⟩])
                   (.seq
                    (.ops [
                      ⟨(some 44), none, (.mv (.tmp 4))⟩,
                      ⟨(some 45), none, (.mv (.tmp 7))⟩,
                      ⟨(some 46), none, (.sl 1 (.tmp 44) none (some (.tmp 45)))⟩,
                      ⟨(some 4), none, (.mv (.tmp 46))⟩])
                    (.seq
                     (.ops [
                       ⟨(some 47), none, (.mv (.tmp 5))⟩,
                       ⟨(some 48), none, (.mv (.tmp 7))⟩,
                       ⟨(some 49), none, (.sl 1 (.tmp 47) none (some (.tmp 48)))⟩,
                       ⟨(some 5), none, (.mv (.tmp 49))⟩])
                     (.exit 1))))
                  .skip))
                (.seq
                 (.ops [
                   ⟨(some 50), none, (.mv (.tmp 0))⟩,
                   ⟨(some 51), none, (.mv (.tmp 8))⟩,
                   ⟨(some 52), none, (.idx 1 (.tmp 50) (.tmp 51))⟩,
                   ⟨(some 53), none, (.ld false 1 (.tmp 52))⟩,
                   ⟨(some 54), none, (.mv (.tmp 5))⟩,
                   ⟨(some 55), none, (.mv (.tmp 7))⟩,
                   ⟨(some 56), none, (.idx 1 (.tmp 54) (.tmp 55))⟩,
                   ⟨(some 57), none, (.ld false 1 (.tmp 56))⟩,
                   ⟨(some 58), none, (.idx 1 (.tmp 53) (.tmp 57))⟩,
                   ⟨(some 59), none, (.ld false 1 (.tmp 58))⟩,
                   ⟨(some 9), none, (.mv (.tmp 59))⟩])
                 (.seq
                  (.ops [
                    ⟨(some 60), none, (.mv (.tmp 5))⟩,
                    ⟨(some 61), none, (.mv (.tmp 7))⟩,
                    ⟨(some 62), none, (.mv (.tmp 5))⟩,
                    ⟨(some 63), none, (.mv (.tmp 7))⟩,
                    ⟨(some 64), none, (.idx 1 (.tmp 62) (.tmp 63))⟩,
                    ⟨(some 65), none, (.ld false 1 (.tmp 64))⟩,
                    ⟨(some 66), none, (.bin .add (.tmp 65) (.const (.int .i64 1)))⟩,
                    ⟨(some 67), none, (.idx 1 (.tmp 60) (.tmp 61))⟩,
                    ⟨none, none, (.sto false 1 (.tmp 67) (.tmp 66))⟩])
                  (.seq
                   (.ops [
                     ⟨(some 68), none, (.mv (.tmp 9))⟩,
                     ⟨(some 69), none, (.bin .geq (.tmp 68) (.const (.int .i64 0)))⟩,
                     ⟨(some 70), none, (.mv (.tmp 69))⟩,
                     ⟨(some 71), (some (70, true)), (.mv (.tmp 9))⟩,
                     ⟨(some 72), (some (70, true)), (.mv (.tmp 0))⟩,
                     ⟨(some 73), (some (70, true)), (.len (.tmp 72))⟩,
                     ⟨(some 74), (some (70, true)), (.bin .lss (.tmp 71) (.tmp 73))⟩,
                     ⟨(some 75), none, (.pick (.tmp 70) (.tmp 74) (.const (.bool false)))⟩,
                     ⟨(some 76), none, (.mv (.tmp 75))⟩,
                     ⟨(some 77), (some (76, true)), (.mv (.tmp 3))⟩,
                     ⟨(some 78), (some (76, true)), (.mv (.tmp 9))⟩,
                     ⟨(some 79), (some (76, true)), (.idx 1 (.tmp 77) (.tmp 78))⟩,
                     ⟨(some 80), (some (76, true)), (.ld false 1 (.tmp 79))⟩,
                     ⟨(some 81), (some (76, true)), (.un .not (.tmp 80))⟩,
                     ⟨(some 82), none, (.pick (.tmp 76) (.tmp 81) (.const (.bool false)))⟩])
                   (.cond (.tmp 82)
                    (.seq
                     (.ops [
                       ⟨(some 83), none, (.mv (.tmp 3))⟩,
                       ⟨(some 84), none, (.mv (.tmp 9))⟩,
                       ⟨(some 85), none, (.idx 1 (.tmp 83) (.tmp 84))⟩,
                       ⟨none, none, (.sto false 1 (.tmp 85) (.const (.bool true)))⟩])
                     (.seq
                      (.ops [
                        ⟨(some 86), none, (.mv (.tmp 4))⟩,
                        ⟨(some 87), none, (.mv (.tmp 9))⟩,
                        ⟨(some 88), none, (.bsl 3 1 1 [(.int .i64 0)] [(0, (1, (.tmp 87)))])⟩,
                        ⟨(some 89), none, (.app 3 1 8 (.tmp 86) (.tmp 88))⟩,
                        ⟨(some 4), none, (.mv (.tmp 89))⟩])
                      (.ops [
                        ⟨(some 90), none, (.mv (.tmp 5))⟩,
                        ⟨(some 91), none, (.bsl 3 1 1 [(.int .i64 0)] [(0, (1, (.const (.int .i64 0))))])⟩,
                        ⟨(some 92), none, (.app 3 1 8 (.tmp 90) (.tmp 91))⟩,
                        ⟨(some 5), none, (.mv (.tmp 92))⟩])))
                    .skip)))))))))))
         (.seq
          (.ops [
            ⟨(some 93), none, (.mv (.tmp 6))⟩,
            ⟨(some 2), none, (.mv (.tmp 93))⟩])
          .ret)))))))))
theorem f_scref26_Order : compF Try.prog 17 = some (94, c_scref26_Order, [(.tmp 2)]) := by kernel_rfl

/-- seedcorn/flow.Above -/
def c_flow_Above : VC :=
 (.seq
  (.ops [
    ⟨(some 2), none, (.mv (.const (.slice none 0 0)))⟩])
  (.seq
   (.ops [
     ⟨(some 16), none, (.mv (.tmp 0))⟩,
     ⟨(some 17), none, (.len (.tmp 16))⟩,
     ⟨(some 18), none, (.mk 3 1 8 [(.int .i64 0)] (.tmp 17) (.tmp 17))⟩,
     ⟨(some 3), none, (.mv (.tmp 18))⟩])
   (.seq
    (.ops [
      ⟨(some 19), none, (.mv (.tmp 0))⟩,
      ⟨(some 20), none, (.len (.tmp 19))⟩,
      ⟨(some 21), none, (.mk 3 1 8 [(.int .i64 0)] (.tmp 20) (.tmp 20))⟩,
      ⟨(some 4), none, (.mv (.tmp 21))⟩])
    (.seq
     (.seq
      (.ops [
        ⟨(some 22), none, (.mv (.tmp 0))⟩,
        ⟨(some 23), none, (.len (.tmp 22))⟩,
        ⟨(some 24), none, (.mv (.const (.int .i64 0)))⟩])
      (.block 0
       (.loop
        (.seq
         (.ops [
           ⟨(some 25), none, (.bin .lss (.tmp 24) (.tmp 23))⟩])
         (.seq
          (.cond (.tmp 25)
           .skip
           (.exit 0))
          (.seq
           (.block 1
            (.seq
             (.ops [
               ⟨(some 26), none, (.mv (.tmp 24))⟩,
               ⟨(some 5), none, (.mv (.tmp 26))⟩])
             (.ops [
               ⟨(some 27), none, (.mv (.tmp 3))⟩,
               ⟨(some 28), none, (.mv (.tmp 5))⟩,
               ⟨(some 29), none, (.mv (.tmp 4))⟩,
               ⟨(some 30), none, (.mv (.tmp 5))⟩,
               ⟨(some 31), none, (.idx 1 (.tmp 27) (.tmp 28))⟩,
               ⟨none, none, (.sto false 1 (.tmp 31) (.const (.int .i64 (-1))))⟩,
               ⟨(some 32), none, (.idx 1 (.tmp 29) (.tmp 30))⟩,
               ⟨none, none, (.sto false 1 (.tmp 32) (.const (.int .i64 (-1))))⟩])))
           (.ops [
             ⟨(some 33), none, (.bin .add (.tmp 24) (.const (.int .i64 1)))⟩,
             ⟨(some 24), none, (.mv (.tmp 33))⟩])))))))
     (.seq
      (.ops [
        ⟨(some 34), none, (.mv (.tmp 0))⟩,
        ⟨(some 35), none, (.call (.func 16) [(.tmp 34)])⟩,
        ⟨(some 6), none, (.mv (.tmp 35))⟩])
      (.seq
       (.seq
        (.ops [
          ⟨(some 36), none, (.mv (.tmp 6))⟩,
          ⟨(some 37), none, (.len (.tmp 36))⟩,
          ⟨(some 38), none, (.mv (.const (.int .i64 0)))⟩])
        (.block 2
         (.loop
          (.seq
           (.ops [
             ⟨(some 39), none, (.bin .lss (.tmp 38) (.tmp 37))⟩])
           (.seq
            (.cond (.tmp 39)
             .skip
             (.exit 2))
            (.seq
             (.block 3
              (.seq
               (.ops [
                 ⟨(some 40), none, (.mv (.tmp 38))⟩,
                 ⟨(some 41), none, (.idx 1 (.tmp 36) (.tmp 38))⟩,
                 ⟨(some 42), none, (.ld false 1 (.tmp 41))⟩,
                 ⟨(some 7), none, (.mv (.tmp 40))⟩,
                 ⟨(some 8), none, (.mv (.tmp 42))⟩])
               (.ops [
                 ⟨(some 43), none, (.mv (.tmp 4))⟩,
                 ⟨(some 44), none, (.mv (.tmp 8))⟩,
                 ⟨(some 45), none, (.mv (.tmp 7))⟩,
                 ⟨(some 46), none, (.idx 1 (.tmp 43) (.tmp 44))⟩,
                 ⟨none, none, (.sto false 1 (.tmp 46) (.tmp 45))⟩])))
             (.ops [
               ⟨(some 47), none, (.bin .add (.tmp 38) (.const (.int .i64 1)))⟩,
               ⟨(some 38), none, (.mv (.tmp 47))⟩])))))))
       (.seq
        (.ops [
          ⟨(some 48), none, (.mv (.tmp 0))⟩,
          ⟨(some 49), none, (.mv (.tmp 4))⟩,
          ⟨(some 50), none, (.call (.func 28) [(.tmp 48), (.tmp 49)])⟩,
          ⟨(some 9), none, (.mv (.tmp 50))⟩])
        (.seq
         (.seq
          (.ops [
            ⟨(some 51), none, (.mv (.tmp 6))⟩,
            ⟨(some 52), none, (.len (.tmp 51))⟩,
            ⟨(some 53), none, (.bin .gtr (.tmp 52) (.const (.int .i64 0)))⟩,
            ⟨(some 10), none, (.mv (.tmp 53))⟩])
          (.block 4
           (.loop
            (.seq
             (.seq
              (.ops [
                ⟨(some 54), none, (.mv (.tmp 10))⟩])
              (.cond (.tmp 54)
               .skip
               (.exit 4)))
             (.block 5
              (.seq
               (.ops [
                 ⟨(some 10), none, (.mv (.const (.bool false)))⟩])
               (.seq
                (.ops [
                  ⟨(some 55), none, (.mv (.tmp 6))⟩,
                  ⟨(some 56), none, (.sl 1 (.tmp 55) (some (.const (.int .i64 1))) none)⟩,
                  ⟨(some 57), none, (.len (.tmp 56))⟩,
                  ⟨(some 58), none, (.mv (.const (.int .i64 0)))⟩])
                (.block 6
                 (.loop
                  (.seq
                   (.ops [
                     ⟨(some 59), none, (.bin .lss (.tmp 58) (.tmp 57))⟩])
                   (.seq
                    (.cond (.tmp 59)
                     .skip
                     (.exit 6))
                    (.seq
                     (.block 7
                      (.seq
                       (.ops [
                         ⟨(some 60), none, (.idx 1 (.tmp 56) (.tmp 58))⟩,
                         ⟨(some 61), none, (.ld false 1 (.tmp 60))⟩,
                         ⟨(some 12), none, (.mv (.tmp 61))⟩])
                       (.seq
                        (.ops [
                          ⟨(some 13), none, (.mv (.const (.int .i64 (-1))))⟩])
                        (.seq
                         (.seq
                          (.ops [
                            ⟨(some 62), none, (.mv (.tmp 9))⟩,
                            ⟨(some 63), none, (.mv (.tmp 12))⟩,
                            ⟨(some 64), none, (.idx 1 (.tmp 62) (.tmp 63))⟩,
                            ⟨(some 65), none, (.ld false 1 (.tmp 64))⟩,
                            ⟨(some 66), none, (.len (.tmp 65))⟩,
                            ⟨(some 67), none, (.mv (.const (.int .i64 0)))⟩])
                          (.block 8
                           (.loop
                            (.seq
                             (.ops [
                               ⟨(some 68), none, (.bin .lss (.tmp 67) (.tmp 66))⟩])
                             (.seq
                              (.cond (.tmp 68)
                               .skip
                               (.exit 8))
                              (.seq
                               (.block 9
                                (.seq
                                 (.ops [
                                   ⟨(some 69), none, (.idx 1 (.tmp 65) (.tmp 67))⟩,
                                   ⟨(some 70), none, (.ld false 1 (.tmp 69))⟩,
                                   ⟨(some 15), none, (.mv (.tmp 70))⟩])
                                 (.block 10
                                  (.seq
                                   (.ops [
                                     ⟨(some 77), none, (.mv (.tmp 15))⟩,
                                     ⟨(some 78), none, (.bin .neq (.tmp 77) (.const (.int .i64 0)))⟩,
                                     ⟨(some 79), none, (.mv (.tmp 78))⟩,
                                     ⟨(some 80), (some (79, true)), (.mv (.tmp 3))⟩,
                                     ⟨(some 81), (some (79, true)), (.mv (.tmp 15))⟩,
                                     ⟨(some 82), (some (79, true)), (.idx 1 (.tmp 80) (.tmp 81))⟩,
                                     ⟨(some 83), (some (79, true)), (.ld false 1 (.tmp 82))⟩,
                                     ⟨(some 84), (some (79, true)), (.bin .eql (.tmp 83) (.const (.int .i64 (-1))))⟩,
                                     ⟨(some 85), none, (.pick (.tmp 79) (.tmp 84) (.const (.bool false)))⟩,
                                     ⟨(some 76), none, (.mv (.tmp 85))⟩])
                                   (.cond (.tmp 76)
                                    .skip
                                    (.seq
                                     (.ops [
                                       ⟨(some 87), none, (.mv (.tmp 13))⟩,
                                       ⟨(some 88), none, (.bin .eql (.tmp 87) (.const (.int .i64 (-1))))⟩,
                                       ⟨(some 86), none, (.mv (.tmp 88))⟩])
                                     (.cond (.tmp 86)
                                      (.ops [
                                        ⟨(some 89), none, (.mv (.tmp 15))⟩,
                                        ⟨(some 13), none, (.mv (.tmp 89))⟩])
                                      (.ops [
                                        ⟨(some 71), none, (.mv (.tmp 3))⟩,
                                        ⟨(some 72), none, (.mv (.tmp 4))⟩,
                                        ⟨(some 73), none, (.mv (.tmp 13))⟩,
                                        ⟨(some 74), none, (.mv (.tmp 15))⟩,
                                        ⟨(some 75), none, (.call (.func 29) [(.tmp 71), (.tmp 72), (.tmp 73), (.tmp 74)])⟩,
                                        ⟨(some 13), none, (.mv (.tmp 75))⟩]))))))))
                               (.ops [
                                 ⟨(some 90), none, (.bin .add (.tmp 67) (.const (.int .i64 1)))⟩,
                                 ⟨(some 67), none, (.mv (.tmp 90))⟩])))))))
                         (.seq
                          (.ops [
                            ⟨(some 91), none, (.mv (.tmp 3))⟩,
                            ⟨(some 92), none, (.mv (.tmp 12))⟩,
                            ⟨(some 93), none, (.idx 1 (.tmp 91) (.tmp 92))⟩,
                            ⟨(some 94), none, (.ld false 1 (.tmp 93))⟩,
                            ⟨(some 95), none, (.mv (.tmp 13))⟩,
                            ⟨(some 96), none, (.bin .neq (.tmp 94) (.tmp 95))⟩])
                          (.cond (.tmp 96)
                           (.seq
                            (.ops [
                              ⟨(some 97), none, (.mv (.tmp 3))⟩,
                              ⟨(some 98), none, (.mv (.tmp 12))⟩,
                              ⟨(some 99), none, (.mv (.tmp 13))⟩,
                              ⟨(some 100), none, (.idx 1 (.tmp 97) (.tmp 98))⟩,
                              ⟨none, none, (.sto false 1 (.tmp 100) (.tmp 99))⟩])
                            (.ops [
                              ⟨(some 10), none, (.mv (.const (.bool true)))⟩]))
                           .skip))))))
                     (.ops [
                       ⟨(some 101), none, (.bin .add (.tmp 58) (.const (.int .i64 1)))⟩,
                       ⟨(some 58), none, (.mv (.tmp 101))⟩])))))))))))))
         (.seq
          (.ops [
            ⟨(some 102), none, (.mv (.tmp 3))⟩,
            ⟨(some 2), none, (.mv (.tmp 102))⟩])
          .ret)))))))))
theorem f_flow_Above : compF Try.prog 18 = some (103, c_flow_Above, [(.tmp 2)]) := by kernel_rfl

/-- seedcorn/seedcornref26.Above -/
def c_scref26_Above : VC :=
 (.seq
  (.ops [
    ⟨(some 2), none, (.mv (.const (.slice none 0 0)))⟩])
  (.seq
   (.ops [
     ⟨(some 13), none, (.mv (.tmp 0))⟩,
     ⟨(some 14), none, (.call (.func 14) [(.tmp 13)])⟩,
     ⟨(some 3), none, (.mv (.tmp 14))⟩])
   (.seq
    (.ops [
      ⟨(some 4), none, (.mv (.const (.slice none 0 0)))⟩])
    (.seq
     (.seq
      (.ops [
        ⟨(some 5), none, (.mv (.const (.int .i64 0)))⟩])
      (.block 0
       (.loop
        (.seq
         (.seq
          (.ops [
            ⟨(some 15), none, (.mv (.tmp 5))⟩,
            ⟨(some 16), none, (.mv (.tmp 0))⟩,
            ⟨(some 17), none, (.len (.tmp 16))⟩,
            ⟨(some 18), none, (.bin .lss (.tmp 15) (.tmp 17))⟩])
          (.cond (.tmp 18)
           .skip
           (.exit 0)))
         (.seq
          (.block 1
           (.seq
            (.ops [
              ⟨(some 21), none, (.mv (.tmp 0))⟩,
              ⟨(some 22), none, (.mv (.tmp 5))⟩,
              ⟨(some 23), none, (.call (.func 26) [(.tmp 21), (.tmp 22)])⟩,
              ⟨(some 6), none, (.mv (.tmp 23))⟩])
            (.seq
             (.ops [
               ⟨(some 7), none, (.mv (.const (.slice none 0 0)))⟩])
             (.seq
              (.seq
               (.ops [
                 ⟨(some 8), none, (.mv (.const (.int .i64 0)))⟩])
               (.block 2
                (.loop
                 (.seq
                  (.seq
                   (.ops [
                     ⟨(some 24), none, (.mv (.tmp 8))⟩,
                     ⟨(some 25), none, (.mv (.tmp 0))⟩,
                     ⟨(some 26), none, (.len (.tmp 25))⟩,
                     ⟨(some 27), none, (.bin .lss (.tmp 24) (.tmp 26))⟩])
                   (.cond (.tmp 27)
                    .skip
                    (.exit 2)))
                  (.seq
                   (.block 3
                    (.ops [
                      ⟨(some 30), none, (.mv (.tmp 7))⟩,
                      ⟨(some 31), none, (.mv (.tmp 3))⟩,
                      ⟨(some 32), none, (.mv (.tmp 8))⟩,
                      ⟨(some 33), none, (.idx 1 (.tmp 31) (.tmp 32))⟩,
                      ⟨(some 34), none, (.ld false 1 (.tmp 33))⟩,
                      ⟨(some 35), none, (.mv (.tmp 34))⟩,
                      ⟨(some 36), (some (35, true)), (.mv (.tmp 5))⟩,
                      ⟨(some 37), (some (35, true)), (.mv (.tmp 8))⟩,
                      ⟨(some 38), (some (35, true)), (.bin .eql (.tmp 36) (.tmp 37))⟩,
                      ⟨(some 39), (some (35, true)), (.mv (.tmp 38))⟩,
                      ⟨(some 40), (some (39, false)), (.mv (.tmp 6))⟩,
                      ⟨(some 41), (some (39, false)), (.mv (.tmp 8))⟩,
                      ⟨(some 42), (some (39, false)), (.idx 1 (.tmp 40) (.tmp 41))⟩,
                      ⟨(some 43), (some (39, false)), (.ld false 1 (.tmp 42))⟩,
                      ⟨(some 44), (some (39, false)), (.un .not (.tmp 43))⟩,
                      ⟨(some 45), (some (35, true)), (.pick (.tmp 39) (.const (.bool true)) (.tmp 44))⟩,
                      ⟨(some 46), none, (.pick (.tmp 35) (.tmp 45) (.const (.bool false)))⟩,
                      ⟨(some 47), none, (.bsl 4 1 1 [(.bool false)] [(0, (1, (.tmp 46)))])⟩,
                      ⟨(some 48), none, (.app 4 1 1 (.tmp 30) (.tmp 47))⟩,
                      ⟨(some 7), none, (.mv (.tmp 48))⟩]))
                   (.ops [
                     ⟨(some 28), none, (.mv (.tmp 8))⟩,
                     ⟨(some 29), none, (.bin .add (.tmp 28) (.const (.int .i64 1)))⟩,
                     ⟨(some 8), none, (.mv (.tmp 29))⟩]))))))
              (.ops [
                ⟨(some 49), none, (.mv (.tmp 4))⟩,
                ⟨(some 50), none, (.mv (.tmp 7))⟩,
                ⟨(some 51), none, (.bsl 25 1 1 [(.slice none 0 0)] [(0, (1, (.tmp 50)))])⟩,
                ⟨(some 52), none, (.app 25 1 24 (.tmp 49) (.tmp 51))⟩,
                ⟨(some 4), none, (.mv (.tmp 52))⟩])))))
          (.ops [
            ⟨(some 19), none, (.mv (.tmp 5))⟩,
            ⟨(some 20), none, (.bin .add (.tmp 19) (.const (.int .i64 1)))⟩,
            ⟨(some 5), none, (.mv (.tmp 20))⟩]))))))
     (.seq
      (.ops [
        ⟨(some 9), none, (.mv (.const (.slice none 0 0)))⟩])
      (.seq
       (.seq
        (.ops [
          ⟨(some 10), none, (.mv (.const (.int .i64 0)))⟩])
        (.block 4
         (.loop
          (.seq
           (.seq
            (.ops [
              ⟨(some 53), none, (.mv (.tmp 10))⟩,
              ⟨(some 54), none, (.mv (.tmp 0))⟩,
              ⟨(some 55), none, (.len (.tmp 54))⟩,
              ⟨(some 56), none, (.bin .lss (.tmp 53) (.tmp 55))⟩])
            (.cond (.tmp 56)
             .skip
             (.exit 4)))
           (.seq
            (.block 5
             (.seq
              (.ops [
                ⟨(some 11), none, (.mv (.const (.int .i64 (-1))))⟩])
              (.seq
               (.seq
                (.ops [
                  ⟨(some 12), none, (.mv (.const (.int .i64 0)))⟩])
                (.block 6
                 (.loop
                  (.seq
                   (.seq
                    (.ops [
                      ⟨(some 59), none, (.mv (.tmp 12))⟩,
                      ⟨(some 60), none, (.mv (.tmp 0))⟩,
                      ⟨(some 61), none, (.len (.tmp 60))⟩,
                      ⟨(some 62), none, (.bin .lss (.tmp 59) (.tmp 61))⟩])
                    (.cond (.tmp 62)
                     .skip
                     (.exit 6)))
                   (.seq
                    (.block 7
                     (.seq
                      (.ops [
                        ⟨(some 65), none, (.mv (.tmp 12))⟩,
                        ⟨(some 66), none, (.mv (.tmp 10))⟩,
                        ⟨(some 67), none, (.bin .neq (.tmp 65) (.tmp 66))⟩,
                        ⟨(some 68), none, (.mv (.tmp 67))⟩,
                        ⟨(some 69), (some (68, true)), (.mv (.tmp 4))⟩,
                        ⟨(some 70), (some (68, true)), (.mv (.tmp 12))⟩,
                        ⟨(some 71), (some (68, true)), (.idx 1 (.tmp 69) (.tmp 70))⟩,
                        ⟨(some 72), (some (68, true)), (.ld false 1 (.tmp 71))⟩,
                        ⟨(some 73), (some (68, true)), (.mv (.tmp 10))⟩,
                        ⟨(some 74), (some (68, true)), (.idx 1 (.tmp 72) (.tmp 73))⟩,
                        ⟨(some 75), (some (68, true)), (.ld false 1 (.tmp 74))⟩,
                        ⟨(some 76), none, (.pick (.tmp 68) (.tmp 75) (.const (.bool false)))⟩,
                        ⟨(some 77), none, (.mv (.tmp 76))⟩,
                        ⟨(some 78), (some (77, true)), (.mv (.tmp 11))⟩,
                        ⟨(some 79), (some (77, true)), (.bin .lss (.tmp 78) (.const (.int .i64 0)))⟩,
                        ⟨(some 80), (some (77, true)), (.mv (.tmp 79))⟩,
                        ⟨(some 81), (some (80, false)), (.mv (.tmp 4))⟩,
                        ⟨(some 82), (some (80, false)), (.mv (.tmp 11))⟩,
                        ⟨(some 83), (some (80, false)), (.idx 1 (.tmp 81) (.tmp 82))⟩,
                        ⟨(some 84), (some (80, false)), (.ld false 1 (.tmp 83))⟩,
                        ⟨(some 85), (some (80, false)), (.mv (.tmp 12))⟩,
                        ⟨(some 86), (some (80, false)), (.idx 1 (.tmp 84) (.tmp 85))⟩,
                        ⟨(some 87), (some (80, false)), (.ld false 1 (.tmp 86))⟩,
                        ⟨(some 88), (some (77, true)), (.pick (.tmp 80) (.const (.bool true)) (.tmp 87))⟩,
                        ⟨(some 89), none, (.pick (.tmp 77) (.tmp 88) (.const (.bool false)))⟩])
                      (.cond (.tmp 89)
                       (.ops [
                         ⟨(some 90), none, (.mv (.tmp 12))⟩,
                         ⟨(some 11), none, (.mv (.tmp 90))⟩])
                       .skip)))
                    (.ops [
                      ⟨(some 63), none, (.mv (.tmp 12))⟩,
                      ⟨(some 64), none, (.bin .add (.tmp 63) (.const (.int .i64 1)))⟩,
                      ⟨(some 12), none, (.mv (.tmp 64))⟩]))))))
               (.ops [
                 ⟨(some 91), none, (.mv (.tmp 9))⟩,
                 ⟨(some 92), none, (.mv (.tmp 11))⟩,
                 ⟨(some 93), none, (.bsl 3 1 1 [(.int .i64 0)] [(0, (1, (.tmp 92)))])⟩,
                 ⟨(some 94), none, (.app 3 1 8 (.tmp 91) (.tmp 93))⟩,
                 ⟨(some 9), none, (.mv (.tmp 94))⟩]))))
            (.ops [
              ⟨(some 57), none, (.mv (.tmp 10))⟩,
              ⟨(some 58), none, (.bin .add (.tmp 57) (.const (.int .i64 1)))⟩,
              ⟨(some 10), none, (.mv (.tmp 58))⟩]))))))
       (.seq
        (.ops [
          ⟨(some 95), none, (.mv (.tmp 9))⟩,
          ⟨(some 2), none, (.mv (.tmp 95))⟩])
        .ret)))))))
theorem f_scref26_Above : compF Try.prog 19 = some (96, c_scref26_Above, [(.tmp 2)]) := by kernel_rfl

/-- seedcorn/flow.Must -/
def c_flow_Must : VC :=
 (.seq
  (.ops [
    ⟨(some 6), none, (.mv (.const (.bool false)))⟩])
  (.seq
   (.ops [
     ⟨(some 9), none, (.mv (.tmp 0))⟩,
     ⟨(some 10), none, (.len (.tmp 9))⟩,
     ⟨(some 7), none, (.mv (.tmp 10))⟩])
   (.seq
    (.seq
     (.ops [
       ⟨(some 11), none, (.mv (.tmp 1))⟩,
       ⟨(some 12), none, (.bin .lss (.tmp 11) (.const (.int .i64 0)))⟩,
       ⟨(some 13), none, (.mv (.tmp 12))⟩,
       ⟨(some 14), (some (13, false)), (.mv (.tmp 1))⟩,
       ⟨(some 15), (some (13, false)), (.mv (.tmp 7))⟩,
       ⟨(some 16), (some (13, false)), (.bin .geq (.tmp 14) (.tmp 15))⟩,
       ⟨(some 17), none, (.pick (.tmp 13) (.const (.bool true)) (.tmp 16))⟩,
       ⟨(some 18), none, (.mv (.tmp 17))⟩,
       ⟨(some 19), (some (18, false)), (.mv (.tmp 2))⟩,
       ⟨(some 20), (some (18, false)), (.bin .lss (.tmp 19) (.const (.int .i64 0)))⟩,
       ⟨(some 21), none, (.pick (.tmp 18) (.const (.bool true)) (.tmp 20))⟩,
       ⟨(some 22), none, (.mv (.tmp 21))⟩,
       ⟨(some 23), (some (22, false)), (.mv (.tmp 2))⟩,
       ⟨(some 24), (some (22, false)), (.mv (.tmp 7))⟩,
       ⟨(some 25), (some (22, false)), (.bin .geq (.tmp 23) (.tmp 24))⟩,
       ⟨(some 26), none, (.pick (.tmp 22) (.const (.bool true)) (.tmp 25))⟩,
       ⟨(some 27), none, (.mv (.tmp 26))⟩,
       ⟨(some 28), (some (27, false)), (.mv (.tmp 0))⟩,
       ⟨(some 29), (some (27, false)), (.call (.func 13) [(.tmp 28)])⟩,
       ⟨(some 30), (some (27, false)), (.mv (.tmp 2))⟩,
       ⟨(some 31), (some (27, false)), (.idx 1 (.tmp 29) (.tmp 30))⟩,
       ⟨(some 32), (some (27, false)), (.ld false 1 (.tmp 31))⟩,
       ⟨(some 33), (some (27, false)), (.un .not (.tmp 32))⟩,
       ⟨(some 34), none, (.pick (.tmp 27) (.const (.bool true)) (.tmp 33))⟩])
     (.cond (.tmp 34)
      (.seq
       (.ops [
         ⟨(some 6), none, (.mv (.const (.bool false)))⟩])
       .ret)
      .skip))
    (.seq
     (.seq
      (.ops [
        ⟨(some 35), none, (.mv (.tmp 1))⟩,
        ⟨(some 36), none, (.mv (.tmp 2))⟩,
        ⟨(some 37), none, (.bin .eql (.tmp 35) (.tmp 36))⟩])
      (.cond (.tmp 37)
       (.seq
        (.ops [
          ⟨(some 6), none, (.mv (.const (.bool true)))⟩])
        .ret)
       .skip))
     (.seq
      (.ops [
        ⟨(some 38), none, (.mv (.tmp 7))⟩,
        ⟨(some 39), none, (.mk 4 1 1 [(.bool false)] (.tmp 38) (.tmp 38))⟩,
        ⟨(some 8), none, (.mv (.tmp 39))⟩])
      (.seq
       (.ops [
         ⟨(some 40), none, (.mv (.tmp 8))⟩,
         ⟨(some 41), none, (.mv (.tmp 1))⟩,
         ⟨(some 42), none, (.idx 1 (.tmp 40) (.tmp 41))⟩,
         ⟨none, none, (.sto false 1 (.tmp 42) (.const (.bool true)))⟩])
       (.seq
        (.ops [
          ⟨(some 43), none, (.mv (.tmp 0))⟩,
          ⟨(some 44), none, (.mv (.tmp 8))⟩,
          ⟨(some 45), none, (.call (.func 24) [(.tmp 43), (.tmp 44), (.func 30)])⟩])
        (.seq
         (.ops [
           ⟨(some 46), none, (.mv (.tmp 8))⟩,
           ⟨(some 47), none, (.mv (.tmp 2))⟩,
           ⟨(some 48), none, (.idx 1 (.tmp 46) (.tmp 47))⟩,
           ⟨(some 49), none, (.ld false 1 (.tmp 48))⟩,
           ⟨(some 50), none, (.un .not (.tmp 49))⟩,
           ⟨(some 6), none, (.mv (.tmp 50))⟩])
         .ret))))))))
theorem f_flow_Must : compF Try.prog 20 = some (51, c_flow_Must, [(.tmp 6)]) := by kernel_rfl

/-- seedcorn/seedcornref26.Must -/
def c_scref26_Must : VC :=
 (.seq
  (.ops [
    ⟨(some 6), none, (.mv (.const (.bool false)))⟩])
  (.seq
   (.seq
    (.ops [
      ⟨(some 7), none, (.mv (.tmp 1))⟩,
      ⟨(some 8), none, (.bin .lss (.tmp 7) (.const (.int .i64 0)))⟩,
      ⟨(some 9), none, (.mv (.tmp 8))⟩,
      ⟨(some 10), (some (9, false)), (.mv (.tmp 1))⟩,
      ⟨(some 11), (some (9, false)), (.mv (.tmp 0))⟩,
      ⟨(some 12), (some (9, false)), (.len (.tmp 11))⟩,
      ⟨(some 13), (some (9, false)), (.bin .geq (.tmp 10) (.tmp 12))⟩,
      ⟨(some 14), none, (.pick (.tmp 9) (.const (.bool true)) (.tmp 13))⟩,
      ⟨(some 15), none, (.mv (.tmp 14))⟩,
      ⟨(some 16), (some (15, false)), (.mv (.tmp 2))⟩,
      ⟨(some 17), (some (15, false)), (.bin .lss (.tmp 16) (.const (.int .i64 0)))⟩,
      ⟨(some 18), none, (.pick (.tmp 15) (.const (.bool true)) (.tmp 17))⟩,
      ⟨(some 19), none, (.mv (.tmp 18))⟩,
      ⟨(some 20), (some (19, false)), (.mv (.tmp 2))⟩,
      ⟨(some 21), (some (19, false)), (.mv (.tmp 0))⟩,
      ⟨(some 22), (some (19, false)), (.len (.tmp 21))⟩,
      ⟨(some 23), (some (19, false)), (.bin .geq (.tmp 20) (.tmp 22))⟩,
      ⟨(some 24), none, (.pick (.tmp 19) (.const (.bool true)) (.tmp 23))⟩,
      ⟨(some 25), none, (.mv (.tmp 24))⟩,
      ⟨(some 26), (some (25, false)), (.mv (.tmp 0))⟩,
      ⟨(some 27), (some (25, false)), (.call (.func 14) [(.tmp 26)])⟩,
      ⟨(some 28), (some (25, false)), (.mv (.tmp 2))⟩,
      ⟨(some 29), (some (25, false)), (.idx 1 (.tmp 27) (.tmp 28))⟩,
      ⟨(some 30), (some (25, false)), (.ld false 1 (.tmp 29))⟩,
      ⟨(some 31), (some (25, false)), (.un .not (.tmp 30))⟩,
      ⟨(some 32), none, (.pick (.tmp 25) (.const (.bool true)) (.tmp 31))⟩])
    (.cond (.tmp 32)
     (.seq
      (.ops [
        ⟨(some 6), none, (.mv (.const (.bool false)))⟩])
      .ret)
     .skip))
   (.seq
    (.ops [
      ⟨(some 33), none, (.mv (.tmp 1))⟩,
      ⟨(some 34), none, (.mv (.tmp 2))⟩,
      ⟨(some 35), none, (.bin .eql (.tmp 33) (.tmp 34))⟩,
      ⟨(some 36), none, (.mv (.tmp 35))⟩,
      ⟨(some 37), (some (36, false)), (.mv (.tmp 0))⟩,
      ⟨(some 38), (some (36, false)), (.mv (.tmp 1))⟩,
      ⟨(some 39), (some (36, false)), (.call (.func 26) [(.tmp 37), (.tmp 38)])⟩,
      ⟨(some 40), (some (36, false)), (.mv (.tmp 2))⟩,
      ⟨(some 41), (some (36, false)), (.idx 1 (.tmp 39) (.tmp 40))⟩,
      ⟨(some 42), (some (36, false)), (.ld false 1 (.tmp 41))⟩,
      ⟨(some 43), (some (36, false)), (.un .not (.tmp 42))⟩,
      ⟨(some 44), none, (.pick (.tmp 36) (.const (.bool true)) (.tmp 43))⟩,
      ⟨(some 6), none, (.mv (.tmp 44))⟩])
    .ret)))
theorem f_scref26_Must : compF Try.prog 21 = some (45, c_scref26_Must, [(.tmp 6)]) := by kernel_rfl

/-- seedcorn/flow.Next -/
def c_flow_Next : VC :=
 (.seq
  (.ops [
    ⟨(some 1), none, (.box 38 (.tmp 0))⟩,
    ⟨(some 2), none, (.mv (.const (.slice none 0 0)))⟩])
  (.seq
   (.ops [
     ⟨(some 6), none, (.fad 1 false 1 (.tmp 1))⟩,
     ⟨(some 7), none, (.ld false 1 (.tmp 6))⟩,
     ⟨(some 8), none, (.len (.tmp 7))⟩,
     ⟨(some 9), none, (.mk 28 1 24 [(.slice none 0 0)] (.tmp 8) (.tmp 8))⟩,
     ⟨(some 3), none, (.mv (.tmp 9))⟩])
   (.seq
    (.seq
     (.ops [
       ⟨(some 10), none, (.fad 1 false 1 (.tmp 1))⟩,
       ⟨(some 11), none, (.ld false 1 (.tmp 10))⟩,
       ⟨(some 12), none, (.len (.tmp 11))⟩,
       ⟨(some 13), none, (.mv (.const (.int .i64 0)))⟩])
     (.block 0
      (.loop
       (.seq
        (.ops [
          ⟨(some 14), none, (.bin .lss (.tmp 13) (.tmp 12))⟩])
        (.seq
         (.cond (.tmp 14)
          .skip
          (.exit 0))
         (.seq
          (.block 1
           (.seq
            (.ops [
              ⟨(some 15), none, (.mv (.tmp 13))⟩,
              ⟨(some 16), none, (.idx 5 (.tmp 11) (.tmp 13))⟩,
              ⟨(some 17), none, (.ld true 5 (.tmp 16))⟩,
              ⟨(some 5), none, (.alc 49 [(.slice none 0 0), (.int .i64 0), (.int .i64 0), (.int .i64 0), (.int .i64 0)])⟩,
              ⟨(some 4), none, (.mv (.tmp 15))⟩,
              ⟨none, none, (.sto true 5 (.tmp 5) (.tmp 17))⟩])
            (.seq
             (.ops [
               ⟨(some 18), none, (.fad 1 false 1 (.tmp 5))⟩,
               ⟨(some 19), none, (.ld false 1 (.tmp 18))⟩])
             (.block 2
              (.seq
               (.ops [
                 ⟨(some 21), none, (.bin .eql (.tmp 19) (.const (.int .i64 1)))⟩,
                 ⟨(some 20), none, (.mv (.tmp 21))⟩])
               (.cond (.tmp 20)
                (.ops [
                  ⟨(some 22), none, (.mv (.tmp 3))⟩,
                  ⟨(some 23), none, (.mv (.tmp 4))⟩,
                  ⟨(some 24), none, (.fad 3 false 1 (.tmp 5))⟩,
                  ⟨(some 25), none, (.ld false 1 (.tmp 24))⟩,
                  ⟨(some 26), none, (.bsl 3 1 1 [(.int .i64 0)] [(0, (1, (.tmp 25)))])⟩,
                  ⟨(some 27), none, (.idx 1 (.tmp 22) (.tmp 23))⟩,
                  ⟨none, none, (.sto false 1 (.tmp 27) (.tmp 26))⟩])
                (.seq
                 (.ops [
                   ⟨(some 29), none, (.bin .eql (.tmp 19) (.const (.int .i64 2)))⟩,
                   ⟨(some 28), none, (.mv (.tmp 29))⟩])
                 (.cond (.tmp 28)
                  (.ops [
                    ⟨(some 30), none, (.mv (.tmp 3))⟩,
                    ⟨(some 31), none, (.mv (.tmp 4))⟩,
                    ⟨(some 32), none, (.fad 3 false 1 (.tmp 5))⟩,
                    ⟨(some 33), none, (.ld false 1 (.tmp 32))⟩,
                    ⟨(some 34), none, (.fad 4 false 1 (.tmp 5))⟩,
                    ⟨(some 35), none, (.ld false 1 (.tmp 34))⟩,
                    ⟨(some 36), none, (.bsl 3 1 2 [(.int .i64 0), (.int .i64 0)] [(0, (1, (.tmp 33))), (1, (1, (.tmp 35)))])⟩,
                    ⟨(some 37), none, (.idx 1 (.tmp 30) (.tmp 31))⟩,
                    ⟨none, none, (.sto false 1 (.tmp 37) (.tmp 36))⟩])
                  .skip))))))))
          (.ops [
            ⟨(some 38), none, (.bin .add (.tmp 13) (.const (.int .i64 1)))⟩,
            ⟨(some 13), none, (.mv (.tmp 38))⟩])))))))
    (.seq
     (.ops [
       ⟨(some 39), none, (.mv (.tmp 3))⟩,
       ⟨(some 2), none, (.mv (.tmp 39))⟩])
     .ret))))
theorem f_flow_Next : compF Try.prog 22 = some (40, c_flow_Next, [(.tmp 2)]) := by kernel_rfl

/-- seedcorn/seedcornref26.Next -/
def c_scref26_Next : VC :=
 (.seq
  (.ops [
    ⟨(some 1), none, (.box 38 (.tmp 0))⟩,
    ⟨(some 2), none, (.mv (.const (.slice none 0 0)))⟩])
  (.seq
   (.ops [
     ⟨(some 6), none, (.fad 1 false 1 (.tmp 1))⟩,
     ⟨(some 7), none, (.ld false 1 (.tmp 6))⟩,
     ⟨(some 8), none, (.len (.tmp 7))⟩,
     ⟨(some 9), none, (.mk 28 1 24 [(.slice none 0 0)] (.tmp 8) (.tmp 8))⟩,
     ⟨(some 3), none, (.mv (.tmp 9))⟩])
   (.seq
    (.seq
     (.ops [
       ⟨(some 4), none, (.mv (.const (.int .i64 0)))⟩])
     (.block 0
      (.loop
       (.seq
        (.seq
         (.ops [
           ⟨(some 10), none, (.mv (.tmp 4))⟩,
           ⟨(some 11), none, (.fad 1 false 1 (.tmp 1))⟩,
           ⟨(some 12), none, (.ld false 1 (.tmp 11))⟩,
           ⟨(some 13), none, (.len (.tmp 12))⟩,
           ⟨(some 14), none, (.bin .lss (.tmp 10) (.tmp 13))⟩])
         (.cond (.tmp 14)
          .skip
          (.exit 0)))
        (.seq
         (.block 1
          (.seq
           (.ops [
             ⟨(some 17), none, (.fad 1 false 1 (.tmp 1))⟩,
             ⟨(some 18), none, (.ld false 1 (.tmp 17))⟩,
             ⟨(some 19), none, (.mv (.tmp 4))⟩,
             ⟨(some 20), none, (.idx 5 (.tmp 18) (.tmp 19))⟩,
             ⟨(some 21), none, (.ld true 5 (.tmp 20))⟩,
             ⟨(some 5), none, (.alc 49 [(.slice none 0 0), (.int .i64 0), (.int .i64 0), (.int .i64 0), (.int .i64 0)])⟩,
             ⟨none, none, (.sto true 5 (.tmp 5) (.tmp 21))⟩])
           (.seq
            (.seq
             (.ops [
               ⟨(some 22), none, (.fad 1 false 1 (.tmp 5))⟩,
               ⟨(some 23), none, (.ld false 1 (.tmp 22))⟩,
               ⟨(some 24), none, (.bin .eql (.tmp 23) (.const (.int .i64 1)))⟩])
             (.cond (.tmp 24)
              (.ops [
                ⟨(some 25), none, (.mv (.tmp 3))⟩,
                ⟨(some 26), none, (.mv (.tmp 4))⟩,
                ⟨(some 27), none, (.fad 3 false 1 (.tmp 5))⟩,
                ⟨(some 28), none, (.ld false 1 (.tmp 27))⟩,
                ⟨(some 29), none, (.bsl 3 1 1 [(.int .i64 0)] [(0, (1, (.tmp 28)))])⟩,
                ⟨(some 30), none, (.idx 1 (.tmp 25) (.tmp 26))⟩,
                ⟨none, none, (.sto false 1 (.tmp 30) (.tmp 29))⟩])
              .skip))
            (.seq
             (.ops [
               ⟨(some 31), none, (.fad 1 false 1 (.tmp 5))⟩,
               ⟨(some 32), none, (.ld false 1 (.tmp 31))⟩,
               ⟨(some 33), none, (.bin .eql (.tmp 32) (.const (.int .i64 2)))⟩])
             (.cond (.tmp 33)
              (.ops [
                ⟨(some 34), none, (.mv (.tmp 3))⟩,
                ⟨(some 35), none, (.mv (.tmp 4))⟩,
                ⟨(some 36), none, (.fad 3 false 1 (.tmp 5))⟩,
                ⟨(some 37), none, (.ld false 1 (.tmp 36))⟩,
                ⟨(some 38), none, (.fad 4 false 1 (.tmp 5))⟩,
                ⟨(some 39), none, (.ld false 1 (.tmp 38))⟩,
                ⟨(some 40), none, (.bsl 3 1 2 [(.int .i64 0), (.int .i64 0)] [(0, (1, (.tmp 37))), (1, (1, (.tmp 39)))])⟩,
                ⟨(some 41), none, (.idx 1 (.tmp 34) (.tmp 35))⟩,
                ⟨none, none, (.sto false 1 (.tmp 41) (.tmp 40))⟩])
              .skip)))))
         (.ops [
           ⟨(some 15), none, (.mv (.tmp 4))⟩,
           ⟨(some 16), none, (.bin .add (.tmp 15) (.const (.int .i64 1)))⟩,
           ⟨(some 4), none, (.mv (.tmp 16))⟩]))))))
    (.seq
     (.ops [
       ⟨(some 42), none, (.mv (.tmp 3))⟩,
       ⟨(some 2), none, (.mv (.tmp 42))⟩])
     .ret))))
theorem f_scref26_Next : compF Try.prog 23 = some (43, c_scref26_Next, [(.tmp 2)]) := by kernel_rfl

/-- seedcorn/flow.walk -/
def c_flow_walk : VC :=
 (.seq
  (.ops [
    ⟨(some 3), none, (.box 22 (.tmp 0))⟩,
    ⟨(some 4), none, (.box 25 (.tmp 1))⟩])
  (.seq
   (.ops [
     ⟨(some 6), none, (.alc 50 [(.slice none 0 0)])⟩])
   (.seq
    (.ops [
      ⟨(some 10), none, (.mkf 31 [(.tmp 3), (.tmp 4), (.tmp 6)])⟩,
      ⟨(some 7), none, (.mv (.tmp 10))⟩])
    (.seq
     (.ops [
       ⟨(some 11), none, (.mv (.tmp 7))⟩,
       ⟨(some 12), none, (.call (.tmp 11) [(.const (.int .i64 0))])⟩])
     (.block 0
      (.loop
       (.seq
        (.seq
         (.ops [
           ⟨(some 13), none, (.ld false 1 (.tmp 6))⟩,
           ⟨(some 14), none, (.len (.tmp 13))⟩,
           ⟨(some 15), none, (.bin .gtr (.tmp 14) (.const (.int .i64 0)))⟩])
         (.cond (.tmp 15)
          .skip
          (.exit 0)))
        (.block 1
         (.seq
          (.ops [
            ⟨(some 16), none, (.ld false 1 (.tmp 6))⟩,
            ⟨(some 17), none, (.ld false 1 (.tmp 6))⟩,
            ⟨(some 18), none, (.len (.tmp 17))⟩,
            ⟨(some 19), none, (.bin .sub (.tmp 18) (.const (.int .i64 1)))⟩,
            ⟨(some 20), none, (.idx 2 (.tmp 16) (.tmp 19))⟩,
            ⟨(some 8), none, (.mv (.tmp 20))⟩])
          (.seq
           (.seq
            (.ops [
              ⟨(some 21), none, (.mv (.tmp 8))⟩,
              ⟨(some 22), none, (.nck (.tmp 21))⟩,
              ⟨(some 23), none, (.fad 1 false 1 (.tmp 22))⟩,
              ⟨(some 24), none, (.ld false 1 (.tmp 23))⟩,
              ⟨(some 25), none, (.ld false 1 (.tmp 3))⟩,
              ⟨(some 26), none, (.mv (.tmp 8))⟩,
              ⟨(some 27), none, (.nck (.tmp 26))⟩,
              ⟨(some 28), none, (.fad 0 false 1 (.tmp 27))⟩,
              ⟨(some 29), none, (.ld false 1 (.tmp 28))⟩,
              ⟨(some 30), none, (.idx 1 (.tmp 25) (.tmp 29))⟩,
              ⟨(some 31), none, (.ld false 1 (.tmp 30))⟩,
              ⟨(some 32), none, (.len (.tmp 31))⟩,
              ⟨(some 33), none, (.bin .lss (.tmp 24) (.tmp 32))⟩])
            (.cond (.tmp 33)
             (.seq
              (.ops [
                ⟨(some 34), none, (.mv (.tmp 8))⟩,
                ⟨(some 35), none, (.nck (.tmp 34))⟩,
                ⟨(some 36), none, (.fad 1 false 1 (.tmp 35))⟩,
                ⟨(some 37), none, (.ld false 1 (.tmp 36))⟩,
                ⟨(some 38), none, (.bin .add (.tmp 37) (.const (.int .i64 1)))⟩,
                ⟨(some 39), none, (.nck (.tmp 34))⟩,
                ⟨(some 40), none, (.fad 1 false 1 (.tmp 39))⟩,
                ⟨none, none, (.sto false 1 (.tmp 40) (.tmp 38))⟩])
              (.seq
               (.ops [
                 ⟨(some 41), none, (.mv (.tmp 7))⟩,
                 ⟨(some 42), none, (.ld false 1 (.tmp 3))⟩,
                 ⟨(some 43), none, (.mv (.tmp 8))⟩,
                 ⟨(some 44), none, (.nck (.tmp 43))⟩,
                 ⟨(some 45), none, (.fad 0 false 1 (.tmp 44))⟩,
                 ⟨(some 46), none, (.ld false 1 (.tmp 45))⟩,
                 ⟨(some 47), none, (.idx 1 (.tmp 42) (.tmp 46))⟩,
                 ⟨(some 48), none, (.ld false 1 (.tmp 47))⟩,
                 ⟨(some 49), none, (.mv (.tmp 8))⟩,
                 ⟨(some 50), none, (.nck (.tmp 49))⟩,
                 ⟨(some 51), none, (.fad 1 false 1 (.tmp 50))⟩,
                 ⟨(some 52), none, (.ld false 1 (.tmp 51))⟩,
                 ⟨(some 53), none, (.bin .sub (.tmp 52) (.const (.int .i64 1)))⟩,
                 ⟨(some 54), none, (.idx 1 (.tmp 48) (.tmp 53))⟩,
                 ⟨(some 55), none, (.ld false 1 (.tmp 54))⟩,
                 ⟨(some 56), none, (.call (.tmp 41) [(.tmp 55)])⟩])
               (.exit 1)))
             .skip))
           (.seq
            (.ops [
              ⟨(some 57), none, (.mv (.tmp 8))⟩,
              ⟨(some 58), none, (.nck (.tmp 57))⟩,
              ⟨(some 59), none, (.fad 0 false 1 (.tmp 58))⟩,
              ⟨(some 60), none, (.ld false 1 (.tmp 59))⟩,
              ⟨(some 9), none, (.mv (.tmp 60))⟩])
            (.seq
             (.ops [
               ⟨(some 61), none, (.ld false 1 (.tmp 6))⟩,
               ⟨(some 62), none, (.ld false 1 (.tmp 6))⟩,
               ⟨(some 63), none, (.len (.tmp 62))⟩,
               ⟨(some 64), none, (.bin .sub (.tmp 63) (.const (.int .i64 1)))⟩,
               ⟨(some 65), none, (.sl 2 (.tmp 61) none (some (.tmp 64)))⟩,
               ⟨none, none, (.sto false 1 (.tmp 6) (.tmp 65))⟩])
             (.ops [
               ⟨(some 66), none, (.mv (.tmp 2))⟩,
               ⟨(some 67), none, (.mv (.tmp 9))⟩,
               ⟨(some 68), none, (.call (.tmp 66) [(.tmp 67)])⟩])))))))))))))
theorem f_flow_walk : compF Try.prog 24 = some (69, c_flow_walk, []) := by kernel_rfl

/-- seedcorn/flow.Reach$1 -/
def c_flow_Reach_1 : VC :=
 .skip
theorem f_flow_Reach_1 : compF Try.prog 25 = some (2, c_flow_Reach_1, []) := by kernel_rfl

/-- seedcorn/seedcornref26.Without -/
def c_scref26_Without : VC :=
 (.seq
  (.ops [
    ⟨(some 4), none, (.mv (.const (.slice none 0 0)))⟩])
  (.seq
   (.ops [
     ⟨(some 10), none, (.mv (.tmp 0))⟩,
     ⟨(some 11), none, (.len (.tmp 10))⟩,
     ⟨(some 12), none, (.mk 4 1 1 [(.bool false)] (.tmp 11) (.tmp 11))⟩,
     ⟨(some 5), none, (.mv (.tmp 12))⟩])
   (.seq
    (.seq
     (.ops [
       ⟨(some 13), none, (.mv (.tmp 0))⟩,
       ⟨(some 14), none, (.len (.tmp 13))⟩,
       ⟨(some 15), none, (.bin .eql (.tmp 14) (.const (.int .i64 0)))⟩])
     (.cond (.tmp 15)
      (.seq
       (.ops [
         ⟨(some 16), none, (.mv (.tmp 5))⟩,
         ⟨(some 4), none, (.mv (.tmp 16))⟩])
       .ret)
      .skip))
    (.seq
     (.ops [
       ⟨(some 17), none, (.mv (.tmp 5))⟩,
       ⟨(some 18), none, (.idx 1 (.tmp 17) (.const (.int .i64 0)))⟩,
       ⟨none, none, (.sto false 1 (.tmp 18) (.const (.bool true)))⟩])
     (.seq
      (.ops [
        ⟨(some 19), none, (.bsl 3 1 1 [(.int .i64 0)] [(0, (1, (.const (.int .i64 0))))])⟩,
        ⟨(some 6), none, (.mv (.tmp 19))⟩])
      (.seq
       (.block 0
        (.loop
         (.seq
          (.seq
           (.ops [
             ⟨(some 20), none, (.mv (.tmp 6))⟩,
             ⟨(some 21), none, (.len (.tmp 20))⟩,
             ⟨(some 22), none, (.bin .gtr (.tmp 21) (.const (.int .i64 0)))⟩])
           (.cond (.tmp 22)
            .skip
            (.exit 0)))
          (.block 1
           (.seq
            (.ops [
              ⟨(some 23), none, (.mv (.tmp 6))⟩,
              ⟨(some 24), none, (.idx 1 (.tmp 23) (.const (.int .i64 0)))⟩,
              ⟨(some 25), none, (.ld false 1 (.tmp 24))⟩,
              ⟨(some 7), none, (.mv (.tmp 25))⟩])
            (.seq
             (.ops [
               ⟨(some 26), none, (.mv (.tmp 6))⟩,
               ⟨(some 27), none, (.sl 1 (.tmp 26) (some (.const (.int .i64 1))) none)⟩,
               ⟨(some 6), none, (.mv (.tmp 27))⟩])
             (.seq
              (.ops [
                ⟨(some 8), none, (.mv (.const (.int .i64 0)))⟩])
              (.block 2
               (.loop
                (.seq
                 (.seq
                  (.ops [
                    ⟨(some 28), none, (.mv (.tmp 8))⟩,
                    ⟨(some 29), none, (.mv (.tmp 0))⟩,
                    ⟨(some 30), none, (.mv (.tmp 7))⟩,
                    ⟨(some 31), none, (.idx 1 (.tmp 29) (.tmp 30))⟩,
                    ⟨(some 32), none, (.ld false 1 (.tmp 31))⟩,
                    ⟨(some 33), none, (.len (.tmp 32))⟩,
                    ⟨(some 34), none, (.bin .lss (.tmp 28) (.tmp 33))⟩,
                    ⟨(some 35), none, (.mv (.tmp 34))⟩,
                    ⟨(some 36), (some (35, true)), (.mv (.tmp 7))⟩,
                    ⟨(some 37), (some (35, true)), (.mv (.tmp 1))⟩,
                    ⟨(some 38), (some (35, true)), (.bin .neq (.tmp 36) (.tmp 37))⟩,
                    ⟨(some 39), none, (.pick (.tmp 35) (.tmp 38) (.const (.bool false)))⟩])
                  (.cond (.tmp 39)
                   .skip
                   (.exit 2)))
                 (.seq
                  (.block 3
                   (.seq
                    (.ops [
                      ⟨(some 42), none, (.mv (.tmp 0))⟩,
                      ⟨(some 43), none, (.mv (.tmp 7))⟩,
                      ⟨(some 44), none, (.idx 1 (.tmp 42) (.tmp 43))⟩,
                      ⟨(some 45), none, (.ld false 1 (.tmp 44))⟩,
                      ⟨(some 46), none, (.mv (.tmp 8))⟩,
                      ⟨(some 47), none, (.idx 1 (.tmp 45) (.tmp 46))⟩,
                      ⟨(some 48), none, (.ld false 1 (.tmp 47))⟩,
                      ⟨(some 9), none, (.mv (.tmp 48))⟩])
                    (.seq
                     (.ops [
                       ⟨(some 49), none, (.mv (.tmp 9))⟩,
                       ⟨(some 50), none, (.bin .geq (.tmp 49) (.const (.int .i64 0)))⟩,
                       ⟨(some 51), none, (.mv (.tmp 50))⟩,
                       ⟨(some 52), (some (51, true)), (.mv (.tmp 9))⟩,
                       ⟨(some 53), (some (51, true)), (.mv (.tmp 0))⟩,
                       ⟨(some 54), (some (51, true)), (.len (.tmp 53))⟩,
                       ⟨(some 55), (some (51, true)), (.bin .lss (.tmp 52) (.tmp 54))⟩,
                       ⟨(some 56), none, (.pick (.tmp 51) (.tmp 55) (.const (.bool false)))⟩,
                       ⟨(some 57), none, (.mv (.tmp 56))⟩,
                       ⟨(some 58), (some (57, true)), (.mv (.tmp 5))⟩,
                       ⟨(some 59), (some (57, true)), (.mv (.tmp 9))⟩,
                       ⟨(some 60), (some (57, true)), (.idx 1 (.tmp 58) (.tmp 59))⟩,
                       ⟨(some 61), (some (57, true)), (.ld false 1 (.tmp 60))⟩,
                       ⟨(some 62), (some (57, true)), (.un .not (.tmp 61))⟩,
                       ⟨(some 63), none, (.pick (.tmp 57) (.tmp 62) (.const (.bool false)))⟩])
                     (.cond (.tmp 63)
                      (.seq
                       (.ops [
                         ⟨(some 64), none, (.mv (.tmp 5))⟩,
                         ⟨(some 65), none, (.mv (.tmp 9))⟩,
                         ⟨(some 66), none, (.idx 1 (.tmp 64) (.tmp 65))⟩,
                         ⟨none, none, (.sto false 1 (.tmp 66) (.const (.bool true)))⟩])
                       (.ops [
                         ⟨(some 67), none, (.mv (.tmp 6))⟩,
                         ⟨(some 68), none, (.mv (.tmp 9))⟩,
                         ⟨(some 69), none, (.bsl 3 1 1 [(.int .i64 0)] [(0, (1, (.tmp 68)))])⟩,
                         ⟨(some 70), none, (.app 3 1 8 (.tmp 67) (.tmp 69))⟩,
                         ⟨(some 6), none, (.mv (.tmp 70))⟩]))
                      .skip))))
                  (.ops [
                    ⟨(some 40), none, (.mv (.tmp 8))⟩,
                    ⟨(some 41), none, (.bin .add (.tmp 40) (.const (.int .i64 1)))⟩,
                    ⟨(some 8), none, (.mv (.tmp 41))⟩]))))))))))))
       (.seq
        (.ops [
          ⟨(some 71), none, (.mv (.tmp 5))⟩,
          ⟨(some 4), none, (.mv (.tmp 71))⟩])
        .ret)))))))
theorem f_scref26_Without : compF Try.prog 26 = some (72, c_scref26_Without, [(.tmp 4)]) := by kernel_rfl

/-- seedcorn/flow.Order$1 -/
def c_flow_Order_1 : VC :=
 (.ops [
   ⟨(some 3), none, (.ld false 1 (.tmp 1))⟩,
   ⟨(some 4), none, (.mv (.tmp 0))⟩,
   ⟨(some 5), none, (.bsl 3 1 1 [(.int .i64 0)] [(0, (1, (.tmp 4)))])⟩,
   ⟨(some 6), none, (.app 3 1 8 (.tmp 3) (.tmp 5))⟩,
   ⟨none, none, (.sto false 1 (.tmp 1) (.tmp 6))⟩])
theorem f_flow_Order_1 : compF Try.prog 27 = some (7, c_flow_Order_1, []) := by kernel_rfl

/-- seedcorn/flow.aheadOf -/
def c_flow_aheadOf : VC :=
 (.seq
  (.ops [
    ⟨(some 4), none, (.mv (.const (.slice none 0 0)))⟩])
  (.seq
   (.ops [
     ⟨(some 10), none, (.mv (.tmp 0))⟩,
     ⟨(some 11), none, (.len (.tmp 10))⟩,
     ⟨(some 12), none, (.mk 28 1 24 [(.slice none 0 0)] (.tmp 11) (.tmp 11))⟩,
     ⟨(some 5), none, (.mv (.tmp 12))⟩])
   (.seq
    (.seq
     (.ops [
       ⟨(some 13), none, (.mv (.tmp 0))⟩,
       ⟨(some 14), none, (.len (.tmp 13))⟩,
       ⟨(some 15), none, (.mv (.const (.int .i64 0)))⟩])
     (.block 0
      (.loop
       (.seq
        (.ops [
          ⟨(some 16), none, (.bin .lss (.tmp 15) (.tmp 14))⟩])
        (.seq
         (.cond (.tmp 16)
          .skip
          (.exit 0))
         (.seq
          (.block 1
           (.seq
            (.ops [
              ⟨(some 17), none, (.mv (.tmp 15))⟩,
              ⟨(some 18), none, (.idx 1 (.tmp 13) (.tmp 15))⟩,
              ⟨(some 19), none, (.ld false 1 (.tmp 18))⟩,
              ⟨(some 6), none, (.mv (.tmp 17))⟩,
              ⟨(some 7), none, (.mv (.tmp 19))⟩])
            (.seq
             (.seq
              (.ops [
                ⟨(some 20), none, (.mv (.tmp 1))⟩,
                ⟨(some 21), none, (.mv (.tmp 6))⟩,
                ⟨(some 22), none, (.idx 1 (.tmp 20) (.tmp 21))⟩,
                ⟨(some 23), none, (.ld false 1 (.tmp 22))⟩,
                ⟨(some 24), none, (.bin .eql (.tmp 23) (.const (.int .i64 (-1))))⟩])
              (.cond (.tmp 24)
               (.exit 1)
               .skip))
             (.seq
              (.ops [
                ⟨(some 25), none, (.mv (.tmp 7))⟩,
                ⟨(some 26), none, (.len (.tmp 25))⟩,
                ⟨(some 27), none, (.mv (.const (.int .i64 0)))⟩])
              (.block 2
               (.loop
                (.seq
                 (.ops [
                   ⟨(some 28), none, (.bin .lss (.tmp 27) (.tmp 26))⟩])
                 (.seq
                  (.cond (.tmp 28)
                   .skip
                   (.exit 2))
                  (.seq
                   (.block 3
                    (.seq
                     (.ops [
                       ⟨(some 29), none, (.idx 1 (.tmp 25) (.tmp 27))⟩,
                       ⟨(some 30), none, (.ld false 1 (.tmp 29))⟩,
                       ⟨(some 9), none, (.mv (.tmp 30))⟩])
                     (.seq
                      (.ops [
                        ⟨(some 31), none, (.mv (.tmp 9))⟩,
                        ⟨(some 32), none, (.bin .geq (.tmp 31) (.const (.int .i64 0)))⟩,
                        ⟨(some 33), none, (.mv (.tmp 32))⟩,
                        ⟨(some 34), (some (33, true)), (.mv (.tmp 9))⟩,
                        ⟨(some 35), (some (33, true)), (.mv (.tmp 0))⟩,
                        ⟨(some 36), (some (33, true)), (.len (.tmp 35))⟩,
                        ⟨(some 37), (some (33, true)), (.bin .lss (.tmp 34) (.tmp 36))⟩,
                        ⟨(some 38), none, (.pick (.tmp 33) (.tmp 37) (.const (.bool false)))⟩])
                      (.cond (.tmp 38)
                       (.ops [
                         ⟨(some 39), none, (.mv (.tmp 5))⟩,
                         ⟨(some 40), none, (.mv (.tmp 9))⟩,
                         ⟨(some 41), none, (.mv (.tmp 5))⟩,
                         ⟨(some 42), none, (.mv (.tmp 9))⟩,
                         ⟨(some 43), none, (.idx 1 (.tmp 41) (.tmp 42))⟩,
                         ⟨(some 44), none, (.ld false 1 (.tmp 43))⟩,
                         ⟨(some 45), none, (.mv (.tmp 6))⟩,
                         ⟨(some 46), none, (.bsl 3 1 1 [(.int .i64 0)] [(0, (1, (.tmp 45)))])⟩,
                         ⟨(some 47), none, (.app 3 1 8 (.tmp 44) (.tmp 46))⟩,
                         ⟨(some 48), none, (.idx 1 (.tmp 39) (.tmp 40))⟩,
                         ⟨none, none, (.sto false 1 (.tmp 48) (.tmp 47))⟩])
                       .skip))))
                   (.ops [
                     ⟨(some 49), none, (.bin .add (.tmp 27) (.const (.int .i64 1)))⟩,
                     ⟨(some 27), none, (.mv (.tmp 49))⟩]))))))))))
          (.ops [
            ⟨(some 50), none, (.bin .add (.tmp 15) (.const (.int .i64 1)))⟩,
            ⟨(some 15), none, (.mv (.tmp 50))⟩])))))))
    (.seq
     (.ops [
       ⟨(some 51), none, (.mv (.tmp 5))⟩,
       ⟨(some 4), none, (.mv (.tmp 51))⟩])
     .ret))))
theorem f_flow_aheadOf : compF Try.prog 28 = some (52, c_flow_aheadOf, [(.tmp 4)]) := by kernel_rfl

/-- seedcorn/flow.meet -/
def c_flow_meet : VC :=
 (.seq
  (.ops [
    ⟨(some 8), none, (.mv (.const (.int .i64 0)))⟩])
  (.seq
   (.block 0
    (.loop
     (.seq
      (.seq
       (.ops [
         ⟨(some 9), none, (.mv (.tmp 2))⟩,
         ⟨(some 10), none, (.mv (.tmp 3))⟩,
         ⟨(some 11), none, (.bin .neq (.tmp 9) (.tmp 10))⟩])
       (.cond (.tmp 11)
        .skip
        (.exit 0)))
      (.block 1
       (.seq
        (.ops [
          ⟨(some 12), none, (.mv (.tmp 1))⟩,
          ⟨(some 13), none, (.mv (.tmp 2))⟩,
          ⟨(some 14), none, (.idx 1 (.tmp 12) (.tmp 13))⟩,
          ⟨(some 15), none, (.ld false 1 (.tmp 14))⟩,
          ⟨(some 16), none, (.mv (.tmp 1))⟩,
          ⟨(some 17), none, (.mv (.tmp 3))⟩,
          ⟨(some 18), none, (.idx 1 (.tmp 16) (.tmp 17))⟩,
          ⟨(some 19), none, (.ld false 1 (.tmp 18))⟩,
          ⟨(some 20), none, (.bin .gtr (.tmp 15) (.tmp 19))⟩])
        (.cond (.tmp 20)
         (.ops [
           ⟨(some 21), none, (.mv (.tmp 0))⟩,
           ⟨(some 22), none, (.mv (.tmp 2))⟩,
           ⟨(some 23), none, (.idx 1 (.tmp 21) (.tmp 22))⟩,
           ⟨(some 24), none, (.ld false 1 (.tmp 23))⟩,
           ⟨(some 2), none, (.mv (.tmp 24))⟩])
         (.ops [
           ⟨(some 25), none, (.mv (.tmp 0))⟩,
           ⟨(some 26), none, (.mv (.tmp 3))⟩,
           ⟨(some 27), none, (.idx 1 (.tmp 25) (.tmp 26))⟩,
           ⟨(some 28), none, (.ld false 1 (.tmp 27))⟩,
           ⟨(some 3), none, (.mv (.tmp 28))⟩])))))))
   (.seq
    (.ops [
      ⟨(some 29), none, (.mv (.tmp 2))⟩,
      ⟨(some 8), none, (.mv (.tmp 29))⟩])
    .ret)))
theorem f_flow_meet : compF Try.prog 29 = some (30, c_flow_meet, [(.tmp 8)]) := by kernel_rfl

/-- seedcorn/flow.Must$1 -/
def c_flow_Must_1 : VC :=
 .skip
theorem f_flow_Must_1 : compF Try.prog 30 = some (2, c_flow_Must_1, []) := by kernel_rfl

/-- seedcorn/flow.walk$1 -/
def c_flow_walk_1 : VC :=
 (.seq
  (.ops [
    ⟨(some 5), none, (.mv (.tmp 0))⟩,
    ⟨(some 6), none, (.bin .geq (.tmp 5) (.const (.int .i64 0)))⟩,
    ⟨(some 7), none, (.mv (.tmp 6))⟩,
    ⟨(some 8), (some (7, true)), (.mv (.tmp 0))⟩,
    ⟨(some 9), (some (7, true)), (.ld false 1 (.tmp 1))⟩,
    ⟨(some 10), (some (7, true)), (.len (.tmp 9))⟩,
    ⟨(some 11), (some (7, true)), (.bin .lss (.tmp 8) (.tmp 10))⟩,
    ⟨(some 12), none, (.pick (.tmp 7) (.tmp 11) (.const (.bool false)))⟩,
    ⟨(some 13), none, (.mv (.tmp 12))⟩,
    ⟨(some 14), (some (13, true)), (.ld false 1 (.tmp 2))⟩,
    ⟨(some 15), (some (13, true)), (.mv (.tmp 0))⟩,
    ⟨(some 16), (some (13, true)), (.idx 1 (.tmp 14) (.tmp 15))⟩,
    ⟨(some 17), (some (13, true)), (.ld false 1 (.tmp 16))⟩,
    ⟨(some 18), (some (13, true)), (.un .not (.tmp 17))⟩,
    ⟨(some 19), none, (.pick (.tmp 13) (.tmp 18) (.const (.bool false)))⟩])
  (.cond (.tmp 19)
   (.seq
    (.ops [
      ⟨(some 20), none, (.ld false 1 (.tmp 2))⟩,
      ⟨(some 21), none, (.mv (.tmp 0))⟩,
      ⟨(some 22), none, (.idx 1 (.tmp 20) (.tmp 21))⟩,
      ⟨none, none, (.sto false 1 (.tmp 22) (.const (.bool true)))⟩])
    (.ops [
      ⟨(some 23), none, (.ld false 1 (.tmp 3))⟩,
      ⟨(some 24), none, (.mv (.tmp 0))⟩,
      ⟨(some 25), none, (.bld [(.int .i64 0), (.int .i64 0)] [(0, (1, (.tmp 24))), (1, (1, (.const (.int .i64 0))))])⟩,
      ⟨(some 26), none, (.bsl 52 2 1 [(.int .i64 0), (.int .i64 0)] [(0, (2, (.tmp 25)))])⟩,
      ⟨(some 27), none, (.app 52 2 16 (.tmp 23) (.tmp 26))⟩,
      ⟨none, none, (.sto false 1 (.tmp 3) (.tmp 27))⟩]))
   .skip))
theorem f_flow_walk_1 : compF Try.prog 31 = some (28, c_flow_walk_1, []) := by kernel_rfl

end Go.Proofs.Ytdiknjjhegckcaa
