/-
  The functions of this seat, made small by the program: each is what the engine makes of the function of that number. No condition.
-/
import Derived.Test.YtjkkmpkbiddhkaaVS
import Derived.Test.YtjkkmpkbiddhkaaRows
import Derived.KernelRfl
namespace Go.Proofs.Ytjkkmpkbiddhkaa
open Go.V
/-- seedcorn/seedcornlaw09.MachineStarts -/
def c_sclaw09_MachineStarts : VC :=
 (.seq
  (.ops [
    ⟨(some 1), none, (.box 24 (.tmp 0))⟩,
    ⟨(some 2), none, (.mv (.const (.bool false)))⟩])
  (.seq
   (.par false (.one ⟨(some 3), none, (.call (.func 10) [])⟩ (.one ⟨(some 4), none, (.mv (.tmp 3))⟩ (.one ⟨(some 5), (some (4, true)), (.ld true 2 (.tmp 1))⟩ (.one ⟨(some 6), (some (4, true)), (.call (.func 12) [(.tmp 5)])⟩ (.one ⟨(some 7), (some (4, true)), (.ld true 2 (.tmp 1))⟩ (.one ⟨(some 8), (some (4, true)), (.call (.func 13) [(.tmp 7)])⟩ (.one ⟨(some 9), (some (4, true)), (.call (.func 11) [(.tmp 6), (.tmp 8)])⟩ (.one ⟨(some 10), none, (.pick (.tmp 4) (.tmp 9) (.const (.bool false)))⟩ (.one ⟨(some 2), none, (.mv (.tmp 10))⟩ .done))))))))))
   .ret))
theorem f_sclaw09_MachineStarts : compF Try.prog 3 = some (11, c_sclaw09_MachineStarts, [(.tmp 2)]) := by kernel_rfl

/-- seedcorn/seedcornlaw09.MachineStays -/
def c_sclaw09_MachineStays : VC :=
 (.seq
  (.ops [
    ⟨(some 1), none, (.box 34 (.tmp 0))⟩,
    ⟨(some 2), none, (.mv (.const (.bool false)))⟩])
  (.seq
   (.seq
    (.ops [
      ⟨(some 3), none, (.fad 0 true 2 (.tmp 1))⟩,
      ⟨(some 4), none, (.ld true 2 (.tmp 3))⟩,
      ⟨(some 5), none, (.fad 2 false 1 (.tmp 1))⟩,
      ⟨(some 6), none, (.ld false 1 (.tmp 5))⟩,
      ⟨(some 7), none, (.fad 3 true 22 (.tmp 1))⟩,
      ⟨(some 8), none, (.ld true 22 (.tmp 7))⟩,
      ⟨(some 9), none, (.call (.func 14) [(.tmp 4), (.tmp 6), (.tmp 8)])⟩,
      ⟨(some 10), none, (.un .not (.tmp 9))⟩,
      ⟨(some 11), none, (.mv (.tmp 10))⟩,
      ⟨(some 12), (some (11, false)), (.fad 3 true 22 (.tmp 1))⟩,
      ⟨(some 13), (some (11, false)), (.fad 21 false 1 (.tmp 12))⟩,
      ⟨(some 14), (some (11, false)), (.ld false 1 (.tmp 13))⟩,
      ⟨(some 15), (some (11, false)), (.bin .eql (.tmp 14) (.const (.int .i64 0)))⟩,
      ⟨(some 16), none, (.pick (.tmp 11) (.const (.bool true)) (.tmp 15))⟩])
    (.cond (.tmp 16)
     (.seq
      (.ops [
        ⟨(some 17), none, (.call (.func 10) [])⟩,
        ⟨(some 2), none, (.mv (.tmp 17))⟩])
      .ret)
     .skip))
   (.seq
    (.par false (.one ⟨(some 18), none, (.call (.func 10) [])⟩ (.one ⟨(some 19), none, (.mv (.tmp 18))⟩ (.one ⟨(some 20), (some (19, true)), (.fad 0 true 2 (.tmp 1))⟩ (.one ⟨(some 21), (some (19, true)), (.ld true 2 (.tmp 20))⟩ (.one ⟨(some 22), (some (19, true)), (.fad 2 false 1 (.tmp 1))⟩ (.one ⟨(some 23), (some (19, true)), (.ld false 1 (.tmp 22))⟩ (.one ⟨(some 24), (some (19, true)), (.fad 3 true 22 (.tmp 1))⟩ (.one ⟨(some 25), (some (19, true)), (.ld true 22 (.tmp 24))⟩ (.one ⟨(some 26), (some (19, true)), (.call (.func 15) [(.tmp 21), (.tmp 23), (.tmp 25)])⟩ (.one ⟨(some 27), (some (19, true)), (.fad 3 true 22 (.tmp 1))⟩ (.one ⟨(some 28), (some (19, true)), (.ld true 22 (.tmp 27))⟩ (.one ⟨(some 29), (some (19, true)), (.call (.func 17) [(.tmp 26), (.tmp 28)])⟩ (.one ⟨(some 30), none, (.pick (.tmp 19) (.tmp 29) (.const (.bool false)))⟩ (.one ⟨(some 2), none, (.mv (.tmp 30))⟩ .done)))))))))))))))
    .ret)))
theorem f_sclaw09_MachineStays : compF Try.prog 6 = some (31, c_sclaw09_MachineStays, [(.tmp 2)]) := by kernel_rfl

/-- seedcorn/seedcornlaw09.MachineSame -/
def c_sclaw09_MachineSame : VC :=
 (.seq
  (.ops [
    ⟨(some 2), none, (.box 30 (.tmp 0))⟩,
    ⟨(some 3), none, (.box 30 (.tmp 1))⟩,
    ⟨(some 4), none, (.mv (.const (.bool false)))⟩])
  (.seq
   (.seq
    (.ops [
      ⟨(some 5), none, (.fad 17 false 1 (.tmp 2))⟩,
      ⟨(some 6), none, (.ld false 1 (.tmp 5))⟩,
      ⟨(some 7), none, (.len (.tmp 6))⟩,
      ⟨(some 8), none, (.bin .gtr (.tmp 7) (.const (.int .i64 200)))⟩,
      ⟨(some 9), none, (.mv (.tmp 8))⟩,
      ⟨(some 10), (some (9, false)), (.fad 17 false 1 (.tmp 3))⟩,
      ⟨(some 11), (some (9, false)), (.ld false 1 (.tmp 10))⟩,
      ⟨(some 12), (some (9, false)), (.len (.tmp 11))⟩,
      ⟨(some 13), (some (9, false)), (.bin .gtr (.tmp 12) (.const (.int .i64 200)))⟩,
      ⟨(some 14), none, (.pick (.tmp 9) (.const (.bool true)) (.tmp 13))⟩,
      ⟨(some 15), none, (.mv (.tmp 14))⟩,
      ⟨(some 16), (some (15, false)), (.fad 19 false 1 (.tmp 2))⟩,
      ⟨(some 17), (some (15, false)), (.ld false 1 (.tmp 16))⟩,
      ⟨(some 18), (some (15, false)), (.lens (.tmp 17))⟩,
      ⟨(some 19), (some (15, false)), (.bin .gtr (.tmp 18) (.const (.int .i64 200)))⟩,
      ⟨(some 20), none, (.pick (.tmp 15) (.const (.bool true)) (.tmp 19))⟩,
      ⟨(some 21), none, (.mv (.tmp 20))⟩,
      ⟨(some 22), (some (21, false)), (.fad 19 false 1 (.tmp 3))⟩,
      ⟨(some 23), (some (21, false)), (.ld false 1 (.tmp 22))⟩,
      ⟨(some 24), (some (21, false)), (.lens (.tmp 23))⟩,
      ⟨(some 25), (some (21, false)), (.bin .gtr (.tmp 24) (.const (.int .i64 200)))⟩,
      ⟨(some 26), none, (.pick (.tmp 21) (.const (.bool true)) (.tmp 25))⟩])
    (.cond (.tmp 26)
     (.seq
      (.ops [
        ⟨(some 27), none, (.call (.func 10) [])⟩,
        ⟨(some 4), none, (.mv (.tmp 27))⟩])
      .ret)
     .skip))
   (.seq
    (.par false (.one ⟨(some 28), none, (.call (.func 10) [])⟩ (.one ⟨(some 29), none, (.mv (.tmp 28))⟩ (.one ⟨(some 30), (some (29, true)), (.ld true 22 (.tmp 2))⟩ (.one ⟨(some 31), (some (29, true)), (.ld true 22 (.tmp 3))⟩ (.one ⟨(some 32), (some (29, true)), (.call (.func 17) [(.tmp 30), (.tmp 31)])⟩ (.one ⟨(some 33), (some (29, true)), (.ld true 22 (.tmp 2))⟩ (.one ⟨(some 34), (some (29, true)), (.ld true 22 (.tmp 3))⟩ (.one ⟨(some 35), (some (29, true)), (.call (.func 11) [(.tmp 33), (.tmp 34)])⟩ (.one ⟨(some 36), (some (29, true)), (.beq false (.tmp 32) (.tmp 35))⟩ (.one ⟨(some 37), none, (.pick (.tmp 29) (.tmp 36) (.const (.bool false)))⟩ (.one ⟨(some 38), none, (.mv (.tmp 37))⟩ (.one ⟨(some 39), (some (38, true)), (.ld true 22 (.tmp 2))⟩ (.one ⟨(some 40), (some (38, true)), (.ld true 22 (.tmp 2))⟩ (.one ⟨(some 41), (some (38, true)), (.call (.func 17) [(.tmp 39), (.tmp 40)])⟩ (.one ⟨(some 42), none, (.pick (.tmp 38) (.tmp 41) (.const (.bool false)))⟩ (.one ⟨(some 4), none, (.mv (.tmp 42))⟩ .done)))))))))))))))))
    .ret)))
theorem f_sclaw09_MachineSame : compF Try.prog 9 = some (43, c_sclaw09_MachineSame, [(.tmp 4)]) := by kernel_rfl

/-- seedcorn/seedcornref09.Same -/
def c_scref09_Same : VC :=
 (.seq
  (.ops [
    ⟨(some 2), none, (.box 30 (.tmp 0))⟩,
    ⟨(some 3), none, (.box 30 (.tmp 1))⟩,
    ⟨(some 4), none, (.mv (.const (.bool false)))⟩])
  (.seq
   (.ops [
     ⟨(some 5), none, (.fad 0 false 1 (.tmp 2))⟩,
     ⟨(some 6), none, (.ld false 1 (.tmp 5))⟩,
     ⟨(some 7), none, (.fad 0 false 1 (.tmp 3))⟩,
     ⟨(some 8), none, (.ld false 1 (.tmp 7))⟩,
     ⟨(some 9), none, (.bin .eql (.tmp 6) (.tmp 8))⟩,
     ⟨(some 10), none, (.mv (.tmp 9))⟩,
     ⟨(some 11), (some (10, true)), (.fad 1 true 16 (.tmp 2))⟩,
     ⟨(some 12), (some (10, true)), (.ld true 16 (.tmp 11))⟩,
     ⟨(some 13), (some (10, true)), (.fad 1 true 16 (.tmp 3))⟩,
     ⟨(some 14), (some (10, true)), (.ld true 16 (.tmp 13))⟩,
     ⟨(some 15), (some (10, true)), (.pur (.eqv false [.int, .int, .int, .int, .int, .int, .int, .int, .int, .int, .int, .int, .int, .int, .int, .int]) [(.tmp 12), (.tmp 14)])⟩,
     ⟨(some 16), none, (.pick (.tmp 10) (.tmp 15) (.const (.bool false)))⟩,
     ⟨(some 17), none, (.mv (.tmp 16))⟩,
     ⟨(some 18), (some (17, true)), (.fad 17 false 1 (.tmp 2))⟩,
     ⟨(some 19), (some (17, true)), (.ld false 1 (.tmp 18))⟩,
     ⟨(some 20), (some (17, true)), (.fad 17 false 1 (.tmp 3))⟩,
     ⟨(some 21), (some (17, true)), (.ld false 1 (.tmp 20))⟩,
     ⟨(some 22), (some (17, true)), (.call (.func 20) [(.tmp 19), (.tmp 21)])⟩,
     ⟨(some 23), none, (.pick (.tmp 17) (.tmp 22) (.const (.bool false)))⟩,
     ⟨(some 24), none, (.mv (.tmp 23))⟩,
     ⟨(some 25), (some (24, true)), (.fad 18 false 1 (.tmp 2))⟩,
     ⟨(some 26), (some (24, true)), (.ld false 1 (.tmp 25))⟩,
     ⟨(some 27), (some (24, true)), (.fad 18 false 1 (.tmp 3))⟩,
     ⟨(some 28), (some (24, true)), (.ld false 1 (.tmp 27))⟩,
     ⟨(some 29), (some (24, true)), (.bin .eql (.tmp 26) (.tmp 28))⟩,
     ⟨(some 30), none, (.pick (.tmp 24) (.tmp 29) (.const (.bool false)))⟩,
     ⟨(some 31), none, (.mv (.tmp 30))⟩,
     ⟨(some 32), (some (31, true)), (.fad 19 false 1 (.tmp 2))⟩,
     ⟨(some 33), (some (31, true)), (.ld false 1 (.tmp 32))⟩,
     ⟨(some 34), (some (31, true)), (.fad 19 false 1 (.tmp 3))⟩,
     ⟨(some 35), (some (31, true)), (.ld false 1 (.tmp 34))⟩,
     ⟨(some 36), (some (31, true)), (.bin .eql (.tmp 33) (.tmp 35))⟩,
     ⟨(some 37), none, (.pick (.tmp 31) (.tmp 36) (.const (.bool false)))⟩,
     ⟨(some 38), none, (.mv (.tmp 37))⟩,
     ⟨(some 39), (some (38, true)), (.fad 20 false 1 (.tmp 2))⟩,
     ⟨(some 40), (some (38, true)), (.ld false 1 (.tmp 39))⟩,
     ⟨(some 41), (some (38, true)), (.fad 20 false 1 (.tmp 3))⟩,
     ⟨(some 42), (some (38, true)), (.ld false 1 (.tmp 41))⟩,
     ⟨(some 43), (some (38, true)), (.bin .eql (.tmp 40) (.tmp 42))⟩,
     ⟨(some 44), none, (.pick (.tmp 38) (.tmp 43) (.const (.bool false)))⟩,
     ⟨(some 45), none, (.mv (.tmp 44))⟩,
     ⟨(some 46), (some (45, true)), (.fad 21 false 1 (.tmp 2))⟩,
     ⟨(some 47), (some (45, true)), (.ld false 1 (.tmp 46))⟩,
     ⟨(some 48), (some (45, true)), (.fad 21 false 1 (.tmp 3))⟩,
     ⟨(some 49), (some (45, true)), (.ld false 1 (.tmp 48))⟩,
     ⟨(some 50), (some (45, true)), (.bin .eql (.tmp 47) (.tmp 49))⟩,
     ⟨(some 51), none, (.pick (.tmp 45) (.tmp 50) (.const (.bool false)))⟩,
     ⟨(some 4), none, (.mv (.tmp 51))⟩])
   .ret))
theorem f_scref09_Same : compF Try.prog 11 = some (52, c_scref09_Same, [(.tmp 4)]) := by kernel_rfl

/-- seedcorn/machine.Start -/
def c_machine_Start : VC :=
 (.seq
  (.ops [
    ⟨(some 1), none, (.box 24 (.tmp 0))⟩,
    ⟨(some 2), none, (.alc 30 [(.int .i64 0), (.int .u32 0), (.int .u32 0), (.int .u32 0), (.int .u32 0), (.int .u32 0), (.int .u32 0), (.int .u32 0), (.int .u32 0), (.int .u32 0), (.int .u32 0), (.int .u32 0), (.int .u32 0), (.int .u32 0), (.int .u32 0), (.int .u32 0), (.int .u32 0), (.slice none 0 0), (.int .i64 0), (.string ⟨#[]⟩), (.int .i64 0), (.int .i64 0)])⟩])
  (.seq
   (.ops [
     ⟨(some 3), none, (.alc 30 [(.int .i64 0), (.int .u32 0), (.int .u32 0), (.int .u32 0), (.int .u32 0), (.int .u32 0), (.int .u32 0), (.int .u32 0), (.int .u32 0), (.int .u32 0), (.int .u32 0), (.int .u32 0), (.int .u32 0), (.int .u32 0), (.int .u32 0), (.int .u32 0), (.int .u32 0), (.slice none 0 0), (.int .i64 0), (.string ⟨#[]⟩), (.int .i64 0), (.int .i64 0)])⟩])
   (.seq
    (.seq
     (.ops [
       ⟨(some 4), none, (.fad 1 false 1 (.tmp 1))⟩,
       ⟨(some 5), none, (.ld false 1 (.tmp 4))⟩,
       ⟨(some 6), none, (.bin .gtr (.tmp 5) (.const (.int .i64 0)))⟩,
       ⟨(some 7), none, (.mv (.tmp 6))⟩,
       ⟨(some 8), (some (7, true)), (.fad 1 false 1 (.tmp 1))⟩,
       ⟨(some 9), (some (7, true)), (.ld false 1 (.tmp 8))⟩,
       ⟨(some 10), (some (7, true)), (.bin .leq (.tmp 9) (.const (.int .i64 32768)))⟩,
       ⟨(some 11), none, (.pick (.tmp 7) (.tmp 10) (.const (.bool false)))⟩])
     (.cond (.tmp 11)
      (.ops [
        ⟨(some 12), none, (.fad 1 false 1 (.tmp 1))⟩,
        ⟨(some 13), none, (.ld false 1 (.tmp 12))⟩,
        ⟨(some 14), none, (.mk 27 1 4 [(.int .u32 0)] (.tmp 13) (.tmp 13))⟩,
        ⟨(some 15), none, (.fad 17 false 1 (.tmp 3))⟩,
        ⟨none, none, (.sto false 1 (.tmp 15) (.tmp 14))⟩])
      .skip))
    (.seq
     (.ops [
       ⟨(some 16), none, (.ld true 22 (.tmp 3))⟩,
       ⟨none, none, (.sto true 22 (.tmp 2) (.tmp 16))⟩])
     .ret))))
theorem f_machine_Start : compF Try.prog 12 = some (17, c_machine_Start, [(.cell 2 true 22)]) := by kernel_rfl

/-- seedcorn/seedcornref09.Start -/
def c_scref09_Start : VC :=
 (.seq
  (.ops [
    ⟨(some 1), none, (.box 24 (.tmp 0))⟩,
    ⟨(some 2), none, (.alc 30 [(.int .i64 0), (.int .u32 0), (.int .u32 0), (.int .u32 0), (.int .u32 0), (.int .u32 0), (.int .u32 0), (.int .u32 0), (.int .u32 0), (.int .u32 0), (.int .u32 0), (.int .u32 0), (.int .u32 0), (.int .u32 0), (.int .u32 0), (.int .u32 0), (.int .u32 0), (.slice none 0 0), (.int .i64 0), (.string ⟨#[]⟩), (.int .i64 0), (.int .i64 0)])⟩])
  (.seq
   (.ops [
     ⟨(some 3), none, (.alc 30 [(.int .i64 0), (.int .u32 0), (.int .u32 0), (.int .u32 0), (.int .u32 0), (.int .u32 0), (.int .u32 0), (.int .u32 0), (.int .u32 0), (.int .u32 0), (.int .u32 0), (.int .u32 0), (.int .u32 0), (.int .u32 0), (.int .u32 0), (.int .u32 0), (.int .u32 0), (.slice none 0 0), (.int .i64 0), (.string ⟨#[]⟩), (.int .i64 0), (.int .i64 0)])⟩])
   (.seq
    (.seq
     (.ops [
       ⟨(some 4), none, (.fad 1 false 1 (.tmp 1))⟩,
       ⟨(some 5), none, (.ld false 1 (.tmp 4))⟩,
       ⟨(some 6), none, (.bin .gtr (.tmp 5) (.const (.int .i64 0)))⟩,
       ⟨(some 7), none, (.mv (.tmp 6))⟩,
       ⟨(some 8), (some (7, true)), (.fad 1 false 1 (.tmp 1))⟩,
       ⟨(some 9), (some (7, true)), (.ld false 1 (.tmp 8))⟩,
       ⟨(some 10), (some (7, true)), (.bin .leq (.tmp 9) (.const (.int .i64 32768)))⟩,
       ⟨(some 11), none, (.pick (.tmp 7) (.tmp 10) (.const (.bool false)))⟩])
     (.cond (.tmp 11)
      (.ops [
        ⟨(some 12), none, (.fad 1 false 1 (.tmp 1))⟩,
        ⟨(some 13), none, (.ld false 1 (.tmp 12))⟩,
        ⟨(some 14), none, (.mk 27 1 4 [(.int .u32 0)] (.tmp 13) (.tmp 13))⟩,
        ⟨(some 15), none, (.fad 17 false 1 (.tmp 3))⟩,
        ⟨none, none, (.sto false 1 (.tmp 15) (.tmp 14))⟩])
      .skip))
    (.seq
     (.ops [
       ⟨(some 16), none, (.ld true 22 (.tmp 3))⟩,
       ⟨none, none, (.sto true 22 (.tmp 2) (.tmp 16))⟩])
     .ret))))
theorem f_scref09_Start : compF Try.prog 13 = some (17, c_scref09_Start, [(.cell 2 true 22)]) := by kernel_rfl

/-- seedcorn/seedcornlaw09.small -/
def c_sclaw09_small : VC :=
 (.seq
  (.ops [
    ⟨(some 3), none, (.box 24 (.tmp 0))⟩,
    ⟨(some 5), none, (.box 30 (.tmp 2))⟩,
    ⟨(some 6), none, (.mv (.const (.bool false)))⟩])
  (.seq
   (.ops [
     ⟨(some 7), none, (.fad 0 false 1 (.tmp 3))⟩,
     ⟨(some 8), none, (.ld false 1 (.tmp 7))⟩,
     ⟨(some 9), none, (.len (.tmp 8))⟩,
     ⟨(some 10), none, (.bin .leq (.tmp 9) (.const (.int .i64 200)))⟩,
     ⟨(some 11), none, (.mv (.tmp 10))⟩,
     ⟨(some 12), (some (11, true)), (.mv (.tmp 1))⟩,
     ⟨(some 13), (some (11, true)), (.lens (.tmp 12))⟩,
     ⟨(some 14), (some (11, true)), (.bin .leq (.tmp 13) (.const (.int .i64 200)))⟩,
     ⟨(some 15), none, (.pick (.tmp 11) (.tmp 14) (.const (.bool false)))⟩,
     ⟨(some 16), none, (.mv (.tmp 15))⟩,
     ⟨(some 17), (some (16, true)), (.fad 17 false 1 (.tmp 5))⟩,
     ⟨(some 18), (some (16, true)), (.ld false 1 (.tmp 17))⟩,
     ⟨(some 19), (some (16, true)), (.len (.tmp 18))⟩,
     ⟨(some 20), (some (16, true)), (.bin .leq (.tmp 19) (.const (.int .i64 200)))⟩,
     ⟨(some 21), none, (.pick (.tmp 16) (.tmp 20) (.const (.bool false)))⟩,
     ⟨(some 22), none, (.mv (.tmp 21))⟩,
     ⟨(some 23), (some (22, true)), (.fad 19 false 1 (.tmp 5))⟩,
     ⟨(some 24), (some (22, true)), (.ld false 1 (.tmp 23))⟩,
     ⟨(some 25), (some (22, true)), (.lens (.tmp 24))⟩,
     ⟨(some 26), (some (22, true)), (.bin .leq (.tmp 25) (.const (.int .i64 70000)))⟩,
     ⟨(some 27), none, (.pick (.tmp 22) (.tmp 26) (.const (.bool false)))⟩,
     ⟨(some 28), none, (.mv (.tmp 27))⟩,
     ⟨(some 29), (some (28, true)), (.fad 20 false 1 (.tmp 5))⟩,
     ⟨(some 30), (some (28, true)), (.ld false 1 (.tmp 29))⟩,
     ⟨(some 31), (some (28, true)), (.bin .lss (.tmp 30) (.const (.int .i64 4611686018427387904)))⟩,
     ⟨(some 32), none, (.pick (.tmp 28) (.tmp 31) (.const (.bool false)))⟩,
     ⟨(some 6), none, (.mv (.tmp 32))⟩])
   .ret))
theorem f_sclaw09_small : compF Try.prog 14 = some (33, c_sclaw09_small, [(.tmp 6)]) := by kernel_rfl

/-- seedcorn/machine.Step -/
def c_machine_Step : VC :=
 (.seq
  (.ops [
    ⟨(some 3), none, (.box 24 (.tmp 0))⟩,
    ⟨(some 5), none, (.box 30 (.tmp 2))⟩,
    ⟨(some 6), none, (.alc 30 [(.int .i64 0), (.int .u32 0), (.int .u32 0), (.int .u32 0), (.int .u32 0), (.int .u32 0), (.int .u32 0), (.int .u32 0), (.int .u32 0), (.int .u32 0), (.int .u32 0), (.int .u32 0), (.int .u32 0), (.int .u32 0), (.int .u32 0), (.int .u32 0), (.int .u32 0), (.slice none 0 0), (.int .i64 0), (.string ⟨#[]⟩), (.int .i64 0), (.int .i64 0)])⟩])
  (.seq
   (.ops [
     ⟨(some 8), none, (.ld true 2 (.tmp 3))⟩,
     ⟨(some 9), none, (.mv (.tmp 1))⟩,
     ⟨(some 10), none, (.ld true 22 (.tmp 5))⟩,
     ⟨(some 11), none, (.call (.func 21) [(.tmp 8), (.tmp 9), (.tmp 10)])⟩,
     ⟨(some 7), none, (.mv (.tmp 11))⟩])
   (.seq
    (.ops [
      ⟨(some 12), none, (.mv (.tmp 7))⟩,
      ⟨(some 13), none, (.call (.func 22) [(.tmp 12)])⟩])
    (.seq
     (.ops [
       ⟨(some 14), none, (.mv (.tmp 7))⟩,
       ⟨(some 15), none, (.call (.func 23) [(.tmp 14)])⟩,
       ⟨none, none, (.sto true 22 (.tmp 6) (.tmp 15))⟩])
     .ret))))
theorem f_machine_Step : compF Try.prog 15 = some (16, c_machine_Step, [(.cell 6 true 22)]) := by kernel_rfl

/-- seedcorn/machine.Same -/
def c_machine_Same : VC :=
 (.seq
  (.ops [
    ⟨(some 2), none, (.box 30 (.tmp 0))⟩,
    ⟨(some 3), none, (.box 30 (.tmp 1))⟩,
    ⟨(some 4), none, (.mv (.const (.bool false)))⟩])
  (.seq
   (.ops [
     ⟨(some 5), none, (.fad 0 false 1 (.tmp 2))⟩,
     ⟨(some 6), none, (.ld false 1 (.tmp 5))⟩,
     ⟨(some 7), none, (.fad 0 false 1 (.tmp 3))⟩,
     ⟨(some 8), none, (.ld false 1 (.tmp 7))⟩,
     ⟨(some 9), none, (.bin .eql (.tmp 6) (.tmp 8))⟩,
     ⟨(some 10), none, (.mv (.tmp 9))⟩,
     ⟨(some 11), (some (10, true)), (.fad 1 true 16 (.tmp 2))⟩,
     ⟨(some 12), (some (10, true)), (.ld true 16 (.tmp 11))⟩,
     ⟨(some 13), (some (10, true)), (.fad 1 true 16 (.tmp 3))⟩,
     ⟨(some 14), (some (10, true)), (.ld true 16 (.tmp 13))⟩,
     ⟨(some 15), (some (10, true)), (.pur (.eqv false [.int, .int, .int, .int, .int, .int, .int, .int, .int, .int, .int, .int, .int, .int, .int, .int]) [(.tmp 12), (.tmp 14)])⟩,
     ⟨(some 16), none, (.pick (.tmp 10) (.tmp 15) (.const (.bool false)))⟩,
     ⟨(some 17), none, (.mv (.tmp 16))⟩,
     ⟨(some 18), (some (17, true)), (.fad 17 false 1 (.tmp 2))⟩,
     ⟨(some 19), (some (17, true)), (.ld false 1 (.tmp 18))⟩,
     ⟨(some 20), (some (17, true)), (.fad 17 false 1 (.tmp 3))⟩,
     ⟨(some 21), (some (17, true)), (.ld false 1 (.tmp 20))⟩,
     ⟨(some 22), (some (17, true)), (.call (.func 32) [(.tmp 19), (.tmp 21)])⟩,
     ⟨(some 23), none, (.pick (.tmp 17) (.tmp 22) (.const (.bool false)))⟩,
     ⟨(some 24), none, (.mv (.tmp 23))⟩,
     ⟨(some 25), (some (24, true)), (.fad 18 false 1 (.tmp 2))⟩,
     ⟨(some 26), (some (24, true)), (.ld false 1 (.tmp 25))⟩,
     ⟨(some 27), (some (24, true)), (.fad 18 false 1 (.tmp 3))⟩,
     ⟨(some 28), (some (24, true)), (.ld false 1 (.tmp 27))⟩,
     ⟨(some 29), (some (24, true)), (.bin .eql (.tmp 26) (.tmp 28))⟩,
     ⟨(some 30), none, (.pick (.tmp 24) (.tmp 29) (.const (.bool false)))⟩,
     ⟨(some 31), none, (.mv (.tmp 30))⟩,
     ⟨(some 32), (some (31, true)), (.fad 19 false 1 (.tmp 2))⟩,
     ⟨(some 33), (some (31, true)), (.ld false 1 (.tmp 32))⟩,
     ⟨(some 34), (some (31, true)), (.fad 19 false 1 (.tmp 3))⟩,
     ⟨(some 35), (some (31, true)), (.ld false 1 (.tmp 34))⟩,
     ⟨(some 36), (some (31, true)), (.bin .eql (.tmp 33) (.tmp 35))⟩,
     ⟨(some 37), none, (.pick (.tmp 31) (.tmp 36) (.const (.bool false)))⟩,
     ⟨(some 38), none, (.mv (.tmp 37))⟩,
     ⟨(some 39), (some (38, true)), (.fad 20 false 1 (.tmp 2))⟩,
     ⟨(some 40), (some (38, true)), (.ld false 1 (.tmp 39))⟩,
     ⟨(some 41), (some (38, true)), (.fad 20 false 1 (.tmp 3))⟩,
     ⟨(some 42), (some (38, true)), (.ld false 1 (.tmp 41))⟩,
     ⟨(some 43), (some (38, true)), (.bin .eql (.tmp 40) (.tmp 42))⟩,
     ⟨(some 44), none, (.pick (.tmp 38) (.tmp 43) (.const (.bool false)))⟩,
     ⟨(some 45), none, (.mv (.tmp 44))⟩,
     ⟨(some 46), (some (45, true)), (.fad 21 false 1 (.tmp 2))⟩,
     ⟨(some 47), (some (45, true)), (.ld false 1 (.tmp 46))⟩,
     ⟨(some 48), (some (45, true)), (.fad 21 false 1 (.tmp 3))⟩,
     ⟨(some 49), (some (45, true)), (.ld false 1 (.tmp 48))⟩,
     ⟨(some 50), (some (45, true)), (.bin .eql (.tmp 47) (.tmp 49))⟩,
     ⟨(some 51), none, (.pick (.tmp 45) (.tmp 50) (.const (.bool false)))⟩,
     ⟨(some 4), none, (.mv (.tmp 51))⟩])
   .ret))
theorem f_machine_Same : compF Try.prog 17 = some (52, c_machine_Same, [(.tmp 4)]) := by kernel_rfl

/-- seedcorn/seedcornref07.Decode -/
def c_scref07_Decode : VC :=
 (.seq
  (.ops [
    ⟨(some 2), none, (.alc 40 [(.int .i64 0), (.int .i64 0), (.int .i64 0), (.int .i64 0)])⟩,
    ⟨(some 3), none, (.mv (.const (.int .i64 0)))⟩])
  (.seq
   (.ops [
     ⟨(some 5), none, (.mv (.tmp 0))⟩,
     ⟨(some 6), none, (.bin .quo (.tmp 5) (.const (.int .u32 16777216)))⟩,
     ⟨(some 7), none, (.conv .i64 (.tmp 6))⟩,
     ⟨(some 8), none, (.mv (.tmp 0))⟩,
     ⟨(some 9), none, (.bin .quo (.tmp 8) (.const (.int .u32 1048576)))⟩,
     ⟨(some 10), none, (.bin .rem (.tmp 9) (.const (.int .u32 16)))⟩,
     ⟨(some 11), none, (.conv .i64 (.tmp 10))⟩,
     ⟨(some 12), none, (.mv (.tmp 0))⟩,
     ⟨(some 13), none, (.bin .quo (.tmp 12) (.const (.int .u32 65536)))⟩,
     ⟨(some 14), none, (.bin .rem (.tmp 13) (.const (.int .u32 16)))⟩,
     ⟨(some 15), none, (.conv .i64 (.tmp 14))⟩,
     ⟨(some 16), none, (.mv (.tmp 0))⟩,
     ⟨(some 17), none, (.bin .rem (.tmp 16) (.const (.int .u32 65536)))⟩,
     ⟨(some 18), none, (.conv .i64 (.tmp 17))⟩,
     ⟨(some 19), none, (.bld [(.int .i64 0), (.int .i64 0), (.int .i64 0), (.int .i64 0)] [(0, (1, (.tmp 7))), (1, (1, (.tmp 11))), (2, (1, (.tmp 15))), (3, (1, (.tmp 18)))])⟩,
     ⟨(some 4), none, (.alc 40 [(.int .i64 0), (.int .i64 0), (.int .i64 0), (.int .i64 0)])⟩,
     ⟨none, none, (.sto true 4 (.tmp 4) (.tmp 19))⟩])
   (.seq
    (.seq
     (.ops [
       ⟨(some 20), none, (.ld true 4 (.tmp 4))⟩,
       ⟨(some 21), none, (.call (.func 33) [(.tmp 20)])⟩,
       ⟨(some 22), none, (.un .not (.tmp 21))⟩])
     (.cond (.tmp 22)
      (.seq
       (.ops [
         ⟨(some 23), none, (.bld [(.int .i64 0), (.int .i64 0), (.int .i64 0), (.int .i64 0)] [])⟩,
         ⟨none, none, (.sto true 4 (.tmp 2) (.tmp 23))⟩,
         ⟨(some 3), none, (.mv (.const (.int .i64 7)))⟩])
       .ret)
      .skip))
    (.seq
     (.ops [
       ⟨(some 24), none, (.ld true 4 (.tmp 4))⟩,
       ⟨none, none, (.sto true 4 (.tmp 2) (.tmp 24))⟩,
       ⟨(some 3), none, (.mv (.const (.int .i64 0)))⟩])
     .ret))))
theorem f_scref07_Decode : compF Try.prog 18 = some (25, c_scref07_Decode, [(.cell 2 true 4), (.tmp 3)]) := by kernel_rfl

/-- seedcorn/seedcornref07.Encode -/
def c_scref07_Encode : VC :=
 (.seq
  (.ops [
    ⟨(some 1), none, (.box 40 (.tmp 0))⟩,
    ⟨(some 2), none, (.mv (.const (.int .u32 0)))⟩,
    ⟨(some 3), none, (.mv (.const (.int .i64 0)))⟩])
  (.seq
   (.seq
    (.ops [
      ⟨(some 4), none, (.ld true 4 (.tmp 1))⟩,
      ⟨(some 5), none, (.call (.func 33) [(.tmp 4)])⟩,
      ⟨(some 6), none, (.un .not (.tmp 5))⟩])
    (.cond (.tmp 6)
     (.seq
      (.ops [
        ⟨(some 2), none, (.mv (.const (.int .u32 0)))⟩,
        ⟨(some 3), none, (.mv (.const (.int .i64 1)))⟩])
      .ret)
     .skip))
   (.seq
    (.ops [
      ⟨(some 7), none, (.fad 0 false 1 (.tmp 1))⟩,
      ⟨(some 8), none, (.ld false 1 (.tmp 7))⟩,
      ⟨(some 9), none, (.bin .mul (.tmp 8) (.const (.int .i64 16777216)))⟩,
      ⟨(some 10), none, (.fad 1 false 1 (.tmp 1))⟩,
      ⟨(some 11), none, (.ld false 1 (.tmp 10))⟩,
      ⟨(some 12), none, (.bin .mul (.tmp 11) (.const (.int .i64 1048576)))⟩,
      ⟨(some 13), none, (.bin .add (.tmp 9) (.tmp 12))⟩,
      ⟨(some 14), none, (.fad 2 false 1 (.tmp 1))⟩,
      ⟨(some 15), none, (.ld false 1 (.tmp 14))⟩,
      ⟨(some 16), none, (.bin .mul (.tmp 15) (.const (.int .i64 65536)))⟩,
      ⟨(some 17), none, (.bin .add (.tmp 13) (.tmp 16))⟩,
      ⟨(some 18), none, (.fad 3 false 1 (.tmp 1))⟩,
      ⟨(some 19), none, (.ld false 1 (.tmp 18))⟩,
      ⟨(some 20), none, (.bin .add (.tmp 17) (.tmp 19))⟩,
      ⟨(some 21), none, (.conv .u32 (.tmp 20))⟩,
      ⟨(some 2), none, (.mv (.tmp 21))⟩,
      ⟨(some 3), none, (.mv (.const (.int .i64 0)))⟩])
    .ret)))
theorem f_scref07_Encode : compF Try.prog 19 = some (22, c_scref07_Encode, [(.tmp 2), (.tmp 3)]) := by kernel_rfl

/-- seedcorn/seedcornref09.Words -/
def c_scref09_Words : VC :=
 (.seq
  (.ops [
    ⟨(some 4), none, (.mv (.const (.bool false)))⟩])
  (.seq
   (.seq
    (.ops [
      ⟨(some 6), none, (.mv (.tmp 0))⟩,
      ⟨(some 7), none, (.len (.tmp 6))⟩,
      ⟨(some 8), none, (.mv (.tmp 1))⟩,
      ⟨(some 9), none, (.len (.tmp 8))⟩,
      ⟨(some 10), none, (.bin .neq (.tmp 7) (.tmp 9))⟩])
    (.cond (.tmp 10)
     (.seq
      (.ops [
        ⟨(some 4), none, (.mv (.const (.bool false)))⟩])
      .ret)
     .skip))
   (.seq
    (.seq
     (.ops [
       ⟨(some 5), none, (.mv (.const (.int .i64 0)))⟩])
     (.block 0
      (.loop
       (.seq
        (.seq
         (.ops [
           ⟨(some 11), none, (.mv (.tmp 5))⟩,
           ⟨(some 12), none, (.mv (.tmp 0))⟩,
           ⟨(some 13), none, (.len (.tmp 12))⟩,
           ⟨(some 14), none, (.bin .lss (.tmp 11) (.tmp 13))⟩])
         (.cond (.tmp 14)
          .skip
          (.exit 0)))
        (.seq
         (.block 1
          (.seq
           (.ops [
             ⟨(some 17), none, (.mv (.tmp 0))⟩,
             ⟨(some 18), none, (.mv (.tmp 5))⟩,
             ⟨(some 19), none, (.idx 1 (.tmp 17) (.tmp 18))⟩,
             ⟨(some 20), none, (.ld false 1 (.tmp 19))⟩,
             ⟨(some 21), none, (.mv (.tmp 1))⟩,
             ⟨(some 22), none, (.mv (.tmp 5))⟩,
             ⟨(some 23), none, (.idx 1 (.tmp 21) (.tmp 22))⟩,
             ⟨(some 24), none, (.ld false 1 (.tmp 23))⟩,
             ⟨(some 25), none, (.bin .neq (.tmp 20) (.tmp 24))⟩])
           (.cond (.tmp 25)
            (.seq
             (.ops [
               ⟨(some 4), none, (.mv (.const (.bool false)))⟩])
             .ret)
            .skip)))
         (.ops [
           ⟨(some 15), none, (.mv (.tmp 5))⟩,
           ⟨(some 16), none, (.bin .add (.tmp 15) (.const (.int .i64 1)))⟩,
           ⟨(some 5), none, (.mv (.tmp 16))⟩]))))))
    (.seq
     (.ops [
       ⟨(some 4), none, (.mv (.const (.bool true)))⟩])
     .ret))))
theorem f_scref09_Words : compF Try.prog 20 = some (26, c_scref09_Words, [(.tmp 4)]) := by kernel_rfl

/-- seedcorn/machine.New -/
def c_machine_New : VC :=
 (.seq
  (.ops [
    ⟨(some 3), none, (.box 24 (.tmp 0))⟩,
    ⟨(some 5), none, (.box 30 (.tmp 2))⟩,
    ⟨(some 6), none, (.mv (.const (.pointer none)))⟩])
  (.seq
   (.ops [
     ⟨(some 7), none, (.fad 0 false 1 (.tmp 3))⟩,
     ⟨(some 8), none, (.ld false 1 (.tmp 7))⟩,
     ⟨(some 9), none, (.mv (.tmp 1))⟩,
     ⟨(some 10), none, (.ld true 22 (.tmp 5))⟩,
     ⟨(some 11), none, (.bld [(.slice none 0 0), (.string ⟨#[]⟩), (.int .i64 0), (.int .u32 0), (.int .u32 0), (.int .u32 0), (.int .u32 0), (.int .u32 0), (.int .u32 0), (.int .u32 0), (.int .u32 0), (.int .u32 0), (.int .u32 0), (.int .u32 0), (.int .u32 0), (.int .u32 0), (.int .u32 0), (.int .u32 0), (.int .u32 0), (.slice none 0 0), (.int .i64 0), (.string ⟨#[]⟩), (.int .i64 0), (.int .i64 0), (.bool false), (.slice none 0 0)] [(0, (1, (.tmp 8))), (1, (1, (.tmp 9))), (2, (22, (.tmp 10)))])⟩,
     ⟨(some 12), none, (.box 62 (.tmp 11))⟩,
     ⟨(some 6), none, (.mv (.tmp 12))⟩])
   .ret))
theorem f_machine_New : compF Try.prog 21 = some (13, c_machine_New, [(.tmp 6)]) := by kernel_rfl

/-- (*seedcorn/machine.Runner).Step -/
def c_machine_Runner_Step : VC :=
 (.seq
  (.ops [
    ⟨(some 2), none, (.mv (.const (.bool false)))⟩])
  (.seq
   (.seq
    (.ops [
      ⟨(some 6), none, (.mv (.tmp 0))⟩,
      ⟨(some 7), none, (.nck (.tmp 6))⟩,
      ⟨(some 8), none, (.fad 2 true 22 (.tmp 7))⟩,
      ⟨(some 9), none, (.fad 21 false 1 (.tmp 8))⟩,
      ⟨(some 10), none, (.ld false 1 (.tmp 9))⟩,
      ⟨(some 11), none, (.bin .neq (.tmp 10) (.const (.int .i64 0)))⟩])
    (.cond (.tmp 11)
     (.seq
      (.ops [
        ⟨(some 2), none, (.mv (.const (.bool false)))⟩])
      .ret)
     .skip))
   (.seq
    (.seq
     (.ops [
       ⟨(some 12), none, (.mv (.tmp 0))⟩,
       ⟨(some 13), none, (.nck (.tmp 12))⟩,
       ⟨(some 14), none, (.fad 2 true 22 (.tmp 13))⟩,
       ⟨(some 15), none, (.fad 0 false 1 (.tmp 14))⟩,
       ⟨(some 16), none, (.ld false 1 (.tmp 15))⟩,
       ⟨(some 17), none, (.bin .lss (.tmp 16) (.const (.int .i64 0)))⟩,
       ⟨(some 18), none, (.mv (.tmp 17))⟩,
       ⟨(some 19), (some (18, false)), (.mv (.tmp 0))⟩,
       ⟨(some 20), (some (18, false)), (.nck (.tmp 19))⟩,
       ⟨(some 21), (some (18, false)), (.fad 2 true 22 (.tmp 20))⟩,
       ⟨(some 22), (some (18, false)), (.fad 0 false 1 (.tmp 21))⟩,
       ⟨(some 23), (some (18, false)), (.ld false 1 (.tmp 22))⟩,
       ⟨(some 24), (some (18, false)), (.mv (.tmp 0))⟩,
       ⟨(some 25), (some (18, false)), (.nck (.tmp 24))⟩,
       ⟨(some 26), (some (18, false)), (.fad 0 false 1 (.tmp 25))⟩,
       ⟨(some 27), (some (18, false)), (.ld false 1 (.tmp 26))⟩,
       ⟨(some 28), (some (18, false)), (.len (.tmp 27))⟩,
       ⟨(some 29), (some (18, false)), (.bin .geq (.tmp 23) (.tmp 28))⟩,
       ⟨(some 30), none, (.pick (.tmp 18) (.const (.bool true)) (.tmp 29))⟩])
     (.cond (.tmp 30)
      (.seq
       (.ops [
         ⟨(some 31), none, (.mv (.tmp 0))⟩,
         ⟨(some 32), none, (.nck (.tmp 31))⟩,
         ⟨(some 33), none, (.fad 2 true 22 (.tmp 32))⟩,
         ⟨(some 34), none, (.fad 21 false 1 (.tmp 33))⟩,
         ⟨none, none, (.sto false 1 (.tmp 34) (.const (.int .i64 7)))⟩])
       (.seq
        (.ops [
          ⟨(some 2), none, (.mv (.const (.bool false)))⟩])
        .ret))
      .skip))
    (.seq
     (.ops [
       ⟨(some 35), none, (.mv (.tmp 0))⟩,
       ⟨(some 36), none, (.nck (.tmp 35))⟩,
       ⟨(some 37), none, (.fad 2 true 22 (.tmp 36))⟩,
       ⟨(some 38), none, (.fad 20 false 1 (.tmp 37))⟩,
       ⟨(some 39), none, (.ld false 1 (.tmp 38))⟩,
       ⟨(some 40), none, (.bin .add (.tmp 39) (.const (.int .i64 1)))⟩,
       ⟨(some 41), none, (.nck (.tmp 35))⟩,
       ⟨(some 42), none, (.fad 2 true 22 (.tmp 41))⟩,
       ⟨(some 43), none, (.fad 20 false 1 (.tmp 42))⟩,
       ⟨none, none, (.sto false 1 (.tmp 43) (.tmp 40))⟩])
     (.seq
      (.par false (.one ⟨(some 45), none, (.mv (.tmp 0))⟩ (.one ⟨(some 46), none, (.nck (.tmp 45))⟩ (.one ⟨(some 47), none, (.fad 0 false 1 (.tmp 46))⟩ (.one ⟨(some 48), none, (.ld false 1 (.tmp 47))⟩ (.one ⟨(some 49), none, (.mv (.tmp 0))⟩ (.one ⟨(some 50), none, (.nck (.tmp 49))⟩ (.one ⟨(some 51), none, (.fad 2 true 22 (.tmp 50))⟩ (.one ⟨(some 52), none, (.fad 0 false 1 (.tmp 51))⟩ (.one ⟨(some 53), none, (.ld false 1 (.tmp 52))⟩ (.one ⟨(some 54), none, (.idx 1 (.tmp 48) (.tmp 53))⟩ (.one ⟨(some 55), none, (.ld false 1 (.tmp 54))⟩ (.one ⟨(some 56), none, (.call (.func 34) [(.tmp 55)])⟩ (.one ⟨(some 44), none, (.mv (.tmp 56))⟩ (.one ⟨(some 57), none, (.ext (.tmp 44) 0)⟩ (.one ⟨(some 58), none, (.ext (.tmp 44) 1)⟩ (.one ⟨(some 3), none, (.alc 40 [(.int .i64 0), (.int .i64 0), (.int .i64 0), (.int .i64 0)])⟩ (.one ⟨none, none, (.sto true 4 (.tmp 3) (.tmp 57))⟩ (.one ⟨(some 4), none, (.mv (.tmp 58))⟩ .done)))))))))))))))))))
      (.seq
       (.seq
        (.ops [
          ⟨(some 59), none, (.mv (.tmp 4))⟩,
          ⟨(some 60), none, (.bin .neq (.tmp 59) (.const (.int .i64 0)))⟩])
        (.cond (.tmp 60)
         (.seq
          (.ops [
            ⟨(some 61), none, (.mv (.tmp 0))⟩,
            ⟨(some 62), none, (.nck (.tmp 61))⟩,
            ⟨(some 63), none, (.fad 2 true 22 (.tmp 62))⟩,
            ⟨(some 64), none, (.fad 21 false 1 (.tmp 63))⟩,
            ⟨none, none, (.sto false 1 (.tmp 64) (.const (.int .i64 6)))⟩])
          (.seq
           (.ops [
             ⟨(some 2), none, (.mv (.const (.bool true)))⟩])
           .ret))
         .skip))
       (.seq
        (.seq
         (.ops [
           ⟨(some 65), none, (.mv (.tmp 0))⟩,
           ⟨(some 66), none, (.ld true 4 (.tmp 3))⟩,
           ⟨(some 67), none, (.call (.func 35) [(.tmp 65), (.tmp 66)])⟩,
           ⟨(some 5), none, (.mv (.tmp 67))⟩])
         (.seq
          (.ops [
            ⟨(some 68), none, (.mv (.tmp 5))⟩,
            ⟨(some 69), none, (.bin .neq (.tmp 68) (.const (.int .i64 0)))⟩])
          (.cond (.tmp 69)
           (.ops [
             ⟨(some 70), none, (.mv (.tmp 0))⟩,
             ⟨(some 71), none, (.mv (.tmp 5))⟩,
             ⟨(some 72), none, (.nck (.tmp 70))⟩,
             ⟨(some 73), none, (.fad 2 true 22 (.tmp 72))⟩,
             ⟨(some 74), none, (.fad 21 false 1 (.tmp 73))⟩,
             ⟨none, none, (.sto false 1 (.tmp 74) (.tmp 71))⟩])
           .skip)))
        (.seq
         (.ops [
           ⟨(some 2), none, (.mv (.const (.bool true)))⟩])
         .ret))))))))
theorem f_machine_Runner_Step : compF Try.prog 22 = some (75, c_machine_Runner_Step, [(.tmp 2)]) := by kernel_rfl

/-- (*seedcorn/machine.Runner).State -/
def c_machine_Runner_State : VC :=
 (.seq
  (.ops [
    ⟨(some 2), none, (.alc 30 [(.int .i64 0), (.int .u32 0), (.int .u32 0), (.int .u32 0), (.int .u32 0), (.int .u32 0), (.int .u32 0), (.int .u32 0), (.int .u32 0), (.int .u32 0), (.int .u32 0), (.int .u32 0), (.int .u32 0), (.int .u32 0), (.int .u32 0), (.int .u32 0), (.int .u32 0), (.slice none 0 0), (.int .i64 0), (.string ⟨#[]⟩), (.int .i64 0), (.int .i64 0)])⟩])
  (.seq
   (.seq
    (.ops [
      ⟨(some 3), none, (.mv (.tmp 0))⟩,
      ⟨(some 4), none, (.nck (.tmp 3))⟩,
      ⟨(some 5), none, (.fad 25 false 1 (.tmp 4))⟩,
      ⟨(some 6), none, (.ld false 1 (.tmp 5))⟩,
      ⟨(some 7), none, (.len (.tmp 6))⟩,
      ⟨(some 8), none, (.bin .gtr (.tmp 7) (.const (.int .i64 0)))⟩])
    (.cond (.tmp 8)
     (.seq
      (.ops [
        ⟨(some 9), none, (.mv (.tmp 0))⟩,
        ⟨(some 10), none, (.nck (.tmp 9))⟩,
        ⟨(some 11), none, (.fad 2 true 22 (.tmp 10))⟩,
        ⟨(some 12), none, (.fad 19 false 1 (.tmp 11))⟩,
        ⟨(some 13), none, (.ld false 1 (.tmp 12))⟩,
        ⟨(some 14), none, (.mv (.tmp 0))⟩,
        ⟨(some 15), none, (.nck (.tmp 14))⟩,
        ⟨(some 16), none, (.fad 25 false 1 (.tmp 15))⟩,
        ⟨(some 17), none, (.ld false 1 (.tmp 16))⟩,
        ⟨(some 18), none, (.see .b2s [(.tmp 17)])⟩,
        ⟨(some 19), none, (.bin .add (.tmp 13) (.tmp 18))⟩,
        ⟨(some 20), none, (.nck (.tmp 9))⟩,
        ⟨(some 21), none, (.fad 2 true 22 (.tmp 20))⟩,
        ⟨(some 22), none, (.fad 19 false 1 (.tmp 21))⟩,
        ⟨none, none, (.sto false 1 (.tmp 22) (.tmp 19))⟩])
      (.ops [
        ⟨(some 23), none, (.mv (.tmp 0))⟩,
        ⟨(some 24), none, (.nck (.tmp 23))⟩,
        ⟨(some 25), none, (.fad 25 false 1 (.tmp 24))⟩,
        ⟨none, none, (.sto false 1 (.tmp 25) (.const (.slice none 0 0)))⟩]))
     .skip))
   (.seq
    (.ops [
      ⟨(some 26), none, (.mv (.tmp 0))⟩,
      ⟨(some 27), none, (.nck (.tmp 26))⟩,
      ⟨(some 28), none, (.fad 24 false 1 (.tmp 27))⟩,
      ⟨none, none, (.sto false 1 (.tmp 28) (.const (.bool false)))⟩])
    (.seq
     (.ops [
       ⟨(some 29), none, (.mv (.tmp 0))⟩,
       ⟨(some 30), none, (.nck (.tmp 29))⟩,
       ⟨(some 31), none, (.fad 2 true 22 (.tmp 30))⟩,
       ⟨(some 32), none, (.ld true 22 (.tmp 31))⟩,
       ⟨none, none, (.sto true 22 (.tmp 2) (.tmp 32))⟩])
     .ret))))
theorem f_machine_Runner_State : compF Try.prog 23 = some (33, c_machine_Runner_State, [(.cell 2 true 22)]) := by kernel_rfl

/-- seedcorn/seedcornref01.Apply -/
def c_scref01_Apply : VC :=
 (.seq
  (.ops [
    ⟨(some 6), none, (.mv (.const (.int .u32 0)))⟩,
    ⟨(some 7), none, (.mv (.const (.int .i64 0)))⟩])
  (.seq
   (.ops [
     ⟨(some 10), none, (.mv (.tmp 1))⟩,
     ⟨(some 11), none, (.conv .u64 (.tmp 10))⟩,
     ⟨(some 12), none, (.mv (.tmp 2))⟩,
     ⟨(some 13), none, (.conv .u64 (.tmp 12))⟩,
     ⟨(some 8), none, (.mv (.tmp 11))⟩,
     ⟨(some 9), none, (.mv (.tmp 13))⟩])
   (.seq
    (.seq
     (.ops [
       ⟨(some 14), none, (.mv (.tmp 0))⟩])
     (.block 0
      (.seq
       (.ops [
         ⟨(some 16), none, (.bin .eql (.tmp 14) (.const (.int .i64 4)))⟩,
         ⟨(some 15), none, (.mv (.tmp 16))⟩])
       (.cond (.tmp 15)
        (.seq
         (.ops [
           ⟨(some 17), none, (.mv (.tmp 8))⟩,
           ⟨(some 18), none, (.mv (.tmp 9))⟩,
           ⟨(some 19), none, (.bin .add (.tmp 17) (.tmp 18))⟩,
           ⟨(some 20), none, (.bin .rem (.tmp 19) (.const (.int .u64 4294967296)))⟩,
           ⟨(some 21), none, (.conv .u32 (.tmp 20))⟩,
           ⟨(some 6), none, (.mv (.tmp 21))⟩,
           ⟨(some 7), none, (.mv (.const (.int .i64 0)))⟩])
         .ret)
        (.seq
         (.ops [
           ⟨(some 23), none, (.bin .eql (.tmp 14) (.const (.int .i64 5)))⟩,
           ⟨(some 22), none, (.mv (.tmp 23))⟩])
         (.cond (.tmp 22)
          (.seq
           (.ops [
             ⟨(some 24), none, (.mv (.tmp 8))⟩,
             ⟨(some 25), none, (.bin .add (.tmp 24) (.const (.int .u64 4294967296)))⟩,
             ⟨(some 26), none, (.mv (.tmp 9))⟩,
             ⟨(some 27), none, (.bin .sub (.tmp 25) (.tmp 26))⟩,
             ⟨(some 28), none, (.bin .rem (.tmp 27) (.const (.int .u64 4294967296)))⟩,
             ⟨(some 29), none, (.conv .u32 (.tmp 28))⟩,
             ⟨(some 6), none, (.mv (.tmp 29))⟩,
             ⟨(some 7), none, (.mv (.const (.int .i64 0)))⟩])
           .ret)
          (.seq
           (.ops [
             ⟨(some 31), none, (.bin .eql (.tmp 14) (.const (.int .i64 6)))⟩,
             ⟨(some 30), none, (.mv (.tmp 31))⟩])
           (.cond (.tmp 30)
            (.seq
             (.ops [
               ⟨(some 32), none, (.mv (.tmp 8))⟩,
               ⟨(some 33), none, (.mv (.tmp 9))⟩,
               ⟨(some 34), none, (.bin .mul (.tmp 32) (.tmp 33))⟩,
               ⟨(some 35), none, (.bin .rem (.tmp 34) (.const (.int .u64 4294967296)))⟩,
               ⟨(some 36), none, (.conv .u32 (.tmp 35))⟩,
               ⟨(some 6), none, (.mv (.tmp 36))⟩,
               ⟨(some 7), none, (.mv (.const (.int .i64 0)))⟩])
             .ret)
            (.seq
             (.ops [
               ⟨(some 38), none, (.bin .eql (.tmp 14) (.const (.int .i64 7)))⟩,
               ⟨(some 37), none, (.mv (.tmp 38))⟩])
             (.cond (.tmp 37)
              (.seq
               (.seq
                (.ops [
                  ⟨(some 39), none, (.mv (.tmp 2))⟩,
                  ⟨(some 40), none, (.bin .eql (.tmp 39) (.const (.int .u32 0)))⟩])
                (.cond (.tmp 40)
                 (.seq
                  (.ops [
                    ⟨(some 6), none, (.mv (.const (.int .u32 0)))⟩,
                    ⟨(some 7), none, (.mv (.const (.int .i64 14)))⟩])
                  .ret)
                 .skip))
               (.seq
                (.ops [
                  ⟨(some 41), none, (.mv (.tmp 8))⟩,
                  ⟨(some 42), none, (.mv (.tmp 9))⟩,
                  ⟨(some 43), none, (.bin .quo (.tmp 41) (.tmp 42))⟩,
                  ⟨(some 44), none, (.conv .u32 (.tmp 43))⟩,
                  ⟨(some 6), none, (.mv (.tmp 44))⟩,
                  ⟨(some 7), none, (.mv (.const (.int .i64 0)))⟩])
                .ret))
              (.seq
               (.ops [
                 ⟨(some 46), none, (.bin .eql (.tmp 14) (.const (.int .i64 8)))⟩,
                 ⟨(some 45), none, (.mv (.tmp 46))⟩])
               (.cond (.tmp 45)
                (.seq
                 (.seq
                  (.ops [
                    ⟨(some 47), none, (.mv (.tmp 2))⟩,
                    ⟨(some 48), none, (.bin .eql (.tmp 47) (.const (.int .u32 0)))⟩])
                  (.cond (.tmp 48)
                   (.seq
                    (.ops [
                      ⟨(some 6), none, (.mv (.const (.int .u32 0)))⟩,
                      ⟨(some 7), none, (.mv (.const (.int .i64 14)))⟩])
                    .ret)
                   .skip))
                 (.seq
                  (.ops [
                    ⟨(some 49), none, (.mv (.tmp 8))⟩,
                    ⟨(some 50), none, (.mv (.tmp 9))⟩,
                    ⟨(some 51), none, (.bin .rem (.tmp 49) (.tmp 50))⟩,
                    ⟨(some 52), none, (.conv .u32 (.tmp 51))⟩,
                    ⟨(some 6), none, (.mv (.tmp 52))⟩,
                    ⟨(some 7), none, (.mv (.const (.int .i64 0)))⟩])
                  .ret))
                (.seq
                 (.seq
                  (.ops [
                    ⟨(some 54), none, (.bin .eql (.tmp 14) (.const (.int .i64 9)))⟩,
                    ⟨(some 53), none, (.mv (.tmp 54))⟩])
                  (.cond (.tmp 53)
                   .skip
                   (.seq
                    (.ops [
                      ⟨(some 55), none, (.bin .eql (.tmp 14) (.const (.int .i64 10)))⟩,
                      ⟨(some 53), none, (.mv (.tmp 55))⟩])
                    (.cond (.tmp 53)
                     .skip
                     (.ops [
                       ⟨(some 56), none, (.bin .eql (.tmp 14) (.const (.int .i64 11)))⟩,
                       ⟨(some 53), none, (.mv (.tmp 56))⟩])))))
                 (.cond (.tmp 53)
                  (.seq
                   (.ops [
                     ⟨(some 57), none, (.mv (.tmp 0))⟩,
                     ⟨(some 58), none, (.mv (.tmp 1))⟩,
                     ⟨(some 59), none, (.mv (.tmp 2))⟩,
                     ⟨(some 60), none, (.call (.func 36) [(.tmp 57), (.tmp 58), (.tmp 59)])⟩,
                     ⟨(some 6), none, (.mv (.tmp 60))⟩,
                     ⟨(some 7), none, (.mv (.const (.int .i64 0)))⟩])
                   .ret)
                  (.seq
                   (.seq
                    (.ops [
                      ⟨(some 62), none, (.bin .eql (.tmp 14) (.const (.int .i64 12)))⟩,
                      ⟨(some 61), none, (.mv (.tmp 62))⟩])
                    (.cond (.tmp 61)
                     .skip
                     (.ops [
                       ⟨(some 63), none, (.bin .eql (.tmp 14) (.const (.int .i64 13)))⟩,
                       ⟨(some 61), none, (.mv (.tmp 63))⟩])))
                   (.cond (.tmp 61)
                    (.seq
                     (.ops [
                       ⟨(some 64), none, (.mv (.tmp 0))⟩,
                       ⟨(some 65), none, (.mv (.tmp 1))⟩,
                       ⟨(some 66), none, (.mv (.tmp 2))⟩,
                       ⟨(some 67), none, (.call (.func 37) [(.tmp 64), (.tmp 65), (.tmp 66)])⟩,
                       ⟨(some 6), none, (.mv (.tmp 67))⟩,
                       ⟨(some 7), none, (.mv (.const (.int .i64 0)))⟩])
                     .ret)
                    (.seq
                     (.ops [
                       ⟨(some 69), none, (.bin .eql (.tmp 14) (.const (.int .i64 14)))⟩,
                       ⟨(some 68), none, (.mv (.tmp 69))⟩])
                     (.cond (.tmp 68)
                      (.seq
                       (.ops [
                         ⟨(some 70), none, (.mv (.tmp 1))⟩,
                         ⟨(some 71), none, (.mv (.tmp 2))⟩,
                         ⟨(some 72), none, (.bin .lss (.tmp 70) (.tmp 71))⟩,
                         ⟨(some 73), none, (.call (.func 38) [(.tmp 72)])⟩,
                         ⟨(some 6), none, (.mv (.tmp 73))⟩,
                         ⟨(some 7), none, (.mv (.const (.int .i64 0)))⟩])
                       .ret)
                      (.seq
                       (.ops [
                         ⟨(some 75), none, (.bin .eql (.tmp 14) (.const (.int .i64 15)))⟩,
                         ⟨(some 74), none, (.mv (.tmp 75))⟩])
                       (.cond (.tmp 74)
                        (.seq
                         (.ops [
                           ⟨(some 76), none, (.mv (.tmp 1))⟩,
                           ⟨(some 77), none, (.mv (.tmp 2))⟩,
                           ⟨(some 78), none, (.bin .eql (.tmp 76) (.tmp 77))⟩,
                           ⟨(some 79), none, (.call (.func 38) [(.tmp 78)])⟩,
                           ⟨(some 6), none, (.mv (.tmp 79))⟩,
                           ⟨(some 7), none, (.mv (.const (.int .i64 0)))⟩])
                         .ret)
                        .skip))))))))))))))))))))
    (.seq
     (.ops [
       ⟨(some 6), none, (.mv (.const (.int .u32 0)))⟩,
       ⟨(some 7), none, (.mv (.const (.int .i64 1)))⟩])
     .ret))))
theorem f_scref01_Apply : compF Try.prog 25 = some (80, c_scref01_Apply, [(.tmp 6), (.tmp 7)]) := by kernel_rfl

/-- slices.Equal[[]uint32,uint32] -/
def c_slices_Equal__uint32uint32 : VC :=
 (.seq
  (.ops [
    ⟨(some 4), none, (.mv (.const (.bool false)))⟩])
  (.seq
   (.seq
    (.ops [
      ⟨(some 6), none, (.mv (.tmp 0))⟩,
      ⟨(some 7), none, (.len (.tmp 6))⟩,
      ⟨(some 8), none, (.mv (.tmp 1))⟩,
      ⟨(some 9), none, (.len (.tmp 8))⟩,
      ⟨(some 10), none, (.bin .neq (.tmp 7) (.tmp 9))⟩])
    (.cond (.tmp 10)
     (.seq
      (.ops [
        ⟨(some 4), none, (.mv (.const (.bool false)))⟩])
      .ret)
     .skip))
   (.seq
    (.seq
     (.ops [
       ⟨(some 11), none, (.mv (.tmp 0))⟩,
       ⟨(some 12), none, (.len (.tmp 11))⟩,
       ⟨(some 13), none, (.mv (.const (.int .i64 0)))⟩])
     (.block 0
      (.loop
       (.seq
        (.ops [
          ⟨(some 14), none, (.bin .lss (.tmp 13) (.tmp 12))⟩])
        (.seq
         (.cond (.tmp 14)
          .skip
          (.exit 0))
         (.seq
          (.block 1
           (.seq
            (.ops [
              ⟨(some 15), none, (.mv (.tmp 13))⟩,
              ⟨(some 5), none, (.mv (.tmp 15))⟩])
            (.seq
             (.ops [
               ⟨(some 16), none, (.mv (.tmp 0))⟩,
               ⟨(some 17), none, (.mv (.tmp 5))⟩,
               ⟨(some 18), none, (.idx 1 (.tmp 16) (.tmp 17))⟩,
               ⟨(some 19), none, (.ld false 1 (.tmp 18))⟩,
               ⟨(some 20), none, (.mv (.tmp 1))⟩,
               ⟨(some 21), none, (.mv (.tmp 5))⟩,
               ⟨(some 22), none, (.idx 1 (.tmp 20) (.tmp 21))⟩,
               ⟨(some 23), none, (.ld false 1 (.tmp 22))⟩,
               ⟨(some 24), none, (.bin .neq (.tmp 19) (.tmp 23))⟩])
             (.cond (.tmp 24)
              (.seq
               (.ops [
                 ⟨(some 4), none, (.mv (.const (.bool false)))⟩])
               .ret)
              .skip))))
          (.ops [
            ⟨(some 25), none, (.bin .add (.tmp 13) (.const (.int .i64 1)))⟩,
            ⟨(some 13), none, (.mv (.tmp 25))⟩])))))))
    (.seq
     (.ops [
       ⟨(some 4), none, (.mv (.const (.bool true)))⟩])
     .ret))))
theorem f_slices_Equal__uint32uint32 : compF Try.prog 32 = some (26, c_slices_Equal__uint32uint32, [(.tmp 4)]) := by kernel_rfl

/-- seedcorn/seedcornref07.Right -/
def c_scref07_Right : VC :=
 (.seq
  (.ops [
    ⟨(some 1), none, (.box 40 (.tmp 0))⟩,
    ⟨(some 2), none, (.mv (.const (.bool false)))⟩])
  (.seq
   (.ops [
     ⟨(some 5), none, (.fad 0 false 1 (.tmp 1))⟩,
     ⟨(some 6), none, (.ld false 1 (.tmp 5))⟩,
     ⟨(some 7), none, (.call (.func 39) [(.tmp 6)])⟩,
     ⟨(some 3), none, (.mv (.tmp 7))⟩])
   (.seq
    (.ops [
      ⟨(some 4), none, (.mv (.const (.int .i64 65535)))⟩])
    (.seq
     (.seq
      (.ops [
        ⟨(some 8), none, (.mv (.tmp 3))⟩,
        ⟨(some 9), none, (.call (.func 40) [(.tmp 8), (.const (.int .u8 114))])⟩])
      (.cond (.tmp 9)
       (.ops [
         ⟨(some 4), none, (.mv (.const (.int .i64 15)))⟩])
       .skip))
     (.seq
      (.par false (.one ⟨(some 10), none, (.mv (.tmp 3))⟩ (.one ⟨(some 11), none, (.bin .neq (.tmp 10) (.const (.string ⟨#[63]⟩)))⟩ (.one ⟨(some 12), none, (.mv (.tmp 11))⟩ (.one ⟨(some 13), (some (12, true)), (.mv (.tmp 3))⟩ (.one ⟨(some 14), (some (12, true)), (.call (.func 40) [(.tmp 13), (.const (.int .u8 97))])⟩ (.one ⟨(some 15), (some (12, true)), (.fad 1 false 1 (.tmp 1))⟩ (.one ⟨(some 16), (some (12, true)), (.ld false 1 (.tmp 15))⟩ (.one ⟨(some 17), (some (12, true)), (.call (.func 41) [(.tmp 14), (.tmp 16), (.const (.int .i64 15))])⟩ (.one ⟨(some 18), none, (.pick (.tmp 12) (.tmp 17) (.const (.bool false)))⟩ (.one ⟨(some 19), none, (.mv (.tmp 18))⟩ (.one ⟨(some 20), (some (19, true)), (.mv (.tmp 3))⟩ (.one ⟨(some 21), (some (19, true)), (.call (.func 40) [(.tmp 20), (.const (.int .u8 98))])⟩ (.one ⟨(some 22), (some (19, true)), (.fad 2 false 1 (.tmp 1))⟩ (.one ⟨(some 23), (some (19, true)), (.ld false 1 (.tmp 22))⟩ (.one ⟨(some 24), (some (19, true)), (.call (.func 41) [(.tmp 21), (.tmp 23), (.const (.int .i64 15))])⟩ (.one ⟨(some 25), none, (.pick (.tmp 19) (.tmp 24) (.const (.bool false)))⟩ (.one ⟨(some 26), none, (.mv (.tmp 25))⟩ (.one ⟨(some 27), (some (26, true)), (.mv (.tmp 3))⟩ (.one ⟨(some 28), (some (26, true)), (.call (.func 40) [(.tmp 27), (.const (.int .u8 99))])⟩ (.one ⟨(some 29), (some (26, true)), (.mv (.tmp 28))⟩ (.one ⟨(some 30), (some (29, false)), (.mv (.tmp 3))⟩ (.one ⟨(some 31), (some (29, false)), (.call (.func 40) [(.tmp 30), (.const (.int .u8 114))])⟩ (.one ⟨(some 32), (some (26, true)), (.pick (.tmp 29) (.const (.bool true)) (.tmp 31))⟩ (.one ⟨(some 33), (some (26, true)), (.fad 3 false 1 (.tmp 1))⟩ (.one ⟨(some 34), (some (26, true)), (.ld false 1 (.tmp 33))⟩ (.one ⟨(some 35), (some (26, true)), (.mv (.tmp 4))⟩ (.one ⟨(some 36), (some (26, true)), (.call (.func 41) [(.tmp 32), (.tmp 34), (.tmp 35)])⟩ (.one ⟨(some 37), none, (.pick (.tmp 26) (.tmp 36) (.const (.bool false)))⟩ (.one ⟨(some 2), none, (.mv (.tmp 37))⟩ .done))))))))))))))))))))))))))))))
      .ret)))))
theorem f_scref07_Right : compF Try.prog 33 = some (38, c_scref07_Right, [(.tmp 2)]) := by kernel_rfl

/-- seedcorn/inst.Decode -/
def c_inst_Decode : VC :=
 (.seq
  (.ops [
    ⟨(some 2), none, (.alc 40 [(.int .i64 0), (.int .i64 0), (.int .i64 0), (.int .i64 0)])⟩,
    ⟨(some 3), none, (.mv (.const (.int .i64 0)))⟩])
  (.seq
   (.ops [
     ⟨(some 5), none, (.mv (.tmp 0))⟩,
     ⟨(some 6), none, (.bin .shr (.tmp 5) (.const (.int .u64 24)))⟩,
     ⟨(some 7), none, (.conv .i64 (.tmp 6))⟩,
     ⟨(some 8), none, (.mv (.tmp 0))⟩,
     ⟨(some 9), none, (.bin .shr (.tmp 8) (.const (.int .u64 20)))⟩,
     ⟨(some 10), none, (.bin .and (.tmp 9) (.const (.int .u32 15)))⟩,
     ⟨(some 11), none, (.conv .i64 (.tmp 10))⟩,
     ⟨(some 12), none, (.mv (.tmp 0))⟩,
     ⟨(some 13), none, (.bin .shr (.tmp 12) (.const (.int .u64 16)))⟩,
     ⟨(some 14), none, (.bin .and (.tmp 13) (.const (.int .u32 15)))⟩,
     ⟨(some 15), none, (.conv .i64 (.tmp 14))⟩,
     ⟨(some 16), none, (.mv (.tmp 0))⟩,
     ⟨(some 17), none, (.bin .and (.tmp 16) (.const (.int .u32 65535)))⟩,
     ⟨(some 18), none, (.conv .i64 (.tmp 17))⟩,
     ⟨(some 19), none, (.bld [(.int .i64 0), (.int .i64 0), (.int .i64 0), (.int .i64 0)] [(0, (1, (.tmp 7))), (1, (1, (.tmp 11))), (2, (1, (.tmp 15))), (3, (1, (.tmp 18)))])⟩,
     ⟨(some 4), none, (.alc 40 [(.int .i64 0), (.int .i64 0), (.int .i64 0), (.int .i64 0)])⟩,
     ⟨none, none, (.sto true 4 (.tmp 4) (.tmp 19))⟩])
   (.seq
    (.seq
     (.ops [
       ⟨(some 20), none, (.ld true 4 (.tmp 4))⟩,
       ⟨(some 21), none, (.call (.func 42) [(.tmp 20)])⟩,
       ⟨(some 22), none, (.un .not (.tmp 21))⟩])
     (.cond (.tmp 22)
      (.seq
       (.ops [
         ⟨(some 23), none, (.bld [(.int .i64 0), (.int .i64 0), (.int .i64 0), (.int .i64 0)] [])⟩,
         ⟨none, none, (.sto true 4 (.tmp 2) (.tmp 23))⟩,
         ⟨(some 3), none, (.mv (.const (.int .i64 7)))⟩])
       .ret)
      .skip))
    (.seq
     (.ops [
       ⟨(some 24), none, (.ld true 4 (.tmp 4))⟩,
       ⟨none, none, (.sto true 4 (.tmp 2) (.tmp 24))⟩,
       ⟨(some 3), none, (.mv (.const (.int .i64 0)))⟩])
     .ret))))
theorem f_inst_Decode : compF Try.prog 34 = some (25, c_inst_Decode, [(.cell 2 true 4), (.tmp 3)]) := by kernel_rfl

/-- (*seedcorn/machine.Runner).do -/
def c_machine_Runner_do : VC :=
 (.seq
  (.ops [
    ⟨(some 3), none, (.box 40 (.tmp 1))⟩,
    ⟨(some 4), none, (.mv (.const (.int .i64 0)))⟩])
  (.seq
   (.ops [
     ⟨(some 8), none, (.mv (.tmp 0))⟩,
     ⟨(some 9), none, (.nck (.tmp 8))⟩,
     ⟨(some 10), none, (.fad 2 true 22 (.tmp 9))⟩,
     ⟨(some 11), none, (.fad 1 true 16 (.tmp 10))⟩,
     ⟨(some 5), none, (.mv (.tmp 11))⟩])
   (.seq
    (.seq
     (.ops [
       ⟨(some 12), none, (.fad 0 false 1 (.tmp 3))⟩,
       ⟨(some 13), none, (.ld false 1 (.tmp 12))⟩])
     (.block 0
      (.seq
       (.seq
        (.ops [
          ⟨(some 41), none, (.bin .eql (.tmp 13) (.const (.int .i64 18)))⟩,
          ⟨(some 40), none, (.mv (.tmp 41))⟩])
        (.cond (.tmp 40)
         .skip
         (.seq
          (.ops [
            ⟨(some 42), none, (.bin .eql (.tmp 13) (.const (.int .i64 19)))⟩,
            ⟨(some 40), none, (.mv (.tmp 42))⟩])
          (.cond (.tmp 40)
           .skip
           (.seq
            (.ops [
              ⟨(some 43), none, (.bin .eql (.tmp 13) (.const (.int .i64 20)))⟩,
              ⟨(some 40), none, (.mv (.tmp 43))⟩])
            (.cond (.tmp 40)
             .skip
             (.seq
              (.ops [
                ⟨(some 44), none, (.bin .eql (.tmp 13) (.const (.int .i64 21)))⟩,
                ⟨(some 40), none, (.mv (.tmp 44))⟩])
              (.cond (.tmp 40)
               .skip
               (.ops [
                 ⟨(some 45), none, (.bin .eql (.tmp 13) (.const (.int .i64 22)))⟩,
                 ⟨(some 40), none, (.mv (.tmp 45))⟩])))))))))
       (.cond (.tmp 40)
        (.seq
         (.ops [
           ⟨(some 46), none, (.mv (.tmp 0))⟩,
           ⟨(some 47), none, (.ld true 4 (.tmp 3))⟩,
           ⟨(some 48), none, (.call (.func 43) [(.tmp 46), (.tmp 47)])⟩])
         (.seq
          (.ops [
            ⟨(some 4), none, (.mv (.const (.int .i64 0)))⟩])
          .ret))
        (.seq
         (.ops [
           ⟨(some 50), none, (.bin .eql (.tmp 13) (.const (.int .i64 1)))⟩,
           ⟨(some 49), none, (.mv (.tmp 50))⟩])
         (.cond (.tmp 49)
          (.ops [
            ⟨(some 51), none, (.mv (.tmp 5))⟩,
            ⟨(some 52), none, (.fad 1 false 1 (.tmp 3))⟩,
            ⟨(some 53), none, (.ld false 1 (.tmp 52))⟩,
            ⟨(some 54), none, (.fad 3 false 1 (.tmp 3))⟩,
            ⟨(some 55), none, (.ld false 1 (.tmp 54))⟩,
            ⟨(some 56), none, (.conv .u32 (.tmp 55))⟩,
            ⟨(some 57), none, (.nck (.tmp 51))⟩,
            ⟨(some 58), none, (.aidx 16 false 1 (.tmp 57) (.tmp 53))⟩,
            ⟨none, none, (.sto false 1 (.tmp 58) (.tmp 56))⟩])
          (.seq
           (.ops [
             ⟨(some 60), none, (.bin .eql (.tmp 13) (.const (.int .i64 2)))⟩,
             ⟨(some 59), none, (.mv (.tmp 60))⟩])
           (.cond (.tmp 59)
            (.ops [
              ⟨(some 61), none, (.mv (.tmp 5))⟩,
              ⟨(some 62), none, (.fad 1 false 1 (.tmp 3))⟩,
              ⟨(some 63), none, (.ld false 1 (.tmp 62))⟩,
              ⟨(some 64), none, (.mv (.tmp 5))⟩,
              ⟨(some 65), none, (.fad 1 false 1 (.tmp 3))⟩,
              ⟨(some 66), none, (.ld false 1 (.tmp 65))⟩,
              ⟨(some 67), none, (.nck (.tmp 64))⟩,
              ⟨(some 68), none, (.aidx 16 false 1 (.tmp 67) (.tmp 66))⟩,
              ⟨(some 69), none, (.ld false 1 (.tmp 68))⟩,
              ⟨(some 70), none, (.bin .and (.tmp 69) (.const (.int .u32 65535)))⟩,
              ⟨(some 71), none, (.fad 3 false 1 (.tmp 3))⟩,
              ⟨(some 72), none, (.ld false 1 (.tmp 71))⟩,
              ⟨(some 73), none, (.conv .u32 (.tmp 72))⟩,
              ⟨(some 74), none, (.bin .shl (.tmp 73) (.const (.int .u64 16)))⟩,
              ⟨(some 75), none, (.bin .or (.tmp 70) (.tmp 74))⟩,
              ⟨(some 76), none, (.nck (.tmp 61))⟩,
              ⟨(some 77), none, (.aidx 16 false 1 (.tmp 76) (.tmp 63))⟩,
              ⟨none, none, (.sto false 1 (.tmp 77) (.tmp 75))⟩])
            (.seq
             (.ops [
               ⟨(some 79), none, (.bin .eql (.tmp 13) (.const (.int .i64 3)))⟩,
               ⟨(some 78), none, (.mv (.tmp 79))⟩])
             (.cond (.tmp 78)
              (.ops [
                ⟨(some 80), none, (.mv (.tmp 5))⟩,
                ⟨(some 81), none, (.fad 1 false 1 (.tmp 3))⟩,
                ⟨(some 82), none, (.ld false 1 (.tmp 81))⟩,
                ⟨(some 83), none, (.mv (.tmp 5))⟩,
                ⟨(some 84), none, (.fad 2 false 1 (.tmp 3))⟩,
                ⟨(some 85), none, (.ld false 1 (.tmp 84))⟩,
                ⟨(some 86), none, (.nck (.tmp 83))⟩,
                ⟨(some 87), none, (.aidx 16 false 1 (.tmp 86) (.tmp 85))⟩,
                ⟨(some 88), none, (.ld false 1 (.tmp 87))⟩,
                ⟨(some 89), none, (.nck (.tmp 80))⟩,
                ⟨(some 90), none, (.aidx 16 false 1 (.tmp 89) (.tmp 82))⟩,
                ⟨none, none, (.sto false 1 (.tmp 90) (.tmp 88))⟩])
              (.seq
               (.seq
                (.ops [
                  ⟨(some 92), none, (.bin .eql (.tmp 13) (.const (.int .i64 16)))⟩,
                  ⟨(some 91), none, (.mv (.tmp 92))⟩])
                (.cond (.tmp 91)
                 .skip
                 (.seq
                  (.ops [
                    ⟨(some 93), none, (.bin .eql (.tmp 13) (.const (.int .i64 17)))⟩,
                    ⟨(some 91), none, (.mv (.tmp 93))⟩])
                  (.cond (.tmp 91)
                   .skip
                   (.ops [
                     ⟨(some 94), none, (.bin .eql (.tmp 13) (.const (.int .i64 27)))⟩,
                     ⟨(some 91), none, (.mv (.tmp 94))⟩])))))
               (.cond (.tmp 91)
                (.seq
                 (.ops [
                   ⟨(some 95), none, (.mv (.tmp 0))⟩,
                   ⟨(some 96), none, (.ld true 4 (.tmp 3))⟩,
                   ⟨(some 97), none, (.call (.func 44) [(.tmp 95), (.tmp 96)])⟩,
                   ⟨(some 98), none, (.un .not (.tmp 97))⟩])
                 (.cond (.tmp 98)
                  (.seq
                   (.ops [
                     ⟨(some 4), none, (.mv (.const (.int .i64 8)))⟩])
                   .ret)
                  .skip))
                (.seq
                 (.ops [
                   ⟨(some 100), none, (.bin .eql (.tmp 13) (.const (.int .i64 23)))⟩,
                   ⟨(some 99), none, (.mv (.tmp 100))⟩])
                 (.cond (.tmp 99)
                  (.ops [
                    ⟨(some 101), none, (.mv (.tmp 0))⟩,
                    ⟨(some 102), none, (.fad 1 false 1 (.tmp 3))⟩,
                    ⟨(some 103), none, (.ld false 1 (.tmp 102))⟩,
                    ⟨(some 104), none, (.call (.func 45) [(.tmp 101), (.tmp 103)])⟩])
                  (.seq
                   (.ops [
                     ⟨(some 106), none, (.bin .eql (.tmp 13) (.const (.int .i64 24)))⟩,
                     ⟨(some 105), none, (.mv (.tmp 106))⟩])
                   (.cond (.tmp 105)
                    (.seq
                     (.seq
                      (.ops [
                        ⟨(some 107), none, (.mv (.tmp 0))⟩,
                        ⟨(some 108), none, (.nck (.tmp 107))⟩,
                        ⟨(some 109), none, (.fad 2 true 22 (.tmp 108))⟩,
                        ⟨(some 110), none, (.fad 19 false 1 (.tmp 109))⟩,
                        ⟨(some 111), none, (.ld false 1 (.tmp 110))⟩,
                        ⟨(some 112), none, (.lens (.tmp 111))⟩,
                        ⟨(some 113), none, (.mv (.tmp 0))⟩,
                        ⟨(some 114), none, (.nck (.tmp 113))⟩,
                        ⟨(some 115), none, (.fad 25 false 1 (.tmp 114))⟩,
                        ⟨(some 116), none, (.ld false 1 (.tmp 115))⟩,
                        ⟨(some 117), none, (.len (.tmp 116))⟩,
                        ⟨(some 118), none, (.bin .add (.tmp 112) (.tmp 117))⟩,
                        ⟨(some 119), none, (.bin .geq (.tmp 118) (.const (.int .i64 65536)))⟩])
                      (.cond (.tmp 119)
                       (.seq
                        (.ops [
                          ⟨(some 4), none, (.mv (.const (.int .i64 4)))⟩])
                        .ret)
                       .skip))
                     (.par false (.one ⟨(some 120), none, (.mv (.tmp 0))⟩ (.one ⟨(some 121), none, (.mv (.tmp 0))⟩ (.one ⟨(some 122), none, (.nck (.tmp 121))⟩ (.one ⟨(some 123), none, (.fad 25 false 1 (.tmp 122))⟩ (.one ⟨(some 124), none, (.ld false 1 (.tmp 123))⟩ (.one ⟨(some 125), none, (.mv (.tmp 5))⟩ (.one ⟨(some 126), none, (.fad 1 false 1 (.tmp 3))⟩ (.one ⟨(some 127), none, (.ld false 1 (.tmp 126))⟩ (.one ⟨(some 128), none, (.nck (.tmp 125))⟩ (.one ⟨(some 129), none, (.aidx 16 false 1 (.tmp 128) (.tmp 127))⟩ (.one ⟨(some 130), none, (.ld false 1 (.tmp 129))⟩ (.one ⟨(some 131), none, (.conv .u8 (.tmp 130))⟩ (.one ⟨(some 132), none, (.bsl 5 1 1 [(.int .u8 0)] [(0, (1, (.tmp 131)))])⟩ (.one ⟨(some 133), none, (.app 5 1 1 (.tmp 124) (.tmp 132))⟩ (.one ⟨(some 134), none, (.nck (.tmp 120))⟩ (.one ⟨(some 135), none, (.fad 25 false 1 (.tmp 134))⟩ (.one ⟨none, none, (.sto false 1 (.tmp 135) (.tmp 133))⟩ .done)))))))))))))))))))
                    (.seq
                     (.ops [
                       ⟨(some 137), none, (.bin .eql (.tmp 13) (.const (.int .i64 25)))⟩,
                       ⟨(some 136), none, (.mv (.tmp 137))⟩])
                     (.cond (.tmp 136)
                      (.seq
                       (.ops [
                         ⟨(some 138), none, (.mv (.tmp 5))⟩,
                         ⟨(some 139), none, (.fad 1 false 1 (.tmp 3))⟩,
                         ⟨(some 140), none, (.ld false 1 (.tmp 139))⟩,
                         ⟨(some 141), none, (.nck (.tmp 138))⟩,
                         ⟨(some 142), none, (.aidx 16 false 1 (.tmp 141) (.tmp 140))⟩,
                         ⟨(some 143), none, (.ld false 1 (.tmp 142))⟩,
                         ⟨(some 144), none, (.fad 3 false 1 (.tmp 3))⟩,
                         ⟨(some 145), none, (.ld false 1 (.tmp 144))⟩,
                         ⟨(some 146), none, (.conv .u32 (.tmp 145))⟩,
                         ⟨(some 147), none, (.bin .geq (.tmp 143) (.tmp 146))⟩])
                       (.cond (.tmp 147)
                        (.seq
                         (.ops [
                           ⟨(some 4), none, (.mv (.const (.int .i64 3)))⟩])
                         .ret)
                        .skip))
                      (.seq
                       (.ops [
                         ⟨(some 149), none, (.bin .eql (.tmp 13) (.const (.int .i64 26)))⟩,
                         ⟨(some 148), none, (.mv (.tmp 149))⟩])
                       (.cond (.tmp 148)
                        (.seq
                         (.ops [
                           ⟨(some 4), none, (.mv (.const (.int .i64 1)))⟩])
                         .ret)
                        (.seq
                         (.par false (.one ⟨(some 15), none, (.fad 0 false 1 (.tmp 3))⟩ (.one ⟨(some 16), none, (.ld false 1 (.tmp 15))⟩ (.one ⟨(some 17), none, (.mv (.tmp 5))⟩ (.one ⟨(some 18), none, (.fad 2 false 1 (.tmp 3))⟩ (.one ⟨(some 19), none, (.ld false 1 (.tmp 18))⟩ (.one ⟨(some 20), none, (.nck (.tmp 17))⟩ (.one ⟨(some 21), none, (.aidx 16 false 1 (.tmp 20) (.tmp 19))⟩ (.one ⟨(some 22), none, (.ld false 1 (.tmp 21))⟩ (.one ⟨(some 23), none, (.mv (.tmp 5))⟩ (.one ⟨(some 24), none, (.fad 3 false 1 (.tmp 3))⟩ (.one ⟨(some 25), none, (.ld false 1 (.tmp 24))⟩ (.one ⟨(some 26), none, (.nck (.tmp 23))⟩ (.one ⟨(some 27), none, (.aidx 16 false 1 (.tmp 26) (.tmp 25))⟩ (.one ⟨(some 28), none, (.ld false 1 (.tmp 27))⟩ (.one ⟨(some 29), none, (.call (.func 46) [(.tmp 16), (.tmp 22), (.tmp 28)])⟩ (.one ⟨(some 14), none, (.mv (.tmp 29))⟩ (.one ⟨(some 30), none, (.ext (.tmp 14) 0)⟩ (.one ⟨(some 31), none, (.ext (.tmp 14) 1)⟩ (.one ⟨(some 6), none, (.mv (.tmp 30))⟩ (.one ⟨(some 7), none, (.mv (.tmp 31))⟩ .done)))))))))))))))))))))
                         (.seq
                          (.seq
                           (.ops [
                             ⟨(some 32), none, (.mv (.tmp 7))⟩,
                             ⟨(some 33), none, (.bin .neq (.tmp 32) (.const (.int .i64 0)))⟩])
                           (.cond (.tmp 33)
                            (.seq
                             (.ops [
                               ⟨(some 4), none, (.mv (.const (.int .i64 2)))⟩])
                             .ret)
                            .skip))
                          (.ops [
                            ⟨(some 34), none, (.mv (.tmp 5))⟩,
                            ⟨(some 35), none, (.fad 1 false 1 (.tmp 3))⟩,
                            ⟨(some 36), none, (.ld false 1 (.tmp 35))⟩,
                            ⟨(some 37), none, (.mv (.tmp 6))⟩,
                            ⟨(some 38), none, (.nck (.tmp 34))⟩,
                            ⟨(some 39), none, (.aidx 16 false 1 (.tmp 38) (.tmp 36))⟩,
                            ⟨none, none, (.sto false 1 (.tmp 39) (.tmp 37))⟩])))))))))))))))))))))))
    (.seq
     (.ops [
       ⟨(some 150), none, (.mv (.tmp 0))⟩,
       ⟨(some 151), none, (.nck (.tmp 150))⟩,
       ⟨(some 152), none, (.fad 2 true 22 (.tmp 151))⟩,
       ⟨(some 153), none, (.fad 0 false 1 (.tmp 152))⟩,
       ⟨(some 154), none, (.ld false 1 (.tmp 153))⟩,
       ⟨(some 155), none, (.bin .add (.tmp 154) (.const (.int .i64 1)))⟩,
       ⟨(some 156), none, (.nck (.tmp 150))⟩,
       ⟨(some 157), none, (.fad 2 true 22 (.tmp 156))⟩,
       ⟨(some 158), none, (.fad 0 false 1 (.tmp 157))⟩,
       ⟨none, none, (.sto false 1 (.tmp 158) (.tmp 155))⟩])
     (.seq
      (.ops [
        ⟨(some 4), none, (.mv (.const (.int .i64 0)))⟩])
      .ret)))))
theorem f_machine_Runner_do : compF Try.prog 35 = some (159, c_machine_Runner_do, [(.tmp 4)]) := by kernel_rfl

/-- seedcorn/seedcornref01.both -/
def c_scref01_both : VC :=
 (.seq
  (.ops [
    ⟨(some 6), none, (.mv (.const (.int .u32 0)))⟩])
  (.seq
   (.ops [
     ⟨(some 11), none, (.mv (.tmp 1))⟩,
     ⟨(some 12), none, (.call (.func 47) [(.tmp 11)])⟩,
     ⟨(some 13), none, (.mv (.tmp 2))⟩,
     ⟨(some 14), none, (.call (.func 47) [(.tmp 13)])⟩,
     ⟨(some 7), none, (.mv (.tmp 12))⟩,
     ⟨(some 8), none, (.mv (.tmp 14))⟩])
   (.seq
    (.seq
     (.ops [
       ⟨(some 9), none, (.mv (.const (.int .i64 0)))⟩])
     (.block 0
      (.loop
       (.seq
        (.seq
         (.ops [
           ⟨(some 15), none, (.mv (.tmp 9))⟩,
           ⟨(some 16), none, (.bin .lss (.tmp 15) (.const (.int .i64 32)))⟩])
         (.cond (.tmp 16)
          .skip
          (.exit 0)))
        (.seq
         (.block 1
          (.seq
           (.ops [
             ⟨(some 19), none, (.mv (.tmp 7))⟩,
             ⟨(some 20), none, (.mv (.tmp 9))⟩,
             ⟨(some 21), none, (.idx 1 (.tmp 19) (.tmp 20))⟩,
             ⟨(some 22), none, (.ld false 1 (.tmp 21))⟩,
             ⟨(some 23), none, (.mv (.tmp 8))⟩,
             ⟨(some 24), none, (.mv (.tmp 9))⟩,
             ⟨(some 25), none, (.idx 1 (.tmp 23) (.tmp 24))⟩,
             ⟨(some 26), none, (.ld false 1 (.tmp 25))⟩,
             ⟨(some 27), none, (.bin .add (.tmp 22) (.tmp 26))⟩,
             ⟨(some 10), none, (.mv (.tmp 27))⟩])
           (.seq
            (.ops [
              ⟨(some 28), none, (.mv (.tmp 7))⟩,
              ⟨(some 29), none, (.mv (.tmp 9))⟩,
              ⟨(some 30), none, (.idx 1 (.tmp 28) (.tmp 29))⟩,
              ⟨none, none, (.sto false 1 (.tmp 30) (.const (.int .i64 0)))⟩])
            (.seq
             (.ops [
               ⟨(some 31), none, (.mv (.tmp 10))⟩,
               ⟨(some 32), none, (.bin .eql (.tmp 31) (.const (.int .i64 2)))⟩,
               ⟨(some 33), none, (.mv (.tmp 32))⟩,
               ⟨(some 34), (some (33, true)), (.mv (.tmp 0))⟩,
               ⟨(some 35), (some (33, true)), (.bin .neq (.tmp 34) (.const (.int .i64 11)))⟩,
               ⟨(some 36), none, (.pick (.tmp 33) (.tmp 35) (.const (.bool false)))⟩,
               ⟨(some 37), none, (.mv (.tmp 36))⟩,
               ⟨(some 38), (some (37, false)), (.mv (.tmp 10))⟩,
               ⟨(some 39), (some (37, false)), (.bin .eql (.tmp 38) (.const (.int .i64 1)))⟩,
               ⟨(some 40), (some (37, false)), (.mv (.tmp 39))⟩,
               ⟨(some 41), (some (40, true)), (.mv (.tmp 0))⟩,
               ⟨(some 42), (some (40, true)), (.bin .neq (.tmp 41) (.const (.int .i64 9)))⟩,
               ⟨(some 43), (some (37, false)), (.pick (.tmp 40) (.tmp 42) (.const (.bool false)))⟩,
               ⟨(some 44), none, (.pick (.tmp 37) (.const (.bool true)) (.tmp 43))⟩])
             (.cond (.tmp 44)
              (.ops [
                ⟨(some 45), none, (.mv (.tmp 7))⟩,
                ⟨(some 46), none, (.mv (.tmp 9))⟩,
                ⟨(some 47), none, (.idx 1 (.tmp 45) (.tmp 46))⟩,
                ⟨none, none, (.sto false 1 (.tmp 47) (.const (.int .i64 1)))⟩])
              .skip)))))
         (.ops [
           ⟨(some 17), none, (.mv (.tmp 9))⟩,
           ⟨(some 18), none, (.bin .add (.tmp 17) (.const (.int .i64 1)))⟩,
           ⟨(some 9), none, (.mv (.tmp 18))⟩]))))))
    (.seq
     (.ops [
       ⟨(some 48), none, (.mv (.tmp 7))⟩,
       ⟨(some 49), none, (.call (.func 48) [(.tmp 48)])⟩,
       ⟨(some 6), none, (.mv (.tmp 49))⟩])
     .ret))))
theorem f_scref01_both : compF Try.prog 36 = some (50, c_scref01_both, [(.tmp 6)]) := by kernel_rfl

/-- seedcorn/seedcornref01.shift -/
def c_scref01_shift : VC :=
 (.seq
  (.ops [
    ⟨(some 6), none, (.mv (.const (.int .u32 0)))⟩])
  (.seq
   (.seq
    (.ops [
      ⟨(some 9), none, (.mv (.tmp 2))⟩,
      ⟨(some 10), none, (.bin .geq (.tmp 9) (.const (.int .u32 32)))⟩])
    (.cond (.tmp 10)
     (.seq
      (.ops [
        ⟨(some 6), none, (.mv (.const (.int .u32 0)))⟩])
      .ret)
     .skip))
   (.seq
    (.ops [
      ⟨(some 11), none, (.mv (.tmp 1))⟩,
      ⟨(some 12), none, (.conv .u64 (.tmp 11))⟩,
      ⟨(some 7), none, (.mv (.tmp 12))⟩])
    (.seq
     (.seq
      (.ops [
        ⟨(some 8), none, (.mv (.const (.int .u32 0)))⟩])
      (.block 0
       (.loop
        (.seq
         (.seq
          (.ops [
            ⟨(some 13), none, (.mv (.tmp 8))⟩,
            ⟨(some 14), none, (.mv (.tmp 2))⟩,
            ⟨(some 15), none, (.bin .lss (.tmp 13) (.tmp 14))⟩])
          (.cond (.tmp 15)
           .skip
           (.exit 0)))
         (.seq
          (.block 1
           (.seq
            (.ops [
              ⟨(some 18), none, (.mv (.tmp 0))⟩,
              ⟨(some 19), none, (.bin .eql (.tmp 18) (.const (.int .i64 12)))⟩])
            (.cond (.tmp 19)
             (.ops [
               ⟨(some 20), none, (.mv (.tmp 7))⟩,
               ⟨(some 21), none, (.bin .mul (.const (.int .u64 2)) (.tmp 20))⟩,
               ⟨(some 22), none, (.bin .rem (.tmp 21) (.const (.int .u64 4294967296)))⟩,
               ⟨(some 7), none, (.mv (.tmp 22))⟩])
             (.ops [
               ⟨(some 23), none, (.mv (.tmp 7))⟩,
               ⟨(some 24), none, (.bin .quo (.tmp 23) (.const (.int .u64 2)))⟩,
               ⟨(some 7), none, (.mv (.tmp 24))⟩]))))
          (.ops [
            ⟨(some 16), none, (.mv (.tmp 8))⟩,
            ⟨(some 17), none, (.bin .add (.tmp 16) (.const (.int .u32 1)))⟩,
            ⟨(some 8), none, (.mv (.tmp 17))⟩]))))))
     (.seq
      (.ops [
        ⟨(some 25), none, (.mv (.tmp 7))⟩,
        ⟨(some 26), none, (.conv .u32 (.tmp 25))⟩,
        ⟨(some 6), none, (.mv (.tmp 26))⟩])
      .ret)))))
theorem f_scref01_shift : compF Try.prog 37 = some (27, c_scref01_shift, [(.tmp 6)]) := by kernel_rfl

/-- seedcorn/seedcornref01.flag -/
def c_scref01_flag : VC :=
 (.seq
  (.ops [
    ⟨(some 2), none, (.mv (.const (.int .u32 0)))⟩])
  (.seq
   (.seq
    (.ops [
      ⟨(some 3), none, (.mv (.tmp 0))⟩])
    (.cond (.tmp 3)
     (.seq
      (.ops [
        ⟨(some 2), none, (.mv (.const (.int .u32 1)))⟩])
      .ret)
     .skip))
   (.seq
    (.ops [
      ⟨(some 2), none, (.mv (.const (.int .u32 0)))⟩])
    .ret)))
theorem f_scref01_flag : compF Try.prog 38 = some (4, c_scref01_flag, [(.tmp 2)]) := by kernel_rfl

/-- seedcorn/seedcornref07.Parts -/
def c_scref07_Parts : VC :=
 (.seq
  (.ops [
    ⟨(some 2), none, (.mv (.const (.string ⟨#[]⟩)))⟩])
  (.seq
   (.seq
    (.ops [
      ⟨(some 3), none, (.mv (.tmp 0))⟩])
    (.block 0
     (.seq
      (.seq
       (.ops [
         ⟨(some 5), none, (.bin .eql (.tmp 3) (.const (.int .i64 1)))⟩,
         ⟨(some 4), none, (.mv (.tmp 5))⟩])
       (.cond (.tmp 4)
        .skip
        (.seq
         (.ops [
           ⟨(some 6), none, (.bin .eql (.tmp 3) (.const (.int .i64 2)))⟩,
           ⟨(some 4), none, (.mv (.tmp 6))⟩])
         (.cond (.tmp 4)
          .skip
          (.seq
           (.ops [
             ⟨(some 7), none, (.bin .eql (.tmp 3) (.const (.int .i64 19)))⟩,
             ⟨(some 4), none, (.mv (.tmp 7))⟩])
           (.cond (.tmp 4)
            .skip
            (.seq
             (.ops [
               ⟨(some 8), none, (.bin .eql (.tmp 3) (.const (.int .i64 20)))⟩,
               ⟨(some 4), none, (.mv (.tmp 8))⟩])
             (.cond (.tmp 4)
              .skip
              (.seq
               (.ops [
                 ⟨(some 9), none, (.bin .eql (.tmp 3) (.const (.int .i64 21)))⟩,
                 ⟨(some 4), none, (.mv (.tmp 9))⟩])
               (.cond (.tmp 4)
                .skip
                (.ops [
                  ⟨(some 10), none, (.bin .eql (.tmp 3) (.const (.int .i64 25)))⟩,
                  ⟨(some 4), none, (.mv (.tmp 10))⟩])))))))))))
      (.cond (.tmp 4)
       (.seq
        (.ops [
          ⟨(some 2), none, (.mv (.const (.string ⟨#[97, 99]⟩)))⟩])
        .ret)
       (.seq
        (.ops [
          ⟨(some 12), none, (.bin .eql (.tmp 3) (.const (.int .i64 3)))⟩,
          ⟨(some 11), none, (.mv (.tmp 12))⟩])
        (.cond (.tmp 11)
         (.seq
          (.ops [
            ⟨(some 2), none, (.mv (.const (.string ⟨#[97, 98]⟩)))⟩])
          .ret)
         (.seq
          (.seq
           (.ops [
             ⟨(some 14), none, (.bin .eql (.tmp 3) (.const (.int .i64 16)))⟩,
             ⟨(some 13), none, (.mv (.tmp 14))⟩])
           (.cond (.tmp 13)
            .skip
            (.seq
             (.ops [
               ⟨(some 15), none, (.bin .eql (.tmp 3) (.const (.int .i64 17)))⟩,
               ⟨(some 13), none, (.mv (.tmp 15))⟩])
             (.cond (.tmp 13)
              .skip
              (.ops [
                ⟨(some 16), none, (.bin .eql (.tmp 3) (.const (.int .i64 27)))⟩,
                ⟨(some 13), none, (.mv (.tmp 16))⟩])))))
          (.cond (.tmp 13)
           (.seq
            (.ops [
              ⟨(some 2), none, (.mv (.const (.string ⟨#[97, 98, 99]⟩)))⟩])
            .ret)
           (.seq
            (.ops [
              ⟨(some 18), none, (.bin .eql (.tmp 3) (.const (.int .i64 18)))⟩,
              ⟨(some 17), none, (.mv (.tmp 18))⟩])
            (.cond (.tmp 17)
             (.seq
              (.ops [
                ⟨(some 2), none, (.mv (.const (.string ⟨#[99]⟩)))⟩])
              .ret)
             (.seq
              (.seq
               (.ops [
                 ⟨(some 20), none, (.bin .eql (.tmp 3) (.const (.int .i64 22)))⟩,
                 ⟨(some 19), none, (.mv (.tmp 20))⟩])
               (.cond (.tmp 19)
                .skip
                (.seq
                 (.ops [
                   ⟨(some 21), none, (.bin .eql (.tmp 3) (.const (.int .i64 23)))⟩,
                   ⟨(some 19), none, (.mv (.tmp 21))⟩])
                 (.cond (.tmp 19)
                  .skip
                  (.ops [
                    ⟨(some 22), none, (.bin .eql (.tmp 3) (.const (.int .i64 24)))⟩,
                    ⟨(some 19), none, (.mv (.tmp 22))⟩])))))
              (.cond (.tmp 19)
               (.seq
                (.ops [
                  ⟨(some 2), none, (.mv (.const (.string ⟨#[97]⟩)))⟩])
                .ret)
               (.seq
                (.ops [
                  ⟨(some 24), none, (.bin .eql (.tmp 3) (.const (.int .i64 26)))⟩,
                  ⟨(some 23), none, (.mv (.tmp 24))⟩])
                (.cond (.tmp 23)
                 (.seq
                  (.ops [
                    ⟨(some 2), none, (.mv (.const (.string ⟨#[]⟩)))⟩])
                  .ret)
                 .skip))))))))))))))
   (.seq
    (.seq
     (.ops [
       ⟨(some 25), none, (.mv (.tmp 0))⟩,
       ⟨(some 26), none, (.bin .geq (.tmp 25) (.const (.int .i64 4)))⟩,
       ⟨(some 27), none, (.mv (.tmp 26))⟩,
       ⟨(some 28), (some (27, true)), (.mv (.tmp 0))⟩,
       ⟨(some 29), (some (27, true)), (.bin .leq (.tmp 28) (.const (.int .i64 15)))⟩,
       ⟨(some 30), none, (.pick (.tmp 27) (.tmp 29) (.const (.bool false)))⟩])
     (.cond (.tmp 30)
      (.seq
       (.ops [
         ⟨(some 2), none, (.mv (.const (.string ⟨#[97, 98, 114]⟩)))⟩])
       .ret)
      .skip))
    (.seq
     (.ops [
       ⟨(some 2), none, (.mv (.const (.string ⟨#[63]⟩)))⟩])
     .ret))))
theorem f_scref07_Parts : compF Try.prog 39 = some (31, c_scref07_Parts, [(.tmp 2)]) := by kernel_rfl

/-- seedcorn/seedcornref07.has -/
def c_scref07_has : VC :=
 (.seq
  (.ops [
    ⟨(some 4), none, (.mv (.const (.bool false)))⟩])
  (.seq
   (.seq
    (.ops [
      ⟨(some 5), none, (.mv (.const (.int .i64 0)))⟩])
    (.block 0
     (.loop
      (.seq
       (.seq
        (.ops [
          ⟨(some 6), none, (.mv (.tmp 5))⟩,
          ⟨(some 7), none, (.mv (.tmp 0))⟩,
          ⟨(some 8), none, (.lens (.tmp 7))⟩,
          ⟨(some 9), none, (.bin .lss (.tmp 6) (.tmp 8))⟩])
        (.cond (.tmp 9)
         .skip
         (.exit 0)))
       (.seq
        (.block 1
         (.seq
          (.ops [
            ⟨(some 12), none, (.mv (.tmp 0))⟩,
            ⟨(some 13), none, (.mv (.tmp 5))⟩,
            ⟨(some 14), none, (.pur .six [(.tmp 12), (.tmp 13)])⟩,
            ⟨(some 15), none, (.mv (.tmp 1))⟩,
            ⟨(some 16), none, (.bin .eql (.tmp 14) (.tmp 15))⟩])
          (.cond (.tmp 16)
           (.seq
            (.ops [
              ⟨(some 4), none, (.mv (.const (.bool true)))⟩])
            .ret)
           .skip)))
        (.ops [
          ⟨(some 10), none, (.mv (.tmp 5))⟩,
          ⟨(some 11), none, (.bin .add (.tmp 10) (.const (.int .i64 1)))⟩,
          ⟨(some 5), none, (.mv (.tmp 11))⟩]))))))
   (.seq
    (.ops [
      ⟨(some 4), none, (.mv (.const (.bool false)))⟩])
    .ret)))
theorem f_scref07_has : compF Try.prog 40 = some (17, c_scref07_has, [(.tmp 4)]) := by kernel_rfl

/-- seedcorn/seedcornref07.within -/
def c_scref07_within : VC :=
 (.seq
  (.ops [
    ⟨(some 6), none, (.mv (.const (.bool false)))⟩])
  (.seq
   (.seq
    (.ops [
      ⟨(some 7), none, (.mv (.tmp 0))⟩,
      ⟨(some 8), none, (.un .not (.tmp 7))⟩])
    (.cond (.tmp 8)
     (.seq
      (.ops [
        ⟨(some 9), none, (.mv (.tmp 1))⟩,
        ⟨(some 10), none, (.bin .eql (.tmp 9) (.const (.int .i64 0)))⟩,
        ⟨(some 6), none, (.mv (.tmp 10))⟩])
      .ret)
     .skip))
   (.seq
    (.ops [
      ⟨(some 11), none, (.mv (.tmp 1))⟩,
      ⟨(some 12), none, (.bin .geq (.tmp 11) (.const (.int .i64 0)))⟩,
      ⟨(some 13), none, (.mv (.tmp 12))⟩,
      ⟨(some 14), (some (13, true)), (.mv (.tmp 1))⟩,
      ⟨(some 15), (some (13, true)), (.mv (.tmp 2))⟩,
      ⟨(some 16), (some (13, true)), (.bin .leq (.tmp 14) (.tmp 15))⟩,
      ⟨(some 17), none, (.pick (.tmp 13) (.tmp 16) (.const (.bool false)))⟩,
      ⟨(some 6), none, (.mv (.tmp 17))⟩])
    .ret)))
theorem f_scref07_within : compF Try.prog 41 = some (18, c_scref07_within, [(.tmp 6)]) := by kernel_rfl

/-- seedcorn/inst.Right -/
def c_inst_Right : VC :=
 (.seq
  (.ops [
    ⟨(some 1), none, (.box 40 (.tmp 0))⟩,
    ⟨(some 2), none, (.mv (.const (.bool false)))⟩])
  (.seq
   (.seq
    (.ops [
      ⟨(some 5), none, (.fad 0 false 1 (.tmp 1))⟩,
      ⟨(some 6), none, (.ld false 1 (.tmp 5))⟩,
      ⟨(some 7), none, (.call (.func 49) [(.tmp 6)])⟩,
      ⟨(some 8), none, (.un .not (.tmp 7))⟩])
    (.cond (.tmp 8)
     (.seq
      (.ops [
        ⟨(some 2), none, (.mv (.const (.bool false)))⟩])
      .ret)
     .skip))
   (.seq
    (.ops [
      ⟨(some 9), none, (.fad 0 false 1 (.tmp 1))⟩,
      ⟨(some 10), none, (.ld false 1 (.tmp 9))⟩,
      ⟨(some 11), none, (.call (.func 50) [(.tmp 10)])⟩,
      ⟨(some 3), none, (.alc 79 [(.string ⟨#[]⟩), (.bool false), (.bool false), (.int .i64 0)])⟩,
      ⟨none, none, (.sto true 4 (.tmp 3) (.tmp 11))⟩])
    (.seq
     (.ops [
       ⟨(some 4), none, (.mv (.const (.int .i64 65535)))⟩])
     (.seq
      (.seq
       (.ops [
         ⟨(some 12), none, (.fad 3 false 1 (.tmp 3))⟩,
         ⟨(some 13), none, (.ld false 1 (.tmp 12))⟩,
         ⟨(some 14), none, (.bin .eql (.tmp 13) (.const (.int .i64 2)))⟩])
       (.cond (.tmp 14)
        (.ops [
          ⟨(some 4), none, (.mv (.const (.int .i64 15)))⟩])
        .skip))
      (.seq
       (.ops [
         ⟨(some 15), none, (.fad 1 false 1 (.tmp 1))⟩,
         ⟨(some 16), none, (.ld false 1 (.tmp 15))⟩,
         ⟨(some 17), none, (.fad 1 false 1 (.tmp 3))⟩,
         ⟨(some 18), none, (.ld false 1 (.tmp 17))⟩,
         ⟨(some 19), none, (.call (.func 51) [(.tmp 16), (.const (.int .i64 15)), (.tmp 18)])⟩,
         ⟨(some 20), none, (.mv (.tmp 19))⟩,
         ⟨(some 21), (some (20, true)), (.fad 2 false 1 (.tmp 1))⟩,
         ⟨(some 22), (some (20, true)), (.ld false 1 (.tmp 21))⟩,
         ⟨(some 23), (some (20, true)), (.fad 2 false 1 (.tmp 3))⟩,
         ⟨(some 24), (some (20, true)), (.ld false 1 (.tmp 23))⟩,
         ⟨(some 25), (some (20, true)), (.call (.func 51) [(.tmp 22), (.const (.int .i64 15)), (.tmp 24)])⟩,
         ⟨(some 26), none, (.pick (.tmp 20) (.tmp 25) (.const (.bool false)))⟩,
         ⟨(some 27), none, (.mv (.tmp 26))⟩,
         ⟨(some 28), (some (27, true)), (.fad 3 false 1 (.tmp 1))⟩,
         ⟨(some 29), (some (27, true)), (.ld false 1 (.tmp 28))⟩,
         ⟨(some 30), (some (27, true)), (.mv (.tmp 4))⟩,
         ⟨(some 31), (some (27, true)), (.fad 3 false 1 (.tmp 3))⟩,
         ⟨(some 32), (some (27, true)), (.ld false 1 (.tmp 31))⟩,
         ⟨(some 33), (some (27, true)), (.bin .neq (.tmp 32) (.const (.int .i64 0)))⟩,
         ⟨(some 34), (some (27, true)), (.call (.func 51) [(.tmp 29), (.tmp 30), (.tmp 33)])⟩,
         ⟨(some 35), none, (.pick (.tmp 27) (.tmp 34) (.const (.bool false)))⟩,
         ⟨(some 2), none, (.mv (.tmp 35))⟩])
       .ret))))))
theorem f_inst_Right : compF Try.prog 42 = some (36, c_inst_Right, [(.tmp 2)]) := by kernel_rfl

/-- (*seedcorn/machine.Runner).jump -/
def c_machine_Runner_jump : VC :=
 (.seq
  (.ops [
    ⟨(some 3), none, (.box 40 (.tmp 1))⟩])
  (.seq
   (.ops [
     ⟨(some 6), none, (.mv (.tmp 0))⟩,
     ⟨(some 7), none, (.nck (.tmp 6))⟩,
     ⟨(some 8), none, (.fad 2 true 22 (.tmp 7))⟩,
     ⟨(some 9), none, (.fad 1 true 16 (.tmp 8))⟩,
     ⟨(some 4), none, (.mv (.tmp 9))⟩])
   (.seq
    (.ops [
      ⟨(some 10), none, (.mv (.tmp 0))⟩,
      ⟨(some 11), none, (.nck (.tmp 10))⟩,
      ⟨(some 12), none, (.fad 2 true 22 (.tmp 11))⟩,
      ⟨(some 13), none, (.fad 0 false 1 (.tmp 12))⟩,
      ⟨(some 14), none, (.ld false 1 (.tmp 13))⟩,
      ⟨(some 15), none, (.bin .add (.tmp 14) (.const (.int .i64 1)))⟩,
      ⟨(some 5), none, (.mv (.tmp 15))⟩])
    (.seq
     (.seq
      (.ops [
        ⟨(some 16), none, (.fad 0 false 1 (.tmp 3))⟩,
        ⟨(some 17), none, (.ld false 1 (.tmp 16))⟩])
      (.block 0
       (.seq
        (.block 5
         (.seq
          (.block 4
           (.seq
            (.block 3
             (.seq
              (.block 2
               (.seq
                (.block 1
                 (.seq
                  (.seq
                   (.seq
                    (.ops [
                      ⟨(some 19), none, (.bin .eql (.tmp 17) (.const (.int .i64 19)))⟩,
                      ⟨(some 18), none, (.mv (.tmp 19))⟩])
                    (.cond (.tmp 18)
                     (.exit 1)
                     .skip))
                   (.seq
                    (.seq
                     (.ops [
                       ⟨(some 21), none, (.bin .eql (.tmp 17) (.const (.int .i64 20)))⟩,
                       ⟨(some 20), none, (.mv (.tmp 21))⟩])
                     (.cond (.tmp 20)
                      (.exit 2)
                      .skip))
                    (.seq
                     (.seq
                      (.ops [
                        ⟨(some 23), none, (.bin .eql (.tmp 17) (.const (.int .i64 21)))⟩,
                        ⟨(some 22), none, (.mv (.tmp 23))⟩])
                      (.cond (.tmp 22)
                       (.exit 3)
                       .skip))
                     (.seq
                      (.seq
                       (.ops [
                         ⟨(some 25), none, (.bin .eql (.tmp 17) (.const (.int .i64 18)))⟩,
                         ⟨(some 24), none, (.mv (.tmp 25))⟩])
                       (.cond (.tmp 24)
                        (.exit 4)
                        .skip))
                      (.seq
                       (.ops [
                         ⟨(some 27), none, (.bin .eql (.tmp 17) (.const (.int .i64 22)))⟩,
                         ⟨(some 26), none, (.mv (.tmp 27))⟩])
                       (.cond (.tmp 26)
                        (.exit 5)
                        .skip))))))
                  (.exit 0)))
                (.seq
                 (.seq
                  (.ops [
                    ⟨(some 28), none, (.mv (.tmp 4))⟩,
                    ⟨(some 29), none, (.fad 1 false 1 (.tmp 3))⟩,
                    ⟨(some 30), none, (.ld false 1 (.tmp 29))⟩,
                    ⟨(some 31), none, (.nck (.tmp 28))⟩,
                    ⟨(some 32), none, (.aidx 16 false 1 (.tmp 31) (.tmp 30))⟩,
                    ⟨(some 33), none, (.ld false 1 (.tmp 32))⟩,
                    ⟨(some 34), none, (.bin .eql (.tmp 33) (.const (.int .u32 0)))⟩])
                  (.cond (.tmp 34)
                   (.ops [
                     ⟨(some 35), none, (.fad 3 false 1 (.tmp 3))⟩,
                     ⟨(some 36), none, (.ld false 1 (.tmp 35))⟩,
                     ⟨(some 5), none, (.mv (.tmp 36))⟩])
                   .skip))
                 (.exit 0))))
              (.seq
               (.seq
                (.ops [
                  ⟨(some 37), none, (.mv (.tmp 4))⟩,
                  ⟨(some 38), none, (.fad 1 false 1 (.tmp 3))⟩,
                  ⟨(some 39), none, (.ld false 1 (.tmp 38))⟩,
                  ⟨(some 40), none, (.nck (.tmp 37))⟩,
                  ⟨(some 41), none, (.aidx 16 false 1 (.tmp 40) (.tmp 39))⟩,
                  ⟨(some 42), none, (.ld false 1 (.tmp 41))⟩,
                  ⟨(some 43), none, (.bin .neq (.tmp 42) (.const (.int .u32 0)))⟩])
                (.cond (.tmp 43)
                 (.ops [
                   ⟨(some 44), none, (.fad 3 false 1 (.tmp 3))⟩,
                   ⟨(some 45), none, (.ld false 1 (.tmp 44))⟩,
                   ⟨(some 5), none, (.mv (.tmp 45))⟩])
                 .skip))
               (.exit 0))))
            (.ops [
              ⟨(some 46), none, (.mv (.tmp 4))⟩,
              ⟨(some 47), none, (.fad 1 false 1 (.tmp 3))⟩,
              ⟨(some 48), none, (.ld false 1 (.tmp 47))⟩,
              ⟨(some 49), none, (.mv (.tmp 5))⟩,
              ⟨(some 50), none, (.conv .u32 (.tmp 49))⟩,
              ⟨(some 51), none, (.nck (.tmp 46))⟩,
              ⟨(some 52), none, (.aidx 16 false 1 (.tmp 51) (.tmp 48))⟩,
              ⟨none, none, (.sto false 1 (.tmp 52) (.tmp 50))⟩])))
          (.seq
           (.ops [
             ⟨(some 53), none, (.fad 3 false 1 (.tmp 3))⟩,
             ⟨(some 54), none, (.ld false 1 (.tmp 53))⟩,
             ⟨(some 5), none, (.mv (.tmp 54))⟩])
           (.exit 0))))
        (.seq
         (.ops [
           ⟨(some 55), none, (.mv (.tmp 4))⟩,
           ⟨(some 56), none, (.fad 1 false 1 (.tmp 3))⟩,
           ⟨(some 57), none, (.ld false 1 (.tmp 56))⟩,
           ⟨(some 58), none, (.nck (.tmp 55))⟩,
           ⟨(some 59), none, (.aidx 16 false 1 (.tmp 58) (.tmp 57))⟩,
           ⟨(some 60), none, (.ld false 1 (.tmp 59))⟩,
           ⟨(some 61), none, (.conv .i64 (.tmp 60))⟩,
           ⟨(some 5), none, (.mv (.tmp 61))⟩])
         (.exit 0)))))
     (.ops [
       ⟨(some 62), none, (.mv (.tmp 0))⟩,
       ⟨(some 63), none, (.mv (.tmp 5))⟩,
       ⟨(some 64), none, (.nck (.tmp 62))⟩,
       ⟨(some 65), none, (.fad 2 true 22 (.tmp 64))⟩,
       ⟨(some 66), none, (.fad 0 false 1 (.tmp 65))⟩,
       ⟨none, none, (.sto false 1 (.tmp 66) (.tmp 63))⟩])))))
theorem f_machine_Runner_jump : compF Try.prog 43 = some (67, c_machine_Runner_jump, []) := by kernel_rfl

/-- (*seedcorn/machine.Runner).move -/
def c_machine_Runner_move : VC :=
 (.seq
  (.ops [
    ⟨(some 3), none, (.box 40 (.tmp 1))⟩,
    ⟨(some 4), none, (.mv (.const (.bool false)))⟩])
  (.seq
   (.ops [
     ⟨(some 6), none, (.mv (.tmp 0))⟩,
     ⟨(some 7), none, (.fad 2 false 1 (.tmp 3))⟩,
     ⟨(some 8), none, (.ld false 1 (.tmp 7))⟩,
     ⟨(some 9), none, (.nck (.tmp 6))⟩,
     ⟨(some 10), none, (.fad 2 true 22 (.tmp 9))⟩,
     ⟨(some 11), none, (.fad 1 true 16 (.tmp 10))⟩,
     ⟨(some 12), none, (.aidx 16 false 1 (.tmp 11) (.tmp 8))⟩,
     ⟨(some 13), none, (.ld false 1 (.tmp 12))⟩,
     ⟨(some 14), none, (.fad 3 false 1 (.tmp 3))⟩,
     ⟨(some 15), none, (.ld false 1 (.tmp 14))⟩,
     ⟨(some 16), none, (.conv .u32 (.tmp 15))⟩,
     ⟨(some 17), none, (.bin .add (.tmp 13) (.tmp 16))⟩,
     ⟨(some 18), none, (.conv .i64 (.tmp 17))⟩,
     ⟨(some 5), none, (.mv (.tmp 18))⟩])
   (.seq
    (.seq
     (.ops [
       ⟨(some 19), none, (.fad 0 false 1 (.tmp 3))⟩,
       ⟨(some 20), none, (.ld false 1 (.tmp 19))⟩,
       ⟨(some 21), none, (.bin .eql (.tmp 20) (.const (.int .i64 27)))⟩])
     (.cond (.tmp 21)
      (.seq
       (.seq
        (.ops [
          ⟨(some 22), none, (.mv (.tmp 5))⟩,
          ⟨(some 23), none, (.mv (.tmp 0))⟩,
          ⟨(some 24), none, (.nck (.tmp 23))⟩,
          ⟨(some 25), none, (.fad 0 false 1 (.tmp 24))⟩,
          ⟨(some 26), none, (.ld false 1 (.tmp 25))⟩,
          ⟨(some 27), none, (.len (.tmp 26))⟩,
          ⟨(some 28), none, (.bin .geq (.tmp 22) (.tmp 27))⟩])
        (.cond (.tmp 28)
         (.seq
          (.ops [
            ⟨(some 4), none, (.mv (.const (.bool false)))⟩])
          .ret)
         .skip))
       (.seq
        (.ops [
          ⟨(some 29), none, (.mv (.tmp 0))⟩,
          ⟨(some 30), none, (.fad 1 false 1 (.tmp 3))⟩,
          ⟨(some 31), none, (.ld false 1 (.tmp 30))⟩,
          ⟨(some 32), none, (.mv (.tmp 0))⟩,
          ⟨(some 33), none, (.nck (.tmp 32))⟩,
          ⟨(some 34), none, (.fad 0 false 1 (.tmp 33))⟩,
          ⟨(some 35), none, (.ld false 1 (.tmp 34))⟩,
          ⟨(some 36), none, (.mv (.tmp 5))⟩,
          ⟨(some 37), none, (.idx 1 (.tmp 35) (.tmp 36))⟩,
          ⟨(some 38), none, (.ld false 1 (.tmp 37))⟩,
          ⟨(some 39), none, (.nck (.tmp 29))⟩,
          ⟨(some 40), none, (.fad 2 true 22 (.tmp 39))⟩,
          ⟨(some 41), none, (.fad 1 true 16 (.tmp 40))⟩,
          ⟨(some 42), none, (.aidx 16 false 1 (.tmp 41) (.tmp 31))⟩,
          ⟨none, none, (.sto false 1 (.tmp 42) (.tmp 38))⟩])
        (.seq
         (.ops [
           ⟨(some 4), none, (.mv (.const (.bool true)))⟩])
         .ret)))
      .skip))
    (.seq
     (.seq
      (.ops [
        ⟨(some 43), none, (.mv (.tmp 5))⟩,
        ⟨(some 44), none, (.mv (.tmp 0))⟩,
        ⟨(some 45), none, (.nck (.tmp 44))⟩,
        ⟨(some 46), none, (.fad 2 true 22 (.tmp 45))⟩,
        ⟨(some 47), none, (.fad 17 false 1 (.tmp 46))⟩,
        ⟨(some 48), none, (.ld false 1 (.tmp 47))⟩,
        ⟨(some 49), none, (.len (.tmp 48))⟩,
        ⟨(some 50), none, (.bin .geq (.tmp 43) (.tmp 49))⟩])
      (.cond (.tmp 50)
       (.seq
        (.ops [
          ⟨(some 4), none, (.mv (.const (.bool false)))⟩])
        .ret)
       .skip))
     (.seq
      (.seq
       (.ops [
         ⟨(some 51), none, (.fad 0 false 1 (.tmp 3))⟩,
         ⟨(some 52), none, (.ld false 1 (.tmp 51))⟩,
         ⟨(some 53), none, (.bin .eql (.tmp 52) (.const (.int .i64 16)))⟩])
       (.cond (.tmp 53)
        (.seq
         (.ops [
           ⟨(some 54), none, (.mv (.tmp 0))⟩,
           ⟨(some 55), none, (.fad 1 false 1 (.tmp 3))⟩,
           ⟨(some 56), none, (.ld false 1 (.tmp 55))⟩,
           ⟨(some 57), none, (.mv (.tmp 0))⟩,
           ⟨(some 58), none, (.nck (.tmp 57))⟩,
           ⟨(some 59), none, (.fad 2 true 22 (.tmp 58))⟩,
           ⟨(some 60), none, (.fad 17 false 1 (.tmp 59))⟩,
           ⟨(some 61), none, (.ld false 1 (.tmp 60))⟩,
           ⟨(some 62), none, (.mv (.tmp 5))⟩,
           ⟨(some 63), none, (.idx 1 (.tmp 61) (.tmp 62))⟩,
           ⟨(some 64), none, (.ld false 1 (.tmp 63))⟩,
           ⟨(some 65), none, (.nck (.tmp 54))⟩,
           ⟨(some 66), none, (.fad 2 true 22 (.tmp 65))⟩,
           ⟨(some 67), none, (.fad 1 true 16 (.tmp 66))⟩,
           ⟨(some 68), none, (.aidx 16 false 1 (.tmp 67) (.tmp 56))⟩,
           ⟨none, none, (.sto false 1 (.tmp 68) (.tmp 64))⟩])
         (.seq
          (.ops [
            ⟨(some 4), none, (.mv (.const (.bool true)))⟩])
          .ret))
        .skip))
      (.seq
       (.seq
        (.ops [
          ⟨(some 69), none, (.mv (.tmp 0))⟩,
          ⟨(some 70), none, (.nck (.tmp 69))⟩,
          ⟨(some 71), none, (.fad 24 false 1 (.tmp 70))⟩,
          ⟨(some 72), none, (.ld false 1 (.tmp 71))⟩,
          ⟨(some 73), none, (.un .not (.tmp 72))⟩])
        (.cond (.tmp 73)
         (.seq
          (.ops [
            ⟨(some 74), none, (.mv (.tmp 0))⟩,
            ⟨(some 75), none, (.mv (.tmp 0))⟩,
            ⟨(some 76), none, (.nck (.tmp 75))⟩,
            ⟨(some 77), none, (.fad 2 true 22 (.tmp 76))⟩,
            ⟨(some 78), none, (.fad 17 false 1 (.tmp 77))⟩,
            ⟨(some 79), none, (.ld false 1 (.tmp 78))⟩,
            ⟨(some 80), none, (.call (.func 52) [(.tmp 79)])⟩,
            ⟨(some 81), none, (.nck (.tmp 74))⟩,
            ⟨(some 82), none, (.fad 2 true 22 (.tmp 81))⟩,
            ⟨(some 83), none, (.fad 17 false 1 (.tmp 82))⟩,
            ⟨none, none, (.sto false 1 (.tmp 83) (.tmp 80))⟩])
          (.ops [
            ⟨(some 84), none, (.mv (.tmp 0))⟩,
            ⟨(some 85), none, (.nck (.tmp 84))⟩,
            ⟨(some 86), none, (.fad 24 false 1 (.tmp 85))⟩,
            ⟨none, none, (.sto false 1 (.tmp 86) (.const (.bool true)))⟩]))
         .skip))
       (.seq
        (.ops [
          ⟨(some 87), none, (.mv (.tmp 0))⟩,
          ⟨(some 88), none, (.nck (.tmp 87))⟩,
          ⟨(some 89), none, (.fad 2 true 22 (.tmp 88))⟩,
          ⟨(some 90), none, (.fad 17 false 1 (.tmp 89))⟩,
          ⟨(some 91), none, (.ld false 1 (.tmp 90))⟩,
          ⟨(some 92), none, (.mv (.tmp 5))⟩,
          ⟨(some 93), none, (.mv (.tmp 0))⟩,
          ⟨(some 94), none, (.fad 1 false 1 (.tmp 3))⟩,
          ⟨(some 95), none, (.ld false 1 (.tmp 94))⟩,
          ⟨(some 96), none, (.nck (.tmp 93))⟩,
          ⟨(some 97), none, (.fad 2 true 22 (.tmp 96))⟩,
          ⟨(some 98), none, (.fad 1 true 16 (.tmp 97))⟩,
          ⟨(some 99), none, (.aidx 16 false 1 (.tmp 98) (.tmp 95))⟩,
          ⟨(some 100), none, (.ld false 1 (.tmp 99))⟩,
          ⟨(some 101), none, (.idx 1 (.tmp 91) (.tmp 92))⟩,
          ⟨none, none, (.sto false 1 (.tmp 101) (.tmp 100))⟩])
        (.seq
         (.ops [
           ⟨(some 4), none, (.mv (.const (.bool true)))⟩])
         .ret))))))))
theorem f_machine_Runner_move : compF Try.prog 44 = some (102, c_machine_Runner_move, [(.tmp 4)]) := by kernel_rfl

/-- (*seedcorn/machine.Runner).get -/
def c_machine_Runner_get : VC :=
 (.seq
  (.seq
   (.ops [
     ⟨(some 4), none, (.mv (.tmp 0))⟩,
     ⟨(some 5), none, (.nck (.tmp 4))⟩,
     ⟨(some 6), none, (.fad 2 true 22 (.tmp 5))⟩,
     ⟨(some 7), none, (.fad 18 false 1 (.tmp 6))⟩,
     ⟨(some 8), none, (.ld false 1 (.tmp 7))⟩,
     ⟨(some 9), none, (.bin .lss (.tmp 8) (.const (.int .i64 0)))⟩,
     ⟨(some 10), none, (.mv (.tmp 9))⟩,
     ⟨(some 11), (some (10, false)), (.mv (.tmp 0))⟩,
     ⟨(some 12), (some (10, false)), (.nck (.tmp 11))⟩,
     ⟨(some 13), (some (10, false)), (.fad 2 true 22 (.tmp 12))⟩,
     ⟨(some 14), (some (10, false)), (.fad 18 false 1 (.tmp 13))⟩,
     ⟨(some 15), (some (10, false)), (.ld false 1 (.tmp 14))⟩,
     ⟨(some 16), (some (10, false)), (.mv (.tmp 0))⟩,
     ⟨(some 17), (some (10, false)), (.nck (.tmp 16))⟩,
     ⟨(some 18), (some (10, false)), (.fad 1 false 1 (.tmp 17))⟩,
     ⟨(some 19), (some (10, false)), (.ld false 1 (.tmp 18))⟩,
     ⟨(some 20), (some (10, false)), (.lens (.tmp 19))⟩,
     ⟨(some 21), (some (10, false)), (.bin .geq (.tmp 15) (.tmp 20))⟩,
     ⟨(some 22), none, (.pick (.tmp 10) (.const (.bool true)) (.tmp 21))⟩])
   (.cond (.tmp 22)
    (.seq
     (.ops [
       ⟨(some 23), none, (.mv (.tmp 0))⟩,
       ⟨(some 24), none, (.mv (.tmp 1))⟩,
       ⟨(some 25), none, (.nck (.tmp 23))⟩,
       ⟨(some 26), none, (.fad 2 true 22 (.tmp 25))⟩,
       ⟨(some 27), none, (.fad 1 true 16 (.tmp 26))⟩,
       ⟨(some 28), none, (.aidx 16 false 1 (.tmp 27) (.tmp 24))⟩,
       ⟨none, none, (.sto false 1 (.tmp 28) (.const (.int .u32 256)))⟩])
     .ret)
    .skip))
  (.seq
   (.ops [
     ⟨(some 29), none, (.mv (.tmp 0))⟩,
     ⟨(some 30), none, (.mv (.tmp 1))⟩,
     ⟨(some 31), none, (.mv (.tmp 0))⟩,
     ⟨(some 32), none, (.nck (.tmp 31))⟩,
     ⟨(some 33), none, (.fad 1 false 1 (.tmp 32))⟩,
     ⟨(some 34), none, (.ld false 1 (.tmp 33))⟩,
     ⟨(some 35), none, (.mv (.tmp 0))⟩,
     ⟨(some 36), none, (.nck (.tmp 35))⟩,
     ⟨(some 37), none, (.fad 2 true 22 (.tmp 36))⟩,
     ⟨(some 38), none, (.fad 18 false 1 (.tmp 37))⟩,
     ⟨(some 39), none, (.ld false 1 (.tmp 38))⟩,
     ⟨(some 40), none, (.pur .six [(.tmp 34), (.tmp 39)])⟩,
     ⟨(some 41), none, (.conv .u32 (.tmp 40))⟩,
     ⟨(some 42), none, (.nck (.tmp 29))⟩,
     ⟨(some 43), none, (.fad 2 true 22 (.tmp 42))⟩,
     ⟨(some 44), none, (.fad 1 true 16 (.tmp 43))⟩,
     ⟨(some 45), none, (.aidx 16 false 1 (.tmp 44) (.tmp 30))⟩,
     ⟨none, none, (.sto false 1 (.tmp 45) (.tmp 41))⟩])
   (.ops [
     ⟨(some 46), none, (.mv (.tmp 0))⟩,
     ⟨(some 47), none, (.nck (.tmp 46))⟩,
     ⟨(some 48), none, (.fad 2 true 22 (.tmp 47))⟩,
     ⟨(some 49), none, (.fad 18 false 1 (.tmp 48))⟩,
     ⟨(some 50), none, (.ld false 1 (.tmp 49))⟩,
     ⟨(some 51), none, (.bin .add (.tmp 50) (.const (.int .i64 1)))⟩,
     ⟨(some 52), none, (.nck (.tmp 46))⟩,
     ⟨(some 53), none, (.fad 2 true 22 (.tmp 52))⟩,
     ⟨(some 54), none, (.fad 18 false 1 (.tmp 53))⟩,
     ⟨none, none, (.sto false 1 (.tmp 54) (.tmp 51))⟩])))
theorem f_machine_Runner_get : compF Try.prog 45 = some (55, c_machine_Runner_get, []) := by kernel_rfl

/-- seedcorn/word.Apply -/
def c_word_Apply : VC :=
 (.seq
  (.ops [
    ⟨(some 6), none, (.mv (.const (.int .u32 0)))⟩,
    ⟨(some 7), none, (.mv (.const (.int .i64 0)))⟩])
  (.seq
   (.seq
    (.ops [
      ⟨(some 8), none, (.mv (.tmp 0))⟩])
    (.block 0
     (.seq
      (.ops [
        ⟨(some 10), none, (.bin .eql (.tmp 8) (.const (.int .i64 4)))⟩,
        ⟨(some 9), none, (.mv (.tmp 10))⟩])
      (.cond (.tmp 9)
       (.seq
        (.ops [
          ⟨(some 11), none, (.mv (.tmp 1))⟩,
          ⟨(some 12), none, (.mv (.tmp 2))⟩,
          ⟨(some 13), none, (.bin .add (.tmp 11) (.tmp 12))⟩,
          ⟨(some 6), none, (.mv (.tmp 13))⟩,
          ⟨(some 7), none, (.mv (.const (.int .i64 0)))⟩])
        .ret)
       (.seq
        (.ops [
          ⟨(some 15), none, (.bin .eql (.tmp 8) (.const (.int .i64 5)))⟩,
          ⟨(some 14), none, (.mv (.tmp 15))⟩])
        (.cond (.tmp 14)
         (.seq
          (.ops [
            ⟨(some 16), none, (.mv (.tmp 1))⟩,
            ⟨(some 17), none, (.mv (.tmp 2))⟩,
            ⟨(some 18), none, (.bin .sub (.tmp 16) (.tmp 17))⟩,
            ⟨(some 6), none, (.mv (.tmp 18))⟩,
            ⟨(some 7), none, (.mv (.const (.int .i64 0)))⟩])
          .ret)
         (.seq
          (.ops [
            ⟨(some 20), none, (.bin .eql (.tmp 8) (.const (.int .i64 6)))⟩,
            ⟨(some 19), none, (.mv (.tmp 20))⟩])
          (.cond (.tmp 19)
           (.seq
            (.ops [
              ⟨(some 21), none, (.mv (.tmp 1))⟩,
              ⟨(some 22), none, (.mv (.tmp 2))⟩,
              ⟨(some 23), none, (.bin .mul (.tmp 21) (.tmp 22))⟩,
              ⟨(some 6), none, (.mv (.tmp 23))⟩,
              ⟨(some 7), none, (.mv (.const (.int .i64 0)))⟩])
            .ret)
           (.seq
            (.seq
             (.ops [
               ⟨(some 25), none, (.bin .eql (.tmp 8) (.const (.int .i64 7)))⟩,
               ⟨(some 24), none, (.mv (.tmp 25))⟩])
             (.cond (.tmp 24)
              .skip
              (.ops [
                ⟨(some 26), none, (.bin .eql (.tmp 8) (.const (.int .i64 8)))⟩,
                ⟨(some 24), none, (.mv (.tmp 26))⟩])))
            (.cond (.tmp 24)
             (.seq
              (.ops [
                ⟨(some 27), none, (.mv (.tmp 0))⟩,
                ⟨(some 28), none, (.mv (.tmp 1))⟩,
                ⟨(some 29), none, (.mv (.tmp 2))⟩,
                ⟨(some 30), none, (.call (.func 53) [(.tmp 27), (.tmp 28), (.tmp 29)])⟩,
                ⟨(some 31), none, (.ext (.tmp 30) 0)⟩,
                ⟨(some 32), none, (.ext (.tmp 30) 1)⟩,
                ⟨(some 6), none, (.mv (.tmp 31))⟩,
                ⟨(some 7), none, (.mv (.tmp 32))⟩])
              .ret)
             (.seq
              (.ops [
                ⟨(some 34), none, (.bin .eql (.tmp 8) (.const (.int .i64 9)))⟩,
                ⟨(some 33), none, (.mv (.tmp 34))⟩])
              (.cond (.tmp 33)
               (.seq
                (.ops [
                  ⟨(some 35), none, (.mv (.tmp 1))⟩,
                  ⟨(some 36), none, (.mv (.tmp 2))⟩,
                  ⟨(some 37), none, (.bin .and (.tmp 35) (.tmp 36))⟩,
                  ⟨(some 6), none, (.mv (.tmp 37))⟩,
                  ⟨(some 7), none, (.mv (.const (.int .i64 0)))⟩])
                .ret)
               (.seq
                (.ops [
                  ⟨(some 39), none, (.bin .eql (.tmp 8) (.const (.int .i64 10)))⟩,
                  ⟨(some 38), none, (.mv (.tmp 39))⟩])
                (.cond (.tmp 38)
                 (.seq
                  (.ops [
                    ⟨(some 40), none, (.mv (.tmp 1))⟩,
                    ⟨(some 41), none, (.mv (.tmp 2))⟩,
                    ⟨(some 42), none, (.bin .or (.tmp 40) (.tmp 41))⟩,
                    ⟨(some 6), none, (.mv (.tmp 42))⟩,
                    ⟨(some 7), none, (.mv (.const (.int .i64 0)))⟩])
                  .ret)
                 (.seq
                  (.ops [
                    ⟨(some 44), none, (.bin .eql (.tmp 8) (.const (.int .i64 11)))⟩,
                    ⟨(some 43), none, (.mv (.tmp 44))⟩])
                  (.cond (.tmp 43)
                   (.seq
                    (.ops [
                      ⟨(some 45), none, (.mv (.tmp 1))⟩,
                      ⟨(some 46), none, (.mv (.tmp 2))⟩,
                      ⟨(some 47), none, (.bin .xor (.tmp 45) (.tmp 46))⟩,
                      ⟨(some 6), none, (.mv (.tmp 47))⟩,
                      ⟨(some 7), none, (.mv (.const (.int .i64 0)))⟩])
                    .ret)
                   (.seq
                    (.seq
                     (.ops [
                       ⟨(some 49), none, (.bin .eql (.tmp 8) (.const (.int .i64 12)))⟩,
                       ⟨(some 48), none, (.mv (.tmp 49))⟩])
                     (.cond (.tmp 48)
                      .skip
                      (.ops [
                        ⟨(some 50), none, (.bin .eql (.tmp 8) (.const (.int .i64 13)))⟩,
                        ⟨(some 48), none, (.mv (.tmp 50))⟩])))
                    (.cond (.tmp 48)
                     (.seq
                      (.ops [
                        ⟨(some 51), none, (.mv (.tmp 0))⟩,
                        ⟨(some 52), none, (.mv (.tmp 1))⟩,
                        ⟨(some 53), none, (.mv (.tmp 2))⟩,
                        ⟨(some 54), none, (.call (.func 54) [(.tmp 51), (.tmp 52), (.tmp 53)])⟩,
                        ⟨(some 6), none, (.mv (.tmp 54))⟩,
                        ⟨(some 7), none, (.mv (.const (.int .i64 0)))⟩])
                      .ret)
                     (.seq
                      (.seq
                       (.ops [
                         ⟨(some 56), none, (.bin .eql (.tmp 8) (.const (.int .i64 14)))⟩,
                         ⟨(some 55), none, (.mv (.tmp 56))⟩])
                       (.cond (.tmp 55)
                        .skip
                        (.ops [
                          ⟨(some 57), none, (.bin .eql (.tmp 8) (.const (.int .i64 15)))⟩,
                          ⟨(some 55), none, (.mv (.tmp 57))⟩])))
                      (.cond (.tmp 55)
                       (.seq
                        (.ops [
                          ⟨(some 58), none, (.mv (.tmp 0))⟩,
                          ⟨(some 59), none, (.mv (.tmp 1))⟩,
                          ⟨(some 60), none, (.mv (.tmp 2))⟩,
                          ⟨(some 61), none, (.call (.func 55) [(.tmp 58), (.tmp 59), (.tmp 60)])⟩,
                          ⟨(some 6), none, (.mv (.tmp 61))⟩,
                          ⟨(some 7), none, (.mv (.const (.int .i64 0)))⟩])
                        .ret)
                       .skip))))))))))))))))))))
   (.seq
    (.ops [
      ⟨(some 6), none, (.mv (.const (.int .u32 0)))⟩,
      ⟨(some 7), none, (.mv (.const (.int .i64 1)))⟩])
    .ret)))
theorem f_word_Apply : compF Try.prog 46 = some (62, c_word_Apply, [(.tmp 6), (.tmp 7)]) := by kernel_rfl

/-- seedcorn/seedcornref01.Bits -/
def c_scref01_Bits : VC :=
 (.seq
  (.ops [
    ⟨(some 2), none, (.mv (.const (.slice none 0 0)))⟩])
  (.seq
   (.ops [
     ⟨(some 3), none, (.mv (.const (.slice none 0 0)))⟩])
   (.seq
    (.seq
     (.ops [
       ⟨(some 4), none, (.mv (.const (.int .i64 0)))⟩])
     (.block 0
      (.loop
       (.seq
        (.seq
         (.ops [
           ⟨(some 5), none, (.mv (.tmp 4))⟩,
           ⟨(some 6), none, (.bin .lss (.tmp 5) (.const (.int .i64 32)))⟩])
         (.cond (.tmp 6)
          .skip
          (.exit 0)))
        (.seq
         (.block 1
          (.seq
           (.ops [
             ⟨(some 9), none, (.mv (.tmp 3))⟩,
             ⟨(some 10), none, (.mv (.tmp 0))⟩,
             ⟨(some 11), none, (.bin .rem (.tmp 10) (.const (.int .u32 2)))⟩,
             ⟨(some 12), none, (.conv .i64 (.tmp 11))⟩,
             ⟨(some 13), none, (.bsl 3 1 1 [(.int .i64 0)] [(0, (1, (.tmp 12)))])⟩,
             ⟨(some 14), none, (.app 3 1 8 (.tmp 9) (.tmp 13))⟩,
             ⟨(some 3), none, (.mv (.tmp 14))⟩])
           (.ops [
             ⟨(some 15), none, (.mv (.tmp 0))⟩,
             ⟨(some 16), none, (.bin .quo (.tmp 15) (.const (.int .u32 2)))⟩,
             ⟨(some 0), none, (.mv (.tmp 16))⟩])))
         (.ops [
           ⟨(some 7), none, (.mv (.tmp 4))⟩,
           ⟨(some 8), none, (.bin .add (.tmp 7) (.const (.int .i64 1)))⟩,
           ⟨(some 4), none, (.mv (.tmp 8))⟩]))))))
    (.seq
     (.ops [
       ⟨(some 17), none, (.mv (.tmp 3))⟩,
       ⟨(some 2), none, (.mv (.tmp 17))⟩])
     .ret))))
theorem f_scref01_Bits : compF Try.prog 47 = some (18, c_scref01_Bits, [(.tmp 2)]) := by kernel_rfl

/-- seedcorn/seedcornref01.Of -/
def c_scref01_Of : VC :=
 (.seq
  (.ops [
    ⟨(some 2), none, (.mv (.const (.int .u32 0)))⟩])
  (.seq
   (.ops [
     ⟨(some 3), none, (.mv (.const (.int .u64 0)))⟩])
   (.seq
    (.seq
     (.ops [
       ⟨(some 5), none, (.mv (.tmp 0))⟩,
       ⟨(some 6), none, (.len (.tmp 5))⟩,
       ⟨(some 7), none, (.bin .sub (.tmp 6) (.const (.int .i64 1)))⟩,
       ⟨(some 4), none, (.mv (.tmp 7))⟩])
     (.block 0
      (.loop
       (.seq
        (.seq
         (.ops [
           ⟨(some 8), none, (.mv (.tmp 4))⟩,
           ⟨(some 9), none, (.bin .geq (.tmp 8) (.const (.int .i64 0)))⟩])
         (.cond (.tmp 9)
          .skip
          (.exit 0)))
        (.seq
         (.block 1
          (.ops [
            ⟨(some 12), none, (.mv (.tmp 3))⟩,
            ⟨(some 13), none, (.bin .mul (.const (.int .u64 2)) (.tmp 12))⟩,
            ⟨(some 14), none, (.mv (.tmp 0))⟩,
            ⟨(some 15), none, (.mv (.tmp 4))⟩,
            ⟨(some 16), none, (.idx 1 (.tmp 14) (.tmp 15))⟩,
            ⟨(some 17), none, (.ld false 1 (.tmp 16))⟩,
            ⟨(some 18), none, (.conv .u64 (.tmp 17))⟩,
            ⟨(some 19), none, (.bin .add (.tmp 13) (.tmp 18))⟩,
            ⟨(some 3), none, (.mv (.tmp 19))⟩]))
         (.ops [
           ⟨(some 10), none, (.mv (.tmp 4))⟩,
           ⟨(some 11), none, (.bin .sub (.tmp 10) (.const (.int .i64 1)))⟩,
           ⟨(some 4), none, (.mv (.tmp 11))⟩]))))))
    (.seq
     (.ops [
       ⟨(some 20), none, (.mv (.tmp 3))⟩,
       ⟨(some 21), none, (.bin .rem (.tmp 20) (.const (.int .u64 4294967296)))⟩,
       ⟨(some 22), none, (.conv .u32 (.tmp 21))⟩,
       ⟨(some 2), none, (.mv (.tmp 22))⟩])
     .ret))))
theorem f_scref01_Of : compF Try.prog 48 = some (23, c_scref01_Of, [(.tmp 2)]) := by kernel_rfl

/-- seedcorn/inst.known -/
def c_inst_known : VC :=
 (.seq
  (.ops [
    ⟨(some 2), none, (.mv (.const (.bool false)))⟩])
  (.seq
   (.ops [
     ⟨(some 3), none, (.mv (.tmp 0))⟩,
     ⟨(some 4), none, (.call (.func 50) [(.tmp 3)])⟩,
     ⟨(some 5), none, (.fld 0 false 1 (.tmp 4))⟩,
     ⟨(some 6), none, (.bin .neq (.tmp 5) (.const (.string ⟨#[]⟩)))⟩,
     ⟨(some 2), none, (.mv (.tmp 6))⟩])
   .ret))
theorem f_inst_known : compF Try.prog 49 = some (7, c_inst_known, [(.tmp 2)]) := by kernel_rfl

/-- seedcorn/inst.shapeOf -/
def c_inst_shapeOf : VC :=
 (.seq
  (.ops [
    ⟨(some 2), none, (.alc 79 [(.string ⟨#[]⟩), (.bool false), (.bool false), (.int .i64 0)])⟩])
  (.seq
   (.seq
    (.ops [
      ⟨(some 3), none, (.mv (.tmp 0))⟩])
    (.block 0
     (.seq
      (.ops [
        ⟨(some 5), none, (.bin .eql (.tmp 3) (.const (.int .i64 1)))⟩,
        ⟨(some 4), none, (.mv (.tmp 5))⟩])
      (.cond (.tmp 4)
       (.seq
        (.ops [
          ⟨(some 6), none, (.bld [(.string ⟨#[]⟩), (.bool false), (.bool false), (.int .i64 0)] [(0, (1, (.const (.string ⟨#[108, 105]⟩)))), (1, (1, (.const (.bool true)))), (2, (1, (.const (.bool false)))), (3, (1, (.const (.int .i64 1))))])⟩,
          ⟨none, none, (.sto true 4 (.tmp 2) (.tmp 6))⟩])
        .ret)
       (.seq
        (.ops [
          ⟨(some 8), none, (.bin .eql (.tmp 3) (.const (.int .i64 2)))⟩,
          ⟨(some 7), none, (.mv (.tmp 8))⟩])
        (.cond (.tmp 7)
         (.seq
          (.ops [
            ⟨(some 9), none, (.bld [(.string ⟨#[]⟩), (.bool false), (.bool false), (.int .i64 0)] [(0, (1, (.const (.string ⟨#[108, 117, 105]⟩)))), (1, (1, (.const (.bool true)))), (2, (1, (.const (.bool false)))), (3, (1, (.const (.int .i64 1))))])⟩,
            ⟨none, none, (.sto true 4 (.tmp 2) (.tmp 9))⟩])
          .ret)
         (.seq
          (.ops [
            ⟨(some 11), none, (.bin .eql (.tmp 3) (.const (.int .i64 3)))⟩,
            ⟨(some 10), none, (.mv (.tmp 11))⟩])
          (.cond (.tmp 10)
           (.seq
            (.ops [
              ⟨(some 12), none, (.bld [(.string ⟨#[]⟩), (.bool false), (.bool false), (.int .i64 0)] [(0, (1, (.const (.string ⟨#[109, 111, 118]⟩)))), (1, (1, (.const (.bool true)))), (2, (1, (.const (.bool true)))), (3, (1, (.const (.int .i64 0))))])⟩,
              ⟨none, none, (.sto true 4 (.tmp 2) (.tmp 12))⟩])
            .ret)
           (.seq
            (.ops [
              ⟨(some 14), none, (.bin .eql (.tmp 3) (.const (.int .i64 4)))⟩,
              ⟨(some 13), none, (.mv (.tmp 14))⟩])
            (.cond (.tmp 13)
             (.seq
              (.ops [
                ⟨(some 15), none, (.bld [(.string ⟨#[]⟩), (.bool false), (.bool false), (.int .i64 0)] [(0, (1, (.const (.string ⟨#[97, 100, 100]⟩)))), (1, (1, (.const (.bool true)))), (2, (1, (.const (.bool true)))), (3, (1, (.const (.int .i64 2))))])⟩,
                ⟨none, none, (.sto true 4 (.tmp 2) (.tmp 15))⟩])
              .ret)
             (.seq
              (.ops [
                ⟨(some 17), none, (.bin .eql (.tmp 3) (.const (.int .i64 5)))⟩,
                ⟨(some 16), none, (.mv (.tmp 17))⟩])
              (.cond (.tmp 16)
               (.seq
                (.ops [
                  ⟨(some 18), none, (.bld [(.string ⟨#[]⟩), (.bool false), (.bool false), (.int .i64 0)] [(0, (1, (.const (.string ⟨#[115, 117, 98]⟩)))), (1, (1, (.const (.bool true)))), (2, (1, (.const (.bool true)))), (3, (1, (.const (.int .i64 2))))])⟩,
                  ⟨none, none, (.sto true 4 (.tmp 2) (.tmp 18))⟩])
                .ret)
               (.seq
                (.ops [
                  ⟨(some 20), none, (.bin .eql (.tmp 3) (.const (.int .i64 6)))⟩,
                  ⟨(some 19), none, (.mv (.tmp 20))⟩])
                (.cond (.tmp 19)
                 (.seq
                  (.ops [
                    ⟨(some 21), none, (.bld [(.string ⟨#[]⟩), (.bool false), (.bool false), (.int .i64 0)] [(0, (1, (.const (.string ⟨#[109, 117, 108]⟩)))), (1, (1, (.const (.bool true)))), (2, (1, (.const (.bool true)))), (3, (1, (.const (.int .i64 2))))])⟩,
                    ⟨none, none, (.sto true 4 (.tmp 2) (.tmp 21))⟩])
                  .ret)
                 (.seq
                  (.ops [
                    ⟨(some 23), none, (.bin .eql (.tmp 3) (.const (.int .i64 7)))⟩,
                    ⟨(some 22), none, (.mv (.tmp 23))⟩])
                  (.cond (.tmp 22)
                   (.seq
                    (.ops [
                      ⟨(some 24), none, (.bld [(.string ⟨#[]⟩), (.bool false), (.bool false), (.int .i64 0)] [(0, (1, (.const (.string ⟨#[100, 105, 118]⟩)))), (1, (1, (.const (.bool true)))), (2, (1, (.const (.bool true)))), (3, (1, (.const (.int .i64 2))))])⟩,
                      ⟨none, none, (.sto true 4 (.tmp 2) (.tmp 24))⟩])
                    .ret)
                   (.seq
                    (.ops [
                      ⟨(some 26), none, (.bin .eql (.tmp 3) (.const (.int .i64 8)))⟩,
                      ⟨(some 25), none, (.mv (.tmp 26))⟩])
                    (.cond (.tmp 25)
                     (.seq
                      (.ops [
                        ⟨(some 27), none, (.bld [(.string ⟨#[]⟩), (.bool false), (.bool false), (.int .i64 0)] [(0, (1, (.const (.string ⟨#[109, 111, 100]⟩)))), (1, (1, (.const (.bool true)))), (2, (1, (.const (.bool true)))), (3, (1, (.const (.int .i64 2))))])⟩,
                        ⟨none, none, (.sto true 4 (.tmp 2) (.tmp 27))⟩])
                      .ret)
                     (.seq
                      (.ops [
                        ⟨(some 29), none, (.bin .eql (.tmp 3) (.const (.int .i64 9)))⟩,
                        ⟨(some 28), none, (.mv (.tmp 29))⟩])
                      (.cond (.tmp 28)
                       (.seq
                        (.ops [
                          ⟨(some 30), none, (.bld [(.string ⟨#[]⟩), (.bool false), (.bool false), (.int .i64 0)] [(0, (1, (.const (.string ⟨#[97, 110, 100]⟩)))), (1, (1, (.const (.bool true)))), (2, (1, (.const (.bool true)))), (3, (1, (.const (.int .i64 2))))])⟩,
                          ⟨none, none, (.sto true 4 (.tmp 2) (.tmp 30))⟩])
                        .ret)
                       (.seq
                        (.ops [
                          ⟨(some 32), none, (.bin .eql (.tmp 3) (.const (.int .i64 10)))⟩,
                          ⟨(some 31), none, (.mv (.tmp 32))⟩])
                        (.cond (.tmp 31)
                         (.seq
                          (.ops [
                            ⟨(some 33), none, (.bld [(.string ⟨#[]⟩), (.bool false), (.bool false), (.int .i64 0)] [(0, (1, (.const (.string ⟨#[111, 114]⟩)))), (1, (1, (.const (.bool true)))), (2, (1, (.const (.bool true)))), (3, (1, (.const (.int .i64 2))))])⟩,
                            ⟨none, none, (.sto true 4 (.tmp 2) (.tmp 33))⟩])
                          .ret)
                         (.seq
                          (.ops [
                            ⟨(some 35), none, (.bin .eql (.tmp 3) (.const (.int .i64 11)))⟩,
                            ⟨(some 34), none, (.mv (.tmp 35))⟩])
                          (.cond (.tmp 34)
                           (.seq
                            (.ops [
                              ⟨(some 36), none, (.bld [(.string ⟨#[]⟩), (.bool false), (.bool false), (.int .i64 0)] [(0, (1, (.const (.string ⟨#[120, 111, 114]⟩)))), (1, (1, (.const (.bool true)))), (2, (1, (.const (.bool true)))), (3, (1, (.const (.int .i64 2))))])⟩,
                              ⟨none, none, (.sto true 4 (.tmp 2) (.tmp 36))⟩])
                            .ret)
                           (.seq
                            (.ops [
                              ⟨(some 38), none, (.bin .eql (.tmp 3) (.const (.int .i64 12)))⟩,
                              ⟨(some 37), none, (.mv (.tmp 38))⟩])
                            (.cond (.tmp 37)
                             (.seq
                              (.ops [
                                ⟨(some 39), none, (.bld [(.string ⟨#[]⟩), (.bool false), (.bool false), (.int .i64 0)] [(0, (1, (.const (.string ⟨#[115, 104, 108]⟩)))), (1, (1, (.const (.bool true)))), (2, (1, (.const (.bool true)))), (3, (1, (.const (.int .i64 2))))])⟩,
                                ⟨none, none, (.sto true 4 (.tmp 2) (.tmp 39))⟩])
                              .ret)
                             (.seq
                              (.ops [
                                ⟨(some 41), none, (.bin .eql (.tmp 3) (.const (.int .i64 13)))⟩,
                                ⟨(some 40), none, (.mv (.tmp 41))⟩])
                              (.cond (.tmp 40)
                               (.seq
                                (.ops [
                                  ⟨(some 42), none, (.bld [(.string ⟨#[]⟩), (.bool false), (.bool false), (.int .i64 0)] [(0, (1, (.const (.string ⟨#[115, 104, 114]⟩)))), (1, (1, (.const (.bool true)))), (2, (1, (.const (.bool true)))), (3, (1, (.const (.int .i64 2))))])⟩,
                                  ⟨none, none, (.sto true 4 (.tmp 2) (.tmp 42))⟩])
                                .ret)
                               (.seq
                                (.ops [
                                  ⟨(some 44), none, (.bin .eql (.tmp 3) (.const (.int .i64 14)))⟩,
                                  ⟨(some 43), none, (.mv (.tmp 44))⟩])
                                (.cond (.tmp 43)
                                 (.seq
                                  (.ops [
                                    ⟨(some 45), none, (.bld [(.string ⟨#[]⟩), (.bool false), (.bool false), (.int .i64 0)] [(0, (1, (.const (.string ⟨#[108, 116]⟩)))), (1, (1, (.const (.bool true)))), (2, (1, (.const (.bool true)))), (3, (1, (.const (.int .i64 2))))])⟩,
                                    ⟨none, none, (.sto true 4 (.tmp 2) (.tmp 45))⟩])
                                  .ret)
                                 (.seq
                                  (.ops [
                                    ⟨(some 47), none, (.bin .eql (.tmp 3) (.const (.int .i64 15)))⟩,
                                    ⟨(some 46), none, (.mv (.tmp 47))⟩])
                                  (.cond (.tmp 46)
                                   (.seq
                                    (.ops [
                                      ⟨(some 48), none, (.bld [(.string ⟨#[]⟩), (.bool false), (.bool false), (.int .i64 0)] [(0, (1, (.const (.string ⟨#[101, 113]⟩)))), (1, (1, (.const (.bool true)))), (2, (1, (.const (.bool true)))), (3, (1, (.const (.int .i64 2))))])⟩,
                                      ⟨none, none, (.sto true 4 (.tmp 2) (.tmp 48))⟩])
                                    .ret)
                                   (.seq
                                    (.ops [
                                      ⟨(some 50), none, (.bin .eql (.tmp 3) (.const (.int .i64 16)))⟩,
                                      ⟨(some 49), none, (.mv (.tmp 50))⟩])
                                    (.cond (.tmp 49)
                                     (.seq
                                      (.ops [
                                        ⟨(some 51), none, (.bld [(.string ⟨#[]⟩), (.bool false), (.bool false), (.int .i64 0)] [(0, (1, (.const (.string ⟨#[108, 100]⟩)))), (1, (1, (.const (.bool true)))), (2, (1, (.const (.bool true)))), (3, (1, (.const (.int .i64 1))))])⟩,
                                        ⟨none, none, (.sto true 4 (.tmp 2) (.tmp 51))⟩])
                                      .ret)
                                     (.seq
                                      (.ops [
                                        ⟨(some 53), none, (.bin .eql (.tmp 3) (.const (.int .i64 17)))⟩,
                                        ⟨(some 52), none, (.mv (.tmp 53))⟩])
                                      (.cond (.tmp 52)
                                       (.seq
                                        (.ops [
                                          ⟨(some 54), none, (.bld [(.string ⟨#[]⟩), (.bool false), (.bool false), (.int .i64 0)] [(0, (1, (.const (.string ⟨#[115, 116]⟩)))), (1, (1, (.const (.bool true)))), (2, (1, (.const (.bool true)))), (3, (1, (.const (.int .i64 1))))])⟩,
                                          ⟨none, none, (.sto true 4 (.tmp 2) (.tmp 54))⟩])
                                        .ret)
                                       (.seq
                                        (.ops [
                                          ⟨(some 56), none, (.bin .eql (.tmp 3) (.const (.int .i64 18)))⟩,
                                          ⟨(some 55), none, (.mv (.tmp 56))⟩])
                                        (.cond (.tmp 55)
                                         (.seq
                                          (.ops [
                                            ⟨(some 57), none, (.bld [(.string ⟨#[]⟩), (.bool false), (.bool false), (.int .i64 0)] [(0, (1, (.const (.string ⟨#[106, 109, 112]⟩)))), (1, (1, (.const (.bool false)))), (2, (1, (.const (.bool false)))), (3, (1, (.const (.int .i64 1))))])⟩,
                                            ⟨none, none, (.sto true 4 (.tmp 2) (.tmp 57))⟩])
                                          .ret)
                                         (.seq
                                          (.ops [
                                            ⟨(some 59), none, (.bin .eql (.tmp 3) (.const (.int .i64 19)))⟩,
                                            ⟨(some 58), none, (.mv (.tmp 59))⟩])
                                          (.cond (.tmp 58)
                                           (.seq
                                            (.ops [
                                              ⟨(some 60), none, (.bld [(.string ⟨#[]⟩), (.bool false), (.bool false), (.int .i64 0)] [(0, (1, (.const (.string ⟨#[106, 122]⟩)))), (1, (1, (.const (.bool true)))), (2, (1, (.const (.bool false)))), (3, (1, (.const (.int .i64 1))))])⟩,
                                              ⟨none, none, (.sto true 4 (.tmp 2) (.tmp 60))⟩])
                                            .ret)
                                           (.seq
                                            (.ops [
                                              ⟨(some 62), none, (.bin .eql (.tmp 3) (.const (.int .i64 20)))⟩,
                                              ⟨(some 61), none, (.mv (.tmp 62))⟩])
                                            (.cond (.tmp 61)
                                             (.seq
                                              (.ops [
                                                ⟨(some 63), none, (.bld [(.string ⟨#[]⟩), (.bool false), (.bool false), (.int .i64 0)] [(0, (1, (.const (.string ⟨#[106, 110, 122]⟩)))), (1, (1, (.const (.bool true)))), (2, (1, (.const (.bool false)))), (3, (1, (.const (.int .i64 1))))])⟩,
                                                ⟨none, none, (.sto true 4 (.tmp 2) (.tmp 63))⟩])
                                              .ret)
                                             (.seq
                                              (.ops [
                                                ⟨(some 65), none, (.bin .eql (.tmp 3) (.const (.int .i64 21)))⟩,
                                                ⟨(some 64), none, (.mv (.tmp 65))⟩])
                                              (.cond (.tmp 64)
                                               (.seq
                                                (.ops [
                                                  ⟨(some 66), none, (.bld [(.string ⟨#[]⟩), (.bool false), (.bool false), (.int .i64 0)] [(0, (1, (.const (.string ⟨#[99, 97, 108, 108]⟩)))), (1, (1, (.const (.bool true)))), (2, (1, (.const (.bool false)))), (3, (1, (.const (.int .i64 1))))])⟩,
                                                  ⟨none, none, (.sto true 4 (.tmp 2) (.tmp 66))⟩])
                                                .ret)
                                               (.seq
                                                (.ops [
                                                  ⟨(some 68), none, (.bin .eql (.tmp 3) (.const (.int .i64 22)))⟩,
                                                  ⟨(some 67), none, (.mv (.tmp 68))⟩])
                                                (.cond (.tmp 67)
                                                 (.seq
                                                  (.ops [
                                                    ⟨(some 69), none, (.bld [(.string ⟨#[]⟩), (.bool false), (.bool false), (.int .i64 0)] [(0, (1, (.const (.string ⟨#[114, 101, 116]⟩)))), (1, (1, (.const (.bool true)))), (2, (1, (.const (.bool false)))), (3, (1, (.const (.int .i64 0))))])⟩,
                                                    ⟨none, none, (.sto true 4 (.tmp 2) (.tmp 69))⟩])
                                                  .ret)
                                                 (.seq
                                                  (.ops [
                                                    ⟨(some 71), none, (.bin .eql (.tmp 3) (.const (.int .i64 23)))⟩,
                                                    ⟨(some 70), none, (.mv (.tmp 71))⟩])
                                                  (.cond (.tmp 70)
                                                   (.seq
                                                    (.ops [
                                                      ⟨(some 72), none, (.bld [(.string ⟨#[]⟩), (.bool false), (.bool false), (.int .i64 0)] [(0, (1, (.const (.string ⟨#[103, 101, 116]⟩)))), (1, (1, (.const (.bool true)))), (2, (1, (.const (.bool false)))), (3, (1, (.const (.int .i64 0))))])⟩,
                                                      ⟨none, none, (.sto true 4 (.tmp 2) (.tmp 72))⟩])
                                                    .ret)
                                                   (.seq
                                                    (.ops [
                                                      ⟨(some 74), none, (.bin .eql (.tmp 3) (.const (.int .i64 24)))⟩,
                                                      ⟨(some 73), none, (.mv (.tmp 74))⟩])
                                                    (.cond (.tmp 73)
                                                     (.seq
                                                      (.ops [
                                                        ⟨(some 75), none, (.bld [(.string ⟨#[]⟩), (.bool false), (.bool false), (.int .i64 0)] [(0, (1, (.const (.string ⟨#[112, 117, 116]⟩)))), (1, (1, (.const (.bool true)))), (2, (1, (.const (.bool false)))), (3, (1, (.const (.int .i64 0))))])⟩,
                                                        ⟨none, none, (.sto true 4 (.tmp 2) (.tmp 75))⟩])
                                                      .ret)
                                                     (.seq
                                                      (.ops [
                                                        ⟨(some 77), none, (.bin .eql (.tmp 3) (.const (.int .i64 25)))⟩,
                                                        ⟨(some 76), none, (.mv (.tmp 77))⟩])
                                                      (.cond (.tmp 76)
                                                       (.seq
                                                        (.ops [
                                                          ⟨(some 78), none, (.bld [(.string ⟨#[]⟩), (.bool false), (.bool false), (.int .i64 0)] [(0, (1, (.const (.string ⟨#[99, 104, 107]⟩)))), (1, (1, (.const (.bool true)))), (2, (1, (.const (.bool false)))), (3, (1, (.const (.int .i64 1))))])⟩,
                                                          ⟨none, none, (.sto true 4 (.tmp 2) (.tmp 78))⟩])
                                                        .ret)
                                                       (.seq
                                                        (.ops [
                                                          ⟨(some 80), none, (.bin .eql (.tmp 3) (.const (.int .i64 26)))⟩,
                                                          ⟨(some 79), none, (.mv (.tmp 80))⟩])
                                                        (.cond (.tmp 79)
                                                         (.seq
                                                          (.ops [
                                                            ⟨(some 81), none, (.bld [(.string ⟨#[]⟩), (.bool false), (.bool false), (.int .i64 0)] [(0, (1, (.const (.string ⟨#[104, 97, 108, 116]⟩)))), (1, (1, (.const (.bool false)))), (2, (1, (.const (.bool false)))), (3, (1, (.const (.int .i64 0))))])⟩,
                                                            ⟨none, none, (.sto true 4 (.tmp 2) (.tmp 81))⟩])
                                                          .ret)
                                                         (.seq
                                                          (.ops [
                                                            ⟨(some 83), none, (.bin .eql (.tmp 3) (.const (.int .i64 27)))⟩,
                                                            ⟨(some 82), none, (.mv (.tmp 83))⟩])
                                                          (.cond (.tmp 82)
                                                           (.seq
                                                            (.ops [
                                                              ⟨(some 84), none, (.bld [(.string ⟨#[]⟩), (.bool false), (.bool false), (.int .i64 0)] [(0, (1, (.const (.string ⟨#[108, 100, 99]⟩)))), (1, (1, (.const (.bool true)))), (2, (1, (.const (.bool true)))), (3, (1, (.const (.int .i64 1))))])⟩,
                                                              ⟨none, none, (.sto true 4 (.tmp 2) (.tmp 84))⟩])
                                                            .ret)
                                                           .skip))))))))))))))))))))))))))))))))))))))))))))))))))))))))
   (.seq
    (.ops [
      ⟨(some 85), none, (.bld [(.string ⟨#[]⟩), (.bool false), (.bool false), (.int .i64 0)] [])⟩,
      ⟨none, none, (.sto true 4 (.tmp 2) (.tmp 85))⟩])
    .ret)))
theorem f_inst_shapeOf : compF Try.prog 50 = some (86, c_inst_shapeOf, [(.cell 2 true 4)]) := by kernel_rfl

/-- seedcorn/inst.within -/
def c_inst_within : VC :=
 (.seq
  (.ops [
    ⟨(some 6), none, (.mv (.const (.bool false)))⟩])
  (.seq
   (.seq
    (.ops [
      ⟨(some 7), none, (.mv (.tmp 2))⟩,
      ⟨(some 8), none, (.un .not (.tmp 7))⟩])
    (.cond (.tmp 8)
     (.seq
      (.ops [
        ⟨(some 9), none, (.mv (.tmp 0))⟩,
        ⟨(some 10), none, (.bin .eql (.tmp 9) (.const (.int .i64 0)))⟩,
        ⟨(some 6), none, (.mv (.tmp 10))⟩])
      .ret)
     .skip))
   (.seq
    (.ops [
      ⟨(some 11), none, (.mv (.tmp 0))⟩,
      ⟨(some 12), none, (.bin .geq (.tmp 11) (.const (.int .i64 0)))⟩,
      ⟨(some 13), none, (.mv (.tmp 12))⟩,
      ⟨(some 14), (some (13, true)), (.mv (.tmp 0))⟩,
      ⟨(some 15), (some (13, true)), (.mv (.tmp 1))⟩,
      ⟨(some 16), (some (13, true)), (.bin .leq (.tmp 14) (.tmp 15))⟩,
      ⟨(some 17), none, (.pick (.tmp 13) (.tmp 16) (.const (.bool false)))⟩,
      ⟨(some 6), none, (.mv (.tmp 17))⟩])
    .ret)))
theorem f_inst_within : compF Try.prog 51 = some (18, c_inst_within, [(.tmp 6)]) := by kernel_rfl

/-- slices.Clone[[]uint32,uint32] -/
def c_slices_Clone__uint32uint32 : VC :=
 (.seq
  (.ops [
    ⟨(some 2), none, (.mv (.const (.slice none 0 0)))⟩])
  (.seq
   (.seq
    (.ops [
      ⟨(some 3), none, (.mv (.tmp 0))⟩,
      ⟨(some 4), none, (.pur (.nils false) [(.tmp 3)])⟩])
    (.cond (.tmp 4)
     (.seq
      (.ops [
        ⟨(some 2), none, (.mv (.const (.slice none 0 0)))⟩])
      .ret)
     .skip))
   (.seq
    (.ops [
      ⟨(some 5), none, (.bsl 27 1 0 [] [])⟩,
      ⟨(some 6), none, (.mv (.tmp 0))⟩,
      ⟨(some 7), none, (.app 27 1 4 (.tmp 5) (.tmp 6))⟩,
      ⟨(some 2), none, (.mv (.tmp 7))⟩])
    .ret)))
theorem f_slices_Clone__uint32uint32 : compF Try.prog 52 = some (8, c_slices_Clone__uint32uint32, [(.tmp 2)]) := by kernel_rfl

/-- seedcorn/word.divide -/
def c_word_divide : VC :=
 (.seq
  (.ops [
    ⟨(some 6), none, (.mv (.const (.int .u32 0)))⟩,
    ⟨(some 7), none, (.mv (.const (.int .i64 0)))⟩])
  (.seq
   (.seq
    (.ops [
      ⟨(some 8), none, (.mv (.tmp 2))⟩,
      ⟨(some 9), none, (.bin .eql (.tmp 8) (.const (.int .u32 0)))⟩])
    (.cond (.tmp 9)
     (.seq
      (.ops [
        ⟨(some 6), none, (.mv (.const (.int .u32 0)))⟩,
        ⟨(some 7), none, (.mv (.const (.int .i64 14)))⟩])
      .ret)
     .skip))
   (.seq
    (.seq
     (.ops [
       ⟨(some 10), none, (.mv (.tmp 0))⟩,
       ⟨(some 11), none, (.bin .eql (.tmp 10) (.const (.int .i64 7)))⟩])
     (.cond (.tmp 11)
      (.seq
       (.ops [
         ⟨(some 12), none, (.mv (.tmp 1))⟩,
         ⟨(some 13), none, (.mv (.tmp 2))⟩,
         ⟨(some 14), none, (.bin .quo (.tmp 12) (.tmp 13))⟩,
         ⟨(some 6), none, (.mv (.tmp 14))⟩,
         ⟨(some 7), none, (.mv (.const (.int .i64 0)))⟩])
       .ret)
      .skip))
    (.seq
     (.ops [
       ⟨(some 15), none, (.mv (.tmp 1))⟩,
       ⟨(some 16), none, (.mv (.tmp 2))⟩,
       ⟨(some 17), none, (.bin .rem (.tmp 15) (.tmp 16))⟩,
       ⟨(some 6), none, (.mv (.tmp 17))⟩,
       ⟨(some 7), none, (.mv (.const (.int .i64 0)))⟩])
     .ret))))
theorem f_word_divide : compF Try.prog 53 = some (18, c_word_divide, [(.tmp 6), (.tmp 7)]) := by kernel_rfl

/-- seedcorn/word.shift -/
def c_word_shift : VC :=
 (.seq
  (.ops [
    ⟨(some 6), none, (.mv (.const (.int .u32 0)))⟩])
  (.seq
   (.block 0
    (.seq
     (.ops [
       ⟨(some 8), none, (.mv (.tmp 2))⟩,
       ⟨(some 9), none, (.bin .gtr (.tmp 8) (.const (.int .u32 31)))⟩,
       ⟨(some 7), none, (.mv (.tmp 9))⟩])
     (.cond (.tmp 7)
      (.seq
       (.ops [
         ⟨(some 6), none, (.mv (.const (.int .u32 0)))⟩])
       .ret)
      (.seq
       (.ops [
         ⟨(some 11), none, (.mv (.tmp 0))⟩,
         ⟨(some 12), none, (.bin .eql (.tmp 11) (.const (.int .i64 12)))⟩,
         ⟨(some 10), none, (.mv (.tmp 12))⟩])
       (.cond (.tmp 10)
        (.seq
         (.ops [
           ⟨(some 13), none, (.mv (.tmp 1))⟩,
           ⟨(some 14), none, (.mv (.tmp 2))⟩,
           ⟨(some 15), none, (.bin .shl (.tmp 13) (.tmp 14))⟩,
           ⟨(some 6), none, (.mv (.tmp 15))⟩])
         .ret)
        .skip)))))
   (.seq
    (.ops [
      ⟨(some 16), none, (.mv (.tmp 1))⟩,
      ⟨(some 17), none, (.mv (.tmp 2))⟩,
      ⟨(some 18), none, (.bin .shr (.tmp 16) (.tmp 17))⟩,
      ⟨(some 6), none, (.mv (.tmp 18))⟩])
    .ret)))
theorem f_word_shift : compF Try.prog 54 = some (19, c_word_shift, [(.tmp 6)]) := by kernel_rfl

/-- seedcorn/word.compare -/
def c_word_compare : VC :=
 (.seq
  (.ops [
    ⟨(some 6), none, (.mv (.const (.int .u32 0)))⟩])
  (.seq
   (.block 0
    (.seq
     (.block 2
      (.block 1
       (.seq
        (.seq
         (.seq
          (.ops [
            ⟨(some 8), none, (.mv (.tmp 0))⟩,
            ⟨(some 9), none, (.bin .eql (.tmp 8) (.const (.int .i64 14)))⟩,
            ⟨(some 10), none, (.mv (.tmp 9))⟩,
            ⟨(some 11), (some (10, true)), (.mv (.tmp 1))⟩,
            ⟨(some 12), (some (10, true)), (.mv (.tmp 2))⟩,
            ⟨(some 13), (some (10, true)), (.bin .lss (.tmp 11) (.tmp 12))⟩,
            ⟨(some 14), none, (.pick (.tmp 10) (.tmp 13) (.const (.bool false)))⟩,
            ⟨(some 7), none, (.mv (.tmp 14))⟩])
          (.cond (.tmp 7)
           (.exit 1)
           .skip))
         (.seq
          (.ops [
            ⟨(some 16), none, (.mv (.tmp 0))⟩,
            ⟨(some 17), none, (.bin .eql (.tmp 16) (.const (.int .i64 15)))⟩,
            ⟨(some 18), none, (.mv (.tmp 17))⟩,
            ⟨(some 19), (some (18, true)), (.mv (.tmp 1))⟩,
            ⟨(some 20), (some (18, true)), (.mv (.tmp 2))⟩,
            ⟨(some 21), (some (18, true)), (.bin .eql (.tmp 19) (.tmp 20))⟩,
            ⟨(some 22), none, (.pick (.tmp 18) (.tmp 21) (.const (.bool false)))⟩,
            ⟨(some 15), none, (.mv (.tmp 22))⟩])
          (.cond (.tmp 15)
           (.exit 2)
           .skip)))
        (.exit 0))))
     (.seq
      (.seq
       (.ops [
         ⟨(some 6), none, (.mv (.const (.int .u32 1)))⟩])
       .ret)
      (.exit 0))))
   (.seq
    (.ops [
      ⟨(some 6), none, (.mv (.const (.int .u32 0)))⟩])
    .ret)))
theorem f_word_compare : compF Try.prog 55 = some (23, c_word_compare, [(.tmp 6)]) := by kernel_rfl

end Go.Proofs.Ytjkkmpkbiddhkaa
