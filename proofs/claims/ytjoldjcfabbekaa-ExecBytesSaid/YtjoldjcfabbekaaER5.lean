/-
  The document's run in place: run, Go, Run, Counts. No condition.
-/
import Derived.Test.YtjoldjcfabbekaaER4
namespace Go.Proofs.Ytjoldjcfabbekaa
set_option linter.unusedSimpArgs false
set_option linter.unusedVariables false
set_option maxRecDepth 10000
open Go.V

def t_scref10_run : VC :=
 (.seq
      (.seq
       (.ops [
         ⟨(some 14), none, (.mv (.const (.int .i64 0)))⟩])
       (.block 0
        (.loop
         (.seq
          (.seq
           (.ops [
             ⟨(some 49), none, (.mv (.tmp 14))⟩,
             ⟨(some 50), none, (.mv (.tmp 3))⟩,
             ⟨(some 51), none, (.bin .lss (.tmp 49) (.tmp 50))⟩,
             ⟨(some 52), none, (.mv (.tmp 51))⟩,
             ⟨(some 53), (some (52, true)), (.fad 0 true 22 (.tmp 13))⟩,
             ⟨(some 54), (some (52, true)), (.fad 21 false 1 (.tmp 53))⟩,
             ⟨(some 55), (some (52, true)), (.ld false 1 (.tmp 54))⟩,
             ⟨(some 56), (some (52, true)), (.bin .eql (.tmp 55) (.const (.int .i64 0)))⟩,
             ⟨(some 57), none, (.pick (.tmp 52) (.tmp 56) (.const (.bool false)))⟩])
           (.cond (.tmp 57)
            .skip
            (.exit 0)))
          (.seq
           (.block 1
            (.ops [
              ⟨(some 60), none, (.call (.func 43) [(.tmp 13)])⟩]))
           (.ops [
             ⟨(some 58), none, (.mv (.tmp 14))⟩,
             ⟨(some 59), none, (.bin .add (.tmp 58) (.const (.int .i64 1)))⟩,
             ⟨(some 14), none, (.mv (.tmp 59))⟩]))))))
      (.seq
       (.ops [
         ⟨(some 61), none, (.fad 22 false 1 (.tmp 13))⟩,
         ⟨(some 62), none, (.ld false 1 (.tmp 61))⟩,
         ⟨(some 63), none, (.see .b2s [(.tmp 62)])⟩,
         ⟨(some 64), none, (.fad 0 true 22 (.tmp 13))⟩,
         ⟨(some 65), none, (.fad 19 false 1 (.tmp 64))⟩,
         ⟨none, none, (.sto false 1 (.tmp 65) (.tmp 63))⟩])
       (.seq
        (.par false (.one ⟨(some 66), none, (.fad 0 true 22 (.tmp 13))⟩ (.one ⟨(some 67), none, (.ld true 22 (.tmp 66))⟩ (.one ⟨(some 68), none, (.fad 27 false 1 (.tmp 13))⟩ (.both (.one ⟨(some 69), none, (.ld false 1 (.tmp 68))⟩ (.one ⟨none, none, (.sto true 22 (.tmp 8) (.tmp 67))⟩ (.one ⟨(some 9), none, (.mv (.tmp 69))⟩ .done))) (.one ⟨none, none, (.sto true 22 (.tmp 8) (.tmp 67))⟩ (.one ⟨(some 69), none, (.ld false 1 (.tmp 68))⟩ (.one ⟨(some 9), none, (.mv (.tmp 69))⟩ .done))))))))
        .ret)))
def g_scref10_run : VC :=
 (.seq
  (.ops [
    ⟨(some 4), none, (.box 24 (.tmp 0))⟩,
    ⟨(some 6), none, (.box 37 (.tmp 2))⟩,
    ⟨(some 8), none, (.alc 37 [(.int .i64 0), (.int .u32 0), (.int .u32 0), (.int .u32 0), (.int .u32 0), (.int .u32 0), (.int .u32 0), (.int .u32 0), (.int .u32 0), (.int .u32 0), (.int .u32 0), (.int .u32 0), (.int .u32 0), (.int .u32 0), (.int .u32 0), (.int .u32 0), (.int .u32 0), (.slice none 0 0), (.int .i64 0), (.string ⟨#[]⟩), (.int .i64 0), (.int .i64 0)])⟩,
    ⟨(some 9), none, (.mv (.const (.slice none 0 0)))⟩])
  (.seq
   (.ops [
     ⟨(some 16), none, (.ld true 2 (.tmp 4))⟩,
     ⟨(some 17), none, (.call (.func 42) [(.tmp 16)])⟩,
     ⟨(some 15), none, (.mv (.tmp 17))⟩,
     ⟨(some 18), none, (.ext (.tmp 15) 0)⟩,
     ⟨(some 19), none, (.ext (.tmp 15) 1)⟩,
     ⟨(some 10), none, (.mv (.tmp 18))⟩,
     ⟨(some 11), none, (.mv (.tmp 19))⟩])
   (.seq
    (.par true (.one ⟨(some 20), none, (.fad 0 false 1 (.tmp 6))⟩ (.one ⟨(some 21), none, (.ld false 1 (.tmp 20))⟩ (.one ⟨(some 22), none, (.fad 1 true 16 (.tmp 6))⟩ (.one ⟨(some 23), none, (.ld true 16 (.tmp 22))⟩ (.one ⟨(some 25), none, (.fad 17 false 1 (.tmp 6))⟩ (.one ⟨(some 26), none, (.ld false 1 (.tmp 25))⟩ (.one ⟨(some 28), none, (.fad 18 false 1 (.tmp 6))⟩ (.one ⟨(some 29), none, (.ld false 1 (.tmp 28))⟩ (.one ⟨(some 30), none, (.fad 20 false 1 (.tmp 6))⟩ (.one ⟨(some 31), none, (.ld false 1 (.tmp 30))⟩ (.one ⟨(some 32), none, (.fad 21 false 1 (.tmp 6))⟩ (.one ⟨(some 33), none, (.ld false 1 (.tmp 32))⟩ (.both (.one ⟨(some 24), none, (.bsl 34 1 0 [] [])⟩ (.both (.one ⟨(some 27), none, (.app 34 1 4 (.tmp 24) (.tmp 26))⟩ (.one ⟨(some 34), none, (.bld [(.int .i64 0), (.int .u32 0), (.int .u32 0), (.int .u32 0), (.int .u32 0), (.int .u32 0), (.int .u32 0), (.int .u32 0), (.int .u32 0), (.int .u32 0), (.int .u32 0), (.int .u32 0), (.int .u32 0), (.int .u32 0), (.int .u32 0), (.int .u32 0), (.int .u32 0), (.slice none 0 0), (.int .i64 0), (.string ⟨#[]⟩), (.int .i64 0), (.int .i64 0)] [(0, (1, (.tmp 21))), (1, (16, (.tmp 23))), (17, (1, (.tmp 27))), (18, (1, (.tmp 29))), (20, (1, (.tmp 31))), (21, (1, (.tmp 33)))])⟩ (.one ⟨(some 12), none, (.alc 37 [(.int .i64 0), (.int .u32 0), (.int .u32 0), (.int .u32 0), (.int .u32 0), (.int .u32 0), (.int .u32 0), (.int .u32 0), (.int .u32 0), (.int .u32 0), (.int .u32 0), (.int .u32 0), (.int .u32 0), (.int .u32 0), (.int .u32 0), (.int .u32 0), (.int .u32 0), (.slice none 0 0), (.int .i64 0), (.string ⟨#[]⟩), (.int .i64 0), (.int .i64 0)])⟩ (.one ⟨none, none, (.sto true 22 (.tmp 12) (.tmp 34))⟩ .done)))) (.one ⟨(some 12), none, (.alc 37 [(.int .i64 0), (.int .u32 0), (.int .u32 0), (.int .u32 0), (.int .u32 0), (.int .u32 0), (.int .u32 0), (.int .u32 0), (.int .u32 0), (.int .u32 0), (.int .u32 0), (.int .u32 0), (.int .u32 0), (.int .u32 0), (.int .u32 0), (.int .u32 0), (.int .u32 0), (.slice none 0 0), (.int .i64 0), (.string ⟨#[]⟩), (.int .i64 0), (.int .i64 0)])⟩ (.one ⟨(some 27), none, (.app 34 1 4 (.tmp 24) (.tmp 26))⟩ (.one ⟨(some 34), none, (.bld [(.int .i64 0), (.int .u32 0), (.int .u32 0), (.int .u32 0), (.int .u32 0), (.int .u32 0), (.int .u32 0), (.int .u32 0), (.int .u32 0), (.int .u32 0), (.int .u32 0), (.int .u32 0), (.int .u32 0), (.int .u32 0), (.int .u32 0), (.int .u32 0), (.int .u32 0), (.slice none 0 0), (.int .i64 0), (.string ⟨#[]⟩), (.int .i64 0), (.int .i64 0)] [(0, (1, (.tmp 21))), (1, (16, (.tmp 23))), (17, (1, (.tmp 27))), (18, (1, (.tmp 29))), (20, (1, (.tmp 31))), (21, (1, (.tmp 33)))])⟩ (.one ⟨none, none, (.sto true 22 (.tmp 12) (.tmp 34))⟩ .done)))))) (.one ⟨(some 12), none, (.alc 37 [(.int .i64 0), (.int .u32 0), (.int .u32 0), (.int .u32 0), (.int .u32 0), (.int .u32 0), (.int .u32 0), (.int .u32 0), (.int .u32 0), (.int .u32 0), (.int .u32 0), (.int .u32 0), (.int .u32 0), (.int .u32 0), (.int .u32 0), (.int .u32 0), (.int .u32 0), (.slice none 0 0), (.int .i64 0), (.string ⟨#[]⟩), (.int .i64 0), (.int .i64 0)])⟩ (.one ⟨(some 24), none, (.bsl 34 1 0 [] [])⟩ (.one ⟨(some 27), none, (.app 34 1 4 (.tmp 24) (.tmp 26))⟩ (.one ⟨(some 34), none, (.bld [(.int .i64 0), (.int .u32 0), (.int .u32 0), (.int .u32 0), (.int .u32 0), (.int .u32 0), (.int .u32 0), (.int .u32 0), (.int .u32 0), (.int .u32 0), (.int .u32 0), (.int .u32 0), (.int .u32 0), (.int .u32 0), (.int .u32 0), (.int .u32 0), (.int .u32 0), (.slice none 0 0), (.int .i64 0), (.string ⟨#[]⟩), (.int .i64 0), (.int .i64 0)] [(0, (1, (.tmp 21))), (1, (16, (.tmp 23))), (17, (1, (.tmp 27))), (18, (1, (.tmp 29))), (20, (1, (.tmp 31))), (21, (1, (.tmp 33)))])⟩ (.one ⟨none, none, (.sto true 22 (.tmp 12) (.tmp 34))⟩ .done)))))))))))))))))))
    (.seq
     (.par false (.one ⟨(some 35), none, (.ld true 22 (.tmp 12))⟩ (.one ⟨(some 36), none, (.fad 19 false 1 (.tmp 6))⟩ (.one ⟨(some 37), none, (.ld false 1 (.tmp 36))⟩ (.one ⟨(some 39), none, (.mv (.tmp 10))⟩ (.one ⟨(some 40), none, (.mv (.tmp 11))⟩ (.one ⟨(some 41), none, (.fad 0 false 1 (.tmp 4))⟩ (.one ⟨(some 42), none, (.ld false 1 (.tmp 41))⟩ (.one ⟨(some 43), none, (.mv (.tmp 1))⟩ (.one ⟨(some 44), none, (.fad 0 false 1 (.tmp 4))⟩ (.one ⟨(some 45), none, (.ld false 1 (.tmp 44))⟩ (.one ⟨(some 46), none, (.len (.tmp 45))⟩ (.both (.one ⟨(some 38), none, (.eff (.s2b 5) [(.tmp 37)])⟩ (.both (.one ⟨(some 47), none, (.mk 3 1 8 [(.int .i64 0)] (.tmp 46) (.tmp 46))⟩ (.one ⟨(some 48), none, (.bld [(.int .i64 0), (.int .u32 0), (.int .u32 0), (.int .u32 0), (.int .u32 0), (.int .u32 0), (.int .u32 0), (.int .u32 0), (.int .u32 0), (.int .u32 0), (.int .u32 0), (.int .u32 0), (.int .u32 0), (.int .u32 0), (.int .u32 0), (.int .u32 0), (.int .u32 0), (.slice none 0 0), (.int .i64 0), (.string ⟨#[]⟩), (.int .i64 0), (.int .i64 0), (.slice none 0 0), (.slice none 0 0), (.slice none 0 0), (.slice none 0 0), (.string ⟨#[]⟩), (.slice none 0 0)] [(0, (22, (.tmp 35))), (22, (1, (.tmp 38))), (23, (1, (.tmp 39))), (24, (1, (.tmp 40))), (25, (1, (.tmp 42))), (26, (1, (.tmp 43))), (27, (1, (.tmp 47)))])⟩ (.one ⟨(some 13), none, (.alc 82 [(.int .i64 0), (.int .u32 0), (.int .u32 0), (.int .u32 0), (.int .u32 0), (.int .u32 0), (.int .u32 0), (.int .u32 0), (.int .u32 0), (.int .u32 0), (.int .u32 0), (.int .u32 0), (.int .u32 0), (.int .u32 0), (.int .u32 0), (.int .u32 0), (.int .u32 0), (.slice none 0 0), (.int .i64 0), (.string ⟨#[]⟩), (.int .i64 0), (.int .i64 0), (.slice none 0 0), (.slice none 0 0), (.slice none 0 0), (.slice none 0 0), (.string ⟨#[]⟩), (.slice none 0 0)])⟩ (.one ⟨none, none, (.sto true 28 (.tmp 13) (.tmp 48))⟩ .done)))) (.one ⟨(some 13), none, (.alc 82 [(.int .i64 0), (.int .u32 0), (.int .u32 0), (.int .u32 0), (.int .u32 0), (.int .u32 0), (.int .u32 0), (.int .u32 0), (.int .u32 0), (.int .u32 0), (.int .u32 0), (.int .u32 0), (.int .u32 0), (.int .u32 0), (.int .u32 0), (.int .u32 0), (.int .u32 0), (.slice none 0 0), (.int .i64 0), (.string ⟨#[]⟩), (.int .i64 0), (.int .i64 0), (.slice none 0 0), (.slice none 0 0), (.slice none 0 0), (.slice none 0 0), (.string ⟨#[]⟩), (.slice none 0 0)])⟩ (.one ⟨(some 47), none, (.mk 3 1 8 [(.int .i64 0)] (.tmp 46) (.tmp 46))⟩ (.one ⟨(some 48), none, (.bld [(.int .i64 0), (.int .u32 0), (.int .u32 0), (.int .u32 0), (.int .u32 0), (.int .u32 0), (.int .u32 0), (.int .u32 0), (.int .u32 0), (.int .u32 0), (.int .u32 0), (.int .u32 0), (.int .u32 0), (.int .u32 0), (.int .u32 0), (.int .u32 0), (.int .u32 0), (.slice none 0 0), (.int .i64 0), (.string ⟨#[]⟩), (.int .i64 0), (.int .i64 0), (.slice none 0 0), (.slice none 0 0), (.slice none 0 0), (.slice none 0 0), (.string ⟨#[]⟩), (.slice none 0 0)] [(0, (22, (.tmp 35))), (22, (1, (.tmp 38))), (23, (1, (.tmp 39))), (24, (1, (.tmp 40))), (25, (1, (.tmp 42))), (26, (1, (.tmp 43))), (27, (1, (.tmp 47)))])⟩ (.one ⟨none, none, (.sto true 28 (.tmp 13) (.tmp 48))⟩ .done)))))) (.both (.one ⟨(some 47), none, (.mk 3 1 8 [(.int .i64 0)] (.tmp 46) (.tmp 46))⟩ (.both (.one ⟨(some 38), none, (.eff (.s2b 5) [(.tmp 37)])⟩ (.one ⟨(some 48), none, (.bld [(.int .i64 0), (.int .u32 0), (.int .u32 0), (.int .u32 0), (.int .u32 0), (.int .u32 0), (.int .u32 0), (.int .u32 0), (.int .u32 0), (.int .u32 0), (.int .u32 0), (.int .u32 0), (.int .u32 0), (.int .u32 0), (.int .u32 0), (.int .u32 0), (.int .u32 0), (.slice none 0 0), (.int .i64 0), (.string ⟨#[]⟩), (.int .i64 0), (.int .i64 0), (.slice none 0 0), (.slice none 0 0), (.slice none 0 0), (.slice none 0 0), (.string ⟨#[]⟩), (.slice none 0 0)] [(0, (22, (.tmp 35))), (22, (1, (.tmp 38))), (23, (1, (.tmp 39))), (24, (1, (.tmp 40))), (25, (1, (.tmp 42))), (26, (1, (.tmp 43))), (27, (1, (.tmp 47)))])⟩ (.one ⟨(some 13), none, (.alc 82 [(.int .i64 0), (.int .u32 0), (.int .u32 0), (.int .u32 0), (.int .u32 0), (.int .u32 0), (.int .u32 0), (.int .u32 0), (.int .u32 0), (.int .u32 0), (.int .u32 0), (.int .u32 0), (.int .u32 0), (.int .u32 0), (.int .u32 0), (.int .u32 0), (.int .u32 0), (.slice none 0 0), (.int .i64 0), (.string ⟨#[]⟩), (.int .i64 0), (.int .i64 0), (.slice none 0 0), (.slice none 0 0), (.slice none 0 0), (.slice none 0 0), (.string ⟨#[]⟩), (.slice none 0 0)])⟩ (.one ⟨none, none, (.sto true 28 (.tmp 13) (.tmp 48))⟩ .done)))) (.one ⟨(some 13), none, (.alc 82 [(.int .i64 0), (.int .u32 0), (.int .u32 0), (.int .u32 0), (.int .u32 0), (.int .u32 0), (.int .u32 0), (.int .u32 0), (.int .u32 0), (.int .u32 0), (.int .u32 0), (.int .u32 0), (.int .u32 0), (.int .u32 0), (.int .u32 0), (.int .u32 0), (.int .u32 0), (.slice none 0 0), (.int .i64 0), (.string ⟨#[]⟩), (.int .i64 0), (.int .i64 0), (.slice none 0 0), (.slice none 0 0), (.slice none 0 0), (.slice none 0 0), (.string ⟨#[]⟩), (.slice none 0 0)])⟩ (.one ⟨(some 38), none, (.eff (.s2b 5) [(.tmp 37)])⟩ (.one ⟨(some 48), none, (.bld [(.int .i64 0), (.int .u32 0), (.int .u32 0), (.int .u32 0), (.int .u32 0), (.int .u32 0), (.int .u32 0), (.int .u32 0), (.int .u32 0), (.int .u32 0), (.int .u32 0), (.int .u32 0), (.int .u32 0), (.int .u32 0), (.int .u32 0), (.int .u32 0), (.int .u32 0), (.slice none 0 0), (.int .i64 0), (.string ⟨#[]⟩), (.int .i64 0), (.int .i64 0), (.slice none 0 0), (.slice none 0 0), (.slice none 0 0), (.slice none 0 0), (.string ⟨#[]⟩), (.slice none 0 0)] [(0, (22, (.tmp 35))), (22, (1, (.tmp 38))), (23, (1, (.tmp 39))), (24, (1, (.tmp 40))), (25, (1, (.tmp 42))), (26, (1, (.tmp 43))), (27, (1, (.tmp 47)))])⟩ (.one ⟨none, none, (.sto true 28 (.tmp 13) (.tmp 48))⟩ .done)))))) (.one ⟨(some 13), none, (.alc 82 [(.int .i64 0), (.int .u32 0), (.int .u32 0), (.int .u32 0), (.int .u32 0), (.int .u32 0), (.int .u32 0), (.int .u32 0), (.int .u32 0), (.int .u32 0), (.int .u32 0), (.int .u32 0), (.int .u32 0), (.int .u32 0), (.int .u32 0), (.int .u32 0), (.int .u32 0), (.slice none 0 0), (.int .i64 0), (.string ⟨#[]⟩), (.int .i64 0), (.int .i64 0), (.slice none 0 0), (.slice none 0 0), (.slice none 0 0), (.slice none 0 0), (.string ⟨#[]⟩), (.slice none 0 0)])⟩ (.both (.one ⟨(some 38), none, (.eff (.s2b 5) [(.tmp 37)])⟩ (.one ⟨(some 47), none, (.mk 3 1 8 [(.int .i64 0)] (.tmp 46) (.tmp 46))⟩ (.one ⟨(some 48), none, (.bld [(.int .i64 0), (.int .u32 0), (.int .u32 0), (.int .u32 0), (.int .u32 0), (.int .u32 0), (.int .u32 0), (.int .u32 0), (.int .u32 0), (.int .u32 0), (.int .u32 0), (.int .u32 0), (.int .u32 0), (.int .u32 0), (.int .u32 0), (.int .u32 0), (.int .u32 0), (.slice none 0 0), (.int .i64 0), (.string ⟨#[]⟩), (.int .i64 0), (.int .i64 0), (.slice none 0 0), (.slice none 0 0), (.slice none 0 0), (.slice none 0 0), (.string ⟨#[]⟩), (.slice none 0 0)] [(0, (22, (.tmp 35))), (22, (1, (.tmp 38))), (23, (1, (.tmp 39))), (24, (1, (.tmp 40))), (25, (1, (.tmp 42))), (26, (1, (.tmp 43))), (27, (1, (.tmp 47)))])⟩ (.one ⟨none, none, (.sto true 28 (.tmp 13) (.tmp 48))⟩ .done)))) (.one ⟨(some 47), none, (.mk 3 1 8 [(.int .i64 0)] (.tmp 46) (.tmp 46))⟩ (.one ⟨(some 38), none, (.eff (.s2b 5) [(.tmp 37)])⟩ (.one ⟨(some 48), none, (.bld [(.int .i64 0), (.int .u32 0), (.int .u32 0), (.int .u32 0), (.int .u32 0), (.int .u32 0), (.int .u32 0), (.int .u32 0), (.int .u32 0), (.int .u32 0), (.int .u32 0), (.int .u32 0), (.int .u32 0), (.int .u32 0), (.int .u32 0), (.int .u32 0), (.int .u32 0), (.slice none 0 0), (.int .i64 0), (.string ⟨#[]⟩), (.int .i64 0), (.int .i64 0), (.slice none 0 0), (.slice none 0 0), (.slice none 0 0), (.slice none 0 0), (.string ⟨#[]⟩), (.slice none 0 0)] [(0, (22, (.tmp 35))), (22, (1, (.tmp 38))), (23, (1, (.tmp 39))), (24, (1, (.tmp 40))), (25, (1, (.tmp 42))), (26, (1, (.tmp 43))), (27, (1, (.tmp 47)))])⟩ (.one ⟨none, none, (.sto true 28 (.tmp 13) (.tmp 48))⟩ .done))))))))))))))))))))
     t_scref10_run))))
theorem e_scref10_run : compF Try.prog 32 = some (70, g_scref10_run, [(.cell 8 true 22), (.tmp 9)]) := by kernel_rfl



theorem cntL_S (code : List Int) (inp : ByteArray) (σ : S) (k : Nat) : cntL code inp σ (k + 1) = cntS code (runN code inp σ k) (cntL code inp σ k) := rfl

theorem fold_stc {pc : Int} {f : Nat → Int} {m : AV} {rd : Int} {so : ByteArray} {st fin : Int} : I pc :: (regs f ++ [m, I rd, strv so, I st, I fin]) = stc pc f m rd so st fin := rfl
theorem fold_wkc {pc : Int} {f : Nat → Int} {m : AV} {rd : Int} {so : ByteArray} {st fin : Int} {o cd ok wd ct : AV} {inp : ByteArray} : stc pc f m rd so st fin ++ [o, cd, ok, wd, strv inp, ct] = wkc pc f m rd so st fin o cd ok wd inp ct := by
  simp [stc, wkc]
theorem stw17 {pc : Int} {f : Nat → Int} {m : AV} {rd : Int} {so : ByteArray} {st fin : Int} (x : AV) : List.take 17 (stc pc f m rd so st fin) ++ x :: List.drop 18 (stc pc f m rd so st fin) = stc pc f x rd so st fin := rfl
theorem stw18 {pc : Int} {f : Nat → Int} {m : AV} {rd : Int} {so : ByteArray} {st fin : Int} (x : Int) : List.take 18 (stc pc f m rd so st fin) ++ I x :: List.drop 19 (stc pc f m rd so st fin) = stc pc f m x so st fin := rfl
theorem stw20 {pc : Int} {f : Nat → Int} {m : AV} {rd : Int} {so : ByteArray} {st fin : Int} (x : Int) : List.take 20 (stc pc f m rd so st fin) ++ I x :: List.drop 21 (stc pc f m rd so st fin) = stc pc f m rd so x fin := rfl
theorem stw21 {pc : Int} {f : Nat → Int} {m : AV} {rd : Int} {so : ByteArray} {st fin : Int} (x : Int) : List.take 21 (stc pc f m rd so st fin) ++ I x :: List.drop 22 (stc pc f m rd so st fin) = stc pc f m rd so st x := rfl
theorem wkw22 {pc : Int} {f : Nat → Int} {m : AV} {rd : Int} {so : ByteArray} {st fin : Int} {o cd ok wd ct : AV} {inp : ByteArray} (x : AV) : List.take 22 (wkc pc f m rd so st fin o cd ok wd inp ct) ++ x :: List.drop 23 (wkc pc f m rd so st fin o cd ok wd inp ct) = wkc pc f m rd so st fin x cd ok wd inp ct := rfl
theorem wkw23 {pc : Int} {f : Nat → Int} {m : AV} {rd : Int} {so : ByteArray} {st fin : Int} {o cd ok wd ct : AV} {inp : ByteArray} (x : AV) : List.take 23 (wkc pc f m rd so st fin o cd ok wd inp ct) ++ x :: List.drop 24 (wkc pc f m rd so st fin o cd ok wd inp ct) = wkc pc f m rd so st fin o x ok wd inp ct := rfl
theorem wkw24 {pc : Int} {f : Nat → Int} {m : AV} {rd : Int} {so : ByteArray} {st fin : Int} {o cd ok wd ct : AV} {inp : ByteArray} (x : AV) : List.take 24 (wkc pc f m rd so st fin o cd ok wd inp ct) ++ x :: List.drop 25 (wkc pc f m rd so st fin o cd ok wd inp ct) = wkc pc f m rd so st fin o cd x wd inp ct := rfl
theorem wkw25 {pc : Int} {f : Nat → Int} {m : AV} {rd : Int} {so : ByteArray} {st fin : Int} {o cd ok wd ct : AV} {inp : ByteArray} (x : AV) : List.take 25 (wkc pc f m rd so st fin o cd ok wd inp ct) ++ x :: List.drop 26 (wkc pc f m rd so st fin o cd ok wd inp ct) = wkc pc f m rd so st fin o cd ok x inp ct := rfl
theorem wkw26 {pc : Int} {f : Nat → Int} {m : AV} {rd : Int} {so : ByteArray} {st fin : Int} {o cd ok wd ct : AV} {inp : ByteArray} (x : ByteArray) : List.take 26 (wkc pc f m rd so st fin o cd ok wd inp ct) ++ strv x :: List.drop 27 (wkc pc f m rd so st fin o cd ok wd inp ct) = wkc pc f m rd so st fin o cd ok wd x ct := rfl
theorem wkw27 {pc : Int} {f : Nat → Int} {m : AV} {rd : Int} {so : ByteArray} {st fin : Int} {o cd ok wd ct : AV} {inp : ByteArray} (x : AV) : List.take 27 (wkc pc f m rd so st fin o cd ok wd inp ct) ++ x :: List.drop 28 (wkc pc f m rd so st fin o cd ok wd inp ct) = wkc pc f m rd so st fin o cd ok wd inp x := rfl
theorem dps22 {pc : Int} {f : Nat → Int} {m : AV} {rd : Int} {so : ByteArray} {st fin : Int} : List.drop 22 (stc pc f m rd so st fin) = [] := rfl
theorem dps28 {pc : Int} {f : Nat → Int} {m : AV} {rd : Int} {so : ByteArray} {st fin : Int} {o cd ok wd ct : AV} {inp : ByteArray} : List.drop 28 (wkc pc f m rd so st fin o cd ok wd inp ct) = [] := rfl

theorem stw21' {pc : Int} {f : Nat → Int} {m : AV} {rd : Int} {so : ByteArray} {st fin : Int} (x : Int) : List.take 21 (stc pc f m rd so st fin) ++ [I x] = stc pc f m rd so st x := rfl
theorem wkw27' {pc : Int} {f : Nat → Int} {m : AV} {rd : Int} {so : ByteArray} {st fin : Int} {o cd ok wd ct : AV} {inp : ByteArray} (x : AV) : List.take 27 (wkc pc f m rd so st fin o cd ok wd inp ct) ++ [x] = wkc pc f m rd so st fin o cd ok wd inp x := rfl

theorem cntL_stays {code : List Int} {inp : ByteArray} {σ : S} {k : Nat} (h : (runN code inp σ k).fin ≠ 0) : ∀ d, cntL code inp σ (k + d) = cntL code inp σ k
  | 0 => rfl
  | d + 1 => by
    have hd : doneF code (runN code inp σ (k + d)) = false := by rw [runN_stays h d]; simp [doneF, h]
    show cntL code inp σ (k + d + 1) = _
    simp only [cntL, hd, Bool.false_eq_true, if_false]
    exact cntL_stays h d

/-- What is known at the head of the loop. -/
structure RQ where
  k : Nat
  H : List VObj
  nx : Nat

theorem refrun_tail (code : List Int) (inp : ByteArray) (σ : S) (fuel : Int) (w sw : Nat) (env : List (Nat × AV)) (H : List VObj) (nx : Nat) (cs : List AV) (C : AV → Prop)
    (hcode : ∀ x ∈ code, In32 x) (hcl : code.length ≤ 1000000) (hi : inp.size ≤ 1000000000) (hws : Wf σ) (hl : σ.mem.length ≤ 1000000) (hol : σ.out.size + fuel.toNat ≤ 1000000) (hfu : fuel ≤ 1000000)
    (he3 : get env 3 = I fuel) (he8 : get env 8 = .ptr 2 2 0) (he13 : get env 13 = .ptr w sw 0) (hcs : cs.length = 22) (h2 : H[2]? = some ⟨2, 37, 1, cs⟩)
    (hA : WAt code inp H w sw σ ⟨#[]⟩ (cntL code inp σ 0)) (hC : C (.tup [stA (runN code inp σ fuel.toNat), ints (cntL code inp σ fuel.toNat)])) :
    VW Try.prog t_scref10_run (retQ Try.prog [.cell 8 true 22, .tmp 9] fun r H nx => ∃ y, Frz 0 H nx r y ∧ C y) ⟨env, H, nx⟩ := by
  have hwf := runN_wf (code := code) (inp := inp) hcode hws
  have hcnt := cntL_le code inp σ
  simp only [go_sem,Nat.reduceEqDiff,Nat.reduceAdd,Nat.reduceMul,↓reduceIte,↓dreduceIte,reduceCtorEq,Nat.reduceLeDiff,Nat.reduceLT,Nat.reduceSub,Int.reduceToNat,Int.reduceLE,Int.reduceLT, t_scref10_run]
  refine VW_loop (fun q : RQ => ⟨[(3, I fuel), (8, .ptr 2 2 0), (13, .ptr w sw 0), (14, I q.k)], q.H, q.nx⟩)
    (fun q => q.k ≤ fuel.toNat ∧ WAt code inp q.H w sw (runN code inp σ q.k) ⟨#[]⟩ (cntL code inp σ q.k) ∧ q.H[2]? = some ⟨2, 37, 1, cs⟩) (fun q => fuel.toNat - q.k)
    ⟨0, H, nx⟩ (Wk.mk (fun p hp => ?_) ⟨[], (List.append_nil _).symm⟩ (Nat.le_refl _)) ⟨Nat.zero_le _, hA, h2⟩ ?_
  · simp only [List.mem_cons, List.not_mem_nil, or_false] at hp
    rcases hp with rfl | rfl | rfl | rfl
    · simpa [get_cons] using he3
    · simpa [get_cons] using he8
    · simpa [get_cons] using he13
    · simp [get_cons]
  clear hA h2 he3 he8 he13
  rintro ⟨k, H, nx⟩ ⟨h1, hA, h2⟩
  simp only at h1 hA h2
  have hA' := hA
  obtain ⟨m, sm, o, s1, c, sc, hw, hm, ho, hc, hcc⟩ := hA'
  have fin_ : runN code inp σ fuel.toNat = runN code inp σ k → cntL code inp σ fuel.toNat = cntL code inp σ k → (k : Int) < fuel → True := fun _ _ _ => trivial
  have hlt := (List.getElem?_eq_some_iff.1 hw).1
  have h2lt := (List.getElem?_eq_some_iff.1 h2).1
  have nw2 : w ≠ 2 := fun e => by rw [e, h2] at hw; simp at hw
  have nm2 : m ≠ 2 := fun e => by rw [e, h2] at hm; simp at hm
  have no2 : o ≠ 2 := fun e => by rw [e, h2] at ho; simp at ho
  have nc2 : c ≠ 2 := fun e => by rw [e, h2] at hc; simp at hc
  have nm : w ≠ m := fun e => by rw [← e, hw] at hm; simp at hm
  have nc : w ≠ c := fun e => by rw [← e, hw] at hc; simp at hc
  have gw : ∀ x, (H.set w x)[w]? = some x := fun x => by rw [List.getElem?_set, if_pos rfl, if_pos hlt]
  have g2 : ∀ x, (H.set w x)[2]? = some ⟨2, 37, 1, cs⟩ := fun x => by rw [List.getElem?_set, if_neg nw2]; exact h2
  have g3 : ∀ x y, ((H.set w x).set 2 y)[w]? = some x := fun x y => by rw [List.getElem?_set, if_neg (fun e => nw2 e.symm)]; exact gw x
  have g4 : ∀ x y, ((H.set w x).set 2 y)[2]? = some y := fun x y => by rw [List.getElem?_set, if_pos rfl, if_pos (by rw [List.length_set]; exact h2lt)]
  have g5 : ∀ x y, ((H.set w x).set 2 y)[m]? = some ⟨sm, 34, 1, (runN code inp σ k).mem.map U32⟩ := fun x y => by
    rw [List.getElem?_set, if_neg (fun e => nm2 e.symm), List.getElem?_set, if_neg nm]; exact hm
  have g6 : ∀ x y, ((H.set w x).set 2 y)[c]? = some ⟨sc, 3, 1, (cntL code inp σ k).map I⟩ := fun x y => by
    rw [List.getElem?_set, if_neg (fun e => nc2 e.symm), List.getElem?_set, if_neg nc]; exact hc
  have htk : ((runN code inp σ k).out.data.toList.map U8).take (runN code inp σ k).out.size = (runN code inp σ k).out.data.toList.map U8 := List.take_of_length_le (by rw [List.length_map]; exact Nat.le_refl _)
  have hstr : (⟨(runN code inp σ k).out.data.toList.toArray⟩ : ByteArray) = (runN code inp σ k).out := bytes_ext (by simp)
  have hdrop : cs.drop 22 = [] := List.drop_eq_nil_of_le (by omega)
  obtain ⟨w1, w2, w3⟩ := hwf k
  by_cases c1 : (k : Int) < fuel
  · by_cases c2 : (runN code inp σ k).fin = 0
    · simp only [go_sem,Nat.reduceEqDiff,Nat.reduceAdd,Nat.reduceMul,↓reduceIte,↓dreduceIte,reduceCtorEq,Nat.reduceLeDiff,Nat.reduceLT,Nat.reduceSub,Int.reduceToNat,Int.reduceLE,Int.reduceLT, hw, eq_true c1, eq_true c2, wkc_length, k_state, k_pc, k_fin, k_so, k_o, k_ct, ks_so, stc_length, one_ref, one_imm]
      refine wstep_v code inp (runN code inp σ k) ⟨#[]⟩ (cntL code inp σ k) H nx w sw _ hcode hcl hi w1 (by omega) (by omega) c2 (fun x hx => by have := hcnt k x hx; omega) hA fun r H' nx' hk hA' => ?_
      simp only [go_sem,Nat.reduceEqDiff,Nat.reduceAdd,Nat.reduceMul,↓reduceIte,↓dreduceIte,reduceCtorEq,Nat.reduceLeDiff,Nat.reduceLT,Nat.reduceSub,Int.reduceToNat,Int.reduceLE,Int.reduceLT]
      rw [i64_in (by omega) (by omega)]
      exact ⟨⟨k + 1, H', nx'⟩, ⟨by simp only; omega, hA', hk 2 _ h2 rfl⟩, by simp only; omega, Wk.mk (by simp [get_cons]) ⟨[], (List.append_nil _).symm⟩ (Nat.le_refl _)⟩
    · have e1 := runN_stays c2 (fuel.toNat - k)
      have e2 := cntL_stays c2 (fuel.toNat - k)
      rw [show k + (fuel.toNat - k) = fuel.toNat by omega] at e1 e2
      rw [e1, e2] at hC
      simp only [go_sem,Nat.reduceEqDiff,Nat.reduceAdd,Nat.reduceMul,↓reduceIte,↓dreduceIte,reduceCtorEq,Nat.reduceLeDiff,Nat.reduceLT,Nat.reduceSub,Int.reduceToNat,Int.reduceLE,Int.reduceLT, hw, ho, gw, g2, g3, g4, hdrop, hcs, htk, hstr, s_all, stc_all, eq_true c1, eq_false c2, wkc_length, k_state, k_pc, k_fin, k_so, k_o, k_ct, ks_so, stc_length, one_ref, one_imm]
      refine ⟨?_, ?_⟩
      all_goals
        refine ⟨_, Frz.tup ⟨_, _, rfl, stA_frz' (mem := (runN code inp σ k).mem) (Frz.ref (Nat.zero_le _) (g5 _ _) rfl rfl ?_ ?_), _, _, rfl, frz_ints (l := cntL code inp σ k) (Nat.zero_le _) (g6 _ _) hcc.symm, rfl⟩, hC⟩
        · rw [List.all_eq_true]; intro y hy; obtain ⟨x, _, rfl⟩ := List.mem_map.1 hy; rfl
        · rw [List.drop_zero, List.take_of_length_le (by rw [List.length_map]; exact Nat.le_refl _)]
          exact FrzL.pure (by rw [List.all_eq_true]; intro y hy; obtain ⟨x, _, rfl⟩ := List.mem_map.1 hy; rfl)
  · have e : fuel.toNat = k := by omega
    rw [e] at hC
    simp only [go_sem,Nat.reduceEqDiff,Nat.reduceAdd,Nat.reduceMul,↓reduceIte,↓dreduceIte,reduceCtorEq,Nat.reduceLeDiff,Nat.reduceLT,Nat.reduceSub,Int.reduceToNat,Int.reduceLE,Int.reduceLT, hw, ho, gw, g2, g3, g4, hdrop, hcs, htk, hstr, s_all, stc_all, eq_false c1, wkc_length, k_state, k_pc, k_fin, k_so, k_o, k_ct, ks_so, stc_length, one_ref, one_imm]
    refine ⟨?_, ?_⟩
    all_goals
      refine ⟨_, Frz.tup ⟨_, _, rfl, stA_frz' (mem := (runN code inp σ k).mem) (Frz.ref (Nat.zero_le _) (g5 _ _) rfl rfl ?_ ?_), _, _, rfl, frz_ints (l := cntL code inp σ k) (Nat.zero_le _) (g6 _ _) hcc.symm, rfl⟩, hC⟩
      · rw [List.all_eq_true]; intro y hy; obtain ⟨x, _, rfl⟩ := List.mem_map.1 hy; rfl
      · rw [List.drop_zero, List.take_of_length_le (by rw [List.length_map]; exact Nat.le_refl _)]
        exact FrzL.pure (by rw [List.all_eq_true]; intro y hy; obtain ⟨x, _, rfl⟩ := List.mem_map.1 hy; rfl)

theorem refrun_c (code : List Int) (data : Int) (inp : ByteArray) (σ : S) (fuel : Int) (hcode : ∀ x ∈ code, In32 x) (hcl : code.length ≤ 1000000) (hi : inp.size ≤ 1000000000) (hws : Wf σ) (hl : σ.mem.length ≤ 1000000) (hol : σ.out.size + fuel.toNat ≤ 1000000) (hfu : fuel ≤ 1000000) :
    Contract Try.prog 32 [imgA code data, strv inp, stA σ, I fuel] (fun r => r = .tup [stA (runN code inp σ fuel.toNat), ints (cntL code inp σ fuel.toNat)]) := by
  refine Contract.of_call (VCall.of_body hmix e_scref10_run (by simp) ?_)
  have hmx : (2000000 : Nat) ≤ maxLen := by decide
  have hall : allCells (σ.mem.map U32) = σ.mem.map U32 := allCells_map1 (fun _ => rfl) σ.mem
  have hrep : (List.replicate code.length [I 0]).flatten = (List.replicate code.length (0 : Int)).map I := by
    induction code.length with
    | zero => rfl
    | succ n ih => simp only [List.replicate_succ, List.flatten_cons, ih, List.map_cons]; rfl
  simp only [go_sem,Nat.reduceEqDiff,Nat.reduceAdd,Nat.reduceMul,↓reduceIte,↓dreduceIte,reduceCtorEq,Nat.reduceLeDiff,Nat.reduceLT,Nat.reduceSub,Int.reduceToNat,Int.reduceLE,Int.reduceLT, g_scref10_run, s_all, s_pc, s_regs, s_mem, s_rd, s_out, s_st, s_fin, stc_length, stc_all, one_imm, one_ref, regs_length, regs_all, wkc_length, wkc_all, fold_stc, fold_wkc, List.append_assoc, hall, hrep, Nat.reduceLeDiff, stw17, stw18, stw20, stw21, wkw22, wkw23, wkw24, wkw25, wkw26, wkw27, dps22, dps28, stw21', wkw27']
  refine VCall.of_contract (refcode_c code data hcode hcl) (SleL.pure rfl) fun x hx => ?_
  subst hx
  simp only [go_sem,Nat.reduceEqDiff,Nat.reduceAdd,Nat.reduceMul,↓reduceIte,↓dreduceIte,reduceCtorEq,Nat.reduceLeDiff,Nat.reduceLT,Nat.reduceSub,Int.reduceToNat,Int.reduceLE,Int.reduceLT, s_all, s_pc, s_regs, s_mem, s_rd, s_out, s_st, s_fin, stc_length, stc_all, one_imm, one_ref, regs_length, regs_all, wkc_length, wkc_all, fold_stc, fold_wkc, List.append_assoc, hall, hrep, Nat.reduceLeDiff, stw17, stw18, stw20, stw21, wkw22, wkw23, wkw24, wkw25, wkw26, wkw27, dps22, dps28, stw21', wkw27']
  repeat' (with_reducible refine And.intro ?_ ?_)
  all_goals first
    | (intro y hy; obtain ⟨x, _, rfl⟩ := List.mem_map.1 hy; rfl)
    | omega
    | (refine refrun_tail code inp σ fuel _ _ _ _ _ _ (fun y => y = .tup [stA (runN code inp σ fuel.toNat), ints (cntL code inp σ fuel.toNat)]) hcode hcl hi hws hl hol hfu rfl rfl rfl ?_ rfl ⟨_, _, _, _, _, _, rfl, rfl, rfl, rfl, cntL_len ..⟩ rfl
       rfl)
    | skip
end Go.Proofs.Ytjoldjcfabbekaa
