/-
  The document's run in place: a step. No condition.
-/
import Derived.Test.YtjoldjcfabbekaaER3
namespace Go.Proofs.Ytjoldjcfabbekaa
set_option linter.unusedSimpArgs false
set_option linter.unusedVariables false
set_option maxRecDepth 10000
open Go.V

/-- (*seedcorn/seedcornref10.work).step -/
def r_scref10_work_step : VC :=
 (.seq
  (.seq
   (.ops [
     ⟨(some 11), none, (.mv (.tmp 0))⟩,
     ⟨(some 12), none, (.nck (.tmp 11))⟩,
     ⟨(some 13), none, (.fad 0 true 22 (.tmp 12))⟩,
     ⟨(some 14), none, (.fad 0 false 1 (.tmp 13))⟩,
     ⟨(some 15), none, (.ld false 1 (.tmp 14))⟩,
     ⟨(some 16), none, (.bin .lss (.tmp 15) (.const (.int .i64 0)))⟩,
     ⟨(some 17), none, (.mv (.tmp 16))⟩,
     ⟨(some 18), (some (17, false)), (.mv (.tmp 0))⟩,
     ⟨(some 19), (some (17, false)), (.nck (.tmp 18))⟩,
     ⟨(some 20), (some (17, false)), (.fad 0 true 22 (.tmp 19))⟩,
     ⟨(some 21), (some (17, false)), (.fad 0 false 1 (.tmp 20))⟩,
     ⟨(some 22), (some (17, false)), (.ld false 1 (.tmp 21))⟩,
     ⟨(some 23), (some (17, false)), (.mv (.tmp 0))⟩,
     ⟨(some 24), (some (17, false)), (.nck (.tmp 23))⟩,
     ⟨(some 25), (some (17, false)), (.fad 23 false 1 (.tmp 24))⟩,
     ⟨(some 26), (some (17, false)), (.ld false 1 (.tmp 25))⟩,
     ⟨(some 27), (some (17, false)), (.len (.tmp 26))⟩,
     ⟨(some 28), (some (17, false)), (.bin .geq (.tmp 22) (.tmp 27))⟩,
     ⟨(some 29), none, (.pick (.tmp 17) (.const (.bool true)) (.tmp 28))⟩])
   (.cond (.tmp 29)
    (.seq
     (.ops [
       ⟨(some 30), none, (.mv (.tmp 0))⟩,
       ⟨(some 31), none, (.nck (.tmp 30))⟩,
       ⟨(some 32), none, (.fad 0 true 22 (.tmp 31))⟩,
       ⟨(some 33), none, (.fad 21 false 1 (.tmp 32))⟩,
       ⟨none, none, (.sto false 1 (.tmp 33) (.const (.int .i64 7)))⟩])
     .ret)
    .skip))
  (.seq
   (.ops [
     ⟨(some 34), none, (.mv (.tmp 0))⟩,
     ⟨(some 35), none, (.nck (.tmp 34))⟩,
     ⟨(some 36), none, (.fad 0 true 22 (.tmp 35))⟩,
     ⟨(some 37), none, (.fad 20 false 1 (.tmp 36))⟩,
     ⟨(some 38), none, (.ld false 1 (.tmp 37))⟩,
     ⟨(some 39), none, (.bin .add (.tmp 38) (.const (.int .i64 1)))⟩,
     ⟨(some 40), none, (.nck (.tmp 34))⟩,
     ⟨(some 41), none, (.fad 0 true 22 (.tmp 40))⟩,
     ⟨(some 42), none, (.fad 20 false 1 (.tmp 41))⟩,
     ⟨none, none, (.sto false 1 (.tmp 42) (.tmp 39))⟩])
   (.seq
    (.ops [
      ⟨(some 43), none, (.mv (.tmp 0))⟩,
      ⟨(some 44), none, (.nck (.tmp 43))⟩,
      ⟨(some 45), none, (.fad 27 false 1 (.tmp 44))⟩,
      ⟨(some 46), none, (.ld false 1 (.tmp 45))⟩,
      ⟨(some 47), none, (.mv (.tmp 0))⟩,
      ⟨(some 48), none, (.nck (.tmp 47))⟩,
      ⟨(some 49), none, (.fad 0 true 22 (.tmp 48))⟩,
      ⟨(some 50), none, (.fad 0 false 1 (.tmp 49))⟩,
      ⟨(some 51), none, (.ld false 1 (.tmp 50))⟩,
      ⟨(some 52), none, (.idx 1 (.tmp 46) (.tmp 51))⟩,
      ⟨(some 53), none, (.ld false 1 (.tmp 52))⟩,
      ⟨(some 54), none, (.bin .add (.tmp 53) (.const (.int .i64 1)))⟩,
      ⟨(some 55), none, (.idx 1 (.tmp 46) (.tmp 51))⟩,
      ⟨none, none, (.sto false 1 (.tmp 55) (.tmp 54))⟩])
    (.seq
     (.par true (.one ⟨(some 56), none, (.mv (.tmp 0))⟩ (.one ⟨(some 57), none, (.nck (.tmp 56))⟩ (.one ⟨(some 58), none, (.fad 23 false 1 (.tmp 57))⟩ (.one ⟨(some 59), none, (.ld false 1 (.tmp 58))⟩ (.one ⟨(some 60), none, (.mv (.tmp 0))⟩ (.one ⟨(some 61), none, (.nck (.tmp 60))⟩ (.one ⟨(some 62), none, (.fad 0 true 22 (.tmp 61))⟩ (.one ⟨(some 63), none, (.fad 0 false 1 (.tmp 62))⟩ (.one ⟨(some 64), none, (.ld false 1 (.tmp 63))⟩ (.one ⟨(some 65), none, (.idx 4 (.tmp 59) (.tmp 64))⟩ (.one ⟨(some 66), none, (.ld true 4 (.tmp 65))⟩ (.one ⟨(some 2), none, (.alc 47 [(.int .i64 0), (.int .i64 0), (.int .i64 0), (.int .i64 0)])⟩ (.one ⟨none, none, (.sto true 4 (.tmp 2) (.tmp 66))⟩ .done))))))))))))))
     (.seq
      (.seq
       (.ops [
         ⟨(some 67), none, (.mv (.tmp 0))⟩,
         ⟨(some 68), none, (.nck (.tmp 67))⟩,
         ⟨(some 69), none, (.fad 24 false 1 (.tmp 68))⟩,
         ⟨(some 70), none, (.ld false 1 (.tmp 69))⟩,
         ⟨(some 71), none, (.mv (.tmp 0))⟩,
         ⟨(some 72), none, (.nck (.tmp 71))⟩,
         ⟨(some 73), none, (.fad 0 true 22 (.tmp 72))⟩,
         ⟨(some 74), none, (.fad 0 false 1 (.tmp 73))⟩,
         ⟨(some 75), none, (.ld false 1 (.tmp 74))⟩,
         ⟨(some 76), none, (.idx 1 (.tmp 70) (.tmp 75))⟩,
         ⟨(some 77), none, (.ld false 1 (.tmp 76))⟩,
         ⟨(some 78), none, (.un .not (.tmp 77))⟩])
       (.cond (.tmp 78)
        (.seq
         (.ops [
           ⟨(some 79), none, (.mv (.tmp 0))⟩,
           ⟨(some 80), none, (.nck (.tmp 79))⟩,
           ⟨(some 81), none, (.fad 0 true 22 (.tmp 80))⟩,
           ⟨(some 82), none, (.fad 21 false 1 (.tmp 81))⟩,
           ⟨none, none, (.sto false 1 (.tmp 82) (.const (.int .i64 6)))⟩])
         .ret)
        .skip))
      (.seq
       (.ops [
         ⟨(some 83), none, (.mv (.tmp 0))⟩,
         ⟨(some 84), none, (.fad 1 false 1 (.tmp 2))⟩,
         ⟨(some 85), none, (.ld false 1 (.tmp 84))⟩,
         ⟨(some 86), none, (.nck (.tmp 83))⟩,
         ⟨(some 87), none, (.fad 0 true 22 (.tmp 86))⟩,
         ⟨(some 88), none, (.fad 1 true 16 (.tmp 87))⟩,
         ⟨(some 89), none, (.aidx 16 false 1 (.tmp 88) (.tmp 85))⟩,
         ⟨(some 90), none, (.ld false 1 (.tmp 89))⟩,
         ⟨(some 3), none, (.mv (.tmp 90))⟩])
       (.seq
        (.ops [
          ⟨(some 91), none, (.fad 0 false 1 (.tmp 2))⟩,
          ⟨(some 92), none, (.ld false 1 (.tmp 91))⟩])
        (.block 0
         (.seq
          (.ops [
            ⟨(some 127), none, (.bin .eql (.tmp 92) (.const (.int .i64 1)))⟩,
            ⟨(some 126), none, (.mv (.tmp 127))⟩])
          (.cond (.tmp 126)
           (.ops [
             ⟨(some 128), none, (.mv (.tmp 0))⟩,
             ⟨(some 129), none, (.fad 1 false 1 (.tmp 2))⟩,
             ⟨(some 130), none, (.ld false 1 (.tmp 129))⟩,
             ⟨(some 131), none, (.fad 3 false 1 (.tmp 2))⟩,
             ⟨(some 132), none, (.ld false 1 (.tmp 131))⟩,
             ⟨(some 133), none, (.conv .u32 (.tmp 132))⟩,
             ⟨(some 134), none, (.call (.func 51) [(.tmp 128), (.tmp 130), (.tmp 133)])⟩])
           (.seq
            (.ops [
              ⟨(some 136), none, (.bin .eql (.tmp 92) (.const (.int .i64 2)))⟩,
              ⟨(some 135), none, (.mv (.tmp 136))⟩])
            (.cond (.tmp 135)
             (.ops [
               ⟨(some 137), none, (.mv (.tmp 0))⟩,
               ⟨(some 138), none, (.fad 1 false 1 (.tmp 2))⟩,
               ⟨(some 139), none, (.ld false 1 (.tmp 138))⟩,
               ⟨(some 140), none, (.mv (.tmp 3))⟩,
               ⟨(some 141), none, (.bin .rem (.tmp 140) (.const (.int .u32 65536)))⟩,
               ⟨(some 142), none, (.fad 3 false 1 (.tmp 2))⟩,
               ⟨(some 143), none, (.ld false 1 (.tmp 142))⟩,
               ⟨(some 144), none, (.conv .u32 (.tmp 143))⟩,
               ⟨(some 145), none, (.bin .mul (.tmp 144) (.const (.int .u32 65536)))⟩,
               ⟨(some 146), none, (.bin .add (.tmp 141) (.tmp 145))⟩,
               ⟨(some 147), none, (.call (.func 51) [(.tmp 137), (.tmp 139), (.tmp 146)])⟩])
             (.seq
              (.ops [
                ⟨(some 149), none, (.bin .eql (.tmp 92) (.const (.int .i64 3)))⟩,
                ⟨(some 148), none, (.mv (.tmp 149))⟩])
              (.cond (.tmp 148)
               (.ops [
                 ⟨(some 150), none, (.mv (.tmp 0))⟩,
                 ⟨(some 151), none, (.fad 1 false 1 (.tmp 2))⟩,
                 ⟨(some 152), none, (.ld false 1 (.tmp 151))⟩,
                 ⟨(some 153), none, (.mv (.tmp 0))⟩,
                 ⟨(some 154), none, (.fad 2 false 1 (.tmp 2))⟩,
                 ⟨(some 155), none, (.ld false 1 (.tmp 154))⟩,
                 ⟨(some 156), none, (.nck (.tmp 153))⟩,
                 ⟨(some 157), none, (.fad 0 true 22 (.tmp 156))⟩,
                 ⟨(some 158), none, (.fad 1 true 16 (.tmp 157))⟩,
                 ⟨(some 159), none, (.aidx 16 false 1 (.tmp 158) (.tmp 155))⟩,
                 ⟨(some 160), none, (.ld false 1 (.tmp 159))⟩,
                 ⟨(some 161), none, (.call (.func 51) [(.tmp 150), (.tmp 152), (.tmp 160)])⟩])
               (.seq
                (.seq
                 (.ops [
                   ⟨(some 163), none, (.bin .eql (.tmp 92) (.const (.int .i64 16)))⟩,
                   ⟨(some 162), none, (.mv (.tmp 163))⟩])
                 (.cond (.tmp 162)
                  .skip
                  (.ops [
                    ⟨(some 164), none, (.bin .eql (.tmp 92) (.const (.int .i64 27)))⟩,
                    ⟨(some 162), none, (.mv (.tmp 164))⟩])))
                (.cond (.tmp 162)
                 (.seq
                  (.ops [
                    ⟨(some 165), none, (.mv (.tmp 0))⟩,
                    ⟨(some 166), none, (.nck (.tmp 165))⟩,
                    ⟨(some 167), none, (.fad 0 true 22 (.tmp 166))⟩,
                    ⟨(some 168), none, (.fad 17 false 1 (.tmp 167))⟩,
                    ⟨(some 169), none, (.ld false 1 (.tmp 168))⟩,
                    ⟨(some 4), none, (.mv (.tmp 169))⟩])
                  (.seq
                   (.seq
                    (.ops [
                      ⟨(some 170), none, (.fad 0 false 1 (.tmp 2))⟩,
                      ⟨(some 171), none, (.ld false 1 (.tmp 170))⟩,
                      ⟨(some 172), none, (.bin .eql (.tmp 171) (.const (.int .i64 27)))⟩])
                    (.cond (.tmp 172)
                     (.ops [
                       ⟨(some 173), none, (.mv (.tmp 0))⟩,
                       ⟨(some 174), none, (.nck (.tmp 173))⟩,
                       ⟨(some 175), none, (.fad 25 false 1 (.tmp 174))⟩,
                       ⟨(some 176), none, (.ld false 1 (.tmp 175))⟩,
                       ⟨(some 4), none, (.mv (.tmp 176))⟩])
                     .skip))
                   (.seq
                    (.par true (.one ⟨(some 178), none, (.mv (.tmp 4))⟩ (.one ⟨(some 179), none, (.mv (.tmp 0))⟩ (.one ⟨(some 180), none, (.fad 2 false 1 (.tmp 2))⟩ (.one ⟨(some 181), none, (.ld false 1 (.tmp 180))⟩ (.one ⟨(some 182), none, (.nck (.tmp 179))⟩ (.one ⟨(some 183), none, (.fad 0 true 22 (.tmp 182))⟩ (.one ⟨(some 184), none, (.fad 1 true 16 (.tmp 183))⟩ (.one ⟨(some 185), none, (.aidx 16 false 1 (.tmp 184) (.tmp 181))⟩ (.one ⟨(some 186), none, (.ld false 1 (.tmp 185))⟩ (.one ⟨(some 187), none, (.fad 3 false 1 (.tmp 2))⟩ (.one ⟨(some 188), none, (.ld false 1 (.tmp 187))⟩ (.one ⟨(some 189), none, (.call (.func 52) [(.tmp 178), (.tmp 186), (.tmp 188)])⟩ (.one ⟨(some 177), none, (.mv (.tmp 189))⟩ (.one ⟨(some 190), none, (.ext (.tmp 177) 0)⟩ (.one ⟨(some 191), none, (.ext (.tmp 177) 1)⟩ (.one ⟨(some 5), none, (.mv (.tmp 190))⟩ (.one ⟨(some 6), none, (.mv (.tmp 191))⟩ .done))))))))))))))))))
                    (.seq
                     (.seq
                      (.ops [
                        ⟨(some 192), none, (.mv (.tmp 6))⟩,
                        ⟨(some 193), none, (.un .not (.tmp 192))⟩])
                      (.cond (.tmp 193)
                       (.seq
                        (.ops [
                          ⟨(some 194), none, (.mv (.tmp 0))⟩,
                          ⟨(some 195), none, (.nck (.tmp 194))⟩,
                          ⟨(some 196), none, (.fad 0 true 22 (.tmp 195))⟩,
                          ⟨(some 197), none, (.fad 21 false 1 (.tmp 196))⟩,
                          ⟨none, none, (.sto false 1 (.tmp 197) (.const (.int .i64 8)))⟩])
                        .ret)
                       .skip))
                     (.ops [
                       ⟨(some 198), none, (.mv (.tmp 0))⟩,
                       ⟨(some 199), none, (.fad 1 false 1 (.tmp 2))⟩,
                       ⟨(some 200), none, (.ld false 1 (.tmp 199))⟩,
                       ⟨(some 201), none, (.mv (.tmp 5))⟩,
                       ⟨(some 202), none, (.call (.func 51) [(.tmp 198), (.tmp 200), (.tmp 201)])⟩])))))
                 (.seq
                  (.ops [
                    ⟨(some 204), none, (.bin .eql (.tmp 92) (.const (.int .i64 17)))⟩,
                    ⟨(some 203), none, (.mv (.tmp 204))⟩])
                  (.cond (.tmp 203)
                   (.seq
                    (.ops [
                      ⟨(some 205), none, (.mv (.tmp 0))⟩,
                      ⟨(some 206), none, (.fad 2 false 1 (.tmp 2))⟩,
                      ⟨(some 207), none, (.ld false 1 (.tmp 206))⟩,
                      ⟨(some 208), none, (.nck (.tmp 205))⟩,
                      ⟨(some 209), none, (.fad 0 true 22 (.tmp 208))⟩,
                      ⟨(some 210), none, (.fad 1 true 16 (.tmp 209))⟩,
                      ⟨(some 211), none, (.aidx 16 false 1 (.tmp 210) (.tmp 207))⟩,
                      ⟨(some 212), none, (.ld false 1 (.tmp 211))⟩,
                      ⟨(some 213), none, (.fad 3 false 1 (.tmp 2))⟩,
                      ⟨(some 214), none, (.ld false 1 (.tmp 213))⟩,
                      ⟨(some 215), none, (.conv .u32 (.tmp 214))⟩,
                      ⟨(some 216), none, (.bin .add (.tmp 212) (.tmp 215))⟩,
                      ⟨(some 7), none, (.mv (.tmp 216))⟩])
                    (.seq
                     (.seq
                      (.ops [
                        ⟨(some 217), none, (.mv (.tmp 7))⟩,
                        ⟨(some 218), none, (.conv .u64 (.tmp 217))⟩,
                        ⟨(some 219), none, (.mv (.tmp 0))⟩,
                        ⟨(some 220), none, (.nck (.tmp 219))⟩,
                        ⟨(some 221), none, (.fad 0 true 22 (.tmp 220))⟩,
                        ⟨(some 222), none, (.fad 17 false 1 (.tmp 221))⟩,
                        ⟨(some 223), none, (.ld false 1 (.tmp 222))⟩,
                        ⟨(some 224), none, (.len (.tmp 223))⟩,
                        ⟨(some 225), none, (.conv .u64 (.tmp 224))⟩,
                        ⟨(some 226), none, (.bin .geq (.tmp 218) (.tmp 225))⟩])
                      (.cond (.tmp 226)
                       (.seq
                        (.ops [
                          ⟨(some 227), none, (.mv (.tmp 0))⟩,
                          ⟨(some 228), none, (.nck (.tmp 227))⟩,
                          ⟨(some 229), none, (.fad 0 true 22 (.tmp 228))⟩,
                          ⟨(some 230), none, (.fad 21 false 1 (.tmp 229))⟩,
                          ⟨none, none, (.sto false 1 (.tmp 230) (.const (.int .i64 8)))⟩])
                        .ret)
                       .skip))
                     (.seq
                      (.ops [
                        ⟨(some 231), none, (.mv (.tmp 0))⟩,
                        ⟨(some 232), none, (.nck (.tmp 231))⟩,
                        ⟨(some 233), none, (.fad 0 true 22 (.tmp 232))⟩,
                        ⟨(some 234), none, (.fad 17 false 1 (.tmp 233))⟩,
                        ⟨(some 235), none, (.ld false 1 (.tmp 234))⟩,
                        ⟨(some 236), none, (.mv (.tmp 7))⟩,
                        ⟨(some 237), none, (.mv (.tmp 3))⟩,
                        ⟨(some 238), none, (.idx 1 (.tmp 235) (.tmp 236))⟩,
                        ⟨none, none, (.sto false 1 (.tmp 238) (.tmp 237))⟩])
                      (.ops [
                        ⟨(some 239), none, (.mv (.tmp 0))⟩,
                        ⟨(some 240), none, (.nck (.tmp 239))⟩,
                        ⟨(some 241), none, (.fad 0 true 22 (.tmp 240))⟩,
                        ⟨(some 242), none, (.fad 0 false 1 (.tmp 241))⟩,
                        ⟨(some 243), none, (.ld false 1 (.tmp 242))⟩,
                        ⟨(some 244), none, (.bin .add (.tmp 243) (.const (.int .i64 1)))⟩,
                        ⟨(some 245), none, (.nck (.tmp 239))⟩,
                        ⟨(some 246), none, (.fad 0 true 22 (.tmp 245))⟩,
                        ⟨(some 247), none, (.fad 0 false 1 (.tmp 246))⟩,
                        ⟨none, none, (.sto false 1 (.tmp 247) (.tmp 244))⟩]))))
                   (.seq
                    (.ops [
                      ⟨(some 249), none, (.bin .eql (.tmp 92) (.const (.int .i64 18)))⟩,
                      ⟨(some 248), none, (.mv (.tmp 249))⟩])
                    (.cond (.tmp 248)
                     (.ops [
                       ⟨(some 250), none, (.mv (.tmp 0))⟩,
                       ⟨(some 251), none, (.fad 3 false 1 (.tmp 2))⟩,
                       ⟨(some 252), none, (.ld false 1 (.tmp 251))⟩,
                       ⟨(some 253), none, (.nck (.tmp 250))⟩,
                       ⟨(some 254), none, (.fad 0 true 22 (.tmp 253))⟩,
                       ⟨(some 255), none, (.fad 0 false 1 (.tmp 254))⟩,
                       ⟨none, none, (.sto false 1 (.tmp 255) (.tmp 252))⟩])
                     (.seq
                      (.ops [
                        ⟨(some 257), none, (.bin .eql (.tmp 92) (.const (.int .i64 19)))⟩,
                        ⟨(some 256), none, (.mv (.tmp 257))⟩])
                      (.cond (.tmp 256)
                       (.ops [
                         ⟨(some 258), none, (.mv (.tmp 0))⟩,
                         ⟨(some 259), none, (.mv (.tmp 3))⟩,
                         ⟨(some 260), none, (.bin .eql (.tmp 259) (.const (.int .u32 0)))⟩,
                         ⟨(some 261), none, (.fad 3 false 1 (.tmp 2))⟩,
                         ⟨(some 262), none, (.ld false 1 (.tmp 261))⟩,
                         ⟨(some 263), none, (.call (.func 53) [(.tmp 258), (.tmp 260), (.tmp 262)])⟩])
                       (.seq
                        (.ops [
                          ⟨(some 265), none, (.bin .eql (.tmp 92) (.const (.int .i64 20)))⟩,
                          ⟨(some 264), none, (.mv (.tmp 265))⟩])
                        (.cond (.tmp 264)
                         (.ops [
                           ⟨(some 266), none, (.mv (.tmp 0))⟩,
                           ⟨(some 267), none, (.mv (.tmp 3))⟩,
                           ⟨(some 268), none, (.bin .neq (.tmp 267) (.const (.int .u32 0)))⟩,
                           ⟨(some 269), none, (.fad 3 false 1 (.tmp 2))⟩,
                           ⟨(some 270), none, (.ld false 1 (.tmp 269))⟩,
                           ⟨(some 271), none, (.call (.func 53) [(.tmp 266), (.tmp 268), (.tmp 270)])⟩])
                         (.seq
                          (.ops [
                            ⟨(some 273), none, (.bin .eql (.tmp 92) (.const (.int .i64 21)))⟩,
                            ⟨(some 272), none, (.mv (.tmp 273))⟩])
                          (.cond (.tmp 272)
                           (.seq
                            (.ops [
                              ⟨(some 274), none, (.mv (.tmp 0))⟩,
                              ⟨(some 275), none, (.fad 1 false 1 (.tmp 2))⟩,
                              ⟨(some 276), none, (.ld false 1 (.tmp 275))⟩,
                              ⟨(some 277), none, (.mv (.tmp 0))⟩,
                              ⟨(some 278), none, (.nck (.tmp 277))⟩,
                              ⟨(some 279), none, (.fad 0 true 22 (.tmp 278))⟩,
                              ⟨(some 280), none, (.fad 0 false 1 (.tmp 279))⟩,
                              ⟨(some 281), none, (.ld false 1 (.tmp 280))⟩,
                              ⟨(some 282), none, (.conv .u32 (.tmp 281))⟩,
                              ⟨(some 283), none, (.bin .add (.tmp 282) (.const (.int .u32 1)))⟩,
                              ⟨(some 284), none, (.nck (.tmp 274))⟩,
                              ⟨(some 285), none, (.fad 0 true 22 (.tmp 284))⟩,
                              ⟨(some 286), none, (.fad 1 true 16 (.tmp 285))⟩,
                              ⟨(some 287), none, (.aidx 16 false 1 (.tmp 286) (.tmp 276))⟩,
                              ⟨none, none, (.sto false 1 (.tmp 287) (.tmp 283))⟩])
                            (.ops [
                              ⟨(some 288), none, (.mv (.tmp 0))⟩,
                              ⟨(some 289), none, (.fad 3 false 1 (.tmp 2))⟩,
                              ⟨(some 290), none, (.ld false 1 (.tmp 289))⟩,
                              ⟨(some 291), none, (.nck (.tmp 288))⟩,
                              ⟨(some 292), none, (.fad 0 true 22 (.tmp 291))⟩,
                              ⟨(some 293), none, (.fad 0 false 1 (.tmp 292))⟩,
                              ⟨none, none, (.sto false 1 (.tmp 293) (.tmp 290))⟩]))
                           (.seq
                            (.ops [
                              ⟨(some 295), none, (.bin .eql (.tmp 92) (.const (.int .i64 22)))⟩,
                              ⟨(some 294), none, (.mv (.tmp 295))⟩])
                            (.cond (.tmp 294)
                             (.ops [
                               ⟨(some 296), none, (.mv (.tmp 0))⟩,
                               ⟨(some 297), none, (.mv (.tmp 3))⟩,
                               ⟨(some 298), none, (.conv .i64 (.tmp 297))⟩,
                               ⟨(some 299), none, (.nck (.tmp 296))⟩,
                               ⟨(some 300), none, (.fad 0 true 22 (.tmp 299))⟩,
                               ⟨(some 301), none, (.fad 0 false 1 (.tmp 300))⟩,
                               ⟨none, none, (.sto false 1 (.tmp 301) (.tmp 298))⟩])
                             (.seq
                              (.ops [
                                ⟨(some 303), none, (.bin .eql (.tmp 92) (.const (.int .i64 23)))⟩,
                                ⟨(some 302), none, (.mv (.tmp 303))⟩])
                              (.cond (.tmp 302)
                               (.seq
                                (.seq
                                 (.ops [
                                   ⟨(some 304), none, (.mv (.tmp 0))⟩,
                                   ⟨(some 305), none, (.nck (.tmp 304))⟩,
                                   ⟨(some 306), none, (.fad 0 true 22 (.tmp 305))⟩,
                                   ⟨(some 307), none, (.fad 18 false 1 (.tmp 306))⟩,
                                   ⟨(some 308), none, (.ld false 1 (.tmp 307))⟩,
                                   ⟨(some 309), none, (.bin .lss (.tmp 308) (.const (.int .i64 0)))⟩,
                                   ⟨(some 310), none, (.mv (.tmp 309))⟩,
                                   ⟨(some 311), (some (310, false)), (.mv (.tmp 0))⟩,
                                   ⟨(some 312), (some (310, false)), (.nck (.tmp 311))⟩,
                                   ⟨(some 313), (some (310, false)), (.fad 0 true 22 (.tmp 312))⟩,
                                   ⟨(some 314), (some (310, false)), (.fad 18 false 1 (.tmp 313))⟩,
                                   ⟨(some 315), (some (310, false)), (.ld false 1 (.tmp 314))⟩,
                                   ⟨(some 316), (some (310, false)), (.mv (.tmp 0))⟩,
                                   ⟨(some 317), (some (310, false)), (.nck (.tmp 316))⟩,
                                   ⟨(some 318), (some (310, false)), (.fad 26 false 1 (.tmp 317))⟩,
                                   ⟨(some 319), (some (310, false)), (.ld false 1 (.tmp 318))⟩,
                                   ⟨(some 320), (some (310, false)), (.lens (.tmp 319))⟩,
                                   ⟨(some 321), (some (310, false)), (.bin .geq (.tmp 315) (.tmp 320))⟩,
                                   ⟨(some 322), none, (.pick (.tmp 310) (.const (.bool true)) (.tmp 321))⟩])
                                 (.cond (.tmp 322)
                                  (.seq
                                   (.ops [
                                     ⟨(some 323), none, (.mv (.tmp 0))⟩,
                                     ⟨(some 324), none, (.fad 1 false 1 (.tmp 2))⟩,
                                     ⟨(some 325), none, (.ld false 1 (.tmp 324))⟩,
                                     ⟨(some 326), none, (.call (.func 51) [(.tmp 323), (.tmp 325), (.const (.int .u32 256))])⟩])
                                   .ret)
                                  .skip))
                                (.seq
                                 (.ops [
                                   ⟨(some 327), none, (.mv (.tmp 0))⟩,
                                   ⟨(some 328), none, (.nck (.tmp 327))⟩,
                                   ⟨(some 329), none, (.fad 26 false 1 (.tmp 328))⟩,
                                   ⟨(some 330), none, (.ld false 1 (.tmp 329))⟩,
                                   ⟨(some 331), none, (.mv (.tmp 0))⟩,
                                   ⟨(some 332), none, (.nck (.tmp 331))⟩,
                                   ⟨(some 333), none, (.fad 0 true 22 (.tmp 332))⟩,
                                   ⟨(some 334), none, (.fad 18 false 1 (.tmp 333))⟩,
                                   ⟨(some 335), none, (.ld false 1 (.tmp 334))⟩,
                                   ⟨(some 336), none, (.pur .six [(.tmp 330), (.tmp 335)])⟩,
                                   ⟨(some 337), none, (.conv .u32 (.tmp 336))⟩,
                                   ⟨(some 8), none, (.mv (.tmp 337))⟩])
                                 (.seq
                                  (.ops [
                                    ⟨(some 338), none, (.mv (.tmp 0))⟩,
                                    ⟨(some 339), none, (.nck (.tmp 338))⟩,
                                    ⟨(some 340), none, (.fad 0 true 22 (.tmp 339))⟩,
                                    ⟨(some 341), none, (.fad 18 false 1 (.tmp 340))⟩,
                                    ⟨(some 342), none, (.ld false 1 (.tmp 341))⟩,
                                    ⟨(some 343), none, (.bin .add (.tmp 342) (.const (.int .i64 1)))⟩,
                                    ⟨(some 344), none, (.nck (.tmp 338))⟩,
                                    ⟨(some 345), none, (.fad 0 true 22 (.tmp 344))⟩,
                                    ⟨(some 346), none, (.fad 18 false 1 (.tmp 345))⟩,
                                    ⟨none, none, (.sto false 1 (.tmp 346) (.tmp 343))⟩])
                                  (.ops [
                                    ⟨(some 347), none, (.mv (.tmp 0))⟩,
                                    ⟨(some 348), none, (.fad 1 false 1 (.tmp 2))⟩,
                                    ⟨(some 349), none, (.ld false 1 (.tmp 348))⟩,
                                    ⟨(some 350), none, (.mv (.tmp 8))⟩,
                                    ⟨(some 351), none, (.call (.func 51) [(.tmp 347), (.tmp 349), (.tmp 350)])⟩]))))
                               (.seq
                                (.ops [
                                  ⟨(some 353), none, (.bin .eql (.tmp 92) (.const (.int .i64 24)))⟩,
                                  ⟨(some 352), none, (.mv (.tmp 353))⟩])
                                (.cond (.tmp 352)
                                 (.seq
                                  (.seq
                                   (.ops [
                                     ⟨(some 354), none, (.mv (.tmp 0))⟩,
                                     ⟨(some 355), none, (.nck (.tmp 354))⟩,
                                     ⟨(some 356), none, (.fad 22 false 1 (.tmp 355))⟩,
                                     ⟨(some 357), none, (.ld false 1 (.tmp 356))⟩,
                                     ⟨(some 358), none, (.len (.tmp 357))⟩,
                                     ⟨(some 359), none, (.bin .geq (.tmp 358) (.const (.int .i64 65536)))⟩])
                                   (.cond (.tmp 359)
                                    (.seq
                                     (.ops [
                                       ⟨(some 360), none, (.mv (.tmp 0))⟩,
                                       ⟨(some 361), none, (.nck (.tmp 360))⟩,
                                       ⟨(some 362), none, (.fad 0 true 22 (.tmp 361))⟩,
                                       ⟨(some 363), none, (.fad 21 false 1 (.tmp 362))⟩,
                                       ⟨none, none, (.sto false 1 (.tmp 363) (.const (.int .i64 4)))⟩])
                                     .ret)
                                    .skip))
                                  (.seq
                                   (.ops [
                                     ⟨(some 364), none, (.mv (.tmp 0))⟩,
                                     ⟨(some 365), none, (.mv (.tmp 0))⟩,
                                     ⟨(some 366), none, (.nck (.tmp 365))⟩,
                                     ⟨(some 367), none, (.fad 22 false 1 (.tmp 366))⟩,
                                     ⟨(some 368), none, (.ld false 1 (.tmp 367))⟩,
                                     ⟨(some 369), none, (.mv (.tmp 3))⟩,
                                     ⟨(some 370), none, (.bin .rem (.tmp 369) (.const (.int .u32 256)))⟩,
                                     ⟨(some 371), none, (.conv .u8 (.tmp 370))⟩,
                                     ⟨(some 372), none, (.bsl 5 1 1 [(.int .u8 0)] [(0, (1, (.tmp 371)))])⟩,
                                     ⟨(some 373), none, (.app 5 1 1 (.tmp 368) (.tmp 372))⟩,
                                     ⟨(some 374), none, (.nck (.tmp 364))⟩,
                                     ⟨(some 375), none, (.fad 22 false 1 (.tmp 374))⟩,
                                     ⟨none, none, (.sto false 1 (.tmp 375) (.tmp 373))⟩])
                                   (.ops [
                                     ⟨(some 376), none, (.mv (.tmp 0))⟩,
                                     ⟨(some 377), none, (.nck (.tmp 376))⟩,
                                     ⟨(some 378), none, (.fad 0 true 22 (.tmp 377))⟩,
                                     ⟨(some 379), none, (.fad 0 false 1 (.tmp 378))⟩,
                                     ⟨(some 380), none, (.ld false 1 (.tmp 379))⟩,
                                     ⟨(some 381), none, (.bin .add (.tmp 380) (.const (.int .i64 1)))⟩,
                                     ⟨(some 382), none, (.nck (.tmp 376))⟩,
                                     ⟨(some 383), none, (.fad 0 true 22 (.tmp 382))⟩,
                                     ⟨(some 384), none, (.fad 0 false 1 (.tmp 383))⟩,
                                     ⟨none, none, (.sto false 1 (.tmp 384) (.tmp 381))⟩])))
                                 (.seq
                                  (.ops [
                                    ⟨(some 386), none, (.bin .eql (.tmp 92) (.const (.int .i64 25)))⟩,
                                    ⟨(some 385), none, (.mv (.tmp 386))⟩])
                                  (.cond (.tmp 385)
                                   (.seq
                                    (.seq
                                     (.ops [
                                       ⟨(some 387), none, (.mv (.tmp 3))⟩,
                                       ⟨(some 388), none, (.fad 3 false 1 (.tmp 2))⟩,
                                       ⟨(some 389), none, (.ld false 1 (.tmp 388))⟩,
                                       ⟨(some 390), none, (.conv .u32 (.tmp 389))⟩,
                                       ⟨(some 391), none, (.bin .geq (.tmp 387) (.tmp 390))⟩])
                                     (.cond (.tmp 391)
                                      (.seq
                                       (.ops [
                                         ⟨(some 392), none, (.mv (.tmp 0))⟩,
                                         ⟨(some 393), none, (.nck (.tmp 392))⟩,
                                         ⟨(some 394), none, (.fad 0 true 22 (.tmp 393))⟩,
                                         ⟨(some 395), none, (.fad 21 false 1 (.tmp 394))⟩,
                                         ⟨none, none, (.sto false 1 (.tmp 395) (.const (.int .i64 3)))⟩])
                                       .ret)
                                      .skip))
                                    (.ops [
                                      ⟨(some 396), none, (.mv (.tmp 0))⟩,
                                      ⟨(some 397), none, (.nck (.tmp 396))⟩,
                                      ⟨(some 398), none, (.fad 0 true 22 (.tmp 397))⟩,
                                      ⟨(some 399), none, (.fad 0 false 1 (.tmp 398))⟩,
                                      ⟨(some 400), none, (.ld false 1 (.tmp 399))⟩,
                                      ⟨(some 401), none, (.bin .add (.tmp 400) (.const (.int .i64 1)))⟩,
                                      ⟨(some 402), none, (.nck (.tmp 396))⟩,
                                      ⟨(some 403), none, (.fad 0 true 22 (.tmp 402))⟩,
                                      ⟨(some 404), none, (.fad 0 false 1 (.tmp 403))⟩,
                                      ⟨none, none, (.sto false 1 (.tmp 404) (.tmp 401))⟩]))
                                   (.seq
                                    (.ops [
                                      ⟨(some 406), none, (.bin .eql (.tmp 92) (.const (.int .i64 26)))⟩,
                                      ⟨(some 405), none, (.mv (.tmp 406))⟩])
                                    (.cond (.tmp 405)
                                     (.ops [
                                       ⟨(some 407), none, (.mv (.tmp 0))⟩,
                                       ⟨(some 408), none, (.nck (.tmp 407))⟩,
                                       ⟨(some 409), none, (.fad 0 true 22 (.tmp 408))⟩,
                                       ⟨(some 410), none, (.fad 21 false 1 (.tmp 409))⟩,
                                       ⟨none, none, (.sto false 1 (.tmp 410) (.const (.int .i64 1)))⟩])
                                     (.seq
                                      (.par true (.one ⟨(some 94), none, (.fad 0 false 1 (.tmp 2))⟩ (.one ⟨(some 95), none, (.ld false 1 (.tmp 94))⟩ (.one ⟨(some 96), none, (.mv (.tmp 0))⟩ (.one ⟨(some 97), none, (.fad 2 false 1 (.tmp 2))⟩ (.one ⟨(some 98), none, (.ld false 1 (.tmp 97))⟩ (.one ⟨(some 99), none, (.nck (.tmp 96))⟩ (.one ⟨(some 100), none, (.fad 0 true 22 (.tmp 99))⟩ (.one ⟨(some 101), none, (.fad 1 true 16 (.tmp 100))⟩ (.one ⟨(some 102), none, (.aidx 16 false 1 (.tmp 101) (.tmp 98))⟩ (.one ⟨(some 103), none, (.ld false 1 (.tmp 102))⟩ (.one ⟨(some 104), none, (.mv (.tmp 0))⟩ (.one ⟨(some 105), none, (.fad 3 false 1 (.tmp 2))⟩ (.one ⟨(some 106), none, (.ld false 1 (.tmp 105))⟩ (.one ⟨(some 107), none, (.nck (.tmp 104))⟩ (.one ⟨(some 108), none, (.fad 0 true 22 (.tmp 107))⟩ (.one ⟨(some 109), none, (.fad 1 true 16 (.tmp 108))⟩ (.one ⟨(some 110), none, (.aidx 16 false 1 (.tmp 109) (.tmp 106))⟩ (.one ⟨(some 111), none, (.ld false 1 (.tmp 110))⟩ (.one ⟨(some 112), none, (.call (.func 54) [(.tmp 95), (.tmp 103), (.tmp 111)])⟩ (.one ⟨(some 93), none, (.mv (.tmp 112))⟩ (.one ⟨(some 113), none, (.ext (.tmp 93) 0)⟩ (.one ⟨(some 114), none, (.ext (.tmp 93) 1)⟩ (.one ⟨(some 9), none, (.mv (.tmp 113))⟩ (.one ⟨(some 10), none, (.mv (.tmp 114))⟩ .done)))))))))))))))))))))))))
                                      (.seq
                                       (.seq
                                        (.ops [
                                          ⟨(some 115), none, (.mv (.tmp 10))⟩,
                                          ⟨(some 116), none, (.bin .neq (.tmp 115) (.const (.int .i64 0)))⟩])
                                        (.cond (.tmp 116)
                                         (.seq
                                          (.ops [
                                            ⟨(some 117), none, (.mv (.tmp 0))⟩,
                                            ⟨(some 118), none, (.nck (.tmp 117))⟩,
                                            ⟨(some 119), none, (.fad 0 true 22 (.tmp 118))⟩,
                                            ⟨(some 120), none, (.fad 21 false 1 (.tmp 119))⟩,
                                            ⟨none, none, (.sto false 1 (.tmp 120) (.const (.int .i64 2)))⟩])
                                          .ret)
                                         .skip))
                                       (.ops [
                                         ⟨(some 121), none, (.mv (.tmp 0))⟩,
                                         ⟨(some 122), none, (.fad 1 false 1 (.tmp 2))⟩,
                                         ⟨(some 123), none, (.ld false 1 (.tmp 122))⟩,
                                         ⟨(some 124), none, (.mv (.tmp 9))⟩,
                                         ⟨(some 125), none, (.call (.func 51) [(.tmp 121), (.tmp 123), (.tmp 124)])⟩])))))))))))))))))))))))))))))))))))))))
theorem s_scref10_work_step : compFq Try.prog false true 43 = some (411, r_scref10_work_step, []) := by kernel_rfl


/-- Where the work and its lists lie. -/
def WAt (code : List Int) (inp : ByteArray) (H : List VObj) (w sw : Nat) (ρ : S) (so : ByteArray) (cnt : List Int) : Prop :=
  ∃ m sm o s1 c sc, H[w]? = some (wkO sw (wkc ρ.pc ρ.reg (.ref m sm 0 ρ.mem.length) ρ.rd so ρ.st ρ.fin (.ref o s1 0 ρ.out.size) (insL code) (okL code) (words code) inp (.ref c sc 0 code.length))) ∧
    H[m]? = some ⟨sm, 34, 1, ρ.mem.map U32⟩ ∧ H[o]? = some ⟨s1, 5, 1, ρ.out.data.toList.map U8⟩ ∧ H[c]? = some ⟨sc, 3, 1, cnt.map I⟩ ∧ cnt.length = code.length

theorem wput {code : List Int} {inp : ByteArray} {H : List VObj} {w sw m sm o s1 c sc : Nat} {mem : List Int} {out so : ByteArray} {cnt : List Int} {pc : Int} {f : Nat → Int} {rd st fin : Int} (hlt : w < H.length) (hm : H[m]? = some ⟨sm, 34, 1, mem.map U32⟩)
    (ho : H[o]? = some ⟨s1, 5, 1, out.data.toList.map U8⟩) (hc : H[c]? = some ⟨sc, 3, 1, cnt.map I⟩) (nm : w ≠ m) (no : w ≠ o) (nc : w ≠ c) (hl : cnt.length = code.length) :
    WAt code inp (H.set w (wkO sw (wkc pc f (.ref m sm 0 mem.length) rd so st fin (.ref o s1 0 out.size) (insL code) (okL code) (words code) inp (.ref c sc 0 code.length)))) w sw ⟨pc, f, mem, rd, out, st, fin⟩ so cnt :=
  ⟨m, sm, o, s1, c, sc, by rw [List.getElem?_set, if_pos rfl, if_pos hlt], by rw [List.getElem?_set, if_neg nm]; exact hm, by rw [List.getElem?_set, if_neg no]; exact ho, by rw [List.getElem?_set, if_neg nc]; exact hc, hl⟩

/-- States of its own stay. -/
def KeepS (H H' : List VObj) : Prop := ∀ (id : Nat) (ob : VObj), H[id]? = some ob → ob.ty = 37 → H'[id]? = some ob

def cntS (code : List Int) (ρ : S) (cnt : List Int) : List Int := if doneF code ρ = true then cnt.set ρ.pc.toNat (cnt.getD ρ.pc.toNat default + 1) else cnt

set_option maxHeartbeats 2000000 in
theorem wstep_v (code : List Int) (inp : ByteArray) (ρ : S) (so : ByteArray) (cnt : List Int) (H : List VObj) (nx w sw : Nat) (C : AV → List VObj → Nat → Prop)
    (hcode : ∀ x ∈ code, In32 x) (hcl : code.length ≤ 1000000) (hi : inp.size ≤ 1000000000) (hws : Wf ρ) (hl : ρ.mem.length ≤ 1000000) (hol : ρ.out.size ≤ 1000000) (hf0 : ρ.fin = 0) (hcb : ∀ x ∈ cnt, 0 ≤ x ∧ x ≤ 1000000)
    (hA : WAt code inp H w sw ρ so cnt) (hC : ∀ r H' nx', KeepS H H' → WAt code inp H' w sw (stepF code inp ρ) so (cntS code ρ cnt) → C r H' nx') :
    VCall Try.prog 43 [.ptr w sw 0] H nx C := by
  refine VCall.of_bodyQ hmix s_scref10_work_step (by simp) ?_
  obtain ⟨pc, f, mem, rd, out, st, fin⟩ := ρ
  simp only at hf0 hl hol
  subst hf0
  have hf : ∀ k, In32 (f k) := hws.reg
  obtain ⟨m, sm, o, s1, c, sc, hw, hm, ho, hc, hcc⟩ := hA
  simp only at hw hm ho
  have hlt := (List.getElem?_eq_some_iff.1 hw).1
  have nm : w ≠ m := fun e => by rw [← e, hw] at hm; simp at hm
  have no : w ≠ o := fun e => by rw [← e, hw] at ho; simp at ho
  have nc : w ≠ c := fun e => by rw [← e, hw] at hc; simp at hc
  have ncm : c ≠ m := fun e => by rw [← e, hc] at hm; simp at hm
  have nco : c ≠ o := fun e => by rw [← e, hc] at ho; simp at ho
  have nmo : m ≠ o := fun e => by rw [← e, hm] at ho; simp at ho
  have hclt := (List.getElem?_eq_some_iff.1 hc).1
  have kA : ∀ (id : Nat) (ob : VObj), H[id]? = some ob → ob.ty = 37 → id ≠ w ∧ id ≠ m ∧ id ≠ o ∧ id ≠ c ∧ id < H.length := fun id ob h1 h2 => by
    refine ⟨fun e => ?_, fun e => ?_, fun e => ?_, fun e => ?_, (List.getElem?_eq_some_iff.1 h1).1⟩
    · rw [e, hw] at h1; cases h1; simp at h2
    · rw [e, hm] at h1; cases h1; simp at h2
    · rw [e, ho] at h1; cases h1; simp at h2
    · rw [e, hc] at h1; cases h1; simp at h2
  have kp0 : ∀ y, KeepS H (H.set w y) := fun y id ob h1 h2 => by
    rw [List.getElem?_set, if_neg (fun e => (kA id ob h1 h2).1 e.symm)]; exact h1
  have gA : ∀ a, (H.set w a)[w]? = some a := fun a => by rw [List.getElem?_set, if_pos rfl, if_pos hlt]
  have hcdl : ((code.map insC).map AV.agg).length = code.length := by simp
  by_cases h2 : pc < 0
  · have e1 : stepF code inp ⟨pc, f, mem, rd, out, st, 0⟩ = ⟨pc, f, mem, rd, out, st, 7⟩ := by unfold stepF; rw [if_pos rfl, if_pos (.inl h2)]
    have e2 : doneF code ⟨pc, f, mem, rd, out, st, 0⟩ = false := by simp [doneF]; omega
    simp only [go_sem,Nat.reduceEqDiff,Nat.reduceAdd,Nat.reduceMul,↓reduceIte,↓dreduceIte,reduceCtorEq,Nat.reduceLeDiff,Nat.reduceLT,Nat.reduceSub,Int.reduceToNat,Int.reduceLE,Int.reduceLT, r_scref10_work_step, hw, gA, wkc_length, k_pc, k_cd, k_fin, ks_fin, one_ref, one_imm, eq_true h2]
    repeat (refine And.intro (by omega) ?_)
    refine hC _ _ _ (kp0 _) ?_
    rw [e1, cntS, if_neg (by rw [e2]; simp)]
    exact wput hlt hm ho hc nm no nc hcc
  by_cases h3 : (code.length : Int) ≤ pc
  · have e1 : stepF code inp ⟨pc, f, mem, rd, out, st, 0⟩ = ⟨pc, f, mem, rd, out, st, 7⟩ := by unfold stepF; rw [if_pos rfl, if_pos (.inr h3)]
    have e2 : doneF code ⟨pc, f, mem, rd, out, st, 0⟩ = false := by simp [doneF]; omega
    simp only [go_sem,Nat.reduceEqDiff,Nat.reduceAdd,Nat.reduceMul,↓reduceIte,↓dreduceIte,reduceCtorEq,Nat.reduceLeDiff,Nat.reduceLT,Nat.reduceSub,Int.reduceToNat,Int.reduceLE,Int.reduceLT, r_scref10_work_step, hw, gA, wkc_length, k_pc, k_cd, k_fin, ks_fin, one_ref, one_imm, hcdl, eq_false h2, eq_true h3]
    repeat (refine And.intro (by omega) ?_)
    refine hC _ _ _ (kp0 _) ?_
    rw [e1, cntS, if_neg (by rw [e2]; simp)]
    exact wput hlt hm ho hc nm no nc hcc
  have e2 : doneF code ⟨pc, f, mem, rd, out, st, 0⟩ = true := by simp [doneF]; omega
  obtain ⟨W, hW⟩ : ∃ W, code.getD pc.toNat default = W := ⟨_, rfl⟩
  have hpl : pc.toNat < code.length := by omega
  have hW32 : In32 W := by
    rw [← hW]; exact hcode _ (mem_getD (by omega))
  obtain ⟨t, ht⟩ : ∃ t, IntKind.i64.wrap (st + 1) = t := ⟨_, rfl⟩
  have e1 : stepF code inp ⟨pc, f, mem, rd, out, st, 0⟩ = wordF code inp ⟨pc, f, mem, rd, out, t, 0⟩ W := by unfold stepF; rw [if_pos rfl, if_neg (fun q => q.elim h2 h3), hW, ← ht]
  obtain ⟨x, hx⟩ : ∃ x, cnt.getD pc.toNat default = x := ⟨_, rfl⟩
  have hxb : 0 ≤ x ∧ x ≤ 1000000 := by
    rw [← hx, List.getD_eq_getElem?_getD, List.getElem?_eq_getElem (by omega)]
    exact hcb _ (List.getElem_mem _)
  have hxw : IntKind.i64.wrap (x + 1) = x + 1 := i64_in (by omega) (by omega)
  have e5 : cntS code ⟨pc, f, mem, rd, out, st, 0⟩ cnt = cnt.set pc.toNat (x + 1) := by rw [cntS, if_pos e2, hx]
  have hgi : (code.map insC).getD pc.toNat default = insC W := by
    rw [List.getD_eq_getElem?_getD, List.getElem?_map, List.getElem?_eq_getElem hpl, ← hW, List.getD_eq_getElem?_getD, List.getElem?_eq_getElem hpl]; rfl
  have hgo : (code.map fun w => B (okW w)).getD pc.toNat default = B (okW W) := by
    rw [List.getD_eq_getElem?_getD, List.getElem?_map, List.getElem?_eq_getElem hpl, ← hW, List.getD_eq_getElem?_getD, List.getElem?_eq_getElem hpl]; rfl
  have gB : ∀ a, (H.set w a)[c]? = some ⟨sc, 3, 1, cnt.map I⟩ := fun a => by rw [List.getElem?_set, if_neg nc]; exact hc
  have gC : ∀ a b, ((H.set w a).set c b)[w]? = some a := fun a b => by rw [List.getElem?_set, if_neg (fun e => nc e.symm)]; exact gA a
  have gD : ∀ a b z, ((H.set w a).set c b ++ [z])[w]? = some a := fun a b z => by rw [List.getElem?_append_left (by simp; omega)]; exact gC a b
  have gE : ∀ a b (z : VObj), ((H.set w a).set c b ++ [z])[H.length]? = some z := fun a b z => by
    rw [List.getElem?_append_right (by simp)]; simp
  have sE : ∀ a b (z x : VObj), ((H.set w a).set c b ++ [z]).set H.length x = (H.set w a).set c b ++ [x] := fun a b z x => by
    rw [List.set_append_right _ _ (by simp)]; simp
  simp only [go_sem,Nat.reduceEqDiff,Nat.reduceAdd,Nat.reduceMul,↓reduceIte,↓dreduceIte,reduceCtorEq,Nat.reduceLeDiff,Nat.reduceLT,Nat.reduceSub,Int.reduceToNat,Int.reduceLE,Int.reduceLT, r_scref10_work_step, hw, gA, gB, gC, gD, gE, sE, List.length_set, wkc_length, k_pc, k_st, k_cd, k_ct, ks_st, one_ref, one_imm, hcdl, cellT_I1, set_map, hcc, hx, hxw, ht, eq_false h2, eq_false h3, hgi, insC_len, eq_true hlt]
  repeat (refine And.intro (by omega) ?_)
  refine ⟨insC_one W, ?_⟩
  rw [k_ok]
  refine ⟨rfl, ?_⟩
  have hdr : insC W ++ List.drop (insC W).length [I 0, I 0, I 0, I 0] = insC W := by
    rw [insC_len]; exact List.append_nil _
  simp only [List.length_set, sE, set_map, ht, hxw, List.take_zero, List.nil_append, Nat.zero_add, hdr]
  have hw3 := gD (wkO sw (wkc pc f (.ref m sm 0 mem.length) rd so t 0 (.ref o s1 0 out.size) (insL code) (okL code) (words code) inp (.ref c sc 0 code.length))) ⟨sc, 3, 1, (cnt.set pc.toNat (x + 1)).map I⟩ ⟨nx, 47, 1, insC W⟩
  have hi3 := gE (wkO sw (wkc pc f (.ref m sm 0 mem.length) rd so t 0 (.ref o s1 0 out.size) (insL code) (okL code) (words code) inp (.ref c sc 0 code.length))) ⟨sc, 3, 1, (cnt.set pc.toNat (x + 1)).map I⟩ ⟨nx, 47, 1, insC W⟩
  have hm3 : ((H.set w (wkO sw (wkc pc f (.ref m sm 0 mem.length) rd so t 0 (.ref o s1 0 out.size) (insL code) (okL code) (words code) inp (.ref c sc 0 code.length)))).set c ⟨sc, 3, 1, (cnt.set pc.toNat (x + 1)).map I⟩ ++ [⟨nx, 47, 1, insC W⟩])[m]? = some ⟨sm, 34, 1, mem.map U32⟩ := by
    rw [List.getElem?_append_left (by simp; exact (List.getElem?_eq_some_iff.1 hm).1), List.getElem?_set, if_neg ncm, List.getElem?_set, if_neg nm]; exact hm
  have ho3 : ((H.set w (wkO sw (wkc pc f (.ref m sm 0 mem.length) rd so t 0 (.ref o s1 0 out.size) (insL code) (okL code) (words code) inp (.ref c sc 0 code.length)))).set c ⟨sc, 3, 1, (cnt.set pc.toNat (x + 1)).map I⟩ ++ [⟨nx, 47, 1, insC W⟩])[o]? = some ⟨s1, 5, 1, out.data.toList.map U8⟩ := by
    rw [List.getElem?_append_left (by simp; exact (List.getElem?_eq_some_iff.1 ho).1), List.getElem?_set, if_neg nco, List.getElem?_set, if_neg no]; exact ho
  have hc3 : ((H.set w (wkO sw (wkc pc f (.ref m sm 0 mem.length) rd so t 0 (.ref o s1 0 out.size) (insL code) (okL code) (words code) inp (.ref c sc 0 code.length)))).set c ⟨sc, 3, 1, (cnt.set pc.toNat (x + 1)).map I⟩ ++ [⟨nx, 47, 1, insC W⟩])[c]? = some ⟨sc, 3, 1, (cnt.set pc.toNat (x + 1)).map I⟩ := by
    rw [List.getElem?_append_left (by simp; exact hclt), List.getElem?_set, if_pos rfl, if_pos (by simp; exact hclt)]
  have kB : KeepS H ((H.set w (wkO sw (wkc pc f (.ref m sm 0 mem.length) rd so t 0 (.ref o s1 0 out.size) (insL code) (okL code) (words code) inp (.ref c sc 0 code.length)))).set c ⟨sc, 3, 1, (cnt.set pc.toNat (x + 1)).map I⟩ ++ [⟨nx, 47, 1, insC W⟩]) := fun id ob h1 h2 => by
    obtain ⟨i1, i2, i3, i4, i5⟩ := kA id ob h1 h2
    rw [List.getElem?_append_left (by simp; exact i5), List.getElem?_set, if_neg (fun e => i4 e.symm), List.getElem?_set, if_neg (fun e => i1 e.symm)]; exact h1
  clear gA gB gC gD gE sE hdr
  generalize (H.set w (wkO sw (wkc pc f (.ref m sm 0 mem.length) rd so t 0 (.ref o s1 0 out.size) (insL code) (okL code) (words code) inp (.ref c sc 0 code.length)))).set c ⟨sc, 3, 1, (cnt.set pc.toNat (x + 1)).map I⟩ ++ [⟨nx, 47, 1, insC W⟩] = H3 at *
  have nwi : w ≠ H.length := by omega
  have nmi : m ≠ H.length := by have := (List.getElem?_eq_some_iff.1 hm).1; omega
  have noi : o ≠ H.length := by have := (List.getElem?_eq_some_iff.1 ho).1; omega
  generalize H.length = i at *
  clear hw hm ho hc hlt hclt
  have hlt3 := (List.getElem?_eq_some_iff.1 hw3).1
  have hilt := (List.getElem?_eq_some_iff.1 hi3).1
  have hmlt := (List.getElem?_eq_some_iff.1 hm3).1
  have kp : ∀ y, KeepS H (H3.set w y) := fun y id ob h1 h2 => by
    rw [List.getElem?_set, if_neg (fun e => (kA id ob h1 h2).1 e.symm)]; exact kB id ob h1 h2
  have kp2 : ∀ y z, KeepS H ((H3.set m y).set w z) := fun y z id ob h1 h2 => by
    rw [List.getElem?_set, if_neg (fun e => (kA id ob h1 h2).1 e.symm), List.getElem?_set, if_neg (fun e => (kA id ob h1 h2).2.1 e.symm)]; exact kB id ob h1 h2
  have kp3 : ∀ y z u, KeepS H (((H3 ++ [y]).set o z).set w u) := fun y z u id ob h1 h2 => by
    have h3 := kB id ob h1 h2
    rw [List.getElem?_set, if_neg (fun e => (kA id ob h1 h2).1 e.symm), List.getElem?_set, if_neg (fun e => (kA id ob h1 h2).2.2.1 e.symm), List.getElem?_append_left (List.getElem?_eq_some_iff.1 h3).1]; exact h3
  have gw : ∀ y, (H3.set w y)[w]? = some y := fun y => by rw [List.getElem?_set, if_pos rfl, if_pos hlt3]
  have hc5 : (cnt.set pc.toNat (x + 1)).length = code.length := by rw [List.length_set]; exact hcc
  have hone : (wkc pc f (.ref m sm 0 mem.length) rd so t 0 (.ref o s1 0 out.size) (insL code) (okL code) (words code) inp (.ref c sc 0 code.length)).all AV.one = true := by rw [wkc_all]; rfl
  rw [e1, e5] at hC
  cases hok : okW W
  · have e3 : wordF code inp ⟨pc, f, mem, rd, out, t, 0⟩ W = ⟨pc, f, mem, rd, out, t, 6⟩ := by unfold wordF; rw [hok]; rfl
    rw [e3] at hC
    simp only [go_sem,Nat.reduceEqDiff,Nat.reduceAdd,Nat.reduceMul,↓reduceIte,↓dreduceIte,reduceCtorEq,Nat.reduceLeDiff,Nat.reduceLT,Nat.reduceSub,Int.reduceToNat,Int.reduceLE,Int.reduceLT, hw3, gw, wkc_length, k_pc, k_ok, k_fin, ks_fin, one_ref, one_imm, hW, hok]
    repeat (refine And.intro (by omega) ?_)
    exact hC _ _ _ (kp _) (wput hlt3 hm3 ho3 hc3 nm no nc hc5)
  have e3 : wordF code inp ⟨pc, f, mem, rd, out, t, 0⟩ W = (if (insF code inp ⟨pc, f, mem, rd, out, t, 0⟩ (opW W) (raW W) (rbW W) (kW W)).1 = 0 then (insF code inp ⟨pc, f, mem, rd, out, t, 0⟩ (opW W) (raW W) (rbW W) (kW W)).2
      else { (insF code inp ⟨pc, f, mem, rd, out, t, 0⟩ (opW W) (raW W) (rbW W) (kW W)).2 with fin := (insF code inp ⟨pc, f, mem, rd, out, t, 0⟩ (opW W) (raW W) (rbW W) (kW W)).1 }) := by
    unfold wordF; rw [hok, if_pos rfl]
  rw [e3] at hC
  have e4 : insC W = [I (opW W), I (raW W), I (rbW W), I (kW W)] := by unfold insC; rw [hok]; rfl
  rw [e4] at hi3
  have hok' := okI_in hok

  clear e3 e1 hws hcode hcb
  generalize opW W = op at *
  generalize raW W = a at *
  generalize rbW W = b at *
  generalize kW W = k at *
  obtain ⟨g1, g2, ga1, ga2, gb1, gb2, gc1, gc2, gc⟩ := hok'
  have ja : a.toNat < 16 := by omega
  have jb : b.toNat < 16 := by omega
  have ec : IntKind.u32.wrap k = k := w32_in ⟨by omega, by omega⟩
  have gi : ∀ y, (H3.set w y)[i]? = some ⟨nx, 47, 1, [I op, I a, I b, I k]⟩ := fun y => by rw [List.getElem?_set, if_neg nwi]; exact hi3
  have hsl : (H3.set w (wkO sw (wkc pc f (.ref m sm 0 mem.length) rd so t 0 (.ref o s1 0 out.size) (insL code) (okL code) (words code) inp (.ref c sc 0 code.length)))) = H3 := set_of_get hw3
  have hfm : ∀ (H' : List VObj) (nx' : Nat), (∀ id ob, CallA true H3.length id → H3[id]? = some ob → H'[id]? = some ob) → FrzL 0 H' nx' [.ref m sm 0 mem.length, U32 (f b.toNat), I k] [words mem, U32 (f b.toNat), I k] := fun H' nx' hH => by
    refine ⟨_, _, rfl, Frz.ref (Nat.zero_le _) (hH m _ ⟨rfl, hmlt⟩ hm3) rfl rfl ?_ ?_, _, _, rfl, Frz.pure rfl, _, _, rfl, Frz.pure rfl, rfl⟩
    · rw [List.all_eq_true]; intro y hy; obtain ⟨x, _, rfl⟩ := List.mem_map.1 hy; rfl
    · rw [List.drop_zero, List.take_of_length_le (by simp)]
      exact FrzL.pure (by rw [List.all_eq_true]; intro y hy; obtain ⟨x, _, rfl⟩ := List.mem_map.1 hy; rfl)
  by_cases hap : 4 ≤ op ∧ op ≤ 15
  · have hc15 : k ≤ 15 := gc (by unfold cK; rw [if_pos hap])
    have jc : k.toNat < 16 := by omega
    have hins : insF code inp ⟨pc, f, mem, rd, out, t, 0⟩ op a b k = (if (applyW op (f b.toNat) (f k.toNat)).2 = 0 then (0, setR ⟨pc, f, mem, rd, out, t, 0⟩ a (applyW op (f b.toNat) (f k.toNat)).1) else (2, ⟨pc, f, mem, rd, out, t, 0⟩)) := by
      unfold insF
      iterate 15 rw [if_neg (by omega)]
    rw [hins] at hC
    simp only [go_sem,Nat.reduceEqDiff,Nat.reduceAdd,Nat.reduceMul,↓reduceIte,↓dreduceIte,reduceCtorEq,Nat.reduceLeDiff,Nat.reduceLT,Nat.reduceSub,Int.reduceToNat,Int.reduceLE,Int.reduceLT, hw3, hi3, gw, gi, List.set_set, List.length_set, set_map, wkc_length, k_pc, k_mem, k_rd, k_st, k_fin, k_o, k_cd, k_ok, k_wd, k_in, k_ct, k_reg ja, k_reg jb, ks_pc, ks_reg ja, ks_mem, ks_rd, ks_st, ks_fin, ks_o, one_ref, one_imm, cellT_U32, ec, hW, hok, Int.reduceEq, Int.reduceBEq, k_reg jc, eq_true hlt3, eq_true hilt, eq_false (show ¬ op = 1 by omega), eq_false (show ¬ op = 2 by omega), eq_false (show ¬ op = 3 by omega), eq_false (show ¬ op = 16 by omega), eq_false (show ¬ op = 17 by omega), eq_false (show ¬ op = 18 by omega), eq_false (show ¬ op = 19 by omega), eq_false (show ¬ op = 20 by omega), eq_false (show ¬ op = 21 by omega), eq_false (show ¬ op = 22 by omega), eq_false (show ¬ op = 23 by omega), eq_false (show ¬ op = 24 by omega), eq_false (show ¬ op = 25 by omega), eq_false (show ¬ op = 26 by omega), eq_false (show ¬ op = 27 by omega)]
    repeat (refine And.intro (by omega) ?_)
    refine ECall.of (refapply_c op (f b.toNat) (f k.toNat) (hf _) (hf _)) (SleL.pure rfl) ⟨_, fun _ => Iff.rfl⟩ fun x hx => ?_
    subst hx
    generalize applyW op (f b.toNat) (f k.toNat) = q at *
    by_cases hp : q.2 = 0
    · rw [if_pos hp] at hC
      simp only [go_sem,Nat.reduceEqDiff,Nat.reduceAdd,Nat.reduceMul,↓reduceIte,↓dreduceIte,reduceCtorEq,Nat.reduceLeDiff,Nat.reduceLT,Nat.reduceSub,Int.reduceToNat,Int.reduceLE,Int.reduceLT, hw3, hi3, gw, gi, List.set_set, List.length_set, set_map, wkc_length, k_pc, k_mem, k_rd, k_st, k_fin, k_o, k_cd, k_ok, k_wd, k_in, k_ct, k_reg ja, k_reg jb, ks_pc, ks_reg ja, ks_mem, ks_rd, ks_st, ks_fin, ks_o, one_ref, one_imm, cellT_U32, ec, hW, hok, Int.reduceEq, Int.reduceBEq, eq_true hp]
      repeat (refine And.intro (by omega) ?_)
      refine wset_v a q.1 ⟨ga1, ga2⟩ hw3 hone fun r => ?_
      simp only [go_sem,Nat.reduceEqDiff,Nat.reduceAdd,Nat.reduceMul,↓reduceIte,↓dreduceIte,reduceCtorEq,Nat.reduceLeDiff,Nat.reduceLT,Nat.reduceSub,Int.reduceToNat,Int.reduceLE,Int.reduceLT]
      exact hC _ _ _ (kp _) (wput hlt3 hm3 ho3 hc3 nm no nc hc5)
    · rw [if_neg hp] at hC
      simp only [go_sem,Nat.reduceEqDiff,Nat.reduceAdd,Nat.reduceMul,↓reduceIte,↓dreduceIte,reduceCtorEq,Nat.reduceLeDiff,Nat.reduceLT,Nat.reduceSub,Int.reduceToNat,Int.reduceLE,Int.reduceLT, hw3, hi3, gw, gi, List.set_set, List.length_set, set_map, wkc_length, k_pc, k_mem, k_rd, k_st, k_fin, k_o, k_cd, k_ok, k_wd, k_in, k_ct, k_reg ja, k_reg jb, ks_pc, ks_reg ja, ks_mem, ks_rd, ks_st, ks_fin, ks_o, one_ref, one_imm, cellT_U32, ec, hW, hok, Int.reduceEq, Int.reduceBEq, eq_false hp]
      repeat (refine And.intro (by omega) ?_)
      exact hC _ _ _ (kp _) (wput hlt3 hm3 ho3 hc3 nm no nc hc5)
  have hcases : op = 1 ∨ op = 2 ∨ op = 3 ∨ op = 16 ∨ op = 27 ∨ op = 17 ∨ op = 18 ∨ op = 19 ∨ op = 20 ∨ op = 21 ∨ op = 22 ∨ op = 23 ∨ op = 24 ∨ op = 25 ∨ op = 26 := by omega
  rcases hcases with rfl | rfl | rfl | rfl | rfl | rfl | rfl | rfl | rfl | rfl | rfl | rfl | rfl | rfl | rfl
  · -- 1
    simp only [go_sem,Nat.reduceEqDiff,Nat.reduceAdd,Nat.reduceMul,↓reduceIte,↓dreduceIte,reduceCtorEq,Nat.reduceLeDiff,Nat.reduceLT,Nat.reduceSub,Int.reduceToNat,Int.reduceLE,Int.reduceLT, hw3, hi3, gw, gi, List.set_set, List.length_set, set_map, wkc_length, k_pc, k_mem, k_rd, k_st, k_fin, k_o, k_cd, k_ok, k_wd, k_in, k_ct, k_reg ja, k_reg jb, ks_pc, ks_reg ja, ks_mem, ks_rd, ks_st, ks_fin, ks_o, one_ref, one_imm, cellT_U32, ec, hW, hok, Int.reduceEq, Int.reduceBEq]
    repeat (refine And.intro (by omega) ?_)
    refine wset_v a k ⟨ga1, ga2⟩ hw3 hone fun r => ?_
    simp only [go_sem,Nat.reduceEqDiff,Nat.reduceAdd,Nat.reduceMul,↓reduceIte,↓dreduceIte,reduceCtorEq,Nat.reduceLeDiff,Nat.reduceLT,Nat.reduceSub,Int.reduceToNat,Int.reduceLE,Int.reduceLT]
    exact hC _ _ _ (kp _) (wput hlt3 hm3 ho3 hc3 nm no nc hc5)
  · -- 2
    have hq : IntKind.u32.wrap ((f a.toNat).tmod 65536 + IntKind.u32.wrap (k * 65536)) = f a.toNat % 65536 + k * 65536 := by
      have h0 := (hf a.toNat).1
      have h1 := (hf a.toNat).2
      rw [Int.tmod_eq_emod_of_nonneg h0, IntKind.wrap_u32, IntKind.wrap_u32]; omega
    simp only [go_sem,Nat.reduceEqDiff,Nat.reduceAdd,Nat.reduceMul,↓reduceIte,↓dreduceIte,reduceCtorEq,Nat.reduceLeDiff,Nat.reduceLT,Nat.reduceSub,Int.reduceToNat,Int.reduceLE,Int.reduceLT, hw3, hi3, gw, gi, List.set_set, List.length_set, set_map, wkc_length, k_pc, k_mem, k_rd, k_st, k_fin, k_o, k_cd, k_ok, k_wd, k_in, k_ct, k_reg ja, k_reg jb, ks_pc, ks_reg ja, ks_mem, ks_rd, ks_st, ks_fin, ks_o, one_ref, one_imm, cellT_U32, ec, hW, hok, Int.reduceEq, Int.reduceBEq, hq]
    repeat (refine And.intro (by omega) ?_)
    refine wset_v a (f a.toNat % 65536 + k * 65536) ⟨ga1, ga2⟩ hw3 hone fun r => ?_
    simp only [go_sem,Nat.reduceEqDiff,Nat.reduceAdd,Nat.reduceMul,↓reduceIte,↓dreduceIte,reduceCtorEq,Nat.reduceLeDiff,Nat.reduceLT,Nat.reduceSub,Int.reduceToNat,Int.reduceLE,Int.reduceLT]
    exact hC _ _ _ (kp _) (wput hlt3 hm3 ho3 hc3 nm no nc hc5)
  · -- 3
    simp only [go_sem,Nat.reduceEqDiff,Nat.reduceAdd,Nat.reduceMul,↓reduceIte,↓dreduceIte,reduceCtorEq,Nat.reduceLeDiff,Nat.reduceLT,Nat.reduceSub,Int.reduceToNat,Int.reduceLE,Int.reduceLT, hw3, hi3, gw, gi, List.set_set, List.length_set, set_map, wkc_length, k_pc, k_mem, k_rd, k_st, k_fin, k_o, k_cd, k_ok, k_wd, k_in, k_ct, k_reg ja, k_reg jb, ks_pc, ks_reg ja, ks_mem, ks_rd, ks_st, ks_fin, ks_o, one_ref, one_imm, cellT_U32, ec, hW, hok, Int.reduceEq, Int.reduceBEq]
    repeat (refine And.intro (by omega) ?_)
    refine wset_v a (f b.toNat) ⟨ga1, ga2⟩ hw3 hone fun r => ?_
    simp only [go_sem,Nat.reduceEqDiff,Nat.reduceAdd,Nat.reduceMul,↓reduceIte,↓dreduceIte,reduceCtorEq,Nat.reduceLeDiff,Nat.reduceLT,Nat.reduceSub,Int.reduceToNat,Int.reduceLE,Int.reduceLT]
    exact hC _ _ _ (kp _) (wput hlt3 hm3 ho3 hc3 nm no nc hc5)
  · -- 16
    simp only [go_sem,Nat.reduceEqDiff,Nat.reduceAdd,Nat.reduceMul,↓reduceIte,↓dreduceIte,reduceCtorEq,Nat.reduceLeDiff,Nat.reduceLT,Nat.reduceSub,Int.reduceToNat,Int.reduceLE,Int.reduceLT, hw3, hi3, gw, gi, List.set_set, List.length_set, set_map, wkc_length, k_pc, k_mem, k_rd, k_st, k_fin, k_o, k_cd, k_ok, k_wd, k_in, k_ct, k_reg ja, k_reg jb, ks_pc, ks_reg ja, ks_mem, ks_rd, ks_st, ks_fin, ks_o, one_ref, one_imm, cellT_U32, ec, hW, hok, Int.reduceEq, Int.reduceBEq, eq_true hlt3, eq_true hilt]
    repeat (refine And.intro (by omega) ?_)
    by_cases h : w32 (f b.toNat + k) < (mem.length : Int)
    · have hins : insF code inp ⟨pc, f, mem, rd, out, t, 0⟩ 16 a b k = (0, setR ⟨pc, f, mem, rd, out, t, 0⟩ a (mem.getD (w32 (f b.toNat + k)).toNat default)) := if_pos h
      rw [hins] at hC
      have hfe := fetchN_c mem (f b.toNat) k (hf _) ⟨gc1, gc2⟩ hl
      rw [if_pos h] at hfe
      refine ECall.ofN hfe hfm ⟨_, fun _ => Iff.rfl⟩ fun x hx => ?_
      subst hx
      simp only [go_sem,Nat.reduceEqDiff,Nat.reduceAdd,Nat.reduceMul,↓reduceIte,↓dreduceIte,reduceCtorEq,Nat.reduceLeDiff,Nat.reduceLT,Nat.reduceSub,Int.reduceToNat,Int.reduceLE,Int.reduceLT, hw3, hi3, gw, gi, List.set_set, List.length_set, set_map, wkc_length, k_pc, k_mem, k_rd, k_st, k_fin, k_o, k_cd, k_ok, k_wd, k_in, k_ct, k_reg ja, k_reg jb, ks_pc, ks_reg ja, ks_mem, ks_rd, ks_st, ks_fin, ks_o, one_ref, one_imm, cellT_U32, ec, hW, hok, Int.reduceEq, Int.reduceBEq]
      repeat (refine And.intro (by omega) ?_)
      refine wset_v a (mem.getD (w32 (f b.toNat + k)).toNat default) ⟨ga1, ga2⟩ hw3 hone fun r => ?_
      simp only [go_sem,Nat.reduceEqDiff,Nat.reduceAdd,Nat.reduceMul,↓reduceIte,↓dreduceIte,reduceCtorEq,Nat.reduceLeDiff,Nat.reduceLT,Nat.reduceSub,Int.reduceToNat,Int.reduceLE,Int.reduceLT]
      exact hC _ _ _ (kp _) (wput hlt3 hm3 ho3 hc3 nm no nc hc5)
    · have hins : insF code inp ⟨pc, f, mem, rd, out, t, 0⟩ 16 a b k = (8, ⟨pc, f, mem, rd, out, t, 0⟩) := if_neg h
      rw [hins] at hC
      have hfe := fetchN_c mem (f b.toNat) k (hf _) ⟨gc1, gc2⟩ hl
      rw [if_neg h] at hfe
      refine ECall.ofN hfe hfm ⟨_, fun _ => Iff.rfl⟩ fun x hx => ?_
      subst hx
      simp only [go_sem,Nat.reduceEqDiff,Nat.reduceAdd,Nat.reduceMul,↓reduceIte,↓dreduceIte,reduceCtorEq,Nat.reduceLeDiff,Nat.reduceLT,Nat.reduceSub,Int.reduceToNat,Int.reduceLE,Int.reduceLT, hw3, hi3, gw, gi, List.set_set, List.length_set, set_map, wkc_length, k_pc, k_mem, k_rd, k_st, k_fin, k_o, k_cd, k_ok, k_wd, k_in, k_ct, k_reg ja, k_reg jb, ks_pc, ks_reg ja, ks_mem, ks_rd, ks_st, ks_fin, ks_o, one_ref, one_imm, cellT_U32, ec, hW, hok, Int.reduceEq, Int.reduceBEq]
      repeat (refine And.intro (by omega) ?_)
      exact hC _ _ _ (kp _) (wput hlt3 hm3 ho3 hc3 nm no nc hc5)
  · -- 27
    simp only [go_sem,Nat.reduceEqDiff,Nat.reduceAdd,Nat.reduceMul,↓reduceIte,↓dreduceIte,reduceCtorEq,Nat.reduceLeDiff,Nat.reduceLT,Nat.reduceSub,Int.reduceToNat,Int.reduceLE,Int.reduceLT, hw3, hi3, gw, gi, List.set_set, List.length_set, set_map, wkc_length, k_pc, k_mem, k_rd, k_st, k_fin, k_o, k_cd, k_ok, k_wd, k_in, k_ct, k_reg ja, k_reg jb, ks_pc, ks_reg ja, ks_mem, ks_rd, ks_st, ks_fin, ks_o, one_ref, one_imm, cellT_U32, ec, hW, hok, Int.reduceEq, Int.reduceBEq, eq_true hlt3, eq_true hilt]
    repeat (refine And.intro (by omega) ?_)
    by_cases h : w32 (f b.toNat + k) < (code.length : Int)
    · have hins : insF code inp ⟨pc, f, mem, rd, out, t, 0⟩ 27 a b k = (0, setR ⟨pc, f, mem, rd, out, t, 0⟩ a (code.getD (w32 (f b.toNat + k)).toNat default)) := if_pos h
      rw [hins] at hC
      have hfe := fetchN_c code (f b.toNat) k (hf _) ⟨gc1, gc2⟩ hcl
      rw [if_pos h] at hfe
      refine ECall.ofN hfe (fun H' nx' _ => ⟨_, _, rfl, Frz.pure rfl, _, _, rfl, Frz.pure rfl, _, _, rfl, Frz.pure rfl, rfl⟩) ⟨_, fun _ => Iff.rfl⟩ fun x hx => ?_
      subst hx
      simp only [go_sem,Nat.reduceEqDiff,Nat.reduceAdd,Nat.reduceMul,↓reduceIte,↓dreduceIte,reduceCtorEq,Nat.reduceLeDiff,Nat.reduceLT,Nat.reduceSub,Int.reduceToNat,Int.reduceLE,Int.reduceLT, hw3, hi3, gw, gi, List.set_set, List.length_set, set_map, wkc_length, k_pc, k_mem, k_rd, k_st, k_fin, k_o, k_cd, k_ok, k_wd, k_in, k_ct, k_reg ja, k_reg jb, ks_pc, ks_reg ja, ks_mem, ks_rd, ks_st, ks_fin, ks_o, one_ref, one_imm, cellT_U32, ec, hW, hok, Int.reduceEq, Int.reduceBEq]
      repeat (refine And.intro (by omega) ?_)
      refine wset_v a (code.getD (w32 (f b.toNat + k)).toNat default) ⟨ga1, ga2⟩ hw3 hone fun r => ?_
      simp only [go_sem,Nat.reduceEqDiff,Nat.reduceAdd,Nat.reduceMul,↓reduceIte,↓dreduceIte,reduceCtorEq,Nat.reduceLeDiff,Nat.reduceLT,Nat.reduceSub,Int.reduceToNat,Int.reduceLE,Int.reduceLT]
      exact hC _ _ _ (kp _) (wput hlt3 hm3 ho3 hc3 nm no nc hc5)
    · have hins : insF code inp ⟨pc, f, mem, rd, out, t, 0⟩ 27 a b k = (8, ⟨pc, f, mem, rd, out, t, 0⟩) := if_neg h
      rw [hins] at hC
      have hfe := fetchN_c code (f b.toNat) k (hf _) ⟨gc1, gc2⟩ hcl
      rw [if_neg h] at hfe
      refine ECall.ofN hfe (fun H' nx' _ => ⟨_, _, rfl, Frz.pure rfl, _, _, rfl, Frz.pure rfl, _, _, rfl, Frz.pure rfl, rfl⟩) ⟨_, fun _ => Iff.rfl⟩ fun x hx => ?_
      subst hx
      simp only [go_sem,Nat.reduceEqDiff,Nat.reduceAdd,Nat.reduceMul,↓reduceIte,↓dreduceIte,reduceCtorEq,Nat.reduceLeDiff,Nat.reduceLT,Nat.reduceSub,Int.reduceToNat,Int.reduceLE,Int.reduceLT, hw3, hi3, gw, gi, List.set_set, List.length_set, set_map, wkc_length, k_pc, k_mem, k_rd, k_st, k_fin, k_o, k_cd, k_ok, k_wd, k_in, k_ct, k_reg ja, k_reg jb, ks_pc, ks_reg ja, ks_mem, ks_rd, ks_st, ks_fin, ks_o, one_ref, one_imm, cellT_U32, ec, hW, hok, Int.reduceEq, Int.reduceBEq]
      repeat (refine And.intro (by omega) ?_)
      exact hC _ _ _ (kp _) (wput hlt3 hm3 ho3 hc3 nm no nc hc5)
  · -- 17
    obtain ⟨at_, hat⟩ : ∃ y, IntKind.u32.wrap (f b.toNat + k) = y := ⟨_, rfl⟩
    have hin : In32 at_ := by rw [← hat, IntKind.wrap_u32]; exact ⟨by omega, by omega⟩
    obtain ⟨p1, p2⟩ := hin
    have hat' : w32 (f b.toNat + k) = at_ := hat
    have q2 : IntKind.u64.wrap at_ = at_ := by rw [IntKind.wrap_u64]; omega
    have q3 : IntKind.u64.wrap (mem.length : Int) = mem.length := by rw [IntKind.wrap_u64]; omega
    have gm : ∀ y, (H3.set m y)[w]? = some (wkO sw (wkc pc f (.ref m sm 0 mem.length) rd so t 0 (.ref o s1 0 out.size) (insL code) (okL code) (words code) inp (.ref c sc 0 code.length))) := fun y => by rw [List.getElem?_set, if_neg (fun e => nm e.symm)]; exact hw3
    have gm2 : ∀ y z, ((H3.set m y).set w z)[w]? = some z := fun y z => by rw [List.getElem?_set, if_pos rfl, if_pos (by rw [List.length_set]; exact hlt3)]
    by_cases h : at_ < (mem.length : Int)
    · have hins : insF code inp ⟨pc, f, mem, rd, out, t, 0⟩ 17 a b k = (0, ⟨nxt ⟨pc, f, mem, rd, out, t, 0⟩, f, mem.set at_.toNat (f a.toNat), rd, out, t, 0⟩) := by
        have h' : w32 (f b.toNat + k) < (mem.length : Int) := by rw [hat']; exact h
        rw [← hat']; exact if_pos h'
      rw [hins] at hC
      simp only [go_sem,Nat.reduceEqDiff,Nat.reduceAdd,Nat.reduceMul,↓reduceIte,↓dreduceIte,reduceCtorEq,Nat.reduceLeDiff,Nat.reduceLT,Nat.reduceSub,Int.reduceToNat,Int.reduceLE,Int.reduceLT, hw3, hi3, gw, gi, List.set_set, List.length_set, set_map, wkc_length, k_pc, k_mem, k_rd, k_st, k_fin, k_o, k_cd, k_ok, k_wd, k_in, k_ct, k_reg ja, k_reg jb, ks_pc, ks_reg ja, ks_mem, ks_rd, ks_st, ks_fin, ks_o, one_ref, one_imm, cellT_U32, ec, hW, hok, Int.reduceEq, Int.reduceBEq, hat, q2, q3, hm3, gm, gm2, eq_false (show ¬ (mem.length : Int) ≤ at_ by omega)]
      repeat (refine And.intro (by first | omega | simp) ?_)
      refine hC _ _ _ (kp2 _ _) ?_
      have := wput (code := code) (inp := inp) (H := H3.set m ⟨sm, 34, 1, (mem.set at_.toNat (f a.toNat)).map U32⟩) (w := w) (sw := sw) (m := m) (sm := sm) (o := o) (s1 := s1) (c := c) (sc := sc) (mem := mem.set at_.toNat (f a.toNat)) (out := out) (so := so) (cnt := cnt.set pc.toNat (x + 1)) (pc := IntKind.i64.wrap (pc + 1)) (f := f) (rd := rd) (st := t) (fin := 0)
        (by rw [List.length_set]; exact hlt3) (by rw [List.getElem?_set, if_pos rfl, if_pos hmlt]) (by rw [List.getElem?_set, if_neg nmo]; exact ho3) (by rw [List.getElem?_set, if_neg (fun e => ncm e.symm)]; exact hc3) nm no nc hc5
      rw [List.length_set] at this
      exact this
    · have hins : insF code inp ⟨pc, f, mem, rd, out, t, 0⟩ 17 a b k = (8, ⟨pc, f, mem, rd, out, t, 0⟩) := by
        have h' : ¬ w32 (f b.toNat + k) < (mem.length : Int) := by rw [hat']; exact h
        exact if_neg h'
      rw [hins] at hC
      simp only [go_sem,Nat.reduceEqDiff,Nat.reduceAdd,Nat.reduceMul,↓reduceIte,↓dreduceIte,reduceCtorEq,Nat.reduceLeDiff,Nat.reduceLT,Nat.reduceSub,Int.reduceToNat,Int.reduceLE,Int.reduceLT, hw3, hi3, gw, gi, List.set_set, List.length_set, set_map, wkc_length, k_pc, k_mem, k_rd, k_st, k_fin, k_o, k_cd, k_ok, k_wd, k_in, k_ct, k_reg ja, k_reg jb, ks_pc, ks_reg ja, ks_mem, ks_rd, ks_st, ks_fin, ks_o, one_ref, one_imm, cellT_U32, ec, hW, hok, Int.reduceEq, Int.reduceBEq, hm3, hat, q2, q3, eq_true (show (mem.length : Int) ≤ at_ by omega)]
      repeat (refine And.intro (by omega) ?_)
      exact hC _ _ _ (kp _) (wput hlt3 hm3 ho3 hc3 nm no nc hc5)
  · -- 18
    simp only [go_sem,Nat.reduceEqDiff,Nat.reduceAdd,Nat.reduceMul,↓reduceIte,↓dreduceIte,reduceCtorEq,Nat.reduceLeDiff,Nat.reduceLT,Nat.reduceSub,Int.reduceToNat,Int.reduceLE,Int.reduceLT, hw3, hi3, gw, gi, List.set_set, List.length_set, set_map, wkc_length, k_pc, k_mem, k_rd, k_st, k_fin, k_o, k_cd, k_ok, k_wd, k_in, k_ct, k_reg ja, k_reg jb, ks_pc, ks_reg ja, ks_mem, ks_rd, ks_st, ks_fin, ks_o, one_ref, one_imm, cellT_U32, ec, hW, hok, Int.reduceEq, Int.reduceBEq]
    repeat (refine And.intro (by omega) ?_)
    exact hC _ _ _ (kp _) (wput hlt3 hm3 ho3 hc3 nm no nc hc5)
  · -- 19
    simp only [go_sem,Nat.reduceEqDiff,Nat.reduceAdd,Nat.reduceMul,↓reduceIte,↓dreduceIte,reduceCtorEq,Nat.reduceLeDiff,Nat.reduceLT,Nat.reduceSub,Int.reduceToNat,Int.reduceLE,Int.reduceLT, hw3, hi3, gw, gi, List.set_set, List.length_set, set_map, wkc_length, k_pc, k_mem, k_rd, k_st, k_fin, k_o, k_cd, k_ok, k_wd, k_in, k_ct, k_reg ja, k_reg jb, ks_pc, ks_reg ja, ks_mem, ks_rd, ks_st, ks_fin, ks_o, one_ref, one_imm, cellT_U32, ec, hW, hok, Int.reduceEq, Int.reduceBEq]
    repeat (refine And.intro (by omega) ?_)
    refine wjump_v _ k hw3 fun r => ?_
    simp only [go_sem,Nat.reduceEqDiff,Nat.reduceAdd,Nat.reduceMul,↓reduceIte,↓dreduceIte,reduceCtorEq,Nat.reduceLeDiff,Nat.reduceLT,Nat.reduceSub,Int.reduceToNat,Int.reduceLE,Int.reduceLT]
    refine hC _ _ _ (kp _) ?_
    by_cases hz : f a.toNat = 0
    · have hins : insF code inp ⟨pc, f, mem, rd, out, t, 0⟩ 19 a b k = (0, ⟨k, f, mem, rd, out, t, 0⟩) := by show (0, S.mk (if f a.toNat = 0 then _ else _) f mem rd out t 0) = _; rw [if_pos hz] <;> rfl
      rw [hins]
      simp only [hz, beq_self_eq_true, if_true]
      exact wput hlt3 hm3 ho3 hc3 nm no nc hc5
    · have hins : insF code inp ⟨pc, f, mem, rd, out, t, 0⟩ 19 a b k = (0, ⟨(IntKind.i64.wrap (pc + 1)), f, mem, rd, out, t, 0⟩) := by show (0, S.mk (if f a.toNat = 0 then _ else _) f mem rd out t 0) = _; rw [if_neg hz] <;> rfl
      rw [hins]
      simp only [eq_false hz, if_false, if_true, not_false_eq_true]
      exact wput hlt3 hm3 ho3 hc3 nm no nc hc5
  · -- 20
    simp only [go_sem,Nat.reduceEqDiff,Nat.reduceAdd,Nat.reduceMul,↓reduceIte,↓dreduceIte,reduceCtorEq,Nat.reduceLeDiff,Nat.reduceLT,Nat.reduceSub,Int.reduceToNat,Int.reduceLE,Int.reduceLT, hw3, hi3, gw, gi, List.set_set, List.length_set, set_map, wkc_length, k_pc, k_mem, k_rd, k_st, k_fin, k_o, k_cd, k_ok, k_wd, k_in, k_ct, k_reg ja, k_reg jb, ks_pc, ks_reg ja, ks_mem, ks_rd, ks_st, ks_fin, ks_o, one_ref, one_imm, cellT_U32, ec, hW, hok, Int.reduceEq, Int.reduceBEq]
    repeat (refine And.intro (by omega) ?_)
    refine wjump_v _ k hw3 fun r => ?_
    simp only [go_sem,Nat.reduceEqDiff,Nat.reduceAdd,Nat.reduceMul,↓reduceIte,↓dreduceIte,reduceCtorEq,Nat.reduceLeDiff,Nat.reduceLT,Nat.reduceSub,Int.reduceToNat,Int.reduceLE,Int.reduceLT]
    refine hC _ _ _ (kp _) ?_
    by_cases hz : f a.toNat = 0
    · have hins : insF code inp ⟨pc, f, mem, rd, out, t, 0⟩ 20 a b k = (0, ⟨(IntKind.i64.wrap (pc + 1)), f, mem, rd, out, t, 0⟩) := by show (0, S.mk (if f a.toNat = 0 then _ else _) f mem rd out t 0) = _; rw [if_pos hz] <;> rfl
      rw [hins]
      simp only [hz, bne_self_eq_false, Bool.false_eq_true, if_false]
      exact wput hlt3 hm3 ho3 hc3 nm no nc hc5
    · have hins : insF code inp ⟨pc, f, mem, rd, out, t, 0⟩ 20 a b k = (0, ⟨k, f, mem, rd, out, t, 0⟩) := by show (0, S.mk (if f a.toNat = 0 then _ else _) f mem rd out t 0) = _; rw [if_neg hz] <;> rfl
      rw [hins]
      simp only [eq_false hz, if_false, if_true, not_false_eq_true]
      exact wput hlt3 hm3 ho3 hc3 nm no nc hc5
  · -- 21
    have hq : IntKind.u32.wrap (IntKind.u32.wrap pc + 1) = w32 (nxt ⟨pc, f, mem, rd, out, t, 0⟩) := by
      simp only [w32, nxt]; rw [IntKind.wrap_u32, IntKind.wrap_u32, IntKind.wrap_u32, IntKind.wrap_i64]; omega
    simp only [go_sem,Nat.reduceEqDiff,Nat.reduceAdd,Nat.reduceMul,↓reduceIte,↓dreduceIte,reduceCtorEq,Nat.reduceLeDiff,Nat.reduceLT,Nat.reduceSub,Int.reduceToNat,Int.reduceLE,Int.reduceLT, hw3, hi3, gw, gi, List.set_set, List.length_set, set_map, wkc_length, k_pc, k_mem, k_rd, k_st, k_fin, k_o, k_cd, k_ok, k_wd, k_in, k_ct, k_reg ja, k_reg jb, ks_pc, ks_reg ja, ks_mem, ks_rd, ks_st, ks_fin, ks_o, one_ref, one_imm, cellT_U32, ec, hW, hok, Int.reduceEq, Int.reduceBEq, hq]
    repeat (refine And.intro (by omega) ?_)
    exact hC _ _ _ (kp _) (wput hlt3 hm3 ho3 hc3 nm no nc hc5)
  · -- 22
    have hq : IntKind.i64.wrap (f a.toNat) = f a.toNat := by
      have := hf a.toNat
      exact i64_in (by have := this.1; omega) (by have := this.2; omega)
    simp only [go_sem,Nat.reduceEqDiff,Nat.reduceAdd,Nat.reduceMul,↓reduceIte,↓dreduceIte,reduceCtorEq,Nat.reduceLeDiff,Nat.reduceLT,Nat.reduceSub,Int.reduceToNat,Int.reduceLE,Int.reduceLT, hw3, hi3, gw, gi, List.set_set, List.length_set, set_map, wkc_length, k_pc, k_mem, k_rd, k_st, k_fin, k_o, k_cd, k_ok, k_wd, k_in, k_ct, k_reg ja, k_reg jb, ks_pc, ks_reg ja, ks_mem, ks_rd, ks_st, ks_fin, ks_o, one_ref, one_imm, cellT_U32, ec, hW, hok, Int.reduceEq, Int.reduceBEq, hq]
    repeat (refine And.intro (by omega) ?_)
    exact hC _ _ _ (kp _) (wput hlt3 hm3 ho3 hc3 nm no nc hc5)
  · -- 23
    by_cases r1 : rd < 0
    · have hins : insF code inp ⟨pc, f, mem, rd, out, t, 0⟩ 23 a b k = (0, setR ⟨pc, f, mem, rd, out, t, 0⟩ a 256) := by
        show (0, if rd < 0 ∨ (inp.size : Int) ≤ rd then _ else _) = _; rw [if_pos (.inl r1)]
      rw [hins] at hC
      simp only [go_sem,Nat.reduceEqDiff,Nat.reduceAdd,Nat.reduceMul,↓reduceIte,↓dreduceIte,reduceCtorEq,Nat.reduceLeDiff,Nat.reduceLT,Nat.reduceSub,Int.reduceToNat,Int.reduceLE,Int.reduceLT, hw3, hi3, gw, gi, List.set_set, List.length_set, set_map, wkc_length, k_pc, k_mem, k_rd, k_st, k_fin, k_o, k_cd, k_ok, k_wd, k_in, k_ct, k_reg ja, k_reg jb, ks_pc, ks_reg ja, ks_mem, ks_rd, ks_st, ks_fin, ks_o, one_ref, one_imm, cellT_U32, ec, hW, hok, Int.reduceEq, Int.reduceBEq, eq_true r1]
      repeat (refine And.intro (by omega) ?_)
      refine wset_v a 256 ⟨ga1, ga2⟩ hw3 hone fun r => ?_
      simp only [go_sem,Nat.reduceEqDiff,Nat.reduceAdd,Nat.reduceMul,↓reduceIte,↓dreduceIte,reduceCtorEq,Nat.reduceLeDiff,Nat.reduceLT,Nat.reduceSub,Int.reduceToNat,Int.reduceLE,Int.reduceLT]
      exact hC _ _ _ (kp _) (wput hlt3 hm3 ho3 hc3 nm no nc hc5)
    by_cases r2 : (inp.size : Int) ≤ rd
    · have hins : insF code inp ⟨pc, f, mem, rd, out, t, 0⟩ 23 a b k = (0, setR ⟨pc, f, mem, rd, out, t, 0⟩ a 256) := by
        show (0, if rd < 0 ∨ (inp.size : Int) ≤ rd then _ else _) = _; rw [if_pos (.inr r2)]
      rw [hins] at hC
      simp only [go_sem,Nat.reduceEqDiff,Nat.reduceAdd,Nat.reduceMul,↓reduceIte,↓dreduceIte,reduceCtorEq,Nat.reduceLeDiff,Nat.reduceLT,Nat.reduceSub,Int.reduceToNat,Int.reduceLE,Int.reduceLT, hw3, hi3, gw, gi, List.set_set, List.length_set, set_map, wkc_length, k_pc, k_mem, k_rd, k_st, k_fin, k_o, k_cd, k_ok, k_wd, k_in, k_ct, k_reg ja, k_reg jb, ks_pc, ks_reg ja, ks_mem, ks_rd, ks_st, ks_fin, ks_o, one_ref, one_imm, cellT_U32, ec, hW, hok, Int.reduceEq, Int.reduceBEq, eq_false r1, eq_true r2]
      repeat (refine And.intro (by omega) ?_)
      refine wset_v a 256 ⟨ga1, ga2⟩ hw3 hone fun r => ?_
      simp only [go_sem,Nat.reduceEqDiff,Nat.reduceAdd,Nat.reduceMul,↓reduceIte,↓dreduceIte,reduceCtorEq,Nat.reduceLeDiff,Nat.reduceLT,Nat.reduceSub,Int.reduceToNat,Int.reduceLE,Int.reduceLT]
      exact hC _ _ _ (kp _) (wput hlt3 hm3 ho3 hc3 nm no nc hc5)
    · have hins : insF code inp ⟨pc, f, mem, rd, out, t, 0⟩ 23 a b k = (0, setR ⟨pc, f, mem, IntKind.i64.wrap (rd + 1), out, t, 0⟩ a (byteAt inp rd.toNat)) := by
        show (0, if rd < 0 ∨ (inp.size : Int) ≤ rd then _ else _) = _; rw [if_neg (by omega)]
      rw [hins] at hC
      have hb : IntKind.u32.wrap (byteAt inp rd.toNat) = byteAt inp rd.toNat := by
        refine w32_in ⟨?_, ?_⟩ <;> unfold byteAt
        · omega
        · have := (inp.data.toList.getD rd.toNat 0).toNat_lt; omega
      simp only [go_sem,Nat.reduceEqDiff,Nat.reduceAdd,Nat.reduceMul,↓reduceIte,↓dreduceIte,reduceCtorEq,Nat.reduceLeDiff,Nat.reduceLT,Nat.reduceSub,Int.reduceToNat,Int.reduceLE,Int.reduceLT, hw3, hi3, gw, gi, List.set_set, List.length_set, set_map, wkc_length, k_pc, k_mem, k_rd, k_st, k_fin, k_o, k_cd, k_ok, k_wd, k_in, k_ct, k_reg ja, k_reg jb, ks_pc, ks_reg ja, ks_mem, ks_rd, ks_st, ks_fin, ks_o, one_ref, one_imm, cellT_U32, ec, hW, hok, Int.reduceEq, Int.reduceBEq, eq_false r1, eq_false r2, hb]
      repeat (refine And.intro (by omega) ?_)
      refine wset_v a (byteAt inp rd.toNat) ⟨ga1, ga2⟩ (gw _) (by rw [wkc_all]; rfl) fun r => ?_
      rw [List.set_set]
      simp only [go_sem,Nat.reduceEqDiff,Nat.reduceAdd,Nat.reduceMul,↓reduceIte,↓dreduceIte,reduceCtorEq,Nat.reduceLeDiff,Nat.reduceLT,Nat.reduceSub,Int.reduceToNat,Int.reduceLE,Int.reduceLT]
      exact hC _ _ _ (kp _) (wput hlt3 hm3 ho3 hc3 nm no nc hc5)
  · -- 24
    by_cases h : 65536 ≤ out.size
    · have hins : insF code inp ⟨pc, f, mem, rd, out, t, 0⟩ 24 a b k = (4, ⟨pc, f, mem, rd, out, t, 0⟩) := if_pos h
      rw [hins] at hC
      simp only [go_sem,Nat.reduceEqDiff,Nat.reduceAdd,Nat.reduceMul,↓reduceIte,↓dreduceIte,reduceCtorEq,Nat.reduceLeDiff,Nat.reduceLT,Nat.reduceSub,Int.reduceToNat,Int.reduceLE,Int.reduceLT, hw3, hi3, gw, gi, List.set_set, List.length_set, set_map, wkc_length, k_pc, k_mem, k_rd, k_st, k_fin, k_o, k_cd, k_ok, k_wd, k_in, k_ct, k_reg ja, k_reg jb, ks_pc, ks_reg ja, ks_mem, ks_rd, ks_st, ks_fin, ks_o, one_ref, one_imm, cellT_U32, ec, hW, hok, Int.reduceEq, Int.reduceBEq, ho3, eq_true (show (65536 : Int) ≤ (out.size : Int) by omega)]
      repeat (refine And.intro (by omega) ?_)
      exact hC _ _ _ (kp _) (wput hlt3 hm3 ho3 hc3 nm no nc hc5)
    · have hins : insF code inp ⟨pc, f, mem, rd, out, t, 0⟩ 24 a b k = (0, ⟨nxt ⟨pc, f, mem, rd, out, t, 0⟩, f, mem, rd, out.push (byteOf (f a.toNat)), t, 0⟩) := if_neg h
      rw [hins] at hC
      have hby : (AV.val (.int .u8 (IntKind.u8.wrap ((f a.toNat).tmod 256)))) = U8 (byteOf (f a.toNat)) := by
        have h0 := (hf a.toNat).1
        have e := byteOf_eq (f a.toNat)
        show AV.val (.int .u8 (IntKind.u8.wrap ((f a.toNat).tmod 256))) = AV.val (.int .u8 (((byteOf (f a.toNat)).toNat : Nat) : Int))
        rw [e, Int.tmod_eq_emod_of_nonneg h0, IntKind.wrap_u8, IntKind.wrap_u8, Int.emod_emod]
      have holt := (List.getElem?_eq_some_iff.1 ho3).1
      have X1 : ∀ y, (H3 ++ [y])[o]? = some ⟨s1, 5, 1, out.data.toList.map U8⟩ := fun y => by rw [List.getElem?_append_left holt]; exact ho3
      have X2 : ∀ y z, ((H3 ++ [y]).set o z)[w]? = some (wkO sw (wkc pc f (.ref m sm 0 mem.length) rd so t 0 (.ref o s1 0 out.size) (insL code) (okL code) (words code) inp (.ref c sc 0 code.length))) := fun y z => by
        rw [List.getElem?_set, if_neg (fun e => no e.symm), List.getElem?_append_left hlt3]; exact hw3
      have X3 : ∀ y z u, (((H3 ++ [y]).set o z).set w u)[w]? = some u := fun y z u => by rw [List.getElem?_set, if_pos rfl, if_pos (by simp; omega)]
      have X4 : ∀ y : VObj, (H3 ++ [y])[w]? = some (wkO sw (wkc pc f (.ref m sm 0 mem.length) rd so t 0 (.ref o s1 0 out.size) (insL code) (okL code) (words code) inp (.ref c sc 0 code.length))) := fun y => by
        rw [List.getElem?_append_left hlt3]; exact hw3
      have X5 : ∀ y : VObj, (H3 ++ [y])[H3.length]? = some y := fun y => by rw [List.getElem?_append_right (Nat.le_refl _), Nat.sub_self]; rfl
      have hall1 : ∀ v, allCells [U8 v] = [U8 v] := fun v => rfl
      have hmx : (2000000 : Nat) ≤ maxLen := by decide
      have hol2 : out.data.toList.length = out.size := rfl
      have htk : (out.data.toList.map U8).take out.size = out.data.toList.map U8 := List.take_of_length_le (by rw [List.length_map]; exact Nat.le_refl _)
      simp only [go_sem,Nat.reduceEqDiff,Nat.reduceAdd,Nat.reduceMul,↓reduceIte,↓dreduceIte,reduceCtorEq,Nat.reduceLeDiff,Nat.reduceLT,Nat.reduceSub,Int.reduceToNat,Int.reduceLE,Int.reduceLT, hw3, hi3, gw, gi, List.set_set, List.length_set, set_map, wkc_length, k_pc, k_mem, k_rd, k_st, k_fin, k_o, k_cd, k_ok, k_wd, k_in, k_ct, k_reg ja, k_reg jb, ks_pc, ks_reg ja, ks_mem, ks_rd, ks_st, ks_fin, ks_o, one_ref, one_imm, cellT_U32, ec, hW, hok, Int.reduceEq, Int.reduceBEq, eq_false (show ¬ (65536 : Int) ≤ (out.size : Int) by omega), hby, ho3, X1, X2, X3, X4, X5, hall1, htk]
      repeat (refine And.intro (by first | omega | simp) ?_)
      have hp1 : (out.push (byteOf (f a.toNat))).size = out.size + 1 := ByteArray.size_push ..
      have hp2 : (out.push (byteOf (f a.toNat))).data.toList.map U8 = out.data.toList.map U8 ++ [U8 (byteOf (f a.toNat))] := by
        show (out.data.push (byteOf (f a.toNat))).toList.map U8 = _
        rw [Array.toList_push, List.map_append]; rfl
      have hc3l := (List.getElem?_eq_some_iff.1 hc3).1
      refine hC _ _ _ (kp3 _ _ _) ?_
      have := wput (code := code) (inp := inp) (H := (H3 ++ [(⟨nx + 1, 5, 1, [U8 (byteOf (f a.toNat))]⟩ : VObj)]).set o ⟨nx + 1 + 1, 5, 1, out.data.toList.map U8 ++ [U8 (byteOf (f a.toNat))]⟩) (w := w) (sw := sw) (m := m) (sm := sm) (o := o) (s1 := nx + 1 + 1) (c := c) (sc := sc) (mem := mem) (out := out.push (byteOf (f a.toNat))) (so := so) (cnt := cnt.set pc.toNat (x + 1)) (pc := IntKind.i64.wrap (pc + 1)) (f := f) (rd := rd) (st := t) (fin := 0)
        (by simp; omega) (by rw [List.getElem?_set, if_neg (fun e => nmo e.symm), List.getElem?_append_left hmlt]; exact hm3) (by rw [hp2, List.getElem?_set, if_pos rfl, if_pos (by simp; omega)]) (by rw [List.getElem?_set, if_neg (fun e => nco e.symm), List.getElem?_append_left hc3l]; exact hc3) nm no nc hc5
      rw [hp1] at this
      exact this
  · -- 25
    by_cases h : f a.toNat < k
    · have hins : insF code inp ⟨pc, f, mem, rd, out, t, 0⟩ 25 a b k = (0, ⟨nxt ⟨pc, f, mem, rd, out, t, 0⟩, f, mem, rd, out, t, 0⟩) := if_pos h
      rw [hins] at hC
      simp only [go_sem,Nat.reduceEqDiff,Nat.reduceAdd,Nat.reduceMul,↓reduceIte,↓dreduceIte,reduceCtorEq,Nat.reduceLeDiff,Nat.reduceLT,Nat.reduceSub,Int.reduceToNat,Int.reduceLE,Int.reduceLT, hw3, hi3, gw, gi, List.set_set, List.length_set, set_map, wkc_length, k_pc, k_mem, k_rd, k_st, k_fin, k_o, k_cd, k_ok, k_wd, k_in, k_ct, k_reg ja, k_reg jb, ks_pc, ks_reg ja, ks_mem, ks_rd, ks_st, ks_fin, ks_o, one_ref, one_imm, cellT_U32, ec, hW, hok, Int.reduceEq, Int.reduceBEq, eq_false (show ¬ k ≤ f a.toNat by omega)]
      repeat (refine And.intro (by omega) ?_)
      exact hC _ _ _ (kp _) (wput hlt3 hm3 ho3 hc3 nm no nc hc5)
    · have hins : insF code inp ⟨pc, f, mem, rd, out, t, 0⟩ 25 a b k = (3, ⟨pc, f, mem, rd, out, t, 0⟩) := if_neg h
      rw [hins] at hC
      simp only [go_sem,Nat.reduceEqDiff,Nat.reduceAdd,Nat.reduceMul,↓reduceIte,↓dreduceIte,reduceCtorEq,Nat.reduceLeDiff,Nat.reduceLT,Nat.reduceSub,Int.reduceToNat,Int.reduceLE,Int.reduceLT, hw3, hi3, gw, gi, List.set_set, List.length_set, set_map, wkc_length, k_pc, k_mem, k_rd, k_st, k_fin, k_o, k_cd, k_ok, k_wd, k_in, k_ct, k_reg ja, k_reg jb, ks_pc, ks_reg ja, ks_mem, ks_rd, ks_st, ks_fin, ks_o, one_ref, one_imm, cellT_U32, ec, hW, hok, Int.reduceEq, Int.reduceBEq, eq_true (show k ≤ f a.toNat by omega)]
      repeat (refine And.intro (by omega) ?_)
      exact hC _ _ _ (kp _) (wput hlt3 hm3 ho3 hc3 nm no nc hc5)
  · -- 26
    simp only [go_sem,Nat.reduceEqDiff,Nat.reduceAdd,Nat.reduceMul,↓reduceIte,↓dreduceIte,reduceCtorEq,Nat.reduceLeDiff,Nat.reduceLT,Nat.reduceSub,Int.reduceToNat,Int.reduceLE,Int.reduceLT, hw3, hi3, gw, gi, List.set_set, List.length_set, set_map, wkc_length, k_pc, k_mem, k_rd, k_st, k_fin, k_o, k_cd, k_ok, k_wd, k_in, k_ct, k_reg ja, k_reg jb, ks_pc, ks_reg ja, ks_mem, ks_rd, ks_st, ks_fin, ks_o, one_ref, one_imm, cellT_U32, ec, hW, hok, Int.reduceEq, Int.reduceBEq]
    repeat (refine And.intro (by omega) ?_)
    exact hC _ _ _ (kp _) (wput hlt3 hm3 ho3 hc3 nm no nc hc5)
end Go.Proofs.Ytjoldjcfabbekaa
