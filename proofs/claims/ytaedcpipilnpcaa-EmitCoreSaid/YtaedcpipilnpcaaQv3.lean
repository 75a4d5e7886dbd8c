/- The document's run in place, and its step, made small by the program. No condition. The document's run in place: a step. No condition. The document's run in place: run, Go, Run, Counts. No condition. -/
import Derived.Test.YtaedcpipilnpcaaQv2
import Derived.Test.YtaedcpipilnpcaaUCode
set_option linter.unusedVariables false
set_option linter.unusedSimpArgs false
namespace Go.Proofs.Ytaedcpipilnpcaa
open Go.V
def r_scref10_work_step:VC :=
 (.seq
 (.seq
 (.ops [
 ⟨(some 11),none,(.mv (.tmp 0))⟩,
 ⟨(some 12),none,(.nck (.tmp 11))⟩,
 ⟨(some 13),none,(.fad 0 true 22 (.tmp 12))⟩,
 ⟨(some 14),none,(.fad 0 false 1 (.tmp 13))⟩,
 ⟨(some 15),none,(.ld false 1 (.tmp 14))⟩,
 ⟨(some 16),none,(.bin .lss (.tmp 15) (.const (.int .i64 0)))⟩,
 ⟨(some 17),none,(.mv (.tmp 16))⟩,
 ⟨(some 18),(some (17,false)),(.mv (.tmp 0))⟩,
 ⟨(some 19),(some (17,false)),(.nck (.tmp 18))⟩,
 ⟨(some 20),(some (17,false)),(.fad 0 true 22 (.tmp 19))⟩,
 ⟨(some 21),(some (17,false)),(.fad 0 false 1 (.tmp 20))⟩,
 ⟨(some 22),(some (17,false)),(.ld false 1 (.tmp 21))⟩,
 ⟨(some 23),(some (17,false)),(.mv (.tmp 0))⟩,
 ⟨(some 24),(some (17,false)),(.nck (.tmp 23))⟩,
 ⟨(some 25),(some (17,false)),(.fad 23 false 1 (.tmp 24))⟩,
 ⟨(some 26),(some (17,false)),(.ld false 1 (.tmp 25))⟩,
 ⟨(some 27),(some (17,false)),(.len (.tmp 26))⟩,
 ⟨(some 28),(some (17,false)),(.bin .geq (.tmp 22) (.tmp 27))⟩,
 ⟨(some 29),none,(.pick (.tmp 17) (.const (.bool true)) (.tmp 28))⟩])
 (.cond (.tmp 29)
 (.seq
 (.ops [
 ⟨(some 30),none,(.mv (.tmp 0))⟩,
 ⟨(some 31),none,(.nck (.tmp 30))⟩,
 ⟨(some 32),none,(.fad 0 true 22 (.tmp 31))⟩,
 ⟨(some 33),none,(.fad 21 false 1 (.tmp 32))⟩,
 ⟨none,none,(.sto false 1 (.tmp 33) (.const (.int .i64 7)))⟩])
 .ret)
 .skip))
 (.seq
 (.ops [
 ⟨(some 34),none,(.mv (.tmp 0))⟩,
 ⟨(some 35),none,(.nck (.tmp 34))⟩,
 ⟨(some 36),none,(.fad 0 true 22 (.tmp 35))⟩,
 ⟨(some 37),none,(.fad 20 false 1 (.tmp 36))⟩,
 ⟨(some 38),none,(.ld false 1 (.tmp 37))⟩,
 ⟨(some 39),none,(.bin .add (.tmp 38) (.const (.int .i64 1)))⟩,
 ⟨(some 40),none,(.nck (.tmp 34))⟩,
 ⟨(some 41),none,(.fad 0 true 22 (.tmp 40))⟩,
 ⟨(some 42),none,(.fad 20 false 1 (.tmp 41))⟩,
 ⟨none,none,(.sto false 1 (.tmp 42) (.tmp 39))⟩])
 (.seq
 (.ops [
 ⟨(some 43),none,(.mv (.tmp 0))⟩,
 ⟨(some 44),none,(.nck (.tmp 43))⟩,
 ⟨(some 45),none,(.fad 27 false 1 (.tmp 44))⟩,
 ⟨(some 46),none,(.ld false 1 (.tmp 45))⟩,
 ⟨(some 47),none,(.mv (.tmp 0))⟩,
 ⟨(some 48),none,(.nck (.tmp 47))⟩,
 ⟨(some 49),none,(.fad 0 true 22 (.tmp 48))⟩,
 ⟨(some 50),none,(.fad 0 false 1 (.tmp 49))⟩,
 ⟨(some 51),none,(.ld false 1 (.tmp 50))⟩,
 ⟨(some 52),none,(.idx 1 (.tmp 46) (.tmp 51))⟩,
 ⟨(some 53),none,(.ld false 1 (.tmp 52))⟩,
 ⟨(some 54),none,(.bin .add (.tmp 53) (.const (.int .i64 1)))⟩,
 ⟨(some 55),none,(.idx 1 (.tmp 46) (.tmp 51))⟩,
 ⟨none,none,(.sto false 1 (.tmp 55) (.tmp 54))⟩])
 (.seq
 (.par true (.one ⟨(some 56),none,(.mv (.tmp 0))⟩ (.one ⟨(some 57),none,(.nck (.tmp 56))⟩ (.one ⟨(some 58),none,(.fad 23 false 1 (.tmp 57))⟩ (.one ⟨(some 59),none,(.ld false 1 (.tmp 58))⟩ (.one ⟨(some 60),none,(.mv (.tmp 0))⟩ (.one ⟨(some 61),none,(.nck (.tmp 60))⟩ (.one ⟨(some 62),none,(.fad 0 true 22 (.tmp 61))⟩ (.one ⟨(some 63),none,(.fad 0 false 1 (.tmp 62))⟩ (.one ⟨(some 64),none,(.ld false 1 (.tmp 63))⟩ (.one ⟨(some 65),none,(.idx 4 (.tmp 59) (.tmp 64))⟩ (.one ⟨(some 66),none,(.ld true 4 (.tmp 65))⟩ (.one ⟨(some 2),none,(.alc 86 [(.int .i64 0),(.int .i64 0),(.int .i64 0),(.int .i64 0)])⟩ (.one ⟨none,none,(.sto true 4 (.tmp 2) (.tmp 66))⟩ .done))))))))))))))
 (.seq
 (.seq
 (.ops [
 ⟨(some 67),none,(.mv (.tmp 0))⟩,
 ⟨(some 68),none,(.nck (.tmp 67))⟩,
 ⟨(some 69),none,(.fad 24 false 1 (.tmp 68))⟩,
 ⟨(some 70),none,(.ld false 1 (.tmp 69))⟩,
 ⟨(some 71),none,(.mv (.tmp 0))⟩,
 ⟨(some 72),none,(.nck (.tmp 71))⟩,
 ⟨(some 73),none,(.fad 0 true 22 (.tmp 72))⟩,
 ⟨(some 74),none,(.fad 0 false 1 (.tmp 73))⟩,
 ⟨(some 75),none,(.ld false 1 (.tmp 74))⟩,
 ⟨(some 76),none,(.idx 1 (.tmp 70) (.tmp 75))⟩,
 ⟨(some 77),none,(.ld false 1 (.tmp 76))⟩,
 ⟨(some 78),none,(.un .not (.tmp 77))⟩])
 (.cond (.tmp 78)
 (.seq
 (.ops [
 ⟨(some 79),none,(.mv (.tmp 0))⟩,
 ⟨(some 80),none,(.nck (.tmp 79))⟩,
 ⟨(some 81),none,(.fad 0 true 22 (.tmp 80))⟩,
 ⟨(some 82),none,(.fad 21 false 1 (.tmp 81))⟩,
 ⟨none,none,(.sto false 1 (.tmp 82) (.const (.int .i64 6)))⟩])
 .ret)
 .skip))
 (.seq
 (.ops [
 ⟨(some 83),none,(.mv (.tmp 0))⟩,
 ⟨(some 84),none,(.fad 1 false 1 (.tmp 2))⟩,
 ⟨(some 85),none,(.ld false 1 (.tmp 84))⟩,
 ⟨(some 86),none,(.nck (.tmp 83))⟩,
 ⟨(some 87),none,(.fad 0 true 22 (.tmp 86))⟩,
 ⟨(some 88),none,(.fad 1 true 16 (.tmp 87))⟩,
 ⟨(some 89),none,(.aidx 16 false 1 (.tmp 88) (.tmp 85))⟩,
 ⟨(some 90),none,(.ld false 1 (.tmp 89))⟩,
 ⟨(some 3),none,(.mv (.tmp 90))⟩])
 (.seq
 (.ops [
 ⟨(some 91),none,(.fad 0 false 1 (.tmp 2))⟩,
 ⟨(some 92),none,(.ld false 1 (.tmp 91))⟩])
 (.block 0
 (.seq
 (.ops [
 ⟨(some 127),none,(.bin .eql (.tmp 92) (.const (.int .i64 1)))⟩,
 ⟨(some 126),none,(.mv (.tmp 127))⟩])
 (.cond (.tmp 126)
 (.ops [
 ⟨(some 128),none,(.mv (.tmp 0))⟩,
 ⟨(some 129),none,(.fad 1 false 1 (.tmp 2))⟩,
 ⟨(some 130),none,(.ld false 1 (.tmp 129))⟩,
 ⟨(some 131),none,(.fad 3 false 1 (.tmp 2))⟩,
 ⟨(some 132),none,(.ld false 1 (.tmp 131))⟩,
 ⟨(some 133),none,(.conv .u32 (.tmp 132))⟩,
 ⟨(some 134),none,(.call (.func 88) [(.tmp 128),(.tmp 130),(.tmp 133)])⟩])
 (.seq
 (.ops [
 ⟨(some 136),none,(.bin .eql (.tmp 92) (.const (.int .i64 2)))⟩,
 ⟨(some 135),none,(.mv (.tmp 136))⟩])
 (.cond (.tmp 135)
 (.ops [
 ⟨(some 137),none,(.mv (.tmp 0))⟩,
 ⟨(some 138),none,(.fad 1 false 1 (.tmp 2))⟩,
 ⟨(some 139),none,(.ld false 1 (.tmp 138))⟩,
 ⟨(some 140),none,(.mv (.tmp 3))⟩,
 ⟨(some 141),none,(.bin .rem (.tmp 140) (.const (.int .u32 65536)))⟩,
 ⟨(some 142),none,(.fad 3 false 1 (.tmp 2))⟩,
 ⟨(some 143),none,(.ld false 1 (.tmp 142))⟩,
 ⟨(some 144),none,(.conv .u32 (.tmp 143))⟩,
 ⟨(some 145),none,(.bin .mul (.tmp 144) (.const (.int .u32 65536)))⟩,
 ⟨(some 146),none,(.bin .add (.tmp 141) (.tmp 145))⟩,
 ⟨(some 147),none,(.call (.func 88) [(.tmp 137),(.tmp 139),(.tmp 146)])⟩])
 (.seq
 (.ops [
 ⟨(some 149),none,(.bin .eql (.tmp 92) (.const (.int .i64 3)))⟩,
 ⟨(some 148),none,(.mv (.tmp 149))⟩])
 (.cond (.tmp 148)
 (.ops [
 ⟨(some 150),none,(.mv (.tmp 0))⟩,
 ⟨(some 151),none,(.fad 1 false 1 (.tmp 2))⟩,
 ⟨(some 152),none,(.ld false 1 (.tmp 151))⟩,
 ⟨(some 153),none,(.mv (.tmp 0))⟩,
 ⟨(some 154),none,(.fad 2 false 1 (.tmp 2))⟩,
 ⟨(some 155),none,(.ld false 1 (.tmp 154))⟩,
 ⟨(some 156),none,(.nck (.tmp 153))⟩,
 ⟨(some 157),none,(.fad 0 true 22 (.tmp 156))⟩,
 ⟨(some 158),none,(.fad 1 true 16 (.tmp 157))⟩,
 ⟨(some 159),none,(.aidx 16 false 1 (.tmp 158) (.tmp 155))⟩,
 ⟨(some 160),none,(.ld false 1 (.tmp 159))⟩,
 ⟨(some 161),none,(.call (.func 88) [(.tmp 150),(.tmp 152),(.tmp 160)])⟩])
 (.seq
 (.seq
 (.ops [
 ⟨(some 163),none,(.bin .eql (.tmp 92) (.const (.int .i64 16)))⟩,
 ⟨(some 162),none,(.mv (.tmp 163))⟩])
 (.cond (.tmp 162)
 .skip
 (.ops [
 ⟨(some 164),none,(.bin .eql (.tmp 92) (.const (.int .i64 27)))⟩,
 ⟨(some 162),none,(.mv (.tmp 164))⟩])))
 (.cond (.tmp 162)
 (.seq
 (.ops [
 ⟨(some 165),none,(.mv (.tmp 0))⟩,
 ⟨(some 166),none,(.nck (.tmp 165))⟩,
 ⟨(some 167),none,(.fad 0 true 22 (.tmp 166))⟩,
 ⟨(some 168),none,(.fad 17 false 1 (.tmp 167))⟩,
 ⟨(some 169),none,(.ld false 1 (.tmp 168))⟩,
 ⟨(some 4),none,(.mv (.tmp 169))⟩])
 (.seq
 (.seq
 (.ops [
 ⟨(some 170),none,(.fad 0 false 1 (.tmp 2))⟩,
 ⟨(some 171),none,(.ld false 1 (.tmp 170))⟩,
 ⟨(some 172),none,(.bin .eql (.tmp 171) (.const (.int .i64 27)))⟩])
 (.cond (.tmp 172)
 (.ops [
 ⟨(some 173),none,(.mv (.tmp 0))⟩,
 ⟨(some 174),none,(.nck (.tmp 173))⟩,
 ⟨(some 175),none,(.fad 25 false 1 (.tmp 174))⟩,
 ⟨(some 176),none,(.ld false 1 (.tmp 175))⟩,
 ⟨(some 4),none,(.mv (.tmp 176))⟩])
 .skip))
 (.seq
 (.par true (.one ⟨(some 178),none,(.mv (.tmp 4))⟩ (.one ⟨(some 179),none,(.mv (.tmp 0))⟩ (.one ⟨(some 180),none,(.fad 2 false 1 (.tmp 2))⟩ (.one ⟨(some 181),none,(.ld false 1 (.tmp 180))⟩ (.one ⟨(some 182),none,(.nck (.tmp 179))⟩ (.one ⟨(some 183),none,(.fad 0 true 22 (.tmp 182))⟩ (.one ⟨(some 184),none,(.fad 1 true 16 (.tmp 183))⟩ (.one ⟨(some 185),none,(.aidx 16 false 1 (.tmp 184) (.tmp 181))⟩ (.one ⟨(some 186),none,(.ld false 1 (.tmp 185))⟩ (.one ⟨(some 187),none,(.fad 3 false 1 (.tmp 2))⟩ (.one ⟨(some 188),none,(.ld false 1 (.tmp 187))⟩ (.one ⟨(some 189),none,(.call (.func 89) [(.tmp 178),(.tmp 186),(.tmp 188)])⟩ (.one ⟨(some 177),none,(.mv (.tmp 189))⟩ (.one ⟨(some 190),none,(.ext (.tmp 177) 0)⟩ (.one ⟨(some 191),none,(.ext (.tmp 177) 1)⟩ (.one ⟨(some 5),none,(.mv (.tmp 190))⟩ (.one ⟨(some 6),none,(.mv (.tmp 191))⟩ .done))))))))))))))))))
 (.seq
 (.seq
 (.ops [
 ⟨(some 192),none,(.mv (.tmp 6))⟩,
 ⟨(some 193),none,(.un .not (.tmp 192))⟩])
 (.cond (.tmp 193)
 (.seq
 (.ops [
 ⟨(some 194),none,(.mv (.tmp 0))⟩,
 ⟨(some 195),none,(.nck (.tmp 194))⟩,
 ⟨(some 196),none,(.fad 0 true 22 (.tmp 195))⟩,
 ⟨(some 197),none,(.fad 21 false 1 (.tmp 196))⟩,
 ⟨none,none,(.sto false 1 (.tmp 197) (.const (.int .i64 8)))⟩])
 .ret)
 .skip))
 (.ops [
 ⟨(some 198),none,(.mv (.tmp 0))⟩,
 ⟨(some 199),none,(.fad 1 false 1 (.tmp 2))⟩,
 ⟨(some 200),none,(.ld false 1 (.tmp 199))⟩,
 ⟨(some 201),none,(.mv (.tmp 5))⟩,
 ⟨(some 202),none,(.call (.func 88) [(.tmp 198),(.tmp 200),(.tmp 201)])⟩])))))
 (.seq
 (.ops [
 ⟨(some 204),none,(.bin .eql (.tmp 92) (.const (.int .i64 17)))⟩,
 ⟨(some 203),none,(.mv (.tmp 204))⟩])
 (.cond (.tmp 203)
 (.seq
 (.ops [
 ⟨(some 205),none,(.mv (.tmp 0))⟩,
 ⟨(some 206),none,(.fad 2 false 1 (.tmp 2))⟩,
 ⟨(some 207),none,(.ld false 1 (.tmp 206))⟩,
 ⟨(some 208),none,(.nck (.tmp 205))⟩,
 ⟨(some 209),none,(.fad 0 true 22 (.tmp 208))⟩,
 ⟨(some 210),none,(.fad 1 true 16 (.tmp 209))⟩,
 ⟨(some 211),none,(.aidx 16 false 1 (.tmp 210) (.tmp 207))⟩,
 ⟨(some 212),none,(.ld false 1 (.tmp 211))⟩,
 ⟨(some 213),none,(.fad 3 false 1 (.tmp 2))⟩,
 ⟨(some 214),none,(.ld false 1 (.tmp 213))⟩,
 ⟨(some 215),none,(.conv .u32 (.tmp 214))⟩,
 ⟨(some 216),none,(.bin .add (.tmp 212) (.tmp 215))⟩,
 ⟨(some 7),none,(.mv (.tmp 216))⟩])
 (.seq
 (.seq
 (.ops [
 ⟨(some 217),none,(.mv (.tmp 7))⟩,
 ⟨(some 218),none,(.conv .u64 (.tmp 217))⟩,
 ⟨(some 219),none,(.mv (.tmp 0))⟩,
 ⟨(some 220),none,(.nck (.tmp 219))⟩,
 ⟨(some 221),none,(.fad 0 true 22 (.tmp 220))⟩,
 ⟨(some 222),none,(.fad 17 false 1 (.tmp 221))⟩,
 ⟨(some 223),none,(.ld false 1 (.tmp 222))⟩,
 ⟨(some 224),none,(.len (.tmp 223))⟩,
 ⟨(some 225),none,(.conv .u64 (.tmp 224))⟩,
 ⟨(some 226),none,(.bin .geq (.tmp 218) (.tmp 225))⟩])
 (.cond (.tmp 226)
 (.seq
 (.ops [
 ⟨(some 227),none,(.mv (.tmp 0))⟩,
 ⟨(some 228),none,(.nck (.tmp 227))⟩,
 ⟨(some 229),none,(.fad 0 true 22 (.tmp 228))⟩,
 ⟨(some 230),none,(.fad 21 false 1 (.tmp 229))⟩,
 ⟨none,none,(.sto false 1 (.tmp 230) (.const (.int .i64 8)))⟩])
 .ret)
 .skip))
 (.seq
 (.ops [
 ⟨(some 231),none,(.mv (.tmp 0))⟩,
 ⟨(some 232),none,(.nck (.tmp 231))⟩,
 ⟨(some 233),none,(.fad 0 true 22 (.tmp 232))⟩,
 ⟨(some 234),none,(.fad 17 false 1 (.tmp 233))⟩,
 ⟨(some 235),none,(.ld false 1 (.tmp 234))⟩,
 ⟨(some 236),none,(.mv (.tmp 7))⟩,
 ⟨(some 237),none,(.mv (.tmp 3))⟩,
 ⟨(some 238),none,(.idx 1 (.tmp 235) (.tmp 236))⟩,
 ⟨none,none,(.sto false 1 (.tmp 238) (.tmp 237))⟩])
 (.ops [
 ⟨(some 239),none,(.mv (.tmp 0))⟩,
 ⟨(some 240),none,(.nck (.tmp 239))⟩,
 ⟨(some 241),none,(.fad 0 true 22 (.tmp 240))⟩,
 ⟨(some 242),none,(.fad 0 false 1 (.tmp 241))⟩,
 ⟨(some 243),none,(.ld false 1 (.tmp 242))⟩,
 ⟨(some 244),none,(.bin .add (.tmp 243) (.const (.int .i64 1)))⟩,
 ⟨(some 245),none,(.nck (.tmp 239))⟩,
 ⟨(some 246),none,(.fad 0 true 22 (.tmp 245))⟩,
 ⟨(some 247),none,(.fad 0 false 1 (.tmp 246))⟩,
 ⟨none,none,(.sto false 1 (.tmp 247) (.tmp 244))⟩]))))
 (.seq
 (.ops [
 ⟨(some 249),none,(.bin .eql (.tmp 92) (.const (.int .i64 18)))⟩,
 ⟨(some 248),none,(.mv (.tmp 249))⟩])
 (.cond (.tmp 248)
 (.ops [
 ⟨(some 250),none,(.mv (.tmp 0))⟩,
 ⟨(some 251),none,(.fad 3 false 1 (.tmp 2))⟩,
 ⟨(some 252),none,(.ld false 1 (.tmp 251))⟩,
 ⟨(some 253),none,(.nck (.tmp 250))⟩,
 ⟨(some 254),none,(.fad 0 true 22 (.tmp 253))⟩,
 ⟨(some 255),none,(.fad 0 false 1 (.tmp 254))⟩,
 ⟨none,none,(.sto false 1 (.tmp 255) (.tmp 252))⟩])
 (.seq
 (.ops [
 ⟨(some 257),none,(.bin .eql (.tmp 92) (.const (.int .i64 19)))⟩,
 ⟨(some 256),none,(.mv (.tmp 257))⟩])
 (.cond (.tmp 256)
 (.ops [
 ⟨(some 258),none,(.mv (.tmp 0))⟩,
 ⟨(some 259),none,(.mv (.tmp 3))⟩,
 ⟨(some 260),none,(.bin .eql (.tmp 259) (.const (.int .u32 0)))⟩,
 ⟨(some 261),none,(.fad 3 false 1 (.tmp 2))⟩,
 ⟨(some 262),none,(.ld false 1 (.tmp 261))⟩,
 ⟨(some 263),none,(.call (.func 90) [(.tmp 258),(.tmp 260),(.tmp 262)])⟩])
 (.seq
 (.ops [
 ⟨(some 265),none,(.bin .eql (.tmp 92) (.const (.int .i64 20)))⟩,
 ⟨(some 264),none,(.mv (.tmp 265))⟩])
 (.cond (.tmp 264)
 (.ops [
 ⟨(some 266),none,(.mv (.tmp 0))⟩,
 ⟨(some 267),none,(.mv (.tmp 3))⟩,
 ⟨(some 268),none,(.bin .neq (.tmp 267) (.const (.int .u32 0)))⟩,
 ⟨(some 269),none,(.fad 3 false 1 (.tmp 2))⟩,
 ⟨(some 270),none,(.ld false 1 (.tmp 269))⟩,
 ⟨(some 271),none,(.call (.func 90) [(.tmp 266),(.tmp 268),(.tmp 270)])⟩])
 (.seq
 (.ops [
 ⟨(some 273),none,(.bin .eql (.tmp 92) (.const (.int .i64 21)))⟩,
 ⟨(some 272),none,(.mv (.tmp 273))⟩])
 (.cond (.tmp 272)
 (.seq
 (.ops [
 ⟨(some 274),none,(.mv (.tmp 0))⟩,
 ⟨(some 275),none,(.fad 1 false 1 (.tmp 2))⟩,
 ⟨(some 276),none,(.ld false 1 (.tmp 275))⟩,
 ⟨(some 277),none,(.mv (.tmp 0))⟩,
 ⟨(some 278),none,(.nck (.tmp 277))⟩,
 ⟨(some 279),none,(.fad 0 true 22 (.tmp 278))⟩,
 ⟨(some 280),none,(.fad 0 false 1 (.tmp 279))⟩,
 ⟨(some 281),none,(.ld false 1 (.tmp 280))⟩,
 ⟨(some 282),none,(.conv .u32 (.tmp 281))⟩,
 ⟨(some 283),none,(.bin .add (.tmp 282) (.const (.int .u32 1)))⟩,
 ⟨(some 284),none,(.nck (.tmp 274))⟩,
 ⟨(some 285),none,(.fad 0 true 22 (.tmp 284))⟩,
 ⟨(some 286),none,(.fad 1 true 16 (.tmp 285))⟩,
 ⟨(some 287),none,(.aidx 16 false 1 (.tmp 286) (.tmp 276))⟩,
 ⟨none,none,(.sto false 1 (.tmp 287) (.tmp 283))⟩])
 (.ops [
 ⟨(some 288),none,(.mv (.tmp 0))⟩,
 ⟨(some 289),none,(.fad 3 false 1 (.tmp 2))⟩,
 ⟨(some 290),none,(.ld false 1 (.tmp 289))⟩,
 ⟨(some 291),none,(.nck (.tmp 288))⟩,
 ⟨(some 292),none,(.fad 0 true 22 (.tmp 291))⟩,
 ⟨(some 293),none,(.fad 0 false 1 (.tmp 292))⟩,
 ⟨none,none,(.sto false 1 (.tmp 293) (.tmp 290))⟩]))
 (.seq
 (.ops [
 ⟨(some 295),none,(.bin .eql (.tmp 92) (.const (.int .i64 22)))⟩,
 ⟨(some 294),none,(.mv (.tmp 295))⟩])
 (.cond (.tmp 294)
 (.ops [
 ⟨(some 296),none,(.mv (.tmp 0))⟩,
 ⟨(some 297),none,(.mv (.tmp 3))⟩,
 ⟨(some 298),none,(.conv .i64 (.tmp 297))⟩,
 ⟨(some 299),none,(.nck (.tmp 296))⟩,
 ⟨(some 300),none,(.fad 0 true 22 (.tmp 299))⟩,
 ⟨(some 301),none,(.fad 0 false 1 (.tmp 300))⟩,
 ⟨none,none,(.sto false 1 (.tmp 301) (.tmp 298))⟩])
 (.seq
 (.ops [
 ⟨(some 303),none,(.bin .eql (.tmp 92) (.const (.int .i64 23)))⟩,
 ⟨(some 302),none,(.mv (.tmp 303))⟩])
 (.cond (.tmp 302)
 (.seq
 (.seq
 (.ops [
 ⟨(some 304),none,(.mv (.tmp 0))⟩,
 ⟨(some 305),none,(.nck (.tmp 304))⟩,
 ⟨(some 306),none,(.fad 0 true 22 (.tmp 305))⟩,
 ⟨(some 307),none,(.fad 18 false 1 (.tmp 306))⟩,
 ⟨(some 308),none,(.ld false 1 (.tmp 307))⟩,
 ⟨(some 309),none,(.bin .lss (.tmp 308) (.const (.int .i64 0)))⟩,
 ⟨(some 310),none,(.mv (.tmp 309))⟩,
 ⟨(some 311),(some (310,false)),(.mv (.tmp 0))⟩,
 ⟨(some 312),(some (310,false)),(.nck (.tmp 311))⟩,
 ⟨(some 313),(some (310,false)),(.fad 0 true 22 (.tmp 312))⟩,
 ⟨(some 314),(some (310,false)),(.fad 18 false 1 (.tmp 313))⟩,
 ⟨(some 315),(some (310,false)),(.ld false 1 (.tmp 314))⟩,
 ⟨(some 316),(some (310,false)),(.mv (.tmp 0))⟩,
 ⟨(some 317),(some (310,false)),(.nck (.tmp 316))⟩,
 ⟨(some 318),(some (310,false)),(.fad 26 false 1 (.tmp 317))⟩,
 ⟨(some 319),(some (310,false)),(.ld false 1 (.tmp 318))⟩,
 ⟨(some 320),(some (310,false)),(.lens (.tmp 319))⟩,
 ⟨(some 321),(some (310,false)),(.bin .geq (.tmp 315) (.tmp 320))⟩,
 ⟨(some 322),none,(.pick (.tmp 310) (.const (.bool true)) (.tmp 321))⟩])
 (.cond (.tmp 322)
 (.seq
 (.ops [
 ⟨(some 323),none,(.mv (.tmp 0))⟩,
 ⟨(some 324),none,(.fad 1 false 1 (.tmp 2))⟩,
 ⟨(some 325),none,(.ld false 1 (.tmp 324))⟩,
 ⟨(some 326),none,(.call (.func 88) [(.tmp 323),(.tmp 325),(.const (.int .u32 256))])⟩])
 .ret)
 .skip))
 (.seq
 (.ops [
 ⟨(some 327),none,(.mv (.tmp 0))⟩,
 ⟨(some 328),none,(.nck (.tmp 327))⟩,
 ⟨(some 329),none,(.fad 26 false 1 (.tmp 328))⟩,
 ⟨(some 330),none,(.ld false 1 (.tmp 329))⟩,
 ⟨(some 331),none,(.mv (.tmp 0))⟩,
 ⟨(some 332),none,(.nck (.tmp 331))⟩,
 ⟨(some 333),none,(.fad 0 true 22 (.tmp 332))⟩,
 ⟨(some 334),none,(.fad 18 false 1 (.tmp 333))⟩,
 ⟨(some 335),none,(.ld false 1 (.tmp 334))⟩,
 ⟨(some 336),none,(.pur .six [(.tmp 330),(.tmp 335)])⟩,
 ⟨(some 337),none,(.conv .u32 (.tmp 336))⟩,
 ⟨(some 8),none,(.mv (.tmp 337))⟩])
 (.seq
 (.ops [
 ⟨(some 338),none,(.mv (.tmp 0))⟩,
 ⟨(some 339),none,(.nck (.tmp 338))⟩,
 ⟨(some 340),none,(.fad 0 true 22 (.tmp 339))⟩,
 ⟨(some 341),none,(.fad 18 false 1 (.tmp 340))⟩,
 ⟨(some 342),none,(.ld false 1 (.tmp 341))⟩,
 ⟨(some 343),none,(.bin .add (.tmp 342) (.const (.int .i64 1)))⟩,
 ⟨(some 344),none,(.nck (.tmp 338))⟩,
 ⟨(some 345),none,(.fad 0 true 22 (.tmp 344))⟩,
 ⟨(some 346),none,(.fad 18 false 1 (.tmp 345))⟩,
 ⟨none,none,(.sto false 1 (.tmp 346) (.tmp 343))⟩])
 (.ops [
 ⟨(some 347),none,(.mv (.tmp 0))⟩,
 ⟨(some 348),none,(.fad 1 false 1 (.tmp 2))⟩,
 ⟨(some 349),none,(.ld false 1 (.tmp 348))⟩,
 ⟨(some 350),none,(.mv (.tmp 8))⟩,
 ⟨(some 351),none,(.call (.func 88) [(.tmp 347),(.tmp 349),(.tmp 350)])⟩]))))
 (.seq
 (.ops [
 ⟨(some 353),none,(.bin .eql (.tmp 92) (.const (.int .i64 24)))⟩,
 ⟨(some 352),none,(.mv (.tmp 353))⟩])
 (.cond (.tmp 352)
 (.seq
 (.seq
 (.ops [
 ⟨(some 354),none,(.mv (.tmp 0))⟩,
 ⟨(some 355),none,(.nck (.tmp 354))⟩,
 ⟨(some 356),none,(.fad 22 false 1 (.tmp 355))⟩,
 ⟨(some 357),none,(.ld false 1 (.tmp 356))⟩,
 ⟨(some 358),none,(.len (.tmp 357))⟩,
 ⟨(some 359),none,(.bin .geq (.tmp 358) (.const (.int .i64 65536)))⟩])
 (.cond (.tmp 359)
 (.seq
 (.ops [
 ⟨(some 360),none,(.mv (.tmp 0))⟩,
 ⟨(some 361),none,(.nck (.tmp 360))⟩,
 ⟨(some 362),none,(.fad 0 true 22 (.tmp 361))⟩,
 ⟨(some 363),none,(.fad 21 false 1 (.tmp 362))⟩,
 ⟨none,none,(.sto false 1 (.tmp 363) (.const (.int .i64 4)))⟩])
 .ret)
 .skip))
 (.seq
 (.ops [
 ⟨(some 364),none,(.mv (.tmp 0))⟩,
 ⟨(some 365),none,(.mv (.tmp 0))⟩,
 ⟨(some 366),none,(.nck (.tmp 365))⟩,
 ⟨(some 367),none,(.fad 22 false 1 (.tmp 366))⟩,
 ⟨(some 368),none,(.ld false 1 (.tmp 367))⟩,
 ⟨(some 369),none,(.mv (.tmp 3))⟩,
 ⟨(some 370),none,(.bin .rem (.tmp 369) (.const (.int .u32 256)))⟩,
 ⟨(some 371),none,(.conv .u8 (.tmp 370))⟩,
 ⟨(some 372),none,(.bsl 5 1 1 [(.int .u8 0)] [(0,(1,(.tmp 371)))])⟩,
 ⟨(some 373),none,(.app 5 1 1 (.tmp 368) (.tmp 372))⟩,
 ⟨(some 374),none,(.nck (.tmp 364))⟩,
 ⟨(some 375),none,(.fad 22 false 1 (.tmp 374))⟩,
 ⟨none,none,(.sto false 1 (.tmp 375) (.tmp 373))⟩])
 (.ops [
 ⟨(some 376),none,(.mv (.tmp 0))⟩,
 ⟨(some 377),none,(.nck (.tmp 376))⟩,
 ⟨(some 378),none,(.fad 0 true 22 (.tmp 377))⟩,
 ⟨(some 379),none,(.fad 0 false 1 (.tmp 378))⟩,
 ⟨(some 380),none,(.ld false 1 (.tmp 379))⟩,
 ⟨(some 381),none,(.bin .add (.tmp 380) (.const (.int .i64 1)))⟩,
 ⟨(some 382),none,(.nck (.tmp 376))⟩,
 ⟨(some 383),none,(.fad 0 true 22 (.tmp 382))⟩,
 ⟨(some 384),none,(.fad 0 false 1 (.tmp 383))⟩,
 ⟨none,none,(.sto false 1 (.tmp 384) (.tmp 381))⟩])))
 (.seq
 (.ops [
 ⟨(some 386),none,(.bin .eql (.tmp 92) (.const (.int .i64 25)))⟩,
 ⟨(some 385),none,(.mv (.tmp 386))⟩])
 (.cond (.tmp 385)
 (.seq
 (.seq
 (.ops [
 ⟨(some 387),none,(.mv (.tmp 3))⟩,
 ⟨(some 388),none,(.fad 3 false 1 (.tmp 2))⟩,
 ⟨(some 389),none,(.ld false 1 (.tmp 388))⟩,
 ⟨(some 390),none,(.conv .u32 (.tmp 389))⟩,
 ⟨(some 391),none,(.bin .geq (.tmp 387) (.tmp 390))⟩])
 (.cond (.tmp 391)
 (.seq
 (.ops [
 ⟨(some 392),none,(.mv (.tmp 0))⟩,
 ⟨(some 393),none,(.nck (.tmp 392))⟩,
 ⟨(some 394),none,(.fad 0 true 22 (.tmp 393))⟩,
 ⟨(some 395),none,(.fad 21 false 1 (.tmp 394))⟩,
 ⟨none,none,(.sto false 1 (.tmp 395) (.const (.int .i64 3)))⟩])
 .ret)
 .skip))
 (.ops [
 ⟨(some 396),none,(.mv (.tmp 0))⟩,
 ⟨(some 397),none,(.nck (.tmp 396))⟩,
 ⟨(some 398),none,(.fad 0 true 22 (.tmp 397))⟩,
 ⟨(some 399),none,(.fad 0 false 1 (.tmp 398))⟩,
 ⟨(some 400),none,(.ld false 1 (.tmp 399))⟩,
 ⟨(some 401),none,(.bin .add (.tmp 400) (.const (.int .i64 1)))⟩,
 ⟨(some 402),none,(.nck (.tmp 396))⟩,
 ⟨(some 403),none,(.fad 0 true 22 (.tmp 402))⟩,
 ⟨(some 404),none,(.fad 0 false 1 (.tmp 403))⟩,
 ⟨none,none,(.sto false 1 (.tmp 404) (.tmp 401))⟩]))
 (.seq
 (.ops [
 ⟨(some 406),none,(.bin .eql (.tmp 92) (.const (.int .i64 26)))⟩,
 ⟨(some 405),none,(.mv (.tmp 406))⟩])
 (.cond (.tmp 405)
 (.ops [
 ⟨(some 407),none,(.mv (.tmp 0))⟩,
 ⟨(some 408),none,(.nck (.tmp 407))⟩,
 ⟨(some 409),none,(.fad 0 true 22 (.tmp 408))⟩,
 ⟨(some 410),none,(.fad 21 false 1 (.tmp 409))⟩,
 ⟨none,none,(.sto false 1 (.tmp 410) (.const (.int .i64 1)))⟩])
 (.seq
 (.par true (.one ⟨(some 94),none,(.fad 0 false 1 (.tmp 2))⟩ (.one ⟨(some 95),none,(.ld false 1 (.tmp 94))⟩ (.one ⟨(some 96),none,(.mv (.tmp 0))⟩ (.one ⟨(some 97),none,(.fad 2 false 1 (.tmp 2))⟩ (.one ⟨(some 98),none,(.ld false 1 (.tmp 97))⟩ (.one ⟨(some 99),none,(.nck (.tmp 96))⟩ (.one ⟨(some 100),none,(.fad 0 true 22 (.tmp 99))⟩ (.one ⟨(some 101),none,(.fad 1 true 16 (.tmp 100))⟩ (.one ⟨(some 102),none,(.aidx 16 false 1 (.tmp 101) (.tmp 98))⟩ (.one ⟨(some 103),none,(.ld false 1 (.tmp 102))⟩ (.one ⟨(some 104),none,(.mv (.tmp 0))⟩ (.one ⟨(some 105),none,(.fad 3 false 1 (.tmp 2))⟩ (.one ⟨(some 106),none,(.ld false 1 (.tmp 105))⟩ (.one ⟨(some 107),none,(.nck (.tmp 104))⟩ (.one ⟨(some 108),none,(.fad 0 true 22 (.tmp 107))⟩ (.one ⟨(some 109),none,(.fad 1 true 16 (.tmp 108))⟩ (.one ⟨(some 110),none,(.aidx 16 false 1 (.tmp 109) (.tmp 106))⟩ (.one ⟨(some 111),none,(.ld false 1 (.tmp 110))⟩ (.one ⟨(some 112),none,(.call (.func 36) [(.tmp 95),(.tmp 103),(.tmp 111)])⟩ (.one ⟨(some 93),none,(.mv (.tmp 112))⟩ (.one ⟨(some 113),none,(.ext (.tmp 93) 0)⟩ (.one ⟨(some 114),none,(.ext (.tmp 93) 1)⟩ (.one ⟨(some 9),none,(.mv (.tmp 113))⟩ (.one ⟨(some 10),none,(.mv (.tmp 114))⟩ .done)))))))))))))))))))))))))
 (.seq
 (.seq
 (.ops [
 ⟨(some 115),none,(.mv (.tmp 10))⟩,
 ⟨(some 116),none,(.bin .neq (.tmp 115) (.const (.int .i64 0)))⟩])
 (.cond (.tmp 116)
 (.seq
 (.ops [
 ⟨(some 117),none,(.mv (.tmp 0))⟩,
 ⟨(some 118),none,(.nck (.tmp 117))⟩,
 ⟨(some 119),none,(.fad 0 true 22 (.tmp 118))⟩,
 ⟨(some 120),none,(.fad 21 false 1 (.tmp 119))⟩,
 ⟨none,none,(.sto false 1 (.tmp 120) (.const (.int .i64 2)))⟩])
 .ret)
 .skip))
 (.ops [
 ⟨(some 121),none,(.mv (.tmp 0))⟩,
 ⟨(some 122),none,(.fad 1 false 1 (.tmp 2))⟩,
 ⟨(some 123),none,(.ld false 1 (.tmp 122))⟩,
 ⟨(some 124),none,(.mv (.tmp 9))⟩,
 ⟨(some 125),none,(.call (.func 88) [(.tmp 121),(.tmp 123),(.tmp 124)])⟩])))))))))))))))))))))))))))))))))))))))
theorem s_scref10_work_step:compFq Try.prog false true 80=some (411,r_scref10_work_step,[]):=by kernel_rfl
def t_scref10_run:VC :=
 (.seq
 (.seq
 (.ops [
 ⟨(some 14),none,(.mv (.const (.int .i64 0)))⟩])
 (.block 0
 (.loop
 (.seq
 (.seq
 (.ops [
 ⟨(some 49),none,(.mv (.tmp 14))⟩,
 ⟨(some 50),none,(.mv (.tmp 3))⟩,
 ⟨(some 51),none,(.bin .lss (.tmp 49) (.tmp 50))⟩,
 ⟨(some 52),none,(.mv (.tmp 51))⟩,
 ⟨(some 53),(some (52,true)),(.fad 0 true 22 (.tmp 13))⟩,
 ⟨(some 54),(some (52,true)),(.fad 21 false 1 (.tmp 53))⟩,
 ⟨(some 55),(some (52,true)),(.ld false 1 (.tmp 54))⟩,
 ⟨(some 56),(some (52,true)),(.bin .eql (.tmp 55) (.const (.int .i64 0)))⟩,
 ⟨(some 57),none,(.pick (.tmp 52) (.tmp 56) (.const (.bool false)))⟩])
 (.cond (.tmp 57)
 .skip
 (.exit 0)))
 (.seq
 (.block 1
 (.ops [
 ⟨(some 60),none,(.call (.func 80) [(.tmp 13)])⟩]))
 (.ops [
 ⟨(some 58),none,(.mv (.tmp 14))⟩,
 ⟨(some 59),none,(.bin .add (.tmp 58) (.const (.int .i64 1)))⟩,
 ⟨(some 14),none,(.mv (.tmp 59))⟩]))))))
 (.seq
 (.ops [
 ⟨(some 61),none,(.fad 22 false 1 (.tmp 13))⟩,
 ⟨(some 62),none,(.ld false 1 (.tmp 61))⟩,
 ⟨(some 63),none,(.see .b2s [(.tmp 62)])⟩,
 ⟨(some 64),none,(.fad 0 true 22 (.tmp 13))⟩,
 ⟨(some 65),none,(.fad 19 false 1 (.tmp 64))⟩,
 ⟨none,none,(.sto false 1 (.tmp 65) (.tmp 63))⟩])
 (.seq
 (.par false (.one ⟨(some 66),none,(.fad 0 true 22 (.tmp 13))⟩ (.one ⟨(some 67),none,(.ld true 22 (.tmp 66))⟩ (.one ⟨(some 68),none,(.fad 27 false 1 (.tmp 13))⟩ (.both (.one ⟨(some 69),none,(.ld false 1 (.tmp 68))⟩ (.one ⟨none,none,(.sto true 22 (.tmp 8) (.tmp 67))⟩ (.one ⟨(some 9),none,(.mv (.tmp 69))⟩ .done))) (.one ⟨none,none,(.sto true 22 (.tmp 8) (.tmp 67))⟩ (.one ⟨(some 69),none,(.ld false 1 (.tmp 68))⟩ (.one ⟨(some 9),none,(.mv (.tmp 69))⟩ .done))))))))
 .ret)))
def g_scref10_run:VC :=
 (.seq
 (.ops [
 ⟨(some 4),none,(.box 38 (.tmp 0))⟩,
 ⟨(some 6),none,(.box 91 (.tmp 2))⟩,
 ⟨(some 8),none,(.alc 91 [(.int .i64 0),(.int .u32 0),(.int .u32 0),(.int .u32 0),(.int .u32 0),(.int .u32 0),(.int .u32 0),(.int .u32 0),(.int .u32 0),(.int .u32 0),(.int .u32 0),(.int .u32 0),(.int .u32 0),(.int .u32 0),(.int .u32 0),(.int .u32 0),(.int .u32 0),(.slice none 0 0),(.int .i64 0),(.string ⟨#[]⟩),(.int .i64 0),(.int .i64 0)])⟩,
 ⟨(some 9),none,(.mv (.const (.slice none 0 0)))⟩])
 (.seq
 (.ops [
 ⟨(some 16),none,(.ld true 2 (.tmp 4))⟩,
 ⟨(some 17),none,(.call (.func 79) [(.tmp 16)])⟩,
 ⟨(some 15),none,(.mv (.tmp 17))⟩,
 ⟨(some 18),none,(.ext (.tmp 15) 0)⟩,
 ⟨(some 19),none,(.ext (.tmp 15) 1)⟩,
 ⟨(some 10),none,(.mv (.tmp 18))⟩,
 ⟨(some 11),none,(.mv (.tmp 19))⟩])
 (.seq
 (.par true (.one ⟨(some 20),none,(.fad 0 false 1 (.tmp 6))⟩ (.one ⟨(some 21),none,(.ld false 1 (.tmp 20))⟩ (.one ⟨(some 22),none,(.fad 1 true 16 (.tmp 6))⟩ (.one ⟨(some 23),none,(.ld true 16 (.tmp 22))⟩ (.one ⟨(some 25),none,(.fad 17 false 1 (.tmp 6))⟩ (.one ⟨(some 26),none,(.ld false 1 (.tmp 25))⟩ (.one ⟨(some 28),none,(.fad 18 false 1 (.tmp 6))⟩ (.one ⟨(some 29),none,(.ld false 1 (.tmp 28))⟩ (.one ⟨(some 30),none,(.fad 20 false 1 (.tmp 6))⟩ (.one ⟨(some 31),none,(.ld false 1 (.tmp 30))⟩ (.one ⟨(some 32),none,(.fad 21 false 1 (.tmp 6))⟩ (.one ⟨(some 33),none,(.ld false 1 (.tmp 32))⟩ (.both (.one ⟨(some 24),none,(.bsl 30 1 0 [] [])⟩ (.both (.one ⟨(some 27),none,(.app 30 1 4 (.tmp 24) (.tmp 26))⟩ (.one ⟨(some 34),none,(.bld [(.int .i64 0),(.int .u32 0),(.int .u32 0),(.int .u32 0),(.int .u32 0),(.int .u32 0),(.int .u32 0),(.int .u32 0),(.int .u32 0),(.int .u32 0),(.int .u32 0),(.int .u32 0),(.int .u32 0),(.int .u32 0),(.int .u32 0),(.int .u32 0),(.int .u32 0),(.slice none 0 0),(.int .i64 0),(.string ⟨#[]⟩),(.int .i64 0),(.int .i64 0)] [(0,(1,(.tmp 21))),(1,(16,(.tmp 23))),(17,(1,(.tmp 27))),(18,(1,(.tmp 29))),(20,(1,(.tmp 31))),(21,(1,(.tmp 33)))])⟩ (.one ⟨(some 12),none,(.alc 91 [(.int .i64 0),(.int .u32 0),(.int .u32 0),(.int .u32 0),(.int .u32 0),(.int .u32 0),(.int .u32 0),(.int .u32 0),(.int .u32 0),(.int .u32 0),(.int .u32 0),(.int .u32 0),(.int .u32 0),(.int .u32 0),(.int .u32 0),(.int .u32 0),(.int .u32 0),(.slice none 0 0),(.int .i64 0),(.string ⟨#[]⟩),(.int .i64 0),(.int .i64 0)])⟩ (.one ⟨none,none,(.sto true 22 (.tmp 12) (.tmp 34))⟩ .done)))) (.one ⟨(some 12),none,(.alc 91 [(.int .i64 0),(.int .u32 0),(.int .u32 0),(.int .u32 0),(.int .u32 0),(.int .u32 0),(.int .u32 0),(.int .u32 0),(.int .u32 0),(.int .u32 0),(.int .u32 0),(.int .u32 0),(.int .u32 0),(.int .u32 0),(.int .u32 0),(.int .u32 0),(.int .u32 0),(.slice none 0 0),(.int .i64 0),(.string ⟨#[]⟩),(.int .i64 0),(.int .i64 0)])⟩ (.one ⟨(some 27),none,(.app 30 1 4 (.tmp 24) (.tmp 26))⟩ (.one ⟨(some 34),none,(.bld [(.int .i64 0),(.int .u32 0),(.int .u32 0),(.int .u32 0),(.int .u32 0),(.int .u32 0),(.int .u32 0),(.int .u32 0),(.int .u32 0),(.int .u32 0),(.int .u32 0),(.int .u32 0),(.int .u32 0),(.int .u32 0),(.int .u32 0),(.int .u32 0),(.int .u32 0),(.slice none 0 0),(.int .i64 0),(.string ⟨#[]⟩),(.int .i64 0),(.int .i64 0)] [(0,(1,(.tmp 21))),(1,(16,(.tmp 23))),(17,(1,(.tmp 27))),(18,(1,(.tmp 29))),(20,(1,(.tmp 31))),(21,(1,(.tmp 33)))])⟩ (.one ⟨none,none,(.sto true 22 (.tmp 12) (.tmp 34))⟩ .done)))))) (.one ⟨(some 12),none,(.alc 91 [(.int .i64 0),(.int .u32 0),(.int .u32 0),(.int .u32 0),(.int .u32 0),(.int .u32 0),(.int .u32 0),(.int .u32 0),(.int .u32 0),(.int .u32 0),(.int .u32 0),(.int .u32 0),(.int .u32 0),(.int .u32 0),(.int .u32 0),(.int .u32 0),(.int .u32 0),(.slice none 0 0),(.int .i64 0),(.string ⟨#[]⟩),(.int .i64 0),(.int .i64 0)])⟩ (.one ⟨(some 24),none,(.bsl 30 1 0 [] [])⟩ (.one ⟨(some 27),none,(.app 30 1 4 (.tmp 24) (.tmp 26))⟩ (.one ⟨(some 34),none,(.bld [(.int .i64 0),(.int .u32 0),(.int .u32 0),(.int .u32 0),(.int .u32 0),(.int .u32 0),(.int .u32 0),(.int .u32 0),(.int .u32 0),(.int .u32 0),(.int .u32 0),(.int .u32 0),(.int .u32 0),(.int .u32 0),(.int .u32 0),(.int .u32 0),(.int .u32 0),(.slice none 0 0),(.int .i64 0),(.string ⟨#[]⟩),(.int .i64 0),(.int .i64 0)] [(0,(1,(.tmp 21))),(1,(16,(.tmp 23))),(17,(1,(.tmp 27))),(18,(1,(.tmp 29))),(20,(1,(.tmp 31))),(21,(1,(.tmp 33)))])⟩ (.one ⟨none,none,(.sto true 22 (.tmp 12) (.tmp 34))⟩ .done)))))))))))))))))))
 (.seq
 (.par false (.one ⟨(some 35),none,(.ld true 22 (.tmp 12))⟩ (.one ⟨(some 36),none,(.fad 19 false 1 (.tmp 6))⟩ (.one ⟨(some 37),none,(.ld false 1 (.tmp 36))⟩ (.one ⟨(some 39),none,(.mv (.tmp 10))⟩ (.one ⟨(some 40),none,(.mv (.tmp 11))⟩ (.one ⟨(some 41),none,(.fad 0 false 1 (.tmp 4))⟩ (.one ⟨(some 42),none,(.ld false 1 (.tmp 41))⟩ (.one ⟨(some 43),none,(.mv (.tmp 1))⟩ (.one ⟨(some 44),none,(.fad 0 false 1 (.tmp 4))⟩ (.one ⟨(some 45),none,(.ld false 1 (.tmp 44))⟩ (.one ⟨(some 46),none,(.len (.tmp 45))⟩ (.both (.one ⟨(some 38),none,(.eff (.s2b 5) [(.tmp 37)])⟩ (.both (.one ⟨(some 47),none,(.mk 3 1 8 [(.int .i64 0)] (.tmp 46) (.tmp 46))⟩ (.one ⟨(some 48),none,(.bld [(.int .i64 0),(.int .u32 0),(.int .u32 0),(.int .u32 0),(.int .u32 0),(.int .u32 0),(.int .u32 0),(.int .u32 0),(.int .u32 0),(.int .u32 0),(.int .u32 0),(.int .u32 0),(.int .u32 0),(.int .u32 0),(.int .u32 0),(.int .u32 0),(.int .u32 0),(.slice none 0 0),(.int .i64 0),(.string ⟨#[]⟩),(.int .i64 0),(.int .i64 0),(.slice none 0 0),(.slice none 0 0),(.slice none 0 0),(.slice none 0 0),(.string ⟨#[]⟩),(.slice none 0 0)] [(0,(22,(.tmp 35))),(22,(1,(.tmp 38))),(23,(1,(.tmp 39))),(24,(1,(.tmp 40))),(25,(1,(.tmp 42))),(26,(1,(.tmp 43))),(27,(1,(.tmp 47)))])⟩ (.one ⟨(some 13),none,(.alc 140 [(.int .i64 0),(.int .u32 0),(.int .u32 0),(.int .u32 0),(.int .u32 0),(.int .u32 0),(.int .u32 0),(.int .u32 0),(.int .u32 0),(.int .u32 0),(.int .u32 0),(.int .u32 0),(.int .u32 0),(.int .u32 0),(.int .u32 0),(.int .u32 0),(.int .u32 0),(.slice none 0 0),(.int .i64 0),(.string ⟨#[]⟩),(.int .i64 0),(.int .i64 0),(.slice none 0 0),(.slice none 0 0),(.slice none 0 0),(.slice none 0 0),(.string ⟨#[]⟩),(.slice none 0 0)])⟩ (.one ⟨none,none,(.sto true 28 (.tmp 13) (.tmp 48))⟩ .done)))) (.one ⟨(some 13),none,(.alc 140 [(.int .i64 0),(.int .u32 0),(.int .u32 0),(.int .u32 0),(.int .u32 0),(.int .u32 0),(.int .u32 0),(.int .u32 0),(.int .u32 0),(.int .u32 0),(.int .u32 0),(.int .u32 0),(.int .u32 0),(.int .u32 0),(.int .u32 0),(.int .u32 0),(.int .u32 0),(.slice none 0 0),(.int .i64 0),(.string ⟨#[]⟩),(.int .i64 0),(.int .i64 0),(.slice none 0 0),(.slice none 0 0),(.slice none 0 0),(.slice none 0 0),(.string ⟨#[]⟩),(.slice none 0 0)])⟩ (.one ⟨(some 47),none,(.mk 3 1 8 [(.int .i64 0)] (.tmp 46) (.tmp 46))⟩ (.one ⟨(some 48),none,(.bld [(.int .i64 0),(.int .u32 0),(.int .u32 0),(.int .u32 0),(.int .u32 0),(.int .u32 0),(.int .u32 0),(.int .u32 0),(.int .u32 0),(.int .u32 0),(.int .u32 0),(.int .u32 0),(.int .u32 0),(.int .u32 0),(.int .u32 0),(.int .u32 0),(.int .u32 0),(.slice none 0 0),(.int .i64 0),(.string ⟨#[]⟩),(.int .i64 0),(.int .i64 0),(.slice none 0 0),(.slice none 0 0),(.slice none 0 0),(.slice none 0 0),(.string ⟨#[]⟩),(.slice none 0 0)] [(0,(22,(.tmp 35))),(22,(1,(.tmp 38))),(23,(1,(.tmp 39))),(24,(1,(.tmp 40))),(25,(1,(.tmp 42))),(26,(1,(.tmp 43))),(27,(1,(.tmp 47)))])⟩ (.one ⟨none,none,(.sto true 28 (.tmp 13) (.tmp 48))⟩ .done)))))) (.both (.one ⟨(some 47),none,(.mk 3 1 8 [(.int .i64 0)] (.tmp 46) (.tmp 46))⟩ (.both (.one ⟨(some 38),none,(.eff (.s2b 5) [(.tmp 37)])⟩ (.one ⟨(some 48),none,(.bld [(.int .i64 0),(.int .u32 0),(.int .u32 0),(.int .u32 0),(.int .u32 0),(.int .u32 0),(.int .u32 0),(.int .u32 0),(.int .u32 0),(.int .u32 0),(.int .u32 0),(.int .u32 0),(.int .u32 0),(.int .u32 0),(.int .u32 0),(.int .u32 0),(.int .u32 0),(.slice none 0 0),(.int .i64 0),(.string ⟨#[]⟩),(.int .i64 0),(.int .i64 0),(.slice none 0 0),(.slice none 0 0),(.slice none 0 0),(.slice none 0 0),(.string ⟨#[]⟩),(.slice none 0 0)] [(0,(22,(.tmp 35))),(22,(1,(.tmp 38))),(23,(1,(.tmp 39))),(24,(1,(.tmp 40))),(25,(1,(.tmp 42))),(26,(1,(.tmp 43))),(27,(1,(.tmp 47)))])⟩ (.one ⟨(some 13),none,(.alc 140 [(.int .i64 0),(.int .u32 0),(.int .u32 0),(.int .u32 0),(.int .u32 0),(.int .u32 0),(.int .u32 0),(.int .u32 0),(.int .u32 0),(.int .u32 0),(.int .u32 0),(.int .u32 0),(.int .u32 0),(.int .u32 0),(.int .u32 0),(.int .u32 0),(.int .u32 0),(.slice none 0 0),(.int .i64 0),(.string ⟨#[]⟩),(.int .i64 0),(.int .i64 0),(.slice none 0 0),(.slice none 0 0),(.slice none 0 0),(.slice none 0 0),(.string ⟨#[]⟩),(.slice none 0 0)])⟩ (.one ⟨none,none,(.sto true 28 (.tmp 13) (.tmp 48))⟩ .done)))) (.one ⟨(some 13),none,(.alc 140 [(.int .i64 0),(.int .u32 0),(.int .u32 0),(.int .u32 0),(.int .u32 0),(.int .u32 0),(.int .u32 0),(.int .u32 0),(.int .u32 0),(.int .u32 0),(.int .u32 0),(.int .u32 0),(.int .u32 0),(.int .u32 0),(.int .u32 0),(.int .u32 0),(.int .u32 0),(.slice none 0 0),(.int .i64 0),(.string ⟨#[]⟩),(.int .i64 0),(.int .i64 0),(.slice none 0 0),(.slice none 0 0),(.slice none 0 0),(.slice none 0 0),(.string ⟨#[]⟩),(.slice none 0 0)])⟩ (.one ⟨(some 38),none,(.eff (.s2b 5) [(.tmp 37)])⟩ (.one ⟨(some 48),none,(.bld [(.int .i64 0),(.int .u32 0),(.int .u32 0),(.int .u32 0),(.int .u32 0),(.int .u32 0),(.int .u32 0),(.int .u32 0),(.int .u32 0),(.int .u32 0),(.int .u32 0),(.int .u32 0),(.int .u32 0),(.int .u32 0),(.int .u32 0),(.int .u32 0),(.int .u32 0),(.slice none 0 0),(.int .i64 0),(.string ⟨#[]⟩),(.int .i64 0),(.int .i64 0),(.slice none 0 0),(.slice none 0 0),(.slice none 0 0),(.slice none 0 0),(.string ⟨#[]⟩),(.slice none 0 0)] [(0,(22,(.tmp 35))),(22,(1,(.tmp 38))),(23,(1,(.tmp 39))),(24,(1,(.tmp 40))),(25,(1,(.tmp 42))),(26,(1,(.tmp 43))),(27,(1,(.tmp 47)))])⟩ (.one ⟨none,none,(.sto true 28 (.tmp 13) (.tmp 48))⟩ .done)))))) (.one ⟨(some 13),none,(.alc 140 [(.int .i64 0),(.int .u32 0),(.int .u32 0),(.int .u32 0),(.int .u32 0),(.int .u32 0),(.int .u32 0),(.int .u32 0),(.int .u32 0),(.int .u32 0),(.int .u32 0),(.int .u32 0),(.int .u32 0),(.int .u32 0),(.int .u32 0),(.int .u32 0),(.int .u32 0),(.slice none 0 0),(.int .i64 0),(.string ⟨#[]⟩),(.int .i64 0),(.int .i64 0),(.slice none 0 0),(.slice none 0 0),(.slice none 0 0),(.slice none 0 0),(.string ⟨#[]⟩),(.slice none 0 0)])⟩ (.both (.one ⟨(some 38),none,(.eff (.s2b 5) [(.tmp 37)])⟩ (.one ⟨(some 47),none,(.mk 3 1 8 [(.int .i64 0)] (.tmp 46) (.tmp 46))⟩ (.one ⟨(some 48),none,(.bld [(.int .i64 0),(.int .u32 0),(.int .u32 0),(.int .u32 0),(.int .u32 0),(.int .u32 0),(.int .u32 0),(.int .u32 0),(.int .u32 0),(.int .u32 0),(.int .u32 0),(.int .u32 0),(.int .u32 0),(.int .u32 0),(.int .u32 0),(.int .u32 0),(.int .u32 0),(.slice none 0 0),(.int .i64 0),(.string ⟨#[]⟩),(.int .i64 0),(.int .i64 0),(.slice none 0 0),(.slice none 0 0),(.slice none 0 0),(.slice none 0 0),(.string ⟨#[]⟩),(.slice none 0 0)] [(0,(22,(.tmp 35))),(22,(1,(.tmp 38))),(23,(1,(.tmp 39))),(24,(1,(.tmp 40))),(25,(1,(.tmp 42))),(26,(1,(.tmp 43))),(27,(1,(.tmp 47)))])⟩ (.one ⟨none,none,(.sto true 28 (.tmp 13) (.tmp 48))⟩ .done)))) (.one ⟨(some 47),none,(.mk 3 1 8 [(.int .i64 0)] (.tmp 46) (.tmp 46))⟩ (.one ⟨(some 38),none,(.eff (.s2b 5) [(.tmp 37)])⟩ (.one ⟨(some 48),none,(.bld [(.int .i64 0),(.int .u32 0),(.int .u32 0),(.int .u32 0),(.int .u32 0),(.int .u32 0),(.int .u32 0),(.int .u32 0),(.int .u32 0),(.int .u32 0),(.int .u32 0),(.int .u32 0),(.int .u32 0),(.int .u32 0),(.int .u32 0),(.int .u32 0),(.int .u32 0),(.slice none 0 0),(.int .i64 0),(.string ⟨#[]⟩),(.int .i64 0),(.int .i64 0),(.slice none 0 0),(.slice none 0 0),(.slice none 0 0),(.slice none 0 0),(.string ⟨#[]⟩),(.slice none 0 0)] [(0,(22,(.tmp 35))),(22,(1,(.tmp 38))),(23,(1,(.tmp 39))),(24,(1,(.tmp 40))),(25,(1,(.tmp 42))),(26,(1,(.tmp 43))),(27,(1,(.tmp 47)))])⟩ (.one ⟨none,none,(.sto true 28 (.tmp 13) (.tmp 48))⟩ .done))))))))))))))))))))
 t_scref10_run))))
theorem e_scref10_run:compF Try.prog 44=some (70,g_scref10_run,[(.cell 8 true 22),(.tmp 9)]):=by kernel_rfl
set_option maxRecDepth 10000
open Go.V
def WAt (code:List Int) (inp:ByteArray) (H:List VObj) (w sw:Nat) (ρ:S) (so:ByteArray) (cnt:List Int):Prop :=
 ∃ m sm o s1 c sc,H[w]? = some (wkO sw (wkc ρ.pc ρ.reg (.ref m sm 0 ρ.mem.length) ρ.rd so ρ.st ρ.fin (.ref o s1 0 ρ.out.size) (insL code) (okL code) (words code) inp (.ref c sc 0 code.length))) ∧
  H[m]? = some ⟨sm,30,1,ρ.mem.map U32⟩∧H[o]? = some ⟨s1,5,1,ρ.out.data.toList.map U8⟩∧H[c]? = some ⟨sc,3,1,cnt.map I⟩∧cnt.length=code.length
theorem wput {code:List Int} {inp:ByteArray} {H:List VObj} {w sw m sm o s1 c sc:Nat} {mem:List Int} {out so:ByteArray} {cnt:List Int} {pc:Int} {f:Nat→Int} {rd st fin:Int} (hlt:w<H.length) (hm:H[m]? = some ⟨sm,30,1,mem.map U32⟩)
 (ho:H[o]? = some ⟨s1,5,1,out.data.toList.map U8⟩) (hc:H[c]? = some ⟨sc,3,1,cnt.map I⟩) (nm:w≠m) (no:w≠o) (nc:w≠c) (hl:cnt.length=code.length) :
 WAt code inp (H.set w (wkO sw (wkc pc f (.ref m sm 0 mem.length) rd so st fin (.ref o s1 0 out.size) (insL code) (okL code) (words code) inp (.ref c sc 0 code.length)))) w sw ⟨pc,f,mem,rd,out,st,fin⟩ so cnt :=
 ⟨m,sm,o,s1,c,sc,by rw[List.getElem?_set,if_pos rfl,if_pos hlt],by rw[List.getElem?_set,if_neg nm];exact hm,by rw[List.getElem?_set,if_neg no];exact ho,by rw[List.getElem?_set,if_neg nc];exact hc,hl⟩
def KeepS (H H':List VObj):Prop:=∀ (id:Nat) (ob:VObj),H[id]? = some ob→ob.ty=91→H'[id]? = some ob
def cntS (code:List Int) (ρ:S) (cnt:List Int):List Int:=if doneF code ρ=true then cnt.set ρ.pc.toNat (cnt.getD ρ.pc.toNat default+1) else cnt
set_option maxHeartbeats 2000000 in
theorem wstep_v (code:List Int) (inp:ByteArray) (ρ:S) (so:ByteArray) (cnt:List Int) (H:List VObj) (nx w sw:Nat) (C:AV→List VObj→Nat→Prop)
 (hcode:∀ x ∈ code,In32 x) (hcl:code.length≤1000000) (hi:inp.size≤1000000000) (hws:Wf ρ) (hl:ρ.mem.length≤1000000) (hol:ρ.out.size≤1000000) (hf0:ρ.fin=0) (hcb:∀ x ∈ cnt,0≤x∧x≤4000000000000000000)
 (hA:WAt code inp H w sw ρ so cnt) (hC:∀ r H' nx',KeepS H H'→WAt code inp H' w sw (stepF code inp ρ) so (cntS code ρ cnt)→C r H' nx') :
 VCall Try.prog 80 [.ptr w sw 0] H nx C:=by
 refine VCall.of_bodyQ hmix s_scref10_work_step (by simp) ?_
 obtain ⟨pc,f,mem,rd,out,st,fin⟩:=ρ
 simp only at hf0 hl hol
 subst hf0
 have hf:∀ k,In32 (f k):=hws.reg
 obtain ⟨m,sm,o,s1,c,sc,hw,hm,ho,hc,hcc⟩:=hA
 simp only at hw hm ho
 have hlt:=(List.getElem?_eq_some_iff.1 hw).1
 have nm:w≠m:=fun e=>by rw[← e,hw]at hm;simp at hm
 have no:w≠o:=fun e=>by rw[← e,hw]at ho;simp at ho
 have nc:w≠c:=fun e=>by rw[← e,hw]at hc;simp at hc
 have ncm:c≠m:=fun e=>by rw[← e,hc]at hm;simp at hm
 have nco:c≠o:=fun e=>by rw[← e,hc]at ho;simp at ho
 have nmo:m≠o:=fun e=>by rw[← e,hm]at ho;simp at ho
 have hclt:=(List.getElem?_eq_some_iff.1 hc).1
 have kA:∀ (id:Nat) (ob:VObj),H[id]? = some ob→ob.ty=91→id≠w∧id≠m∧id≠o∧id≠c∧id<H.length:=fun id ob h1 h2=>by
  refine ⟨fun e=>?_,fun e=>?_,fun e=>?_,fun e=>?_,(List.getElem?_eq_some_iff.1 h1).1⟩
  ·rw[e,hw]at h1;cases h1;simp at h2
  ·rw[e,hm]at h1;cases h1;simp at h2
  ·rw[e,ho]at h1;cases h1;simp at h2
  ·rw[e,hc]at h1;cases h1;simp at h2
 have kp0:∀ y,KeepS H (H.set w y):=fun y id ob h1 h2=>by
  rw[List.getElem?_set,if_neg (fun e=>(kA id ob h1 h2).1 e.symm)];exact h1
 have gA:∀ a,(H.set w a)[w]? = some a:=fun a=>by rw[List.getElem?_set,if_pos rfl,if_pos hlt]
 have hcdl:((code.map insC).map AV.agg).length=code.length:=by simp
 by_cases h2:pc<0
 ·have e1:stepF code inp ⟨pc,f,mem,rd,out,st,0⟩=⟨pc,f,mem,rd,out,st,7⟩:=by unfold stepF;rw[if_pos rfl,if_pos (.inl h2)]
  have e2:doneF code ⟨pc,f,mem,rd,out,st,0⟩=false:=by simp[doneF];omega
  simp only[go_sem,r_scref10_work_step,hw,gA,wkc_length,k_pc,k_cd,k_fin,ks_fin,eq_true h2]
  repeat (refine And.intro (by omega) ?_)
  refine hC _ _ _ (kp0 _) ?_
  rw[e1,cntS,if_neg (by rw[e2];simp)]
  exact wput hlt hm ho hc nm no nc hcc
 by_cases h3:(code.length:Int)≤pc
 ·have e1:stepF code inp ⟨pc,f,mem,rd,out,st,0⟩=⟨pc,f,mem,rd,out,st,7⟩:=by unfold stepF;rw[if_pos rfl,if_pos (.inr h3)]
  have e2:doneF code ⟨pc,f,mem,rd,out,st,0⟩=false:=by simp[doneF];omega
  simp only[go_sem,r_scref10_work_step,hw,gA,wkc_length,k_pc,k_cd,k_fin,ks_fin,hcdl,eq_false h2,eq_true h3]
  repeat (refine And.intro (by omega) ?_)
  refine hC _ _ _ (kp0 _) ?_
  rw[e1,cntS,if_neg (by rw[e2];simp)]
  exact wput hlt hm ho hc nm no nc hcc
 have e2:doneF code ⟨pc,f,mem,rd,out,st,0⟩=true:=by simp[doneF];omega
 obtain ⟨W,hW⟩:∃ W,code.getD pc.toNat default=W:=⟨_,rfl⟩
 have hpl:pc.toNat<code.length:=by omega
 have hW32:In32 W:=by
  rw[← hW];exact hcode _ (mem_getD (by omega))
 obtain ⟨t,ht⟩:∃ t,IntKind.i64.wrap (st+1)=t:=⟨_,rfl⟩
 have e1:stepF code inp ⟨pc,f,mem,rd,out,st,0⟩=wordF code inp ⟨pc,f,mem,rd,out,t,0⟩ W:=by unfold stepF;rw[if_pos rfl,if_neg (fun q=>q.elim h2 h3),hW,← ht]
 obtain ⟨x,hx⟩:∃ x,cnt.getD pc.toNat default=x:=⟨_,rfl⟩
 have hxb:0≤x∧x≤4000000000000000000:=by
  rw[← hx,List.getD_eq_getElem?_getD,List.getElem?_eq_getElem (by omega)]
  exact hcb _ (List.getElem_mem _)
 have hxw:IntKind.i64.wrap (x+1)=x+1:=i64_in (by omega) (by omega)
 have e5:cntS code ⟨pc,f,mem,rd,out,st,0⟩ cnt=cnt.set pc.toNat (x+1):=by rw[cntS,if_pos e2,hx]
 have hgi:(code.map insC).getD pc.toNat default=insC W:=by
  rw[List.getD_eq_getElem?_getD,List.getElem?_map,List.getElem?_eq_getElem hpl,← hW,List.getD_eq_getElem?_getD,List.getElem?_eq_getElem hpl];rfl
 have hgo:(code.map fun w=>B (okW w)).getD pc.toNat default=B (okW W):=by
  rw[List.getD_eq_getElem?_getD,List.getElem?_map,List.getElem?_eq_getElem hpl,← hW,List.getD_eq_getElem?_getD,List.getElem?_eq_getElem hpl];rfl
 have gB:∀ a,(H.set w a)[c]? = some ⟨sc,3,1,cnt.map I⟩:=fun a=>by rw[List.getElem?_set,if_neg nc];exact hc
 have gC:∀ a b,((H.set w a).set c b)[w]? = some a:=fun a b=>by rw[List.getElem?_set,if_neg (fun e=>nc e.symm)];exact gA a
 have gD:∀ a b z,((H.set w a).set c b++[z])[w]? = some a:=fun a b z=>by rw[List.getElem?_append_left (by simp;omega)];exact gC a b
 have gE:∀ a b (z:VObj),((H.set w a).set c b++[z])[H.length]? = some z:=fun a b z=>by
  rw[List.getElem?_append_right (by simp)];simp
 have sE:∀ a b (z x:VObj),((H.set w a).set c b++[z]).set H.length x=(H.set w a).set c b++[x]:=fun a b z x=>by
  rw[List.set_append_right _ _ (by simp)];simp
 simp only[go_sem,r_scref10_work_step,hw,gA,gB,gC,gD,gE,sE,List.length_set,wkc_length,k_pc,k_st,k_cd,k_ct,ks_st,hcdl,cellT_I1,set_map,hcc,hx,hxw,ht,eq_false h2,eq_false h3,hgi,insC_len,eq_true hlt]
 repeat (refine And.intro (by omega) ?_)
 refine ⟨insC_one W,?_⟩
 rw[k_ok]
 refine ⟨rfl,?_⟩
 have hdr:insC W++List.drop (insC W).length [I 0,I 0,I 0,I 0]=insC W:=by
  rw[insC_len];exact List.append_nil _
 simp only[List.length_set,sE,set_map,ht,hxw,List.take_zero,List.nil_append,Nat.zero_add,hdr]
 have hw3:=gD (wkO sw (wkc pc f (.ref m sm 0 mem.length) rd so t 0 (.ref o s1 0 out.size) (insL code) (okL code) (words code) inp (.ref c sc 0 code.length))) ⟨sc,3,1,(cnt.set pc.toNat (x+1)).map I⟩ ⟨nx,86,1,insC W⟩
 have hi3:=gE (wkO sw (wkc pc f (.ref m sm 0 mem.length) rd so t 0 (.ref o s1 0 out.size) (insL code) (okL code) (words code) inp (.ref c sc 0 code.length))) ⟨sc,3,1,(cnt.set pc.toNat (x+1)).map I⟩ ⟨nx,86,1,insC W⟩
 have hm3:((H.set w (wkO sw (wkc pc f (.ref m sm 0 mem.length) rd so t 0 (.ref o s1 0 out.size) (insL code) (okL code) (words code) inp (.ref c sc 0 code.length)))).set c ⟨sc,3,1,(cnt.set pc.toNat (x+1)).map I⟩++[⟨nx,86,1,insC W⟩])[m]? = some ⟨sm,30,1,mem.map U32⟩:=by
  rw[List.getElem?_append_left (by simp;exact (List.getElem?_eq_some_iff.1 hm).1),List.getElem?_set,if_neg ncm,List.getElem?_set,if_neg nm];exact hm
 have ho3:((H.set w (wkO sw (wkc pc f (.ref m sm 0 mem.length) rd so t 0 (.ref o s1 0 out.size) (insL code) (okL code) (words code) inp (.ref c sc 0 code.length)))).set c ⟨sc,3,1,(cnt.set pc.toNat (x+1)).map I⟩++[⟨nx,86,1,insC W⟩])[o]? = some ⟨s1,5,1,out.data.toList.map U8⟩:=by
  rw[List.getElem?_append_left (by simp;exact (List.getElem?_eq_some_iff.1 ho).1),List.getElem?_set,if_neg nco,List.getElem?_set,if_neg no];exact ho
 have hc3:((H.set w (wkO sw (wkc pc f (.ref m sm 0 mem.length) rd so t 0 (.ref o s1 0 out.size) (insL code) (okL code) (words code) inp (.ref c sc 0 code.length)))).set c ⟨sc,3,1,(cnt.set pc.toNat (x+1)).map I⟩++[⟨nx,86,1,insC W⟩])[c]? = some ⟨sc,3,1,(cnt.set pc.toNat (x+1)).map I⟩:=by
  rw[List.getElem?_append_left (by simp;exact hclt),List.getElem?_set,if_pos rfl,if_pos (by simp;exact hclt)]
 have kB:KeepS H ((H.set w (wkO sw (wkc pc f (.ref m sm 0 mem.length) rd so t 0 (.ref o s1 0 out.size) (insL code) (okL code) (words code) inp (.ref c sc 0 code.length)))).set c ⟨sc,3,1,(cnt.set pc.toNat (x+1)).map I⟩++[⟨nx,86,1,insC W⟩]):=fun id ob h1 h2=>by
  obtain ⟨i1,i2,i3,i4,i5⟩:=kA id ob h1 h2
  rw[List.getElem?_append_left (by simp;exact i5),List.getElem?_set,if_neg (fun e=>i4 e.symm),List.getElem?_set,if_neg (fun e=>i1 e.symm)];exact h1
 clear gA gB gC gD gE sE hdr
 generalize (H.set w (wkO sw (wkc pc f (.ref m sm 0 mem.length) rd so t 0 (.ref o s1 0 out.size) (insL code) (okL code) (words code) inp (.ref c sc 0 code.length)))).set c ⟨sc,3,1,(cnt.set pc.toNat (x+1)).map I⟩++[⟨nx,86,1,insC W⟩]=H3 at *
 have nwi:w≠H.length:=by omega
 have nmi:m≠H.length:=by have:=(List.getElem?_eq_some_iff.1 hm).1;omega
 have noi:o≠H.length:=by have:=(List.getElem?_eq_some_iff.1 ho).1;omega
 generalize H.length=i at *
 clear hw hm ho hc hlt hclt
 have hlt3:=(List.getElem?_eq_some_iff.1 hw3).1
 have hilt:=(List.getElem?_eq_some_iff.1 hi3).1
 have hmlt:=(List.getElem?_eq_some_iff.1 hm3).1
 have kp:∀ y,KeepS H (H3.set w y):=fun y id ob h1 h2=>by
  rw[List.getElem?_set,if_neg (fun e=>(kA id ob h1 h2).1 e.symm)];exact kB id ob h1 h2
 have kp2:∀ y z,KeepS H ((H3.set m y).set w z):=fun y z id ob h1 h2=>by
  rw[List.getElem?_set,if_neg (fun e=>(kA id ob h1 h2).1 e.symm),List.getElem?_set,if_neg (fun e=>(kA id ob h1 h2).2.1 e.symm)];exact kB id ob h1 h2
 have kp3:∀ y z u,KeepS H (((H3++[y]).set o z).set w u):=fun y z u id ob h1 h2=>by
  have h3:=kB id ob h1 h2
  rw[List.getElem?_set,if_neg (fun e=>(kA id ob h1 h2).1 e.symm),List.getElem?_set,if_neg (fun e=>(kA id ob h1 h2).2.2.1 e.symm),List.getElem?_append_left (List.getElem?_eq_some_iff.1 h3).1];exact h3
 have gw:∀ y,(H3.set w y)[w]? = some y:=fun y=>by rw[List.getElem?_set,if_pos rfl,if_pos hlt3]
 have hc5:(cnt.set pc.toNat (x+1)).length=code.length:=by rw[List.length_set];exact hcc
 have hone:(wkc pc f (.ref m sm 0 mem.length) rd so t 0 (.ref o s1 0 out.size) (insL code) (okL code) (words code) inp (.ref c sc 0 code.length)).all AV.one=true:=by rw[wkc_all];rfl
 rw[e1,e5]at hC
 cases hok:okW W
 ·have e3:wordF code inp ⟨pc,f,mem,rd,out,t,0⟩ W=⟨pc,f,mem,rd,out,t,6⟩:=by unfold wordF;rw[hok];rfl
  rw[e3]at hC
  simp only[go_sem,hw3,gw,wkc_length,k_pc,k_ok,k_fin,ks_fin,hW,hok]
  repeat (refine And.intro (by omega) ?_)
  exact hC _ _ _ (kp _) (wput hlt3 hm3 ho3 hc3 nm no nc hc5)
 have e3:wordF code inp ⟨pc,f,mem,rd,out,t,0⟩ W=(if (insM code inp ⟨pc,f,mem,rd,out,t,0⟩ (opW W) (raW W) (rbW W) (kW W)).1=0 then (insM code inp ⟨pc,f,mem,rd,out,t,0⟩ (opW W) (raW W) (rbW W) (kW W)).2
  else { (insM code inp ⟨pc,f,mem,rd,out,t,0⟩ (opW W) (raW W) (rbW W) (kW W)).2 with fin:=(insM code inp ⟨pc,f,mem,rd,out,t,0⟩ (opW W) (raW W) (rbW W) (kW W)).1 }):=by
  unfold wordF;rw[hok,if_pos rfl]
 rw[e3]at hC
 have e4:insC W=[I (opW W),I (raW W),I (rbW W),I (kW W)]:=by unfold insC;rw[hok];rfl
 rw[e4]at hi3
 have hok':=okI_in hok
 clear e3 e1 hws hcode hcb
 generalize opW W=op at *
 generalize raW W=a at *
 generalize rbW W=b at *
 generalize kW W=k at *
 obtain ⟨g1,g2,ga1,ga2,gb1,gb2,gc1,gc2,gc⟩:=hok'
 have ja:a.toNat<16:=by omega
 have jb:b.toNat<16:=by omega
 have ec:IntKind.u32.wrap k=k:=w32_in ⟨by omega,by omega⟩
 have gi:∀ y,(H3.set w y)[i]? = some ⟨nx,86,1,[I op,I a,I b,I k]⟩:=fun y=>by rw[List.getElem?_set,if_neg nwi];exact hi3
 have hsl:(H3.set w (wkO sw (wkc pc f (.ref m sm 0 mem.length) rd so t 0 (.ref o s1 0 out.size) (insL code) (okL code) (words code) inp (.ref c sc 0 code.length))))=H3:=set_of_getR hw3
 have hfm:∀ (H':List VObj) (nx':Nat),(∀ id ob,CallA true H3.length id→H3[id]? = some ob→H'[id]? = some ob)→FrzL 0 H' nx' [.ref m sm 0 mem.length,U32 (f b.toNat),I k] [words mem,U32 (f b.toNat),I k]:=fun H' nx' hH=>by
  refine ⟨_,_,rfl,Frz.ref (Nat.zero_le _) (hH m _ ⟨rfl,hmlt⟩ hm3) rfl rfl ?_ ?_,_,_,rfl,Frz.pure rfl,_,_,rfl,Frz.pure rfl,rfl⟩
  ·rw[List.all_eq_true];intro y hy;obtain ⟨x,_,rfl⟩:=List.mem_map.1 hy;rfl
  ·rw[List.drop_zero,List.take_of_length_le (by simp)]
   exact FrzL.pure (by rw[List.all_eq_true];intro y hy;obtain ⟨x,_,rfl⟩:=List.mem_map.1 hy;rfl)
 by_cases hap:4≤op∧op≤15
 ·have hc15:k≤15:=gc (by unfold cK;rw[if_pos hap])
  have jc:k.toNat<16:=by omega
  have hins:insM code inp ⟨pc,f,mem,rd,out,t,0⟩ op a b k=(if (applyW op (f b.toNat) (f k.toNat)).2=0 then (0,setR ⟨pc,f,mem,rd,out,t,0⟩ a (applyW op (f b.toNat) (f k.toNat)).1) else (2,⟨pc,f,mem,rd,out,t,0⟩)):=by
   unfold insM
   iterate 15 rw [if_neg (by omega)]
  rw[hins]at hC
  simp only[go_sem,hw3,hi3,gw,gi,List.set_set,List.length_set,set_map,wkc_length,k_pc,k_mem,k_rd,k_st,k_fin,k_o,k_cd,k_ok,k_wd,k_in,k_ct,k_reg ja,k_reg jb,ks_pc,ks_reg ja,ks_mem,ks_rd,ks_st,ks_fin,ks_o,cellT_U32,ec,hW,hok,Int.reduceEq,Int.reduceBEq,k_reg jc,eq_true hlt3,eq_true hilt,eq_false (show ¬ op=1 by omega),eq_false (show ¬ op=2 by omega),eq_false (show ¬ op=3 by omega),eq_false (show ¬ op=16 by omega),eq_false (show ¬ op=17 by omega),eq_false (show ¬ op=18 by omega),eq_false (show ¬ op=19 by omega),eq_false (show ¬ op=20 by omega),eq_false (show ¬ op=21 by omega),eq_false (show ¬ op=22 by omega),eq_false (show ¬ op=23 by omega),eq_false (show ¬ op=24 by omega),eq_false (show ¬ op=25 by omega),eq_false (show ¬ op=26 by omega),eq_false (show ¬ op=27 by omega)]
  repeat (refine And.intro (by omega) ?_)
  refine ECall.of (refapply_c op (f b.toNat) (f k.toNat) (hf _) (hf _)) (SleL.pure rfl) ⟨_,fun _=>Iff.rfl⟩ fun x hx=>?_
  subst hx
  generalize applyW op (f b.toNat) (f k.toNat)=q at *
  by_cases hp:q.2=0
  ·rw[if_pos hp]at hC
   simp only[go_sem,hw3,hi3,gw,gi,List.set_set,List.length_set,set_map,wkc_length,k_pc,k_mem,k_rd,k_st,k_fin,k_o,k_cd,k_ok,k_wd,k_in,k_ct,k_reg ja,k_reg jb,ks_pc,ks_reg ja,ks_mem,ks_rd,ks_st,ks_fin,ks_o,cellT_U32,ec,hW,hok,Int.reduceEq,Int.reduceBEq,eq_true hp]
   repeat (refine And.intro (by omega) ?_)
   refine wset_v a q.1 ⟨ga1,ga2⟩ hw3 hone fun r=>?_
   simp only[go_sem]
   exact hC _ _ _ (kp _) (wput hlt3 hm3 ho3 hc3 nm no nc hc5)
  ·rw[if_neg hp]at hC
   simp only[go_sem,hw3,hi3,gw,gi,List.set_set,List.length_set,set_map,wkc_length,k_pc,k_mem,k_rd,k_st,k_fin,k_o,k_cd,k_ok,k_wd,k_in,k_ct,k_reg ja,k_reg jb,ks_pc,ks_reg ja,ks_mem,ks_rd,ks_st,ks_fin,ks_o,cellT_U32,ec,hW,hok,Int.reduceEq,Int.reduceBEq,eq_false hp]
   repeat (refine And.intro (by omega) ?_)
   exact hC _ _ _ (kp _) (wput hlt3 hm3 ho3 hc3 nm no nc hc5)
 have hcases:op=1∨op=2∨op=3∨op=16∨op=27∨op=17∨op=18∨op=19∨op=20∨op=21∨op=22∨op=23∨op=24∨op=25∨op=26:=by omega
 rcases hcases with rfl | rfl | rfl | rfl | rfl | rfl | rfl | rfl | rfl | rfl | rfl | rfl | rfl | rfl | rfl
 ·
  simp only[go_sem,hw3,hi3,gw,gi,List.set_set,List.length_set,set_map,wkc_length,k_pc,k_mem,k_rd,k_st,k_fin,k_o,k_cd,k_ok,k_wd,k_in,k_ct,k_reg ja,k_reg jb,ks_pc,ks_reg ja,ks_mem,ks_rd,ks_st,ks_fin,ks_o,cellT_U32,ec,hW,hok,Int.reduceEq,Int.reduceBEq]
  repeat (refine And.intro (by omega) ?_)
  refine wset_v a k ⟨ga1,ga2⟩ hw3 hone fun r=>?_
  simp only[go_sem]
  exact hC _ _ _ (kp _) (wput hlt3 hm3 ho3 hc3 nm no nc hc5)
 ·
  have hq:IntKind.u32.wrap ((f a.toNat).tmod 65536+IntKind.u32.wrap (k*65536))=f a.toNat % 65536+k*65536:=by
   have h0:=(hf a.toNat).1
   have h1:=(hf a.toNat).2
   rw[Int.tmod_eq_emod_of_nonneg h0,IntKind.wrap_u32,IntKind.wrap_u32];omega
  simp only[go_sem,hw3,hi3,gw,gi,List.set_set,List.length_set,set_map,wkc_length,k_pc,k_mem,k_rd,k_st,k_fin,k_o,k_cd,k_ok,k_wd,k_in,k_ct,k_reg ja,k_reg jb,ks_pc,ks_reg ja,ks_mem,ks_rd,ks_st,ks_fin,ks_o,cellT_U32,ec,hW,hok,Int.reduceEq,Int.reduceBEq,hq]
  repeat (refine And.intro (by omega) ?_)
  refine wset_v a (f a.toNat % 65536+k*65536) ⟨ga1,ga2⟩ hw3 hone fun r=>?_
  simp only[go_sem]
  exact hC _ _ _ (kp _) (wput hlt3 hm3 ho3 hc3 nm no nc hc5)
 ·
  simp only[go_sem,hw3,hi3,gw,gi,List.set_set,List.length_set,set_map,wkc_length,k_pc,k_mem,k_rd,k_st,k_fin,k_o,k_cd,k_ok,k_wd,k_in,k_ct,k_reg ja,k_reg jb,ks_pc,ks_reg ja,ks_mem,ks_rd,ks_st,ks_fin,ks_o,cellT_U32,ec,hW,hok,Int.reduceEq,Int.reduceBEq]
  repeat (refine And.intro (by omega) ?_)
  refine wset_v a (f b.toNat) ⟨ga1,ga2⟩ hw3 hone fun r=>?_
  simp only[go_sem]
  exact hC _ _ _ (kp _) (wput hlt3 hm3 ho3 hc3 nm no nc hc5)
 ·
  simp only[go_sem,hw3,hi3,gw,gi,List.set_set,List.length_set,set_map,wkc_length,k_pc,k_mem,k_rd,k_st,k_fin,k_o,k_cd,k_ok,k_wd,k_in,k_ct,k_reg ja,k_reg jb,ks_pc,ks_reg ja,ks_mem,ks_rd,ks_st,ks_fin,ks_o,cellT_U32,ec,hW,hok,Int.reduceEq,Int.reduceBEq,eq_true hlt3,eq_true hilt]
  repeat (refine And.intro (by omega) ?_)
  by_cases h:w32 (f b.toNat+k)<(mem.length:Int)
  ·have hins:insM code inp ⟨pc,f,mem,rd,out,t,0⟩ 16 a b k=(0,setR ⟨pc,f,mem,rd,out,t,0⟩ a (mem.getD (w32 (f b.toNat+k)).toNat default)):=if_pos h
   rw[hins]at hC
   have hfe:=fetchN_c mem (f b.toNat) k (hf _) ⟨gc1,gc2⟩ hl
   rw[if_pos h]at hfe
   refine ECall.ofN hfe hfm ⟨_,fun _=>Iff.rfl⟩ fun x hx=>?_
   subst hx
   simp only[go_sem,hw3,hi3,gw,gi,List.set_set,List.length_set,set_map,wkc_length,k_pc,k_mem,k_rd,k_st,k_fin,k_o,k_cd,k_ok,k_wd,k_in,k_ct,k_reg ja,k_reg jb,ks_pc,ks_reg ja,ks_mem,ks_rd,ks_st,ks_fin,ks_o,cellT_U32,ec,hW,hok,Int.reduceEq,Int.reduceBEq]
   repeat (refine And.intro (by omega) ?_)
   refine wset_v a (mem.getD (w32 (f b.toNat+k)).toNat default) ⟨ga1,ga2⟩ hw3 hone fun r=>?_
   simp only[go_sem]
   exact hC _ _ _ (kp _) (wput hlt3 hm3 ho3 hc3 nm no nc hc5)
  ·have hins:insM code inp ⟨pc,f,mem,rd,out,t,0⟩ 16 a b k=(8,⟨pc,f,mem,rd,out,t,0⟩):=if_neg h
   rw[hins]at hC
   have hfe:=fetchN_c mem (f b.toNat) k (hf _) ⟨gc1,gc2⟩ hl
   rw[if_neg h]at hfe
   refine ECall.ofN hfe hfm ⟨_,fun _=>Iff.rfl⟩ fun x hx=>?_
   subst hx
   simp only[go_sem,hw3,hi3,gw,gi,List.set_set,List.length_set,set_map,wkc_length,k_pc,k_mem,k_rd,k_st,k_fin,k_o,k_cd,k_ok,k_wd,k_in,k_ct,k_reg ja,k_reg jb,ks_pc,ks_reg ja,ks_mem,ks_rd,ks_st,ks_fin,ks_o,cellT_U32,ec,hW,hok,Int.reduceEq,Int.reduceBEq]
   repeat (refine And.intro (by omega) ?_)
   exact hC _ _ _ (kp _) (wput hlt3 hm3 ho3 hc3 nm no nc hc5)
 ·
  simp only[go_sem,hw3,hi3,gw,gi,List.set_set,List.length_set,set_map,wkc_length,k_pc,k_mem,k_rd,k_st,k_fin,k_o,k_cd,k_ok,k_wd,k_in,k_ct,k_reg ja,k_reg jb,ks_pc,ks_reg ja,ks_mem,ks_rd,ks_st,ks_fin,ks_o,cellT_U32,ec,hW,hok,Int.reduceEq,Int.reduceBEq,eq_true hlt3,eq_true hilt]
  repeat (refine And.intro (by omega) ?_)
  by_cases h:w32 (f b.toNat+k)<(code.length:Int)
  ·have hins:insM code inp ⟨pc,f,mem,rd,out,t,0⟩ 27 a b k=(0,setR ⟨pc,f,mem,rd,out,t,0⟩ a (code.getD (w32 (f b.toNat+k)).toNat default)):=if_pos h
   rw[hins]at hC
   have hfe:=fetchN_c code (f b.toNat) k (hf _) ⟨gc1,gc2⟩ hcl
   rw[if_pos h]at hfe
   refine ECall.ofN hfe (fun H' nx' _=>⟨_,_,rfl,Frz.pure rfl,_,_,rfl,Frz.pure rfl,_,_,rfl,Frz.pure rfl,rfl⟩) ⟨_,fun _=>Iff.rfl⟩ fun x hx=>?_
   subst hx
   simp only[go_sem,hw3,hi3,gw,gi,List.set_set,List.length_set,set_map,wkc_length,k_pc,k_mem,k_rd,k_st,k_fin,k_o,k_cd,k_ok,k_wd,k_in,k_ct,k_reg ja,k_reg jb,ks_pc,ks_reg ja,ks_mem,ks_rd,ks_st,ks_fin,ks_o,cellT_U32,ec,hW,hok,Int.reduceEq,Int.reduceBEq]
   repeat (refine And.intro (by omega) ?_)
   refine wset_v a (code.getD (w32 (f b.toNat+k)).toNat default) ⟨ga1,ga2⟩ hw3 hone fun r=>?_
   simp only[go_sem]
   exact hC _ _ _ (kp _) (wput hlt3 hm3 ho3 hc3 nm no nc hc5)
  ·have hins:insM code inp ⟨pc,f,mem,rd,out,t,0⟩ 27 a b k=(8,⟨pc,f,mem,rd,out,t,0⟩):=if_neg h
   rw[hins]at hC
   have hfe:=fetchN_c code (f b.toNat) k (hf _) ⟨gc1,gc2⟩ hcl
   rw[if_neg h]at hfe
   refine ECall.ofN hfe (fun H' nx' _=>⟨_,_,rfl,Frz.pure rfl,_,_,rfl,Frz.pure rfl,_,_,rfl,Frz.pure rfl,rfl⟩) ⟨_,fun _=>Iff.rfl⟩ fun x hx=>?_
   subst hx
   simp only[go_sem,hw3,hi3,gw,gi,List.set_set,List.length_set,set_map,wkc_length,k_pc,k_mem,k_rd,k_st,k_fin,k_o,k_cd,k_ok,k_wd,k_in,k_ct,k_reg ja,k_reg jb,ks_pc,ks_reg ja,ks_mem,ks_rd,ks_st,ks_fin,ks_o,cellT_U32,ec,hW,hok,Int.reduceEq,Int.reduceBEq]
   repeat (refine And.intro (by omega) ?_)
   exact hC _ _ _ (kp _) (wput hlt3 hm3 ho3 hc3 nm no nc hc5)
 ·
  obtain ⟨at_,hat⟩:∃ y,IntKind.u32.wrap (f b.toNat+k)=y:=⟨_,rfl⟩
  have hin:In32 at_:=by rw[← hat,IntKind.wrap_u32];exact ⟨by omega,by omega⟩
  obtain ⟨p1,p2⟩:=hin
  have hat':w32 (f b.toNat+k)=at_:=hat
  have q2:IntKind.u64.wrap at_=at_:=by rw[IntKind.wrap_u64];omega
  have q3:IntKind.u64.wrap (mem.length:Int)=mem.length:=by rw[IntKind.wrap_u64];omega
  have gm:∀ y,(H3.set m y)[w]? = some (wkO sw (wkc pc f (.ref m sm 0 mem.length) rd so t 0 (.ref o s1 0 out.size) (insL code) (okL code) (words code) inp (.ref c sc 0 code.length))):=fun y=>by rw[List.getElem?_set,if_neg (fun e=>nm e.symm)];exact hw3
  have gm2:∀ y z,((H3.set m y).set w z)[w]? = some z:=fun y z=>by rw[List.getElem?_set,if_pos rfl,if_pos (by rw[List.length_set];exact hlt3)]
  by_cases h:at_<(mem.length:Int)
  ·have hins:insM code inp ⟨pc,f,mem,rd,out,t,0⟩ 17 a b k=(0,⟨nxtM ⟨pc,f,mem,rd,out,t,0⟩,f,mem.set at_.toNat (f a.toNat),rd,out,t,0⟩):=by
    have h':w32 (f b.toNat+k)<(mem.length:Int):=by rw[hat'];exact h
    rw[← hat'];exact if_pos h'
   rw[hins]at hC
   simp only[go_sem,hw3,hi3,gw,gi,List.set_set,List.length_set,set_map,wkc_length,k_pc,k_mem,k_rd,k_st,k_fin,k_o,k_cd,k_ok,k_wd,k_in,k_ct,k_reg ja,k_reg jb,ks_pc,ks_reg ja,ks_mem,ks_rd,ks_st,ks_fin,ks_o,cellT_U32,ec,hW,hok,Int.reduceEq,Int.reduceBEq,hat,q2,q3,hm3,gm,gm2,eq_false (show ¬ (mem.length:Int)≤at_ by omega)]
   repeat (refine And.intro (by first | omega | simp) ?_)
   refine hC _ _ _ (kp2 _ _) ?_
   have:=wput (code:=code) (inp:=inp) (H:=H3.set m ⟨sm,30,1,(mem.set at_.toNat (f a.toNat)).map U32⟩) (w:=w) (sw:=sw) (m:=m) (sm:=sm) (o:=o) (s1:=s1) (c:=c) (sc:=sc) (mem:=mem.set at_.toNat (f a.toNat)) (out:=out) (so:=so) (cnt:=cnt.set pc.toNat (x+1)) (pc:=IntKind.i64.wrap (pc+1)) (f:=f) (rd:=rd) (st:=t) (fin:=0)
    (by rw[List.length_set];exact hlt3) (by rw[List.getElem?_set,if_pos rfl,if_pos hmlt]) (by rw[List.getElem?_set,if_neg nmo];exact ho3) (by rw[List.getElem?_set,if_neg (fun e=>ncm e.symm)];exact hc3) nm no nc hc5
   rw[List.length_set]at this
   exact this
  ·have hins:insM code inp ⟨pc,f,mem,rd,out,t,0⟩ 17 a b k=(8,⟨pc,f,mem,rd,out,t,0⟩):=by
    have h':¬ w32 (f b.toNat+k)<(mem.length:Int):=by rw[hat'];exact h
    exact if_neg h'
   rw[hins]at hC
   simp only[go_sem,hw3,hi3,gw,gi,List.set_set,List.length_set,set_map,wkc_length,k_pc,k_mem,k_rd,k_st,k_fin,k_o,k_cd,k_ok,k_wd,k_in,k_ct,k_reg ja,k_reg jb,ks_pc,ks_reg ja,ks_mem,ks_rd,ks_st,ks_fin,ks_o,cellT_U32,ec,hW,hok,Int.reduceEq,Int.reduceBEq,hm3,hat,q2,q3,eq_true (show (mem.length:Int)≤at_ by omega)]
   repeat (refine And.intro (by omega) ?_)
   exact hC _ _ _ (kp _) (wput hlt3 hm3 ho3 hc3 nm no nc hc5)
 ·
  simp only[go_sem,hw3,hi3,gw,gi,List.set_set,List.length_set,set_map,wkc_length,k_pc,k_mem,k_rd,k_st,k_fin,k_o,k_cd,k_ok,k_wd,k_in,k_ct,k_reg ja,k_reg jb,ks_pc,ks_reg ja,ks_mem,ks_rd,ks_st,ks_fin,ks_o,cellT_U32,ec,hW,hok,Int.reduceEq,Int.reduceBEq]
  repeat (refine And.intro (by omega) ?_)
  exact hC _ _ _ (kp _) (wput hlt3 hm3 ho3 hc3 nm no nc hc5)
 ·
  simp only[go_sem,hw3,hi3,gw,gi,List.set_set,List.length_set,set_map,wkc_length,k_pc,k_mem,k_rd,k_st,k_fin,k_o,k_cd,k_ok,k_wd,k_in,k_ct,k_reg ja,k_reg jb,ks_pc,ks_reg ja,ks_mem,ks_rd,ks_st,ks_fin,ks_o,cellT_U32,ec,hW,hok,Int.reduceEq,Int.reduceBEq]
  repeat (refine And.intro (by omega) ?_)
  refine wjump_v _ k hw3 fun r=>?_
  simp only[go_sem]
  refine hC _ _ _ (kp _) ?_
  by_cases hz:f a.toNat=0
  ·have hins:insM code inp ⟨pc,f,mem,rd,out,t,0⟩ 19 a b k=(0,⟨k,f,mem,rd,out,t,0⟩):=by show (0,S.mk (if f a.toNat=0 then _ else _) f mem rd out t 0)=_;rw[if_pos hz]<;>rfl
   rw[hins]
   simp only[hz,beq_self_eq_true,if_true]
   exact wput hlt3 hm3 ho3 hc3 nm no nc hc5
  ·have hins:insM code inp ⟨pc,f,mem,rd,out,t,0⟩ 19 a b k=(0,⟨(IntKind.i64.wrap (pc+1)),f,mem,rd,out,t,0⟩):=by show (0,S.mk (if f a.toNat=0 then _ else _) f mem rd out t 0)=_;rw[if_neg hz]<;>rfl
   rw[hins]
   simp only[eq_false hz,if_false,if_true,not_false_eq_true]
   exact wput hlt3 hm3 ho3 hc3 nm no nc hc5
 ·
  simp only[go_sem,hw3,hi3,gw,gi,List.set_set,List.length_set,set_map,wkc_length,k_pc,k_mem,k_rd,k_st,k_fin,k_o,k_cd,k_ok,k_wd,k_in,k_ct,k_reg ja,k_reg jb,ks_pc,ks_reg ja,ks_mem,ks_rd,ks_st,ks_fin,ks_o,cellT_U32,ec,hW,hok,Int.reduceEq,Int.reduceBEq]
  repeat (refine And.intro (by omega) ?_)
  refine wjump_v _ k hw3 fun r=>?_
  simp only[go_sem]
  refine hC _ _ _ (kp _) ?_
  by_cases hz:f a.toNat=0
  ·have hins:insM code inp ⟨pc,f,mem,rd,out,t,0⟩ 20 a b k=(0,⟨(IntKind.i64.wrap (pc+1)),f,mem,rd,out,t,0⟩):=by show (0,S.mk (if f a.toNat=0 then _ else _) f mem rd out t 0)=_;rw[if_pos hz]<;>rfl
   rw[hins]
   simp only[hz,bne_self_eq_false,Bool.false_eq_true,if_false]
   exact wput hlt3 hm3 ho3 hc3 nm no nc hc5
  ·have hins:insM code inp ⟨pc,f,mem,rd,out,t,0⟩ 20 a b k=(0,⟨k,f,mem,rd,out,t,0⟩):=by show (0,S.mk (if f a.toNat=0 then _ else _) f mem rd out t 0)=_;rw[if_neg hz]<;>rfl
   rw[hins]
   simp only[eq_false hz,if_false,if_true,not_false_eq_true]
   exact wput hlt3 hm3 ho3 hc3 nm no nc hc5
 ·
  have hq:IntKind.u32.wrap (IntKind.u32.wrap pc+1)=w32 (nxtM ⟨pc,f,mem,rd,out,t,0⟩):=by
   simp only[w32,nxtM];rw[IntKind.wrap_u32,IntKind.wrap_u32,IntKind.wrap_u32,IntKind.wrap_i64];omega
  simp only[go_sem,hw3,hi3,gw,gi,List.set_set,List.length_set,set_map,wkc_length,k_pc,k_mem,k_rd,k_st,k_fin,k_o,k_cd,k_ok,k_wd,k_in,k_ct,k_reg ja,k_reg jb,ks_pc,ks_reg ja,ks_mem,ks_rd,ks_st,ks_fin,ks_o,cellT_U32,ec,hW,hok,Int.reduceEq,Int.reduceBEq,hq]
  repeat (refine And.intro (by omega) ?_)
  exact hC _ _ _ (kp _) (wput hlt3 hm3 ho3 hc3 nm no nc hc5)
 ·
  have hq:IntKind.i64.wrap (f a.toNat)=f a.toNat:=by
   have:=hf a.toNat
   exact i64_in (by have:=this.1;omega) (by have:=this.2;omega)
  simp only[go_sem,hw3,hi3,gw,gi,List.set_set,List.length_set,set_map,wkc_length,k_pc,k_mem,k_rd,k_st,k_fin,k_o,k_cd,k_ok,k_wd,k_in,k_ct,k_reg ja,k_reg jb,ks_pc,ks_reg ja,ks_mem,ks_rd,ks_st,ks_fin,ks_o,cellT_U32,ec,hW,hok,Int.reduceEq,Int.reduceBEq,hq]
  repeat (refine And.intro (by omega) ?_)
  exact hC _ _ _ (kp _) (wput hlt3 hm3 ho3 hc3 nm no nc hc5)
 ·
  by_cases r1:rd<0
  ·have hins:insM code inp ⟨pc,f,mem,rd,out,t,0⟩ 23 a b k=(0,setR ⟨pc,f,mem,rd,out,t,0⟩ a 256):=by
    show (0,if rd<0∨(inp.size:Int)≤rd then _ else _)=_;rw[if_pos (.inl r1)]
   rw[hins]at hC
   simp only[go_sem,hw3,hi3,gw,gi,List.set_set,List.length_set,set_map,wkc_length,k_pc,k_mem,k_rd,k_st,k_fin,k_o,k_cd,k_ok,k_wd,k_in,k_ct,k_reg ja,k_reg jb,ks_pc,ks_reg ja,ks_mem,ks_rd,ks_st,ks_fin,ks_o,cellT_U32,ec,hW,hok,Int.reduceEq,Int.reduceBEq,eq_true r1]
   repeat (refine And.intro (by omega) ?_)
   refine wset_v a 256 ⟨ga1,ga2⟩ hw3 hone fun r=>?_
   simp only[go_sem]
   exact hC _ _ _ (kp _) (wput hlt3 hm3 ho3 hc3 nm no nc hc5)
  by_cases r2:(inp.size:Int)≤rd
  ·have hins:insM code inp ⟨pc,f,mem,rd,out,t,0⟩ 23 a b k=(0,setR ⟨pc,f,mem,rd,out,t,0⟩ a 256):=by
    show (0,if rd<0∨(inp.size:Int)≤rd then _ else _)=_;rw[if_pos (.inr r2)]
   rw[hins]at hC
   simp only[go_sem,hw3,hi3,gw,gi,List.set_set,List.length_set,set_map,wkc_length,k_pc,k_mem,k_rd,k_st,k_fin,k_o,k_cd,k_ok,k_wd,k_in,k_ct,k_reg ja,k_reg jb,ks_pc,ks_reg ja,ks_mem,ks_rd,ks_st,ks_fin,ks_o,cellT_U32,ec,hW,hok,Int.reduceEq,Int.reduceBEq,eq_false r1,eq_true r2]
   repeat (refine And.intro (by omega) ?_)
   refine wset_v a 256 ⟨ga1,ga2⟩ hw3 hone fun r=>?_
   simp only[go_sem]
   exact hC _ _ _ (kp _) (wput hlt3 hm3 ho3 hc3 nm no nc hc5)
  ·have hins:insM code inp ⟨pc,f,mem,rd,out,t,0⟩ 23 a b k=(0,setR ⟨pc,f,mem,IntKind.i64.wrap (rd+1),out,t,0⟩ a (byteAt inp rd.toNat)):=by
    show (0,if rd<0∨(inp.size:Int)≤rd then _ else _)=_;rw[if_neg (by omega)]
   rw[hins]at hC
   have hb:IntKind.u32.wrap (byteAt inp rd.toNat)=byteAt inp rd.toNat:=by
    refine w32_in ⟨?_,?_⟩<;>unfold byteAt
    ·omega
    ·have:=(inp.data.toList.getD rd.toNat 0).toNat_lt;omega
   simp only[go_sem,hw3,hi3,gw,gi,List.set_set,List.length_set,set_map,wkc_length,k_pc,k_mem,k_rd,k_st,k_fin,k_o,k_cd,k_ok,k_wd,k_in,k_ct,k_reg ja,k_reg jb,ks_pc,ks_reg ja,ks_mem,ks_rd,ks_st,ks_fin,ks_o,cellT_U32,ec,hW,hok,Int.reduceEq,Int.reduceBEq,eq_false r1,eq_false r2,hb]
   repeat (refine And.intro (by omega) ?_)
   refine wset_v a (byteAt inp rd.toNat) ⟨ga1,ga2⟩ (gw _) (by rw[wkc_all];rfl) fun r=>?_
   rw[List.set_set]
   simp only[go_sem]
   exact hC _ _ _ (kp _) (wput hlt3 hm3 ho3 hc3 nm no nc hc5)
 ·
  by_cases h:65536≤out.size
  ·have hins:insM code inp ⟨pc,f,mem,rd,out,t,0⟩ 24 a b k=(4,⟨pc,f,mem,rd,out,t,0⟩):=if_pos h
   rw[hins]at hC
   simp only[go_sem,hw3,hi3,gw,gi,List.set_set,List.length_set,set_map,wkc_length,k_pc,k_mem,k_rd,k_st,k_fin,k_o,k_cd,k_ok,k_wd,k_in,k_ct,k_reg ja,k_reg jb,ks_pc,ks_reg ja,ks_mem,ks_rd,ks_st,ks_fin,ks_o,cellT_U32,ec,hW,hok,Int.reduceEq,Int.reduceBEq,ho3,eq_true (show (65536:Int)≤(out.size:Int) by omega)]
   repeat (refine And.intro (by omega) ?_)
   exact hC _ _ _ (kp _) (wput hlt3 hm3 ho3 hc3 nm no nc hc5)
  ·have hins:insM code inp ⟨pc,f,mem,rd,out,t,0⟩ 24 a b k=(0,⟨nxtM ⟨pc,f,mem,rd,out,t,0⟩,f,mem,rd,out.push (byteOf (f a.toNat)),t,0⟩):=if_neg h
   rw[hins]at hC
   have hby:(AV.val (.int .u8 (IntKind.u8.wrap ((f a.toNat).tmod 256))))=U8 (byteOf (f a.toNat)):=by
    have h0:=(hf a.toNat).1
    have e:=byteOf_eq (f a.toNat)
    show AV.val (.int .u8 (IntKind.u8.wrap ((f a.toNat).tmod 256)))=AV.val (.int .u8 (((byteOf (f a.toNat)).toNat:Nat):Int))
    rw[e,Int.tmod_eq_emod_of_nonneg h0,IntKind.wrap_u8,IntKind.wrap_u8,Int.emod_emod]
   have holt:=(List.getElem?_eq_some_iff.1 ho3).1
   have X1:∀ y,(H3++[y])[o]? = some ⟨s1,5,1,out.data.toList.map U8⟩:=fun y=>by rw[List.getElem?_append_left holt];exact ho3
   have X2:∀ y z,((H3++[y]).set o z)[w]? = some (wkO sw (wkc pc f (.ref m sm 0 mem.length) rd so t 0 (.ref o s1 0 out.size) (insL code) (okL code) (words code) inp (.ref c sc 0 code.length))):=fun y z=>by
    rw[List.getElem?_set,if_neg (fun e=>no e.symm),List.getElem?_append_left hlt3];exact hw3
   have X3:∀ y z u,(((H3++[y]).set o z).set w u)[w]? = some u:=fun y z u=>by rw[List.getElem?_set,if_pos rfl,if_pos (by simp;omega)]
   have X4:∀ y:VObj,(H3++[y])[w]? = some (wkO sw (wkc pc f (.ref m sm 0 mem.length) rd so t 0 (.ref o s1 0 out.size) (insL code) (okL code) (words code) inp (.ref c sc 0 code.length))):=fun y=>by
    rw[List.getElem?_append_left hlt3];exact hw3
   have X5:∀ y:VObj,(H3++[y])[H3.length]? = some y:=fun y=>by rw[List.getElem?_append_right (Nat.le_refl _),Nat.sub_self];rfl
   have hall1:∀ v,allCells [U8 v]=[U8 v]:=fun v=>rfl
   have hmx:(2000000:Nat)≤maxLen:=by decide
   have hol2:out.data.toList.length=out.size:=rfl
   have htk:(out.data.toList.map U8).take out.size=out.data.toList.map U8:=List.take_of_length_le (by rw[List.length_map];exact Nat.le_refl _)
   simp only[go_sem,hw3,hi3,gw,gi,List.set_set,List.length_set,set_map,wkc_length,k_pc,k_mem,k_rd,k_st,k_fin,k_o,k_cd,k_ok,k_wd,k_in,k_ct,k_reg ja,k_reg jb,ks_pc,ks_reg ja,ks_mem,ks_rd,ks_st,ks_fin,ks_o,cellT_U32,ec,hW,hok,Int.reduceEq,Int.reduceBEq,eq_false (show ¬ (65536:Int)≤(out.size:Int) by omega),hby,ho3,X1,X2,X3,X4,X5,hall1,htk]
   repeat (refine And.intro (by first | omega | simp) ?_)
   have hp1:(out.push (byteOf (f a.toNat))).size=out.size+1:=ByteArray.size_push ..
   have hp2:(out.push (byteOf (f a.toNat))).data.toList.map U8=out.data.toList.map U8++[U8 (byteOf (f a.toNat))]:=by
    show (out.data.push (byteOf (f a.toNat))).toList.map U8=_
    rw[Array.toList_push,List.map_append];rfl
   have hc3l:=(List.getElem?_eq_some_iff.1 hc3).1
   refine hC _ _ _ (kp3 _ _ _) ?_
   have:=wput (code:=code) (inp:=inp) (H:=(H3++[(⟨nx+1,5,1,[U8 (byteOf (f a.toNat))]⟩:VObj)]).set o ⟨nx+1+1,5,1,out.data.toList.map U8++[U8 (byteOf (f a.toNat))]⟩) (w:=w) (sw:=sw) (m:=m) (sm:=sm) (o:=o) (s1:=nx+1+1) (c:=c) (sc:=sc) (mem:=mem) (out:=out.push (byteOf (f a.toNat))) (so:=so) (cnt:=cnt.set pc.toNat (x+1)) (pc:=IntKind.i64.wrap (pc+1)) (f:=f) (rd:=rd) (st:=t) (fin:=0)
    (by simp;omega) (by rw[List.getElem?_set,if_neg (fun e=>nmo e.symm),List.getElem?_append_left hmlt];exact hm3) (by rw[hp2,List.getElem?_set,if_pos rfl,if_pos (by simp;omega)]) (by rw[List.getElem?_set,if_neg (fun e=>nco e.symm),List.getElem?_append_left hc3l];exact hc3) nm no nc hc5
   rw[hp1]at this
   exact this
 ·
  by_cases h:f a.toNat<k
  ·have hins:insM code inp ⟨pc,f,mem,rd,out,t,0⟩ 25 a b k=(0,⟨nxtM ⟨pc,f,mem,rd,out,t,0⟩,f,mem,rd,out,t,0⟩):=if_pos h
   rw[hins]at hC
   simp only[go_sem,hw3,hi3,gw,gi,List.set_set,List.length_set,set_map,wkc_length,k_pc,k_mem,k_rd,k_st,k_fin,k_o,k_cd,k_ok,k_wd,k_in,k_ct,k_reg ja,k_reg jb,ks_pc,ks_reg ja,ks_mem,ks_rd,ks_st,ks_fin,ks_o,cellT_U32,ec,hW,hok,Int.reduceEq,Int.reduceBEq,eq_false (show ¬ k≤f a.toNat by omega)]
   repeat (refine And.intro (by omega) ?_)
   exact hC _ _ _ (kp _) (wput hlt3 hm3 ho3 hc3 nm no nc hc5)
  ·have hins:insM code inp ⟨pc,f,mem,rd,out,t,0⟩ 25 a b k=(3,⟨pc,f,mem,rd,out,t,0⟩):=if_neg h
   rw[hins]at hC
   simp only[go_sem,hw3,hi3,gw,gi,List.set_set,List.length_set,set_map,wkc_length,k_pc,k_mem,k_rd,k_st,k_fin,k_o,k_cd,k_ok,k_wd,k_in,k_ct,k_reg ja,k_reg jb,ks_pc,ks_reg ja,ks_mem,ks_rd,ks_st,ks_fin,ks_o,cellT_U32,ec,hW,hok,Int.reduceEq,Int.reduceBEq,eq_true (show k≤f a.toNat by omega)]
   repeat (refine And.intro (by omega) ?_)
   exact hC _ _ _ (kp _) (wput hlt3 hm3 ho3 hc3 nm no nc hc5)
 ·
  simp only[go_sem,hw3,hi3,gw,gi,List.set_set,List.length_set,set_map,wkc_length,k_pc,k_mem,k_rd,k_st,k_fin,k_o,k_cd,k_ok,k_wd,k_in,k_ct,k_reg ja,k_reg jb,ks_pc,ks_reg ja,ks_mem,ks_rd,ks_st,ks_fin,ks_o,cellT_U32,ec,hW,hok,Int.reduceEq,Int.reduceBEq]
  repeat (refine And.intro (by omega) ?_)
  exact hC _ _ _ (kp _) (wput hlt3 hm3 ho3 hc3 nm no nc hc5)
set_option maxRecDepth 10000
open Go.V
theorem fold_stc {pc:Int} {f:Nat→Int} {m:AV} {rd:Int} {so:ByteArray} {st fin:Int}:I pc::(regs f++[m,I rd,strv so,I st,I fin])=stc pc f m rd so st fin:=rfl
theorem fold_wkc {pc:Int} {f:Nat→Int} {m:AV} {rd:Int} {so:ByteArray} {st fin:Int} {o cd ok wd ct:AV} {inp:ByteArray}:stc pc f m rd so st fin++[o,cd,ok,wd,strv inp,ct]=wkc pc f m rd so st fin o cd ok wd inp ct:=by
 simp[stc,wkc]
theorem stw17 {pc:Int} {f:Nat→Int} {m:AV} {rd:Int} {so:ByteArray} {st fin:Int} (x:AV):List.take 17 (stc pc f m rd so st fin)++x::List.drop 18 (stc pc f m rd so st fin)=stc pc f x rd so st fin:=rfl
theorem stw18 {pc:Int} {f:Nat→Int} {m:AV} {rd:Int} {so:ByteArray} {st fin:Int} (x:Int):List.take 18 (stc pc f m rd so st fin)++I x::List.drop 19 (stc pc f m rd so st fin)=stc pc f m x so st fin:=rfl
theorem stw20 {pc:Int} {f:Nat→Int} {m:AV} {rd:Int} {so:ByteArray} {st fin:Int} (x:Int):List.take 20 (stc pc f m rd so st fin)++I x::List.drop 21 (stc pc f m rd so st fin)=stc pc f m rd so x fin:=rfl
theorem stw21 {pc:Int} {f:Nat→Int} {m:AV} {rd:Int} {so:ByteArray} {st fin:Int} (x:Int):List.take 21 (stc pc f m rd so st fin)++I x::List.drop 22 (stc pc f m rd so st fin)=stc pc f m rd so st x:=rfl
theorem wkw22 {pc:Int} {f:Nat→Int} {m:AV} {rd:Int} {so:ByteArray} {st fin:Int} {o cd ok wd ct:AV} {inp:ByteArray} (x:AV):List.take 22 (wkc pc f m rd so st fin o cd ok wd inp ct)++x::List.drop 23 (wkc pc f m rd so st fin o cd ok wd inp ct)=wkc pc f m rd so st fin x cd ok wd inp ct:=rfl
theorem wkw23 {pc:Int} {f:Nat→Int} {m:AV} {rd:Int} {so:ByteArray} {st fin:Int} {o cd ok wd ct:AV} {inp:ByteArray} (x:AV):List.take 23 (wkc pc f m rd so st fin o cd ok wd inp ct)++x::List.drop 24 (wkc pc f m rd so st fin o cd ok wd inp ct)=wkc pc f m rd so st fin o x ok wd inp ct:=rfl
theorem wkw24 {pc:Int} {f:Nat→Int} {m:AV} {rd:Int} {so:ByteArray} {st fin:Int} {o cd ok wd ct:AV} {inp:ByteArray} (x:AV):List.take 24 (wkc pc f m rd so st fin o cd ok wd inp ct)++x::List.drop 25 (wkc pc f m rd so st fin o cd ok wd inp ct)=wkc pc f m rd so st fin o cd x wd inp ct:=rfl
theorem wkw25 {pc:Int} {f:Nat→Int} {m:AV} {rd:Int} {so:ByteArray} {st fin:Int} {o cd ok wd ct:AV} {inp:ByteArray} (x:AV):List.take 25 (wkc pc f m rd so st fin o cd ok wd inp ct)++x::List.drop 26 (wkc pc f m rd so st fin o cd ok wd inp ct)=wkc pc f m rd so st fin o cd ok x inp ct:=rfl
theorem wkw26 {pc:Int} {f:Nat→Int} {m:AV} {rd:Int} {so:ByteArray} {st fin:Int} {o cd ok wd ct:AV} {inp:ByteArray} (x:ByteArray):List.take 26 (wkc pc f m rd so st fin o cd ok wd inp ct)++strv x::List.drop 27 (wkc pc f m rd so st fin o cd ok wd inp ct)=wkc pc f m rd so st fin o cd ok wd x ct:=rfl
theorem wkw27 {pc:Int} {f:Nat→Int} {m:AV} {rd:Int} {so:ByteArray} {st fin:Int} {o cd ok wd ct:AV} {inp:ByteArray} (x:AV):List.take 27 (wkc pc f m rd so st fin o cd ok wd inp ct)++x::List.drop 28 (wkc pc f m rd so st fin o cd ok wd inp ct)=wkc pc f m rd so st fin o cd ok wd inp x:=rfl
theorem dps22 {pc:Int} {f:Nat→Int} {m:AV} {rd:Int} {so:ByteArray} {st fin:Int}:List.drop 22 (stc pc f m rd so st fin)=[]:=rfl
theorem dps28 {pc:Int} {f:Nat→Int} {m:AV} {rd:Int} {so:ByteArray} {st fin:Int} {o cd ok wd ct:AV} {inp:ByteArray}:List.drop 28 (wkc pc f m rd so st fin o cd ok wd inp ct)=[]:=rfl
theorem stw21' {pc:Int} {f:Nat→Int} {m:AV} {rd:Int} {so:ByteArray} {st fin:Int} (x:Int):List.take 21 (stc pc f m rd so st fin)++[I x]=stc pc f m rd so st x:=rfl
theorem wkw27' {pc:Int} {f:Nat→Int} {m:AV} {rd:Int} {so:ByteArray} {st fin:Int} {o cd ok wd ct:AV} {inp:ByteArray} (x:AV):List.take 27 (wkc pc f m rd so st fin o cd ok wd inp ct)++[x]=wkc pc f m rd so st fin o cd ok wd inp x:=rfl
theorem cntL_stays {code:List Int} {inp:ByteArray} {σ:S} {k:Nat} (h:(runN code inp σ k).fin≠0):∀ d,cntL code inp σ (k+d)=cntL code inp σ k
 | 0=>rfl
 | d+1=>by
  have hd:doneF code (runN code inp σ (k+d))=false:=by rw[runN_stays h d];simp[doneF,h]
  show cntL code inp σ (k+d+1)=_
  simp only[cntL,hd,Bool.false_eq_true,if_false]
  exact cntL_stays h d
structure RQR where
 k:Nat
 H:List VObj
 nx:Nat
theorem insM_out (code:List Int) (inp:ByteArray) (s:S) (op a b c:Int) (h:s.out.size≤65536):(insM code inp s op a b c).2.out.size≤65536:=by
 unfold insM
 iterate 8 (refine ite_ind (P:=fun p:Int × S=>p.2.out.size≤65536) (fun _=>h) fun _=>?_)
 iterate 3 (refine ite_ind (P:=fun p:Int × S=>p.2.out.size≤65536) (fun _=>ite_ind (P:=fun p:Int × S=>p.2.out.size≤65536) (fun _=>h) fun _=>h) fun _=>?_)
 refine ite_ind (P:=fun p:Int × S=>p.2.out.size≤65536) (fun _=>?_) fun _=>?_
 ·exact ite_ind (P:=fun x:S=>x.out.size≤65536) (fun _=>h) fun _=>h
 refine ite_ind (P:=fun p:Int × S=>p.2.out.size≤65536) (fun _=>ite_ind (P:=fun p:Int × S=>p.2.out.size≤65536) (fun _=>h) fun h2=>?_) fun _=>?_
 ·show (s.out.push _).size≤_
  rw[ByteArray.size_push];omega
 refine ite_ind (P:=fun p:Int × S=>p.2.out.size≤65536) (fun _=>ite_ind (P:=fun p:Int × S=>p.2.out.size≤65536) (fun _=>h) fun _=>h) fun _=>?_
 refine ite_ind (P:=fun p:Int × S=>p.2.out.size≤65536) (fun _=>h) fun _=>?_
 exact ite_ind (P:=fun p:Int × S=>p.2.out.size≤65536) (fun _=>h) fun _=>h
theorem stepR_out (code:List Int) (inp:ByteArray) (s:S) (h:s.out.size≤65536):(stepF code inp s).out.size≤65536:=by
 unfold stepF wordF
 refine ite_ind (P:=fun x:S=>x.out.size≤65536) (fun _=>?_) fun _=>h
 refine ite_ind (P:=fun x:S=>x.out.size≤65536) (fun _=>h) fun _=>?_
 refine ite_ind (P:=fun x:S=>x.out.size≤65536) (fun _=>?_) fun _=>h
 exact ite_ind (P:=fun x:S=>x.out.size≤65536) (fun _=>insM_out _ _ _ _ _ _ _ h) fun _=>insM_out _ _ _ _ _ _ _ h
theorem runR_out {code:List Int} {inp:ByteArray} {s:S} (h:s.out.size≤65536):∀ k,(runN code inp s k).out.size≤65536
 | 0=>h
 | k+1=>stepR_out _ _ _ (runR_out h k)
theorem refrun_tail (code:List Int) (inp:ByteArray) (σ:S) (fuel:Int) (w sw:Nat) (env:List (Nat × AV)) (H:List VObj) (nx:Nat) (cs:List AV) (C:AV→Prop)
 (hcode:∀ x ∈ code,In32 x) (hcl:code.length≤1000000) (hi:inp.size≤1000000000) (hws:Wf σ) (hl:σ.mem.length≤1000000) (hol:σ.out.size≤65536) (hfu:fuel≤4000000000000000000)
 (he3:get env 3=I fuel) (he8:get env 8 = .ptr 2 2 0) (he13:get env 13 = .ptr w sw 0) (hcs:cs.length=22) (h2:H[2]? = some ⟨2,91,1,cs⟩)
 (hA:WAt code inp H w sw σ ⟨#[]⟩ (cntL code inp σ 0)) (hC:C (.tup [stA (runN code inp σ fuel.toNat),ints (cntL code inp σ fuel.toNat)])) :
 VW Try.prog t_scref10_run (retQ Try.prog [.cell 8 true 22,.tmp 9] fun r H nx=>∃ y,Frz 0 H nx r y∧C y) ⟨env,H,nx⟩:=by
 have hwf:=runN_wf (code:=code) (inp:=inp) hcode hws
 have hcnt:=cntL_le code inp σ
 simp only[go_sem,t_scref10_run]
 refine VW_loop (fun q:RQR=>⟨[(3,I fuel),(8,.ptr 2 2 0),(13,.ptr w sw 0),(14,I q.k)],q.H,q.nx⟩)
  (fun q=>q.k≤fuel.toNat∧WAt code inp q.H w sw (runN code inp σ q.k) ⟨#[]⟩ (cntL code inp σ q.k)∧q.H[2]? = some ⟨2,91,1,cs⟩) (fun q=>fuel.toNat-q.k)
  ⟨0,H,nx⟩ (Wk.mk (fun p hp=>?_) ⟨[],(List.append_nil _).symm⟩ (Nat.le_refl _)) ⟨Nat.zero_le _,hA,h2⟩ ?_
 ·simp only[List.mem_cons,List.not_mem_nil,or_false]at hp
  rcases hp with rfl | rfl | rfl | rfl
  ·simpa [get_cons] using he3
  ·simpa [get_cons] using he8
  ·simpa [get_cons] using he13
  ·simp[get_cons]
 clear hA h2 he3 he8 he13
 rintro ⟨k,H,nx⟩ ⟨h1,hA,h2⟩
 simp only at h1 hA h2
 have hA':=hA
 obtain ⟨m,sm,o,s1,c,sc,hw,hm,ho,hc,hcc⟩:=hA'
 have fin_:runN code inp σ fuel.toNat=runN code inp σ k→cntL code inp σ fuel.toNat=cntL code inp σ k→(k:Int)<fuel→True:=fun _ _ _=>trivial
 have hlt:=(List.getElem?_eq_some_iff.1 hw).1
 have h2lt:=(List.getElem?_eq_some_iff.1 h2).1
 have nw2:w≠2:=fun e=>by rw[e,h2]at hw;simp at hw
 have nm2:m≠2:=fun e=>by rw[e,h2]at hm;simp at hm
 have no2:o≠2:=fun e=>by rw[e,h2]at ho;simp at ho
 have nc2:c≠2:=fun e=>by rw[e,h2]at hc;simp at hc
 have nm:w≠m:=fun e=>by rw[← e,hw]at hm;simp at hm
 have nc:w≠c:=fun e=>by rw[← e,hw]at hc;simp at hc
 have gw:∀ x,(H.set w x)[w]? = some x:=fun x=>by rw[List.getElem?_set,if_pos rfl,if_pos hlt]
 have g2:∀ x,(H.set w x)[2]? = some ⟨2,91,1,cs⟩:=fun x=>by rw[List.getElem?_set,if_neg nw2];exact h2
 have g3:∀ x y,((H.set w x).set 2 y)[w]? = some x:=fun x y=>by rw[List.getElem?_set,if_neg (fun e=>nw2 e.symm)];exact gw x
 have g4:∀ x y,((H.set w x).set 2 y)[2]? = some y:=fun x y=>by rw[List.getElem?_set,if_pos rfl,if_pos (by rw[List.length_set];exact h2lt)]
 have g5:∀ x y,((H.set w x).set 2 y)[m]? = some ⟨sm,30,1,(runN code inp σ k).mem.map U32⟩:=fun x y=>by
  rw[List.getElem?_set,if_neg (fun e=>nm2 e.symm),List.getElem?_set,if_neg nm];exact hm
 have g6:∀ x y,((H.set w x).set 2 y)[c]? = some ⟨sc,3,1,(cntL code inp σ k).map I⟩:=fun x y=>by
  rw[List.getElem?_set,if_neg (fun e=>nc2 e.symm),List.getElem?_set,if_neg nc];exact hc
 have htk:((runN code inp σ k).out.data.toList.map U8).take (runN code inp σ k).out.size=(runN code inp σ k).out.data.toList.map U8:=List.take_of_length_le (by rw[List.length_map];exact Nat.le_refl _)
 have hstr:(⟨(runN code inp σ k).out.data.toList.toArray⟩:ByteArray)=(runN code inp σ k).out:=bytes_ext (by simp)
 have hdrop:cs.drop 22=[]:=List.drop_eq_nil_of_le (by omega)
 obtain ⟨w1,w2,_⟩:=hwf k
 have w3:=runR_out (code:=code) (inp:=inp) hol k
 by_cases c1:(k:Int)<fuel
 ·by_cases c2:(runN code inp σ k).fin=0
  ·simp only[go_sem,hw,eq_true c1,eq_true c2,wkc_length,k_state,k_pc,k_fin,k_so,k_o,k_ct,ks_so,stc_length]
   refine wstep_v code inp (runN code inp σ k) ⟨#[]⟩ (cntL code inp σ k) H nx w sw _ hcode hcl hi w1 (by omega) (by omega) c2 (fun x hx=>by have:=hcnt k x hx;omega) hA fun r H' nx' hk hA'=>?_
   simp only[go_sem]
   rw[i64_in (by omega) (by omega)]
   exact ⟨⟨k+1,H',nx'⟩,⟨by simp only;omega,hA',hk 2 _ h2 rfl⟩,by simp only;omega,Wk.mk (by simp[get_cons]) ⟨[],(List.append_nil _).symm⟩ (Nat.le_refl _)⟩
  ·have e1:=runN_stays c2 (fuel.toNat-k)
   have e2:=cntL_stays c2 (fuel.toNat-k)
   rw[show k+(fuel.toNat-k)=fuel.toNat by omega]at e1 e2
   rw[e1,e2]at hC
   simp only[go_sem,hw,ho,gw,g2,g3,g4,hdrop,hcs,htk,hstr,s_all,stc_all,eq_true c1,eq_false c2,wkc_length,k_state,k_pc,k_fin,k_so,k_o,k_ct,ks_so,stc_length]
   refine ⟨?_,?_⟩
   all_goals
    refine ⟨_,Frz.tup ⟨_,_,rfl,stA_frz' (mem:=(runN code inp σ k).mem) (Frz.ref (Nat.zero_le _) (g5 _ _) rfl rfl ?_ ?_),_,_,rfl,frz_ints (l:=cntL code inp σ k) (Nat.zero_le _) (g6 _ _) hcc.symm,rfl⟩,hC⟩
    ·rw[List.all_eq_true];intro y hy;obtain ⟨x,_,rfl⟩:=List.mem_map.1 hy;rfl
    ·rw[List.drop_zero,List.take_of_length_le (by rw[List.length_map];exact Nat.le_refl _)]
     exact FrzL.pure (by rw[List.all_eq_true];intro y hy;obtain ⟨x,_,rfl⟩:=List.mem_map.1 hy;rfl)
 ·have e:fuel.toNat=k:=by omega
  rw[e]at hC
  simp only[go_sem,hw,ho,gw,g2,g3,g4,hdrop,hcs,htk,hstr,s_all,stc_all,eq_false c1,wkc_length,k_state,k_pc,k_fin,k_so,k_o,k_ct,ks_so,stc_length]
  refine ⟨?_,?_⟩
  all_goals
   refine ⟨_,Frz.tup ⟨_,_,rfl,stA_frz' (mem:=(runN code inp σ k).mem) (Frz.ref (Nat.zero_le _) (g5 _ _) rfl rfl ?_ ?_),_,_,rfl,frz_ints (l:=cntL code inp σ k) (Nat.zero_le _) (g6 _ _) hcc.symm,rfl⟩,hC⟩
   ·rw[List.all_eq_true];intro y hy;obtain ⟨x,_,rfl⟩:=List.mem_map.1 hy;rfl
   ·rw[List.drop_zero,List.take_of_length_le (by rw[List.length_map];exact Nat.le_refl _)]
    exact FrzL.pure (by rw[List.all_eq_true];intro y hy;obtain ⟨x,_,rfl⟩:=List.mem_map.1 hy;rfl)
theorem refrun_c (code:List Int) (data:Int) (inp:ByteArray) (σ:S) (fuel:Int) (hcode:∀ x ∈ code,In32 x) (hcl:code.length≤1000000) (hi:inp.size≤1000000000) (hws:Wf σ) (hl:σ.mem.length≤1000000) (hol:σ.out.size≤65536) (hfu:fuel≤4000000000000000000) :
 Contract Try.prog 44 [imgA code data,strv inp,stA σ,I fuel] (fun r=>r = .tup [stA (runN code inp σ fuel.toNat),ints (cntL code inp σ fuel.toNat)]):=by
 refine Contract.of_call (VCall.of_body hmix e_scref10_run (by simp) ?_)
 have hmx:(2000000:Nat)≤maxLen:=by decide
 have hall:allCells (σ.mem.map U32)=σ.mem.map U32:=allCells_map1 (fun _=>rfl) σ.mem
 have hrep:(List.replicate code.length [I 0]).flatten=(List.replicate code.length (0:Int)).map I:=by
  induction code.length with
  | zero=>rfl
  | succ n ih=>simp only[List.replicate_succ,List.flatten_cons,ih,List.map_cons];rfl
 simp only[go_sem,g_scref10_run,s_all,s_pc,s_regs,s_mem,s_rd,s_out,s_st,s_fin,stc_length,stc_all,regs_length,regs_all,wkc_length,wkc_all,fold_stc,fold_wkc,List.append_assoc,hall,hrep,stw17,stw18,stw20,stw21,wkw22,wkw23,wkw24,wkw25,wkw26,wkw27,dps22,dps28,stw21',wkw27']
 refine VCall.of_contract (refcode_c code data hcode hcl) (SleL.pure rfl) fun x hx=>?_
 subst hx
 simp only[go_sem,s_all,s_pc,s_regs,s_mem,s_rd,s_out,s_st,s_fin,stc_length,stc_all,regs_length,regs_all,wkc_length,wkc_all,fold_stc,fold_wkc,List.append_assoc,hall,hrep,stw17,stw18,stw20,stw21,wkw22,wkw23,wkw24,wkw25,wkw26,wkw27,dps22,dps28,stw21',wkw27']
 repeat' (with_reducible refine And.intro ?_ ?_)
 all_goals first
  | (intro y hy;obtain ⟨x,_,rfl⟩:=List.mem_map.1 hy;rfl)
  | omega
  | (refine refrun_tail code inp σ fuel _ _ _ _ _ _ (fun y=>y = .tup [stA (runN code inp σ fuel.toNat),ints (cntL code inp σ fuel.toNat)]) hcode hcl hi hws hl hol hfu rfl rfl rfl ?_ rfl ⟨_,_,_,_,_,_,rfl,rfl,rfl,rfl,cntL_len ..⟩ rfl
     rfl)
  | skip
set_option maxRecDepth 10000
open Go.V
theorem refgo_c (code:List Int) (data:Int) (inp:ByteArray) (σ:S) (fuel:Int) (hcode:∀ x ∈ code,In32 x) (hcl:code.length≤1000000) (hi:inp.size≤1000000000) (hws:Wf σ) (hl:σ.mem.length≤1000000) (hol:σ.out.size≤65536) (hfu:fuel≤4000000000000000000) :
 Contract Try.prog 28 [imgA code data,strv inp,stA σ,I fuel] (fun r=>r=stA (runN code inp σ fuel.toNat)):=by
 refine Contract.of_call (VCall.of_body hmix f_scref10_Go (by simp) ?_)
 simp only[go_sem,c_scref10_Go,s_all,s_zero,s_put,s_put',stc_length,stc_all]
 refine VCall.of_contract (refrun_c code data inp σ fuel hcode hcl hi hws hl hol hfu) (SleL.pure rfl) fun x hx=>?_
 subst hx
 simp only[go_sem,s_all,s_zero,s_put,s_put',stc_length,stc_all]
 exact ⟨_,Frz.pure rfl,rfl⟩
theorem refRun_c (code:List Int) (data:Int) (inp:ByteArray) (fuel:Int) (hcode:∀ x ∈ code,In32 x) (hcl:code.length≤1000000) (hi:inp.size≤1000000000) (hfu:fuel≤4000000000000000000) :
 Contract Try.prog 13 [imgA code data,strv inp,I fuel] (fun r=>r=runA code data inp fuel):=by
 have hs:=start_len data
 have ho:(startF data).out.size=0:=rfl
 refine Contract.of_call (VCall.of_body hmix f_scref10_Run (by simp) ?_)
 simp only[go_sem,c_scref10_Run]
 refine ECall.of (refstart_c code data) (SleL.pure rfl) ⟨_,fun _=>Iff.rfl⟩ fun x hx=>?_
 subst hx
 simp only[go_sem]
 refine ECall.of (refgo_c code data inp (startF data) fuel hcode hcl hi (wf_start data) (by omega) (by omega) (by omega)) (SleL.pure rfl) ⟨_,fun _=>Iff.rfl⟩ fun x hx=>?_
 subst hx
 show _
 unfold runA endF runF
 generalize runN code inp (startF data) fuel.toNat=ρ
 by_cases h:ρ.fin=0
 ·simp only[go_sem,s_zero,s_put,s_put',s_all,stc_length,stc_all,s_fin,s_out,s_st,ss_fin,eq_true h,if_pos h]
  exact ⟨_,Frz.pure rfl,rfl⟩
 ·simp only[go_sem,s_zero,s_put,s_put',s_all,stc_length,stc_all,s_fin,s_out,s_st,ss_fin,eq_false h,if_neg h]
  exact ⟨_,Frz.pure rfl,rfl⟩
set_option maxRecDepth 10000
open Go.V
theorem fuel_c (s:SP) (n:Int) (hw:0≤s.words∧s.words≤32768) (hn:0≤n∧n≤1000000):Contract Try.prog 11 [spA s,I n] (fun r=>r=I ((n+1)*(64+8*s.words))):=by
 refine Contract.of_call (VCall.of_body hmix f_scref22_Fuel (by simp) ?_)
 have e1:IntKind.i64.wrap (n+1)=n+1:=i64_in (by omega) (by omega)
 have e2:IntKind.i64.wrap (8*s.words)=8*s.words:=i64_in (by omega) (by omega)
 have e3:IntKind.i64.wrap (64+8*s.words)=64+8*s.words:=i64_in (by omega) (by omega)
 have hm:0≤(n+1)*(64+8*s.words)∧(n+1)*(64+8*s.words)≤1000001*300000:=⟨Int.mul_nonneg (by omega) (by omega),Int.mul_le_mul (by omega) (by omega) (by omega) (by omega)⟩
 have e4:IntKind.i64.wrap ((n+1)*(64+8*s.words))=(n+1)*(64+8*s.words):=i64_in (by omega) (by omega)
 simp only[go_sem,c_scref22_Fuel,e1,e2,e3,e4]
 exact ⟨_,Frz.pure rfl,rfl⟩
theorem ends_c (a b:Int) (s t:ByteArray) (m n:Int):Contract Try.prog 20 [.agg [I a,.val (.string s),I m],.agg [I b,.val (.string t),I n]] (fun r=>r=B (decide (a=b) && (s.toList == t.toList))):=by
 refine Contract.of_call (VCall.of_body hmix f_scref10_Ends (by simp) ?_)
 by_cases h:a=b
 ·simp only[go_sem,c_scref10_Ends,eq_true h]
  exact ⟨_,Frz.pure rfl,by simp[h]⟩
 ·simp only[go_sem,c_scref10_Ends,eq_false h]
  exact ⟨_,Frz.pure rfl,by simp[h]⟩
theorem SzP.sim {s:SP} (h:SzP s):SimP s:=⟨h.r,fun f hf=>depS_sol h.r hf,h.ofH.dat,h.wf⟩
theorem SzP.cd {s:SP} (h:SzP s):CdOk (fixE s):=by
 refine ⟨fun i hi=>⟨(h.fix i hi).1,(h.fix i hi).2.1⟩,?_⟩
 have:(fixE s).length=(endE s).l.length:=by simp[fixE,fixY]
 have:=h.ofH.len
 omega
theorem SzP.cok {s:SP} (h:SzP s):(∀ x ∈ codeE s,In32 x)∧(codeE s).length≤1000000:=by
 have hc:=h.cd
 refine ⟨wrds_in hc,?_⟩
 unfold codeE;rw[List.length_map];exact hc.len
theorem SzP.run {s:SP} (h:SzP s) {inp:ByteArray} (hi:inp.size≤1000000000) {k:Nat} (hk:k≤60000) (hfin:(runS s inp (startS s) k).fin≠0) {F:Int} (hF:(((runS s inp (startS s) k).steps:Int)+1)*(64+8*s.words)≤F) :
 endF (runF (codeE s) (dataE s) inp F)=(runS s inp (startS s) k).fin∧(runF (codeE s) (dataE s) inp F).out=⟨(runS s inp (startS s) k).out.toArray⟩:=by
 have hw:=h.r.w0
 have h0:0≤(((runS s inp (startS s) k).steps:Int)+1)*(64+8*s.words):=Int.mul_nonneg (by omega) (by omega)
 obtain ⟨e1,e2⟩:=sim_end h.sim h.cd hi hk hfin (F:=F.toNat) (by omega)
 refine ⟨?_,?_⟩
 ·show (if (runN (wrds (fixE s)) inp (startF (dataE s)) F.toNat).fin=0 then 5 else (runN (wrds (fixE s)) inp (startF (dataE s)) F.toNat).fin)=_
  rw[e1,if_neg hfin]
 ·have:∀ (a:ByteArray) (l:List UInt8),a.data.toList=l→a=⟨l.toArray⟩:=fun a l e=>by subst e;cases a;simp
  exact this _ _ e2
/- The document's example. -/
def plE:SP:=⟨0,[⟨0,0,0,false,[⟨1,0,0,65⟩,⟨13,0,0,0⟩,⟨11,0,0,0⟩]⟩]⟩
theorem plE_right:RightP plE:=by
 refine ⟨by decide,by decide,by decide,by decide,fun f hf=>?_,rfl,rfl⟩
 obtain rfl:f=0:=by simp[plE]at hf;exact hf
 refine ⟨⟨by decide,by decide,by decide,by decide,by decide⟩,fits_of ?_,⟨[0,1,0],sol_of (by kernel_rfl)⟩⟩
 show ∀ x ∈ [(⟨1,0,0,65⟩:SI),⟨13,0,0,0⟩,⟨11,0,0,0⟩],FitsP plE 0 x
 intro x hx
 simp only[List.mem_cons,List.not_mem_nil,or_false]at hx
 rcases hx with rfl | rfl | rfl<;>decide
theorem plE_sz:SzP plE:=by
 refine ⟨plE_right,fun g hg x hx=>?_,by decide,by decide,by decide⟩
 rw[List.mem_singleton.1 hg]at hx
 simp only[List.mem_cons,List.not_mem_nil,or_false]at hx
 rcases hx with rfl | rfl | rfl<;>exact ⟨by decide,by decide⟩
theorem plE_run:runS plE ⟨#[]⟩ (startS plE) 3=⟨[],0,[65],3,1,⟨0,3,[]⟩,[]⟩:=by kernel_rfl
theorem plain_c:Contract Try.prog 21 [] (fun r=>r=spA plE):=by
 refine Contract.of_call (VCall.of_body hmix f_sclaw22_plain (by simp) ?_)
 simp only[go_sem,c_sclaw22_plain]
 exact ⟨_,frz_one 0 ⟨0,0,0,false,[⟨1,0,0,65⟩,⟨13,0,0,0⟩,⟨11,0,0,0⟩]⟩ rfl rfl,rfl⟩
theorem alive_c:Contract Try.prog 7 [] (fun r=>r=B true):=by
 refine Contract.of_call (VCall.of_body hmix f_sclaw22_alive (by simp) ?_)
 have hz:=plE_sz
 have hc:=hz.cok
 have hrun:=hz.run (inp:=⟨#[]⟩) (by decide) (k:=3) (by decide) (by rw[plE_run];decide) (F:=300) (by rw[plE_run];decide)
 rw[plE_run]at hrun
 have k1:=of22_c hz.ofH
 unfold ofA at k1
 have k2:=refRun_c (codeE plE) (dataE plE) ⟨#[]⟩ 300 hc.1 hc.2 (by decide) (by decide)
 unfold runA at k2
 rw[hrun.1,hrun.2]at k2
 generalize runF (codeE plE) (dataE plE) ⟨#[]⟩ 300=ρ at *
 generalize codeE plE=code at *
 generalize dataE plE=data at *
 simp only[go_sem,c_sclaw22_alive]
 refine VCall.of_contract plain_c (SleL.pure rfl) fun r hr=>?_
 subst hr
 simp only[go_sem]
 refine VCall.of_contract k1 (SleL.pure rfl) fun r hr=>?_
 subst hr
 simp only[go_sem,Int.reduceEq,Int.reduceBEq]
 refine VCall.of_contract k2 (SleL.pure rfl) fun r hr=>?_
 subst hr
 simp only[go_sem,Int.reduceEq,Int.reduceBEq]
 refine VCall.of_contract (ends_c _ _ _ _ _ _) (SleL.pure rfl) fun r hr=>?_
 subst hr
 simp only[go_sem,Int.reduceEq,Int.reduceBEq]
 exact ⟨_,Frz.pure rfl,by simp⟩
set_option maxRecDepth 10000
open Go.V
abbrev rnR (cf:AV) (s sw so:Nat) (x:Int) (o:List UInt8) (n:Nat) (tl:List VObj):List VObj :=
 ⟨0,62,1,[I 1,cf]⟩::⟨1,34,1,[I 0,strv ⟨#[]⟩,I 0]⟩::⟨sw,30,1,[U32 x]⟩::⟨s,99,1,[I 1,cf,.ref 2 sw 0 1,strv ⟨#[]⟩,I 0,.ref 4 so 0 o.length,I n,I 100,I 0,B false,U32 0]⟩::⟨so,5,1,o.map U8⟩::tl
theorem get_last {α:Type} (l:List α) (a:α):(l++[a])[l.length]? = some a:=by simp
theorem get_mid {α:Type} (l:List α) (a:α) (m:List α):(l++a::m)[l.length]? = some a:=by simp
theorem app_one {α:Type} (l m:List α) (a:α):(l++[a])++m=l++a::m:=by simp
theorem app_two {α:Type} (l m:List α) (a b:α):(l++a::m)++[b]=l++a::(m++[b]):=by simp
theorem app_thr {α:Type} (l m k:List α) (a:α):(l++a::m)++k=l++a::(m++k):=by simp
theorem get_end {α:Type} (l m:List α) (a b:α):(l++a::(m++[b]))[(l++a::m).length]? = some b:=by
 rw[← app_two];exact get_last _ _
def ExP (cf e:AV) (x y:Int):Prop:=∀ (s sw so:Nat) (o:List UInt8) (n:Nat) (tl:List VObj) (nx:Nat) (C:AV→List VObj→Nat→Prop),(∀ m nx',C (U32 y) (rnR cf s sw so x o n (tl++m)) nx')→VCall Try.prog 83 [.ptr 3 s 0,e] (rnR cf s sw so x o n tl) nx C
def StP (cf t:AV) (x:Int) (o:List UInt8) (n:Nat) (x':Int) (o':List UInt8) (n':Nat):Prop:=∀ (s sw so:Nat) (tl:List VObj) (nx:Nat) (C:AV→List VObj→Nat→Prop),(∀ r so' m nx',C r (rnR cf s sw so' x' o' n' (tl++m)) nx')→VCall Try.prog 47 [.ptr 3 s 0,t] (rnR cf s sw so x o n tl) nx C
def StsP (cf:AV) (l:List (List AV)) (x:Int) (o:List UInt8) (n:Nat) (x':Int) (o':List UInt8) (n':Nat):Prop:=∀ (s sw so:Nat) (tl:List VObj) (nx:Nat) (C:AV→List VObj→Nat→Prop),(∀ r so' m nx',C r (rnR cf s sw so' x' o' n' (tl++m)) nx')→VCall Try.prog 32 [.ptr 3 s 0,.imm 6 (l.map .agg)] (rnR cf s sw so x o n tl) nx C
section
variable {cf:AV} {s sw so:Nat} {x:Int} {o:List UInt8} {n:Nat} {tl:List VObj} {nx:Nat} {C:AV→List VObj→Nat→Prop}
theorem tick_v (hn:n<100) (hC:C (B true) (rnR cf s sw so x o (n+1) tl) nx):VCall Try.prog 82 [.ptr 3 s 0] (rnR cf s sw so x o n tl) nx C:=by
 refine VCall.of_body hmix f_scref19_runner_tick (by simp) ?_
 have h1:IntKind.i64.wrap ((n:Int)+1)=((n+1:Nat):Int):=by rw[i64_in (by omega) (by omega)];omega
 simp only[go_sem,c_scref19_runner_tick,Int.reduceEq,Int.reduceBEq,ge_iff_le,eq_false (show ¬ (100:Int)≤n by omega),h1]
 exact hC
theorem cnum_v (v a b c:Int):ExP cf (.agg [I 1,I a,U32 v,I b,I c,.imm 6 []]) x v:=fun s sw so o n tl nx C hC=>by
 refine VCall.of_body hmix f_scref19_runner_expr (by simp) ?_
 simp only[go_sem,c_scref19_runner_expr,Int.reduceEq,Int.reduceBEq,get_last,get_mid,get_end]
 exact hC _ _
theorem cvar_v (v a c:Int):ExP cf (.agg [I 2,I a,U32 v,I 0,I c,.imm 6 []]) x x:=fun s sw so o n tl nx C hC=>by
 refine VCall.of_body hmix f_scref19_runner_expr (by simp) ?_
 simp only[go_sem,c_scref19_runner_expr,Int.reduceEq,Int.reduceBEq,get_last,get_mid,get_end]
 exact hC _ _
theorem cop_v {e1 e2:List AV} {op y z:Int} (h1:ExP cf (.agg e1) x y) (h2:ExP cf (.agg e2) x z) (l1:e1.length=6) (l2:e2.length=6) (o1:(AV.agg e1).laid=true) (o2:(AV.agg e2).laid=true) (hy:In32 y) (hz:In32 z) (ho:(applyW op y z).2=0) :
 ExP cf (.agg [I 6,I op,U32 0,I 0,I 0,.imm 6 [.agg e1,.agg e2]]) x (applyW op y z).1:=fun s sw so o n tl nx C hC=>by
 refine VCall.of_body hmix f_scref19_runner_expr (by simp) ?_
 have ht:tup2 (applyW op y z) = .tup [U32 (applyW op y z).1,I 0]:=by unfold tup2;rw[ho]
 have k:=refapply_c op y z hy hz
 rw[ht]at k
 simp only[go_sem,c_scref19_runner_expr,Int.reduceEq,Int.reduceBEq,get_last,get_mid,get_end,l1,l2]
 refine h1 _ _ _ _ _ _ _ _ fun m nx'=>?_
 simp only[go_sem,Int.reduceEq,Int.reduceBEq,get_last,get_mid,get_end,l1,l2,app_one,app_two,app_thr]
 refine h2 _ _ _ _ _ _ _ _ fun m2 nx2=>?_
 simp only[go_sem,Int.reduceEq,Int.reduceBEq,get_last,get_mid,get_end,l1,l2,app_one,app_two,app_thr]
 refine VCall.of_contract k (SleL.pure rfl) fun r hr=>?_
 subst hr
 simp only[go_sem,Int.reduceEq,Int.reduceBEq,get_last,get_mid,get_end,l1,l2,app_one,app_two,app_thr]
 exact hC _ _
theorem cset_v {e:List AV} {y:Int} (h1:ExP cf (.agg e) x y) (l1:e.length=6) (o1:(AV.agg e).laid=true):StP cf (.agg [I 1,I 0,I 0,.imm 6 [.agg e],.imm 6 [],.imm 6 []]) x o n y o n:=fun s sw so tl nx C hC=>by
 refine VCall.of_body hmix f_scref19_runner_stmt (by simp) ?_
 simp only[go_sem,c_scref19_runner_stmt,Int.reduceEq,Int.reduceBEq,get_last,get_mid,get_end,l1]
 refine h1 _ _ _ _ _ _ _ _ fun m nx'=>?_
 simp only[go_sem,Int.reduceEq,Int.reduceBEq,get_last,get_mid,get_end,l1,app_one,app_two,app_thr]
 exact hC _ _ _ _
theorem cput_v {e:List AV} {y:Int} (h1:ExP cf (.agg e) x y) (l1:e.length=6) (o1:(AV.agg e).laid=true) (hy:In32 y) (hl:o.length<65536):StP cf (.agg [I 3,I 0,I 0,.imm 6 [.agg e],.imm 6 [],.imm 6 []]) x o n x (o++[byteS y]) n:=fun s sw so tl nx C hC=>by
 refine VCall.of_body hmix f_scref19_runner_stmt (by simp) ?_
 simp only[go_sem,c_scref19_runner_stmt,Int.reduceEq,Int.reduceBEq,get_last,get_mid,get_end,l1]
 refine h1 _ _ _ _ _ _ _ _ fun m nx'=>?_
 simp only[go_sem,Int.reduceEq,Int.reduceBEq,get_last,get_mid,get_end,l1,app_one,app_two,app_thr,ge_iff_le,eq_false (show ¬ (65536:Int)≤o.length by omega)]
 have htk:List.take o.length (o.map U8)=o.map U8:=List.take_of_length_le (by simp)
 have hb:IntKind.u8.wrap (y.tmod 256)=((byteS y).toNat:Int):=by
  rw[byteS_eq,IntKind.wrap_u8,IntKind.wrap_u8,Int.tmod_eq_emod_of_nonneg hy.1];omega
 have hcl:o.map U8++[AV.val (.int .u8 ((byteS y).toNat:Int))]=(o++[byteS y]).map U8:=by simp
 have hmx:(200000000:Nat)≤maxLen:=by decide
 refine ⟨by omega,by omega,?_⟩
 rw[hb,htk,hcl]
 have h:=hC (.tup []) (nx'+1) ([⟨nx,57,1,[I 3,I 0,I 0,AV.imm 6 [AV.agg e],AV.imm 6 [],AV.imm 6 []]⟩]++(m++[⟨nx',5,1,[AV.val (.int .u8 ((byteS y).toNat:Int))]⟩])) (nx'+1+1)
 simpa [rnR] using h
structure CQ where
 i:Nat
 so:Nat
 nx:Nat
theorem stsP {l:List (List AV)} {fx:Nat→Int} {fo:Nat→List UInt8} {fn:Nat→Nat} (hll:l.length≤1000) (hla:∀ i<l.length,(l.getD i default).length=6∧StP cf (.agg (l.getD i default)) (fx i) (fo i) (fn i) (fx (i+1)) (fo (i+1)) (fn (i+1))) :
 StsP cf l (fx 0) (fo 0) (fn 0) (fx l.length) (fo l.length) (fn l.length):=fun s sw so tl nx C hC=>by
 refine VCall.of_body hmix f_scref19_runner_stmts (by simp) ?_
 simp only[go_sem,c_scref19_runner_stmts,Int.reduceEq,Int.reduceBEq]
 refine VW_loop (fun q:CQ=>⟨[(0,.ptr 3 s 0),(1,.imm 6 (l.map .agg)),(4,I q.i)],rnR cf s sw q.so (fx q.i) (fo q.i) (fn q.i) tl,q.nx⟩) (fun q=>q.i≤l.length) (fun q=>l.length-q.i) ⟨0,so,nx⟩ (Wk.mk (by simp[get_cons]) ⟨[],by simp⟩ (Nat.le_refl _)) (Nat.zero_le _) ?_
 rintro ⟨i,so,nx⟩ hi
 simp only at hi
 by_cases hlt:i<l.length
 ·obtain ⟨h6,hS⟩:=hla i hlt
  have u1:IntKind.i64.wrap ((i:Int)+1)=((i+1:Nat):Int):=by rw[i64_in (by omega) (by omega)];omega
  simp only[go_sem,Int.reduceEq,Int.reduceBEq,eq_true (show (i:Int)<l.length by omega),h6]
  repeat ((with_reducible refine And.intro ?_ ?_);· first | omega | (simp;done))
  refine hS _ _ _ _ _ _ fun r so' m nx'=>?_
  simp only[go_sem,Int.reduceEq,Int.reduceBEq,u1]
  exact ⟨⟨i+1,so',nx'⟩,by simp only;omega,by simp only;omega,Wk.mk (by simp[get_cons]) ⟨m,by simp⟩ (Nat.le_refl _)⟩
 ·obtain rfl:i=l.length:=by omega
  simp only[go_sem,Int.reduceEq,Int.reduceBEq,eq_false (show ¬ (l.length:Int)<l.length by omega)]
  have h:=hC (.tup []) so [] nx
  simpa using h
theorem cwhile_v {c:List AV} {L:List (List AV)} {fx:Nat→Int} {fo:Nat→List UInt8} {k:Nat} (l1:c.length=6) (o1:(AV.agg c).laid=true) (hc:∀ j,ExP cf (.agg c) (fx j) (fx j)) (h0:∀ j<k,fx j≠0) (hk:fx k=0) (hn:n+k+1≤100)
 (hb:∀ j<k,∀ n,StsP cf L (fx j) (fo j) n (fx (j+1)) (fo (j+1)) n):StP cf (.agg [I 5,I 0,I 0,.imm 6 [.agg c],.imm 6 (L.map .agg),.imm 6 []]) (fx 0) (fo 0) n (fx k) (fo k) (n+k+1):=fun s sw so tl nx C hC=>by
 refine VCall.of_body hmix f_scref19_runner_stmt (by simp) ?_
 simp only[go_sem,c_scref19_runner_stmt,Int.reduceEq,Int.reduceBEq,get_last,get_mid,get_end,l1]
 refine VW_loop (fun q:CQ=>⟨[(0,.ptr 3 s 0),(3,.ptr (tl.length+1+1+1+1+1) nx 0)],rnR cf s sw q.so (fx q.i) (fo q.i) (n+q.i) (tl++[⟨nx,57,1,[I 5,I 0,I 0,.imm 6 [.agg c],.imm 6 (L.map .agg),.imm 6 []]⟩]),q.nx⟩) (fun q=>q.i≤k) (fun q=>k-q.i) ⟨0,so,nx+1⟩ (Wk.mk (by simp[get_cons]) ⟨[],by simp⟩ (Nat.le_refl _)) (Nat.zero_le _) ?_
 rintro ⟨i,so,nx1⟩ hi
 simp only at hi
 simp only[go_sem,Int.reduceEq,Int.reduceBEq,get_last,get_mid,get_end,l1]
 refine tick_v (by omega) ?_
 simp only[go_sem,Int.reduceEq,Int.reduceBEq,get_last,get_mid,get_end,l1]
 refine hc i _ _ _ _ _ _ _ _ fun m nx'=>?_
 by_cases hlt:i<k
 ·simp only[go_sem,Int.reduceEq,Int.reduceBEq,get_last,get_mid,get_end,app_one,app_two,app_thr,l1,eq_false (h0 i hlt),beq_false_of_ne (h0 i hlt)]
  refine hb i hlt _ _ _ _ _ _ _ fun r so' m2 nx2=>?_
  simp only[go_sem,Int.reduceEq,Int.reduceBEq,get_last,get_mid,get_end,app_one,app_two,app_thr,l1]
  exact ⟨⟨i+1,so',nx2⟩,by simp only;omega,by simp only;omega,Wk.mk (by simp[get_cons]) ⟨m++m2,by simp[rnR];omega⟩ (Nat.le_refl _)⟩
 ·obtain rfl:i=k:=by omega
  simp only[go_sem,Int.reduceEq,Int.reduceBEq,get_last,get_mid,get_end,app_one,app_two,app_thr,l1,eq_true hk,beq_self_eq_true]
  have h:=hC (.tup []) so ([⟨nx,57,1,[I 5,I 0,I 0,.imm 6 [.agg c],.imm 6 (L.map .agg),.imm 6 []]⟩]++m) nx'
  simpa [rnR] using h
end
set_option maxRecDepth 10000
open Go.V
abbrev exV:List AV:=[I 2,I 0,U32 0,I 0,I 0,.imm 6 []]
abbrev exN (v:Int):List AV:=[I 1,I 0,U32 v,I 0,I 0,.imm 6 []]
abbrev exO (op v:Int):List AV:=[I 6,I op,U32 0,I 0,I 0,.imm 6 [.agg exV,.agg (exN v)]]
abbrev crS1 (k:Int):List AV:=[I 1,I 0,I 0,.imm 6 [.agg (exN k)],.imm 6 [],.imm 6 []]
abbrev crS3 (a:Int):List AV:=[I 3,I 0,I 0,.imm 6 [.agg (exO 4 a)],.imm 6 [],.imm 6 []]
abbrev crS4:List AV:=[I 1,I 0,I 0,.imm 6 [.agg (exO 5 1)],.imm 6 [],.imm 6 []]
abbrev crS2 (a:Int):List AV:=[I 5,I 0,I 0,.imm 6 [.agg exV],.imm 6 ([crS3 a,crS4].map .agg),.imm 6 []]
abbrev crF (k a:Int):AV:=.imm 5 [.agg [I 0,I 0,I 0,B false,.imm 6 ([crS1 k,crS2 a].map .agg)]]
abbrev crA (k a:Int):AV:=.agg [I 1,crF k a]
def crO (k:Nat) (a:Int) (j:Nat):List UInt8:=(List.range j).map fun i:Nat=>byteS (w32 ((k:Int)-(i:Int)+a))
theorem crO_succ (k:Nat) (a:Int) (j:Nat):crO k a (j+1)=crO k a j++[byteS (w32 ((k:Int)-(j:Int)+a))]:=by simp[crO,List.range_succ]
theorem crO_len (k:Nat) (a:Int) (j:Nat):(crO k a j).length=j:=by simp[crO]
section
variable {cf:AV}
theorem cbody_v {k:Nat} {a:Int} (hk:k≤19) (ha:In32 a) {j:Nat} (hj:j<k) (n:Nat):StsP cf [crS3 a,crS4] ((k:Int)-j) (crO k a j) n ((k:Int)-(j+1:Nat)) (crO k a (j+1)) n:=by
 have hx:In32 ((k:Int)-j):=⟨by omega,by omega⟩
 have e4:∀ y,applyW 4 y a=(w32 (y+a),0):=fun y=>rfl
 have e5:∀ y,applyW 5 y 1=(w32 (y-1),0):=fun y=>rfl
 have h4:=cop_v (cf:=cf) (op:=4) (cvar_v (x:=(k:Int)-j) 0 0 0) (cnum_v (x:=(k:Int)-j) a 0 0 0) rfl rfl rfl rfl hx ha rfl
 have h5:=cop_v (cf:=cf) (op:=5) (cvar_v (x:=(k:Int)-j) 0 0 0) (cnum_v (x:=(k:Int)-j) 1 0 0 0) rfl rfl rfl rfl hx ⟨by decide,by decide⟩ rfl
 rw[e4]at h4
 rw[e5]at h5
 have hw:w32 ((k:Int)-j-1)=(k:Int)-(j+1:Nat):=by rw[show (k:Int)-j-1=(k:Int)-(j+1:Nat) by omega];exact w32_in ⟨by omega,by omega⟩
 rw[hw]at h5
 have s3:=fun n=>cput_v (n:=n) (o:=crO k a j) h4 rfl rfl (w32_ok _) (by rw[crO_len];omega)
 have s4:=fun n o=>cset_v (n:=n) (o:=o) h5 rfl rfl
 have h:=stsP (cf:=cf) (l:=[crS3 a,crS4]) (fx:=fun i=>if i<2 then (k:Int)-j else (k:Int)-(j+1:Nat)) (fo:=fun i=>if i<1 then crO k a j else crO k a (j+1)) (fn:=fun _=>n) (by simp) (fun i hi=>by
  have:i=0∨i=1:=by simp at hi;omega
  rcases this with rfl | rfl
  ·refine ⟨rfl,?_⟩
   have:=s3 n
   rw[← crO_succ]at this
   exact this
  ·exact ⟨rfl,s4 n _⟩)
 exact h
theorem cmain_v {k:Nat} {a:Int} (hk:k≤19) (ha:In32 a):StsP cf [crS1 k,crS2 a] 0 [] 0 0 (crO k a k) (k+1):=by
 have s1:=cset_v (cf:=cf) (n:=0) (o:=[]) (cnum_v (x:=0) (k:Int) 0 0 0) rfl rfl
 have s2:=cwhile_v (cf:=cf) (n:=0) (c:=exV) (L:=[crS3 a,crS4]) (fx:=fun j=>(k:Int)-j) (fo:=crO k a) (k:=k) rfl rfl (fun j=>cvar_v 0 0 0) (fun j hj=>by omega) (by simp) (by omega) (fun j hj n=>cbody_v hk ha hj n)
 have h:=stsP (cf:=cf) (l:=[crS1 k,crS2 a]) (fx:=fun i=>if i=1 then (k:Int) else 0) (fo:=fun i=>if i<2 then [] else crO k a k) (fn:=fun i=>if i<2 then 0 else k+1) (by simp) (fun i hi=>by
  have:i=0∨i=1:=by simp at hi;omega
  rcases this with rfl | rfl
  ·exact ⟨rfl,s1⟩
  ·refine ⟨rfl,?_⟩
   have e0:crO k a 0=[]:=rfl
   simp only[Int.sub_self,e0,Nat.zero_add]at s2
   have e1:(k:Int)-((0:Nat):Int)=k:=by omega
   rw[e1]at s2
   exact s2)
 exact h
end
theorem crun_c {k:Nat} {a:Int} (hk:k≤19) (ha:In32 a):Contract Try.prog 19 [crA k a,strv ⟨#[]⟩,I 100] (fun r=>r = .agg [I 1,strv ⟨(crO k a k).toArray⟩,I ((k:Int)+1)]):=by
 have hq:=f_scref19_Run
 unfold compF compFp at hq
 have hmx:(2000000:Nat)≤maxLen:=by decide
 refine Contract.of_call (VCall.of_bodyS (pt:=false) (pf:=false) hmix hq (by simp) ?_)
 simp only[go_sem,show ((1:Nat):Int)=1 from rfl,show IntKind.i64.wrap (1-1)=0 from rfl,VWs_seq,VWs_ret,VWs_ops,VWs_cond,Int.reduceEq,Int.reduceBEq,c_scref19_Run]
 refine ⟨_,Wk.refl _,?_⟩
 simp only[go_sem,show ((1:Nat):Int)=1 from rfl,show IntKind.i64.wrap (1-1)=0 from rfl,VWs_seq,VWs_ret,VWs_ops,VWs_cond,Int.reduceEq,Int.reduceBEq]
 refine ⟨_,Wk.refl _,?_⟩
 simp only[go_sem,show ((1:Nat):Int)=1 from rfl,show IntKind.i64.wrap (1-1)=0 from rfl,VWs_seq,VWs_ret,VWs_ops,VWs_cond,Int.reduceEq,Int.reduceBEq]
 refine ⟨by decide,?_⟩
 have v1:=virt_at (env:=[(3,.ptr 0 0 0),(6,.ptr 1 1 0),(7,.ptr 3 3 0)]) (H:=[⟨0,62,1,[I 1,crF k a]⟩,⟨1,34,1,[I 0,strv ⟨#[]⟩,I 0]⟩,⟨2,30,1,[U32 0]⟩,⟨3,99,1,[I 1,crF k a,.ref 2 2 0 1,strv ⟨#[]⟩,I 0,nilv,I 0,I 100,I 0,B false,U32 0]⟩]) (nx:=4) (i:=3) (ob:=⟨3,99,1,[I 1,crF k a,.ref 2 2 0 1,strv ⟨#[]⟩,I 0,nilv,I 0,I 100,I 0,B false,U32 0]⟩) (cs':=[I 1,crF k a,.ref 2 2 0 1,strv ⟨#[]⟩,I 0,.ref 4 4 0 0,I 0,I 100,I 0,B false,U32 0]) 5 1 (by decide) (by simp[get_cons]) rfl (by simp) rfl (fun j p q hp hq=>by
  by_cases hj:j=5
  ·subst hj;simp at hp hq;subst hp;subst hq;exact .inr ⟨rfl,by simp⟩
  ·left
   have:[I 1,crF k a,.ref 2 2 0 1,strv ⟨#[]⟩,I 0,nilv,I 0,I 100,I 0,B false,U32 0][j]? = [I 1,crF k a,.ref 2 2 0 1,strv ⟨#[]⟩,I 0,.ref 4 4 0 0,I 0,I 100,I 0,B false,U32 0][j]?:=by
    rcases j with _ | _ | _ | _ | _ | _ | j
    ·rfl
    ·rfl
    ·rfl
    ·rfl
    ·rfl
    ·exact absurd rfl hj
    ·rfl
   rw[hp,hq]at this
   exact Option.some.inj this)
 refine ⟨⟨[(3,.ptr 0 0 0),(6,.ptr 1 1 0),(7,.ptr 3 3 0)],rnR (crF k a) 3 2 4 0 [] 0 [],5⟩,?_,?_⟩
 ·refine Wk.trans ?_ v1
  exact Wk.mk (by simp[get_cons]) ⟨[],by simp⟩ (Nat.le_refl _)
 simp only[go_sem,show ((1:Nat):Int)=1 from rfl,show IntKind.i64.wrap (1-1)=0 from rfl,VWs_seq,VWs_ret,VWs_ops,VWs_cond,Int.reduceEq,Int.reduceBEq]
 refine cmain_v hk ha _ _ _ _ _ _ fun r so' m nx'=>?_
 simp only[go_sem,show ((1:Nat):Int)=1 from rfl,show IntKind.i64.wrap (1-1)=0 from rfl,VWs_seq,VWs_ret,VWs_ops,VWs_cond,Int.reduceEq,Int.reduceBEq]
 refine ⟨_,Wk.refl _,?_⟩
 simp only[go_sem,show ((1:Nat):Int)=1 from rfl,show IntKind.i64.wrap (1-1)=0 from rfl,VWs_seq,VWs_ret,VWs_ops,VWs_cond,Int.reduceEq,Int.reduceBEq]
 refine ⟨_,Wk.refl _,?_⟩
 simp only[go_sem,show ((1:Nat):Int)=1 from rfl,show IntKind.i64.wrap (1-1)=0 from rfl,VWs_seq,VWs_ret,VWs_ops,VWs_cond,Int.reduceEq,Int.reduceBEq]
 have htk:List.take (crO k a k).length ((crO k a k).map U8)=(crO k a k).map U8:=List.take_of_length_le (by simp)
 rw[htk,b2sT_U8]
 simp only[go_sem,show ((1:Nat):Int)=1 from rfl,VWs_seq,VWs_ret,VWs_ops,VWs_cond,Int.reduceEq,Int.reduceBEq]
 refine ⟨_,Wk.refl _,?_⟩
 simp only[go_sem,show ((1:Nat):Int)=1 from rfl,VWs_seq,VWs_ret,VWs_ops,VWs_cond,Int.reduceEq,Int.reduceBEq]
 exact ⟨_,Frz.pure rfl,by simp⟩
set_option maxRecDepth 10000
open Go.V
section
variable {W v:Int} {m p:Nat}
end
set_option maxRecDepth 10000
open Go.V
def csL (k a:Int):List SI:=[⟨1,0,0,k⟩,⟨3,0,0,0⟩,⟨2,0,0,0⟩,⟨9,13,0,0⟩,⟨2,0,0,0⟩,⟨1,0,0,a⟩,⟨6,4,0,0⟩,⟨13,0,0,0⟩,⟨2,0,0,0⟩,⟨1,0,0,1⟩,⟨6,5,0,0⟩,⟨3,0,0,0⟩,⟨8,2,0,0⟩,⟨11,0,0,0⟩]
def csP (k a:Int):SP:=⟨1,[⟨0,0,0,false,csL k a⟩]⟩
theorem csS_add (s:SP) (inp:ByteArray) (σ:SM) (a:Nat):∀ b,runS s inp σ (a+b)=runS s inp (runS s inp σ a) b
 | 0=>rfl
 | b+1=>by
  show stepS s inp (runS s inp σ (a+b))=stepS s inp (runS s inp (runS s inp σ a) b)
  rw[csS_add s inp σ a b]
section
variable {k a:Int} {inp:ByteArray}
abbrev csS (x:Int) (o:List UInt8) (t:Nat) (p:Nat) (L:List Int):SM:=⟨[x],0,o,t,0,⟨0,p,L⟩,[]⟩
theorem cs_two (x:Int) (o:List UInt8) (t:Nat):runS (csP k a) inp (csS x o t 2 []) 2=if x=0 then csS x o (t+2) 13 [] else csS x o (t+2) 4 []:=by kernel_rfl
theorem cs_nine (x:Int) (o:List UInt8) (t:Nat):runS (csP k a) inp (csS x o t 4 []) 9=csS (applyW 5 x 1).1 (o++[byteS (applyW 4 x a).1]) (t+9) 2 []:=by kernel_rfl
theorem cs_round {x:Int} (hx:x≠0) (o:List UInt8) (t:Nat):runS (csP k a) inp (csS x o t 2 []) 11=csS (w32 (x-1)) (o++[byteS (w32 (x+a))]) (t+11) 2 []:=by
 rw[show (11:Nat)=2+9 from rfl,csS_add,cs_two,if_neg hx,cs_nine];rfl
theorem cs_end (o:List UInt8) (t:Nat):runS (csP k a) inp (csS 0 o t 2 []) 3=⟨[0],0,o,t+3,1,⟨0,14,[]⟩,[]⟩:=by kernel_rfl
theorem cs_start:runS (csP k a) inp (startS (csP k a)) 2=csS k [] 2 2 []:=by kernel_rfl
end
theorem cs_at {k:Nat} {a:Int} {inp:ByteArray} (hk:k≤19):∀ j,j≤k→runS (csP k a) inp (startS (csP k a)) (2+11*j)=csS ((k:Int)-j) (crO k a j) (2+11*j) 2 []
 | 0,_=>by
  rw[Nat.mul_zero,Nat.add_zero,cs_start]
  rw[show (k:Int)-((0:Nat):Int)=k by omega];rfl
 | j+1,h=>by
  rw[show 2+11*(j+1)=2+11*j+11 by omega,csS_add,cs_at hk j (by omega),cs_round (by omega),crO_succ,show w32 ((k:Int)-j-1)=(k:Int)-j-1 from w32_in ⟨by omega,by omega⟩]
  rw[show (k:Int)-j-1=(k:Int)-(j+1:Nat) by omega]
theorem cs_all {k:Nat} {a:Int} {inp:ByteArray} (hk:k≤19):runS (csP k a) inp (startS (csP k a)) (2+11*k+3)=⟨[0],0,crO k a k,2+11*k+3,1,⟨0,14,[]⟩,[]⟩:=by
 rw[csS_add,cs_at hk k (Nat.le_refl _),show (k:Int)-(k:Nat)=0 by omega,cs_end]
theorem cs_right (k a:Int):RightP (csP k a):=by
 have hc:((csP k a).fn 0).code=csL k a:=rfl
 refine ⟨show (0:Int)≤1 by decide,show (1:Int)≤32768 by decide,show 1≤1 by decide,show 1≤64 by decide,fun f hf=>?_,rfl,rfl⟩
 have hf0:f=0:=by have:(csP k a).funcs.length=1:=rfl;omega
 subst hf0
 refine ⟨⟨show (0:Int)≤0 by decide,show (0:Int)≤0 by decide,show (0:Int)≤0 by decide,show (0:Int)≤1 by decide,show (0:Int)≤1-0 by decide⟩,fits_of ?_,?_⟩
 ·intro x hx
  rw[hc]at hx
  simp only[csL,List.mem_cons,List.not_mem_nil,or_false]at hx
  rcases hx with rfl | rfl | rfl | rfl | rfl | rfl | rfl | rfl | rfl | rfl | rfl | rfl | rfl | rfl<;>(unfold FitsP;simp[csP,csL,SP.fn])
 ·refine ⟨[0,1,0,1,0,1,2,1,0,1,2,1,0,0],by rw[hc];simp[csL],by rw[hc];rfl,rfl,fun i hi _=>?_⟩
  unfold Cl
  rw[hc]
  have hi2:i<14:=hi
  have hw:((csP k a).fn 0).word=false:=rfl
  match i with
  | 0=>exact ⟨1,by simp[effD,tkS,csL],fun k hk=>by simp[nextL,csL]at hk;subst hk;simp[csL]⟩
  | 1=>exact ⟨0,by simp[effD,tkS,csL],fun k hk=>by simp[nextL,csL]at hk;subst hk;simp[csL]⟩
  | 2=>exact ⟨1,by simp[effD,tkS,csL],fun k hk=>by simp[nextL,csL]at hk;subst hk;simp[csL]⟩
  | 3=>exact ⟨0,by simp[effD,tkS,csL],fun k hk=>by simp[nextL,csL]at hk;rcases hk with rfl | rfl<;>simp[csL]⟩
  | 4=>exact ⟨1,by simp[effD,tkS,csL],fun k hk=>by simp[nextL,csL]at hk;subst hk;simp[csL]⟩
  | 5=>exact ⟨2,by simp[effD,tkS,csL],fun k hk=>by simp[nextL,csL]at hk;subst hk;simp[csL]⟩
  | 6=>exact ⟨1,by simp[effD,tkS,csL],fun k hk=>by simp[nextL,csL]at hk;subst hk;simp[csL]⟩
  | 7=>exact ⟨0,by simp[effD,tkS,csL],fun k hk=>by simp[nextL,csL]at hk;subst hk;simp[csL]⟩
  | 8=>exact ⟨1,by simp[effD,tkS,csL],fun k hk=>by simp[nextL,csL]at hk;subst hk;simp[csL]⟩
  | 9=>exact ⟨2,by simp[effD,tkS,csL],fun k hk=>by simp[nextL,csL]at hk;subst hk;simp[csL]⟩
  | 10=>exact ⟨1,by simp[effD,tkS,csL],fun k hk=>by simp[nextL,csL]at hk;subst hk;simp[csL]⟩
  | 11=>exact ⟨0,by simp[effD,tkS,csL],fun k hk=>by simp[nextL,csL]at hk;subst hk;simp[csL]⟩
  | 12=>exact ⟨0,by simp[effD,tkS,csL],fun k hk=>by simp[nextL,csL]at hk;subst hk;simp[csL]⟩
  | 13=>exact ⟨0,by simp[effD,tkS,csL,hw,cntB],fun k hk=>by simp[nextL,csL]at hk⟩
theorem cs_sz {k a:Int} (hk:In32 k) (ha:In32 a):SzP (csP k a):=by
 refine ⟨cs_right k a,fun g hg x hx=>?_,show (1:Int)≤8000 by decide,show 14≤2000 by decide,show 0≤2000 by decide⟩
 obtain rfl:=List.mem_singleton.1 hg
 have z:In32 0:=⟨by decide,by decide⟩
 have o:In32 1:=⟨by decide,by decide⟩
 simp only[csL,List.mem_cons,List.not_mem_nil,or_false]at hx
 rcases hx with rfl | rfl | rfl | rfl | rfl | rfl | rfl | rfl | rfl | rfl | rfl | rfl | rfl | rfl<;>first | exact hk | exact ha | exact z | exact o
set_option maxRecDepth 10000
open Go.V
def hpR (sw:Bool) (o0 o1 mem calls mach:VObj) (T:List VObj):List VObj:=o0::o1::(if sw then mem else calls)::(if sw then calls else mem)::mach::T
def mi (sw:Bool):Nat:=if sw then 2 else 3
def ci (sw:Bool):Nat:=if sw then 3 else 2
section
variable {sw:Bool} {o0 o1 mem calls mach x:VObj} {T:List VObj} {k:Nat}
end
def idOf:AV→Option Nat
 | .ref id _ _ _=>some id
 | _=>none
def UpT (T T':List VObj) (v v':AV):Prop :=
 (∀ (k:Nat) (ob:VObj),T[k]? = some ob→idOf v≠some (k+5)→T'[k]? = some ob)∧(idOf v'=idOf v∨∃ k,idOf v'=some (k+5)∧T.length≤k)
def FA (T:List VObj):List Fm→List AV→Prop
 | [],vs=>vs=[]
 | c::fs,vs=>∃ v l,vs=v::l∧PW T v c.L∧FA T fs l∧∀ u ∈ l,idOf u=none∨idOf u≠idOf v
theorem PW.get {T:List VObj} {v:AV} {l:List Int} {k:Nat} (h:PW T v l) (hv:idOf v=some (k+5)):∃ ob:VObj,T[k]? = some ob∧ob.ty=30:=by
 rcases h with ⟨rfl,_⟩ | ⟨k',s,rest,rfl,h2,_⟩
 ·cases hv
 ·simp only[idOf,Option.some.injEq]at hv
  obtain rfl:k=k':=by omega
  exact ⟨_,h2,rfl⟩
theorem PW.up {T T':List VObj} {v v' u:AV} {l:List Int} (h:PW T u l) (k:UpT T T' v v') (hn:idOf u=none∨idOf u≠idOf v):PW T' u l:=by
 rcases h with h | ⟨k0,s,rest,rfl,h2,h3⟩
 ·exact .inl h
 ·refine .inr ⟨k0,s,rest,rfl,k.1 _ _ h2 fun e=>?_,h3⟩
  rcases hn with hn | hn
  ·cases hn
  ·exact hn e.symm
theorem FA.up {T T':List VObj} {v v':AV} (k:UpT T T' v v'):∀ {fs:List Fm} {vs:List AV},FA T fs vs→(∀ u ∈ vs,idOf u=none∨idOf u≠idOf v)→FA T' fs vs∧∀ u ∈ vs,idOf u=none∨idOf u≠idOf v'
 | [],vs,h,_=>by simp only[FA]at h;subst h;exact ⟨rfl,by simp⟩
 | c::fs,vs,h,hn=>by
  simp only[FA]at h
  obtain ⟨u,l,rfl,h1,h2,h3⟩:=h
  obtain ⟨g1,g2⟩:=FA.up k h2 fun x hx=>hn x (List.mem_cons_of_mem _ hx)
  refine ⟨⟨u,l,rfl,h1.up k (hn u (by simp)),g1,h3⟩,fun x hx=>?_⟩
  rcases List.mem_cons.1 hx with rfl | hx
  ·rcases k.2 with e | ⟨j,e,hj⟩
   ·rw[e];exact hn x (by simp)
   ·rw[e]
    cases hx:idOf x with
    | none=>exact .inl rfl
    | some i =>
     refine .inr fun e2=>?_
     cases e2
     obtain ⟨ob,ho,_⟩:=h1.get hx
     have:=(List.getElem?_eq_some_iff.1 ho).1
     omega
  ·exact g2 x hx
theorem PO.up {T T':List VObj} {v v' u:AV} {l:List UInt8} {m:List Int} (h:PO T u l) (hv:PW T v m) (k:UpT T T' v v'):PO T' u l:=by
 rcases h with h | ⟨k0,s,rfl,h2⟩
 ·exact .inl h
 ·refine .inr ⟨k0,s,rfl,k.1 _ _ h2 fun e=>?_⟩
  obtain ⟨ob,g1,g2⟩:=hv.get e
  rw[h2]at g1;cases g1;exact absurd g2 (by show ¬ 5=30;decide)
theorem FA.add {T:List VObj} (R:List VObj):∀ {fs:List Fm} {vs:List AV},FA T fs vs→FA (T++R) fs vs
 | [],vs,h=>by simp only[FA]at h;subst h;rfl
 | c::fs,vs,h=>by
  simp only[FA]at h
  obtain ⟨u,l,rfl,h1,h2,h3⟩:=h
  exact ⟨u,l,rfl,h1.add R,FA.add R h2,h3⟩
theorem UpT.same {T:List VObj} {v v':AV} (h:idOf v'=idOf v):UpT T T v v':=⟨fun _ _ h _=>h,.inl h⟩
abbrev frO (sc:Nat) (cs:List AV):VObj:=⟨sc,69,3,cs⟩
abbrev rmO (sM:Nat) (cs:List AV):VObj:=⟨sM,73,1,cs⟩
section
variable {bel junk:List AV} {F A v:AV} {t:Nat}
end
section
variable (sw:Bool) (o0 o1 mem:VObj) (sc sM nx:Nat) (bel junk:List AV) (F A v:AV) (t:Nat) (c0 c1 c2 c3 c4 c5 c6 c7:AV) (T:List VObj)
end
set_option maxRecDepth 10000
open Go.V
section
variable (sw:Bool) (o0 o1:VObj) (s2 sc sM nx:Nat) (bel junk:List AV) (F A v:AV) (t:Nat) (s:SP) (c0 c2 c3 c5 c6 c7:AV) (T:List VObj) (mem:List Int) (n:Nat)
end
set_option maxRecDepth 10000
open Go.V
def frCs:List Fm→List AV→List AV
 | c::fs,v::vs=>frCs fs vs++[I c.f,I c.at_,v]
 | _,_=>[]
abbrev hM (sw:Bool) (s:SP) (inp:ByteArray) (o0 o1:VObj) (s2 sc sM n:Nat) (mem:List Int) (rd steps:Nat) (fin:Int) (vo:AV) (top:Fm) (v:AV) (below:List Fm) (bvs junk:List AV) (T:List VObj):List VObj :=
 hpR sw o0 o1 (wdO s2 mem) (frO sc (frCs below bvs++I top.f::I top.at_::v::junk)) (rmO sM [I s.words,fnsA s.funcs,strv inp,I rd,.ref (mi sw) s2 0 n,vo,I steps,I fin,.ref (ci sw) sc 0 (below.length+1)]) T
theorem FA.kp {T T':List VObj} (k:Kp 5 T T'):∀ {fs:List Fm} {vs:List AV},FA T fs vs→FA T' fs vs
 | [],vs,h=>by simp only[FA]at h;subst h;rfl
 | c::fs,vs,h=>by
  simp only[FA]at h
  obtain ⟨u,l,rfl,h1,h2,h3⟩:=h
  exact ⟨u,l,rfl,h1.kp k (by decide),FA.kp k h2,h3⟩
set_option maxRecDepth 10000
open Go.V
section
variable {s:SP} {inp:ByteArray} {fuel:Int} {k:Nat} {sc:Nat} {v:AV} {bvs junk:List AV} {vo:AV} {T:List VObj} {nx:Nat} {memO co:VObj} {c3 m4 cr:AV} {fin:Int} {steps:Nat} {out:List UInt8}
end
set_option maxRecDepth 10000
open Go.V Go.ChangeShapes Go.WideShapes Go.ChangeAt Go.RowKit
theorem frz_codeN {n:Nat} {H:List VObj} {nx id s ty len:Nat} (code:List SI) (hid:n≤id) (ho:H[id]? = some ⟨s,ty,4,(code.map siC).flatten⟩) (hl:len=code.length):Frz n H nx (.ref id s 0 len) (.imm 4 (code.map siA)):=by
 have h:=Frz.refT (n:=n) (nx:=nx) (len:=len) hid ho rfl rfl (yss:=code.map siC) (zss:=code.map siC) rfl (fun l hl=>?_) (by simp[hl]) (FrzLL.pure fun l hl=>?_)
 ·rw[List.map_map]at h;exact h
 ·obtain ⟨x,_,rfl⟩:=List.mem_map.1 hl;rfl
 ·obtain ⟨x,_,rfl⟩:=List.mem_map.1 hl;rfl
set_option maxRecDepth 10000
open Go.V Go.ChangeShapes Go.WideShapes Go.ChangeAt Go.RowKit
theorem frzO {n:Nat} {H:List VObj} {nx id s ty z:Nat} {cs ys:List AV} (hid:n≤id) (ho:H[id]? = some ⟨s,ty,z,cs⟩) (hz:cs.length=z) (h:FrzL n H nx cs ys):Frz n H nx (.ref id s 0 1) (.imm z [.agg ys]) :=
 Frz.refT hid ho rfl rfl (yss:=[cs]) (zss:=[ys]) (by simp) (fun l hl=>by rw[List.mem_singleton.1 hl];exact hz) rfl ⟨_,_,rfl,h,rfl⟩
theorem frzT {n:Nat} {H:List VObj} {nx id s ty z:Nat} {cs cs2 ys ys2:List AV} (hid:n≤id) (ho:H[id]? = some ⟨s,ty,z,cs++cs2⟩) (hz:cs.length=z) (hz2:cs2.length=z) (h:FrzL n H nx cs ys) (h2:FrzL n H nx cs2 ys2):Frz n H nx (.ref id s 0 2) (.imm z [.agg ys,.agg ys2]) :=
 Frz.refT hid ho rfl rfl (yss:=[cs,cs2]) (zss:=[ys,ys2]) (by simp) (fun l hl=>by
  simp only[List.mem_cons,List.not_mem_nil,or_false]at hl
  rcases hl with rfl | rfl
  ·exact hz
  ·exact hz2) rfl ⟨_,_,rfl,h,_,_,rfl,h2,rfl⟩
abbrev rxV:List AV:=[I 2,I 0,U32 0,I 0,I 0,nilv]
abbrev rxN (v:Int):List AV:=[I 1,I 0,U32 v,I 0,I 0,nilv]
theorem frz_core {k a:Int} {H:List VObj} {nx:Nat} {s0 s1 s2 s3 s4 s5 s6 s7 s8 s9 e d c b:Nat}
 (h0:H[0]? = some ⟨s0,e,6,rxN k⟩) (h1:H[1]? = some ⟨s1,e,6,rxV⟩) (h2:H[2]? = some ⟨s2,e,6,rxV++rxN a⟩) (h3:H[3]? = some ⟨s3,e,6,[I 6,I 4,U32 0,I 0,I 0,.ref 2 s2 0 2]⟩)
 (h4:H[4]? = some ⟨s4,e,6,rxV++rxN 1⟩) (h5:H[5]? = some ⟨s5,e,6,[I 6,I 5,U32 0,I 0,I 0,.ref 4 s4 0 2]⟩)
 (h6:H[6]? = some ⟨s6,d,6,[I 3,I 0,I 0,.ref 3 s3 0 1,nilv,nilv]++[I 1,I 0,I 0,.ref 5 s5 0 1,nilv,nilv]⟩)
 (h7:H[7]? = some ⟨s7,d,6,[I 1,I 0,I 0,.ref 0 s0 0 1,nilv,nilv]++[I 5,I 0,I 0,.ref 1 s1 0 1,.ref 6 s6 0 2,nilv]⟩)
 (h8:H[8]? = some ⟨s8,c,5,[I 0,I 0,I 0,B false,.ref 7 s7 0 2]⟩) (h9:H[9]? = some ⟨s9,b,1,[I 1,.ref 8 s8 0 1]⟩):Frz 0 H nx (.ptr 9 s9 0) (.ip (crA k a)):=by
 have f0:Frz 0 H nx (.ref 0 s0 0 1) (.imm 6 [.agg (exN k)]):=frzO (Nat.zero_le _) h0 rfl ⟨_,_,rfl,Frz.pure rfl,_,_,rfl,Frz.pure rfl,_,_,rfl,Frz.pure rfl,_,_,rfl,Frz.pure rfl,_,_,rfl,Frz.pure rfl,_,_,rfl,Frz.nil 6,rfl⟩
 have f1:Frz 0 H nx (.ref 1 s1 0 1) (.imm 6 [.agg exV]):=frzO (Nat.zero_le _) h1 rfl ⟨_,_,rfl,Frz.pure rfl,_,_,rfl,Frz.pure rfl,_,_,rfl,Frz.pure rfl,_,_,rfl,Frz.pure rfl,_,_,rfl,Frz.pure rfl,_,_,rfl,Frz.nil 6,rfl⟩
 have f2:Frz 0 H nx (.ref 2 s2 0 2) (.imm 6 [.agg exV,.agg (exN a)]):=frzT (Nat.zero_le _) h2 rfl rfl ⟨_,_,rfl,Frz.pure rfl,_,_,rfl,Frz.pure rfl,_,_,rfl,Frz.pure rfl,_,_,rfl,Frz.pure rfl,_,_,rfl,Frz.pure rfl,_,_,rfl,Frz.nil 6,rfl⟩ ⟨_,_,rfl,Frz.pure rfl,_,_,rfl,Frz.pure rfl,_,_,rfl,Frz.pure rfl,_,_,rfl,Frz.pure rfl,_,_,rfl,Frz.pure rfl,_,_,rfl,Frz.nil 6,rfl⟩
 have f3:Frz 0 H nx (.ref 3 s3 0 1) (.imm 6 [.agg (exO 4 a)]):=frzO (Nat.zero_le _) h3 rfl ⟨_,_,rfl,Frz.pure rfl,_,_,rfl,Frz.pure rfl,_,_,rfl,Frz.pure rfl,_,_,rfl,Frz.pure rfl,_,_,rfl,Frz.pure rfl,_,_,rfl,f2,rfl⟩
 have f4:Frz 0 H nx (.ref 4 s4 0 2) (.imm 6 [.agg exV,.agg (exN 1)]):=frzT (Nat.zero_le _) h4 rfl rfl ⟨_,_,rfl,Frz.pure rfl,_,_,rfl,Frz.pure rfl,_,_,rfl,Frz.pure rfl,_,_,rfl,Frz.pure rfl,_,_,rfl,Frz.pure rfl,_,_,rfl,Frz.nil 6,rfl⟩ ⟨_,_,rfl,Frz.pure rfl,_,_,rfl,Frz.pure rfl,_,_,rfl,Frz.pure rfl,_,_,rfl,Frz.pure rfl,_,_,rfl,Frz.pure rfl,_,_,rfl,Frz.nil 6,rfl⟩
 have f5:Frz 0 H nx (.ref 5 s5 0 1) (.imm 6 [.agg (exO 5 1)]):=frzO (Nat.zero_le _) h5 rfl ⟨_,_,rfl,Frz.pure rfl,_,_,rfl,Frz.pure rfl,_,_,rfl,Frz.pure rfl,_,_,rfl,Frz.pure rfl,_,_,rfl,Frz.pure rfl,_,_,rfl,f4,rfl⟩
 have f6:Frz 0 H nx (.ref 6 s6 0 2) (.imm 6 [.agg (crS3 a),.agg crS4]):=frzT (Nat.zero_le _) h6 rfl rfl ⟨_,_,rfl,Frz.pure rfl,_,_,rfl,Frz.pure rfl,_,_,rfl,Frz.pure rfl,_,_,rfl,f3,_,_,rfl,Frz.nil 6,_,_,rfl,Frz.nil 6,rfl⟩ ⟨_,_,rfl,Frz.pure rfl,_,_,rfl,Frz.pure rfl,_,_,rfl,Frz.pure rfl,_,_,rfl,f5,_,_,rfl,Frz.nil 6,_,_,rfl,Frz.nil 6,rfl⟩
 have f7:Frz 0 H nx (.ref 7 s7 0 2) (.imm 6 [.agg (crS1 k),.agg (crS2 a)]):=frzT (Nat.zero_le _) h7 rfl rfl ⟨_,_,rfl,Frz.pure rfl,_,_,rfl,Frz.pure rfl,_,_,rfl,Frz.pure rfl,_,_,rfl,f0,_,_,rfl,Frz.nil 6,_,_,rfl,Frz.nil 6,rfl⟩ ⟨_,_,rfl,Frz.pure rfl,_,_,rfl,Frz.pure rfl,_,_,rfl,Frz.pure rfl,_,_,rfl,f1,_,_,rfl,f6,_,_,rfl,Frz.nil 6,rfl⟩
 have f8:Frz 0 H nx (.ref 8 s8 0 1) (crF k a):=frzO (Nat.zero_le _) h8 rfl ⟨_,_,rfl,Frz.pure rfl,_,_,rfl,Frz.pure rfl,_,_,rfl,Frz.pure rfl,_,_,rfl,Frz.pure rfl,_,_,rfl,f7,rfl⟩
 exact Frz.ptrM (Nat.zero_le _) h9 rfl (Nat.succ_ne_zero 0) ⟨_,_,rfl,Frz.pure rfl,_,_,rfl,f8,rfl⟩
theorem frz_code3 {k a:Int} {H:List VObj} {nx s s2 s3 e d b:Nat} (h0:H[0]? = some ⟨s,e,4,((csL k a).map siC).flatten⟩) (h1:H[1]? = some ⟨s2,d,5,[I 0,I 0,I 0,B false,.ref 0 s 0 14]⟩) (h2:H[2]? = some ⟨s3,b,1,[I 1,.ref 1 s2 0 1]⟩) :
 Frz 0 H nx (.ptr 2 s3 0) (.ip (spA (csP k a))):=by
 have f0:Frz 0 H nx (.ref 0 s 0 14) (.imm 4 ((csL k a).map siA)):=frz_codeN (csL k a) (Nat.zero_le _) h0 rfl
 have f1:Frz 0 H nx (.ref 1 s2 0 1) (.imm 5 [.agg [I 0,I 0,I 0,B false,.imm 4 ((csL k a).map siA)]]):=frzO (Nat.zero_le _) h1 rfl ⟨_,_,rfl,Frz.pure rfl,_,_,rfl,Frz.pure rfl,_,_,rfl,Frz.pure rfl,_,_,rfl,Frz.pure rfl,_,_,rfl,f0,rfl⟩
 exact Frz.ptrM (Nat.zero_le _) h2 rfl (Nat.succ_ne_zero 0) ⟨_,_,rfl,Frz.pure rfl,_,_,rfl,f1,rfl⟩
set_option maxHeartbeats 2000000 in
theorem emitcore_c (n a:Int) (hn:0≤n∧n≤255) (ha:In32 a):Contract Try.prog 6 [.val (.int .u8 n),U32 a] (fun r=>r=B true):=by
 have hqq:=f_sclaw22_EmitCore
 unfold compF compFp at hqq
 have hmx:(2000000:Nat)≤maxLen:=by decide
 refine Contract.of_call (VCall.of_bodyS (pt:=false) (pf:=false) hmix hqq (by simp) ?_)
 simp only[go_sem,VWs_seq,VWs_ret,VWs_ops,VWs_cond,Int.reduceEq,Int.reduceBEq,c_sclaw22_EmitCore]
 refine ⟨_,Wk.refl _,?_⟩
 simp only[go_sem,VWs_seq,VWs_ret,VWs_ops,VWs_cond,Int.reduceEq,Int.reduceBEq]
 refine VCall.of_contract (alive_c) (SleL.pure rfl) fun x hx=>?_
 subst hx
 simp only[go_sem,VWs_seq,VWs_ret,VWs_ops,VWs_cond,Int.reduceEq,Int.reduceBEq]
 refine ⟨_,Wk.refl _,?_⟩
 have t1:n.tmod 20=n % 20:=Int.tmod_eq_emod_of_nonneg hn.1
 obtain ⟨k,hk⟩:∃ k:Nat,n % 20=(k:Int):=⟨(n % 20).toNat,by omega⟩
 have hk2:k≤19:=by omega
 have w1:IntKind.u32.wrap (k:Int)=k:=w32_in ⟨by omega,by omega⟩
 simp only[go_sem,VWs_seq,VWs_ret,VWs_ops,VWs_cond,Int.reduceEq,Int.reduceBEq,t1,hk,w1]
 refine ⟨⟨[(1,U32 a),(5,U32 k)],[],0⟩,Wk.mk (by simp[get_cons]) ⟨[],by simp⟩ (Nat.le_refl _),?_⟩
 simp only[go_sem,VWs_seq,VWs_ret,VWs_ops,VWs_cond,Int.reduceEq,Int.reduceBEq]
 refine ⟨⟨[(1,U32 a),(5,U32 k),(6,.ip (crA k a))],[],10⟩,Wk.give (fun p hp=>?_) trivial (Nat.le_refl _),?_⟩
 ·simp only[List.mem_cons,List.not_mem_nil,or_false]at hp
  rcases hp with rfl | rfl | rfl
  ·exact .inl (by simp[get_cons])
  ·exact .inl (by simp[get_cons])
  ·exact .inr (frz_core rfl rfl rfl rfl rfl rfl rfl rfl rfl rfl)
 simp only[go_sem,VWs_seq,VWs_ret,VWs_ops,VWs_cond,Int.reduceEq,Int.reduceBEq]
 refine ⟨⟨[(6,.ip (crA k a)),(7,.ip (spA (csP k a)))],[],13⟩,Wk.give (fun p hp=>?_) trivial (Nat.le_refl _),?_⟩
 ·simp only[List.mem_cons,List.not_mem_nil,or_false]at hp
  rcases hp with rfl | rfl
  ·exact .inl (by simp[get_cons])
  ·exact .inr (frz_code3 (e:=32) (s:=10) (s2:=11) (s3:=12) rfl rfl rfl)
 have hkk:In32 (k:Int):=⟨by omega,by omega⟩
 have hz:=cs_sz hkk ha
 have hc:=hz.cok
 have k1:=of22_c hz.ofH
 unfold ofA at k1
 have k2:=crun_c hk2 ha
 have k3:=fuel_c (csP k a) 300 ⟨show (0:Int)≤1 by decide,show (1:Int)≤32768 by decide⟩ ⟨by decide,by decide⟩
 have hall:=cs_all (k:=k) (a:=a) (inp:=⟨#[]⟩) hk2
 obtain ⟨e1,e2⟩:=hz.run (inp:=⟨#[]⟩) (by decide) (k:=2+11*k+3) (by omega) (by rw[hall];show (1:Int)≠0;decide) (F:=(300+1)*(64+8*(csP k a).words)) (by
  rw[hall]
  show (((2+11*k+3:Nat):Int)+1)*(64+8*1)≤(300+1)*(64+8*1)
  omega)
 rw[hall]at e1 e2
 have k4:=refRun_c (codeE (csP k a)) (dataE (csP k a)) ⟨#[]⟩ ((300+1)*(64+8*(csP k a).words)) hc.1 hc.2 (by decide) (show ((300+1)*(64+8*1):Int)≤4000000000000000000 by decide)
 unfold runA at k4
 rw[e1,e2]at k4
 simp only at k4
 generalize runF (codeE (csP k a)) (dataE (csP k a)) ⟨#[]⟩ ((300+1)*(64+8*(csP k a).words))=ρ at *
 generalize codeE (csP k a)=code at *
 generalize dataE (csP k a)=data at *
 have es:spA (csP k a) = .agg [I 1,fnsA (csP k a).funcs]:=rfl
 have ew:(csP k a).words=1:=rfl
 rw[es]at k1 k3 ⊢
 rw[ew]at k3 k4
 obtain ⟨ls,hls⟩:∃ ls,fnsA (csP k a).funcs = .imm 5 ls:=⟨_,rfl⟩
 rw[hls]at k1 k3 ⊢
 simp only[go_sem,VWs_seq,VWs_ret,VWs_ops,VWs_cond,Int.reduceEq,Int.reduceBEq]
 refine VCall.of_contract (k1) (SleL.pure rfl) fun x hx=>?_
 subst hx
 simp only[go_sem,VWs_seq,VWs_ret,VWs_ops,VWs_cond,Int.reduceEq,Int.reduceBEq]
 refine ⟨_,Wk.refl _,?_⟩
 simp only[go_sem,VWs_seq,VWs_ret,VWs_ops,VWs_cond,Int.reduceEq,Int.reduceBEq]
 refine VCall.of_contract (k2) (SleL.pure rfl) fun x hx=>?_
 subst hx
 simp only[go_sem,VWs_seq,VWs_ret,VWs_ops,VWs_cond,Int.reduceEq,Int.reduceBEq]
 refine ⟨_,Wk.refl _,?_⟩
 simp only[go_sem,VWs_seq,VWs_ret,VWs_ops,VWs_cond,Int.reduceEq,Int.reduceBEq]
 refine ECall.of (k3) (SleL.pure rfl) ⟨_,fun _=>Iff.rfl⟩ fun x hx=>?_
 subst hx
 simp only[go_sem,VWs_seq,VWs_ret,VWs_ops,VWs_cond,Int.reduceEq,Int.reduceBEq]
 refine ECall.of (k4) (SleL.pure rfl) ⟨_,fun _=>Iff.rfl⟩ fun x hx=>?_
 subst hx
 simp only[go_sem,VWs_seq,VWs_ret,VWs_ops,VWs_cond,Int.reduceEq,Int.reduceBEq]
 refine ECall.of (ends_c _ _ _ _ _ _) (SleL.pure rfl) ⟨_,fun _=>Iff.rfl⟩ fun x hx=>?_
 subst hx
 simp only[go_sem,VWs_seq,VWs_ret,VWs_ops,VWs_cond,Int.reduceEq,Int.reduceBEq,beq_self_eq_true]
 refine ⟨_,Wk.refl _,?_⟩
 simp only[go_sem,VWs_seq,VWs_ret,VWs_ops,VWs_cond,Int.reduceEq,Int.reduceBEq]
 exact ⟨_,Frz.pure rfl,by simp⟩
set_option maxRecDepth 10000
open Go.V Go.ChangeShapes Go.WideShapes Go.ChangeAt Go.RowKit
set_option maxRecDepth 100000 in
theorem emitcore_lifted (os:Os) (started:os.Started) (H:Type) (enc:TypeId × Value→H) :
 ReturnsInHanded {} Try.checked os 6 .any (Rows.emitCoreSpec.pre6 enc Try.prog Try.f6 Rows.emitCoreRow.domain false) (Rows.emitCoreSpec.post enc Try.prog Try.f6 false true false false):=by
 refine returnsInHanded_of_change_sized (C:=Try.checked) Try.own started (by kernel_rfl) Try.func6
  (ChangeSpec.witness6 (enc:=enc) (C:=Try.checked) false ⟨#[],#[.int .u8 0,.int .u32 0],[]⟩ 8 (by kernel_rfl) (by kernel_rfl) (by kernel_rfl) (by kernel_rfl)) ?_
 intro W base args ds gs before hval hW _ hwt _
 refine law_calls (P:=Try.prog) (n:=20) (shs:=[.int .u8,.int .u32]) (tb:=4) Try.laidOut rfl (by kernel_rfl) (by kernel_rfl) (by decide +kernel) (by kernel_rfl) (fun ds h=>?_) (fun xs hx=>?_) hval hW hwt
 ·match ds,h with
  | [d1,d2],_=>rfl
 ·obtain ⟨x,xs',rfl,hx1,hxs⟩:=fitS_cons hx
  obtain ⟨y,ys',rfl,hy,hys⟩:=fitS_cons hxs
  simp only[Sh.fitL]at hys
  subst hys
  simp only[Sh.fit]at hx1 hy
  obtain ⟨n,rfl,h1⟩:=hx1
  obtain ⟨w,rfl,h2⟩:=hy
  simp[Lit.wf,IntKind.min,IntKind.max,IntKind.bits,IntKind.signed]at h1 h2
  exact emitcore_c n w (by omega) ⟨by omega,by omega⟩
theorem emitcore_holds:Rows.EmitCoreSaid :=
 OpenClaim.holds_of_wide 6 Try.f6 rfl rfl rfl rfl rfl rfl rfl ⟨rfl,rfl,rfl,rfl,rfl⟩ rfl rfl rfl rfl rfl (by kernel_rfl) Try.func6 (by kernel_rfl)
  (of_decide_eq_true (by kernel_rfl)) (by unfold Func.isWrapper;first | (rw[if_pos (by decide +kernel)];kernel_rfl) | (rw[if_neg (by decide +kernel)];exact ⟨rfl,rfl⟩))
  (fun os started H enc _=>emitcore_lifted os started H enc)
end Go.Proofs.Ytaedcpipilnpcaa
