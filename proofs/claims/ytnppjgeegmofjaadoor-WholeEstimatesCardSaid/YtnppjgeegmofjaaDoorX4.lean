/- The functions of the seat: ids,hints,trims: printed by genhd.py. Numbers as rows of digits: what rational and its reference compute with. Numbers as the row of their digits: the one without a zero at its end. Rows of digits that are stored into. Division by two digits: the guess of a digit. rational's numbers: trim, natOf, cmpNat, small. rational's numbers: comparison. rational's numbers: sum. rational's numbers: difference. rational's numbers: product. rational's numbers: division by a digit. rational's numbers: a multiple is taken away from a part of a number. rational's numbers: a copy that may be stored into; the environment of divNat. rational's numbers: a digit of a quotient is guessed and mended. rational's numbers: a quotient, digit by digit. rational's numbers: quotient and rest. Numbers in decimal. rational's numbers in decimal: String. rational's numbers: the greatest common divisor; reading decimals. rational: write. rational: a fraction written in lowest terms; sums. rational: Of, Add, Sub, Div. The reference's numbers: to the base 2^32. The reference's numbers: sum, difference, half. The reference's numbers: the environment of shift. -/
import Derived.Test.YtnppjgeegmofjaaDoorX3
import Derived.Test.YtnppjgeegmofjaaDoorProg
import Derived.Test.YtnppjgeegmofjaaDoorRows
set_option linter.unusedVariables false
set_option linter.unusedSimpArgs false
namespace Go.WE
open Go Go.Ab Go.Proofs
noncomputable abbrev prog:Program:=Go.Proofs.Tryd.prog
abbrev az:FuncId:=3
abbrev iu:FuncId:=4
abbrev kH:FuncId:=5
abbrev mS:FuncId:=6
abbrev vf:FuncId:=7
abbrev cA:FuncId:=8
abbrev B2:FuncId:=9
abbrev xm:FuncId:=10
abbrev wm:FuncId:=11
abbrev qJ:FuncId:=12
abbrev mR:FuncId:=15
abbrev ez:FuncId:=17
abbrev mO:FuncId:=20
abbrev vK:FuncId:=21
abbrev qF:FuncId:=23
abbrev yU:FuncId:=29
abbrev wE:FuncId:=30
abbrev wD:FuncId:=31
abbrev wF:FuncId:=32
abbrev ma:FuncId:=33
abbrev gK:FuncId:=34
abbrev vJ:FuncId:=35
abbrev tB:FuncId:=36
abbrev fY:FuncId:=37
abbrev n7:FuncId:=38
abbrev eU:FuncId:=39
abbrev mK:FuncId:=40
abbrev jj:FuncId:=43
abbrev jl:FuncId:=44
abbrev cL:FuncId:=48
abbrev uD:FuncId:=50
abbrev gL:FuncId:=52
abbrev mM:FuncId:=53
abbrev iM:FuncId:=54
abbrev eS:FuncId:=55
abbrev gM:FuncId:=56
abbrev ic:FuncId:=57
abbrev k0:FuncId:=58
abbrev uG:FuncId:=60
abbrev cM:FuncId:=61
abbrev gE:FuncId:=62
abbrev sO:FuncId:=63
abbrev nG:FuncId:=64
abbrev kq:FuncId:=65
abbrev gD:FuncId:=66
abbrev ko:FuncId:=67
abbrev qE:FuncId:=68
abbrev eg:FuncId:=69
abbrev qC:FuncId:=70
abbrev mv:FuncId:=73
abbrev dP:FuncId:=74
abbrev du:FuncId:=75
abbrev sN:FuncId:=76
abbrev ea:FuncId:=77
abbrev jH:FuncId:=78
abbrev kp:FuncId:=79
abbrev hJ:FuncId:=80
abbrev cZ:FuncId:=81
def zt:List (Nat×List (Nat×Hint)):=[
(3,[(23,hn [3,6,13,15,17,19,20] [13,15,17,21,23,58] [] []),(10,hn [0,3,4,5] [13,15,17,21,23,58] [(3,58,29)] []),(7,hn [0,3,4] [13,15,17,21,23,58] [(3,58,29)] [])]),
(5,[(6,hn [0,1,2,3,9,10,11,16,17,18,23,24,25] [11,48] [(9,48,46)] []),(3,hn [0,1,2,3,9,16,17,18] [48] [(9,48,46)] [])]),
(6,[(2,hn [1,4,5,6,9,10,11] [24,29,34] [(4,24,3),(5,29,3),(6,34,3)] [])]),
(11,[(5,hn [0,1,3,4,10,12,49,50,51] [7,10,12,17] [] [])]),
(12,[(7,hn [0,1,9,10,11,33,34,35] [] [] []),(2,hn [0,1,9,10,11] [] [] [])]),
(15,[(3,hn [3,6,7,8] [] [] [])]),
(17,[(3,hn [0,1,2,6,7,8,13,14,15] [6] [] [])]),
(25,[(9,hn [0,1,2,3,9,11,12,13,30,31,36,37,38] [] [] []),(5,hn [0,1,2,3,9,30,31] [] [] [])]),
(33,[(8,hn [3,4,6,7] [] [] []),(4,hn [0,3] [] [] [])]),
(37,[(7,hn [0,1,5,6,7,8] [15] [] []),(3,hn [0,1,5,6] [15] [] [])]),
(38,[(4,hn [0,1,5,6,7] [38] [(5,38,99)] [])]),
(39,[(6,hn [0,1,5] [] [] [])]),
(40,[(4,hn [0,1,5,6,7] [11] [] [])]),
(44,[(2,hn [0,3] [13] [(3,13,99)] [])]),
(48,[(7,hn [1,5,6,7,8,18,19,20,25,26,27] [17] [] []),(3,hn [1,5,18,19,20] [17] [] [])]),
(52,[(7,hn [0,7,8,9] [21] [] [])]),
(54,[(1,hn [0,1] [] [] [])]),
(56,[(4,hn [0,3] [] [] [])]),
(57,[(3,hn [0,3,4] [] [] [])]),
(58,[(2,hn [0,3] [] [] [])]),
(60,[(1,hn [0,1] [] [] [])]),
(61,[(15,hn [6,8,9,10,11,12,14,15] [53,59] [] []),(11,hn [6,8,9,10,11,12] [53,59] [] [])]),
(62,[(8,hn [3,4,5,14,15,16,21] [13] [] []),(5,hn [3,14,15,16] [13] [] [])]),
(64,[(1,hn [0] [] [] [])]),
(65,[(6,hn [1,5,6,20,21,22] [19,46,51] [(5,46,99)] [])]),
(66,[(6,hn [0,1,5] [] [] [])]),
(67,[(4,hn [1,5,6,13,14,15] [12] [] [])]),
(68,[(5,hn [3,4] [] [] [])]),
(69,[(4,hn [0,1,5,6,7] [11,33,40] [(5,33,99)] [])]),
(70,[(3,hn [0,3,4] [7] [] [])]),
(73,[(4,hn [0,1,6,7,8] [12] [] [])]),
(75,[(3,hn [0,1,2,7,8,13,14] [] [] [])]),
(76,[(2,hn [0,1,4,8,9] [] [] [])]),
(79,[(4,hn [0,23,24] [] [] [])]),
(80,[(7,hn [0,3,4,5,6] [32] [] []),(3,hn [0,3,4] [32] [(3,32,99)] [])]),
(81,[(1,hn [0,1] [] [] [])]),
(82,[(2,hn [0,2,4] [2] [] [])]),
(83,[(1,hn [0,1] [] [] [])]),
(84,[(1,hn [0,1] [] [] [])]),
(91,[(38,hn [175] [175] [] []),(29,hn [0,7,8,9,14,15,16] [175] [] []),(25,hn [0,7,8,9,14,15] [175] [] []),(12,hn [0,7,8,9,12] [175] [] []),(5,hn [0,7,8,9] [175] [] [])])]
def ym:List (Nat×List (List Nat×Hint)):=[
(3,[([1,1,1,1,0,1,0,0,1,0,0,1],hn [0,3,4,5] [13,15,17,21,23,58] [(3,58,29)] []),([1,1,1,1,0,1],hn [0,3,4] [13,15,17,21,23,58] [(3,58,29)] []),tn 7 [0] [],tn 15 [0] [],tn 4003 [3] [58],tn 1001 [0,3,4] [58],tn 256291 [0,3,4] [58],tn 64073 [0,3,4,5] [58],tn 128147 [0,3,4,5] [58],tn 2003 [0,3,4] [58],tn 63 [3] [58],tn 8191 [3,6,13,15,17] [13,15,17,58],tn 2097059 [3,6,13,15,17,19] [13,15,17,58],tn 524265 [3,6,13,15,17,19,20] [13,15,17,58],tn 33552973 [2] [],tn 1048531 [3,6,13,15,17,19,20] [13,15,17,58],tn 32767 [3,6,13,15,17,19] [13,15,17,58]]),
(5,[([1,1,0,1,0,0,1,1,0,0,1,1],hn [0,1,2,3,9,10,11,16,17,18,23,24,25] [11,48] [(9,48,46)] []),([1,1,0,1],hn [0,1,2,3,9,16,17,18] [48] [(9,48,46)] []),tn 933 [9] [48],tn 467 [0,1,2,3,9,16,17,18] [48],tn 239205 [0,1,2,3,9,16,17,18] [48],tn 119603 [0,1,2,3,9,10,11,16,17,18,23,24,25] [11,48],tn 7654602 [0,1,2,3,9,10,11,16,17,18,23,24,25] [11,48],tn 1913651 [0,1,2,3,9,10,13,16,17,18] [13,48],tn 3827303 [0,1,2,3,9,16,17,18] [48],tn 3827303 [0,1,2,3,9,16,17,18] [48],tn 239207 [0,1,2,3,9,10,11,16,17,18,23,24,25] [11,48],tn 935 [0,1,2,3,9,16,17,18] [48],tn 15 [9] [48]]),
(6,[([1,0,1],hn [1,4,5,6,9,10,11] [24,29,34] [(4,24,3),(5,29,3),(6,34,3)] []),tn 421 [4,5,6] [24,29,34],tn 211 [1,4,5,6,9,10,11] [24,29,34],tn 423 [1,4,5,6,9,10,11] [24,29,34],tn 7 [4,5,6] [24,29,34]]),
(7,[tn 7 [0,2] [2,4]]),
(9,[tn 7 [0,1,4] [4]]),
(10,[tn 15 [4,6,7] [4,6,7]]),
(11,[tn 15 [0,1,3,4,10,12] [10,12],tn 1957 [0,1,3,4,10,12] [10,12],tn 979 [0,1,3,4,10,12,49,50,51] [10,12],tn 62669 [10,11] [10],tn 1959 [0,1,3,4,10,12,49,50,51] [10,12],tn 31 [0,1,3,4,10,12] [10,12],tn 127 [0,1,3,10,12,15,16] [10,12],tn 511 [10,17] [10,17]]),
(12,[tn 421 [] [],tn 211 [0,1,9,10,11] [],tn 27029 [4] [],tn 3379 [0,1,6,9,10,11] [],tn 216293 [0,1,9,10,11] [],tn 108147 [0,1,9,10,11,33,34,35] [],tn 6921421 [4] [],tn 216295 [0,1,9,10,11,33,34,35] [],tn 423 [0,1,9,10,11] [],tn 7 [] []]),
(13,[tn 7 [1,6,7,8] [6,7,8]]),
(15,[tn 933 [3] [],tn 467 [3,6,7,8] [],tn 935 [3,6,7,8] [],tn 15 [3] []]),
(17,[tn 933 [0,1,2,6,7,8] [6],tn 467 [0,1,2,6,7,8,13,14,15] [6],tn 935 [0,1,2,6,7,8,13,14,15] [6],tn 15 [0,1,2,6,7,8] [6]]),
(20,[tn 15 [1,2,4] [1,2,4],tn 31 [2,4] [2,4]]),
(23,[tn 31 [2,3,4,5,6,7] [2,3,4],tn 63 [3,4,5,6,7] [3,4]]),
(25,[tn 7 [0,1,2,3] [],tn 1957 [3] [],tn 979 [0,1,2,3,9,30,31] [],tn 2005413 [0,1,2,3,9,12,13,30,31] [],tn 1002707 [0,1,2,3,9,11,12,13,30,31,36,37,38] [],tn 2005415 [0,1,2,3,9,11,12,13,30,31,36,37,38] [],tn 31335 [0,1,2,3,9,12,13,30,31] [],tn 250685 [8] [],tn 1959 [0,1,2,3,9,30,31] [],tn 31 [3] []]),
(28,[tn 7 [4,6] [4,6]]),
(29,[tn 7 [0,1,4] [4]]),
(33,[tn 7 [0] [],tn 963 [3] [],tn 241 [0,3] [],tn 247203 [3,4] [],tn 61801 [3,4,6,7] [],tn 123603 [3,4,6,7] [],tn 3863 [3,4] [],tn 31 [3] []]),
(34,[tn 7 [0,1,2,6] [6]]),
(35,[tn 7 [0] []]),
(36,[tn 31 [1,2,4,5] [1,2],tn 63 [1,2,4,5] [1,2],tn 511 [2,8] [2,8]]),
(37,[tn 931 [5] [15],tn 233 [0,1,5,6] [15],tn 238755 [0,1,5,6,7] [15],tn 59689 [0,1,5,6,7,8] [15],tn 119379 [0,1,5,6,7,8] [15],tn 3731 [0,1,5,6,7] [15],tn 467 [0,1,5,6] [15],tn 15 [5] [15]]),
(38,[([1,1,1,0,1],hn [0,1,5,6,7] [38] [(5,38,99)] []),tn 1955 [5] [38],tn 489 [0,1,5,6,7] [38],tn 979 [0,1,5,6,7] [38],tn 31 [5] [38]]),
(39,[tn 7 [0,1] [],tn 15 [0,1] [],tn 1955 [] [],tn 489 [0,1,5] [],tn 31301 [4] [],tn 3913 [0,1,5] [],tn 31309 [4] [],tn 979 [0,1,5] [],tn 31 [] []]),
(40,[tn 1955 [5] [11],tn 489 [0,1,5,6,7] [11],tn 979 [0,1,5,6,7] [11],tn 31 [5] [11]]),
(42,[tn 15 [5] []]),
(43,[tn 127 [1,2,5,9] [1,2,9],tn 255 [2,9] [2,9]]),
(44,[([1,1],hn [0,3] [13] [(3,13,99)] []),tn 451 [3] [13],tn 113 [0,3] [13],tn 227 [0,3] [13],tn 15 [3] [13]]),
(45,[tn 7 [0] []]),
(46,[tn 31 [2,6,8,10] [6,8,10],tn 127 [6,12] [6,12]]),
(48,[tn 933 [5] [17],tn 467 [1,5,18,19,20] [17],tn 956837 [1,5,6,8,18,19,20] [17],tn 478419 [1,5,6,7,8,18,19,20,25,26,27] [17],tn 956839 [1,5,6,7,8,18,19,20,25,26,27] [17],tn 14951 [1,5,6,8,18,19,20] [17],tn 935 [1,5,18,19,20] [17],tn 15 [5] [17]]),
(50,[tn 31 [4,7] [4,7]]),
(52,[tn 15 [0,1,6] [],tn 8099 [0,7] [21],tn 2025 [0,7,8,9] [21],tn 16201 [0,7,8,9] [21],tn 4051 [0,7,8,9] [21],tn 127 [0,7] [21]]),
(53,[tn 7 [0,1] []]),
(54,[tn 195 [1] [],tn 49 [0,1] [],tn 7 [1] []]),
(56,[tn 7 [0] [],tn 931 [] [],tn 233 [0,3] [],tn 7461 [2] [],tn 467 [0,3] [],tn 15 [] []]),
(57,[tn 931 [3] [],tn 233 [0,3,4] [],tn 467 [0,3,4] [],tn 15 [3] []]),
(58,[tn 451 [0,3] [],tn 113 [0,3] [],tn 15 [0,3] []]),
(59,[tn 7 [0] []]),
(60,[tn 195 [0] [],tn 49 [0,1] [],tn 7 [0] []]),
(61,[tn 7 [0,1] [],tn 15 [0,1] [],tn 65443 [6,10,11] [53,59],tn 16361 [6,8,9,10,11,12] [53,59],tn 16753859 [6,8,9,10,11,12,14] [53,59],tn 4188465 [6,8,9,10,11,12,14,15] [53,59],tn 134030894 [6,8,9,10,11,12,14] [53,59],tn 523559 [6,8,9,10,11,12,14] [53,59],tn 1047119 [6,8,9,10,11,12,14] [53,59],tn 32723 [6,8,9,10,11,12] [53,59],tn 1023 [6,10,11] [53,59]]),
(62,[tn 7 [0] [],tn 1957 [3] [13],tn 979 [3,14,15,16] [13],tn 501349 [3,14,15,16] [13],tn 250675 [3,4,5,14,15,16,21] [13],tn 501351 [3,4,5,14,15,16,21] [13],tn 1959 [3,14,15,16] [13],tn 31 [3] [13]]),
(63,[tn 15 [1,2,4,5] [1,2]]),
(64,[tn 195 [0] [],tn 49 [0] [],tn 7 [0] []]),
(65,[([1,1,1,1,0,1],hn [1,5,6,20,21,22] [19,46,51] [(5,46,99)] []),tn 7 [0,1] [],tn 4005 [5,6] [19,46,51],tn 2003 [1,5,6,20,21,22] [19,46,51],tn 64103 [1,5,8,20,21,22] [19,46,51],tn 4007 [1,5,6,20,21,22] [19,46,51],tn 63 [5,6] [19,46,51]]),
(66,[tn 53 [] [],tn 7 [0,1] [],tn 931 [] [],tn 233 [0,1,5] [],tn 59685 [4] [],tn 7461 [] [],tn 14923 [4] [],tn 467 [0,1,5] [],tn 15 [] []]),
(67,[tn 1957 [5] [12],tn 979 [1,5,6,13,14,15] [12],tn 31335 [1,5,7,9,13,14,15] [12],tn 125343 [1,5,6,7,9,13,14,15] [12],tn 1959 [1,5,6,13,14,15] [12],tn 31 [5] [12]]),
(68,[tn 7 [0] [],tn 1955 [3] [],tn 489 [3,4] [],tn 979 [3,4] [],tn 31 [3] []]),
(69,[([1,1,1,0,1],hn [0,1,5,6,7] [11,33,40] [(5,33,99)] []),tn 1955 [5,6] [11,33,40],tn 489 [0,1,5,6,7] [11,33,40],tn 979 [0,1,5,6,7] [11,33,40],tn 31 [5,6] [11,33,40]]),
(70,[tn 931 [3] [7],tn 233 [0,3,4] [7],tn 467 [0,3,4] [7],tn 15 [3] [7]]),
(71,[tn 7 [0,2] [],tn 15 [0,2] []]),
(72,[tn 7 [0,2] [],tn 15 [0,2] [],tn 31 [0,2] []]),
(73,[tn 1955 [6,7] [12],tn 489 [0,1,6,7,8] [12],tn 979 [0,1,6,7,8] [12],tn 31 [6,7] [12]]),
(74,[tn 7 [0] []]),
(75,[tn 933 [8] [],tn 467 [0,1,2,7,8,13,14] [],tn 14951 [0,1,2,8,9,10,13,14] [],tn 239231 [0,1,2,7,8,9,11,13,14] [],tn 935 [0,1,2,7,8,13,14] [],tn 15 [8] []]),
(76,[tn 229 [] [],tn 115 [0,1,4,8,9] [],tn 3687 [0,1,5,6,8,9] [],tn 231 [0,1,4,8,9] []]),
(77,[tn 7 [0,1] [],tn 15 [0,1] [],tn 31 [0,1] []]),
(79,[tn 7 [0] [],tn 933 [] [],tn 467 [0,23,24] [],tn 29901 [2] [],tn 935 [0,23,24] [],tn 15 [] []]),
(80,[([1,1,0,1],hn [0,3,4] [32] [(3,32,99)] []),tn 931 [3] [32],tn 233 [0,3,4] [32],tn 238755 [0,3,4,5] [32],tn 59689 [0,3,4,5,6] [32],tn 119379 [0,3,4,5,6] [32],tn 3731 [0,3,4,5] [32],tn 467 [0,3,4] [32],tn 15 [3] [32]]),
(81,[tn 195 [0] [],tn 49 [0,1] [],tn 7 [0] []]),
(82,[tn 419 [2] [2],tn 105 [0,2,4] [2],tn 13461 [2,3] [2],tn 1683 [0,2,4,5] [2],tn 211 [0,2,4] [2],tn 7 [2] [2]]),
(83,[tn 195 [0] [],tn 49 [0,1] [],tn 786 [0] [],tn 197 [0,1] [],tn 7 [0] []]),
(84,[tn 195 [0] [],tn 49 [0,1] [],tn 1578 [0] [],tn 395 [0,1,6] [],tn 7 [0] []]),
(85,[tn 7 [0,1] []]),
(87,[tn 7 [2,3] []]),
(90,[tn 15 [0,4] [],tn 127 [0,4,5,6] [],tn 1023 [0,5,8,9] [9],tn 4095 [0,5,8,10] [],tn 8191 [0,5,8,10] [],tn 32767 [0,5,8,10,11] [],tn 65535 [0,5,10,11] [],tn 262143 [5,10,11,12] []]),
(91,[tn 14117 [] [],tn 7059 [175,176] [175],tn 225901 [4] [175],tn 221 [] [],tn 916419 [] [],tn 229105 [0,7,8,9] [],tn 234603605 [4] [175],tn 29325451 [0,7,8,9,11] [],tn 1832841 [0,7,8,9] [],tn 234603683 [8,9] [],tn 58650921 [0,7,8,9,12] [],tn 117301843 [0,7,8,9,12] [],tn 3665683 [8,9] [],tn 14662733 [4] [175],tn 7331367 [0,7,8,9,10] [],tn 14662735 [0,7,8,9,10] [],tn 28639 [] [],tn 57279 [0,1,7,8,9] [],tn 114559 [0,1,7,8,9] [],tn 7331799 [0,7,8,9,14,15] [],tn 234617571 [] [],tn 58654393 [0,7,8,9,14,15] [],tn 120124197155 [8,9] [],tn 30031049289 [0,7,8,9,14,15,16] [],tn 480496788626 [0,7,8,9,14,15] [],tn 60062098579 [0,7,8,9,14,15,16] [],tn 1876940581 [8,9] [],tn 3753881163 [4] [175],tn 117308787 [0,7,8,9,14,15] [],tn 229119 [] []])]
noncomputable def glb (g:Nat):Option (List AV):=cond (Nat.beq g 0) (some (dcells Go.Proofs.YtnppjgeegmofjaaDoor.Rows.laid_unicode_utf8_first)) (cond (Nat.beq g 1) (some (dcells Go.Proofs.YtnppjgeegmofjaaDoor.Rows.laid_unicode_utf8_acceptRanges)) (cond (Nat.beq g 2) (some [.num .i64]) (none)))
noncomputable def wd:Wd:=⟨prog,glb⟩
noncomputable def V0:Env:={P:=prog,G:=glb,hint:=λf t=>((alook zt f).bind λl=>alook l t).getD {},trim:=λf p=>(alook ym f).bind λl=>uo l p}
theorem qp:V0.P.follows .mixedOrders=true:=by kernel_rfl
theorem qy:gv V0.P:=rr (by kernel_rfl)
instance env0:EnvOk V0 wd:=⟨rfl,rfl,qp,qy⟩
noncomputable def Vb (b g l:List Nat):Env:={V0 with brk:=onD b,grow:=onD g,lend:=onD l}
instance envb (b g l:List Nat):EnvOk (Vb b g l) wd:=⟨rfl,rfl,qp,qy⟩
end Go.WE

namespace Go.WE
open Go Go.Ab
def vF (b:Nat) (g:Nat->Nat):Nat->Nat
 | 0=>0
 | n+1=>vF b g n+g n*b ^ n
theorem cu {b:Nat} {g h:Nat->Nat}:∀ {n:Nat},(∀i,i < n->g i=h i)->vF b g n=vF b h n
 | 0,_=>rfl
 | n+1,e=>by rw [vF,vF,cu λi hi=>e i (by omega),e n (by omega)]
theorem j0 {b:Nat} {g:Nat->Nat} (hb:0 < b):∀ {n:Nat},(∀i,i < n->g i < b)->vF b g n < b ^ n
 | 0,_=>by rw [vF];exact Nat.one_pos
 | n+1,h=>by
  have h1:=j0 (n:=n) hb λi hi=>h i (by omega)
  have h2:=h n (by omega)
  rw [vF,Nat.pow_succ]
  have h3:(g n+1)*b ^ n<=b*b ^ n:=Nat.mul_le_mul_right _ h2
  rw [Nat.add_mul,Nat.one_mul] at h3
  rw [Nat.mul_comm (b ^ n) b]
  omega
theorem kA {b:Nat} {g:Nat->Nat} {m:Nat}:∀ {n:Nat},m<=n->(∀i,m<=i->i < n->g i=0)->vF b g n=vF b g m
 | 0,h,_=>by rw [show m=0 by omega]
 | n+1,h,hz=>by
  by_cases e:m=n+1
  ·rw [e]
  ·rw [vF,hz n (by omega) (by omega),Nat.zero_mul,Nat.add_zero]
   exact kA (by omega) λi h1 h2=>hz i h1 (by omega)
theorem yh {b:Nat} {g:Nat->Nat} {n:Nat} (h:g n≠0):b ^ n<=vF b g (n+1):=by
 rw [vF]
 have:1*b ^ n<=g n*b ^ n:=Nat.mul_le_mul_right _ (by omega)
 omega
theorem fH {b:Nat} {g:Nat->Nat}:∀ {n:Nat},(∀i,i < n->g i=0)->vF b g n=0
 | 0,_=>rfl
 | n+1,h=>by rw [vF,fH λi hi=>h i (by omega),h n (by omega),Nat.zero_mul]
structure Nrm (b:Nat) (g:Nat->Nat) (n:Nat):Prop where
 dig:∀i,i < n->g i < b
 top:n≠0->g (n - 1)≠0
theorem rZ {b:Nat} {g h:Nat->Nat} (hb:0 < b):∀ {n:Nat},(∀i,i < n->g i < b)->(∀i,i < n->h i < b)->vF b g n=vF b h n->∀i,i < n->g i=h i
 | 0,_,_,_=>λi hi=>absurd hi (Nat.not_lt_zero _)
 | n+1,hg,hh,e=>by
  have a1:vF b g n < b ^ n:=j0 hb λi hi=>hg i (by omega)
  have a2:vF b h n < b ^ n:=j0 hb λi hi=>hh i (by omega)
  rw [vF,vF] at e
  have hp:0 < b ^ n:=Nat.pow_pos hb
  have e1:g n=h n:=by
   have q1:(vF b g n+g n*b ^ n) / b ^ n=g n:=by rw [Nat.add_mul_div_right _ _ hp,Nat.div_eq_of_lt a1,Nat.zero_add]
   have q2:(vF b h n+h n*b ^ n) / b ^ n=h n:=by rw [Nat.add_mul_div_right _ _ hp,Nat.div_eq_of_lt a2,Nat.zero_add]
   rw [<-q1,<-q2,e]
  rw [e1] at e
  have ih:=rZ hb (λi hi=>hg i (by omega)) (λi hi=>hh i (by omega)) (Nat.add_right_cancel e)
  intro i hi
  by_cases hi':i=n
  ·rw [hi',e1]
  ·exact ih i (by omega)
theorem wN {b:Nat} {g h:Nat->Nat} {n m:Nat} (hb:1 < b) (hg:Nrm b g n) (hh:Nrm b h m) (e:vF b g n=vF b h m):n=m:=by
 have key:∀ {g h:Nat->Nat} {n m:Nat},Nrm b g n->Nrm b h m->vF b g n=vF b h m->¬ n < m:=fun {g h n m} hg hh e hl=>by
  have h1:=j0 (show 0 < b by omega) hg.dig
  obtain ⟨k,rfl⟩:∃k,m=k+1:=⟨m - 1,by omega⟩
  have h2:=yh (b:=b) (hh.top (by omega))
  have h3:b ^ n<=b ^ k:=Nat.pow_le_pow_right (by omega) (by omega)
  simp only [Nat.add_sub_cancel] at h2
  omega
 have h1:=key hg hh e
 have h2:=key hh hg e.symm
 omega
theorem uQ {b:Nat} {g h:Nat->Nat} {n m:Nat} (hb:1 < b) (hg:Nrm b g n) (hh:Nrm b h m) (e:vF b g n=vF b h m):n=m/\∀i,i < n->g i=h i:=by
 have hn:=wN hb hg hh e
 subst hn
 exact ⟨rfl,rZ (by omega) hg.dig hh.dig e⟩
theorem ep {b:Nat} {g:Nat->Nat} {k:Nat}:∀n:Nat,vF b g (k+n)=vF b g k+b ^ k*vF b (λi=>g (k+i)) n
 | 0=>by rw [Nat.add_zero,vF];omega
 | n+1=>by
  rw [<-Nat.add_assoc,vF,vF,ep n,Nat.mul_add,<-Nat.add_assoc]
  congr 1
  rw [Nat.pow_add,<-Nat.mul_assoc,<-Nat.mul_assoc,Nat.mul_comm (g (k+n)) (b ^ k)]
theorem yi {b:Nat} {g h:Nat->Nat} {n:Nat} (hb:0 < b) (hg:∀i,i < n->g i < b) (hh:∀i,i < n->h i < b) {k:Nat} (hk:k < n) (e:∀i,k < i->i < n->g i=h i) (hl:g k < h k):vF b g n < vF b h n:=by
 obtain ⟨m,rfl⟩:∃m,n=k+1+m:=⟨n - (k+1),by omega⟩
 rw [ep m,ep m,cu (g:=λi=>g (k+1+i)) (h:=λi=>h (k+1+i)) λi hi=>e _ (by omega) (by omega),vF,vF]
 have a1:vF b g k < b ^ k:=j0 hb λi hi=>hg i (by omega)
 have a2:(g k+1)*b ^ k<=h k*b ^ k:=Nat.mul_le_mul_right _ hl
 rw [Nat.add_mul,Nat.one_mul] at a2
 omega
end Go.WE

namespace Go.WE
open Go Go.Ab
def dl (b v:Nat):Nat:=if h:1 < b/\v≠0 then dl b (v / b)+1 else 0
termination_by v
decreasing_by exact Nat.div_lt_self (by omega) h.1
def dg (b v j:Nat):Nat:=v / b ^ j % b
theorem lH {b:Nat}:dl b 0=0:=by rw [dl];simp
theorem AI {b v:Nat} (hb:1 < b) (hv:v≠0):dl b v=dl b (v / b)+1:=by rw [dl];simp [hb,hv]
theorem D2 {b v j:Nat}:dg b v (j+1)=dg b (v / b) j:=by unfold dg;rw [Nat.pow_succ,Nat.mul_comm,Nat.div_div_eq_div_mul]
theorem aY {b v j:Nat} (hb:0 < b):dg b v j < b:=Nat.mod_lt _ hb
theorem mh {b:Nat} {g:Nat->Nat}:∀n:Nat,vF b g (n+1)=g 0+b*vF b (λj=>g (j+1)) n:=λn=>by
 have h:=ep (b:=b) (g:=g) (k:=1) n
 rw [show 1+n=n+1 by omega] at h
 rw [h,vF,vF,Nat.pow_zero,Nat.pow_one,Nat.mul_one,Nat.zero_add,cu (g:=λi=>g (1+i)) (h:=λj=>g (j+1)) λi _=>by rw [Nat.add_comm]]
theorem en {b:Nat} (hb:1 < b):∀v:Nat,vF b (dg b v) (dl b v)=v:=λv=>by
 induction v using Nat.strongRecOn with
 | ind v ih=>
  by_cases h:v=0
  ·subst h;rw [lH,vF]
  ·rw [AI hb h,mh,cu (g:=λj=>dg b v (j+1)) (h:=dg b (v / b)) λi _=>D2,ih _ (Nat.div_lt_self (by omega) hb)]
   unfold dg
   rw [Nat.pow_zero,Nat.div_one,Nat.add_comm]
   exact Nat.div_add_mod v b
theorem eh {b v n:Nat} (hb:1 < b) (h:v < b ^ n):dl b v<=n:=by
 induction n generalizing v with
 | zero=>rw [show v=0 by simp at h;omega,lH];exact Nat.le_refl _
 | succ n ih=>
  by_cases hv:v=0
  ·rw [hv,lH];omega
  ·rw [AI hb hv]
   have:=ih (v:=v / b) (by rw [Nat.div_lt_iff_lt_mul (by omega)];rw [Nat.pow_succ] at h;exact h)
   omega
theorem nP {b:Nat} (hb:1 < b) (v:Nat):Nrm b (dg b v) (dl b v):=by
 refine ⟨λi _=>aY (by omega),?_⟩
 induction v using Nat.strongRecOn with
 | ind v ih=>
  intro h0
  by_cases h:v=0
  ·rw [h,lH] at h0;exact absurd rfl h0
  ·rw [AI hb h]
   by_cases h1:dl b (v / b)=0
   ·rw [h1]
    have h2:v / b=0:=by
     have:=en hb (v / b)
     rw [h1,vF] at this;exact this.symm
    have h3:v < b:=by
     rcases Nat.lt_or_ge v b with h3 | h3
     ·exact h3
     ·have:=Nat.div_pos h3 (by omega);omega
    show dg b v 0≠0
    unfold dg
    rw [Nat.pow_zero,Nat.div_one,Nat.mod_eq_of_lt h3];exact h
   ·have:=ih (v / b) (Nat.div_lt_self (by omega) hb) h1
    obtain ⟨m,hm⟩:∃m,dl b (v / b)=m+1:=⟨dl b (v / b) - 1,by omega⟩
    rw [hm] at this ⊢
    show dg b v (m+1)≠0
    rw [D2]
    exact this
theorem fw {b v:Nat} (hb:1 < b):dl b v=0↔v=0:=⟨λh=>by have:=en hb v;rw [h,vF] at this;exact this.symm,λh=>by rw [h,lH]⟩
theorem yZ {b:Nat} {g:Nat->Nat} {n:Nat} (hb:1 < b) (h:Nrm b g n):n=dl b (vF b g n)/\∀i,i < n->g i=dg b (vF b g n) i:=
 uQ hb h (nP hb _) (en hb _).symm
theorem lM {b v:Nat} (hb:1 < b):v < b ^ dl b v:=by
 have:=j0 (b:=b) (g:=dg b v) (n:=dl b v) (by omega) λi _=>aY (by omega)
 rw [en hb] at this;exact this
theorem Dc {b v:Nat} (hb:1 < b) (h:v≠0):b ^ (dl b v - 1)<=v:=by
 have h0:dl b v≠0:=λe=>h ((fw hb).1 e)
 obtain ⟨m,hm⟩:∃m,dl b v=m+1:=⟨dl b v - 1,by omega⟩
 have h1:=(nP hb v).top h0
 have h2:=en hb v
 rw [hm] at h1 h2 ⊢
 have:=yh (b:=b) (g:=dg b v) (n:=m) h1
 rw [h2] at this;exact this
def lz (n:Nat) (g:Nat->Nat):AV:=.sl .no 1 n λj=>[.int .u32 (g j:Int)]
def ao (b v:Nat):AV:=lz (dl b v) (dg b v)
theorem qf {n m:Nat} {g h:Nat->Nat} (e:lz n g=lz m h):n=m/\g=h:=by
 unfold lz at e
 injection e with _ _ e1 e2
 refine ⟨e1,funext λj=>?_⟩
 have:=congrFun e2 j
 injection this with h1
 injection h1 with _ h2
 omega
theorem bJ {b v w:Nat} (hb:1 < b) (e:ao b v=ao b w):v=w:=by
 obtain ⟨h1,h2⟩:=qf e
 rw [<-en hb v,<-en hb w,h1,h2]
theorem mi {b:Nat} (hb:1 < b) {o:Own} {n:Nat} {get:Nat->List AV} (g:Nat->Nat) (h:Nrm b g n) (hg:∀j,j < n->get j=[.int .u32 (g j:Int)]) {v:Nat} (hv:vF b g n=v):gV (.sl o 1 n get) (ao b v):=by
 obtain ⟨h1,h2⟩:=yZ hb h
 subst hv
 unfold ao lz
 rw [<-h1]
 exact eK λj hj=>by rw [hg j hj,h2 j hj]
theorem fI {b:Nat} {o:Own} {sz:Nat} {get:Nat->List AV}:gV (.sl o sz 0 get) (ao b 0):=by
 unfold ao lz
 rw [lH]
 exact si
end Go.WE

namespace Go.WE
open Go Go.Ab
section
variable {b:Nat} {g:Nat->Nat}
theorem jF (i x:Nat):vF b (bc g i x) (i+1)=vF b g i+x*b ^ i:=by
 rw [vF,bC,cu (g:=bc g i x) (h:=g) λj hj=>aW _ _ (by omega)]
theorem sa (i s:Nat):vF b (bc g i (s % b)) (i+1)+s / b*b ^ (i+1)=vF b g i+s*b ^ i:=by
 rw [jF,Nat.pow_succ,Nat.mul_comm (b ^ i) b,<-Nat.mul_assoc,Nat.add_assoc,<-Nat.add_mul]
 congr 2
 rw [Nat.mul_comm (s / b) b]
 exact Nat.mod_add_div s b
theorem p8 {i x:Nat}:∀ {n:Nat},i < n->vF b (bc g i x) n+g i*b ^ i=vF b g n+x*b ^ i
 | 0,h=>absurd h (Nat.not_lt_zero _)
 | n+1,h=>by
  by_cases e:i=n
  ·subst e
   rw [jF,vF];omega
  ·have:=p8 (n:=n) (i:=i) (x:=x) (by omega)
   rw [vF,vF,aW _ _ (by omega)];omega
end
theorem fc {b:Nat} {g:Nat->Nat} {n x:Nat} (h:∀j,j < n->g j < b) (hx:x < b):∀j,j < n+1->bc g n x j < b:=λj hj=>by
 by_cases e:j=n
 ·rw [e,bC];exact hx
 ·rw [aW _ _ e];exact h j (by omega)
theorem ck {k:IntKind} (g:Nat->Nat) (i x:Nat) (y:Int) (h:y=(x:Int)):(λj=>cond (Nat.beq j i) [AV.int k y] [AV.int k (g j:Int)])=λj=>[AV.int k ((bc g i x j:Nat):Int)]:=by
 funext j
 unfold bc
 cases Nat.beq j i
 ·rfl
 ·show [AV.int k y]=[AV.int k (x:Int)]
  rw [h]
theorem z5 {b:Nat} {g:Nat->Nat} (hb:0 < b):∀ {n:Nat},(∀i,i < n->g i < b)->∀i,i < n->dg b (vF b g n) i=g i:=fun {n} hg i hi=>by
 obtain ⟨m,rfl⟩:∃m,n=i+1+m:=⟨n - (i+1),by omega⟩
 unfold dg
 rw [ep,vF]
 have h1:vF b g i < b ^ i:=j0 hb λj hj=>hg j (by omega)
 have hp:0 < b ^ i:=Nat.pow_pos hb
 rw [Nat.pow_succ,Nat.mul_comm (b ^ i) b,Nat.mul_assoc,Nat.add_assoc,Nat.mul_comm (g i)]
 rw [show b*(b ^ i*vF b (λj=>g (i+1+j)) m)=b ^ i*(b*vF b (λj=>g (i+1+j)) m) by rw [Nat.mul_left_comm],<-Nat.mul_add,Nat.add_mul_div_left _ _ hp,Nat.div_eq_of_lt h1,Nat.zero_add,Nat.add_mul_mod_self_left]
 exact Nat.mod_eq_of_lt (hg i hi)
theorem xB {b k v i t:Nat} (ht:t < k):dg b (dg (b ^ k) v i) t=dg b v (k*i+t):=by
 unfold dg
 have e:b ^ k=b ^ t*(b*b ^ (k - t - 1)):=by
  rw [<-Nat.pow_succ',<-Nat.pow_add];congr 1;omega
 rw [Nat.pow_add,<-Nat.div_div_eq_div_mul,<-Nat.pow_mul,e]
 generalize v / b ^ (k*i)=w
 generalize b ^ (k - t - 1)=c
 rw [Nat.mod_mul_right_div_self,Nat.mod_mul_right_mod]
end Go.WE

namespace Go.WE
open Go Go.Ab
section
variable {B v1 v0 q r a0:Nat}
theorem zp:q*(v1*B+v0)+(r*B+a0)=((q*v1+r)*B+a0)+q*v0:=by
 rw [Nat.mul_add,Nat.add_mul,<-Nat.mul_assoc];omega
theorem w9 (h:q*v0<=r*B+a0):q*(v1*B+v0)<=(q*v1+r)*B+a0:=by
 have:=zp (B:=B) (v1:=v1) (v0:=v0) (q:=q) (r:=r) (a0:=a0);omega
theorem zq {A v:Nat} (h:A < v*B) (hq:B<=q):A < q*v:=by
 have:B*v<=q*v:=Nat.mul_le_mul_right _ hq
 rw [Nat.mul_comm] at h;omega
theorem pj {A v:Nat} (hv:0 < v) (h:A < q*v):A / v<=q - 1/\1<=q:=by
 have h1:A / v < q:=(Nat.div_lt_iff_lt_mul hv).2 h
 exact ⟨Nat.le_sub_one_of_lt h1,Nat.lt_of_le_of_lt (Nat.zero_le _) h1⟩
theorem zr {A v:Nat} (hv:0 < v) (h:q*v<=A) (h1:A / v<=q):A / v=q:=Nat.le_antisymm h1 ((Nat.le_div_iff_mul_le hv).2 h)
theorem u4 (hv0:v0 < B) (ha:a0 < B) {t:Nat} (hv:0 < v1):(t*B+a0) / (v1*B+v0)<=t / v1:=by
 refine (Nat.le_div_iff_mul_le hv).2 ?_
 have hB:0 < B:=by omega
 have h1:=Nat.div_mul_le_self (t*B+a0) (v1*B+v0)
 generalize (t*B+a0) / (v1*B+v0)=z at h1 ⊢
 rw [Nat.mul_add] at h1
 have h2:z*v1*B < (t+1)*B:=by rw [Nat.mul_assoc,Nat.add_mul,Nat.one_mul];omega
 have:=Nat.lt_of_mul_lt_mul_right h2
 omega
theorem u5 (hv0:v0 < B) (hq:q<=B) (hr:B<=r):q*v0<=r*B+a0:=by
 have h1:q*v0<=B*v0:=Nat.mul_le_mul_right _ hq
 have h2:B*v0<=r*B:=Nat.mul_le_mul hr (by omega)
 omega
theorem u6 (hv0:v0 < B) {t:Nat} (h:t*B+a0 < (v1*B+v0)*B) (hh:B<=2*v1):t / v1<=B+1:=by
 have hv:0 < v1:=by omega
 have h1:t < v1*B+v0:=by
  have:t*B < (v1*B+v0)*B:=by omega
  exact Nat.lt_of_mul_lt_mul_right this
 have h2:t / v1 < B+2:=(Nat.div_lt_iff_lt_mul hv).2 (by rw [Nat.add_mul,Nat.mul_comm B v1];omega)
 omega
end
theorem w8 {B b1 b0 s:Nat} (hB:B % 2=0) (h1:1<=b1) (hb:b1 < B) (hs:s=B / (b1+1)):B<=2*(s*(b1*B+b0) / B):=by
 have hp:0 < B:=by omega
 have hs1:1<=s:=by rw [hs];exact (Nat.le_div_iff_mul_le (by omega)).2 (by omega)
 have h2:B < (b1+1)*(s+1):=by rw [hs];exact Nat.lt_mul_div_succ B (by omega)
 have h3:s*b1<=s*(b1*B+b0) / B:=by
  refine (Nat.le_div_iff_mul_le hp).2 ?_
  rw [Nat.mul_add,<-Nat.mul_assoc];omega
 have h4:s+b1<=s*b1+1:=by
  obtain ⟨x,rfl⟩:∃x,s=x+1:=⟨s - 1,by omega⟩
  obtain ⟨y,rfl⟩:∃y,b1=y+1:=⟨b1 - 1,by omega⟩
  rw [Nat.add_mul,Nat.mul_add];omega
 have h5:B<=s*b1+s+b1:=by
  rw [Nat.add_mul,Nat.mul_add,Nat.mul_one,Nat.one_mul,Nat.mul_comm b1 s] at h2;omega
 omega
end Go.WE

namespace Go.WE
open Go Go.Ab Go.Proofs
abbrev B9:Nat:=1000000000
theorem b9:1 < B9:=by decide
theorem w64 {x:Nat} (h:x < 18446744073709551616):IntKind.wrap .u64 (x:Int)=x:=by
 show ((x:Int) % 18446744073709551616)=x
 omega
theorem w32 {x:Nat} (h:x < 4294967296):IntKind.wrap .u32 (x:Int)=x:=by
 show ((x:Int) % 4294967296)=x
 omega
def φN (b x:Nat):AV×List AO:=(ao b x,[])
def Row (b n:Nat) (g:Nat->Nat):Prop:=n<=1000/\∀i,i < n->g i < b
theorem Row.nat {b:Nat} (hb:1 < b) {v:Nat} (h:dl b v<=1000):Row b (dl b v) (dg b v):=⟨h,λi _=>aY (by omega)⟩
def j3 (b:Nat) (l:List AV) (_:List AO) (x:Nat):Prop:=∀n g,l=[lz n g]->x=vF b g n
theorem j3.at {b n:Nat} {g:Nat->Nat} {l:List AV} {os:List AO} {x:Nat} (h:j3 b l os x) (e:l=[lz n g]):x=vF b g n:=h n g e
theorem j3.mk {b n:Nat} {g:Nat->Nat} {os:List AO} {x:Nat} (h:x=vF b g n):j3 b [lz n g] os x:=λm k e=>by
 injection e with e
 obtain ⟨rfl,rfl⟩:=qf e
 exact h
def trS (v:Nat×(Nat->Nat)):St:={env:=[(0,lz v.1 v.2)],objs:=[]}
def trO (x:Nat×(Nat->Nat)) (k:Ex->St->Res):Res:=k (.exit 0) (trS x)
theorem xC {n:Nat} {h:Int} {m:Nat} (g:Nat->Nat) (e:h.toNat=m):lz (h.toNat - Int.toNat ((0:Nat):Int)) (λj=>g (Int.toNat ((0:Nat):Int)+j))=lz m g:=by
 subst e
 show lz (h.toNat - 0) (λj=>g (0+j))=_
 simp only [Nat.zero_add,Nat.sub_zero]
theorem gX {n:Nat} (h:0 < n) (hn:n<=4611686018427387904):IntKind.wrap .i64 ((n:Int) - 1)=((n - 1:Nat):Int):=by rw [wrap_i64 (by omega) (by omega)];omega
theorem vX {b:Nat} {g:Nat->Nat} {n:Nat} (h:0 < n) (hz:g (n - 1)=0):vF b g n=vF b g (n - 1):=kA (by omega) λi h1 h2=>by rw [show i=n - 1 by omega];exact hz
theorem told (o:Own) {b:Nat} (hb:1 < b) {n:Nat} {g:Nat->Nat} (h:Nrm b g n) {v:Nat} (hv:vF b g n=v):gV (.sl o 1 n λj=>[.int .u32 (g j:Int)]) (ao b v):=mi hb g h (λj _=>rfl) hv
abbrev R1:=Nat×(Nat->Nat)
theorem oU (X:Nat):∃ (u:St->Bool) (w:St->R1),(∀v:R1,Row B9 v.1 v.2/\vF B9 v.2 v.1=X->bq u w (trS v) λx=>Nrm B9 x.2 x.1/\vF B9 x.2 x.1=X)/\∀L:List (List Nat×Orc),aE (V0.run [] 2 [] L [] nG) nG [1,0,0] (mkO u w trO):=
 aQ (Lf:=λL=>L) trS (λv=>Row B9 v.1 v.2/\vF B9 v.2 v.1=X) (λv=>v.1) trO (λx=>Nrm B9 x.2 x.1/\vF B9 x.2 x.1=X) (by kernel_rfl)
  (λv hv=>.n (c:=bif within (IntKind.wrap .i64 ((v.1:Int) - 1)) v.1 then true else !(bif (decide ((v.1:Int) > 0)==true) then true else false)) (by
   by_cases h:0 < v.1
   ·rw [gX h (by have:=hv.1.1;omega),ag (by omega)];rfl
   ·rw [decide_eq_false (show ¬ ((v.1:Int) > 0) by omega)]
    cases within (IntKind.wrap .i64 ((v.1:Int) - 1)) v.1 <;> rfl)
   (.b (bif decide ((v.1:Int) > 0) then ((v.2 (Int.toNat (IntKind.wrap .i64 ((v.1:Int) - 1))):Nat):Int)==0 else false) (λh=>by
    have h0:0 < v.1:=by
     cases hd:decide ((v.1:Int) > 0) with
     | true=>have:=of_decide_eq_true hd;omega
     | false=>rw [hd] at h;cases h
    have hz:v.2 (v.1 - 1)=0:=by
     rw [decide_eq_true (show ((v.1:Int) > 0) by omega),gX h0 (by have:=hv.1.1;omega)] at h
     have h:(((v.2 (v.1 - 1):Nat):Int)==0)=true:=h
     have:=eq_of_beq h;omega
    have hp:IntKind.wrap .i64 ((v.1:Int) - 1)=((v.1 - 1:Nat):Int):=gX h0 (by have:=hv.1.1;omega)
    exact .n (c:=decide (0<=((0:Nat):Int))&&(decide (((0:Nat):Int)<=IntKind.wrap .i64 ((v.1:Int) - 1))&&decide (IntKind.wrap .i64 ((v.1:Int) - 1)<=(v.1:Int)))) (by rw [hp];simp <;> omega)
     (.go {env:=[(0,lz (Int.toNat (IntKind.wrap .i64 ((v.1:Int) - 1)) - Int.toNat ((0:Nat):Int)) λj=>v.2 (Int.toNat ((0:Nat):Int)+j))],objs:=[]} (v.1 - 1,v.2)
      ⟨⟨by have:=hv.1.1;show v.1 - 1<=1000;omega,λi hi=>hv.1.2 i (by have hi:i < v.1 - 1:=hi;omega)⟩,by show vF B9 v.2 (v.1 - 1)=X;rw [<-vX h0 hz];exact hv.2⟩ (by show v.1 - 1 < v.1;omega)
      (by rw [xC (n:=v.1) (m:=v.1 - 1) v.2 (by rw [hp];rfl)];rfl)))
    λh=>.fi v ⟨⟨hv.1.2,λh0 hz=>by
     rw [decide_eq_true (show ((v.1:Int) > 0) by omega),gX (by omega) (by have:=hv.1.1;omega)] at h
     have h:(((v.2 (v.1 - 1):Nat):Int)==0)=false:=h
     rw [hz] at h;cases h⟩,hv.2⟩))
  (λv L k kn=>by kernel_rfl)
theorem eb {n:Nat} {g:Nat->Nat} (h:Row B9 n g):aR wd nG (φN B9) (j3 B9) [lz n g] []:=by
 obtain ⟨u,w,h1,l1⟩:=oU (vF B9 g n)
 exact lb (V:=V0) [] 2 (p:=[1,0,0]) l1 (.lp (h1 (n,g) ⟨h,rfl⟩) λx hx=>.t (vF B9 g n) (.mk rfl) (.one (told .no b9 hx.1 hx.2))) (by kernel_rfl)
noncomputable abbrev iO:Ent:=bN wd nG (φN B9) (j3 B9)
def noS (v:Nat×R1):St:={env:=[(0,.int .u64 (v.1:Int)),(3,.sl (.key 13) 1 v.2.1 λj=>[.int .u32 (v.2.2 j:Int)])],objs:=[(13,.own 1 v.2.1)]}
def noO (x:R1) (k:Ex->St->Res):Res:=k (.exit 0) {env:=[(3,.sl (.key 13) 1 x.1 λj=>[.int .u32 (x.2 j:Int)])],objs:=[(13,.own 1 x.1)]}
def NoI (X:Nat) (v:Nat×R1):Prop:=v.1=X / B9 ^ v.2.1/\(∀j,j < v.2.1->v.2.2 j=dg B9 X j)/\(v.2.1≠0->X / B9 ^ (v.2.1 - 1)≠0)
def mu (b:Nat) (l:List AV) (_:List AO) (x:Nat):Prop:=∀v:Nat,l=[.int .u64 (v:Int)]->x=v
theorem mu.mk {b v:Nat} {os:List AO}:mu b [.int .u64 (v:Int)] os v:=λw e=>by
 injection e with e;injection e with _ e;omega
theorem few {X k n:Nat} (hX:X < B9 ^ n) (h:X / B9 ^ k≠0):k < n:=by
 rcases Nat.lt_or_ge k n with h1 | h1
 ·exact h1
 ·exact absurd (Nat.div_eq_of_lt (Nat.lt_of_lt_of_le hX (Nat.pow_le_pow_right (by decide) h1))) h
theorem digs {b X:Nat} (hb:1 < b) {k:Nat} {g:Nat->Nat} (hg:∀j,j < k->g j=dg b X j) (h0:k≠0->X / b ^ (k - 1)≠0) (he:X / b ^ k=0):Nrm b g k/\vF b g k=X:=by
 have hlt:X < b ^ k:=by
  rcases Nat.lt_or_ge X (b ^ k) with h | h
  ·exact h
  ·have:=Nat.div_pos h (Nat.pow_pos (by omega));omega
 have htop:k≠0->g (k - 1)≠0:=λhk=>by
  rw [hg _ (by omega)]
  unfold dg
  rw [Nat.mod_eq_of_lt]
  ·exact h0 hk
  ·obtain ⟨m,rfl⟩:∃m,k=m+1:=⟨k - 1,by omega⟩
   rw [Nat.div_lt_iff_lt_mul (Nat.pow_pos (by omega)),<-Nat.pow_succ']
   exact hlt
 refine ⟨⟨λi hi=>by rw [hg i hi];exact aY (by omega),htop⟩,?_⟩
 have h1:=eh hb hlt
 rw [cu (g:=g) (h:=dg b X) hg,kA h1 λi hi h2=>?_,en hb]
 unfold dg
 rw [Nat.div_eq_of_lt,Nat.zero_mod]
 exact Nat.lt_of_lt_of_le (lM hb) (Nat.pow_le_pow_right (by omega) hi)
theorem nI (X:Nat) (hX:X < B9 ^ 3):∃ (u:St->Bool) (w:St->R1),(∀v:Nat×R1,NoI X v->bq u w (noS v) λx=>Nrm B9 x.2 x.1/\vF B9 x.2 x.1=X)/\∀L:List (List Nat×Orc),aE (V0.run [] 2 [] L [] jl) jl [1,1,0,0] (mkO u w noO):=
 aQ (Lf:=λL=>L) noS (NoI X) (λv=>v.1) noO (λx=>Nrm B9 x.2 x.1/\vF B9 x.2 x.1=X) (by kernel_rfl)
  (λv hv=>.b (decide ((v.1:Int) > 0)) (λh=>by
    have h0:0 < v.1:=by have:=of_decide_eq_true h;omega
    have hv1:=hv.1
    have hk:v.2.1 < 3:=few hX (by rw [<-hv1];omega)
    have hr:v.1 < 18446744073709551616*B9:=by
     rw [hv1];exact Nat.lt_of_le_of_lt (Nat.div_le_self _ _) (Nat.lt_of_lt_of_le hX (by decide))
    exact .n (c:=roomy 4 (v.2.1+1)&&Nat.beq v.2.1 v.2.1) (cb (by omega))
     (.go {env:=[(0,.int .u64 (IntKind.wrap .u64 (Int.tdiv (v.1:Int) 1000000000))),(3,.sl (.key 13) 1 (v.2.1+1) (av v.2.1 1 (λj=>[.int .u32 (v.2.2 j:Int)]) (al [.int .u32 0] [(0,.int .u32 (IntKind.wrap .u32 (Int.tmod (v.1:Int) 1000000000)))])))],objs:=[(13,.own 1 (v.2.1+1))]}
      (v.1 / B9,v.2.1+1,bc v.2.2 v.2.1 (dg B9 X v.2.1))
      ⟨by show v.1 / B9=X / B9 ^ (v.2.1+1);rw [hv1,Nat.pow_succ,Nat.div_div_eq_div_mul],λj hj=>by
       by_cases e:j=v.2.1
       ·rw [e];exact bC _ _ _
       ·exact (aW _ _ e).trans (hv.2.1 j (by have hj:j < v.2.1+1:=hj;omega)),λ_=>by show X / B9 ^ v.2.1≠0;rw [<-hv1];omega⟩
      (Nat.div_lt_self h0 b9)
      (by
       have e1:IntKind.wrap .u64 (Int.tdiv (v.1:Int) 1000000000)=((v.1 / B9:Nat):Int):=w64 (x:=v.1 / B9) (by rw [Nat.div_lt_iff_lt_mul (by decide)];exact hr)
       have e2:IntKind.wrap .u32 (Int.tmod (v.1:Int) 1000000000)=((dg B9 X v.2.1:Nat):Int):=by
        unfold dg
        rw [<-hv1]
        exact w32 (x:=v.1 % B9) (Nat.lt_trans (Nat.mod_lt _ (by decide)) (by decide))
       rw [e1,e2,lr (λx:Nat=>[AV.int .u32 (x:Int)]) v.2.1 v.2.2 _ (dg B9 X v.2.1) rfl];rfl)))
   λh=>.fi v.2 (by
    have h0:v.1=0:=by have:=of_decide_eq_false h;omega
    exact digs b9 hv.2.1 hv.2.2 (by rw [<-hv.1];exact h0)))
  (λv L k kn=>by kernel_rfl)
theorem jk {v:Nat} (h:v < 18446744073709551616):aR wd jl (φN B9) (mu B9) [.int .u64 (v:Int)] []:=by
 obtain ⟨u,w,h1,l1⟩:=nI v (Nat.lt_trans h (by decide))
 exact lb (V:=V0) [] 2 (p:=[1,1,0,0]) l1 (.lp (h1 (v,0,λ_=>0) ⟨by rw [Nat.pow_zero,Nat.div_one],λj hj=>absurd hj (Nat.not_lt_zero _),λh=>absurd rfl h⟩) λx hx=>.t v .mk (.one (told .no b9 hx.1 hx.2))) (by kernel_rfl)
noncomputable abbrev tG:Ent:=bN wd jl (φN B9) (mu B9)
end Go.WE

namespace Go.WE
open Go Go.Ab Go.Proofs
def rB {τ:Type} (b:Nat) (F:Nat->Nat->τ->Prop) (l:List AV) (_:List AO) (x:τ):Prop:=∀v w,l=[ao b v,ao b w]->F v w x
theorem rB.mk {τ:Type} {b:Nat} (hb:1 < b) {F:Nat->Nat->τ->Prop} {v w:Nat} {os:List AO} {x:τ} (h:F v w x):rB b F [ao b v,ao b w] os x:=λv' w' e=>by
 injection e with e1 e
 injection e with e2 _
 rw [<-bJ hb e1,<-bJ hb e2];exact h
def rU {τ:Type} (b:Nat) (F:Nat->τ->Prop) (l:List AV) (_:List AO) (x:τ):Prop:=∀v,l=[ao b v]->F v x
theorem rU.mk {τ:Type} {b:Nat} (hb:1 < b) {F:Nat->τ->Prop} {v:Nat} {os:List AO} {x:τ} (h:F v x):rU b F [ao b v] os x:=λv' e=>by
 injection e with e1 _
 rw [<-bJ hb e1];exact h
def kd (v w:Nat):Int:=if v < w then -1 else if w < v then 1 else 0
theorem jz {v w:Nat} (h:v < w):kd v w = -1:=by unfold kd;rw [if_pos h]
theorem ld {v w:Nat} (h:w < v):kd v w=1:=by unfold kd;rw [if_neg (by omega),if_pos h]
theorem lf {v w:Nat} (h:v=w):kd v w=0:=by unfold kd;rw [if_neg (by omega),if_neg (by omega)]
def φI (x:Int):AV×List AO:=(.int .i64 x,[])
theorem k9 {b v w:Nat} (hb:1 < b) (h:dl b v < dl b w):v < w:=by
 rcases Nat.lt_or_ge v w with h1 | h1
 ·exact h1
 ·have:=eh (n:=dl b v) hb (Nat.lt_of_le_of_lt h1 (lM hb));omega
theorem qQ {b v w k:Nat} (hb:1 < b) (hn:dl b v=dl b w) (hk:k < dl b v) (e:∀i,k < i->i < dl b v->dg b v i=dg b w i) (h:dg b v k < dg b w k):v < w:=by
 have:=yi (b:=b) (n:=dl b v) (by omega) (λi _=>aY (v:=v) (by omega)) (λi _=>aY (v:=w) (by omega)) hk e h
 rw [en hb,hn,en hb] at this;exact this
theorem qO {b v w:Nat} (hb:1 < b) (hn:dl b v=dl b w) (e:∀i,i < dl b v->dg b v i=dg b w i):v=w:=by
 have h1:=cu (b:=b) e
 rw [en hb,hn,en hb] at h1;exact h1
def cmS (b v w:Nat) (k:Nat):St:={env:=[(0,ao b v),(1,ao b w),(5,.int .i64 ((k:Int) - 1))],objs:=[]}
def cmO (x:Bool×Int) (k:Ex->St->Res):Res:=cond x.1 (k .ret {env:=[(4,.int .i64 x.2)],objs:=[]}) (k (.exit 0) {env:=[],objs:=[]})
theorem sR {k:Nat} (h:0 < k) (hn:k<=4611686018427387904):IntKind.wrap .i64 ((k:Int) - 1 - 1)=((k - 1:Nat):Int) - 1:=by rw [wrap_i64 (by omega) (by omega)];omega
def CmP (v w:Nat) (x:Bool×Int):Prop:=(x.1=true->x.2=kd v w)/\(x.1=false->v=w)
theorem rh (v w:Nat) (hl:dl B9 v<=1000):∃ (u:St->Bool) (z:St->Bool×Int),(∀k:Nat,dl B9 v=dl B9 w/\k<=dl B9 v/\(∀i,k<=i->i < dl B9 v->dg B9 v i=dg B9 w i)->bq u z (cmS B9 v w k) (CmP v w))/\∀L:List (List Nat×Orc),aE (V0.run [] 2 [] L [] gD) gD [1,1,0,1,0] (mkO u z cmO):=
 aQ (Lf:=λL=>L) (cmS B9 v w) (λk=>dl B9 v=dl B9 w/\k<=dl B9 v/\∀i,k<=i->i < dl B9 v->dg B9 v i=dg B9 w i) (λk=>k) cmO (CmP v w) (by kernel_rfl)
  (λk hk'=>.b (decide ((k:Int) - 1≥0)) (λh=>by
    have hn:=hk'.1
    have hk:=hk'.2
    have h0:0 < k:=by have:=of_decide_eq_true h;omega
    have ht:Int.toNat ((k:Int) - 1)=k - 1:=by omega
    have hw:within ((k:Int) - 1) (dl B9 v)=true:=by
     rw [show ((k:Int) - 1)=((k - 1:Nat):Int) by omega];exact ag (by omega)
    have hw2:within ((k:Int) - 1) (dl B9 w)=true:=by rw [<-hn];exact hw
    exact .n hw (.n hw2 (.b (((dg B9 v (Int.toNat ((k:Int) - 1)):Nat):Int) !=((dg B9 w (Int.toNat ((k:Int) - 1)):Nat):Int)) (λhd=>.n hw (.n hw2 (.b (decide (((dg B9 v (Int.toNat ((k:Int) - 1)):Nat):Int) < ((dg B9 w (Int.toNat ((k:Int) - 1)):Nat):Int))) (λhl=>.fi (true,-1) ⟨λ_=>by
       have:=of_decide_eq_true hl
       rw [ht] at this
       exact (jz (qQ b9 hn (k:=k - 1) (by omega) (λi h1 h2=>hk.2 i (by omega) h2) (by omega))).symm,λh=>nomatch h⟩)
      λhl=>.fi (true,1) ⟨λ_=>by
       have:=of_decide_eq_false hl
       have hd:=bne_iff_ne.1 hd
       rw [ht] at this hd
       exact (ld (qQ b9 hn.symm (k:=k - 1) (by omega) (λi h1 h2=>(hk.2 i (by omega) (by omega)).symm) (by omega))).symm,λh=>nomatch h⟩)))
     λhd=>.go {env:=[(0,ao B9 v),(1,ao B9 w),(5,.int .i64 (IntKind.wrap .i64 ((k:Int) - 1 - 1)))],objs:=[]} (k - 1)
      ⟨hn,by omega,λi h1 h2=>by
       by_cases e:i=k - 1
       ·have hd:((dg B9 v (Int.toNat ((k:Int) - 1)):Nat):Int)=((dg B9 w (Int.toNat ((k:Int) - 1)):Nat):Int):=by simpa using hd
        rw [ht] at hd
        rw [e];omega
       ·exact hk.2 i (by omega) h2⟩ (by omega) (by rw [sR h0 (by omega)];rfl))))
   λh=>.fi (false,0) ⟨λh=>(nomatch h),λ_=>by
    have h0:k=0:=by have:=of_decide_eq_false h;omega
    exact qO b9 hk'.1 λi hi=>hk'.2.2 i (by omega) hi⟩)
  (λv L k kn=>by kernel_rfl)
theorem mz {v w:Nat} (h1:dl B9 v<=1000) (h2:dl B9 w<=1000):aR wd gD φI (rB B9 λv w x=>x=kd v w) [ao B9 v,ao B9 w] []:=by
 obtain ⟨u,z,hu,l1⟩:=rh v w h1
 refine lb (V:=V0) [] 2 (p:=[1,1,0,1,0]) l1 (.b ((dl B9 v:Int) !=(dl B9 w:Int)) (λhd=>.b (decide ((dl B9 v:Int) < (dl B9 w:Int))) (λh=>.r (-1) (rB.mk b9 (jz (k9 b9 (by have:=of_decide_eq_true h;omega))).symm)) λh=>.r 1 (rB.mk b9 (ld (k9 b9 (by have:=of_decide_eq_false h;have:=bne_iff_ne.1 hd;omega))).symm)) λhd=>.lp (s:={env:=[(0,ao B9 v),(1,ao B9 w),(5,.int .i64 (IntKind.wrap .i64 ((dl B9 v:Int) - 1)))],objs:=[]}) (Q:=CmP v w) (by
   have hd:((dl B9 v:Nat):Int)=(dl B9 w:Nat):=by simpa using hd
   rw [wrap_i64 (by omega) (by omega)]
   exact hu (dl B9 v) ⟨by omega,Nat.le_refl _,λi h1 h2=>by omega⟩) λx hx=>.b x.1 (λh=>.r x.2 (rB.mk b9 (hx.1 h))) λh=>.r 0 (rB.mk b9 (lf (hx.2 h)).symm)) (by kernel_rfl)
noncomputable abbrev Cl:Ent:=bN wd gD φI (rB B9 λv w x=>x=kd v w)
end Go.WE

namespace Go.WE
open Go Go.Ab Go.Proofs
abbrev φN9:=φN B9
theorem p9 {b:Nat} (hb:1 < b) (v:Nat):∀n:Nat,vF b (dg b v) n=v % b ^ n
 | 0=>by rw [vF,Nat.pow_zero,Nat.mod_one]
 | n+1=>by
  rw [vF,p9 hb v n,Nat.pow_succ]
  unfold dg
  rw [Nat.mul_comm (v / b ^ n % b),<-Nat.mod_mul]
theorem fC {b v n:Nat} (hb:1 < b) (h:dl b v<=n):vF b (dg b v) n=v:=by
 rw [p9 hb]
 exact Nat.mod_eq_of_lt (Nat.lt_of_lt_of_le (lM hb) (Nat.pow_le_pow_right (by omega) h))
theorem nd {b v n:Nat} (hb:1 < b) (h:dl b v<=n):dg b v n=0:=by
 unfold dg
 rw [Nat.div_eq_of_lt (Nat.lt_of_lt_of_le (lM hb) (Nat.pow_le_pow_right (by omega) h)),Nat.zero_mod]
theorem fO (n:Nat) (f:Nat->Nat) {y:Int} {c:Nat} (h:y=c):av n 1 (λj=>[AV.int .u32 (f j:Int)]) (al [.int .u32 0] [(0,.int .u32 y)])=λj=>[.int .u32 ((bc f n c j:Nat):Int)]:=by
 rw [h];exact lr (λx:Nat=>[AV.int .u32 (x:Int)]) n f _ c rfl
theorem sJ (n:Nat) (f:Nat->Nat) (s:Nat):av n 1 (λj=>[AV.int .u32 (f j:Int)]) (al [.int .u32 0] [(0,.int .u32 (Int.tmod (s:Int) 1000000000))])=λj=>[.int .u32 ((bc f n (s % B9) j:Nat):Int)]:=fO n f rfl
theorem aZ {k:Nat} (h:k<=4611686018427387904):IntKind.wrap .i64 ((k:Int)+1)=((k+1:Nat):Int):=by rw [wrap_i64 (by omega) (by omega)];omega
theorem aF {a b:Nat} (h:decide ((a:Int) < (b:Int))=false):b<=a:=by have:=of_decide_eq_false h;omega
theorem aB {a b:Nat} (h:decide ((a:Int) < (b:Int))=true):a < b:=by have:=of_decide_eq_true h;omega
theorem yx {f:Nat->Nat} {b v w c i s:Nat} (hs:s=dg b v i+c+dg b w i) (h:vF b f i+c*b ^ i=vF b (dg b v) i+vF b (dg b w) i):vF b (bc f i (s % b)) (i+1)+s / b*b ^ (i+1)=vF b (dg b v) (i+1)+vF b (dg b w) (i+1):=by
 rw [sa,hs,Nat.add_mul,Nat.add_mul]
 show _=vF b (dg b v) i+dg b v i*b ^ i+(vF b (dg b w) i+dg b w i*b ^ i)
 omega
abbrev R3:=Nat×Nat×(Nat->Nat)
def adS (v w:Nat) (x:R3):St:={env:=[(1,ao B9 w),(5,.sl (.key 19) 1 x.1 λj=>[.int .u32 (x.2.2 j:Int)]),(6,.int .u32 (x.2.1:Int)),(20,ao B9 v),(21,.int .i64 (dl B9 v:Int)),(22,.int .i64 (x.1:Int))],objs:=[(19,.own 1 x.1)]}
def adO (x:R3) (k:Ex->St->Res):Res:=k (.exit 0) {env:=[(5,.sl (.key 19) 1 x.1 λj=>[.int .u32 (x.2.2 j:Int)]),(6,.int .u32 (x.2.1:Int))],objs:=[(19,.own 1 x.1)]}
def AdI (v w:Nat) (x:R3):Prop:=x.1<=dl B9 v/\x.2.1<=1/\(∀j,j < x.1->x.2.2 j < B9)/\vF B9 x.2.2 x.1+x.2.1*B9 ^ x.1=vF B9 (dg B9 v) x.1+vF B9 (dg B9 w) x.1
def AdJ (X:Nat) (y:(Nat×Nat)×R3):Prop:=y.1.1+y.1.2=X/\dl B9 y.1.1<=900/\dl B9 y.1.2<=dl B9 y.1.1/\AdI y.1.1 y.1.2 y.2
def AdP (X:Nat) (x:R3):Prop:=x.1<=900/\(∀j,j < x.1->x.2.2 j < B9)/\x.2.1<=1/\vF B9 x.2.2 x.1+x.2.1*B9 ^ x.1=X
theorem rj (X:Nat):∃ (u:St->Bool) (z:St->R3),(∀y,AdJ X y->bq u z (adS y.1.1 y.1.2 y.2) (AdP X))/\∀L:List (List Nat×Orc),aE (V0.run [iO] 2 [] L [] kq) kq [1,1,1,1,0,1,0] (mkO u z adO):=
 aQ (Lf:=λL=>L) (λy:(Nat×Nat)×R3=>adS y.1.1 y.1.2 y.2) (AdJ X) (λy=>dl B9 y.1.1 - y.2.1) adO (AdP X) (by kernel_rfl)
  (λy hy=>.b (decide ((y.2.1:Int) < (dl B9 y.1.1:Int))) (λh=>by
    have h0:=aB h
    obtain ⟨hX,hl,hw,hx⟩:=hy
    obtain ⟨h1,h2,h3,h4⟩:=hx
    have d1:dg B9 y.1.1 y.2.1 < 1000000000:=aY (by decide)
    have d2:dg B9 y.1.2 y.2.1 < 1000000000:=aY (by decide)
    have e1:IntKind.wrap .u32 (((dg B9 y.1.1 (Int.toNat (y.2.1:Int)):Nat):Int)+(y.2.2.1:Int))=((dg B9 y.1.1 y.2.1+y.2.2.1:Nat):Int):=w32 (x:=dg B9 y.1.1 y.2.1+y.2.2.1) (by omega)
    have hgo:∀s:Nat,s=dg B9 y.1.1 y.2.1+y.2.2.1+dg B9 y.1.2 y.2.1->AdJ X (y.1,y.2.1+1,s / B9,bc y.2.2.2 y.2.1 (s % B9)):=λs hs=>⟨hX,hl,hw,h0,by show s / 1000000000<=1;omega,λj hj=>by
      show bc y.2.2.2 y.2.1 (s % B9) j < B9
      exact fc h3 (Nat.mod_lt _ (by decide)) j hj,yx hs h4⟩
    exact .n (ag h0) (.b (decide ((y.2.1:Int) < (dl B9 y.1.2:Int))) (λhm=>.n (ag (aB hm)) (.n (c:=roomy 4 (y.2.1+1)&&Nat.beq y.2.1 y.2.1) (cb (by omega))
      (.go {env:=[(1,ao B9 y.1.2),(5,.sl (.key 19) 1 (y.2.1+1) (av y.2.1 1 (λj=>[.int .u32 (y.2.2.2 j:Int)]) (al [.int .u32 0] [(0,.int .u32 (Int.tmod (IntKind.wrap .u32 (IntKind.wrap .u32 (((dg B9 y.1.1 (Int.toNat (y.2.1:Int)):Nat):Int)+(y.2.2.1:Int))+((dg B9 y.1.2 (Int.toNat (y.2.1:Int)):Nat):Int))) 1000000000))]))),(6,.int .u32 (IntKind.wrap .u32 (Int.tdiv (IntKind.wrap .u32 (IntKind.wrap .u32 (((dg B9 y.1.1 (Int.toNat (y.2.1:Int)):Nat):Int)+(y.2.2.1:Int))+((dg B9 y.1.2 (Int.toNat (y.2.1:Int)):Nat):Int))) 1000000000))),(20,ao B9 y.1.1),(21,.int .i64 (dl B9 y.1.1:Int)),(22,.int .i64 (IntKind.wrap .i64 ((y.2.1:Int)+1)))],objs:=[(19,.own 1 (y.2.1+1))]}
       (y.1,y.2.1+1,(dg B9 y.1.1 y.2.1+y.2.2.1+dg B9 y.1.2 y.2.1) / B9,bc y.2.2.2 y.2.1 ((dg B9 y.1.1 y.2.1+y.2.2.1+dg B9 y.1.2 y.2.1) % B9)) (hgo _ rfl) (by show dl B9 y.1.1 - (y.2.1+1) < dl B9 y.1.1 - y.2.1;omega) (by
        have e2:IntKind.wrap .u32 (((dg B9 y.1.1 y.2.1+y.2.2.1:Nat):Int)+((dg B9 y.1.2 (Int.toNat (y.2.1:Int)):Nat):Int))=((dg B9 y.1.1 y.2.1+y.2.2.1+dg B9 y.1.2 y.2.1:Nat):Int):=w32 (x:=dg B9 y.1.1 y.2.1+y.2.2.1+dg B9 y.1.2 y.2.1) (by omega)
        have e3:IntKind.wrap .u32 (Int.tdiv ((dg B9 y.1.1 y.2.1+y.2.2.1+dg B9 y.1.2 y.2.1:Nat):Int) 1000000000)=(((dg B9 y.1.1 y.2.1+y.2.2.1+dg B9 y.1.2 y.2.1) / B9:Nat):Int):=w32 (x:=(dg B9 y.1.1 y.2.1+y.2.2.1+dg B9 y.1.2 y.2.1) / B9) (Nat.lt_of_le_of_lt (Nat.div_le_self _ _) (by omega))
        rw [e1,e2,e3,aZ (by omega),sJ];rfl))))
     λhm=>.n (c:=roomy 4 (y.2.1+1)&&Nat.beq y.2.1 y.2.1) (cb (by omega))
      (.go {env:=[(1,ao B9 y.1.2),(5,.sl (.key 19) 1 (y.2.1+1) (av y.2.1 1 (λj=>[.int .u32 (y.2.2.2 j:Int)]) (al [.int .u32 0] [(0,.int .u32 (Int.tmod (IntKind.wrap .u32 (((dg B9 y.1.1 (Int.toNat (y.2.1:Int)):Nat):Int)+(y.2.2.1:Int))) 1000000000))]))),(6,.int .u32 (IntKind.wrap .u32 (Int.tdiv (IntKind.wrap .u32 (((dg B9 y.1.1 (Int.toNat (y.2.1:Int)):Nat):Int)+(y.2.2.1:Int))) 1000000000))),(20,ao B9 y.1.1),(21,.int .i64 (dl B9 y.1.1:Int)),(22,.int .i64 (IntKind.wrap .i64 ((y.2.1:Int)+1)))],objs:=[(19,.own 1 (y.2.1+1))]}
       (y.1,y.2.1+1,(dg B9 y.1.1 y.2.1+y.2.2.1) / B9,bc y.2.2.2 y.2.1 ((dg B9 y.1.1 y.2.1+y.2.2.1) % B9)) (hgo _ (by rw [nd b9 (aF hm)];rfl)) (by show dl B9 y.1.1 - (y.2.1+1) < dl B9 y.1.1 - y.2.1;omega) (by
        have e3:IntKind.wrap .u32 (Int.tdiv ((dg B9 y.1.1 y.2.1+y.2.2.1:Nat):Int) 1000000000)=(((dg B9 y.1.1 y.2.1+y.2.2.1) / B9:Nat):Int):=w32 (x:=(dg B9 y.1.1 y.2.1+y.2.2.1) / B9) (Nat.lt_of_le_of_lt (Nat.div_le_self _ _) (by omega))
        rw [e1,e3,aZ (by omega),sJ];rfl))))
   λh=>.fi y.2 (by
    obtain ⟨hX,hl,hw,hx⟩:=hy
    obtain ⟨h1,h2,h3,h4⟩:=hx
    have e:y.2.1=dl B9 y.1.1:=by have:=aF h;omega
    exact ⟨by show y.2.1<=900;rw [e];exact hl,h3,h2,by rw [h4,e,en b9,fC b9 hw];exact hX⟩))
  (λv L k kn=>by kernel_rfl)
theorem tV {X:Nat} {x:R3} (hx:AdP X x):aR wd nG φN9 (j3 B9) [.sl .no 1 (x.1+1) (av x.1 1 (λj=>[.int .u32 (x.2.2 j:Int)]) (al [.int .u32 0] [(0,.int .u32 (x.2.1:Int))]))] []/\∀r,j3 B9 [.sl .no 1 (x.1+1) (av x.1 1 (λj=>[.int .u32 (x.2.2 j:Int)]) (al [.int .u32 0] [(0,.int .u32 (x.2.1:Int))]))] [] r->r=X:=by
 obtain ⟨h1,h3,h2,h4⟩:=hx
 rw [fO _ _ (c:=x.2.1) rfl]
 exact ⟨eb (n:=x.1+1) (g:=bc x.2.2 x.1 x.2.1) ⟨by omega,fc h3 (Nat.lt_of_le_of_lt h2 b9)⟩,λr hr=>by rw [hr.at rfl,jF,h4]⟩
theorem uI {v w:Nat} (h1:dl B9 v<=900) (h2:dl B9 w<=900):aR wd kq φN9 (rB B9 λv w x=>x=v+w) [ao B9 v,ao B9 w] []:=by
 obtain ⟨u,z,hu,l1⟩:=rj (v+w)
 have fin:∀x:R3,AdP (v+w) x->Run (rB B9 (λv w x=>x=v+w) [ao B9 v,ao B9 w] []) φN9 _:=λx hx=>
  Run.n (Post:=rB B9 (λv w x=>x=v+w) [ao B9 v,ao B9 w] []) (φ:=φN9) (c:=roomy 4 (x.1+1)&&Nat.beq x.1 x.1) (cb (by have:=hx.1;omega)) (.call (tV hx).1 λt q=>.r t (rB.mk b9 ((tV hx).2 t q)))
 have mk:∀n:Nat,n<=900->(decide ((0:Int)=0)&&(decide (0<=IntKind.wrap .i64 ((n:Int)+1))&&(roomy 4 (IntKind.wrap .i64 ((n:Int)+1)).toNat&&decide (IntKind.wrap .i64 ((n:Int)+1)<=140737488355328))))=true:=λn hn=>by
  rw [aZ (by omega)]
  unfold roomy
  simp;omega
 exact lb (V:=V0) [iO] 2 (p:=[1,1,1,1,0,1,0]) l1 (.b (decide ((dl B9 v:Int) < (dl B9 w:Int)))
  (λh=>.n (mk _ h2) (.lp (hu ((w,v),0,0,λ_=>0) ⟨Nat.add_comm _ _,h2,Nat.le_of_lt (aB h),Nat.zero_le _,Nat.zero_le _,λj hj=>absurd hj (Nat.not_lt_zero _),rfl⟩) fin))
  λh=>.n (mk _ h1) (.lp (hu ((v,w),0,0,λ_=>0) ⟨rfl,h1,aF h,Nat.zero_le _,Nat.zero_le _,λj hj=>absurd hj (Nat.not_lt_zero _),rfl⟩) fin)) (by kernel_rfl)
noncomputable abbrev Gz:Ent:=bN wd kq φN9 (rB B9 λv w x=>x=v+w)
end Go.WE

namespace Go.WE
open Go Go.Ab Go.Proofs
theorem wI {z:Int}:IntKind.wrap .i64 z=(z+9223372036854775808) % 18446744073709551616 - 9223372036854775808:=by
 simp [IntKind.wrap,IntKind.signed,IntKind.bits] <;> (try split) <;> omega
theorem wU {z:Int}:IntKind.wrap .u32 z=z % 4294967296:=Classical.byContradiction λh=>h rfl
theorem wL {z:Int}:IntKind.wrap .u64 z=z % 18446744073709551616:=Classical.byContradiction λh=>h rfl
theorem eI {a b:Nat} (h:a < b):Nat.blt a b=true:=Nat.ble_eq_true_of_le h
theorem eX {b v w:Nat} (hb:1 < b) (h:v<=w):dl b v<=dl b w:=eh hb (Nat.lt_of_le_of_lt h (lM hb))
def suR (v w:Nat) (i c:Int) (r:Nat->List AV):St:={env:=[(1,ao B9 w),(5,.msl 12 1 0 (dl B9 v)),(6,.int .i64 c),(13,ao B9 v),(14,.int .i64 (dl B9 v:Int)),(15,.int .i64 i)],objs:=[(12,.arr 1 (dl B9 v) r)]}
theorem qc {v w:Nat} {i i' c c':Int} {r r':Nat->List AV} (h1:i=i') (h2:c=c') (h3:r=r'):suR v w i c r=suR v w i' c' r':=by rw [h1,h2,h3]
def suS (v w:Nat) (x:R3):St:=suR v w x.1 x.2.1 λj=>[.int .u32 (x.2.2 j:Int)]
def suO (v:Nat) (x:R3) (k:Ex->St->Res):Res:=k (.exit 0) {env:=[(5,.msl 12 1 0 (dl B9 v))],objs:=[(12,.arr 1 (dl B9 v) λj=>[.int .u32 (x.2.2 j:Int)])]}
def SuI (v w:Nat) (x:R3):Prop:=x.1<=dl B9 v/\x.2.1<=1/\(∀j,j < x.1->x.2.2 j < B9)/\vF B9 x.2.2 x.1+vF B9 (dg B9 w) x.1=vF B9 (dg B9 v) x.1+x.2.1*B9 ^ x.1/\dl B9 v<=1000
theorem Au {v w c d:Nat} {x:R3} (hx:SuI v w x) (h0:x.1 < dl B9 v) (hc:c<=1) (hd:d < 1000000000) (he:d+dg B9 w x.1+x.2.1=dg B9 v x.1+c*1000000000):SuI v w (x.1+1,c,bc x.2.2 (0+x.1) d):=by
 obtain ⟨h1,h2,h3,h4,h5⟩:=hx
 rw [Nat.zero_add]
 refine ⟨h0,hc,fc h3 hd,?_,h5⟩
 show vF B9 (bc x.2.2 x.1 d) (x.1+1)+(vF B9 (dg B9 w) x.1+dg B9 w x.1*B9 ^ x.1)=vF B9 (dg B9 v) x.1+dg B9 v x.1*B9 ^ x.1+c*B9 ^ (x.1+1)
 rw [jF,Nat.pow_succ,Nat.mul_comm (B9 ^ x.1) B9,<-Nat.mul_assoc,show c*B9=c*1000000000 from rfl]
 have:=congrArg (·*B9 ^ x.1) he
 simp only [Nat.add_mul] at this
 omega
theorem re (v w:Nat):∃ (u:St->Bool) (z:St->R3),(∀x,SuI v w x->bq u z (suS v w x) λx=>SuI v w x/\x.1=dl B9 v)/\∀L:List (List Nat×Orc),aE (V0.run [iO] 2 [] L [] ko) ko [1,1,1,0,1,0] (mkO u z (suO v)):=
 aQ (Lf:=λL=>L) (suS v w) (SuI v w) (λx=>dl B9 v - x.1) (suO v) (λx=>SuI v w x/\x.1=dl B9 v) (by kernel_rfl)
  (λx hx=>.b (decide ((↑x.1:Int) < (↑(dl B9 v):Int))) (λh1=>
   .n (c:=within (↑x.1:Int) (dl B9 v)) (ag (aB h1)) (
   .b (decide ((↑x.1:Int) < (↑(dl B9 w):Int))) (λh2=>
    .n (c:=within (↑x.1:Int) (dl B9 w)) (ag (aB h2)) (
    .b (decide (IntKind.wrap IntKind.i64 (IntKind.wrap IntKind.i64 (IntKind.wrap IntKind.i64 (↑(dg B9 v x.1):Int) - (↑x.2.1:Int)) - IntKind.wrap IntKind.i64 (↑(dg B9 w x.1):Int)) < 0)) (λh3=>
     .n (c:=within (↑x.1:Int) (dl B9 v)) (ag (aB h1)) (
     .n (c:=Nat.blt (0+x.1) (dl B9 v)) (eI (by have:=aB h1;omega)) (
     .go {env:=[(1,ao B9 w),(5,.msl 12 1 0 (dl B9 v)),(6,.int .i64 1),(13,ao B9 v),(14,.int .i64 (↑(dl B9 v):Int)),(15,.int .i64 (IntKind.wrap IntKind.i64 ((↑x.1:Int)+1)))],objs:=[(12,.arr 1 (dl B9 v) λj=>bif Nat.beq j (0+x.1) then [.int .u32 (IntKind.wrap IntKind.u32 (IntKind.wrap IntKind.i64 (IntKind.wrap IntKind.i64 (IntKind.wrap IntKind.i64 (IntKind.wrap IntKind.i64 (↑(dg B9 v x.1):Int) - (↑x.2.1:Int)) - IntKind.wrap IntKind.i64 (↑(dg B9 w x.1):Int))+1000000000)))] else [.int .u32 (↑(x.2.2 j):Int)])]} (x.1+1,1,bc x.2.2 (0+x.1) (dg B9 v x.1+1000000000 - x.2.1 - dg B9 w x.1)) (Au hx (aB h1) (by decide) (by have e1:dg B9 v x.1 < 1000000000:=aY (by decide);have e2:dg B9 w x.1 < 1000000000:=aY (by decide);have e3:=hx.2.1;have e5:=of_decide_eq_true h3;simp only [wI] at e5;omega) (by have e1:dg B9 v x.1 < 1000000000:=aY (by decide);have e2:dg B9 w x.1 < 1000000000:=aY (by decide);have e3:=hx.2.1;have e5:=of_decide_eq_true h3;simp only [wI] at e5;omega)) (by have:=aB h1;show dl B9 v - (x.1+1) < dl B9 v - x.1;omega) (qc (aZ (by have:=aB h1;have:=hx.1;have:=hx.2.2.2.2;omega)) rfl (ck _ _ _ _ (by have e1:dg B9 v x.1 < 1000000000:=aY (by decide);have e2:dg B9 w x.1 < 1000000000:=aY (by decide);have e3:=hx.2.1;have e5:=of_decide_eq_true h3;simp only [wI] at e5;simp only [wI,wU];omega)))))) λh3=>
    .n (c:=within (↑x.1:Int) (dl B9 v)) (ag (aB h1)) (
    .n (c:=Nat.blt (0+x.1) (dl B9 v)) (eI (by have:=aB h1;omega)) (
    .go {env:=[(1,ao B9 w),(5,.msl 12 1 0 (dl B9 v)),(6,.int .i64 0),(13,ao B9 v),(14,.int .i64 (↑(dl B9 v):Int)),(15,.int .i64 (IntKind.wrap IntKind.i64 ((↑x.1:Int)+1)))],objs:=[(12,.arr 1 (dl B9 v) λj=>bif Nat.beq j (0+x.1) then [.int .u32 (IntKind.wrap IntKind.u32 (IntKind.wrap IntKind.i64 (IntKind.wrap IntKind.i64 (IntKind.wrap IntKind.i64 (↑(dg B9 v x.1):Int) - (↑x.2.1:Int)) - IntKind.wrap IntKind.i64 (↑(dg B9 w x.1):Int))))] else [.int .u32 (↑(x.2.2 j):Int)])]} (x.1+1,0,bc x.2.2 (0+x.1) (dg B9 v x.1 - x.2.1 - dg B9 w x.1)) (Au hx (aB h1) (by decide) (by have e1:dg B9 v x.1 < 1000000000:=aY (by decide);have e2:dg B9 w x.1 < 1000000000:=aY (by decide);have e3:=hx.2.1;have e5:=of_decide_eq_false h3;simp only [wI] at e5;omega) (by have e1:dg B9 v x.1 < 1000000000:=aY (by decide);have e2:dg B9 w x.1 < 1000000000:=aY (by decide);have e3:=hx.2.1;have e5:=of_decide_eq_false h3;simp only [wI] at e5;omega)) (by have:=aB h1;show dl B9 v - (x.1+1) < dl B9 v - x.1;omega) (qc (aZ (by have:=aB h1;have:=hx.1;have:=hx.2.2.2.2;omega)) rfl (ck _ _ _ _ (by have e1:dg B9 v x.1 < 1000000000:=aY (by decide);have e2:dg B9 w x.1 < 1000000000:=aY (by decide);have e3:=hx.2.1;have e5:=of_decide_eq_false h3;simp only [wI] at e5;simp only [wI,wU];omega))))))) λh2=>
   .b (decide (IntKind.wrap IntKind.i64 (IntKind.wrap IntKind.i64 (↑(dg B9 v x.1):Int) - (↑x.2.1:Int)) < 0)) (λh4=>
    .n (c:=within (↑x.1:Int) (dl B9 v)) (ag (aB h1)) (
    .n (c:=Nat.blt (0+x.1) (dl B9 v)) (eI (by have:=aB h1;omega)) (
    .go {env:=[(1,ao B9 w),(5,.msl 12 1 0 (dl B9 v)),(6,.int .i64 1),(13,ao B9 v),(14,.int .i64 (↑(dl B9 v):Int)),(15,.int .i64 (IntKind.wrap IntKind.i64 ((↑x.1:Int)+1)))],objs:=[(12,.arr 1 (dl B9 v) λj=>bif Nat.beq j (0+x.1) then [.int .u32 (IntKind.wrap IntKind.u32 (IntKind.wrap IntKind.i64 (IntKind.wrap IntKind.i64 (IntKind.wrap IntKind.i64 (↑(dg B9 v x.1):Int) - (↑x.2.1:Int))+1000000000)))] else [.int .u32 (↑(x.2.2 j):Int)])]} (x.1+1,1,bc x.2.2 (0+x.1) (dg B9 v x.1+1000000000 - x.2.1 - dg B9 w x.1)) (Au hx (aB h1) (by decide) (by have e1:dg B9 v x.1 < 1000000000:=aY (by decide);have e2:dg B9 w x.1 < 1000000000:=aY (by decide);have e3:=hx.2.1;have e4:dg B9 w x.1=0:=nd b9 (aF h2);have e5:=of_decide_eq_true h4;simp only [wI] at e5;omega) (by have e1:dg B9 v x.1 < 1000000000:=aY (by decide);have e2:dg B9 w x.1 < 1000000000:=aY (by decide);have e3:=hx.2.1;have e4:dg B9 w x.1=0:=nd b9 (aF h2);have e5:=of_decide_eq_true h4;simp only [wI] at e5;omega)) (by have:=aB h1;show dl B9 v - (x.1+1) < dl B9 v - x.1;omega) (qc (aZ (by have:=aB h1;have:=hx.1;have:=hx.2.2.2.2;omega)) rfl (ck _ _ _ _ (by have e1:dg B9 v x.1 < 1000000000:=aY (by decide);have e2:dg B9 w x.1 < 1000000000:=aY (by decide);have e3:=hx.2.1;have e4:dg B9 w x.1=0:=nd b9 (aF h2);have e5:=of_decide_eq_true h4;simp only [wI] at e5;simp only [wI,wU];omega)))))) λh4=>
   .n (c:=within (↑x.1:Int) (dl B9 v)) (ag (aB h1)) (
   .n (c:=Nat.blt (0+x.1) (dl B9 v)) (eI (by have:=aB h1;omega)) (
   .go {env:=[(1,ao B9 w),(5,.msl 12 1 0 (dl B9 v)),(6,.int .i64 0),(13,ao B9 v),(14,.int .i64 (↑(dl B9 v):Int)),(15,.int .i64 (IntKind.wrap IntKind.i64 ((↑x.1:Int)+1)))],objs:=[(12,.arr 1 (dl B9 v) λj=>bif Nat.beq j (0+x.1) then [.int .u32 (IntKind.wrap IntKind.u32 (IntKind.wrap IntKind.i64 (IntKind.wrap IntKind.i64 (↑(dg B9 v x.1):Int) - (↑x.2.1:Int))))] else [.int .u32 (↑(x.2.2 j):Int)])]} (x.1+1,0,bc x.2.2 (0+x.1) (dg B9 v x.1 - x.2.1 - dg B9 w x.1)) (Au hx (aB h1) (by decide) (by have e1:dg B9 v x.1 < 1000000000:=aY (by decide);have e2:dg B9 w x.1 < 1000000000:=aY (by decide);have e3:=hx.2.1;have e4:dg B9 w x.1=0:=nd b9 (aF h2);have e5:=of_decide_eq_false h4;simp only [wI] at e5;omega) (by have e1:dg B9 v x.1 < 1000000000:=aY (by decide);have e2:dg B9 w x.1 < 1000000000:=aY (by decide);have e3:=hx.2.1;have e4:dg B9 w x.1=0:=nd b9 (aF h2);have e5:=of_decide_eq_false h4;simp only [wI] at e5;omega)) (by have:=aB h1;show dl B9 v - (x.1+1) < dl B9 v - x.1;omega) (qc (aZ (by have:=aB h1;have:=hx.1;have:=hx.2.2.2.2;omega)) rfl (ck _ _ _ _ (by have e1:dg B9 v x.1 < 1000000000:=aY (by decide);have e2:dg B9 w x.1 < 1000000000:=aY (by decide);have e3:=hx.2.1;have e4:dg B9 w x.1=0:=nd b9 (aF h2);have e5:=of_decide_eq_false h4;simp only [wI] at e5;simp only [wI,wU];omega))))))) λh1=>
  .fi x ⟨hx,by have:=aF h1;have:=hx.1;omega⟩)
  (λv L k kn=>by kernel_rfl)
theorem yz {v w:Nat} {x:R3} (hw:w<=v) (hx:SuI v w x/\x.1=dl B9 v):vF B9 x.2.2 (dl B9 v)=v - w:=by
 obtain ⟨⟨h1,h2,h3,h4,h5⟩,h6⟩:=hx
 rw [h6,en b9,fC b9 (eX b9 hw)] at h4
 rw [h6] at h3
 have h7:=j0 (b:=B9) (by decide) h3
 by_cases hc:x.2.1=0
 ·rw [hc,Nat.zero_mul] at h4;omega
 ·rw [show x.2.1=1 by omega,Nat.one_mul] at h4;omega
theorem mB {k n:Nat} (h:n*k<=140737488355328/\n<=140737488355328):(decide ((n:Int)=(n:Int))&&(decide (0<=(n:Int))&&(roomy k n&&decide ((n:Int)<=140737488355328))))=true:=by
 rw [kk h.1];simp;omega
theorem ix (n:Nat) (k:Nat):(Nat.beq k k&&Nat.ble (0+n) n)=true:=by rw [Nat.beq_refl,Nat.zero_add,Nat.ble_eq_true_of_le (Nat.le_refl _)];rfl
theorem ql {v w:Nat} (h1:dl B9 v<=1000) (hw:w<=v):aR wd ko φN9 (rB B9 λv w x=>x=v - w) [ao B9 v,ao B9 w] []:=by
 obtain ⟨u,z,hu,l1⟩:=re v w
 exact lb (V:=V0) [iO] 2 (p:=[1,1,1,0,1,0]) l1 (.n (c:=decide ((↑(dl B9 v):Int)=(↑(dl B9 v):Int))&&(decide (0<=(↑(dl B9 v):Int))&&(roomy 4 (Int.toNat (↑(dl B9 v):Int))&&decide ((↑(dl B9 v):Int)<=140737488355328)))) (mB (by omega)) (
  .lp (hu (0,0,λ_=>0) ⟨Nat.zero_le _,Nat.zero_le _,λj hj=>absurd hj (Nat.not_lt_zero _),rfl,h1⟩) λr1 q1=>
  .n (c:=Nat.beq 1 1&&Nat.ble (0+dl B9 v) (dl B9 v)) (ix _ _) (
  .call (eb (n:=dl B9 v) (g:=λj=>r1.2.2 (0+j)) ⟨h1,λj hj=>by show r1.2.2 (0+j) < B9;rw [Nat.zero_add];exact q1.1.2.2.1 j (by rw [q1.2];exact hj)⟩) λr2 q2=>
  .r r2 (rB.mk b9 (by rw [q2.at (n:=dl B9 v) (g:=λj=>r1.2.2 (0+j)) rfl,cu (g:=λj=>r1.2.2 (0+j)) (h:=r1.2.2) λj _=>by rw [Nat.zero_add]];exact yz hw q1))))) (by kernel_rfl)
noncomputable abbrev Gw:Ent:=bN wd ko φN9 (rB B9 λv w x=>x=v - w)
end Go.WE

namespace Go.WE
open Go Go.Ab Go.Proofs
theorem eu {α τ ι:Type} [Inhabited τ] {V:Env} {T:List Ent} {d:Nat} {Lf:ι->List (List Nat×Orc)} {W:List (List Nat×Vw)} {f:FuncId} {p:List Nat} (S:α->St) (Inv:α->Prop) (μ:α->Nat) (out:τ->(Ex->St->Res)->Res) (Post:α->τ->Prop) (hb:qt (cY (bt V.P f) p)=true) (hi:∀a b x,S a=S b->Post a x->Post b x)
  {e:α->ι->(Ex->St->Res)->(St->Res)->Res} (h1:∀v,Inv v->RT S Inv μ out Post v (e v)) (he:∀v i k kn,cW (V.run T d [] (Lf i) W f) f 9 p (S v) kn k=e v i k kn) :
  ∃ (u:St->Bool) (w:St->τ),(∀v,Inv v->bq u w (S v) (Post v))/\∀i,aE (V.run T d [] (Lf i) W f) f p (mkO u w out):=by
 obtain ⟨b,hb⟩:∃b,cY (bt V.P f) p=.loop b:=by
  cases hc:cY (bt V.P f) p with
  | loop b=>exact ⟨b,rfl⟩
  | _=>rw [hc] at hb;cases hb
 obtain ⟨w,hw,hl⟩:=mF (Xf:=λi=>V.run T d [] (Lf i) W f) (f:=f) (p:=p) (b:=b) S Inv μ out Post (λ_=>hb) 9 λv hv=>RT.eq (λi k kn=>he v i k kn) (h1 v hv)
 exact ⟨pq S Inv,uh S Inv w,λv hv=>⟨kr hv,iv hw hi hv⟩,hl⟩
abbrev R4:=Nat×Nat×Nat×(Nat->Nat)
def muR (v w n:Nat) (i:Nat) (c k:Int) (r:Nat->List AV):St:={env:=[(1,ao B9 w),(5,.msl 17 1 0 n),(6,.int .i64 (i:Int)),(7,.int .u32 (dg B9 v i:Int)),(8,.int .u64 c),(18,ao B9 v),(19,.int .i64 (dl B9 v:Int)),(20,.int .i64 (i:Int)),(25,ao B9 w),(26,.int .i64 (dl B9 w:Int)),(27,.int .i64 k)],objs:=[(17,.arr 1 n r)]}
theorem y8 {v w n i:Nat} {c c' k k':Int} {r r':Nat->List AV} (h1:c=c') (h2:k=k') (h3:r=r'):muR v w n i c k r=muR v w n i c' k' r':=by rw [h1,h2,h3]
def muS (v w n:Nat) (x:R4):St:=muR v w n x.1 x.2.2.1 x.2.1 λj=>[.int .u32 (x.2.2.2 j:Int)]
def muO (v w n:Nat) (x:R3) (k:Ex->St->Res):Res:=k (.exit 2) {env:=[(1,ao B9 w),(5,.msl 17 1 0 n),(6,.int .i64 (x.1:Int)),(8,.int .u64 (x.2.1:Int)),(18,ao B9 v),(19,.int .i64 (dl B9 v:Int)),(20,.int .i64 (x.1:Int))],objs:=[(17,.arr 1 n λj=>[.int .u32 (x.2.2 j:Int)])]}
structure MuI (v w n:Nat) (x:R4):Prop where
 i:x.1 < dl B9 v
 k:x.2.1<=dl B9 w
 c:x.2.2.1 < 1000000000
 d:∀j,x.2.2.2 j < 1000000000
 z:∀j,x.1+dl B9 w<=j->x.2.2.2 j=0
 n:n=dl B9 v+dl B9 w/\n<=1000
 e:vF B9 x.2.2.2 (x.1+dl B9 w)+x.2.2.1*B9 ^ (x.1+x.2.1)=vF B9 (dg B9 v) x.1*w+dg B9 v x.1*vF B9 (dg B9 w) x.2.1*B9 ^ x.1
def jL (v w:Nat) (x:R4):Nat:=x.2.2.2 (0+(x.1+x.2.1))+dg B9 v x.1*dg B9 w x.2.1+x.2.2.1
theorem sQ {b x y:Nat} (hx:x < b) (hy:y < b) (hb:0 < b):x*y+b+b<=b*b+1:=by
 obtain ⟨c,rfl⟩:∃c,b=c+1:=⟨b - 1,by omega⟩
 have:x*y<=c*c:=Nat.mul_le_mul (by omega) (by omega)
 rw [Nat.add_mul,Nat.mul_add];omega
section
variable {v w n:Nat} {x:R4} (hx:MuI v w n x)
include hx
theorem s5:IntKind.wrap .i64 ((x.1:Int)+(x.2.1:Int))=((x.1+x.2.1:Nat):Int):=by
 have:=hx.i;have:=hx.k;have:=hx.n
 rw [wrap_i64 (by omega) (by omega)];omega
theorem uS (h:x.2.1 < dl B9 w):x.1+x.2.1 < n:=by
 have:=hx.i;have:=hx.n;omega
theorem wP (h:x.2.1 < dl B9 w):jL v w x < 1000000000000000000:=by
 have h1:=sQ (b:=1000000000) (show dg B9 v x.1 < 1000000000 from aY (by decide)) (show dg B9 w x.2.1 < 1000000000 from aY (by decide)) (by decide)
 have h2:=hx.d (0+(x.1+x.2.1));have h3:=hx.c
 unfold jL;omega
theorem FD (h:x.2.1 < dl B9 w):IntKind.wrap .u64 (IntKind.wrap .u64 (IntKind.wrap .u64 ((x.2.2.2 (0+Int.toNat ((x.1+x.2.1:Nat):Int)):Nat):Int)+IntKind.wrap .u64 (IntKind.wrap .u64 ((dg B9 v x.1:Nat):Int)*IntKind.wrap .u64 ((dg B9 w x.2.1:Nat):Int)))+((x.2.2.1:Nat):Int))=((jL v w x:Nat):Int):=by
 have h0:=wP hx h
 have h1:dg B9 v x.1 < 1000000000:=aY (by decide)
 have h2:dg B9 w x.2.1 < 1000000000:=aY (by decide)
 have h3:=hx.d (0+(x.1+x.2.1));have h4:=hx.c
 have h5:jL v w x=x.2.2.2 (0+(x.1+x.2.1))+dg B9 v x.1*dg B9 w x.2.1+x.2.2.1:=rfl
 show IntKind.wrap .u64 (IntKind.wrap .u64 (IntKind.wrap .u64 ((x.2.2.2 (0+(x.1+x.2.1)):Nat):Int)+_)+_)=_
 rw [w64 (x:=x.2.2.2 (0+(x.1+x.2.1))) (by omega),w64 (x:=dg B9 v x.1) (by omega),w64 (x:=dg B9 w x.2.1) (by omega),<-Int.natCast_mul,w64 (x:=dg B9 v x.1*dg B9 w x.2.1) (by omega),<-Int.natCast_add,w64 (x:=x.2.2.2 (0+(x.1+x.2.1))+dg B9 v x.1*dg B9 w x.2.1) (by omega),<-Int.natCast_add]
 exact w64 (x:=x.2.2.2 (0+(x.1+x.2.1))+dg B9 v x.1*dg B9 w x.2.1+x.2.2.1) (by omega)
theorem FF (h:x.2.1 < dl B9 w):IntKind.wrap .u64 (Int.tdiv ((jL v w x:Nat):Int) 1000000000)=((jL v w x / B9:Nat):Int):=w64 (x:=jL v w x / B9) (Nat.lt_of_le_of_lt (Nat.div_le_self _ _) (by have:=wP hx h;omega))
omit hx in
theorem FE:IntKind.wrap .u32 (Int.tmod ((jL v w x:Nat):Int) 1000000000)=((jL v w x % B9:Nat):Int):=w32 (x:=jL v w x % B9) (Nat.lt_trans (Nat.mod_lt _ (by decide)) (by decide))
theorem FH (h:x.2.1 < dl B9 w):MuI v w n (x.1,x.2.1+1,jL v w x / B9,bc x.2.2.2 (0+(x.1+x.2.1)) (jL v w x % B9)):=by
 have hs:=wP hx h
 refine ⟨hx.i,h,by show jL v w x / 1000000000 < 1000000000;omega,λj=>?_,λj hj=>?_,hx.n,?_⟩
 ·show bc x.2.2.2 (0+(x.1+x.2.1)) (jL v w x % B9) j < 1000000000
  by_cases e:j=0+(x.1+x.2.1)
  ·rw [e,bC];exact Nat.mod_lt _ (by decide)
  ·rw [aW _ _ e];exact hx.d j
 ·have hj:x.1+dl B9 w<=j:=hj
  show bc x.2.2.2 (0+(x.1+x.2.1)) (jL v w x % B9) j=0
  rw [aW _ _ (by omega)];exact hx.z j hj
 ·show vF B9 (bc x.2.2.2 (0+(x.1+x.2.1)) (jL v w x % B9)) (x.1+dl B9 w)+jL v w x / B9*B9 ^ (x.1+(x.2.1+1))=vF B9 (dg B9 v) x.1*w+dg B9 v x.1*(vF B9 (dg B9 w) x.2.1+dg B9 w x.2.1*B9 ^ x.2.1)*B9 ^ x.1
  have e:=hx.e
  rw [Nat.zero_add]
  have u:=p8 (b:=B9) (g:=x.2.2.2) (i:=x.1+x.2.1) (x:=jL v w x % B9) (n:=x.1+dl B9 w) (by omega)
  have s1:jL v w x % B9*B9 ^ (x.1+x.2.1)+jL v w x / B9*B9 ^ (x.1+(x.2.1+1))=jL v w x*B9 ^ (x.1+x.2.1):=by
   rw [<-Nat.add_assoc,Nat.pow_succ,Nat.mul_comm (B9 ^ (x.1+x.2.1)) B9,<-Nat.mul_assoc,<-Nat.add_mul]
   congr 1
   rw [Nat.mul_comm (jL v w x / B9) B9]
   exact Nat.mod_add_div _ _
  have s2:jL v w x*B9 ^ (x.1+x.2.1)=x.2.2.2 (x.1+x.2.1)*B9 ^ (x.1+x.2.1)+dg B9 v x.1*dg B9 w x.2.1*B9 ^ (x.1+x.2.1)+x.2.2.1*B9 ^ (x.1+x.2.1):=by
   unfold jL;rw [Nat.zero_add,Nat.add_mul,Nat.add_mul]
  have s3:dg B9 v x.1*(vF B9 (dg B9 w) x.2.1+dg B9 w x.2.1*B9 ^ x.2.1)*B9 ^ x.1=dg B9 v x.1*vF B9 (dg B9 w) x.2.1*B9 ^ x.1+dg B9 v x.1*dg B9 w x.2.1*B9 ^ (x.1+x.2.1):=by
   rw [Nat.mul_add,Nat.add_mul,Nat.pow_add,Nat.mul_comm (B9 ^ x.1) (B9 ^ x.2.1),<-Nat.mul_assoc,<-Nat.mul_assoc]
  omega
end
structure MoP (v w n i:Nat) (o:R3):Prop where
 c:o.2.1 < 1000000000
 d:∀j,o.2.2 j < 1000000000
 z:∀j,i+dl B9 w<=j->o.2.2 j=0
 e:vF B9 o.2.2 (i+dl B9 w)+o.2.1*B9 ^ (i+dl B9 w)=vF B9 (dg B9 v) (i+1)*w
theorem FG {v w n:Nat} {x:R4} (hx:MuI v w n x) (h:dl B9 w<=x.2.1):MoP v w n x.1 (x.1,x.2.2.1,x.2.2.2):=by
 have e:=hx.e
 have h1:x.2.1=dl B9 w:=by have:=hx.k;omega
 refine ⟨hx.c,hx.d,hx.z,?_⟩
 show vF B9 x.2.2.2 (x.1+dl B9 w)+x.2.2.1*B9 ^ (x.1+dl B9 w)=(vF B9 (dg B9 v) x.1+dg B9 v x.1*B9 ^ x.1)*w
 rw [h1] at e
 rw [e,en b9,Nat.add_mul,Nat.mul_assoc,Nat.mul_assoc,Nat.mul_comm w]
theorem uF (v w n:Nat):∃ (u:St->Bool) (z:St->R3),(∀x,MuI v w n x->bq u z (muS v w n x) λo=>o.1=x.1/\MoP v w n x.1 o)/\∀L:List (List Nat×Orc),aE (V0.run [iO] 2 [] L [] cL) cL [1,1,0,1,0,0,1,1,0,0,1,1,0,1,0] (mkO u z (muO v w n)):=
 eu (Lf:=λL=>L) (muS v w n) (MuI v w n) (λx=>dl B9 w - x.2.1) (muO v w n) (λx o=>o.1=x.1/\MoP v w n x.1 o) (by kernel_rfl) (λa b x h hp=>by
   have e:a.1=b.1:=by
    unfold muS muR at h
    simp only [St.mk.injEq,List.cons.injEq,Prod.mk.injEq,AV.int.injEq,true_and] at h
    have:=h.1.2.1;omega
   rw [<-e];exact hp)
  (λx hx=>.b (decide ((↑x.2.1:Int) < (↑(dl B9 w):Int))) (λh1=>
   .n (c:=within (↑x.2.1:Int) (dl B9 w)) (ag (aB h1)) (
   .n (c:=within (IntKind.wrap IntKind.i64 ((↑x.1:Int)+(↑x.2.1:Int))) n) (by rw [s5 hx];exact ag (by have:=uS hx (aB h1);omega)) (
   .n (c:=Nat.blt (0+Int.toNat (IntKind.wrap IntKind.i64 ((↑x.1:Int)+(↑x.2.1:Int)))) n) (by rw [s5 hx];exact eI (by have:=uS hx (aB h1);show 0+(x.1+x.2.1) < n;omega)) (
   .n (c:=within (IntKind.wrap IntKind.i64 ((↑x.1:Int)+(↑x.2.1:Int))) n) (by rw [s5 hx];exact ag (by have:=uS hx (aB h1);omega)) (
   .n (c:=Nat.blt (0+Int.toNat (IntKind.wrap IntKind.i64 ((↑x.1:Int)+(↑x.2.1:Int)))) n) (by rw [s5 hx];exact eI (by have:=uS hx (aB h1);show 0+(x.1+x.2.1) < n;omega)) (
   .nx {env:=[(1,ao B9 w),(5,.msl 17 1 0 n),(6,.int .i64 (↑x.1:Int)),(7,.int .u32 (↑(dg B9 v x.1):Int)),(8,.int .u64 (IntKind.wrap IntKind.u64 (Int.tdiv (IntKind.wrap IntKind.u64 (IntKind.wrap IntKind.u64 (IntKind.wrap IntKind.u64 (↑(x.2.2.2 (0+Int.toNat (IntKind.wrap IntKind.i64 ((↑x.1:Int)+(↑x.2.1:Int))))):Int)+IntKind.wrap IntKind.u64 (IntKind.wrap IntKind.u64 (↑(dg B9 v x.1):Int)*IntKind.wrap IntKind.u64 (↑(dg B9 w x.2.1):Int)))+(↑x.2.2.1:Int))) 1000000000))),(18,ao B9 v),(19,.int .i64 (↑(dl B9 v):Int)),(20,.int .i64 (↑x.1:Int)),(25,ao B9 w),(26,.int .i64 (↑(dl B9 w):Int)),(27,.int .i64 (IntKind.wrap IntKind.i64 ((↑x.2.1:Int)+1)))],objs:=[(17,.arr 1 n λj=>bif Nat.beq j (0+Int.toNat (IntKind.wrap IntKind.i64 ((↑x.1:Int)+(↑x.2.1:Int)))) then [.int .u32 (IntKind.wrap IntKind.u32 (Int.tmod (IntKind.wrap IntKind.u64 (IntKind.wrap IntKind.u64 (IntKind.wrap IntKind.u64 (↑(x.2.2.2 (0+Int.toNat (IntKind.wrap IntKind.i64 ((↑x.1:Int)+(↑x.2.1:Int))))):Int)+IntKind.wrap IntKind.u64 (IntKind.wrap IntKind.u64 (↑(dg B9 v x.1):Int)*IntKind.wrap IntKind.u64 (↑(dg B9 w x.2.1):Int)))+(↑x.2.2.1:Int))) 1000000000))] else [.int .u32 (↑(x.2.2.2 j):Int)])]} (x.1,x.2.1+1,jL v w x / B9,bc x.2.2.2 (0+(x.1+x.2.1)) (jL v w x % B9)) (FH hx (aB h1)) (by have:=aB h1;show dl B9 w - (x.2.1+1) < dl B9 w - x.2.1;omega) (λo ho=>ho) (by rw [s5 hx,FD hx (aB h1)];exact y8 (FF hx (aB h1)) (aZ (by have:=hx.k;have:=hx.n;omega)) (ck _ _ _ _ FE)))))))) λh1=>
  .fi (x.1,x.2.2.1,x.2.2.2) ⟨rfl,FG hx (aF h1)⟩)
  (λv L k kn=>by kernel_rfl)
def moR (v w n:Nat) (i:Int) (r:Nat->List AV):St:={env:=[(1,ao B9 w),(5,.msl 17 1 0 n),(18,ao B9 v),(19,.int .i64 (dl B9 v:Int)),(20,.int .i64 i)],objs:=[(17,.arr 1 n r)]}
theorem zc {v w n:Nat} {i i':Int} {r r':Nat->List AV} (h2:i=i') (h3:r=r'):moR v w n i r=moR v w n i' r':=by rw [h2,h3]
def moS (v w n:Nat) (x:R1):St:=moR v w n x.1 λj=>[.int .u32 (x.2 j:Int)]
def moO (n:Nat) (x:R1) (k:Ex->St->Res):Res:=k (.exit 0) {env:=[(5,.msl 17 1 0 n)],objs:=[(17,.arr 1 n λj=>[.int .u32 (x.2 j:Int)])]}
structure MoI (v w n:Nat) (x:R1):Prop where
 i:x.1<=dl B9 v
 z:∀j,x.1+dl B9 w<=j->x.2 j=0
 d:∀j,x.2 j < 1000000000
 e:vF B9 x.2 (x.1+dl B9 w)=vF B9 (dg B9 v) x.1*w
 n:n=dl B9 v+dl B9 w/\n<=1000
theorem FK {v w:Nat} (h1:dl B9 v<=500) (h2:dl B9 w<=500):MoI v w (dl B9 v+dl B9 w) (0,λ_=>0):=⟨Nat.zero_le _,λ_ _=>rfl,λ_=>(by decide:(0:Nat) < 1000000000),by rw [fH λ_ _=>rfl];show 0=0*w;rw [Nat.zero_mul],rfl,by omega⟩
theorem y7 {n m:Nat} (h:n+m<=1000):(decide (IntKind.wrap .i64 ((n:Int)+(m:Int))=IntKind.wrap .i64 ((n:Int)+(m:Int)))&&(decide (0<=IntKind.wrap .i64 ((n:Int)+(m:Int)))&&(roomy 4 (Int.toNat (IntKind.wrap .i64 ((n:Int)+(m:Int))))&&decide (IntKind.wrap .i64 ((n:Int)+(m:Int))<=140737488355328))))=true:=by
 rw [wrap_i64 (by omega) (by omega),<-Int.natCast_add]
 exact mB (by omega)
section
variable {v w n:Nat} {x:R1} (hx:MoI v w n x)
include hx
theorem BD (h:x.1 < dl B9 v):MuI v w n (x.1,0,0,x.2):=⟨h,Nat.zero_le _,(by decide:(0:Nat) < 1000000000),hx.d,hx.z,hx.n,by
 show vF B9 x.2 (x.1+dl B9 w)+0*_=_+dg B9 v x.1*0*B9 ^ x.1
 rw [hx.e,Nat.zero_mul,Nat.mul_zero,Nat.zero_mul]⟩
theorem wQ:IntKind.wrap .i64 ((x.1:Int)+(dl B9 w:Int))=((x.1+dl B9 w:Nat):Int):=by
 have:=hx.i;have:=hx.n
 rw [wrap_i64 (by omega) (by omega)];omega
theorem y9 (h:x.1 < dl B9 v):x.1+dl B9 w < n:=by have:=hx.n;omega
theorem FJ (h:x.1 < dl B9 v) {o:R3} (ho:o.1=x.1/\MoP v w n x.1 o):MoI v w n (x.1+1,bc o.2.2 (0+(x.1+dl B9 w)) o.2.1):=by
 have hp:=ho.2
 refine ⟨h,λj hj=>?_,λj=>?_,?_,hx.n⟩
 ·have hj:x.1+1+dl B9 w<=j:=hj
  show bc _ _ _ j=0
  rw [aW _ _ (by omega)];exact hp.z j (by omega)
 ·show bc _ _ _ j < _
  by_cases e:j=0+(x.1+dl B9 w)
  ·rw [e,bC];exact hp.c
  ·rw [aW _ _ e];exact hp.d j
 ·show vF B9 (bc o.2.2 (0+(x.1+dl B9 w)) o.2.1) (x.1+1+dl B9 w)=_
  rw [Nat.zero_add,show x.1+1+dl B9 w=x.1+dl B9 w+1 by omega,jF,hp.e]
end
theorem FI {v w n i:Nat} {o:R3} (ho:o.1=i/\MoP v w n i o):IntKind.wrap .u32 (o.2.1:Int)=(o.2.1:Int):=w32 (x:=o.2.1) (by have:=ho.2.c;omega)
theorem za {v w n:Nat} {x:R1} (h:MoI v w n x/\x.1=dl B9 v):vF B9 x.2 (dl B9 v+dl B9 w)=v*w:=by
 have:=h.1.e
 rw [h.2,en b9] at this;exact this
theorem gC {v w:Nat} (h1:dl B9 v<=500) (h2:dl B9 w<=500):aR wd cL φN9 (rB B9 λv w x=>x=v*w) [ao B9 v,ao B9 w] []:=by
 obtain ⟨u2,z2,hin,l2⟩:=uF v w (dl B9 v+dl B9 w)
 obtain ⟨u,z,hu,l1⟩:∃ (u:St->Bool) (z:St->R1),(∀x,MoI v w (dl B9 v+dl B9 w) x->bq u z (moS v w (dl B9 v+dl B9 w) x) λx=>MoI v w (dl B9 v+dl B9 w) x/\x.1=dl B9 v)/\∀g:Orc,aE (V0.run [iO] 2 [] [([1,1,0,1,0],g),([1,1,0,1,0,0,1,1,0,0,1,1,0,1,0],mkO u2 z2 (muO v w (dl B9 v+dl B9 w)))] [] cL) cL [1,1,0,1,0] (mkO u z (moO (dl B9 v+dl B9 w))):=
  aQ (Lf:=λg=>[([1,1,0,1,0],g),([1,1,0,1,0,0,1,1,0,0,1,1,0,1,0],mkO u2 z2 (muO v w (dl B9 v+dl B9 w)))]) (moS v w (dl B9 v+dl B9 w)) (MoI v w (dl B9 v+dl B9 w)) (λx=>dl B9 v - x.1) (moO (dl B9 v+dl B9 w)) (λx=>MoI v w (dl B9 v+dl B9 w) x/\x.1=dl B9 v) (by kernel_rfl)
   (λx hx=>.b (decide ((↑x.1:Int) < (↑(dl B9 v):Int))) (λh1=>
   .n (c:=within (↑x.1:Int) (dl B9 v)) (ag (aB h1)) (
   .lp (hin (x.1,0,0,x.2) (BD hx (aB h1))) λr2 q2=>
   .n (c:=within (IntKind.wrap IntKind.i64 ((↑r2.1:Int)+(↑(dl B9 w):Int))) (dl B9 v+dl B9 w)) (by rw [q2.1,wQ hx];exact ag (by have:=y9 hx (aB h1);omega)) (
   .n (c:=Nat.blt (0+Int.toNat (IntKind.wrap IntKind.i64 ((↑r2.1:Int)+(↑(dl B9 w):Int)))) (dl B9 v+dl B9 w)) (by rw [q2.1,wQ hx];exact eI (by have:=y9 hx (aB h1);show 0+(x.1+dl B9 w) < dl B9 v+dl B9 w;omega)) (
   .go {env:=[(1,ao B9 w),(5,.msl 17 1 0 (dl B9 v+dl B9 w)),(18,ao B9 v),(19,.int .i64 (↑(dl B9 v):Int)),(20,.int .i64 (IntKind.wrap IntKind.i64 ((↑r2.1:Int)+1)))],objs:=[(17,.arr 1 (dl B9 v+dl B9 w) λj=>bif Nat.beq j (0+Int.toNat (IntKind.wrap IntKind.i64 ((↑r2.1:Int)+(↑(dl B9 w):Int)))) then [.int .u32 (IntKind.wrap IntKind.u32 (↑r2.2.1:Int))] else [.int .u32 (↑(r2.2.2 j):Int)])]} (x.1+1,bc r2.2.2 (0+(x.1+dl B9 w)) r2.2.1) (FJ hx (aB h1) q2) (by have:=aB h1;show dl B9 v - (x.1+1) < dl B9 v - x.1;omega) (by rw [q2.1,wQ hx];exact zc (aZ (by have:=hx.i;have:=hx.n;omega)) (ck _ _ _ _ (FI q2))))))) λh1=>
  .fi x ⟨hx,by have:=aF h1;have:=hx.i;omega⟩)
   (λv L k kn=>by kernel_rfl)
 exact iU (V:=V0) (T:=[iO]) (d:=2) 0 (aK (l1 _) (aK (l2 _) bK)) bI (.n (c:=decide (IntKind.wrap IntKind.i64 ((↑(dl B9 v):Int)+(↑(dl B9 w):Int))=IntKind.wrap IntKind.i64 ((↑(dl B9 v):Int)+(↑(dl B9 w):Int)))&&(decide (0<=IntKind.wrap IntKind.i64 ((↑(dl B9 v):Int)+(↑(dl B9 w):Int)))&&(roomy 4 (Int.toNat (IntKind.wrap IntKind.i64 ((↑(dl B9 v):Int)+(↑(dl B9 w):Int))))&&decide (IntKind.wrap IntKind.i64 ((↑(dl B9 v):Int)+(↑(dl B9 w):Int))<=140737488355328)))) (y7 (by omega)) (
  .lp (s:={env:=[(1,ao B9 w),(5,.msl 17 1 0 (Int.toNat (IntKind.wrap IntKind.i64 ((↑(dl B9 v):Int)+(↑(dl B9 w):Int))))),(18,ao B9 v),(19,.int .i64 (↑(dl B9 v):Int)),(20,.int .i64 0)],objs:=[(17,.arr 1 (Int.toNat (IntKind.wrap IntKind.i64 ((↑(dl B9 v):Int)+(↑(dl B9 w):Int)))) λx=>[.int .u32 0])]}) (Q:=λx=>MoI v w (dl B9 v+dl B9 w) x/\x.1=dl B9 v) (by rw [wrap_i64 (by omega) (by omega)];exact hu (0,λ_=>0) (FK h1 h2)) λr1 q1=>
  .n (c:=Nat.beq 1 1&&Nat.ble (0+(dl B9 v+dl B9 w)) (dl B9 v+dl B9 w)) (ix _ _) (
  .call (eb (n:=dl B9 v+dl B9 w) (g:=λj=>r1.2 (0+j)) ⟨by omega,λj hj=>by exact q1.1.d _⟩) λr2 q2=>
  .r r2 (rB.mk b9 (by rw [q2.at (n:=dl B9 v+dl B9 w) (g:=λj=>r1.2 (0+j)) rfl,cu (g:=λj=>r1.2 (0+j)) (h:=r1.2) λj _=>by rw [Nat.zero_add]];exact za q1))))) (by kernel_rfl)
noncomputable abbrev DS:Ent:=bN wd cL φN9 (rB B9 λv w x=>x=v*w)
end Go.WE

namespace Go.WE
open Go Go.Ab Go.Proofs
theorem AD {d:Nat} (h:0 < d):((d:Int) !=0)=true:=by simp;omega
theorem fW {k:Nat} (h:decide ((k:Int) - 1≥0)=true):0 < k:=by have:=of_decide_eq_true h;omega
theorem xZ {k:Nat} (h:decide ((k:Int) - 1≥0)=true):Int.toNat ((k:Int) - 1)=k - 1:=by have:=of_decide_eq_true h;omega
def Bl (l:List AV) (_:List AO) (x:Nat×Nat):Prop:=∀v d:Nat,l=[ao B9 v,.int .u32 (d:Int)]->x=(v / d,v % d)
theorem rD.mk {v d:Nat} {os:List AO} {x y:Nat} (h1:x=v / d) (h2:y=v % d):Bl [ao B9 v,.int .u32 (d:Int)] os (x,y):=λv' d' e=>by
 injection e with e1 e
 injection e with e2 _
 injection e2 with _ e2
 rw [<-bJ b9 e1,show d'=d by omega,h1,h2]
def φ2 (x:Nat×Nat):AV×List AO:=(.tup [ao B9 x.1,ao B9 x.2],[])
def smR (v d:Nat) (r i:Int) (g:Nat->List AV):St:={env:=[(0,ao B9 v),(1,.int .u32 (d:Int)),(6,.msl 12 1 0 (dl B9 v)),(7,.int .u64 r),(8,.int .i64 i)],objs:=[(12,.arr 1 (dl B9 v) g)]}
theorem yG {v d:Nat} {i i' c c':Int} {r r':Nat->List AV} (h1:i=i') (h2:c=c') (h3:r=r'):smR v d i c r=smR v d i' c' r':=by rw [h1,h2,h3]
def smS (v d:Nat) (x:R3):St:=smR v d x.2.1 ((x.1:Int) - 1) λj=>[.int .u32 (x.2.2 j:Int)]
def smO (v:Nat) (x:R3) (k:Ex->St->Res):Res:=k (.exit 0) {env:=[(6,.msl 12 1 0 (dl B9 v)),(7,.int .u64 (x.2.1:Int))],objs:=[(12,.arr 1 (dl B9 v) λj=>[.int .u32 (x.2.2 j:Int)])]}
structure SmI (v d:Nat) (x:R3):Prop where
 i:x.1<=dl B9 v
 n:dl B9 v<=1000
 d0:0 < d
 dB:d<=1000000000
 r:x.2.1 < d
 g:∀j,x.1<=j->j < dl B9 v->x.2.2 j < 1000000000
 e:v / B9 ^ x.1=vF B9 (λt=>x.2.2 (x.1+t)) (dl B9 v - x.1)*d+x.2.1
def kE (v:Nat) (x:R3):Nat:=x.2.1*1000000000+dg B9 v (x.1 - 1)
section
variable {v d:Nat} {x:R3} (hx:SmI v d x)
include hx
theorem A4:IntKind.wrap .u64 (d:Int)=(d:Int):=w64 (by have:=hx.dB;omega)
theorem Di (h:decide ((x.1:Int) - 1≥0)=true):within ((x.1:Int) - 1) (dl B9 v)=true:=by
 have:=fW h;have:=hx.i
 exact kz (by omega) (by omega)
theorem EE (h:decide ((x.1:Int) - 1≥0)=true):Nat.blt (0+Int.toNat ((x.1:Int) - 1)) (dl B9 v)=true:=by
 have:=fW h;have:=hx.i
 rw [xZ h];exact eI (by omega)
theorem yE:kE v x < d*1000000000:=by
 have h1:dg B9 v (x.1 - 1) < 1000000000:=aY (by decide)
 have:=hx.r
 unfold kE;omega
theorem EB (h:decide ((x.1:Int) - 1≥0)=true):IntKind.wrap .u64 (IntKind.wrap .u64 ((x.2.1:Int)*1000000000)+IntKind.wrap .u64 ((dg B9 v (Int.toNat ((x.1:Int) - 1)):Nat):Int))=((kE v x:Nat):Int):=by
 have h1:dg B9 v (x.1 - 1) < 1000000000:=aY (by decide)
 have:=hx.r;have:=hx.dB
 rw [xZ h]
 unfold kE
 simp only [wL]
 omega
theorem EC (h:0 < x.1):IntKind.wrap .u32 (IntKind.wrap .u64 (Int.tdiv ((kE v x:Nat):Int) (d:Int)))=((kE v x / d:Nat):Int):=by
 have h1:=yE hx
 have h2:kE v x / d < 1000000000:=(Nat.div_lt_iff_lt_mul hx.d0).2 (by rw [Nat.mul_comm];exact h1)
 rw [show Int.tdiv ((kE v x:Nat):Int) (d:Int)=((kE v x / d:Nat):Int) from rfl,w64 (by omega)]
 exact w32 (by omega)
theorem EF (h:0 < x.1):SmI v d (x.1 - 1,kE v x % d,bc x.2.2 (0+(x.1 - 1)) (kE v x / d)):=by
 obtain ⟨k,hk⟩:∃k,x.1=k+1:=⟨x.1 - 1,by omega⟩
 have hi:=hx.i
 have h1:=yE hx
 have h2:kE v x / d < 1000000000:=(Nat.div_lt_iff_lt_mul hx.d0).2 (by rw [Nat.mul_comm];exact h1)
 refine ⟨by show x.1 - 1<=_;omega,hx.n,hx.d0,hx.dB,Nat.mod_lt _ hx.d0,λj h3 h4=>?_,?_⟩
 ·have h3:x.1 - 1<=j:=h3
  show bc _ _ _ j < _
  by_cases e:j=0+(x.1 - 1)
  ·rw [e,bC];exact h2
  ·rw [aW _ _ e];exact hx.g j (by omega) h4
 ·show v / B9 ^ (x.1 - 1)=vF B9 (λt=>bc x.2.2 (0+(x.1 - 1)) (kE v x / d) (x.1 - 1+t)) (dl B9 v - (x.1 - 1))*d+kE v x % d
  have e:=hx.e
  rw [hk] at e ⊢
  rw [Nat.add_sub_cancel,Nat.zero_add,show dl B9 v - k=dl B9 v - (k+1)+1 by omega,mh]
  show _=(bc x.2.2 k (kE v x / d) k+B9*vF B9 (λj=>bc x.2.2 k (kE v x / d) (k+(j+1))) _)*d+_
  rw [bC,cu (g:=λj=>bc x.2.2 k (kE v x / d) (k+(j+1))) (h:=λt=>x.2.2 (k+1+t)) λi _=>by rw [aW _ _ (by omega),show k+(i+1)=k+1+i by omega]]
  have e1:v / B9 ^ k=B9*(v / B9 ^ (k+1))+dg B9 v k:=by
   unfold dg
   rw [Nat.pow_succ,<-Nat.div_div_eq_div_mul]
   exact (Nat.div_add_mod _ _).symm
  have e2:=Nat.div_add_mod (kE v x) d
  have e3:kE v x=x.2.1*1000000000+dg B9 v k:=by unfold kE;rw [hk];rfl
  rw [e1,e,Nat.add_mul,Nat.mul_comm (kE v x / d) d,Nat.mul_add,<-Nat.mul_assoc]
  have:B9*x.2.1=x.2.1*1000000000:=Nat.mul_comm _ _
  omega
end
theorem EG {v d:Nat} (h1:dl B9 v<=1000) (h2:0 < d) (h3:d<=1000000000):SmI v d (dl B9 v,0,λ_=>0):=⟨Nat.le_refl _,h1,h2,h3,h2,λj a b=>by omega,by
 show v / B9 ^ dl B9 v=vF B9 _ (dl B9 v - dl B9 v)*d+0
 rw [Nat.sub_self,vF,Nat.zero_mul,Nat.div_eq_of_lt (lM b9)]⟩
theorem ED {v d:Nat} {x:R3} (h:SmI v d x/\x.1=0) {j:Nat} (hj:j < dl B9 v):(λj=>x.2.2 (0+j)) j < B9:=by
 show x.2.2 (0+j) < 1000000000
 rw [Nat.zero_add];exact h.1.g j (by omega) hj
theorem vv {v d:Nat} {x:R3} (h:SmI v d x/\x.1=0):vF B9 x.2.2 (dl B9 v)=v / d/\x.2.1=v % d:=by
 have e:=h.1.e
 rw [h.2,Nat.pow_zero,Nat.div_one,Nat.sub_zero,cu (g:=λt=>x.2.2 (0+t)) (h:=x.2.2) λi _=>by rw [Nat.zero_add]] at e
 have hr:=h.1.r
 have hd:=h.1.d0
 clear h
 generalize vF B9 x.2.2 (dl B9 v)=y at e ⊢
 constructor
 ·rw [e,Nat.mul_comm,Nat.mul_add_div hd,Nat.div_eq_of_lt hr,Nat.add_zero]
 ·rw [e,Nat.mul_comm,Nat.mul_add_mod,Nat.mod_eq_of_lt hr]
theorem nH (v d:Nat):∃ (u:St->Bool) (z:St->R3),(∀x,SmI v d x->bq u z (smS v d x) λx=>SmI v d x/\x.1=0)/\∀L:List (List Nat×Orc),aE (V0.run [iO,tG] 2 [] L [] mv) mv [1,1,1,0,1,0] (mkO u z (smO v)):=
 aQ (Lf:=λL=>L) (smS v d) (SmI v d) (λx=>x.1) (smO v) (λx=>SmI v d x/\x.1=0) (by kernel_rfl)
  (λx hx=>.b (decide ((↑x.1:Int) - 1≥0)) (λh1=>
   .n (c:=within ((↑x.1:Int) - 1) (dl B9 v)) (Di hx h1) (
   .n (c:=IntKind.wrap IntKind.u64 (↑d:Int) !=0) (by rw [A4 hx];exact AD hx.d0) (
   .n (c:=IntKind.wrap IntKind.u64 (↑d:Int) !=0) (by rw [A4 hx];exact AD hx.d0) (
   .n (c:=within ((↑x.1:Int) - 1) (dl B9 v)) (Di hx h1) (
   .n (c:=Nat.blt (0+Int.toNat ((↑x.1:Int) - 1)) (dl B9 v)) (EE hx h1) (
   .go {env:=[(0,ao B9 v),(1,.int .u32 (↑d:Int)),(6,.msl 12 1 0 (dl B9 v)),(7,.int .u64 (Int.tmod (IntKind.wrap IntKind.u64 (IntKind.wrap IntKind.u64 ((↑x.2.1:Int)*1000000000)+IntKind.wrap IntKind.u64 (↑(dg B9 v (Int.toNat ((↑x.1:Int) - 1))):Int))) (IntKind.wrap IntKind.u64 (↑d:Int)))),(8,.int .i64 (IntKind.wrap IntKind.i64 ((↑x.1:Int) - 1 - 1)))],objs:=[(12,.arr 1 (dl B9 v) λj=>bif Nat.beq j (0+Int.toNat ((↑x.1:Int) - 1)) then [.int .u32 (IntKind.wrap IntKind.u32 (IntKind.wrap IntKind.u64 (Int.tdiv (IntKind.wrap IntKind.u64 (IntKind.wrap IntKind.u64 ((↑x.2.1:Int)*1000000000)+IntKind.wrap IntKind.u64 (↑(dg B9 v (Int.toNat ((↑x.1:Int) - 1))):Int))) (IntKind.wrap IntKind.u64 (↑d:Int)))))] else [.int .u32 (↑(x.2.2 j):Int)])]} (x.1 - 1,kE v x % d,bc x.2.2 (0+(x.1 - 1)) (kE v x / d)) (EF hx (fW h1)) (by have:=fW h1;show x.1 - 1 < x.1;omega) (by rw [EB hx h1,A4 hx,xZ h1,sR (fW h1) (by have:=hx.i;have:=hx.n;omega)];exact yG rfl rfl (ck _ _ _ _ (EC hx (fW h1)))))))))) λh1=>
  .fi x ⟨hx,by have:=of_decide_eq_false h1;omega⟩)
  (λv L k kn=>by kernel_rfl)
theorem lT {v d:Nat} (h1:dl B9 v<=1000) (h2:0 < d) (h3:d<=1000000000):aR wd mv φ2 Bl [ao B9 v,.int .u32 (d:Int)] []:=by
 obtain ⟨u,z,hu,l1⟩:=nH v d
 exact lb (V:=V0) [iO,tG] 2 (p:=[1,1,1,0,1,0]) l1 (.n (c:=decide ((↑(dl B9 v):Int)=(↑(dl B9 v):Int))&&(decide (0<=(↑(dl B9 v):Int))&&(roomy 4 (Int.toNat (↑(dl B9 v):Int))&&decide ((↑(dl B9 v):Int)<=140737488355328)))) (mB (by omega)) (
  .lp (s:={env:=[(0,ao B9 v),(1,.int .u32 (↑d:Int)),(6,.msl 12 1 0 (Int.toNat (↑(dl B9 v):Int))),(7,.int .u64 0),(8,.int .i64 (IntKind.wrap IntKind.i64 ((↑(dl B9 v):Int) - 1)))],objs:=[(12,.arr 1 (Int.toNat (↑(dl B9 v):Int)) λx=>[.int .u32 0])]}) (Q:=λx=>SmI v d x/\x.1=0) (by rw [wrap_i64 (by omega) (by omega)];exact hu (dl B9 v,0,λ_=>0) (EG h1 h2 h3)) λr1 q1=>
  .n (c:=Nat.beq 1 1&&Nat.ble (0+dl B9 v) (dl B9 v)) (ix _ _) (
  .call (eb (n:=dl B9 v) (g:=λj=>r1.2.2 (0+j)) ⟨h1,λj hj=>ED q1 hj⟩) λr2 q2=>
  .call (jk (v:=r1.2.1) (by have:=q1.1.r;omega)) λr3 q3=>
  .r (r2,r3) (rD.mk (by rw [q2.at (n:=dl B9 v) (g:=λj=>r1.2.2 (0+j)) rfl,cu (g:=λj=>r1.2.2 (0+j)) (h:=r1.2.2) λj _=>by rw [Nat.zero_add]];exact (vv q1).1) (by rw [q3 r1.2.1 rfl];exact (vv q1).2))))) (by kernel_rfl)
noncomputable abbrev vN:Ent:=bN wd mv φ2 Bl
end Go.WE

namespace Go.WE
open Go Go.Ab Go.Proofs
set_option linter.unusedSectionVars false
def rdR (n lo m v q:Nat) (c w i:Int) (r:Nat->List AV):St:={env:=[(0,.gsub 1000000 1 n lo m),(1,ao B9 v),(2,.int .u64 (q:Int)),(7,.int .u64 c),(8,.int .i64 w),(13,.int .i64 (m:Int)),(14,.int .i64 i)],objs:=[(1000000,.grw 0 1 n r)]}
theorem qk {n lo m v q:Nat} {c c' w w' i i':Int} {r r':Nat->List AV} (h1:c=c') (h2:w=w') (h3:i=i') (h4:r=r'):rdR n lo m v q c w i r=rdR n lo m v q c' w' i' r':=by rw [h1,h2,h3,h4]
def rdS (n lo m v q:Nat) (x:R4):St:=rdR n lo m v q x.2.1 x.2.2.1 x.1 λj=>[.int .u32 (x.2.2.2 j:Int)]
def rdO (n:Nat) (x:R4) (k:Ex->St->Res):Res:=k (.exit 0) {env:=[(8,.int .i64 (x.2.2.1:Int))],objs:=[(1000000,.grw 0 1 n λj=>[.int .u32 (x.2.2.2 j:Int)])]}
structure RdI (n lo m v q:Nat) (f:Nat->Nat) (x:R4):Prop where
 i:x.1<=m
 nn:lo+m<=n/\n<=100000
 qq:q<=1000000000
 c:x.2.1<=1000000000
 w:x.2.2.1<=1
 ff:∀j,j < n->f j < 1000000000
 g:∀t,t < x.1->x.2.2.2 (lo+t) < 1000000000
 s:∀j,j < lo∨lo+x.1<=j->x.2.2.2 j=f j
 e:vF B9 (λt=>x.2.2.2 (lo+t)) x.1+q*vF B9 (dg B9 v) x.1=vF B9 (λt=>f (lo+t)) x.1+(x.2.2.1+x.2.1)*B9 ^ x.1
theorem oC {p:Nat}:Int.tmod (p:Int) 1000000000=((p % 1000000000:Nat):Int):=rfl
theorem lS (p:Nat):p % 1000000000 < 1000000000:=Nat.mod_lt _ (by decide)
section
variable {g r w:Nat} (hg:g < 1000000000) (hr:r < 1000000000) (hw:w<=1)
include hg hr hw
theorem xU (h:decide (IntKind.wrap .i64 (IntKind.wrap .i64 (IntKind.wrap .i64 (g:Int) - IntKind.wrap .i64 (r:Int)) - (w:Int)) < 0)=true):g < r+w:=by
 have:=of_decide_eq_true h
 simp only [wI] at this
 omega
theorem xV (h:decide (IntKind.wrap .i64 (IntKind.wrap .i64 (IntKind.wrap .i64 (g:Int) - IntKind.wrap .i64 (r:Int)) - (w:Int)) < 0)=false):r+w<=g:=by
 have:=of_decide_eq_false h
 simp only [wI] at this
 omega
theorem yO (h:g < r+w):g+1000000000 - r - w+r+w=g+1*1000000000:=by omega
theorem yN (h:g < r+w):IntKind.wrap .u32 (IntKind.wrap .i64 (IntKind.wrap .i64 (IntKind.wrap .i64 (IntKind.wrap .i64 (g:Int) - IntKind.wrap .i64 (r:Int)) - (w:Int))+1000000000))=((g+1000000000 - r - w:Nat):Int):=by
 simp only [wI,wU]
 omega
theorem yR (h:r+w<=g):g - r - w+r+w=g+0*1000000000:=by omega
theorem yQ (h:r+w<=g):IntKind.wrap .u32 (IntKind.wrap .i64 (IntKind.wrap .i64 (IntKind.wrap .i64 (g:Int) - IntKind.wrap .i64 (r:Int)) - (w:Int)))=((g - r - w:Nat):Int):=by
 simp only [wI,wU]
 omega
end
theorem yP {g r w:Nat} (hg:g < 1000000000) (h:g < r+w):g+1000000000 - r - w < 1000000000:=by omega
theorem yS {g r w:Nat} (hg:g < 1000000000) (h:r+w<=g):g - r - w < 1000000000:=by omega
theorem E8 {n lo m v q:Nat} {f:Nat->Nat} (h1:lo+m<=n) (h2:n<=100000) (h3:q<=1000000000) (h4:∀j,j < n->f j < 1000000000):RdI n lo m v q f (0,0,0,f):=
 ⟨Nat.zero_le _,⟨h1,h2⟩,h3,Nat.zero_le _,Nat.zero_le _,h4,λt ht=>absurd ht (Nat.not_lt_zero _),λ_ _=>rfl,by show 0+q*0=0+(0+0)*_;simp⟩
section
variable {n lo m v q:Nat} {f:Nat->Nat} {x:R4} (hx:RdI n lo m v q f x)
include hx
theorem xT (h:x.1 < m):(within (x.1:Int) m&&(Nat.beq n n&&Nat.ble (lo+m) n))=true:=by
 rw [ag h,Nat.beq_refl,Nat.ble_eq_true_of_le hx.nn.1];rfl
theorem xW (h:x.1 < m):(Nat.blt (lo+x.1) n&&Nat.beq n n)=true:=by
 rw [eI (by have:=hx.nn;omega),Nat.beq_refl];rfl
theorem kl (h:x.1 < m):x.2.2.2 (lo+x.1) < 1000000000:=by
 rw [hx.s _ (.inr (Nat.le_refl _))];exact hx.ff _ (by have:=hx.nn;omega)
theorem wz:x.2.1+q*dg B9 v x.1<=1000000000000000000:=by
 have h1:dg B9 v x.1<=999999999:=Nat.le_of_lt_succ (show dg B9 v x.1 < 1000000000 from aY (by decide))
 have h2:q*dg B9 v x.1<=1000000000*999999999:=Nat.mul_le_mul hx.qq h1
 have:=hx.c;omega
theorem vB:IntKind.wrap .u64 ((x.2.1:Int)+IntKind.wrap .u64 ((q:Int)*IntKind.wrap .u64 ((dg B9 v x.1:Nat):Int)))=((x.2.1+q*dg B9 v x.1:Nat):Int):=by
 have h0:=wz hx
 have h1:dg B9 v x.1 < 1000000000:=aY (by decide)
 rw [w64 (x:=dg B9 v x.1) (by omega),<-Int.natCast_mul,w64 (x:=q*dg B9 v x.1) (by omega),<-Int.natCast_add]
 exact w64 (by omega)
theorem Ax {p:Nat} (hp:p=x.2.1+q*dg B9 v x.1):IntKind.wrap .u64 (Int.tdiv (p:Int) 1000000000)=((p / B9:Nat):Int):=w64 (x:=p / B9) (Nat.lt_of_le_of_lt (Nat.div_le_self _ _) (by have:=wz hx;omega))
theorem Ay (h:x.1 < m) {p d w':Nat} (hp:p=x.2.1+q*dg B9 v x.1) (hw:w'<=1) (hd:d < 1000000000) (he:d+p % 1000000000+x.2.2.1=x.2.2.2 (lo+x.1)+w'*1000000000):RdI n lo m v q f (x.1+1,p / B9,w',bc x.2.2.2 (lo+x.1) d):=by
 have hpl:=wz hx
 refine ⟨h,hx.nn,hx.qq,by show p / 1000000000<=1000000000;omega,hw,hx.ff,λt ht=>?_,λj hj=>?_,?_⟩
 ·show bc _ _ _ _ < _
  by_cases e:t=x.1
  ·rw [e,bC];exact hd
  ·rw [aW _ _ (by omega)];exact hx.g t (by have ht:t < x.1+1:=ht;omega)
 ·have hj:j < lo∨lo+(x.1+1)<=j:=hj
  show bc _ _ _ j=_
  rw [aW _ _ (by omega)];exact hx.s j (by omega)
 ·show vF B9 (λt=>bc x.2.2.2 (lo+x.1) d (lo+t)) x.1+bc x.2.2.2 (lo+x.1) d (lo+x.1)*B9 ^ x.1+q*(vF B9 (dg B9 v) x.1+dg B9 v x.1*B9 ^ x.1)=vF B9 (λt=>f (lo+t)) x.1+f (lo+x.1)*B9 ^ x.1+(w'+p / B9)*B9 ^ (x.1+1)
  have e:=hx.e
  rw [bC,cu (g:=λt=>bc x.2.2.2 (lo+x.1) d (lo+t)) (h:=λt=>x.2.2.2 (lo+t)) λi hi=>aW _ _ (by omega),<-hx.s (lo+x.1) (.inr (Nat.le_refl _)),Nat.pow_succ,Nat.mul_add,<-Nat.mul_assoc]
  have e2:=Nat.mod_add_div p 1000000000
  have e3:d+q*dg B9 v x.1+(x.2.2.1+x.2.1)=x.2.2.2 (lo+x.1)+(w'+p / 1000000000)*1000000000:=by omega
  have e4:=congrArg (·*B9 ^ x.1) e3
  simp only [Nat.add_mul] at e4
  have e5:(w'+p / B9)*(B9 ^ x.1*B9)=(w'*1000000000)*B9 ^ x.1+(p / 1000000000*1000000000)*B9 ^ x.1:=by
   rw [<-Nat.add_mul,<-Nat.add_mul,Nat.mul_comm (B9 ^ x.1) B9,<-Nat.mul_assoc]
  rw [e5]
  simp only [Nat.add_mul] at e
  omega
end
theorem vC {n lo m v q:Nat} {f:Nat->Nat} {x:R4} (hx:RdI n lo m v q f x/\x.1=m) (hv:dl B9 v<=m) (hq:q*v<=vF B9 (λt=>f (lo+t)) m):(((x.2.2.1:Nat):Int)==0)=true/\(∀j,j < n->x.2.2.2 j < 1000000000)/\(∀j,j < lo∨lo+m<=j->x.2.2.2 j=f j)/\vF B9 (λt=>x.2.2.2 (lo+t)) m=vF B9 (λt=>f (lo+t)) m - q*v:=by
 obtain ⟨h,hm⟩:=hx
 have e:=h.e
 rw [hm,fC b9 hv] at e
 have h1:vF B9 (λt=>x.2.2.2 (lo+t)) m < B9 ^ m:=j0 (by decide) λi hi=>h.g i (by omega)
 have h2:x.2.2.1+x.2.1=0:=by
  rcases Nat.eq_zero_or_pos (x.2.2.1+x.2.1) with h3 | h3
  ·exact h3
  ·have:1*B9 ^ m<=(x.2.2.1+x.2.1)*B9 ^ m:=Nat.mul_le_mul_right _ h3
   omega
 rw [h2,Nat.zero_mul] at e
 refine ⟨by rw [show x.2.2.1=0 by omega];rfl,λj hj=>?_,λj hj=>h.s j (by omega),by omega⟩
 by_cases hj2:lo<=j/\j < lo+m
 ·have:=h.g (j - lo) (by omega)
  rw [show lo+(j - lo)=j by omega] at this;exact this
 ·rw [h.s j (by omega)];exact h.ff j hj
theorem mw (n lo m v q:Nat) (f:Nat->Nat):∃ (u:St->Bool) (z:St->R4),(∀x,RdI n lo m v q f x->bq u z (rdS n lo m v q x) λx=>RdI n lo m v q f x/\x.1=m)/\∀L:List (List Nat×Orc),aE (V0.run [] 2 [] L [] du) du [1,1,0,1,0] (mkO u z (rdO n)):=
 aQ (Lf:=λL=>L) (rdS n lo m v q) (RdI n lo m v q f) (λx=>m - x.1) (rdO n) (λx=>RdI n lo m v q f x/\x.1=m) (by kernel_rfl)
  (λx hx=>.b (decide ((↑x.1:Int) < (↑m:Int))) (λh1=>
   .b (decide ((↑x.1:Int) < (↑(dl B9 v):Int))) (λh2=>
    .n (c:=within (↑x.1:Int) (dl B9 v)) (ag (aB h2)) (
    .n (c:=within (↑x.1:Int) m&&(Nat.beq n n&&Nat.ble (lo+m) n)) (xT hx (aB h1)) (
    .n (c:=Nat.blt (lo+x.1) n&&Nat.beq n n) (xW hx (aB h1)) (
    .b (decide (IntKind.wrap IntKind.i64 (IntKind.wrap IntKind.i64 (IntKind.wrap IntKind.i64 (↑(x.2.2.2 (lo+x.1)):Int) - IntKind.wrap IntKind.i64 (Int.tmod (IntKind.wrap IntKind.u64 ((↑x.2.1:Int)+IntKind.wrap IntKind.u64 ((↑q:Int)*IntKind.wrap IntKind.u64 (↑(dg B9 v x.1):Int)))) 1000000000)) - (↑x.2.2.1:Int)) < 0)) (λh3=>
     .n (c:=within (↑x.1:Int) m&&(Nat.beq n n&&Nat.ble (lo+m) n)) (xT hx (aB h1)) (
     .n (c:=Nat.ble 0 1&&(Nat.blt (lo+x.1) n&&Nat.beq n n)) ((by have h:=xW hx (aB h1);rw [h];rfl)) (
     .go {env:=[(0,AV.gsub 1000000 1 n lo m),(1,ao B9 v),(2,.int .u64 (↑q:Int)),(7,.int .u64 (IntKind.wrap IntKind.u64 (Int.tdiv (IntKind.wrap IntKind.u64 ((↑x.2.1:Int)+IntKind.wrap IntKind.u64 ((↑q:Int)*IntKind.wrap IntKind.u64 (↑(dg B9 v x.1):Int)))) 1000000000))),(8,.int .i64 1),(13,.int .i64 (↑m:Int)),(14,.int .i64 (IntKind.wrap IntKind.i64 ((↑x.1:Int)+1)))],objs:=[(1000000,AO.grw 0 1 n λj=>bif Nat.beq j (lo+x.1) then [.int .u32 (IntKind.wrap IntKind.u32 (IntKind.wrap IntKind.i64 (IntKind.wrap IntKind.i64 (IntKind.wrap IntKind.i64 (IntKind.wrap IntKind.i64 (↑(x.2.2.2 (lo+x.1)):Int) - IntKind.wrap IntKind.i64 (Int.tmod (IntKind.wrap IntKind.u64 ((↑x.2.1:Int)+IntKind.wrap IntKind.u64 ((↑q:Int)*IntKind.wrap IntKind.u64 (↑(dg B9 v x.1):Int)))) 1000000000)) - (↑x.2.2.1:Int))+1000000000)))] else [.int .u32 (↑(x.2.2.2 j):Int)])]} (x.1+1,(x.2.1+q*dg B9 v x.1) / B9,1,bc x.2.2.2 (lo+x.1) (x.2.2.2 (lo+x.1)+1000000000 - (x.2.1+q*dg B9 v x.1) % 1000000000 - x.2.2.1)) (Ay hx (aB h1) (p:=(x.2.1+q*dg B9 v x.1)) rfl (by decide) (yP (kl hx (aB h1)) (xU (kl hx (aB h1)) (lS _) hx.w (by rw [vB hx,oC] at h3;exact h3))) (yO (kl hx (aB h1)) (lS _) hx.w (xU (kl hx (aB h1)) (lS _) hx.w (by rw [vB hx,oC] at h3;exact h3)))) (by have:=aB h1;show m - (x.1+1) < m - x.1;omega) (by rw [vB hx,oC];exact qk (Ax hx (p:=(x.2.1+q*dg B9 v x.1)) rfl) rfl (aZ (by have:=aB h1;have:=hx.nn;omega)) (ck _ _ _ _ (yN (kl hx (aB h1)) (lS _) hx.w (xU (kl hx (aB h1)) (lS _) hx.w (by rw [vB hx,oC] at h3;exact h3)))))))) λh3=>
    .n (c:=within (↑x.1:Int) m&&(Nat.beq n n&&Nat.ble (lo+m) n)) (xT hx (aB h1)) (
    .n (c:=Nat.ble 0 1&&(Nat.blt (lo+x.1) n&&Nat.beq n n)) ((by have h:=xW hx (aB h1);rw [h];rfl)) (
    .go {env:=[(0,AV.gsub 1000000 1 n lo m),(1,ao B9 v),(2,.int .u64 (↑q:Int)),(7,.int .u64 (IntKind.wrap IntKind.u64 (Int.tdiv (IntKind.wrap IntKind.u64 ((↑x.2.1:Int)+IntKind.wrap IntKind.u64 ((↑q:Int)*IntKind.wrap IntKind.u64 (↑(dg B9 v x.1):Int)))) 1000000000))),(8,.int .i64 0),(13,.int .i64 (↑m:Int)),(14,.int .i64 (IntKind.wrap IntKind.i64 ((↑x.1:Int)+1)))],objs:=[(1000000,AO.grw 0 1 n λj=>bif Nat.beq j (lo+x.1) then [.int .u32 (IntKind.wrap IntKind.u32 (IntKind.wrap IntKind.i64 (IntKind.wrap IntKind.i64 (IntKind.wrap IntKind.i64 (↑(x.2.2.2 (lo+x.1)):Int) - IntKind.wrap IntKind.i64 (Int.tmod (IntKind.wrap IntKind.u64 ((↑x.2.1:Int)+IntKind.wrap IntKind.u64 ((↑q:Int)*IntKind.wrap IntKind.u64 (↑(dg B9 v x.1):Int)))) 1000000000)) - (↑x.2.2.1:Int))))] else [.int .u32 (↑(x.2.2.2 j):Int)])]} (x.1+1,(x.2.1+q*dg B9 v x.1) / B9,0,bc x.2.2.2 (lo+x.1) (x.2.2.2 (lo+x.1) - (x.2.1+q*dg B9 v x.1) % 1000000000 - x.2.2.1)) (Ay hx (aB h1) (p:=(x.2.1+q*dg B9 v x.1)) rfl (by decide) (yS (kl hx (aB h1)) (xV (kl hx (aB h1)) (lS _) hx.w (by rw [vB hx,oC] at h3;exact h3))) (yR (kl hx (aB h1)) (lS _) hx.w (xV (kl hx (aB h1)) (lS _) hx.w (by rw [vB hx,oC] at h3;exact h3)))) (by have:=aB h1;show m - (x.1+1) < m - x.1;omega) (by rw [vB hx,oC];exact qk (Ax hx (p:=(x.2.1+q*dg B9 v x.1)) rfl) rfl (aZ (by have:=aB h1;have:=hx.nn;omega)) (ck _ _ _ _ (yQ (kl hx (aB h1)) (lS _) hx.w (xV (kl hx (aB h1)) (lS _) hx.w (by rw [vB hx,oC] at h3;exact h3))))))))))) λh2=>
   .n (c:=within (↑x.1:Int) m&&(Nat.beq n n&&Nat.ble (lo+m) n)) (xT hx (aB h1)) (
   .n (c:=Nat.blt (lo+x.1) n&&Nat.beq n n) (xW hx (aB h1)) (
   .b (decide (IntKind.wrap IntKind.i64 (IntKind.wrap IntKind.i64 (IntKind.wrap IntKind.i64 (↑(x.2.2.2 (lo+x.1)):Int) - IntKind.wrap IntKind.i64 (Int.tmod (↑x.2.1:Int) 1000000000)) - (↑x.2.2.1:Int)) < 0)) (λh4=>
    .n (c:=within (↑x.1:Int) m&&(Nat.beq n n&&Nat.ble (lo+m) n)) (xT hx (aB h1)) (
    .n (c:=Nat.ble 0 1&&(Nat.blt (lo+x.1) n&&Nat.beq n n)) ((by have h:=xW hx (aB h1);rw [h];rfl)) (
    .go {env:=[(0,AV.gsub 1000000 1 n lo m),(1,ao B9 v),(2,.int .u64 (↑q:Int)),(7,.int .u64 (IntKind.wrap IntKind.u64 (Int.tdiv (↑x.2.1:Int) 1000000000))),(8,.int .i64 1),(13,.int .i64 (↑m:Int)),(14,.int .i64 (IntKind.wrap IntKind.i64 ((↑x.1:Int)+1)))],objs:=[(1000000,AO.grw 0 1 n λj=>bif Nat.beq j (lo+x.1) then [.int .u32 (IntKind.wrap IntKind.u32 (IntKind.wrap IntKind.i64 (IntKind.wrap IntKind.i64 (IntKind.wrap IntKind.i64 (IntKind.wrap IntKind.i64 (↑(x.2.2.2 (lo+x.1)):Int) - IntKind.wrap IntKind.i64 (Int.tmod (↑x.2.1:Int) 1000000000)) - (↑x.2.2.1:Int))+1000000000)))] else [.int .u32 (↑(x.2.2.2 j):Int)])]} (x.1+1,x.2.1 / B9,1,bc x.2.2.2 (lo+x.1) (x.2.2.2 (lo+x.1)+1000000000 - x.2.1 % 1000000000 - x.2.2.1)) (Ay hx (aB h1) (p:=x.2.1) (by rw [nd b9 (aF h2)];rfl) (by decide) (yP (kl hx (aB h1)) (xU (kl hx (aB h1)) (lS _) hx.w (by rw [oC] at h4;exact h4))) (yO (kl hx (aB h1)) (lS _) hx.w (xU (kl hx (aB h1)) (lS _) hx.w (by rw [oC] at h4;exact h4)))) (by have:=aB h1;show m - (x.1+1) < m - x.1;omega) (by rw [oC];exact qk (Ax hx (p:=x.2.1) (by rw [nd b9 (aF h2)];rfl)) rfl (aZ (by have:=aB h1;have:=hx.nn;omega)) (ck _ _ _ _ (yN (kl hx (aB h1)) (lS _) hx.w (xU (kl hx (aB h1)) (lS _) hx.w (by rw [oC] at h4;exact h4)))))))) λh4=>
   .n (c:=within (↑x.1:Int) m&&(Nat.beq n n&&Nat.ble (lo+m) n)) (xT hx (aB h1)) (
   .n (c:=Nat.ble 0 1&&(Nat.blt (lo+x.1) n&&Nat.beq n n)) ((by have h:=xW hx (aB h1);rw [h];rfl)) (
   .go {env:=[(0,AV.gsub 1000000 1 n lo m),(1,ao B9 v),(2,.int .u64 (↑q:Int)),(7,.int .u64 (IntKind.wrap IntKind.u64 (Int.tdiv (↑x.2.1:Int) 1000000000))),(8,.int .i64 0),(13,.int .i64 (↑m:Int)),(14,.int .i64 (IntKind.wrap IntKind.i64 ((↑x.1:Int)+1)))],objs:=[(1000000,AO.grw 0 1 n λj=>bif Nat.beq j (lo+x.1) then [.int .u32 (IntKind.wrap IntKind.u32 (IntKind.wrap IntKind.i64 (IntKind.wrap IntKind.i64 (IntKind.wrap IntKind.i64 (↑(x.2.2.2 (lo+x.1)):Int) - IntKind.wrap IntKind.i64 (Int.tmod (↑x.2.1:Int) 1000000000)) - (↑x.2.2.1:Int))))] else [.int .u32 (↑(x.2.2.2 j):Int)])]} (x.1+1,x.2.1 / B9,0,bc x.2.2.2 (lo+x.1) (x.2.2.2 (lo+x.1) - x.2.1 % 1000000000 - x.2.2.1)) (Ay hx (aB h1) (p:=x.2.1) (by rw [nd b9 (aF h2)];rfl) (by decide) (yS (kl hx (aB h1)) (xV (kl hx (aB h1)) (lS _) hx.w (by rw [oC] at h4;exact h4))) (yR (kl hx (aB h1)) (lS _) hx.w (xV (kl hx (aB h1)) (lS _) hx.w (by rw [oC] at h4;exact h4)))) (by have:=aB h1;show m - (x.1+1) < m - x.1;omega) (by rw [oC];exact qk (Ax hx (p:=x.2.1) (by rw [nd b9 (aF h2)];rfl)) rfl (aZ (by have:=aB h1;have:=hx.nn;omega)) (ck _ _ _ _ (yQ (kl hx (aB h1)) (lS _) hx.w (xV (kl hx (aB h1)) (lS _) hx.w (by rw [oC] at h4;exact h4)))))))))) λh1=>
  .fi x ⟨hx,by have:=aF h1;have:=hx.i;omega⟩)
  (λv L k kn=>by kernel_rfl)
def φRd (n:Nat) (g:Nat->Nat):AV×List AO:=(.bool true,[.grw 0 1 n λj=>[.int .u32 (g j:Int)]])
def rRd (n:Nat) (l:List AV) (os:List AO) (g:Nat->Nat):Prop:=∀ (lo m v q:Nat) (f:Nat->Nat),l=[.gsub 1000000 1 n lo m,ao B9 v,.int .u64 (q:Int)]->os=[.grw 0 1 n λj=>[.int .u32 (f j:Int)]]->q*v<=vF B9 (λt=>f (lo+t)) m->
 (∀j,j < n->g j < 1000000000)/\(∀j,j < lo∨lo+m<=j->g j=f j)/\vF B9 (λt=>g (lo+t)) m=vF B9 (λt=>f (lo+t)) m - q*v
theorem mq {f g:Nat->Nat} (h:(λj=>[AV.int .u32 (f j:Int)])=λj=>[AV.int .u32 (g j:Int)]):f=g:=funext λj=>by
 have:=congrFun h j
 injection this with h1
 injection h1 with _ h2
 omega
theorem rRd.mk {n lo m v q:Nat} {f g:Nat->Nat} (h:q*v<=vF B9 (λt=>f (lo+t)) m->(∀j,j < n->g j < 1000000000)/\(∀j,j < lo∨lo+m<=j->g j=f j)/\vF B9 (λt=>g (lo+t)) m=vF B9 (λt=>f (lo+t)) m - q*v):rRd n [.gsub 1000000 1 n lo m,ao B9 v,.int .u64 (q:Int)] [.grw 0 1 n λj=>[.int .u32 (f j:Int)]] g:=λlo' m' v' q' f' e1 e2=>by
 injection e1 with a1 e1
 injection e1 with a2 e1
 injection e1 with a3 _
 injection a1 with _ _ _ b1 b2
 injection a3 with _ b3
 injection e2 with e2 _
 injection e2 with _ _ _ e2
 rw [<-b1,<-b2,<-bJ b9 a2,show q'=q by omega,<-mq e2]
 exact h
theorem oV {n lo m v q:Nat} {f:Nat->Nat} (h1:lo+m<=n) (h2:n<=100000) (h3:q<=1000000000) (h4:∀j,j < n->f j < 1000000000) (hv:dl B9 v<=m) (hq:q*v<=vF B9 (λt=>f (lo+t)) m):aR wd du (φRd n) (rRd n) [.gsub 1000000 1 n lo m,ao B9 v,.int .u64 (q:Int)] [.grw 0 1 n λj=>[.int .u32 (f j:Int)]]:=by
 obtain ⟨u,z,hu,l1⟩:=mw n lo m v q f
 exact iU (V:=V0) (T:=[]) (d:=2) 1 (aK (l1 _) bK) bI (.lp (hu (0,0,0,f) (E8 h1 h2 h3 h4)) λr1 q1=>
  .t (r:=(.bool (((r1.2.2.1:Nat):Int)==0),[AO.grw 0 1 n λj=>[.int .u32 (r1.2.2.2 j:Int)]])) r1.2.2.2 (rRd.mk λh5=>(vC q1 hv h5).2) ⟨.inl (by rw [(vC q1 hv hq).1];rfl),.inl rfl⟩) (by kernel_rfl)
end Go.WE

namespace Go.WE
open Go Go.Ab Go.Proofs
def φCl (v:Nat):AV×List AO:=(.gsl 1000000 1 (dl B9 v),[.grw 0 1 (dl B9 v) λj=>[.int .u32 (dg B9 v j:Int)]])
theorem Aj {a b:Nat} (h:b<=a):Nat.blt a b=false:=by
 cases e:Nat.blt a b with
 | false=>rfl
 | true=>have:a < b:=Nat.le_of_ble_eq_true e;omega
theorem ri {v:Nat} (h0:0 < dl B9 v) (h1:dl B9 v<=1000):aR wd dP φCl (rU B9 λv x=>x=v) [ao B9 v] []:=by
 refine iU (V:=Vb [] [7] []) (T:=[]) (d:=2) 2 bK bI (.n (c:=Nat.blt 0 (dl B9 v)) (eI h0) (.n (c:=roomy 4 (0+dl B9 v)) (kk (by omega)) (.t (r:=(AV.gsl 1000000 1 (0+dl B9 v),[AO.grw 0 1 (0+dl B9 v) (av 0 (dl B9 v) (al [.int .u32 0] []) λj=>[.int .u32 (dg B9 v j:Int)])])) v (rU.mk b9 rfl) (by
  have e:av 0 (dl B9 v) (al [.int .u32 0] []) (λj=>[AV.int .u32 (dg B9 v j:Int)])=λj=>[.int .u32 (dg B9 v j:Int)]:=funext λj=>by
   by_cases hj:j < dl B9 v
   ·rw [gr (Nat.zero_le _) (by omega)];rfl
   ·unfold av
    rw [show Nat.blt j 0=false from Aj (by omega),show Nat.blt j (0+dl B9 v)=false from Aj (by omega),nd b9 (by omega)];rfl
  rw [e,Nat.zero_add];exact Tr.refl _)))) (by kernel_rfl)
noncomputable abbrev vO:Ent:=bN wd dP φCl (rU B9 λv x=>x=v)
noncomputable def VDv:Env:={V0 with
 byRef:=λf=>Nat.beq f du||Nat.beq f sN
 grow:=onD [53]
 hint:=λf t=>cond (Nat.beq f cM) (((alook [(15,hn [6,8,9,10,11,12,14,15] [51,59] [] []),(11,hn [6,8,9,10,11,12] [51,59] [] [])] t)).getD {}) (V0.hint f t)
 trim:=λf p=>cond (Nat.beq f cM) (uo [tn 7 [0,1] [],tn 15 [0,1] [],tn 65443 [6,10,11] [51,59],tn 16361 [6,8,9,10,11,12] [51,59],tn 16753859 [6,8,9,10,11,12,14] [51,59],tn 4188465 [6,8,9,10,11,12,14,15] [51,59],tn 134030894 [6,8,9,10,11,12,14] [51,59],tn 523559 [6,8,9,10,11,12,14] [51,59],tn 1047119 [6,8,9,10,11,12,14] [51,59],tn 32723 [6,8,9,10,11,12] [51,59],tn 1023 [6,10,11] [51,59]] p) (V0.trim f p)}
noncomputable instance envDv:EnvOk VDv wd:=⟨rfl,rfl,qp,qy⟩
end Go.WE

namespace Go.WE
open Go Go.Ab Go.Proofs
set_option linter.unusedSectionVars false
abbrev R5:=Nat×Nat×Nat×(Nat->Nat)×(Nat->Nat)
theorem BX {a b:Bool} (h:a=true):(bif a then true else !b)=true:=by rw [h];rfl
abbrev SC (s:Nat):AV:=.sl .fit 1 1 (al [.int .u32 0] [(0,.int .u32 (s:Int))])
def diR (s v n m:Nat) (q r:Int) (j:Nat) (f g:Nat->Nat):St:={env:=[(6,.sl .fit 1 1 (al [.int .u32 0] [(0,.int .u32 (s:Int))])),(8,ao B9 v),(9,.int .i64 (2:Int)),(10,.gsl 51 1 n),(11,.msl 59 1 0 m),(12,.int .i64 (j:Int)),(14,.int .u64 q),(15,.int .u64 r)],objs:=[(51,.grw 0 1 n λj=>[.int .u32 (f j:Int)]),(59,.arr 1 m λj=>[.int .u32 (g j:Int)])]}
theorem z1 {s v n m:Nat} {q q' r r':Int} {j:Nat} {f g:Nat->Nat} (h1:q=q') (h2:r=r'):diR s v n m q r j f g=diR s v n m q' r' j f g:=by rw [h1,h2]
def diS (s v n m:Nat) (x:R5):St:=diR s v n m x.2.1 x.2.2.1 x.1 x.2.2.2.1 x.2.2.2.2
def diO (s v n m:Nat) (x:Nat×Nat×(Nat->Nat)×(Nat->Nat)) (k:Ex->St->Res):Res:=k (.exit 2) {env:=[(6,.sl .fit 1 1 (al [.int .u32 0] [(0,.int .u32 (s:Int))])),(8,ao B9 v),(9,.int .i64 (2:Int)),(10,.gsl 51 1 n),(11,.msl 59 1 0 m),(12,.int .i64 (x.1:Int)),(14,.int .u64 (x.2.1:Int))],objs:=[(51,.grw 0 1 n λj=>[.int .u32 (x.2.2.1 j:Int)]),(59,.arr 1 m λj=>[.int .u32 (x.2.2.2 j:Int)])]}
def t2 (f:Nat->Nat) (j:Nat):Nat:=1000000000*f (j+2)+f (j+1)
def t3 (f:Nat->Nat) (j:Nat):Nat:=1000000000*t2 f j+f j
theorem yv (f:Nat->Nat) (j:Nat):t2 f j*1000000000+f j=t3 f j:=by unfold t3;omega
theorem vY {v:Nat} (h:dl B9 v=2):v=dg B9 v 1*1000000000+dg B9 v 0:=by
 have e:=en b9 v
 rw [h] at e
 have e2:vF B9 (dg B9 v) 2=0+dg B9 v 0*B9 ^ 0+dg B9 v 1*B9 ^ 1:=rfl
 rw [e2,Nat.pow_zero,Nat.pow_one] at e
 have:dg B9 v 1*B9=dg B9 v 1*1000000000:=rfl
 omega
structure DiI (v n:Nat) (x:R5):Prop where
 v':dl B9 v=2
 h':1000000000<=2*dg B9 v 1
 j':x.1+2 < n/\n<=1000
 f':∀j,j < n->x.2.2.2.1 j < 1000000000
 e':x.2.1*dg B9 v 1+x.2.2.1=t2 x.2.2.2.1 x.1
 t':t3 x.2.2.2.1 x.1 < v*1000000000
 r':x.2.2.1 < 1000000000
 hi':t3 x.2.2.2.1 x.1 / v<=x.2.1
 q':x.2.1<=1000000001
section
variable {v n:Nat} {x:R5} (hx:DiI v n x)
include hx
theorem oo:IntKind.wrap .i64 (IntKind.wrap .i64 ((x.1:Int)+2) - 2)=(x.1:Int):=by
 have:=hx.j'
 rw [wrap_i64 (x:=(x.1:Int)+2) (by omega) (by omega),wrap_i64 (by omega) (by omega)];omega
theorem CM:dg B9 v 1 < 1000000000:=aY (by decide)
theorem zZ:dg B9 v 0 < 1000000000:=aY (by decide)
theorem tM:0 < v:=by have:=vY hx.v';have:=hx.h';omega
theorem zX:IntKind.wrap .u64 ((x.2.1:Int)*IntKind.wrap .u64 ((dg B9 v (Int.toNat (IntKind.wrap .i64 (2 - 2))):Nat):Int))=((x.2.1*dg B9 v 0:Nat):Int):=by
 have h0:=zZ hx
 have h1:x.2.1*dg B9 v 0<=1000000001*1000000000:=Nat.mul_le_mul hx.q' (Nat.le_of_lt h0)
 show IntKind.wrap .u64 ((x.2.1:Int)*IntKind.wrap .u64 ((dg B9 v 0:Nat):Int))=_
 rw [w64 (x:=dg B9 v 0) (by omega),<-Int.natCast_mul]
 exact w64 (by omega)
theorem zW:IntKind.wrap .u64 (IntKind.wrap .u64 ((x.2.2.1:Int)*1000000000)+IntKind.wrap .u64 ((x.2.2.2.1 (Int.toNat (x.1:Int)):Nat):Int))=((x.2.2.1*1000000000+x.2.2.2.1 x.1:Nat):Int):=by
 have h0:=hx.r'
 have h1:=hx.f' x.1 (by have:=hx.j';omega)
 show IntKind.wrap .u64 (IntKind.wrap .u64 ((x.2.2.1:Int)*1000000000)+IntKind.wrap .u64 ((x.2.2.2.1 x.1:Nat):Int))=_
 simp only [wL];omega
theorem D0:x.2.1*v+(x.2.2.1*1000000000+x.2.2.2.1 x.1)=t3 x.2.2.2.1 x.1+x.2.1*dg B9 v 0:=by
 have h1:=zp (B:=1000000000) (v1:=dg B9 v 1) (v0:=dg B9 v 0) (q:=x.2.1) (r:=x.2.2.1) (a0:=x.2.2.2.1 x.1)
 rw [<-vY hx.v',hx.e',yv] at h1;exact h1
abbrev OvC (x:R5) (v:Nat):Bool:=bif decide ((x.2.1:Int)≥1000000000) then true else decide (IntKind.wrap .u64 ((x.2.1:Int)*IntKind.wrap .u64 ((dg B9 v (Int.toNat (IntKind.wrap .i64 (2 - 2))):Nat):Int)) > IntKind.wrap .u64 (IntKind.wrap .u64 ((x.2.2.1:Int)*1000000000)+IntKind.wrap .u64 ((x.2.2.2.1 (Int.toNat (x.1:Int)):Nat):Int)))
theorem pP (h:OvC x v=true):t3 x.2.2.2.1 x.1 < x.2.1*v:=by
 have hk:=D0 hx
 unfold OvC at h
 rw [zX hx,zW hx] at h
 cases hd:decide ((x.2.1:Int)≥1000000000) with
 | true=>
  have:=of_decide_eq_true hd
  refine zq (B:=1000000000) hx.t' ?_
  omega
 | false=>
  rw [hd,cond_false] at h
  have:=of_decide_eq_true h
  omega
theorem qN (h:OvC x v=true):1<=x.2.1:=(pj (tM hx) (pP hx h)).2
theorem zY (h:OvC x v=false):x.2.1=t3 x.2.2.2.1 x.1 / v:=by
 have hk:=D0 hx
 unfold OvC at h
 rw [zX hx,zW hx] at h
 cases hd:decide ((x.2.1:Int)≥1000000000) with
 | true=>rw [hd,cond_true] at h;cases h
 | false=>
  rw [hd,cond_false] at h
  have:=of_decide_eq_false h
  exact (zr (tM hx) (by omega) hx.hi').symm
theorem DZ (h:OvC x v=true):IntKind.wrap .u64 ((x.2.1:Int) - 1)=((x.2.1 - 1:Nat):Int):=by
 have:=qN hx h;have:=hx.q'
 simp only [wL];omega
theorem CL:IntKind.wrap .u64 ((x.2.2.1:Int)+IntKind.wrap .u64 ((dg B9 v (Int.toNat (IntKind.wrap .i64 (2 - 1))):Nat):Int))=((x.2.2.1+dg B9 v 1:Nat):Int):=by
 have h0:=CM hx;have:=hx.r'
 show IntKind.wrap .u64 ((x.2.2.1:Int)+IntKind.wrap .u64 ((dg B9 v 1:Nat):Int))=_
 simp only [wL];omega
theorem D1 (h:1<=x.2.1):(x.2.1 - 1)*dg B9 v 1+(x.2.2.1+dg B9 v 1)=t2 x.2.2.2.1 x.1:=by
 have e:=hx.e'
 obtain ⟨y,hy⟩:∃y,x.2.1=y+1:=⟨x.2.1 - 1,by omega⟩
 rw [hy,Nat.add_mul] at e
 rw [hy,Nat.add_sub_cancel];omega
theorem GM (h:OvC x v=true) (h2:decide (IntKind.wrap .u64 ((x.2.2.1:Int)+IntKind.wrap .u64 ((dg B9 v (Int.toNat (IntKind.wrap .i64 (2 - 1))):Nat):Int))≥1000000000)=false):DiI v n (x.1,x.2.1 - 1,x.2.2.1+dg B9 v 1,x.2.2.2.1,x.2.2.2.2):=by
 rw [CL hx] at h2
 have h3:=of_decide_eq_false h2
 refine ⟨hx.v',hx.h',hx.j',hx.f',D1 hx (qN hx h),hx.t',by show x.2.2.1+dg B9 v 1 < _;omega,(pj (tM hx) (pP hx h)).1,by show x.2.1 - 1<=_;have:=hx.q';omega⟩
theorem z0 (h:OvC x v=true) (h2:decide (IntKind.wrap .u64 ((x.2.2.1:Int)+IntKind.wrap .u64 ((dg B9 v (Int.toNat (IntKind.wrap .i64 (2 - 1))):Nat):Int))≥1000000000)=true):x.2.1 - 1=t3 x.2.2.2.1 x.1 / v:=by
 rw [CL hx] at h2
 have h3:=of_decide_eq_true h2
 have hp:=qN hx h
 have hk:=u5 (B:=1000000000) (v0:=dg B9 v 0) (q:=x.2.1 - 1) (r:=x.2.2.1+dg B9 v 1) (a0:=x.2.2.2.1 x.1) (zZ hx) (by have:=hx.q';omega) (by omega)
 have h4:=w9 (B:=1000000000) (v1:=dg B9 v 1) hk
 rw [<-vY hx.v',D1 hx hp,yv] at h4
 exact (zr (tM hx) h4 (pj (tM hx) (pP hx h)).1).symm
end
abbrev DiP (v:Nat) (x:R5) (o:Nat×Nat×(Nat->Nat)×(Nat->Nat)):Prop:=o.1=x.1/\o.2.1=t3 x.2.2.2.1 x.1 / v/\o.2.2.1=x.2.2.2.1/\o.2.2.2=x.2.2.2.2
theorem _root_.Go.Ab.RT.fq {α τ ι:Type} {S:α->St} {Inv:α->Prop} {μ:α->Nat} {out:τ->(Ex->St->Res)->Res} {Post:α->τ->Prop} {v:α} {e:Ex} {s:St} (o:τ) (h:Post v o) (hs:∀k,out o k=k e s):RT S Inv μ out Post v (λ(_:ι) (k:Ex->St->Res) (_:St->Res)=>k e s):=RT.fin o h λ_ k _=>(hs k).symm
theorem uH (s v n m:Nat) (T:List Ent):∃ (u:St->Bool) (z:St->Nat×Nat×(Nat->Nat)×(Nat->Nat)),(∀x,DiI v n x->bq u z (diS s v n m x) (DiP v x))/\∀L:List (List Nat×Orc),aE (VDv.run T 2 [] L [] cM) cM [1,1,1,1,1,1,1,1,0,1,0,0,1,0,0,1,1,0,0] (mkO u z (diO s v n m)):=
 eu (Lf:=λL=>L) (diS s v n m) (DiI v n) (λx=>x.2.1) (diO s v n m) (DiP v) (by kernel_rfl) (λa b x h hp=>by
   unfold diS diR at h
   simp only [St.mk.injEq,List.cons.injEq,Prod.mk.injEq,AV.int.injEq,AO.grw.injEq,AO.arr.injEq,true_and,and_true] at h
   have e1:a.1=b.1:=by have:=h.1.1;omega
   have e2:=mq h.2.1
   have e3:=mq h.2.2
   unfold DiP at hp ⊢
   rw [<-e1,<-e2,<-e3];exact hp)
  (λx hx=>.n (c:=bif within (IntKind.wrap IntKind.i64 (2 - 2)) (dl B9 v) then true else !bif decide ((↑x.2.1:Int)≥1000000000)==false then true else false) (BX (by rw [hx.v'];rfl)) (
  .n (c:=bif within (IntKind.wrap IntKind.i64 (IntKind.wrap IntKind.i64 ((↑x.1:Int)+2) - 2)) n&&Nat.beq n n then true else !bif decide ((↑x.2.1:Int)≥1000000000)==false then true else false) (BX (by rw [oo hx,ag (by have:=hx.j';omega),Nat.beq_refl];rfl)) (
  .n (c:=bif Nat.blt (Int.toNat (IntKind.wrap IntKind.i64 (IntKind.wrap IntKind.i64 ((↑x.1:Int)+2) - 2))) n&&Nat.beq n n then true else !bif decide ((↑x.2.1:Int)≥1000000000)==false then true else false) (BX (by rw [oo hx,Nat.beq_refl,eI (show Int.toNat (x.1:Int) < n by have:=hx.j';omega)];rfl)) (
  .b (bif decide ((↑x.2.1:Int)≥1000000000) then true else decide (IntKind.wrap IntKind.u64 ((↑x.2.1:Int)*IntKind.wrap IntKind.u64 (↑(dg B9 v (Int.toNat (IntKind.wrap IntKind.i64 (2 - 2)))):Int)) > IntKind.wrap IntKind.u64 (IntKind.wrap IntKind.u64 ((↑x.2.2.1:Int)*1000000000)+IntKind.wrap IntKind.u64 (↑(x.2.2.2.1 (Int.toNat (IntKind.wrap IntKind.i64 (IntKind.wrap IntKind.i64 ((↑x.1:Int)+2) - 2)))):Int)))) (λh1=>
   .n (c:=within (IntKind.wrap IntKind.i64 (2 - 1)) (dl B9 v)) (by rw [hx.v'];rfl) (
   .b (decide (IntKind.wrap IntKind.u64 ((↑x.2.2.1:Int)+IntKind.wrap IntKind.u64 (↑(dg B9 v (Int.toNat (IntKind.wrap IntKind.i64 (2 - 1)))):Int))≥1000000000)) (λh2=>
    .fq (e:=.exit 2) (s:={env:=[(6,.sl .fit 1 1 (al [.int .u32 0] [(0,.int .u32 (s:Int))])),(8,ao B9 v),(9,.int .i64 (2:Int)),(10,.gsl 51 1 n),(11,.msl 59 1 0 m),(12,.int .i64 (x.1:Int)),(14,.int .u64 (IntKind.wrap .u64 ((x.2.1:Int) - 1)))],objs:=[(51,.grw 0 1 n λj=>[.int .u32 (x.2.2.2.1 j:Int)]),(59,.arr 1 m λj=>[.int .u32 (x.2.2.2.2 j:Int)])]}) (x.1,x.2.1 - 1,x.2.2.2.1,x.2.2.2.2) ⟨rfl,z0 hx (by rw [oo hx] at h1;exact h1) h2,rfl,rfl⟩ (λk=>by rw [DZ hx (by rw [oo hx] at h1;exact h1)];rfl)) λh2=>
   .nx {env:=[(6,.sl .fit 1 1 (al [.int .u32 0] [(0,.int .u32 (↑s:Int))])),(8,ao B9 v),(9,.int .i64 2),(10,AV.gsl 51 1 n),(11,.msl 59 1 0 m),(12,.int .i64 (↑x.1:Int)),(14,.int .u64 (IntKind.wrap IntKind.u64 ((↑x.2.1:Int) - 1))),(15,.int .u64 (IntKind.wrap IntKind.u64 ((↑x.2.2.1:Int)+IntKind.wrap IntKind.u64 (↑(dg B9 v (Int.toNat (IntKind.wrap IntKind.i64 (2 - 1)))):Int))))],objs:=[(51,AO.grw 0 1 n λj=>[.int .u32 (↑(x.2.2.2.1 j):Int)]),(59,.arr 1 m λj=>[.int .u32 (↑(x.2.2.2.2 j):Int)])]} (x.1,x.2.1 - 1,x.2.2.1+dg B9 v 1,x.2.2.2.1,x.2.2.2.2) (GM hx (by rw [oo hx] at h1;exact h1) h2) (by have:=qN hx (by rw [oo hx] at h1;exact h1);show x.2.1 - 1 < x.2.1;omega) (λo h=>h) (z1 (DZ hx (by rw [oo hx] at h1;exact h1)) (CL hx)))) λh1=>
  .fi (x.1,x.2.1,x.2.2.2.1,x.2.2.2.2) ⟨rfl,zY hx (by rw [oo hx] at h1;exact h1),rfl,rfl⟩))))
  (λv L k kn=>by kernel_rfl)
end Go.WE

namespace Go.WE
open Go Go.Ab Go.Proofs
set_option linter.unusedSectionVars false
abbrev R6:=Nat×(Nat->Nat)×(Nat->Nat)
abbrev RI4:=Nat×Nat×(Nat->Nat)×(Nat->Nat)
def Bt (s v n m:Nat) (i:Int) (f g:Nat->List AV):St:={env:=[(6,SC s),(8,ao B9 v),(9,.int .i64 (2:Int)),(10,.gsl 51 1 n),(11,.msl 59 1 0 m),(12,.int .i64 i)],objs:=[(51,.grw 0 1 n f),(59,.arr 1 m g)]}
theorem wK {s v n m:Nat} {i i':Int} {f f' g g':Nat->List AV} (h1:i=i') (h2:f=f') (h3:g=g'):Bt s v n m i f g=Bt s v n m i' f' g':=by rw [h1,h2,h3]
def Bs (s v n m:Nat) (x:R6):St:=Bt s v n m ((x.1:Int) - 1) (λj=>[.int .u32 (x.2.1 j:Int)]) λj=>[.int .u32 (x.2.2 j:Int)]
def Bu (s n m:Nat) (x:R6) (k:Ex->St->Res):Res:=k (.exit 0) {env:=[(6,.sl .fit 1 1 (al [.int .u32 0] [(0,.int .u32 (s:Int))])),(10,.gsl 51 1 n),(11,.msl 59 1 0 m)],objs:=[(51,.grw 0 1 n λj=>[.int .u32 (x.2.1 j:Int)]),(59,.arr 1 m λj=>[.int .u32 (x.2.2 j:Int)])]}
structure DoI (v n m U:Nat) (x:R6):Prop where
 v':dl B9 v=2
 h':1000000000<=2*dg B9 v 1
 k':x.1<=m
 n':n=m+2/\n<=1000
 f':∀j,j < n->x.2.1 j < 1000000000
 g':∀j,x.1<=j->j < m->x.2.2 j < 1000000000
 l':vF B9 x.2.1 n < v*B9 ^ x.1
 e':U=vF B9 x.2.1 n+v*(B9 ^ x.1*vF B9 (λt=>x.2.2 (x.1+t)) (m - x.1))
theorem Ar (f:Nat->Nat) (j:Nat):vF B9 (λt=>f (j+t)) 3=t3 f j:=by
 rw [<-yv]
 unfold t2
 show 0+f (j+0)*B9 ^ 0+f (j+1)*B9 ^ 1+f (j+2)*B9 ^ 2=(1000000000*f (j+2)+f (j+1))*1000000000+f j
 rw [Nat.pow_zero,Nat.pow_one,show B9 ^ 2=1000000000*1000000000 from rfl,show B9=1000000000 from rfl,Nat.add_zero,Nat.add_mul,Nat.mul_comm 1000000000 (f (j+2)),<-Nat.mul_assoc]
 omega
section
variable {v n m U:Nat} {x:R6} (hx:DoI v n m U x)
include hx
theorem CD:v < B9 ^ 2:=by have:=lM (v:=v) b9;rw [hx.v'] at this;exact this
theorem zQ:0 < v:=by have:=vY hx.v';have:=hx.h';omega
theorem rS (h1:decide ((x.1:Int) - 1≥0)=true):x.1 - 1+2 < n:=by have:=hx.k';have:=hx.n';have:=fW h1;omega
theorem GI (h1:decide ((x.1:Int) - 1≥0)=true):(x.1:Int) - 1=((x.1 - 1:Nat):Int):=by have:=fW h1;omega
theorem vg (h1:decide ((x.1:Int) - 1≥0)=true):IntKind.wrap .i64 ((x.1:Int) - 1+2)=((x.1 - 1+2:Nat):Int):=by
 have:=fW h1;have:=hx.k';have:=hx.n'
 rw [wrap_i64 (by omega) (by omega)];omega
theorem xy (h1:decide ((x.1:Int) - 1≥0)=true):IntKind.wrap .i64 (IntKind.wrap .i64 ((x.1:Int) - 1+2) - 1)=((x.1 - 1+1:Nat):Int):=by
 have:=fW h1;have:=hx.k';have:=hx.n'
 rw [vg hx h1,wrap_i64 (by omega) (by omega)];omega
theorem CB (h1:decide ((x.1:Int) - 1≥0)=true):(within (IntKind.wrap .i64 ((x.1:Int) - 1+2)) n&&Nat.beq n n)=true:=by
 rw [vg hx h1,ag (rS hx h1),Nat.beq_refl];rfl
theorem CH (h1:decide ((x.1:Int) - 1≥0)=true):(Nat.blt (Int.toNat (IntKind.wrap .i64 ((x.1:Int) - 1+2))) n&&Nat.beq n n)=true:=by
 rw [vg hx h1,Nat.beq_refl,eI (show Int.toNat ((x.1 - 1+2:Nat):Int) < n from rS hx h1)];rfl
theorem CC (h1:decide ((x.1:Int) - 1≥0)=true):(within (IntKind.wrap .i64 (IntKind.wrap .i64 ((x.1:Int) - 1+2) - 1)) n&&Nat.beq n n)=true:=by
 rw [xy hx h1,ag (by have:=rS hx h1;omega),Nat.beq_refl];rfl
theorem CI (h1:decide ((x.1:Int) - 1≥0)=true):(Nat.blt (Int.toNat (IntKind.wrap .i64 (IntKind.wrap .i64 ((x.1:Int) - 1+2) - 1))) n&&Nat.beq n n)=true:=by
 rw [xy hx h1,Nat.beq_refl,eI (show Int.toNat ((x.1 - 1+1:Nat):Int) < n by have:=rS hx h1;omega)];rfl
theorem xw:IntKind.wrap .u64 ((dg B9 v (Int.toNat (IntKind.wrap .i64 (2 - 1))):Nat):Int)=((dg B9 v 1:Nat):Int):=w64 (x:=dg B9 v 1) (Nat.lt_trans (show dg B9 v 1 < 1000000000 from aY (by decide)) (by decide))
theorem DY:(IntKind.wrap .u64 ((dg B9 v (Int.toNat (IntKind.wrap .i64 (2 - 1))):Nat):Int) !=0)=true:=by
 rw [xw hx];exact AD (by have:=hx.h';omega)
theorem zR (h1:decide ((x.1:Int) - 1≥0)=true):IntKind.wrap .u64 (IntKind.wrap .u64 (IntKind.wrap .u64 ((x.2.1 (Int.toNat (IntKind.wrap .i64 ((x.1:Int) - 1+2))):Nat):Int)*1000000000)+IntKind.wrap .u64 ((x.2.1 (Int.toNat (IntKind.wrap .i64 (IntKind.wrap .i64 ((x.1:Int) - 1+2) - 1))):Nat):Int))=((t2 x.2.1 (x.1 - 1):Nat):Int):=by
 have h2:=rS hx h1
 have a1:=hx.f' (x.1 - 1+2) h2
 have a2:=hx.f' (x.1 - 1+1) (by omega)
 rw [xy hx h1,vg hx h1]
 show IntKind.wrap .u64 (IntKind.wrap .u64 (IntKind.wrap .u64 ((x.2.1 (x.1 - 1+2):Nat):Int)*1000000000)+IntKind.wrap .u64 ((x.2.1 (x.1 - 1+1):Nat):Int))=_
 unfold t2
 simp only [wL];omega
theorem GH (h1:decide ((x.1:Int) - 1≥0)=true):IntKind.wrap .u64 (Int.tdiv ((t2 x.2.1 (x.1 - 1):Nat):Int) (IntKind.wrap .u64 ((dg B9 v (Int.toNat (IntKind.wrap .i64 (2 - 1))):Nat):Int)))=((t2 x.2.1 (x.1 - 1) / dg B9 v 1:Nat):Int):=by
 rw [xw hx]
 exact w64 (x:=t2 x.2.1 (x.1 - 1) / dg B9 v 1) (Nat.lt_of_le_of_lt (Nat.div_le_self _ _) (by
  have h2:=rS hx h1
  have a1:=hx.f' (x.1 - 1+2) h2
  have a2:=hx.f' (x.1 - 1+1) (by omega)
  unfold t2;omega))
theorem GG:Int.tmod ((t2 x.2.1 (x.1 - 1):Nat):Int) (IntKind.wrap .u64 ((dg B9 v (Int.toNat (IntKind.wrap .i64 (2 - 1))):Nat):Int))=((t2 x.2.1 (x.1 - 1) % dg B9 v 1:Nat):Int):=by
 rw [xw hx];rfl
theorem CJ (h1:decide ((x.1:Int) - 1≥0)=true) {f:Nat->Nat} (hf:∀j,x.1+2<=j->f j=x.2.1 j):vF B9 f n=vF B9 f (x.1 - 1)+B9 ^ (x.1 - 1)*vF B9 (λt=>f (x.1 - 1+t)) 3:=by
 have h0:=fW h1
 have h2:=rS hx h1
 obtain ⟨y,hy⟩:∃y,n=x.1+2+y:=⟨n - (x.1+2),by omega⟩
 have hz:∀i,i < y->x.2.1 (x.1+2+i)=0:=by
  have e:=ep (b:=B9) (g:=x.2.1) (k:=x.1+2) y
  have l:=hx.l'
  rw [hy,e] at l
  have l2:v*B9 ^ x.1<=B9 ^ (x.1+2):=by
   rw [Nat.pow_add,Nat.mul_comm (B9 ^ x.1)]
   exact Nat.mul_le_mul_right _ (Nat.le_of_lt (CD hx))
  have l3:vF B9 (λi=>x.2.1 (x.1+2+i)) y=0:=by
   rcases Nat.eq_zero_or_pos (vF B9 (λi=>x.2.1 (x.1+2+i)) y) with h | h
   ·exact h
   ·have:B9 ^ (x.1+2)*1<=B9 ^ (x.1+2)*vF B9 (λi=>x.2.1 (x.1+2+i)) y:=Nat.mul_le_mul_left _ h
    omega
  intro i hi
  have h4:=z5 (b:=B9) (g:=λi=>x.2.1 (x.1+2+i)) (by decide) (n:=y) (λi hi=>hx.f' _ (by omega)) i hi
  rw [l3] at h4
  unfold dg at h4
  rw [Nat.zero_div,Nat.zero_mod] at h4
  exact h4.symm
 rw [hy,ep (b:=B9) (g:=f) (k:=x.1+2) y,fH λi hi=>(hf (x.1+2+i) (by omega)).trans (hz i hi),Nat.mul_zero,Nat.add_zero,show x.1+2=x.1 - 1+3 by omega,ep]
theorem DX (h1:decide ((x.1:Int) - 1≥0)=true):t3 x.2.1 (x.1 - 1) < v*1000000000:=by
 have h0:=fW h1
 have e:=CJ hx h1 (f:=x.2.1) λ_ _=>rfl
 have l:=hx.l'
 rw [e,Ar] at l
 have e2:v*B9 ^ x.1=B9 ^ (x.1 - 1)*(v*1000000000):=by
  rw [show x.1=x.1 - 1+1 by omega,Nat.pow_succ,Nat.add_sub_cancel,Nat.mul_comm (B9 ^ (x.1 - 1)) B9,<-Nat.mul_assoc,Nat.mul_comm (B9 ^ (x.1 - 1))]
 rw [e2] at l
 exact Nat.lt_of_mul_lt_mul_left (a:=B9 ^ (x.1 - 1)) (by omega)
theorem CF (h1:decide ((x.1:Int) - 1≥0)=true):DiI v n (x.1 - 1,t2 x.2.1 (x.1 - 1) / dg B9 v 1,t2 x.2.1 (x.1 - 1) % dg B9 v 1,x.2.1,x.2.2):=by
 have h2:=rS hx h1
 have hp:0 < dg B9 v 1:=by have:=hx.h';omega
 have ht:=DX hx h1
 have h0:dg B9 v 0 < 1000000000:=aY (by decide)
 have e:=vY hx.v'
 have ha:=hx.f' (x.1 - 1) (by omega)
 refine ⟨hx.v',hx.h',⟨h2,hx.n'.2⟩,hx.f',Nat.div_add_mod' _ _,ht,Nat.lt_trans (Nat.mod_lt _ hp) (show dg B9 v 1 < 1000000000 from aY (by decide)),?_,?_⟩
 ·have:=u4 (B:=1000000000) (v1:=dg B9 v 1) (v0:=dg B9 v 0) (a0:=x.2.1 (x.1 - 1)) h0 ha (t:=t2 x.2.1 (x.1 - 1)) hp
  rw [<-e,yv] at this;exact this
 ·refine u6 (B:=1000000000) (v1:=dg B9 v 1) (v0:=dg B9 v 0) (a0:=x.2.1 (x.1 - 1)) h0 ?_ hx.h'
  rw [<-e,yv];exact ht
theorem xx (h1:decide ((x.1:Int) - 1≥0)=true):t3 x.2.1 (x.1 - 1) / v < 1000000000:=(Nat.div_lt_iff_lt_mul (zQ hx)).2 (by rw [Nat.mul_comm];exact DX hx h1)
theorem CE (h1:decide ((x.1:Int) - 1≥0)=true):(decide (0<=((x.1 - 1:Nat):Int))&&(decide (((x.1 - 1:Nat):Int)<=IntKind.wrap .i64 (IntKind.wrap .i64 (((x.1 - 1:Nat):Int)+2)+1))&&decide (IntKind.wrap .i64 (IntKind.wrap .i64 (((x.1 - 1:Nat):Int)+2)+1)<=(n:Int))))=true:=by
 have h2:=rS hx h1;have:=hx.n'
 rw [show IntKind.wrap .i64 (IntKind.wrap .i64 (((x.1 - 1:Nat):Int)+2)+1)=((x.1 - 1:Nat):Int)+3 by simp only [wI];omega]
 simp;omega
theorem CA (h1:decide ((x.1:Int) - 1≥0)=true):within ((x.1 - 1:Nat):Int) m=true:=ag (by have:=fW h1;have:=hx.k';omega)
theorem CG (h1:decide ((x.1:Int) - 1≥0)=true):Nat.blt (0+(x.1 - 1)) m=true:=eI (by have:=fW h1;have:=hx.k';omega)
section
variable {r2:RI4} (q2:DiP v (x.1 - 1,t2 x.2.1 (x.1 - 1) / dg B9 v 1,t2 x.2.1 (x.1 - 1) % dg B9 v 1,x.2.1,x.2.2) r2)
include q2
theorem vR (h1:decide ((x.1:Int) - 1≥0)=true):Int.toNat (IntKind.wrap .i64 (IntKind.wrap .i64 ((r2.1:Int)+2)+1)) - r2.1=3:=by
 have h2:=rS hx h1;have:=hx.n'
 have e:r2.1=x.1 - 1:=q2.1
 rw [show IntKind.wrap .i64 (IntKind.wrap .i64 ((r2.1:Int)+2)+1)=(r2.1:Int)+3 by simp only [wI];omega]
 omega
theorem zT (h1:decide ((x.1:Int) - 1≥0)=true):r2.2.1*v<=vF B9 (λt=>r2.2.2.1 (r2.1+t)) 3:=by
 obtain ⟨e1,e2,e3,e4⟩:r2.1=x.1 - 1/\r2.2.1=t3 x.2.1 (x.1 - 1) / v/\r2.2.2.1=x.2.1/\r2.2.2.2=x.2.2:=q2
 rw [e1,e2,e3,Ar]
 exact Nat.div_mul_le_self _ _
theorem zS (h1:decide ((x.1:Int) - 1≥0)=true):aR wd du (φRd n) (rRd n) [.gsub 1000000 1 n r2.1 (Int.toNat (IntKind.wrap .i64 (IntKind.wrap .i64 ((r2.1:Int)+2)+1)) - r2.1),ao B9 v,.int .u64 (r2.2.1:Int)] [.grw 0 1 n λj=>[.int .u32 (r2.2.2.1 j:Int)]]:=by
 have hl:=zT hx q2 h1
 have hq:=xx hx h1
 rw [vR hx q2 h1]
 obtain ⟨e1,e2,e3,e4⟩:r2.1=x.1 - 1/\r2.2.1=t3 x.2.1 (x.1 - 1) / v/\r2.2.2.1=x.2.1/\r2.2.2.2=x.2.2:=q2
 exact oV (by have:=rS hx h1;omega) (by have:=hx.n';omega) (by omega) (by rw [e3];exact hx.f') (by rw [hx.v'];decide) hl
theorem GJ (h1:decide ((x.1:Int) - 1≥0)=true):IntKind.wrap .i64 ((r2.1:Int) - 1)=((x.1 - 1:Nat):Int) - 1:=by
 have e:r2.1=x.1 - 1:=q2.1
 have h2:=rS hx h1;have:=hx.n'
 rw [e,wrap_i64 (by omega) (by omega)]
theorem GK (h1:decide ((x.1:Int) - 1≥0)=true):IntKind.wrap .u32 (r2.2.1:Int)=(r2.2.1:Int):=by
 have e:r2.2.1=t3 x.2.1 (x.1 - 1) / v:=q2.2.1
 have hq:=xx hx h1
 exact w32 (x:=r2.2.1) (by omega)
theorem do_1 (h1:decide ((x.1:Int) - 1≥0)=true) {r3:Nat->Nat} (q3:rRd n [.gsub 1000000 1 n r2.1 (Int.toNat (IntKind.wrap .i64 (IntKind.wrap .i64 ((r2.1:Int)+2)+1)) - r2.1),ao B9 v,.int .u64 (r2.2.1:Int)] [.grw 0 1 n λj=>[.int .u32 (r2.2.2.1 j:Int)]] r3):DoI v n m U (x.1 - 1,r3,bc r2.2.2.2 (0+r2.1) r2.2.1):=by
 have hl:=zT hx q2 h1
 have hq:=xx hx h1
 have h0:=fW h1
 have hk:=hx.k'
 have q4:=q3 r2.1 3 v r2.2.1 r2.2.2.1 (by rw [vR hx q2 h1]) rfl hl
 obtain ⟨e1,e2,e3,e4⟩:r2.1=x.1 - 1/\r2.2.1=t3 x.2.1 (x.1 - 1) / v/\r2.2.2.1=x.2.1/\r2.2.2.2=x.2.2:=q2
 rw [e1,e2,e3] at q4
 rw [e1,e2,e4,Nat.zero_add]
 obtain ⟨q5,q6,q7⟩:=q4
 have R1:=CJ hx h1 (f:=x.2.1) λ_ _=>rfl
 have R2:=CJ hx h1 (f:=r3) λj hj=>q6 j (.inr (by omega))
 rw [q7,cu (g:=r3) (h:=x.2.1) λi hi=>q6 i (.inl hi),Ar] at R2
 rw [Ar] at R1
 have low:vF B9 x.2.1 (x.1 - 1) < B9 ^ (x.1 - 1):=j0 (by decide) λi hi=>hx.f' i (by have:=hx.n';omega)
 have hm:t3 x.2.1 (x.1 - 1) - t3 x.2.1 (x.1 - 1) / v*v < v:=by
  have a1:=Nat.mod_lt (t3 x.2.1 (x.1 - 1)) (zQ hx)
  have a2:=Nat.div_add_mod' (t3 x.2.1 (x.1 - 1)) v
  omega
 refine ⟨hx.v',hx.h',by show x.1 - 1<=m;omega,hx.n',q5,λj hj h2=>?_,?_,?_⟩
 ·have hj:x.1 - 1<=j:=hj
  show bc x.2.2 (x.1 - 1) _ j < _
  by_cases e:j=x.1 - 1
  ·rw [e,bC];exact hq
  ·rw [aW _ _ e];exact hx.g' j (by omega) h2
 ·show vF B9 r3 n < v*B9 ^ (x.1 - 1)
  rw [R2]
  have a1:B9 ^ (x.1 - 1)*(t3 x.2.1 (x.1 - 1) - t3 x.2.1 (x.1 - 1) / v*v+1)<=B9 ^ (x.1 - 1)*v:=Nat.mul_le_mul_left _ hm
  rw [Nat.mul_add,Nat.mul_one,Nat.mul_comm (B9 ^ (x.1 - 1)) v] at a1
  omega
 ·show U=vF B9 r3 n+v*(B9 ^ (x.1 - 1)*vF B9 (λt=>bc x.2.2 (x.1 - 1) (t3 x.2.1 (x.1 - 1) / v) (x.1 - 1+t)) (m - (x.1 - 1)))
  have e:=hx.e'
  rw [show m - (x.1 - 1)=m - x.1+1 by omega,mh]
  show _=_+v*(_*(bc x.2.2 (x.1 - 1) (t3 x.2.1 (x.1 - 1) / v) (x.1 - 1)+B9*vF B9 (λj=>bc x.2.2 (x.1 - 1) (t3 x.2.1 (x.1 - 1) / v) (x.1 - 1+(j+1))) _))
  rw [bC,cu (g:=λj=>bc x.2.2 (x.1 - 1) (t3 x.2.1 (x.1 - 1) / v) (x.1 - 1+(j+1))) (h:=λt=>x.2.2 (x.1+t)) λi _=>by rw [aW _ _ (by omega),show x.1 - 1+(i+1)=x.1+i by omega]]
  rw [e,R1,R2,Nat.mul_add (B9 ^ (x.1 - 1)),Nat.mul_add v,<-Nat.mul_assoc (B9 ^ (x.1 - 1)) B9,<-Nat.pow_succ,show (x.1 - 1).succ=x.1 by omega,Nat.mul_sub]
  have a2:B9 ^ (x.1 - 1)*(t3 x.2.1 (x.1 - 1) / v*v)=v*(B9 ^ (x.1 - 1)*(t3 x.2.1 (x.1 - 1) / v)):=by
   rw [Nat.mul_comm (t3 x.2.1 (x.1 - 1) / v) v,<-Nat.mul_assoc,Nat.mul_comm _ v,Nat.mul_assoc]
  have a3:B9 ^ (x.1 - 1)*(t3 x.2.1 (x.1 - 1) / v*v)<=B9 ^ (x.1 - 1)*t3 x.2.1 (x.1 - 1):=Nat.mul_le_mul_left _ (Nat.div_mul_le_self _ _)
  omega
end
end
theorem sP (s v n m U:Nat) (T:List Ent):∃ (u:St->Bool) (z:St->R6) (g2:Orc),(∀x,DoI v n m U x->bq u z (Bs s v n m x) λx=>DoI v n m U x/\x.1=0)/\(∀L:List (List Nat×Orc),aE (VDv.run (bN wd du (φRd n) (rRd n)::T) 2 [] L [] cM) cM [1,1,1,1,1,1,1,1,0,1,0,0,1,0,0,1,1,0,0] g2)/\∀g:Orc,aE (VDv.run (bN wd du (φRd n) (rRd n)::T) 2 [] [([1,1,1,1,1,1,1,1,0,1,0],g),([1,1,1,1,1,1,1,1,0,1,0,0,1,0,0,1,1,0,0],g2)] [] cM) cM [1,1,1,1,1,1,1,1,0,1,0] (mkO u z (Bu s n m)):=by
 obtain ⟨u2,z2,hin,l2⟩:=uH s v n m (bN wd du (φRd n) (rRd n)::T)
 obtain ⟨u,z,hu,l1⟩:∃ (u:St->Bool) (z:St->R6),(∀x,DoI v n m U x->bq u z (Bs s v n m x) λx=>DoI v n m U x/\x.1=0)/\∀g:Orc,aE (VDv.run (bN wd du (φRd n) (rRd n)::T) 2 [] [([1,1,1,1,1,1,1,1,0,1,0],g),([1,1,1,1,1,1,1,1,0,1,0,0,1,0,0,1,1,0,0],mkO u2 z2 (diO s v n m))] [] cM) cM [1,1,1,1,1,1,1,1,0,1,0] (mkO u z (Bu s n m)):=
  aQ (Lf:=λg=>[([1,1,1,1,1,1,1,1,0,1,0],g),([1,1,1,1,1,1,1,1,0,1,0,0,1,0,0,1,1,0,0],mkO u2 z2 (diO s v n m))]) (Bs s v n m) (DoI v n m U) (λx=>x.1) (Bu s n m) (λx=>DoI v n m U x/\x.1=0) (by kernel_rfl)
   (λx hx=>.b (decide ((↑x.1:Int) - 1≥0)) (λh1=>
   .n (c:=within (IntKind.wrap IntKind.i64 ((↑x.1:Int) - 1+2)) n&&Nat.beq n n) (CB hx h1) (
   .n (c:=Nat.blt (Int.toNat (IntKind.wrap IntKind.i64 ((↑x.1:Int) - 1+2))) n&&Nat.beq n n) (CH hx h1) (
   .n (c:=within (IntKind.wrap IntKind.i64 (IntKind.wrap IntKind.i64 ((↑x.1:Int) - 1+2) - 1)) n&&Nat.beq n n) (CC hx h1) (
   .n (c:=Nat.blt (Int.toNat (IntKind.wrap IntKind.i64 (IntKind.wrap IntKind.i64 ((↑x.1:Int) - 1+2) - 1))) n&&Nat.beq n n) (CI hx h1) (
   .n (c:=within (IntKind.wrap IntKind.i64 (2 - 1)) (dl B9 v)) (by rw [hx.v'];rfl) (
   .n (c:=IntKind.wrap IntKind.u64 (↑(dg B9 v (Int.toNat (IntKind.wrap IntKind.i64 (2 - 1)))):Int) !=0) (DY hx) (
   .n (c:=within (IntKind.wrap IntKind.i64 (2 - 1)) (dl B9 v)) (by rw [hx.v'];rfl) (
   .n (c:=IntKind.wrap IntKind.u64 (↑(dg B9 v (Int.toNat (IntKind.wrap IntKind.i64 (2 - 1)))):Int) !=0) (DY hx) (
   .lp (s:={env:=[(6,.sl .fit 1 1 (al [.int .u32 0] [(0,.int .u32 (↑s:Int))])),(8,ao B9 v),(9,.int .i64 2),(10,AV.gsl 51 1 n),(11,.msl 59 1 0 m),(12,.int .i64 ((↑x.1:Int) - 1)),(14,.int .u64 (IntKind.wrap IntKind.u64 (Int.tdiv (IntKind.wrap IntKind.u64 (IntKind.wrap IntKind.u64 (IntKind.wrap IntKind.u64 (↑(x.2.1 (Int.toNat (IntKind.wrap IntKind.i64 ((↑x.1:Int) - 1+2)))):Int)*1000000000)+IntKind.wrap IntKind.u64 (↑(x.2.1 (Int.toNat (IntKind.wrap IntKind.i64 (IntKind.wrap IntKind.i64 ((↑x.1:Int) - 1+2) - 1)))):Int))) (IntKind.wrap IntKind.u64 (↑(dg B9 v (Int.toNat (IntKind.wrap IntKind.i64 (2 - 1)))):Int))))),(15,.int .u64 (Int.tmod (IntKind.wrap IntKind.u64 (IntKind.wrap IntKind.u64 (IntKind.wrap IntKind.u64 (↑(x.2.1 (Int.toNat (IntKind.wrap IntKind.i64 ((↑x.1:Int) - 1+2)))):Int)*1000000000)+IntKind.wrap IntKind.u64 (↑(x.2.1 (Int.toNat (IntKind.wrap IntKind.i64 (IntKind.wrap IntKind.i64 ((↑x.1:Int) - 1+2) - 1)))):Int))) (IntKind.wrap IntKind.u64 (↑(dg B9 v (Int.toNat (IntKind.wrap IntKind.i64 (2 - 1)))):Int))))],objs:=[(51,AO.grw 0 1 n λj=>[.int .u32 (↑(x.2.1 j):Int)]),(59,.arr 1 m λj=>[.int .u32 (↑(x.2.2 j):Int)])]}) (Q:=DiP v (x.1 - 1,t2 x.2.1 (x.1 - 1) / dg B9 v 1,t2 x.2.1 (x.1 - 1) % dg B9 v 1,x.2.1,x.2.2)) (by rw [zR hx h1,GH hx h1,GG hx,GI hx h1];exact hin (x.1 - 1,t2 x.2.1 (x.1 - 1) / dg B9 v 1,t2 x.2.1 (x.1 - 1) % dg B9 v 1,x.2.1,x.2.2) (CF hx h1)) λr2 q2=>
   .n (c:=decide (0<=(↑r2.1:Int))&&(decide ((↑r2.1:Int)<=IntKind.wrap IntKind.i64 (IntKind.wrap IntKind.i64 ((↑r2.1:Int)+2)+1))&&decide (IntKind.wrap IntKind.i64 (IntKind.wrap IntKind.i64 ((↑r2.1:Int)+2)+1)<=(↑n:Int)))) (by rw [q2.1];exact CE hx h1) (
   .call (zS hx q2 h1) λr3 q3=>
   .n (c:=within (↑r2.1:Int) m) (by rw [q2.1];exact CA hx h1) (
   .n (c:=Nat.blt (0+r2.1) m) (by rw [q2.1];exact CG hx h1) (
   .go {env:=[(6,.sl .fit 1 1 (al [.int .u32 0] [(0,.int .u32 (↑s:Int))])),(8,ao B9 v),(9,.int .i64 2),(10,AV.gsl 51 1 n),(11,.msl 59 1 0 m),(12,.int .i64 (IntKind.wrap IntKind.i64 ((↑r2.1:Int) - 1)))],objs:=[(51,AO.grw 0 1 n λj=>[.int .u32 (↑(r3 j):Int)]),(59,.arr 1 m λj=>bif Nat.beq j (0+r2.1) then [.int .u32 (IntKind.wrap IntKind.u32 (↑r2.2.1:Int))] else [.int .u32 (↑(r2.2.2.2 j):Int)])]} (x.1 - 1,r3,bc r2.2.2.2 (0+r2.1) r2.2.1) (do_1 hx q2 h1 q3) (by have:=fW h1;show x.1 - 1 < x.1;omega) (wK (GJ hx q2 h1) rfl (ck _ _ _ _ (GK hx q2 h1))))))))))))))) λh1=>
  .fi x ⟨hx,by have:=of_decide_eq_false h1;omega⟩)
   (λv L k kn=>by kernel_rfl)
 exact ⟨u,z,_,hu,l2,l1⟩
end Go.WE

namespace Go.WE
open Go Go.Ab Go.Proofs
set_option linter.unusedSectionVars false
def sc (b:Nat):Nat:=1000000000 / (dg B9 b 1+1)
theorem yK (b:Nat):0 < sc b:=by
 have:dg B9 b 1 < 1000000000:=aY (by decide)
 exact (Nat.le_div_iff_mul_le (by omega)).2 (by omega)
theorem vP {b:Nat} (h:dl B9 b=2):1<=dg B9 b 1:=by
 have:=(nP b9 b).top (by omega)
 rw [h] at this
 have:dg B9 b 1≠0:=this
 omega
theorem sB {b:Nat} (h:dl B9 b=2):sc b < 1000000000:=by
 have:=vP h
 refine (Nat.div_lt_iff_lt_mul (by omega)).2 ?_
 omega
theorem xv {b:Nat} (h:dl B9 b=2):IntKind.wrap .i64 ((dl B9 b:Int) - 1)=((1:Nat):Int):=by rw [h];rfl
theorem Cr {b:Nat} (k:Nat):(IntKind.wrap .u32 (((dg B9 b k:Nat):Int)+1) !=0)=true:=by
 have:dg B9 b k < 1000000000:=aY (by decide)
 rw [show IntKind.wrap .u32 (((dg B9 b k:Nat):Int)+1)=((dg B9 b k+1:Nat):Int) by simp only [wU];omega]
 exact AD (by omega)
theorem mT {b:Nat} (h:dl B9 b=2):IntKind.wrap .u32 (Int.tdiv 1000000000 (IntKind.wrap .u32 ((dg B9 b (Int.toNat (IntKind.wrap .i64 ((dl B9 b:Int) - 1))):Int)+1)))=((sc b:Nat):Int):=by
 have h1:dg B9 b 1 < 1000000000:=aY (by decide)
 have h2:=sB h
 rw [xv h]
 show IntKind.wrap .u32 (Int.tdiv 1000000000 (IntKind.wrap .u32 ((dg B9 b 1:Int)+1)))=_
 rw [show IntKind.wrap .u32 (((dg B9 b 1:Nat):Int)+1)=((dg B9 b 1+1:Nat):Int) by simp only [wU];omega,show Int.tdiv 1000000000 ((dg B9 b 1+1:Nat):Int)=((sc b:Nat):Int) from rfl]
 exact w32 (by omega)
def rSc (s:Nat) (l:List AV) (_:List AO) (x:Nat):Prop:=∀v,l=[ao B9 v,SC s]->x=v*s
theorem tJ {s:Nat} (h0:0 < s) (h:s < 1000000000):dl B9 s=1:=by
 have h1:=eh (b:=B9) (v:=s) (n:=1) b9 (by rw [Nat.pow_one];exact h)
 have h2:dl B9 s≠0:=λe=>by have:=(fw b9).1 e;omega
 omega
theorem sh {s:Nat} (h0:0 < s) (h:s < 1000000000):gV (SC s) (ao B9 s):=by
 refine mi b9 (n:=1) (λ_=>s) ⟨λ_ _=>h,λ_=>by show s≠0;omega⟩ (λj hj=>?_) (by show 0+s*B9 ^ 0=s;rw [Nat.pow_zero];omega)
 obtain rfl:j=0:=by omega
 rfl
theorem uE {v s:Nat} (h1:dl B9 v<=500) (h0:0 < s) (h:s < 1000000000):aR wd cL φN9 (rSc s) [ao B9 v,SC s] []:=by
 obtain ⟨x,hx,hc⟩:=gC (v:=v) (w:=s) h1 (by rw [tJ h0 h];decide)
 refine ⟨x,λv' e=>?_,Ct.args hc rfl rfl λi u u' hu hu' c w hr=>?_⟩
 ·injection e with e _
  rw [<-bJ b9 e];exact hx v s rfl
 ·match i with
  | 0=>cases hu;cases hu';exact hr
  | 1=>cases hu;cases hu';exact (sh h0 h).2 _ _ hr
  | i+2=>cases hu
theorem DU {a b:Nat} (h:dl B9 b=2) (h1:dl B9 a<=500):aR wd cL φN9 (rSc (sc b)) [ao B9 a,.sl .fit 1 1 (al [.int .u32 0] [(0,.int .u32 (IntKind.wrap .u32 (Int.tdiv 1000000000 (IntKind.wrap .u32 ((dg B9 b (Int.toNat (IntKind.wrap .i64 ((dl B9 b:Int) - 1))):Int)+1)))))])] []:=by
 rw [mT h];exact uE h1 (yK _) (sB h)
theorem Cv {a b:Nat} {c:Int} (q:rB B9 (λv w x=>x=kd v w) [ao B9 a,ao B9 b] [] c) (h:decide (c < 0)=true):((0,a):Nat×Nat)=(a / b,a % b):=by
 have e:c=kd a b:=q a b rfl
 have h:=of_decide_eq_true h
 have:a < b:=by
  unfold kd at e
  split at e
  ·assumption
  ·split at e <;> omega
 rw [Nat.div_eq_of_lt this,Nat.mod_eq_of_lt this]
theorem tH {a b:Nat} {c:Int} (q:rB B9 (λv w x=>x=kd v w) [ao B9 a,ao B9 b] [] c) (h:decide (c < 0)=false):b<=a:=by
 have e:c=kd a b:=q a b rfl
 have h:=of_decide_eq_false h
 rcases Nat.lt_or_ge a b with h1 | h1
 ·rw [jz h1] at e;omega
 ·exact h1
theorem DV {n:Nat} (h:(((n:Nat):Int)==1)=true):n=1:=by have:=eq_of_beq h;omega
theorem iP {n:Nat} (h0:1<=n/\n<=2) (h:(((n:Nat):Int)==1)=false):n=2:=by
 have:¬ ((n:Int)=1):=by simpa using h
 omega
theorem DW {b:Nat} (h:dl B9 b=1):dg B9 b 0=b/\0 < b:=by
 have e:=en b9 b
 rw [h] at e
 have e2:vF B9 (dg B9 b) 1=0+dg B9 b 0*B9 ^ 0:=rfl
 rw [e2,Nat.pow_zero] at e
 refine ⟨by omega,?_⟩
 have:b≠0:=λh0=>by rw [h0,lH] at h;cases h
 omega
theorem zO {b:Nat} (h:dl B9 b=2):b*sc b < B9 ^ 2:=by
 have h1:=vY h
 have h2:dg B9 b 0 < 1000000000:=aY (by decide)
 have h3:sc b*(dg B9 b 1+1)<=1000000000:=Nat.div_mul_le_self _ _
 have h4:=yK b
 have h5:(b+1)*sc b<=(dg B9 b 1+1)*1000000000*sc b:=Nat.mul_le_mul_right _ (by omega)
 have h6:(dg B9 b 1+1)*1000000000*sc b=1000000000*(sc b*(dg B9 b 1+1)):=by
  rw [Nat.mul_comm (dg B9 b 1+1),Nat.mul_assoc,Nat.mul_comm (sc b)]
 have h7:1000000000*(sc b*(dg B9 b 1+1))<=1000000000*1000000000:=Nat.mul_le_mul_left _ h3
 rw [Nat.add_mul,Nat.one_mul] at h5
 have:B9 ^ 2=1000000000*1000000000:=rfl
 omega
theorem x8 {b:Nat} (h:dl B9 b=2):dl B9 (b*sc b)=2:=by
 have h1:=eh b9 (zO h)
 have h2:dl B9 b<=dl B9 (b*sc b):=eX b9 (Nat.le_mul_of_pos_right _ (yK b))
 omega
theorem zP {a b:Nat} (h0:1<=dl B9 b/\dl B9 b<=2) (h:dl B9 b=2) (hab:b<=a):2<=dl B9 (a*sc b)/\b*sc b<=a*sc b:=by
 have h1:b*sc b<=a*sc b:=Nat.mul_le_mul_right _ hab
 have h2:=eX b9 h1
 rw [x8 h] at h2
 exact ⟨h2,h1⟩
theorem Cy {a s N:Nat} (h1:dl B9 a<=N) (hs:s < 1000000000):dl B9 (a*s)<=N+1:=by
 refine eh b9 ?_
 have h2:=lM (v:=a) b9
 have h3:a*s < B9 ^ (dl B9 a+1):=by
  rw [Nat.pow_succ]
  exact Nat.mul_lt_mul_of_lt_of_le h2 (Nat.le_of_lt hs) (by decide)
 exact Nat.lt_of_lt_of_le h3 (Nat.pow_le_pow_right (by decide) (by omega))
theorem oi {a s:Nat} (h1:dl B9 a<=400) (hs:s < 1000000000):dl B9 (a*s)<=401:=Cy h1 hs
theorem Cw {u:Nat} (h:2<=u) (hu:u<=401):IntKind.wrap .i64 ((u:Int) - ((2:Nat):Int))=((u - 1:Nat):Int) - 1:=by simp only [wI];omega
theorem zL {u:Nat} (h:2<=u) (hu:u<=401):IntKind.wrap .i64 (IntKind.wrap .i64 ((u:Int) - ((2:Nat):Int))+1)=((u - 1:Nat):Int):=by simp only [wI];omega
theorem Cu {u:Nat} (h:2<=u) (hu:u<=401):(decide (IntKind.wrap .i64 (IntKind.wrap .i64 ((u:Int) - ((2:Nat):Int))+1)=IntKind.wrap .i64 (IntKind.wrap .i64 ((u:Int) - ((2:Nat):Int))+1))&&(decide (0<=IntKind.wrap .i64 (IntKind.wrap .i64 ((u:Int) - ((2:Nat):Int))+1))&&(roomy 4 (Int.toNat (IntKind.wrap .i64 (IntKind.wrap .i64 ((u:Int) - ((2:Nat):Int))+1)))&&decide (IntKind.wrap .i64 (IntKind.wrap .i64 ((u:Int) - ((2:Nat):Int))+1)<=140737488355328))))=true:=by
 rw [zL h hu]
 exact mB (by omega)
theorem zI (U:Nat):av (dl B9 U) 1 (λj=>[AV.int .u32 (dg B9 U j:Int)]) (al [.int .u32 0] [(0,.int .u32 0)])=λj=>[.int .u32 (dg B9 U j:Int)]:=by
 rw [fO (dl B9 U) (dg B9 U) (y:=0) (c:=0) rfl]
 funext j
 by_cases e:j=dl B9 U
 ·rw [e,bC,nd b9 (Nat.le_refl _)]
 ·rw [aW _ _ e]
theorem GF {a b:Nat} (h0:1<=dl B9 b/\dl B9 b<=2) (h:dl B9 b=2) (hab:b<=a) (hu:dl B9 (a*sc b)<=401):DoI (b*sc b) (dl B9 (a*sc b)+1) (dl B9 (a*sc b) - 1) (a*sc b) (dl B9 (a*sc b) - 1,dg B9 (a*sc b),λ_=>0):=by
 have h1:=zP h0 h hab
 refine ⟨x8 h,?_,Nat.le_refl _,by omega,λj _=>aY (by decide),λj h2 h3=>by have h2:dl B9 (a*sc b) - 1<=j:=h2;omega,?_,?_⟩
 ·have e:=vY h
  have h2:=w8 (B:=1000000000) (b1:=dg B9 b 1) (b0:=dg B9 b 0) (s:=sc b) (by decide) (vP h) (aY (by decide)) rfl
  rw [<-e,Nat.mul_comm (sc b) b] at h2
  have h3:dg B9 (b*sc b) 1=b*sc b / 1000000000:=by
   unfold dg
   rw [Nat.pow_one]
   refine Nat.mod_eq_of_lt ((Nat.div_lt_iff_lt_mul (by decide)).2 ?_)
   have:=zO h
   rw [Nat.pow_succ,Nat.pow_one] at this;exact this
  rw [h3];exact h2
 ·show vF B9 (dg B9 (a*sc b)) (dl B9 (a*sc b)+1) < b*sc b*B9 ^ (dl B9 (a*sc b) - 1)
  rw [fC b9 (Nat.le_succ _)]
  have h2:=lM (v:=a*sc b) b9
  have h3:B9<=b*sc b:=by
   have:=Dc (v:=b*sc b) b9 (λe=>by have:=x8 h;rw [e,lH] at this;cases this)
   rw [x8 h,show 2 - 1=1 from rfl,Nat.pow_one] at this;exact this
  refine Nat.lt_of_lt_of_le h2 ?_
  rw [show B9 ^ dl B9 (a*sc b)=B9*B9 ^ (dl B9 (a*sc b) - 1) by rw [<-Nat.pow_succ'];congr 1;omega]
  exact Nat.mul_le_mul_right _ h3
 ·show a*sc b=vF B9 (dg B9 (a*sc b)) (dl B9 (a*sc b)+1)+b*sc b*(_*vF B9 (λ_=>0) _)
  rw [fC b9 (Nat.le_succ _),fH λ_ _=>rfl,Nat.mul_zero,Nat.mul_zero,Nat.add_zero]
theorem GD {v n m U:Nat} {x:R6} (h:DoI v n m U x/\x.1=0):dl B9 (vF B9 x.2.1 n)<=1000:=by
 have l:=h.1.l'
 rw [h.2,Nat.pow_zero,Nat.mul_one] at l
 have:=eX b9 (Nat.le_of_lt l)
 rw [h.1.v'] at this;omega
theorem zN {a b s n m r9 r11:Nat} {r10:Nat×Nat} {x:R6} (h:DoI (b*s) n m (a*s) x/\x.1=0) (h9:r9=vF B9 x.2.1 n) (h10:r10=(r9 / s,r9 % s)) (h11:r11=vF B9 (λj=>x.2.2 (0+j)) m) (hs:0 < s):(r11,r10.1)=(a / b,a % b):=by
 have l:=h.1.l'
 have e:=h.1.e'
 rw [h.2,Nat.pow_zero,Nat.mul_one,<-h9] at l
 rw [h.2,Nat.pow_zero,Nat.one_mul,Nat.sub_zero,<-h9,<-h11] at e
 have hp:0 < b*s:=by omega
 have e1:a*s / (b*s)=r11:=by rw [e,Nat.add_comm,Nat.mul_add_div hp,Nat.div_eq_of_lt l,Nat.add_zero]
 have e2:a*s % (b*s)=r9:=by rw [e,Nat.add_comm,Nat.mul_add_mod,Nat.mod_eq_of_lt l]
 rw [Nat.mul_div_mul_right _ _ hs] at e1
 rw [Nat.mul_mod_mul_right] at e2
 rw [h10,<-e1,<-e2,Nat.mul_div_cancel _ hs]
theorem my {a b:Nat} (h1:dl B9 a<=400) (h0:1<=dl B9 b/\dl B9 b<=2):aR wd cM φ2 (rB B9 λa b x=>x=(a / b,a % b)) [ao B9 a,ao B9 b] []:=by
 obtain ⟨u,z,g2,hu,l2,l1⟩:=sP (sc b) (b*sc b) (dl B9 (a*sc b)+1) (dl B9 (a*sc b) - 1) (a*sc b) [Cl,vN,bN wd cL φN9 (rSc (sc b)),iO,vO]
 exact iU (V:=VDv) (T:=bN wd du (φRd (dl B9 (a*sc b)+1)) (rRd (dl B9 (a*sc b)+1))::[Cl,vN,bN wd cL φN9 (rSc (sc b)),iO,vO]) (d:=2) 0 (aK (l1 _) (aK (l2 _) bK)) bI (.call (mz (by omega) (by omega)) λr1 q1=>
  .b (decide (r1 < 0)) (λh2_=>
   .t (r:=(.tup [.sl .fit 0 0 λx=>[],ao B9 a],[])) (0,a) (rB.mk b9 (Cv q1 h2_)) (Tr.tup (.cons fI (.cons (.same rfl) .nil)))) λh2_=>
  .b ((↑(dl B9 b):Int)==1) (λh3=>
   .n (c:=within 0 (dl B9 b)) (ag (n:=dl B9 b) (i:=0) (by omega)) (
   .call (lT (v:=a) (d:=dg B9 b 0) (by omega) (by have:=DW (DV h3);omega) (Nat.le_of_lt (show dg B9 b 0 < 1000000000 from aY (by decide)))) λr4 q4=>
   .r r4 (rB.mk b9 (by rw [q4 a (dg B9 b 0) rfl,(DW (DV h3)).1])))) λh3=>
  .n (c:=within (IntKind.wrap IntKind.i64 ((↑(dl B9 b):Int) - 1)) (dl B9 b)) (by rw [xv (iP h0 h3)];exact ag (by have:=iP h0 h3;omega)) (
  .n (c:=IntKind.wrap IntKind.u32 ((↑(dg B9 b (Int.toNat (IntKind.wrap IntKind.i64 ((↑(dl B9 b):Int) - 1)))):Int)+1) !=0) (by rw [xv (iP h0 h3)];exact Cr _) (
  .call (DU (a:=a) (iP h0 h3) (by omega)) λr5 q5=>
  .call (DU (a:=b) (iP h0 h3) (by omega)) λr6 q6=>
  .call (ri (v:=r5) (by rw [q5 a (by rw [mT (iP h0 h3)])];have:=(zP h0 (iP h0 h3) (tH q1 h2_)).1;omega) (by rw [q5 a (by rw [mT (iP h0 h3)])];exact Nat.le_trans (oi h1 (sB (iP h0 h3))) (by decide))) λr7 q7=>
  .n (c:=roomy 4 (dl B9 r7+1)&&Nat.beq (dl B9 r7) (dl B9 r7)) (cb (by rw [q7 r5 rfl,q5 a (by rw [mT (iP h0 h3)])];have:=oi h1 (sB (iP h0 h3));omega)) (
  .n (c:=decide (IntKind.wrap IntKind.i64 (IntKind.wrap IntKind.i64 ((↑(dl B9 r5):Int) - (↑(dl B9 r6):Int))+1)=IntKind.wrap IntKind.i64 (IntKind.wrap IntKind.i64 ((↑(dl B9 r5):Int) - (↑(dl B9 r6):Int))+1))&&(decide (0<=IntKind.wrap IntKind.i64 (IntKind.wrap IntKind.i64 ((↑(dl B9 r5):Int) - (↑(dl B9 r6):Int))+1))&&(roomy 4 (Int.toNat (IntKind.wrap IntKind.i64 (IntKind.wrap IntKind.i64 ((↑(dl B9 r5):Int) - (↑(dl B9 r6):Int))+1)))&&decide (IntKind.wrap IntKind.i64 (IntKind.wrap IntKind.i64 ((↑(dl B9 r5):Int) - (↑(dl B9 r6):Int))+1)<=140737488355328)))) (by rw [q5 a (by rw [mT (iP h0 h3)]),q6 b (by rw [mT (iP h0 h3)]),x8 (iP h0 h3)];exact Cu (zP h0 (iP h0 h3) (tH q1 h2_)).1 (oi h1 (sB (iP h0 h3)))) (
  .lp (s:={env:=[(6,.sl .fit 1 1 (al [.int .u32 0] [(0,.int .u32 (IntKind.wrap IntKind.u32 (Int.tdiv 1000000000 (IntKind.wrap IntKind.u32 ((↑(dg B9 b (Int.toNat (IntKind.wrap IntKind.i64 ((↑(dl B9 b):Int) - 1)))):Int)+1)))))])),(8,ao B9 r6),(9,.int .i64 (↑(dl B9 r6):Int)),(10,AV.gsl 51 1 (dl B9 r7+1)),(11,.msl 59 1 0 (Int.toNat (IntKind.wrap IntKind.i64 (IntKind.wrap IntKind.i64 ((↑(dl B9 r5):Int) - (↑(dl B9 r6):Int))+1)))),(12,.int .i64 (IntKind.wrap IntKind.i64 ((↑(dl B9 r5):Int) - (↑(dl B9 r6):Int))))],objs:=[(51,AO.grw 0 1 (dl B9 r7+1) (av (dl B9 r7) 1 (λj=>[.int .u32 (↑(dg B9 r7 j):Int)]) (al [.int .u32 0] [(0,.int .u32 0)]))),(59,.arr 1 (Int.toNat (IntKind.wrap IntKind.i64 (IntKind.wrap IntKind.i64 ((↑(dl B9 r5):Int) - (↑(dl B9 r6):Int))+1))) λx=>[.int .u32 0])]}) (Q:=λx=>DoI (b*sc b) (dl B9 (a*sc b)+1) (dl B9 (a*sc b) - 1) (a*sc b) x/\x.1=0) (by rw [q7 r5 rfl,q5 a (by rw [mT (iP h0 h3)]),q6 b (by rw [mT (iP h0 h3)]),x8 (iP h0 h3),mT (iP h0 h3),zL (zP h0 (iP h0 h3) (tH q1 h2_)).1 (oi h1 (sB (iP h0 h3))),Cw (zP h0 (iP h0 h3) (tH q1 h2_)).1 (oi h1 (sB (iP h0 h3))),zI];exact hu (dl B9 (a*sc b) - 1,dg B9 (a*sc b),λ_=>0) (GF h0 (iP h0 h3) (tH q1 h2_) (oi h1 (sB (iP h0 h3))))) λr8 q8=>
  .n (c:=Nat.beq 1 1&&Nat.beq (dl B9 (a*sc b)+1) (dl B9 (a*sc b)+1)) (by rw [Nat.beq_refl,Nat.beq_refl];rfl) (
  .call (eb (n:=dl B9 (a*sc b)+1) (g:=r8.2.1) ⟨by have:=oi h1 (sB (iP h0 h3));omega,q8.1.f'⟩) λr9 q9=>
  .call (lT (v:=r9) (d:=sc b) (by rw [q9.at rfl];exact GD q8) (yK _) (Nat.le_of_lt (sB (iP h0 h3)))) λr10 q10=>
  .n (c:=Nat.beq 1 1&&Nat.ble (0+(dl B9 (a*sc b) - 1)) (dl B9 (a*sc b) - 1)) (ix _ _) (
  .call (eb (n:=dl B9 (a*sc b) - 1) (g:=λj=>r8.2.2 (0+j)) ⟨by have:=oi h1 (sB (iP h0 h3));omega,λj hj=>by show r8.2.2 (0+j) < _;rw [Nat.zero_add];exact q8.1.g' j (by rw [q8.2];exact Nat.zero_le _) hj⟩) λr11 q11=>
  .r (r11,r10.1) (rB.mk b9 (zN q8 (q9.at rfl) (q10 r9 (sc b) rfl) (q11.at (n:=dl B9 (a*sc b) - 1) (g:=λj=>r8.2.2 (0+j)) rfl) (yK _)))))))))) (by kernel_rfl)
noncomputable abbrev Cj:Ent:=bN wd cM φ2 (rB B9 λa b x=>x=(a / b,a % b))
end Go.WE

namespace Go.WE
open Go Go.Ab Go.Proofs
abbrev Txt:=List UInt8
def φBo (x:Bool):AV×List AO:=(.bool x,[])
def φTx (x:Txt):AV×List AO:=(.str x,[])
def dcs (v:Nat):Nat->List UInt8
 | 0=>[]
 | m+1=>UInt8.ofNat (48+dg 10 v m)::dcs v m
def dl1 (v:Nat):Nat:=dl 10 v+(if v=0 then 1 else 0)
def dec (v:Nat):List UInt8:=dcs v (dl1 v)
theorem cB (v:Nat):∀m,(dcs v m).length=m
 | 0=>rfl
 | m+1=>by rw [dcs,List.length_cons,cB v m]
theorem gZ (v:Nat):∀ (m i:Nat),i < m->(dcs v m).getD i 0=UInt8.ofNat (48+dg 10 v (m - 1 - i))
 | 0,_,h=>absurd h (Nat.not_lt_zero _)
 | m+1,0,_=>rfl
 | m+1,i+1,h=>by
  show (dcs v m).getD i 0=_
  rw [gZ v m i (by omega),show m+1 - 1 - (i+1)=m - 1 - i by omega]
theorem mW (v j:Nat):dg 10 v j < 10:=aY (by decide)
theorem lI (v j:Nat):(UInt8.ofNat (48+dg 10 v j)).toNat=48+dg 10 v j:=UInt8.toNat_ofNat_of_lt' (by have:=mW v j;show 48+dg 10 v j < 256;omega)
theorem tN (v:Nat):∀n,(List.range n).map (λj=>UInt8.ofNat (48+dg 10 v (n - 1 - j)))=dcs v n
 | 0=>rfl
 | n+1=>by
  rw [List.range_succ_eq_map,List.map_cons,List.map_map,dcs,<-tN v n]
  congr 1
  refine List.map_congr_left λj hj=>?_
  show UInt8.ofNat (48+dg 10 v (n+1 - 1 - (j+1)))=_
  rw [show n+1 - 1 - (j+1)=n - 1 - j by omega]
theorem la (v:Nat):0 < dl1 v:=by
 unfold dl1
 by_cases h:v=0
 ·rw [if_pos h];omega
 ·rw [if_neg h]
  have:dl 10 v≠0:=λe=>h ((fw (by decide)).1 e)
  omega
theorem gY (v:Nat):dl 10 v<=dl1 v:=Nat.le_add_right _ _
theorem vS {v n:Nat} (h0:0 < n) (h:dl 10 v<=n):dl1 v<=n:=by
 unfold dl1
 by_cases e:v=0
 ·rw [if_pos e,e,lH];omega
 ·rw [if_neg e];omega
theorem GL {v k:Nat} (h:dl B9 v<=k):dl 10 v<=9*k:=by
 refine eh (by decide) ?_
 rw [Nat.pow_mul]
 exact Nat.lt_of_lt_of_le (lM b9) (Nat.pow_le_pow_right (by decide) h)
theorem dg9 (v i t:Nat) (h:t < 9):dg B9 v i / 10 ^ t % 10=dg 10 v (9*i+t):=xB (b:=10) (k:=9) h
theorem pQ {v:Nat} (h:v≠0):dg 10 v (dl 10 v - 1)≠0:=(nP (b:=10) (by decide) v).top λe=>h ((fw (by decide)).1 e)
theorem gf {v w:Nat} (h:dec v=dec w):v=w:=by
 have h1:dl1 v=dl1 w:=by
  have:=congrArg List.length h
  unfold dec at this
  rw [cB,cB] at this;exact this
 have h2:∀j,j < dl1 v->dg 10 v j=dg 10 w j:=λj hj=>by
  have e:=congrArg (λl=>(l.getD (dl1 v - 1 - j) 0).toNat) h
  unfold dec at e
  rw [gZ _ _ _ (by omega),gZ _ _ _ (by omega),lI,lI,<-h1,show dl1 v - 1 - (dl1 v - 1 - j)=j by omega] at e
  omega
 have h3:=cu (b:=10) h2
 rw [fC (by decide) (gY v),h1,fC (by decide) (gY w)] at h3
 exact h3
def fzM (t:Nat):Vw:=λs f=>
 match s.get t with
 | some (.msl k sz off n)=>
  (match s.obj k with
  | some (.arr sz' m get)=>cond (Nat.beq sz sz'&&Nat.ble (off+n) m) (f (({env:=s.env,objs:=aput s.objs k (.frz sz' m get)}:St).put (some t) (.sl .no sz n λj=>get (off+j)))) none
  | _=>f s)
 | _=>f s
theorem zw (t:Nat):lu (fzM t):=by
 intro s f r h
 unfold fzM at h
 split at h
 ·rename_i k sz off n hv
  split at h
  ·rename_i sz' m get hk
   obtain ⟨hb,h2⟩:=a7 h
   refine ⟨_,h2,λB c a hr hn=>nX (t:=t) hr hn ?_⟩
   have hk':alook s.objs k=some (.arr sz' m get):=hk
   unfold tw
   simp only [hv,Option.bind_some,bn,hk',af,hb,cond_true,Option.map_some]
  ·exact ⟨s,h,λB c a hr hn=>⟨c,rfl,hr,hn⟩⟩
 ·exact ⟨s,h,λB c a hr hn=>⟨c,rfl,hr,hn⟩⟩
end Go.WE

namespace Go.WE
open Go Go.Ab Go.Proofs
set_option linter.unusedSectionVars false
def tbS (v m:Nat):St:={env:=[(0,.str (dcs v m)),(1,.int .u8 48)],objs:=[]}
def tbO (v m:Nat) (k:Ex->St->Res):Res:=k (.exit 0) {env:=[(0,.str (dcs v m))],objs:=[]}
def TbI (v m:Nat):Prop:=v≠0/\dl 10 v<=m/\m<=10000
section
variable {v m:Nat} (hm:TbI v m)
include hm
theorem v7:0 < m:=by
 have:dl 10 v≠0:=λe=>hm.1 ((fw (by decide)).1 e)
 have:=hm.2;omega
theorem Ew:(bif within 0 (List.length (dcs v m)) then true else !bif decide (((List.length (dcs v m):Nat):Int) > 0)==true then true else false)=true:=by
 rw [cB,show within 0 m=true from ag (n:=m) (i:=0) (v7 hm)];rfl
theorem Et:(decide ((0:Int)<=1)&&(decide (1<=((List.length (dcs v m):Nat):Int))&&decide (((List.length (dcs v m):Nat):Int)<=((List.length (dcs v m):Nat):Int))))=true:=by
 have:=v7 hm
 rw [cB];simp;omega
theorem Ev:List.take (Int.toNat ((List.length (dcs v m):Nat):Int) - Int.toNat 1) (List.drop (Int.toNat 1) (dcs v m))=dcs v (m - 1):=by
 have:=v7 hm
 obtain ⟨k,rfl⟩:∃k,m=k+1:=⟨m - 1,by omega⟩
 rw [cB]
 show List.take (k+1 - 1) (dcs v k)=dcs v (k+1 - 1)
 rw [Nat.add_sub_cancel,List.take_of_length_le (by rw [cB];exact Nat.le_refl _)]
theorem Dd:(bif decide (((List.length (dcs v m):Nat):Int) > 0) then ((UInt8.toNat (List.getD (dcs v m) (Int.toNat 0) 0):Nat):Int)==48 else false)=(dg 10 v (m - 1)==0):=by
 have:=v7 hm
 rw [cB,decide_eq_true (show ((m:Nat):Int) > 0 by omega),cond_true,show Int.toNat 0=0 from rfl,gZ _ _ _ this,lI,Nat.sub_zero]
 have:=mW v (m - 1)
 rw [Bool.eq_iff_iff]
 simp;omega
theorem Ey (h:(bif decide (((List.length (dcs v m):Nat):Int) > 0) then ((UInt8.toNat (List.getD (dcs v m) (Int.toNat 0) 0):Nat):Int)==48 else false)=true):TbI v (m - 1):=by
 rw [Dd hm] at h
 have h:=eq_of_beq h
 have h2:=hm.2
 refine ⟨hm.1,?_,by omega⟩
 rcases Nat.lt_or_ge (m - 1) (dl 10 v) with h3 | h3
 ·exact absurd (show dg 10 v (dl 10 v - 1)=0 by rw [show dl 10 v - 1=m - 1 by omega];exact h) (pQ hm.1)
 ·exact h3
theorem Eu (h:(bif decide (((List.length (dcs v m):Nat):Int) > 0) then ((UInt8.toNat (List.getD (dcs v m) (Int.toNat 0) 0):Nat):Int)==48 else false)=false):m=dl 10 v:=by
 rw [Dd hm] at h
 have h2:=hm.2
 have hp:=v7 hm
 rcases Nat.lt_or_ge (dl 10 v) m with h3 | h3
 ·rw [nd (by decide) (show dl 10 v<=m - 1 by omega)] at h;cases h
 ·omega
end
theorem v8 (v:Nat):∃ (u:St->Bool) (z:St->Nat),(∀m,TbI v m->bq u z (tbS v m) λm=>m=dl 10 v)/\∀L:List (List Nat×Orc),aE (V0.run [] 2 [] L [] cZ) cZ [1,0,0] (mkO u z (tbO v)):=
 aQ (Lf:=λL=>L) (tbS v) (TbI v) (λm=>m) (tbO v) (λm=>m=dl 10 v) (by kernel_rfl)
  (λm hm=>.n (c:=bif within 0 (List.length (dcs v m)) then true else !bif decide ((↑(List.length (dcs v m)):Int) > 0)==true then true else false) (Ew hm) (
  .b (bif decide ((↑(List.length (dcs v m)):Int) > 0) then (↑(UInt8.toNat (List.getD (dcs v m) (Int.toNat 0) 0)):Int)==48 else false) (λh1=>
   .n (c:=decide (0<=1)&&(decide (1<=(↑(List.length (dcs v m)):Int))&&decide ((↑(List.length (dcs v m)):Int)<=(↑(List.length (dcs v m)):Int)))) (Et hm) (
   .go {env:=[(0,.str (List.take (Int.toNat (↑(List.length (dcs v m)):Int) - Int.toNat 1) (List.drop (Int.toNat 1) (dcs v m)))),(1,.int .u8 48)],objs:=[]} (m - 1) (Ey hm h1) (by have:=v7 hm;omega) (by rw [Ev hm];rfl))) λh1=>
  .fi m (Eu hm h1)))
  (λv L k kn=>by kernel_rfl)
def rTb (v n:Nat) (c:AV) (l:List AV) (_:List AO) (x:Txt):Prop:=l=[.str (dcs v n),c]->x=dec v
theorem vT {v:Nat} (h:v≠0):dec v=dcs v (dl 10 v):=by unfold dec dl1;rw [if_neg h,Nat.add_zero]
theorem um {v n:Nat} (h:TbI v n):aR wd cZ φTx (rTb v n (.int .u8 48)) [.str (dcs v n),.int .u8 48] []:=by
 obtain ⟨u,z,hu,l1⟩:=v8 v
 exact lb (V:=V0) [] 2 (p:=[1,0,0]) l1 (.lp (hu n h) λx hx=>.r (dcs v x) λ_=>by rw [hx,vT h.1]) (by kernel_rfl)
theorem uk {v n:Nat} (h:TbI v n):aR wd ea φTx (rTb v n (.str [48])) [.str (dcs v n),.str [48]] []:=
 lx (V:=V0) [bN wd cZ φTx (rTb v n (.int .u8 48))] 2 (.b (bif dcs v n==[] then true else [48]==([]:List UInt8)) (λe=>.r (dcs v n) λ_=>by
  have:=v7 h
  obtain ⟨k,rfl⟩:∃k,n=k+1:=⟨n - 1,by omega⟩
  cases e) λ_=>.call (um h) λx q=>.r x λ_=>q rfl) (by kernel_rfl)
def Fil (v n k:Nat) (f:Nat->Nat):Prop:=∀p,n - k<=p->p < n->f p=48+dg 10 v (n - 1 - p)
structure StI (v n:Nat) (x:R3):Prop where
 i':x.1 < dl B9 v
 k':x.2.1<=9
 n':n=9*dl B9 v
 l':dl B9 v<=400
 f':Fil v n (9*x.1+x.2.1) x.2.2
def stR (v n i:Nat) (d k:Int) (r:Nat->List AV):St:={env:=[(3,.msl 13 1 0 n),(4,.int .i64 (i:Int)),(5,.int .u32 d),(14,ao B9 v),(15,.int .i64 (dl B9 v:Int)),(16,.int .i64 (i:Int)),(21,.int .i64 k)],objs:=[(13,.arr 1 n r)]}
theorem yB {v n i:Nat} {d d' k k':Int} {r r':Nat->List AV} (h1:d=d') (h2:k=k') (h3:r=r'):stR v n i d k r=stR v n i d' k' r':=by rw [h1,h2,h3]
def stS (v n:Nat) (x:R3):St:=stR v n x.1 ((dg B9 v x.1 / 10 ^ x.2.1:Nat):Int) x.2.1 λj=>[.int .u8 (x.2.2 j:Int)]
def stO (v n:Nat) (x:R1) (k:Ex->St->Res):Res:=k (.exit 2) {env:=[(3,.msl 13 1 0 n),(14,ao B9 v),(15,.int .i64 (dl B9 v:Int)),(16,.int .i64 (x.1:Int))],objs:=[(13,.arr 1 n λj=>[.int .u8 (x.2 j:Int)])]}
theorem wV {k:Nat} (h:decide ((k:Int) < 9)=true):k < 9:=by have:=of_decide_eq_true h;omega
theorem AY (v i k:Nat):IntKind.wrap .u32 (Int.tdiv ((dg B9 v i / 10 ^ k:Nat):Int) 10)=((dg B9 v i / 10 ^ (k+1):Nat):Int):=by
 have h:dg B9 v i < 1000000000:=aY (by decide)
 rw [Nat.pow_succ,<-Nat.div_div_eq_div_mul]
 exact w32 (x:=dg B9 v i / 10 ^ k / 10) (Nat.lt_of_le_of_lt (Nat.le_trans (Nat.div_le_self _ _) (Nat.div_le_self _ _)) (by omega))
theorem AX (v i k:Nat) (hk:k < 9):IntKind.wrap .u8 (48+IntKind.wrap .u8 (Int.tmod ((dg B9 v i / 10 ^ k:Nat):Int) 10))=((48+dg 10 v (9*i+k):Nat):Int):=by
 rw [show Int.tmod ((dg B9 v i / 10 ^ k:Nat):Int) 10=((dg B9 v i / 10 ^ k % 10:Nat):Int) from rfl,dg9 v i k hk]
 have:=mW v (9*i+k)
 show (48+(((dg 10 v (9*i+k):Nat):Int) % 256)) % 256=_
 omega
section
variable {v n:Nat} {x:R3} (hx:StI v n x)
include hx
theorem wa (h:decide ((x.2.1:Int) < 9)=true):IntKind.wrap .i64 (IntKind.wrap .i64 (IntKind.wrap .i64 ((n:Int) - 1) - IntKind.wrap .i64 (9*(x.1:Int))) - (x.2.1:Int))=((n - 1 - (9*x.1+x.2.1):Nat):Int):=by
 have:=wV h;have:=hx.i';have:=hx.n';have:=hx.l'
 simp only [wI];omega
theorem vr (h:decide ((x.2.1:Int) < 9)=true):n - 1 - (9*x.1+x.2.1) < n:=by
 have:=hx.i';have:=hx.n';omega
theorem A0 (h:decide ((x.2.1:Int) < 9)=true):StI v n (x.1,x.2.1+1,bc x.2.2 (0+(n - 1 - (9*x.1+x.2.1))) (48+dg 10 v (9*x.1+x.2.1))):=by
 have h9:=wV h;have hi:=hx.i';have hn:=hx.n'
 refine ⟨hi,h9,hn,hx.l',λp h1 h2=>?_⟩
 have h1:n - (9*x.1+(x.2.1+1))<=p:=h1
 show bc _ _ _ p=_
 by_cases e:p=0+(n - 1 - (9*x.1+x.2.1))
 ·rw [e,bC,show n - 1 - (0+(n - 1 - (9*x.1+x.2.1)))=9*x.1+x.2.1 by omega]
 ·rw [aW _ _ e];exact hx.f' p (by omega) h2
theorem AZ (h:decide ((x.2.1:Int) < 9)=false):Fil v n (9*(x.1+1)) x.2.2:=by
 have h1:¬ ((x.2.1:Int) < 9):=of_decide_eq_false h
 have h2:=hx.k'
 have:=hx.f'
 rw [show 9*x.1+x.2.1=9*(x.1+1) by omega] at this;exact this
end
theorem A1 (d:Nat):((d / 10 ^ 0:Nat):Int)=(d:Int):=by rw [Nat.pow_zero,Nat.div_one]
theorem A2 (v n:Nat) (T:List Ent):∃ (u:St->Bool) (z:St->R1),(∀x,StI v n x->bq u z (stS v n x) λo=>o.1=x.1/\Fil v n (9*(x.1+1)) o.2)/\∀L:List (List Nat×Orc),aE (V0.run T 2 [] L [([1,1,1,1],fzM 3)] gE) gE [1,1,1,0,1,0,0,1,1,0,0,1,1,0] (mkO u z (stO v n)):=
 eu (Lf:=λL=>L) (stS v n) (StI v n) (λx=>9 - x.2.1) (stO v n) (λx o=>o.1=x.1/\Fil v n (9*(x.1+1)) o.2) (by kernel_rfl) (λa b x h hp=>by
   have e:a.1=b.1:=by
    unfold stS stR at h
    simp only [St.mk.injEq,List.cons.injEq,Prod.mk.injEq,AV.int.injEq,true_and] at h
    have:=h.1.1;omega
   rw [<-e];exact hp)
  (λx hx=>.b (decide ((↑x.2.1:Int) < 9)) (λh1=>
   .n (c:=within (IntKind.wrap IntKind.i64 (IntKind.wrap IntKind.i64 (IntKind.wrap IntKind.i64 ((↑n:Int) - 1) - IntKind.wrap IntKind.i64 (9*(↑x.1:Int))) - (↑x.2.1:Int))) n) (by rw [wa hx h1];exact ag (vr hx h1)) (
   .n (c:=Nat.blt (0+Int.toNat (IntKind.wrap IntKind.i64 (IntKind.wrap IntKind.i64 (IntKind.wrap IntKind.i64 ((↑n:Int) - 1) - IntKind.wrap IntKind.i64 (9*(↑x.1:Int))) - (↑x.2.1:Int)))) n) (by rw [wa hx h1];exact eI (by have:=vr hx h1;show 0+(n - 1 - (9*x.1+x.2.1)) < n;omega)) (
   .nx {env:=[(3,.msl 13 1 0 n),(4,.int .i64 (↑x.1:Int)),(5,.int .u32 (IntKind.wrap IntKind.u32 (Int.tdiv (↑(dg B9 v x.1 / 10 ^ x.2.1):Int) 10))),(14,ao B9 v),(15,.int .i64 (↑(dl B9 v):Int)),(16,.int .i64 (↑x.1:Int)),(21,.int .i64 (IntKind.wrap IntKind.i64 ((↑x.2.1:Int)+1)))],objs:=[(13,.arr 1 n λj=>bif Nat.beq j (0+Int.toNat (IntKind.wrap IntKind.i64 (IntKind.wrap IntKind.i64 (IntKind.wrap IntKind.i64 ((↑n:Int) - 1) - IntKind.wrap IntKind.i64 (9*(↑x.1:Int))) - (↑x.2.1:Int)))) then [.int .u8 (IntKind.wrap IntKind.u8 (48+IntKind.wrap IntKind.u8 (Int.tmod (↑(dg B9 v x.1 / 10 ^ x.2.1):Int) 10)))] else [.int .u8 (↑(x.2.2 j):Int)])]} (x.1,x.2.1+1,bc x.2.2 (0+(n - 1 - (9*x.1+x.2.1))) (48+dg 10 v (9*x.1+x.2.1))) (A0 hx h1) (by have:=wV h1;show 9 - (x.2.1+1) < 9 - x.2.1;omega) (λo h=>h) (by rw [wa hx h1];exact yB (AY _ _ _) (aZ (by have:=wV h1;omega)) (ck _ _ _ _ (AX v _ _ (wV h1))))))) λh1=>
  .fi (x.1,x.2.2) ⟨rfl,AZ hx h1⟩)
  (λv L k kn=>by kernel_rfl)
def soS (v n:Nat) (x:R1):St:={env:=[(3,.msl 13 1 0 n),(14,ao B9 v),(15,.int .i64 (dl B9 v:Int)),(16,.int .i64 (x.1:Int))],objs:=[(13,.arr 1 n λj=>[.int .u8 (x.2 j:Int)])]}
def soO (n:Nat) (x:R1) (k:Ex->St->Res):Res:=k (.exit 0) {env:=[(3,.msl 13 1 0 n)],objs:=[(13,.arr 1 n λj=>[.int .u8 (x.2 j:Int)])]}
def SoI (v n:Nat) (x:R1):Prop:=n=9*dl B9 v/\dl B9 v<=400/\x.1<=dl B9 v/\Fil v n (9*x.1) x.2
theorem wb {v:Nat} (h:(((dl B9 v:Nat):Int)==0)=true):[48]=dec v:=by
 have:=eq_of_beq h
 have:v=0:=(fw b9).1 (by omega)
 rw [this]
 unfold dec dl1
 rw [lH,if_pos rfl];rfl
theorem vu {v:Nat} (h:dl B9 v<=400):IntKind.wrap .i64 (9*(dl B9 v:Int))=((9*dl B9 v:Nat):Int):=by
 rw [wrap_i64 (by omega) (by omega)];omega
section
variable {v n:Nat} {x:R1} (h:Fil v n n x.2)
include h
theorem A3 {j:Nat} (hj:j < n):x.2 (0+j)=48+dg 10 v (n - 1 - j):=by rw [Nat.zero_add];exact h j (by omega) hj
theorem vt:[AV.str (bytesOf n λj=>[.int .u8 (x.2 (0+j):Int)]),.str [48]]=[.str (dcs v n),.str [48]]:=by
 have e:bytesOf n (λj=>[.int .u8 (x.2 (0+j):Int)])=dcs v n:=by
  rw [<-tN]
  refine List.map_congr_left λj hj=>?_
  show UInt8.ofNat (Int.toNat ((x.2 (0+j):Nat):Int))=_
  rw [A3 h (List.mem_range.1 hj)];rfl
 rw [e]
theorem yA:gQ n (λj=>[.int .u8 (x.2 (0+j):Int)])=true:=by
 unfold gQ
 exact List.all_eq_true.2 λ_ _=>rfl
end
theorem we {v:Nat} {x:R1} (h1:(((dl B9 v:Nat):Int)==0)=false) (hv:dl B9 v<=400) (h:Fil v (9*dl B9 v) (9*dl B9 v) x.2):aR wd ea φTx (rTb v (9*dl B9 v) (.str [48])) [.str (bytesOf (9*dl B9 v) λj=>[.int .u8 (x.2 (0+j):Int)]),.str [48]] []:=by
 rw [vt h]
 refine uk ⟨λe=>?_,GL (Nat.le_refl _),by omega⟩
 rw [e,lH] at h1;cases h1
theorem kM {v:Nat} (hv:dl B9 v<=400):aR wd gE φTx (rU B9 λv x=>x=dec v) [ao B9 v] []:=by
 obtain ⟨u2,z2,hin,l2⟩:=A2 v (9*dl B9 v) [bN wd ea φTx (rTb v (9*dl B9 v) (.str [48]))]
 obtain ⟨u,z,hu,l1⟩:∃ (u:St->Bool) (z:St->R1),(∀x,SoI v (9*dl B9 v) x->bq u z (soS v (9*dl B9 v) x) λx=>Fil v (9*dl B9 v) (9*dl B9 v) x.2)/\∀g:Orc,aE (V0.run [bN wd ea φTx (rTb v (9*dl B9 v) (.str [48]))] 2 [] [([1,1,1,0,1,0],g),([1,1,1,0,1,0,0,1,1,0,0,1,1,0],mkO u2 z2 (stO v (9*dl B9 v)))] [([1,1,1,1],fzM 3)] gE) gE [1,1,1,0,1,0] (mkO u z (soO (9*dl B9 v))):=
  aQ (Lf:=λg=>[([1,1,1,0,1,0],g),([1,1,1,0,1,0,0,1,1,0,0,1,1,0],mkO u2 z2 (stO v (9*dl B9 v)))]) (soS v (9*dl B9 v)) (SoI v (9*dl B9 v)) (λx=>dl B9 v - x.1) (soO (9*dl B9 v)) (λx=>Fil v (9*dl B9 v) (9*dl B9 v) x.2) (by kernel_rfl)
   (λx hx=>.b (decide ((↑x.1:Int) < (↑(dl B9 v):Int))) (λh1=>
   .n (c:=within (↑x.1:Int) (dl B9 v)) (ag (aB h1)) (
   .lp (s:={env:=[(3,.msl 13 1 0 (9*dl B9 v)),(4,.int .i64 (↑x.1:Int)),(5,.int .u32 (↑(dg B9 v x.1):Int)),(14,ao B9 v),(15,.int .i64 (↑(dl B9 v):Int)),(16,.int .i64 (↑x.1:Int)),(21,.int .i64 0)],objs:=[(13,.arr 1 (9*dl B9 v) λj=>[.int .u8 (↑(x.2 j):Int)])]}) (Q:=λo:R1=>o.1=x.1/\Fil v (9*dl B9 v) (9*(x.1+1)) o.2) (by rw [<-A1 (dg B9 v x.1)];exact hin (x.1,0,x.2) ⟨aB h1,Nat.zero_le _,hx.1,hx.2.1,hx.2.2.2⟩) λr2 q2=>
   .go {env:=[(3,.msl 13 1 0 (9*dl B9 v)),(14,ao B9 v),(15,.int .i64 (↑(dl B9 v):Int)),(16,.int .i64 (IntKind.wrap IntKind.i64 ((↑r2.1:Int)+1)))],objs:=[(13,.arr 1 (9*dl B9 v) λj=>[.int .u8 (↑(r2.2 j):Int)])]} (x.1+1,r2.2) ⟨hx.1,hx.2.1,aB h1,q2.2⟩ (by have:=aB h1;show dl B9 v - (x.1+1) < dl B9 v - x.1;omega) (by rw [q2.1,aZ (by have:=aB h1;have:=hx.2.1;omega)];rfl))) λh1=>
  .fi x (by have:=aF h1;have:=hx.2.2.1;have e:x.1=dl B9 v:=(by omega);have h:=hx.2.2.2;rw [e] at h;exact h))
   (λv L k kn=>by kernel_rfl)
 exact iU (V:=V0) (T:=[bN wd ea φTx (rTb v (9*dl B9 v) (.str [48]))]) (d:=2) 0 (aK (l1 _) (aK (l2 _) bK)) (lK (zw 3) bI) (.b ((↑(dl B9 v):Int)==0) (λh1=>
   .r [48] (rU.mk b9 (wb h1))) λh1=>
  .n (c:=decide (IntKind.wrap IntKind.i64 (9*(↑(dl B9 v):Int))=IntKind.wrap IntKind.i64 (9*(↑(dl B9 v):Int)))&&(decide (0<=IntKind.wrap IntKind.i64 (9*(↑(dl B9 v):Int)))&&(roomy 1 (Int.toNat (IntKind.wrap IntKind.i64 (9*(↑(dl B9 v):Int))))&&decide (IntKind.wrap IntKind.i64 (9*(↑(dl B9 v):Int))<=140737488355328)))) (by rw [vu hv];exact mB (by omega)) (
  .lp (s:={env:=[(3,.msl 13 1 0 (Int.toNat (IntKind.wrap IntKind.i64 (9*(↑(dl B9 v):Int))))),(14,ao B9 v),(15,.int .i64 (↑(dl B9 v):Int)),(16,.int .i64 0)],objs:=[(13,.arr 1 (Int.toNat (IntKind.wrap IntKind.i64 (9*(↑(dl B9 v):Int)))) λx=>[.int .u8 0])]}) (Q:=λx:R1=>Fil v (9*dl B9 v) (9*dl B9 v) x.2) (by rw [vu hv];exact hu (0,λ_=>0) ⟨rfl,hv,Nat.zero_le _,λp h1 h2=>by omega⟩) λr2 q2=>
  .n (c:=Nat.beq 1 1&&Nat.ble (0+9*dl B9 v) (9*dl B9 v)) (ix _ _) (
  .n (c:=gQ (9*dl B9 v) λj=>[.int .u8 (↑(r2.2 (0+j)):Int)]) (yA q2) (
  .call (we h1 hv q2) λr3 q3=>
  .r r3 (rU.mk b9 (q3 (vt q2))))))) (by kernel_rfl)
noncomputable abbrev Gx:Ent:=bN wd gE φTx (rU B9 λv x=>x=dec v)
end Go.WE

namespace Go.WE
open Go Go.Ab Go.Proofs
set_option linter.unusedSectionVars false
def gcS (x:Nat×Nat):St:={env:=[(0,ao B9 x.1),(1,ao B9 x.2)],objs:=[]}
def gcO (x:Nat) (k:Ex->St->Res):Res:=k (.exit 0) {env:=[(0,ao B9 x)],objs:=[]}
structure GcI (G:Nat) (x:Nat×Nat):Prop where
 a':dl B9 x.1<=400
 b':dl B9 x.2<=2
 g':Nat.gcd x.1 x.2=G
section
variable {G:Nat} {x:Nat×Nat} (hx:GcI G x)
include hx
theorem DN (h:decide (((dl B9 x.2:Nat):Int) > 0)=true):1<=dl B9 x.2/\dl B9 x.2<=2:=by
 have:=of_decide_eq_true h;have:=hx.b';omega
theorem DM (h:decide (((dl B9 x.2:Nat):Int) > 0)=true):0 < x.2:=by
 have h1:=DN hx h
 rcases Nat.eq_zero_or_pos x.2 with e | e
 ·rw [e,lH] at h1;omega
 ·exact e
theorem DL (h:decide (((dl B9 x.2:Nat):Int) > 0)=true) {r:Nat×Nat} (q:rB B9 (λa b x=>x=(a / b,a % b)) [ao B9 x.1,ao B9 x.2] [] r):r.2=x.1 % x.2:=by rw [q x.1 x.2 rfl]
theorem Gm (h:decide (((dl B9 x.2:Nat):Int) > 0)=true) {r:Nat×Nat} (q:rB B9 (λa b x=>x=(a / b,a % b)) [ao B9 x.1,ao B9 x.2] [] r):GcI G (x.2,r.2):=by
 have e:=DL hx h q
 refine ⟨Nat.le_trans hx.b' (by decide),?_,?_⟩
 ·show dl B9 r.2<=2
  rw [e]
  exact Nat.le_trans (eX b9 (Nat.le_of_lt (Nat.mod_lt _ (DM hx h)))) hx.b'
 ·show Nat.gcd x.2 r.2=G
  rw [e,<-hx.g',Nat.gcd_comm x.1,Nat.gcd_rec x.2 x.1,Nat.gcd_comm]
theorem Gk (h:decide (((dl B9 x.2:Nat):Int) > 0)=true) {r:Nat×Nat} (q:rB B9 (λa b x=>x=(a / b,a % b)) [ao B9 x.1,ao B9 x.2] [] r):r.2 < x.2:=by
 rw [DL hx h q];exact Nat.mod_lt _ (DM hx h)
theorem Gl (h:decide (((dl B9 x.2:Nat):Int) > 0)=false):x.1=G:=by
 have h1:=of_decide_eq_false h
 have:x.2=0:=(fw b9).1 (by omega)
 rw [<-hx.g',this,Nat.gcd_zero_right]
end
theorem xj (G:Nat):∃ (u:St->Bool) (z:St->Nat),(∀x,GcI G x->bq u z (gcS x) λr=>r=G)/\∀L:List (List Nat×Orc),aE (V0.run [Cj] 2 [] L [] uG) uG [1,0,0] (mkO u z gcO):=
 aQ (Lf:=λL=>L) gcS (GcI G) (λx=>x.2) gcO (λr=>r=G) (by kernel_rfl)
  (λx hx=>.b (decide ((↑(dl B9 x.2):Int) > 0)) (λh1=>
   .call (my hx.a' (DN hx h1)) λr2 q2=>
   .go {env:=[(0,ao B9 x.2),(1,ao B9 r2.2)],objs:=[]} (x.2,r2.2) (Gm hx h1 q2) (by have:=Gk hx h1 q2;exact this) rfl) λh1=>
  .fi x.1 (Gl hx h1))
  (λv L k kn=>by kernel_rfl)
theorem qm {a b:Nat} (h1:dl B9 a<=400) (h2:dl B9 b<=2):aR wd uG φN9 (rB B9 λa b x=>x=Nat.gcd a b) [ao B9 a,ao B9 b] []:=by
 obtain ⟨u,z,hu,l1⟩:=xj (Nat.gcd a b)
 exact lb (V:=V0) [Cj] 2 (p:=[1,0,0]) l1 (.lp (hu (a,b) ⟨h1,h2,rfl⟩) λx hx=>.r x (rB.mk b9 hx)) (by kernel_rfl)
noncomputable abbrev DT:Ent:=bN wd uG φN9 (rB B9 λa b x=>x=Nat.gcd a b)
structure PiI (v n:Nat) (x:R4):Prop where
 t':9*x.1 < n
 i':n - 9*x.1 - 9<=x.2.2.1/\x.2.2.1<=n - 9*x.1
 n':n<=4000
 l':dl 10 v<=n
 d':x.2.1=vF 10 (λu=>dg 10 v (n - x.2.2.1+u)) (x.2.2.1 - (n - 9*x.1 - 9))
def piR (v n t:Nat) (d i:Int) (f:Nat->Nat):St:={env:=[(0,.str (dcs v n)),(3,.sl (.key 32) 1 t λj=>[.int .u32 (f j:Int)]),(4,.int .i64 ((n:Int) - 9*(t:Int))),(5,.int .u32 d),(6,.int .i64 i)],objs:=[(32,.own 1 t)]}
theorem yX {v n t:Nat} {d d' i i':Int} {f:Nat->Nat} (h1:d=d') (h2:i=i'):piR v n t d i f=piR v n t d' i' f:=by rw [h1,h2]
def piS (v n:Nat) (x:R4):St:=piR v n x.1 x.2.1 x.2.2.1 x.2.2.2
def piO (v n:Nat) (x:R3) (k:Ex->St->Res):Res:=k (.exit 2) {env:=[(0,.str (dcs v n)),(3,.sl (.key 32) 1 x.1 λj=>[.int .u32 (x.2.2 j:Int)]),(4,.int .i64 ((n:Int) - 9*(x.1:Int))),(5,.int .u32 (x.2.1:Int))],objs:=[(32,.own 1 x.1)]}
section
variable {v n:Nat} {x:R4} (hx:PiI v n x)
include hx
theorem uK (h:decide ((x.2.2.1:Int) < (n:Int) - 9*(x.1:Int))=true):x.2.2.1 < n - 9*x.1:=by
 have:=of_decide_eq_true h;omega
theorem Fv (h:decide ((x.2.2.1:Int) < (n:Int) - 9*(x.1:Int))=true):within (x.2.2.1:Int) (List.length (dcs v n))=true:=by
 rw [cB];exact ag (by have:=uK hx h;omega)
theorem Fx (h:decide ((x.2.2.1:Int) < (n:Int) - 9*(x.1:Int))=true):n - 9*x.1 - (x.2.2.1+1) < n - 9*x.1 - x.2.2.1:=by have:=uK hx h;omega
theorem Fz:x.2.1 < 10 ^ (x.2.2.1 - (n - 9*x.1 - 9)):=by rw [hx.d'];exact j0 (by decide) λi _=>mW _ _
theorem Fw (h:decide ((x.2.2.1:Int) < (n:Int) - 9*(x.1:Int))=true):IntKind.wrap .u32 (IntKind.wrap .u32 ((x.2.1:Int)*10)+IntKind.wrap .u32 (IntKind.wrap .u8 (((UInt8.toNat (List.getD (dcs v n) x.2.2.1 0):Nat):Int) - 48)))=((x.2.1*10+dg 10 v (n - 1 - x.2.2.1):Nat):Int):=by
 have hl:=uK hx h
 have h1:=Fz hx
 have h2:10 ^ (x.2.2.1 - (n - 9*x.1 - 9))<=10 ^ 8:=Nat.pow_le_pow_right (by decide) (by omega)
 have h3:x.2.1 < 100000000:=Nat.lt_of_lt_of_le h1 h2
 have h4:=mW v (n - 1 - x.2.2.1)
 rw [gZ _ _ _ (by omega),lI]
 show (((x.2.1:Int)*10) % 4294967296+((((48+dg 10 v (n - 1 - x.2.2.1):Nat):Int) - 48) % 256) % 4294967296) % 4294967296=_
 omega
theorem FA (h:decide ((x.2.2.1:Int) < (n:Int) - 9*(x.1:Int))=true):PiI v n (x.1,x.2.1*10+dg 10 v (n - 1 - x.2.2.1),x.2.2.1+1,x.2.2.2):=by
 have hl:=uK hx h
 have hi:=hx.i'
 refine ⟨hx.t',by show n - 9*x.1 - 9<=x.2.2.1+1/\x.2.2.1+1<=n - 9*x.1;omega,hx.n',hx.l',?_⟩
 show x.2.1*10+dg 10 v (n - 1 - x.2.2.1)=vF 10 (λu=>dg 10 v (n - (x.2.2.1+1)+u)) (x.2.2.1+1 - (n - 9*x.1 - 9))
 rw [show x.2.2.1+1 - (n - 9*x.1 - 9)=x.2.2.1 - (n - 9*x.1 - 9)+1 by omega,mh,Nat.add_zero,cu (g:=λj=>dg 10 v (n - (x.2.2.1+1)+(j+1))) (h:=λu=>dg 10 v (n - x.2.2.1+u)) λi _=>by rw [show n - (x.2.2.1+1)+(i+1)=n - x.2.2.1+i by omega],<-hx.d',show n - (x.2.2.1+1)=n - 1 - x.2.2.1 by omega]
 omega
theorem Fy (h:decide ((x.2.2.1:Int) < (n:Int) - 9*(x.1:Int))=false):x.2.1=dg B9 v x.1:=by
 have h0:=of_decide_eq_false h
 have hi:=hx.i'
 have ht:=hx.t'
 have hl:=hx.l'
 rw [hx.d',show n - x.2.2.1=9*x.1 by omega,show x.2.2.1 - (n - 9*x.1 - 9)=n - 9*x.1 - (n - 9*x.1 - 9) by omega]
 have e1:vF 10 (dg 10 (dg B9 v x.1)) 9=dg B9 v x.1:=by
  rw [p9 (by decide)];exact Nat.mod_eq_of_lt (aY (by decide))
 rw [<-e1,kA (b:=10) (g:=dg 10 (dg B9 v x.1)) (m:=n - 9*x.1 - (n - 9*x.1 - 9)) (n:=9) (by omega) λi h1 h2=>?_]
 ·exact cu λi hi=>(xB (b:=10) (k:=9) (v:=v) (i:=x.1) (t:=i) (by omega)).symm
 ·rw [show dg 10 (dg B9 v x.1) i=dg 10 v (9*x.1+i) from xB (b:=10) (k:=9) h2]
  exact nd (by decide) (by omega)
end
theorem wJ (v n:Nat) (T:List Ent):∃ (u:St->Bool) (z:St->R3),(∀x,PiI v n x->bq u z (piS v n x) λo=>o.1=x.1/\o.2.1=dg B9 v x.1/\o.2.2=x.2.2.2)/\∀L:List (List Nat×Orc),aE (V0.run T 2 [] L [] hJ) hJ [1,1,0,1,0,0,1,0,0,1,0,1,0] (mkO u z (piO v n)):=
 eu (Lf:=λL=>L) (piS v n) (PiI v n) (λx=>n - 9*x.1 - x.2.2.1) (piO v n) (λx o=>o.1=x.1/\o.2.1=dg B9 v x.1/\o.2.2=x.2.2.2) (by kernel_rfl) (λa b x h hp=>by
   unfold piS piR at h
   simp only [St.mk.injEq,List.cons.injEq,Prod.mk.injEq,AV.int.injEq,AV.sl.injEq,AO.own.injEq,true_and,and_true] at h
   have e1:a.1=b.1:=h.2
   have e2:=mq h.1.1.2
   rw [<-e1,<-e2];exact hp)
  (λx hx=>.b (decide ((↑x.2.2.1:Int) < (↑n:Int) - 9*(↑x.1:Int))) (λh1=>
   .n (c:=within (↑x.2.2.1:Int) (List.length (dcs v n))) (Fv hx h1) (
   .nx {env:=[(0,.str (dcs v n)),(3,.sl (.key 32) 1 x.1 λj=>[.int .u32 (↑(x.2.2.2 j):Int)]),(4,.int .i64 ((↑n:Int) - 9*(↑x.1:Int))),(5,.int .u32 (IntKind.wrap IntKind.u32 (IntKind.wrap IntKind.u32 ((↑x.2.1:Int)*10)+IntKind.wrap IntKind.u32 (IntKind.wrap IntKind.u8 ((↑(UInt8.toNat (List.getD (dcs v n) x.2.2.1 0)):Int) - 48))))),(6,.int .i64 (IntKind.wrap IntKind.i64 ((↑x.2.2.1:Int)+1)))],objs:=[(32,.own 1 x.1)]} (x.1,x.2.1*10+dg 10 v (n - 1 - x.2.2.1),x.2.2.1+1,x.2.2.2) (FA hx h1) (Fx hx h1) (λo h=>h) (yX (Fw hx h1) (aZ (by have:=hx.i';have:=hx.n';omega))))) λh1=>
  .fi (x.1,x.2.1,x.2.2.2) ⟨rfl,Fy hx h1,rfl⟩)
  (λv L k kn=>by kernel_rfl)
def poR (v n:Nat) (t:Nat) (e:Int) (r:Nat->List AV):St:={env:=[(0,.str (dcs v n)),(3,.sl (.key 32) 1 t r),(4,.int .i64 e)],objs:=[(32,.own 1 t)]}
def poS (v n:Nat) (x:R1):St:=poR v n x.1 ((n:Int) - 9*(x.1:Int)) λj=>[.int .u32 (x.2 j:Int)]
def poO (x:R1) (k:Ex->St->Res):Res:=k (.exit 0) {env:=[(3,.sl (.key 32) 1 x.1 λj=>[.int .u32 (x.2 j:Int)])],objs:=[(32,.own 1 x.1)]}
def PoI (v n:Nat) (x:R1):Prop:=dl 10 v<=n/\n<=4000/\9*x.1<=n+8/\∀j,j < x.1->x.2 j=dg B9 v j
def PoP (v:Nat) (x:R1):Prop:=x.1<=1000/\(∀j,j < x.1->x.2 j < B9)/\vF B9 x.2 x.1=v
theorem Fg (n:Nat):(n:Int)=(n:Int) - 9*((0:Nat):Int):=by omega
theorem Fk {v n:Nat} (hn:dl 10 v<=n) (hl:n<=4000):PoI v n (0,λ_=>0):=⟨hn,hl,by show 9*0<=n+8;omega,λj h=>absurd h (Nat.not_lt_zero _)⟩
section
variable {v n:Nat} {x:R1} (hx:PoI v n x)
include hx
theorem xX (h:decide ((n:Int) - 9*(x.1:Int) > 0)=true):9*x.1 < n:=by have:=of_decide_eq_true h;omega
theorem Bn (h:decide ((n:Int) - 9*(x.1:Int) > 0)=true):(bif decide (IntKind.wrap .i64 ((n:Int) - 9*(x.1:Int) - 9) > 0) then IntKind.wrap .i64 ((n:Int) - 9*(x.1:Int) - 9) else 0)=((n - 9*x.1 - 9:Nat):Int):=by
 have:=xX hx h;have:=hx.2.1
 rw [wrap_i64 (by omega) (by omega)]
 cases hd:decide ((n:Int) - 9*(x.1:Int) - 9 > 0) with
 | true=>have:=of_decide_eq_true hd;rw [cond_true];omega
 | false=>have:=of_decide_eq_false hd;rw [cond_false];omega
theorem Bo (h:decide ((n:Int) - 9*(x.1:Int) > 0)=true):PiI v n (x.1,0,n - 9*x.1 - 9,x.2):=
 ⟨xX hx h,⟨Nat.le_refl _,Nat.sub_le _ _⟩,hx.2.1,hx.1,by show 0=vF 10 _ (n - 9*x.1 - 9 - (n - 9*x.1 - 9));rw [Nat.sub_self,vF]⟩
theorem Fj (h:decide ((n:Int) - 9*(x.1:Int) > 0)=true):PoI v n (x.1+1,bc x.2 x.1 (dg B9 v x.1)):=by
 have:=xX hx h
 refine ⟨hx.1,hx.2.1,by show 9*(x.1+1)<=n+8;omega,λj hj=>?_⟩
 have hj:j < x.1+1:=hj
 show bc _ _ _ j=_
 by_cases e:j=x.1
 ·rw [e,bC]
 ·rw [aW _ _ e];exact hx.2.2.2 j (by omega)
theorem Fh (h:decide ((n:Int) - 9*(x.1:Int) > 0)=true) {o:R3} (q:o.1=x.1/\o.2.1=dg B9 v x.1/\o.2.2=x.2):poR v n (o.1+1) (IntKind.wrap .i64 ((n:Int) - 9*(o.1:Int) - 9)) (av o.1 1 (λj=>[.int .u32 (o.2.2 j:Int)]) (al [.int .u32 0] [(0,.int .u32 (o.2.1:Int))]))=poS v n (x.1+1,bc x.2 x.1 (dg B9 v x.1)):=by
 have:=xX hx h;have:=hx.2.1
 obtain ⟨a,b,c⟩:=o
 obtain ⟨rfl,rfl,rfl⟩:a=x.1/\b=dg B9 v x.1/\c=x.2:=q
 show poR v n (x.1+1) (IntKind.wrap .i64 ((n:Int) - 9*(x.1:Int) - 9)) (av x.1 1 (λj=>[.int .u32 (x.2 j:Int)]) (al [.int .u32 0] [(0,.int .u32 ((dg B9 v x.1:Nat):Int))]))=poR v n (x.1+1) ((n:Int) - 9*((x.1+1:Nat):Int)) _
 rw [fO _ _ rfl,wrap_i64 (by omega) (by omega),show (n:Int) - 9*(x.1:Int) - 9=(n:Int) - 9*((x.1+1:Nat):Int) by omega]
theorem Fi (h:decide ((n:Int) - 9*(x.1:Int) > 0)=false):PoP v x:=by
 have h0:=of_decide_eq_false h
 obtain ⟨h1,h2,h3,h4⟩:=hx
 refine ⟨by omega,λj hj=>by rw [h4 j hj];exact aY (by decide),?_⟩
 rw [cu h4,p9 b9]
 refine Nat.mod_eq_of_lt (Nat.lt_of_lt_of_le (lM (b:=10) (v:=v) (by decide)) ?_)
 rw [show B9=10 ^ 9 from rfl,<-Nat.pow_mul]
 exact Nat.pow_le_pow_right (by decide) (by omega)
end
theorem rf {v n:Nat} (hn:dl 10 v<=n) (hl:n<=4000):aR wd hJ φN9 (λl _ x=>l=[.str (dcs v n)]->x=v) [.str (dcs v n)] []:=by
 obtain ⟨u2,z2,hin,l2⟩:=wJ v n [iO]
 obtain ⟨u,z,hu,l1⟩:∃ (u:St->Bool) (z:St->R1),(∀x,PoI v n x->bq u z (poS v n x) (PoP v))/\∀g:Orc,aE (V0.run [iO] 2 [] [([1,1,0,1,0],g),([1,1,0,1,0,0,1,0,0,1,0,1,0],mkO u2 z2 (piO v n))] [] hJ) hJ [1,1,0,1,0] (mkO u z poO):=
  aQ (Lf:=λg=>[([1,1,0,1,0],g),([1,1,0,1,0,0,1,0,0,1,0,1,0],mkO u2 z2 (piO v n))]) (poS v n) (PoI v n) (λx=>n - x.1) poO (PoP v) (by kernel_rfl)
   (λx hx=>.b (decide ((↑n:Int) - 9*(↑x.1:Int) > 0)) (λh1=>
   .lp (s:={env:=[(0,.str (dcs v n)),(3,.sl (.key 32) 1 x.1 λj=>[.int .u32 (↑(x.2 j):Int)]),(4,.int .i64 ((↑n:Int) - 9*(↑x.1:Int))),(5,.int .u32 0),(6,.int .i64 (bif decide (IntKind.wrap IntKind.i64 ((↑n:Int) - 9*(↑x.1:Int) - 9) > 0) then IntKind.wrap IntKind.i64 ((↑n:Int) - 9*(↑x.1:Int) - 9) else 0))],objs:=[(32,.own 1 x.1)]}) (Q:=λo:R3=>o.1=x.1/\o.2.1=dg B9 v x.1/\o.2.2=x.2) (by rw [Bn hx h1];exact hin (x.1,0,n - 9*x.1 - 9,x.2) (Bo hx h1)) λr2 q2=>
   .n (c:=roomy 4 (r2.1+1)&&Nat.beq r2.1 r2.1) (cb (by rw [q2.1];have:=xX hx h1;have:=hx.2.1;omega)) (
   .go {env:=[(0,.str (dcs v n)),(3,.sl (.key 32) 1 (r2.1+1) (av r2.1 1 (λj=>[.int .u32 (↑(r2.2.2 j):Int)]) (al [.int .u32 0] [(0,.int .u32 (↑r2.2.1:Int))]))),(4,.int .i64 (IntKind.wrap IntKind.i64 ((↑n:Int) - 9*(↑r2.1:Int) - 9)))],objs:=[(32,.own 1 (r2.1+1))]} (x.1+1,bc x.2 x.1 (dg B9 v x.1)) (Fj hx h1) (by have:=xX hx h1;show n - (x.1+1) < n - x.1;omega) (Fh hx h1 q2))) λh1=>
  .fi x (Fi hx h1))
   (λv L k kn=>by kernel_rfl)
 exact iU (V:=V0) (T:=[iO]) (d:=2) 0 (aK (l1 _) (aK (l2 _) bK)) bI (.lp (s:={env:=[(0,.str (dcs v n)),(3,.sl (.key 32) 1 0 λx=>[.int .u32 0]),(4,.int .i64 (↑(List.length (dcs v n)):Int))],objs:=[(32,.own 1 0)]}) (Q:=PoP v) (by rw [cB,Fg];exact hu (0,λ_=>0) (Fk hn hl)) λr1 q1=>
  .call (eb (n:=r1.1) (g:=r1.2) ⟨q1.1,q1.2.1⟩) λr2 q2=>
  .r r2 (λe=>by rw [q2.at rfl];exact q1.2.2)) (by kernel_rfl)
theorem dq (v:Nat):(dec v).length=dl1 v:=cB _ _
theorem pR (v:Nat):0 < (dec v).length:=by rw [dq];exact la v
def jI {τ:Type} (F:Nat->τ->Prop) (l:List AV) (_:List AO) (x:τ):Prop:=∀v,l=[.str (dec v)]->F v x
theorem jI.mk {τ:Type} {F:Nat->τ->Prop} {v:Nat} {os:List AO} {x:τ} (h:F v x):jI F [.str (dec v)] os x:=λw e=>by
 injection e with e _
 injection e with e
 rw [<-gf e];exact h
theorem sV {v:Nat} (h:dl1 v<=4000):aR wd hJ φN9 (jI λv x=>x=v) [.str (dec v)] []:=(rf (gY v) h).mono λx hx=>jI.mk (hx rfl)
noncomputable abbrev Ch:Ent:=bN wd hJ φN9 (jI λv x=>x=v)
def dgS (v x:Nat):St:={env:=[(0,.str (dec v)),(23,.int .i64 (List.length (dec v):Int)),(24,.int .i64 (x:Int))],objs:=[]}
def dgO (x:Bool) (k:Ex->St->Res):Res:=cond x (k (.exit 0) {env:=[],objs:=[]}) (k .ret {env:=[(2,.bool false)],objs:=[]})
theorem z6 {v x:Nat} {p:Prop} (hx:p) (h1:decide ((x:Int) < ((dec v).length:Int))=true) (h2:(bif decide (((UInt8.toNat (List.getD (dec v) x 0):Nat):Int) < 48) then true else decide (((UInt8.toNat (List.getD (dec v) x 0):Nat):Int) > 57))=true):false=true:=by
 have h:=aB h1
 rw [dq] at h
 unfold dec at h2
 rw [gZ _ _ _ h,lI] at h2
 have:=mW v (dl1 v - 1 - x)
 rw [decide_eq_false (by omega),decide_eq_false (by omega)] at h2
 exact h2
theorem CN {v:Nat} (h:dl1 v<=400) (h1:(bif bif decide (((List.length (dec v):Nat):Int) < 1) then true else decide (((List.length (dec v):Nat):Int) > 400) then true else bif ((UInt8.toNat (List.getD (dec v) (Int.toNat 0) 0):Nat):Int)==48 then decide (((List.length (dec v):Nat):Int) > 1) else false)=true):false=true:=by
 have h0:=la v
 rw [dq,decide_eq_false (by omega),decide_eq_false (by omega),cond_false,cond_false,show Int.toNat 0=0 from rfl] at h1
 by_cases e:v=0
 ·have:dl1 v=1:=by unfold dl1;rw [e,lH];rfl
  rw [this] at h1
  rw [decide_eq_false (by omega)] at h1
  revert h1
  cases (((UInt8.toNat (List.getD (dec v) 0 0):Nat):Int)==48) <;> exact id
 ·have h2:=pQ e
  have h3:dl1 v=dl 10 v:=by unfold dl1;rw [if_neg e];rfl
  unfold dec at h1
  rw [gZ _ _ _ h0,lI,Nat.sub_zero,h3] at h1
  have:((((48+dg 10 v (dl 10 v - 1):Nat):Int))==48)=false:=by
   rw [beq_eq_false_iff_ne];omega
  rw [this] at h1
  exact h1
theorem xA (v:Nat):∃ (u:St->Bool) (z:St->Bool),(∀x:Nat,dl1 v<=400/\x<=(dec v).length->bq u z (dgS v x) λr=>r=true)/\∀L:List (List Nat×Orc),aE (V0.run [] 2 [] L [] kp) kp [1,1,0,1,0] (mkO u z dgO):=
 aQ (Lf:=λL=>L) (dgS v) (λx=>dl1 v<=400/\x<=(dec v).length) (λx=>(dec v).length - x) dgO (λr=>r=true) (by kernel_rfl)
  (λx hx'=>have hx:(dec v).length<=400/\True:=⟨by rw [dq];exact hx'.1,trivial⟩;.b (decide ((↑x:Int) < (↑(List.length (dec v)):Int))) (λh1=>
   .n (c:=within (↑x:Int) (List.length (dec v))) (ag (aB h1)) (
   .n (c:=bif within (↑x:Int) (List.length (dec v)) then true else !bif decide ((↑(UInt8.toNat (List.getD (dec v) x 0)):Int) < 48)==false then true else false) (by rw [ag (aB h1)];rfl) (
   .b (bif decide ((↑(UInt8.toNat (List.getD (dec v) x 0)):Int) < 48) then true else decide ((↑(UInt8.toNat (List.getD (dec v) x 0)):Int) > 57)) (λh2=>
    .fi false (z6 hx h1 h2)) λh2=>
   .go {env:=[(0,.str (dec v)),(23,.int .i64 (↑(List.length (dec v)):Int)),(24,.int .i64 (IntKind.wrap IntKind.i64 ((↑x:Int)+1)))],objs:=[]} (x+1) ⟨hx'.1,aB h1⟩ (by have:=aB h1;show (dec v).length - (x+1) < (dec v).length - x;omega) (by rw [aZ (by have:=aB h1;have:=hx.1;omega)];rfl)))) λh1=>
  .fi true rfl)
  (λv L k kn=>by kernel_rfl)
theorem om {v:Nat} (h:dl1 v<=400):aR wd kp φBo (jI λ_ x=>x=true) [.str (dec v)] []:=by
 obtain ⟨u,z,hu,l1⟩:=xA v
 exact lb (V:=V0) [] 2 (p:=[1,1,0,1,0]) l1 (.n (c:=bif within 0 (List.length (dec v)) then true else !bif (bif decide ((↑(List.length (dec v)):Int) < 1) then true else decide ((↑(List.length (dec v)):Int) > 400))==false then true else false) (by rw [show within 0 (dec v).length=true from ag (n:=(dec v).length) (i:=0) (pR v)];rfl) (
  .b (bif bif decide ((↑(List.length (dec v)):Int) < 1) then true else decide ((↑(List.length (dec v)):Int) > 400) then true else bif (↑(UInt8.toNat (List.getD (dec v) (Int.toNat 0) 0)):Int)==48 then decide ((↑(List.length (dec v)):Int) > 1) else false) (λh1=>
   .r false (jI.mk (CN h h1))) λh1=>
  .lp (hu 0 ⟨h,Nat.zero_le _⟩) λr2 q2=>
  .b r2 (λh3=>
   .r true (jI.mk rfl)) λh3=>
  .r false (jI.mk (h3.symm.trans q2)))) (by kernel_rfl)
noncomputable abbrev Ck:Ent:=bN wd kp φBo (jI λ_ x=>x=true)
def yc (s:Txt) (_:Unit):AV×List AO:=(.tup [.str s,.bool false],[])
theorem CO (v:Nat):List.take (Int.toNat (((([45]:List UInt8)).length:Nat):Int) - 0) (List.drop 0 (dec v))≠[45]:=by
 unfold dec
 obtain ⟨k,hk⟩:∃k,dl1 v=k+1:=⟨dl1 v - 1,by have:=la v;omega⟩
 rw [hk]
 show [UInt8.ofNat (48+dg 10 v k)]≠[45]
 intro e
 injection e with e _
 have:=lI v k
 rw [e] at this
 have h:(45:UInt8).toNat=45:=rfl
 omega
theorem CX (v:Nat):(bif decide (0<=((0:Nat):Int))&&(decide (((0:Nat):Int)<=(((([45]:List UInt8)).length:Nat):Int))&&decide ((((([45]:List UInt8)).length:Nat):Int)<=((List.length (dec v):Nat):Int))) then true else !bif decide (((List.length (dec v):Nat):Int)≥(((([45]:List UInt8)).length:Nat):Int))==true then true else false)=true:=by
 have h:=pR v
 rw [decide_eq_true (show (0:Int)<=((0:Nat):Int) by omega),decide_eq_true (show ((0:Nat):Int)<=(((([45]:List UInt8)).length:Nat):Int) by omega),decide_eq_true (show (((([45]:List UInt8)).length:Nat):Int)<=((List.length (dec v):Nat):Int) by show (1:Int)<=_;omega)]
 rfl
theorem Ad {v:Nat} {p:Prop} (h:(!bif decide (((List.length (dec v):Nat):Int)≥(((([45]:List UInt8)).length:Nat):Int)) then List.take (Int.toNat (((([45]:List UInt8)).length:Nat):Int) - 0) (List.drop 0 (dec v))==[45] else false)=false):p:=by
 have h1:(List.take (Int.toNat (((([45]:List UInt8)).length:Nat):Int) - 0) (List.drop 0 (dec v))==[45])=false:=by
  rw [beq_eq_false_iff_ne];exact CO v
 rw [h1] at h
 revert h
 cases decide (((List.length (dec v):Nat):Int)≥(((([45]:List UInt8)).length:Nat):Int)) <;> intro h <;> cases h
theorem Ae (v:Nat):aR wd jH (yc (dec v)) (λ_ _ _=>True) [.str (dec v),.str [45]] []:=lx (V:=V0) [] 4 (.n (c:=bif decide (0<=(↑0:Int))&&(decide ((↑0:Int)<=(↑(List.length [45]):Int))&&decide ((↑(List.length [45]):Int)<=(↑(List.length (dec v)):Int))) then true else !bif decide ((↑(List.length (dec v)):Int)≥(↑(List.length [45]):Int))==true then true else false) (CX v) (
  .b (!bif decide ((↑(List.length (dec v)):Int)≥(↑(List.length [45]):Int)) then List.take (Int.toNat (↑(List.length [45]):Int) - 0) (List.drop 0 (dec v))==[45] else false) (λh1=>
   .r () trivial) λh1=>
  .n (c:=decide (0<=(↑(List.length [45]):Int))&&(decide ((↑(List.length [45]):Int)<=(↑(List.length (dec v)):Int))&&decide ((↑(List.length (dec v)):Int)<=(↑(List.length (dec v)):Int)))) (by simp;have:=pR v;omega) (
  .t (r:=(.tup [.str (List.take (Int.toNat (((dec v).length:Nat):Int) - Int.toNat (((([45]:List UInt8)).length:Nat):Int)) (List.drop (Int.toNat (((([45]:List UInt8)).length:Nat):Int)) (dec v))),.bool true],[])) () trivial (Ad h1)))) (by kernel_rfl)
def rC1 (l:List AV) (_:List AO) (x:Int):Prop:=∀v,l=[ao B9 v,SC 1]->x=kd v 1
theorem xF {v:Nat} (h:dl B9 v<=1000):aR wd gD φI rC1 [ao B9 v,SC 1] []:=by
 obtain ⟨x,hx,hc⟩:=mz (v:=v) (w:=1) h (by rw [tJ (by decide) (by decide)];decide)
 refine ⟨x,λv' e=>?_,Ct.args hc rfl rfl λi u u' hu hu' c w hr=>?_⟩
 ·injection e with e _
  rw [<-bJ b9 e];exact hx v 1 rfl
 ·match i with
  | 0=>cases hu;cases hu';exact hr
  | 1=>cases hu;cases hu';exact (sh (by decide) (by decide)).2 _ _ hr
  | i+2=>cases hu
def rat (n d:Nat):AV:=.agg [.str (dec n),.str (dec d)]
theorem mr {n d n' d':Nat} (h:rat n d=rat n' d'):n=n'/\d=d':=by
 unfold rat at h
 injection h with h
 injection h with h1 h
 injection h with h2 _
 injection h1 with h1
 injection h2 with h2
 exact ⟨gf h1,gf h2⟩
def φRe (x:Nat×Nat×Bool):AV×List AO:=(.tup [.agg [.bool false,ao B9 x.1,ao B9 x.2.1],.bool x.2.2],[])
def rRe (l:List AV) (_:List AO) (x:Nat×Nat×Bool):Prop:=∀n d,l=[rat n d]->x=(n,d,true)
theorem rRe.mk {n d:Nat} {os:List AO} {x:Nat×Nat×Bool} (h:x=(n,d,true)):rRe [rat n d] os x:=λn' d' e=>by
 injection e with e _
 obtain ⟨rfl,rfl⟩:=mr e
 exact h
theorem wy (c:Cx) (v:Value) (h:Rep c (.tup [.agg [.bool false,.sl .fit 0 0 λ_=>[],.sl .fit 0 0 λ_=>[]],.bool false]) v):Rep c (.tup [.agg [.bool false,ao B9 0,ao B9 0],.bool false]) v:=by
 cases h with
 | tup _ vs h1 h2=>
  refine .tup _ vs h1 λi u hu=>?_
  match i with
  | 0=>cases hu;exact qU (.cons (.same rfl) (.cons fI (.cons fI .nil))) (h2 0 _ rfl)
  | 1=>cases hu;exact h2 1 _ rfl
  | i+2=>cases hu
theorem Bi {d N:Nat} (h:dl1 d<=N):dl B9 d<=N:=by
 refine eh b9 (Nat.lt_of_lt_of_le (lM (b:=10) (v:=d) (by decide)) ?_)
 exact Nat.le_trans (Nat.pow_le_pow_left (by decide) _) (Nat.pow_le_pow_right (by decide) (Nat.le_trans (gY d) h))
theorem E7 {d:Nat} (h:dl1 d<=400):dl B9 d<=400:=Bi h
theorem z7 {d:Nat} (h:0 < d):(dec d==[48])=false:=by
 rw [beq_eq_false_iff_ne]
 intro e
 have h1:dec 0=[48]:=by unfold dec dl1;rw [lH,if_pos rfl];rfl
 rw [<-h1] at e
 have:=gf e;omega
theorem Bh {n d:Nat} {a b:Bool} {p:Prop} (h0:0 < d) (ha:a=true) (hb:b=true) (h:(bif bif bif !a then true else !b then true else bif false then dec n==[48] else false then true else dec d==[48])=true):p:=by
 rw [ha,hb,z7 h0] at h;cases h
section
variable {n d r5 r6 r7:Nat} (hg:Nat.gcd d n=1) (q5:jI (λv x=>x=v) [.str (dec n)] [] r5) (q6:jI (λv x=>x=v) [.str (dec d)] [] r6) (q7:rB B9 (λa b x=>x=Nat.gcd a b) [ao B9 r6,ao B9 r5] [] r7)
include hg q5 q6 q7
theorem Dq:r7=1:=by
 have e5:r5=n:=q5 n rfl
 have e6:r6=d:=q6 d rfl
 have e7:r7=Nat.gcd r6 r5:=q7 r6 r5 rfl
 rw [e7,e5,e6,hg]
theorem Bj:dl B9 r7<=1000:=by rw [Dq hg q5 q6 q7,tJ (by decide) (by decide)];decide
theorem Bg {r8:Int} (q8:rC1 [ao B9 r7,SC 1] [] r8):rRe [rat n d] [] (r5,r6,r8==0):=by
 have e5:r5=n:=q5 n rfl
 have e6:r6=d:=q6 d rfl
 have e8:r8=kd r7 1:=q8 r7 rfl
 rw [e8,Dq hg q5 q6 q7,lf rfl,e5,e6]
 exact rRe.mk rfl
end
theorem wx {n d:Nat} (h1:dl1 n<=400) (h2:dl1 d<=400) (h3:dl B9 n<=2) (h0:0 < d) (hg:Nat.gcd d n=1):aR wd sO φRe rRe [rat n d] []:=
 lx (V:=V0) [bN wd jH (yc (dec n)) (λ_ _ _=>True),Ck,Ch,DT,bN wd gD φI rC1] 4 (.call (Ae n) λr1 q1=>
  .call (om (v:=n) h1) λr2 q2=>
  .call (om (v:=d) h2) λr3 q3=>
  .b (bif bif bif !r2 then true else !r3 then true else bif false then dec n==[48] else false then true else dec d==[48]) (λh4=>
   .t (r:=(.tup [.agg [.bool false,.sl .fit 0 0 λx=>[],.sl .fit 0 0 λx=>[]],.bool false],[])) (0,0,false) (Bh h0 (q2 n rfl) (q3 d rfl) h4) ⟨.inr ⟨rfl,wy⟩,.inl rfl⟩) λh4=>
  .call (sV (v:=n) (by omega)) λr5 q5=>
  .call (sV (v:=d) (by omega)) λr6 q6=>
  .call (qm (a:=r6) (b:=r5) (by rw [q6 d rfl];exact E7 h2) (by rw [q5 n rfl];exact h3)) λr7 q7=>
  .call (xF (v:=r7) (Bj hg q5 q6 q7)) λr8 q8=>
  .r (r5,r6,r8==0) (Bg hg q5 q6 q7 q8)) (by kernel_rfl)
noncomputable abbrev xr:Ent:=bN wd sO φRe rRe
end Go.WE

namespace Go.WE
open Go Go.Ab Go.Proofs
set_option linter.unusedSectionVars false
def oD (b:Bool) (n d:Nat):AV:=.agg [.str (bif b then [45]++dec n else dec n),.str (dec d)]
def φWr (x:Bool×Nat×Nat):AV×List AO:=(.tup [oD x.1 x.2.1 x.2.2,.bool true],[])
def frA (x:Bool×Nat×Nat):AV:=.agg [.bool x.1,ao B9 x.2.1,ao B9 x.2.2]
def φSm (x:Bool×Nat×Nat):AV×List AO:=(frA x,[])
end Go.WE

namespace Go.WE
open Go Go.Ab Go.Proofs
set_option linter.unusedSectionVars false
def dL (b:Bool) (n d:Nat):Bool×Nat×Nat:=(b&&!(n==0),n / Nat.gcd d n,d / Nat.gcd d n)
theorem pB {x y:Bool×Nat×Nat} (h:frA x=frA y):x=y:=by
 unfold frA at h
 injection h with h
 injection h with h1 h
 injection h with h2 h
 injection h with h3 _
 injection h1 with h1
 obtain ⟨a,b,c⟩:=x
 obtain ⟨a',b',c'⟩:=y
 have h1:a=a':=h1
 have h2:b=b':=bJ b9 h2
 have h3:c=c':=bJ b9 h3
 rw [h1,h2,h3]
def rWr (l:List AV) (_:List AO) (x:Bool×Nat×Nat):Prop:=∀y,l=[frA y]->x=dL y.1 y.2.1 y.2.2
theorem rWr.mk {y x:Bool×Nat×Nat} {os:List AO} (h:x=dL y.1 y.2.1 y.2.2):rWr [frA y] os x:=λy' e=>by
 injection e with e _
 rw [<-pB e];exact h
def rSu (l:List AV) (_:List AO) (x:Bool×Nat×Nat):Prop:=∀y z,l=[frA y,frA z]->x=(bif y.1==z.1 then (y.1,y.2.1*z.2.2+z.2.1*y.2.2,y.2.2*z.2.2) else bif Nat.ble (z.2.1*y.2.2) (y.2.1*z.2.2) then (y.1,y.2.1*z.2.2 - z.2.1*y.2.2,y.2.2*z.2.2) else (z.1,z.2.1*y.2.2 - y.2.1*z.2.2,y.2.2*z.2.2))
theorem rSu.mk {y z x:Bool×Nat×Nat} {os:List AO} (h:x=(bif y.1==z.1 then (y.1,y.2.1*z.2.2+z.2.1*y.2.2,y.2.2*z.2.2) else bif Nat.ble (z.2.1*y.2.2) (y.2.1*z.2.2) then (y.1,y.2.1*z.2.2 - z.2.1*y.2.2,y.2.2*z.2.2) else (z.1,z.2.1*y.2.2 - y.2.1*z.2.2,y.2.2*z.2.2))):rSu [frA y,frA z] os x:=λy' z' e=>by
 injection e with e1 e
 injection e with e2 _
 rw [<-pB e1,<-pB e2];exact h
theorem dF {v:Nat} (h:v < 1000000000000000000):dl B9 v<=2:=eh b9 h
theorem ze {v:Nat} (h:dl B9 v<=2):v < 1000000000000000000:=Nat.lt_of_lt_of_le (lM (v:=v) b9) (Nat.le_trans (Nat.pow_le_pow_right (by decide) h) (by decide))
theorem qL {v:Nat} (h:v < 1000000000000000000):dl1 v<=18:=vS (by decide) (eh (by decide) h)
theorem C9 {n m:Nat} (h:dl B9 n<=2):dl B9 (n / m)<=400:=Nat.le_trans (eX b9 (Nat.div_le_self _ _)) (by omega)
theorem vW {n m:Nat} (h:dl B9 n<=2):dl1 (n / m)<=18:=qL (Nat.lt_of_le_of_lt (Nat.div_le_self _ _) (ze h))
theorem Da {n d g:Nat} (hd:dl B9 d<=2) (h0:0 < d) (q:rB B9 (λa b x=>x=Nat.gcd a b) [ao B9 d,ao B9 n] [] g):1<=dl B9 g/\dl B9 g<=2:=by
 have e:g=Nat.gcd d n:=q d n rfl
 have h1:0 < g:=by rw [e];exact Nat.gcd_pos_of_pos_left _ h0
 have h2:g<=d:=by rw [e];exact Nat.gcd_le_left _ h0
 have h3:dl B9 g≠0:=λe=>by have:=(fw b9).1 e;omega
 exact ⟨by omega,Nat.le_trans (eX b9 h2) hd⟩
abbrev qD (a b:Nat) (r:Nat×Nat):Prop:=rB B9 (λa b x=>x=(a / b,a % b)) [ao B9 a,ao B9 b] [] r
section
variable {n d g:Nat} {r2 r3:Nat×Nat} {r4 r5:Txt}
theorem yg {p:Prop} (hn:dl B9 n<=2) (hd:dl B9 d<=2) (q2:qD n g r2) (q3:qD d g r3) (q4:rU B9 (λv x=>x=dec v) [ao B9 r2.1] [] r4) (q5:rU B9 (λv x=>x=dec v) [ao B9 r3.1] [] r5) (h:(bif decide (((List.length r4:Nat):Int) > 400) then true else decide (((List.length r5:Nat):Int) > 400))=true):p:=by
 have e4:r4=dec r2.1:=q4 _ rfl
 have e5:r5=dec r3.1:=q5 _ rfl
 have a2:r2=(n / g,n % g):=q2 n g rfl
 have a3:r3=(d / g,d % g):=q3 d g rfl
 have l1:=vW (m:=g) hn
 have l2:=vW (m:=g) hd
 rw [e4,e5,dq,dq,a2,a3,decide_eq_false (by show ¬ ((dl1 (n / g):Int) > 400);omega),decide_eq_false (by show ¬ ((dl1 (d / g):Int) > 400);omega)] at h
 cases h
theorem Ei (q4:rU B9 (λv x=>x=dec v) [ao B9 r2.1] [] r4) (q5:rU B9 (λv x=>x=dec v) [ao B9 r3.1] [] r5):Tr (.tup [.agg [.str ([45]++r4),.str r5],.bool true],[]) (φWr (true,r2.1,r3.1)):=by
 have e4:r4=dec r2.1:=q4 _ rfl
 have e5:r5=dec r3.1:=q5 _ rfl
 rw [e4,e5];exact Tr.refl _
theorem Eh (q4:rU B9 (λv x=>x=dec v) [ao B9 r2.1] [] r4) (q5:rU B9 (λv x=>x=dec v) [ao B9 r3.1] [] r5):Tr (.tup [.agg [.str r4,.str r5],.bool true],[]) (φWr (false,r2.1,r3.1)):=by
 have e4:r4=dec r2.1:=q4 _ rfl
 have e5:r5=dec r3.1:=q5 _ rfl
 rw [e4,e5];exact Tr.refl _
variable (h0:0 < d) (q1:rB B9 (λa b x=>x=Nat.gcd a b) [ao B9 d,ao B9 n] [] g) (q2:qD n g r2)
include h0 q1 q2
theorem C8:dl B9 r2.1=0↔n=0:=by
 have e1:g=Nat.gcd d n:=q1 d n rfl
 have a2:r2=(n / g,n % g):=q2 n g rfl
 rw [fw b9,a2]
 show n / g=0↔n=0
 constructor
 ·intro h
  have h1:g ∣ n:=by rw [e1];exact Nat.gcd_dvd_right _ _
  have:=Nat.div_mul_cancel h1
  rw [h,Nat.zero_mul] at this;exact this.symm
 ·intro h;rw [h,Nat.zero_div]
theorem Ek {b:Bool} (h:(bif b then decide (((dl B9 r2.1:Nat):Int) > 0) else false)=true):(b&&!(n==0))=true:=by
 cases b with
 | false=>cases h
 | true=>
  have h:=of_decide_eq_true h
  have:=C8 h0 q1 q2
  have:n≠0:=λe=>by have:=this.2 e;omega
  simp [this]
theorem Ej {b:Bool} (h:(bif b then decide (((dl B9 r2.1:Nat):Int) > 0) else false)=false):(b&&!(n==0))=false:=by
 cases b with
 | false=>rfl
 | true=>
  have h:=of_decide_eq_false h
  have:=(C8 h0 q1 q2).1 (by omega)
  rw [this];rfl
theorem yf {b w:Bool} (q3:qD d g r3) (h:(b&&!(n==0))=w):rWr [frA (b,n,d)] [] (w,r2.1,r3.1):=by
 have e1:g=Nat.gcd d n:=q1 d n rfl
 have a2:r2=(n / g,n % g):=q2 n g rfl
 have a3:r3=(d / g,d % g):=q3 d g rfl
 refine rWr.mk ?_
 rw [a2,a3,e1,<-h];rfl
end
theorem kf {b:Bool} {n d:Nat} (hn:dl B9 n<=2) (hd:dl B9 d<=2) (h0:0 < d):aR wd jj φWr rWr [frA (b,n,d)] []:=
 lx (V:=V0) [DT,Cj,Gx] 4 (.call (qm (a:=d) (b:=n) (by omega) hn) λr1 q1=>
  .call (my (a:=n) (b:=r1) (by omega) (Da hd h0 q1)) λr2 q2=>
  .call (my (a:=d) (b:=r1) (by omega) (Da hd h0 q1)) λr3 q3=>
  .call (kM (v:=r2.1) (by rw [q2 n r1 rfl];exact C9 hn)) λr4 q4=>
  .call (kM (v:=r3.1) (by rw [q3 d r1 rfl];exact C9 hd)) λr5 q5=>
  .b (bif decide ((↑(List.length r4):Int) > 400) then true else decide ((↑(List.length r5):Int) > 400)) (λh6=>
   .t (r:=(.tup [.agg [.str [],.str []],.bool false],[])) default (yg hn hd q2 q3 q4 q5 h6) (yg hn hd q2 q3 q4 q5 h6)) λh6=>
  .b (bif b then decide ((↑(dl B9 r2.1):Int) > 0) else false) (λh7=>
   .n (c:=Nat.ble (List.length ([45])+List.length r4) 4611686018427387904) (Nat.ble_eq_true_of_le (by rw [q4 r2.1 rfl,dq,q2 n r1 rfl];have:=vW (m:=r1) hn;show 1+dl1 (n / r1)<=_;omega)) (
   .t (r:=(.tup [.agg [.str ([45]++r4),.str r5],.bool true],[])) (true,r2.1,r3.1) (yf h0 q1 q2 q3 (Ek h0 q1 q2 h7)) (Ei q4 q5))) λh7=>
  .t (r:=(.tup [.agg [.str r4,.str r5],.bool true],[])) (false,r2.1,r3.1) (yf h0 q1 q2 q3 (Ej h0 q1 q2 h7)) (Eh q4 q5)) (by kernel_rfl)
noncomputable abbrev qK:Ent:=bN wd jj φWr rWr
section
variable {b c:Bool} {n d m e r1 r2 r3 r:Nat}
theorem xS {z:Int} (q:z=kd r1 r2) (h:decide (z≥0)=true):r2<=r1:=by
 have h:=of_decide_eq_true h
 rcases Nat.lt_or_ge r1 r2 with h1 | h1
 ·rw [q,jz h1] at h;omega
 ·exact h1
theorem yD {z:Int} (q:z=kd r1 r2) (h:decide (z≥0)=false):r1 < r2:=by
 have h:=of_decide_eq_false h
 rcases Nat.lt_or_ge r1 r2 with h1 | h1
 ·exact h1
 ·exfalso
  rcases Nat.lt_or_ge r2 r1 with h2 | h2
  ·rw [q,ld h2] at h;omega
  ·rw [q,lf (by omega)] at h;omega
theorem Dh (h:(b==c)=true) (e1:r1=n*e) (e2:r2=m*d) (e3:r3=d*e) (e4:r=r1+r2):(b,r,r3)=(bif b==c then (b,n*e+m*d,d*e) else bif Nat.ble (m*d) (n*e) then (b,n*e - m*d,d*e) else (c,m*d - n*e,d*e)):=by
 rw [h,cond_true,e4,e1,e2,e3]
theorem Dg (h:(b==c)=false) (e1:r1=n*e) (e2:r2=m*d) (e3:r3=d*e) (hl:r2<=r1) (e4:r=r1 - r2):(b,r,r3)=(bif b==c then (b,n*e+m*d,d*e) else bif Nat.ble (m*d) (n*e) then (b,n*e - m*d,d*e) else (c,m*d - n*e,d*e)):=by
 rw [h,cond_false,Nat.ble_eq_true_of_le (by rw [<-e1,<-e2];exact hl),cond_true,e4,e1,e2,e3]
theorem C1 {a b:Nat} (h:b < a):Nat.ble a b=false:=by
 cases e:Nat.ble a b with
 | false=>rfl
 | true=>have:a<=b:=Nat.le_of_ble_eq_true e;omega
theorem Df (h:(b==c)=false) (e1:r1=n*e) (e2:r2=m*d) (e3:r3=d*e) (hl:r1 < r2) (e4:r=r2 - r1):(c,r,r3)=(bif b==c then (b,n*e+m*d,d*e) else bif Nat.ble (m*d) (n*e) then (b,n*e - m*d,d*e) else (c,m*d - n*e,d*e)):=by
 rw [h,cond_false,C1 (by rw [<-e1,<-e2];exact hl),cond_false,e4,e1,e2,e3]
end
theorem yw {b c:Bool} {n d m e:Nat} (h1:dl B9 n<=500) (h2:dl B9 d<=500) (h3:dl B9 m<=500) (h4:dl B9 e<=500) (h5:dl B9 (n*e)<=900) (h6:dl B9 (m*d)<=900):aR wd uD φSm rSu [frA (b,n,d),frA (c,m,e)] []:=
 lx (V:=V0) [DS,Gz,Gw,Cl] 4 (.call (gC (v:=n) (w:=e) h1 h4) λr1 q1=>
  .call (gC (v:=m) (w:=d) h3 h2) λr2 q2=>
  .call (gC (v:=d) (w:=e) h2 h4) λr3 q3=>
  .b (b==c) (λh4_=>
   .call (uI (v:=r1) (w:=r2) (by rw [q1 n e rfl];exact h5) (by rw [q2 m d rfl];exact h6)) λr5 q5=>
   .r (b,r5,r3) (rSu.mk (Dh h4_ (q1 n e rfl) (q2 m d rfl) (q3 d e rfl) (q5 r1 r2 rfl)))) λh4_=>
  .call (mz (v:=r1) (w:=r2) (by rw [q1 n e rfl];omega) (by rw [q2 m d rfl];omega)) λr6 q6=>
  .b (decide (r6≥0)) (λh7=>
   .call (ql (v:=r1) (w:=r2) (by rw [q1 n e rfl];omega) (xS (q6 r1 r2 rfl) h7)) λr8 q8=>
   .r (b,r8,r3) (rSu.mk (Dg h4_ (q1 n e rfl) (q2 m d rfl) (q3 d e rfl) (xS (q6 r1 r2 rfl) h7) (q8 r1 r2 rfl)))) λh7=>
  .call (ql (v:=r2) (w:=r1) (by rw [q2 m d rfl];omega) (Nat.le_of_lt (yD (q6 r1 r2 rfl) h7))) λr9 q9=>
  .r (c,r9,r3) (rSu.mk (Df h4_ (q1 n e rfl) (q2 m d rfl) (q3 d e rfl) (yD (q6 r1 r2 rfl) h7) (q9 r2 r1 rfl)))) (by kernel_rfl)
noncomputable abbrev DR:Ent:=bN wd uD φSm rSu
end Go.WE

namespace Go.WE
open Go Go.Ab Go.Proofs
set_option linter.unusedSectionVars false
structure Fr (n d:Nat):Prop where
 n':n < 1000000000000000000
 d':d < 1000000000000000000
 p':0 < d
 g':Nat.gcd d n=1
theorem Fr.read {n d:Nat} (h:Fr n d):aR wd sO φRe rRe [rat n d] []:=
 wx (Nat.le_trans (qL h.n') (by decide)) (Nat.le_trans (qL h.d') (by decide)) (dF h.n') h.p' h.g'
def ji (F:Nat->Nat->Nat->Nat->Bool×Nat×Nat->Prop) (l:List AV) (_:List AO) (x:Bool×Nat×Nat):Prop:=∀n d m e,l=[rat n d,rat m e]->F n d m e x
theorem ji.mk {F:Nat->Nat->Nat->Nat->Bool×Nat×Nat->Prop} {n d m e:Nat} {os:List AO} {x:Bool×Nat×Nat} (h:F n d m e x):ji F [rat n d,rat m e] os x:=λn' d' m' e' q=>by
 injection q with q1 q
 injection q with q2 _
 obtain ⟨rfl,rfl⟩:=mr q1
 obtain ⟨rfl,rfl⟩:=mr q2
 exact h
section
variable {n d m e:Nat} {r1 r2:Nat×Nat×Bool} {r4 r5:Bool×Nat×Nat}
theorem oA (q1:rRe [rat n d] [] r1):r1=(n,d,true):=q1 n d rfl
theorem rM {p:Prop} (q1:rRe [rat n d] [] r1) (q2:rRe [rat m e] [] r2) (h:(bif !r1.2.2 then true else !r2.2.2)=true):p:=by
 rw [oA q1,oA q2] at h;cases h
theorem Ed {c:Bool} (q1:rRe [rat n d] [] r1) (q2:rRe [rat m e] [] r2) (h1:Fr n d) (h2:Fr m e):aR wd uD φSm rSu [frA (false,r1.1,r1.2.1),frA (c,r2.1,r2.2.1)] []:=by
 rw [oA q1,oA q2]
 show aR wd uD φSm rSu [frA (false,n,d),frA (c,m,e)] []
 have a1:=dF h1.n';have a2:=dF h1.d';have a3:=dF h2.n';have a4:=dF h2.d'
 refine yw (by omega) (by omega) (by omega) (by omega) ?_ ?_
 ·refine Nat.le_trans (eh (n:=4) b9 ?_) (by decide)
  exact Nat.lt_of_lt_of_le (Nat.mul_lt_mul_of_lt_of_le h1.n' (Nat.le_of_lt h2.d') (by decide)) (by decide)
 ·refine Nat.le_trans (eh (n:=4) b9 ?_) (by decide)
  exact Nat.lt_of_lt_of_le (Nat.mul_lt_mul_of_lt_of_le h2.n' (Nat.le_of_lt h1.d') (by decide)) (by decide)
abbrev qS (c:Bool) (r1 r2:Nat×Nat×Bool) (r4:Bool×Nat×Nat):Prop:=rSu [frA (false,r1.1,r1.2.1),frA (c,r2.1,r2.2.1)] [] r4
theorem Ee (q1:rRe [rat n d] [] r1) (q2:rRe [rat m e] [] r2) (q4:qS false r1 r2 r4):r4=(false,n*e+m*d,d*e):=by
 have:=q4 _ _ rfl
 rw [this,oA q1,oA q2];rfl
theorem Hn (q1:rRe [rat n d] [] r1) (q2:rRe [rat m e] [] r2) (q4:qS false r1 r2 r4) (h1:Fr n d) (h2:Fr m e) (h3:n*e+m*d < 1000000000000000000) (h4:d*e < 1000000000000000000):aR wd jj φWr rWr [frA (r4.1,r4.2.1,r4.2.2)] []:=by
 rw [Ee q1 q2 q4]
 exact kf (dF h3) (dF h4) (Nat.mul_pos h1.p' h2.p')
theorem C6 (q1:rRe [rat n d] [] r1) (q2:rRe [rat m e] [] r2) (q4:qS false r1 r2 r4) (q5:rWr [frA (r4.1,r4.2.1,r4.2.2)] [] r5):ji (λn d m e x=>x=dL false (n*e+m*d) (d*e)) [rat n d,rat m e] [] r5:=ji.mk (by rw [q5 _ rfl,Ee q1 q2 q4])
def gap (a b:Nat):Nat:=(a - b)+(b - a)
theorem Dp (q1:rRe [rat n d] [] r1) (q2:rRe [rat m e] [] r2) (q4:qS (!false) r1 r2 r4):r4=(!Nat.ble (m*d) (n*e),gap (n*e) (m*d),d*e):=by
 have:=q4 _ _ rfl
 rw [this,oA q1,oA q2]
 show (bif Nat.ble (m*d) (n*e) then (false,n*e - m*d,d*e) else (true,m*d - n*e,d*e))=_
 unfold gap
 cases h:Nat.ble (m*d) (n*e) with
 | true=>
  have:m*d<=n*e:=Nat.le_of_ble_eq_true h
  rw [show m*d - n*e=0 by omega];rfl
 | false=>
  have:n*e - m*d=0:=by
   rcases Nat.lt_or_ge (n*e) (m*d) with h2 | h2
   ·omega
   ·rw [Nat.ble_eq_true_of_le h2] at h;cases h
  rw [this,Nat.zero_add];rfl
theorem E4 (q1:rRe [rat n d] [] r1) (q2:rRe [rat m e] [] r2) (q4:qS (!false) r1 r2 r4) (h1:Fr n d) (h2:Fr m e) (h3:n*e+m*d < 1000000000000000000) (h4:d*e < 1000000000000000000):aR wd jj φWr rWr [frA (r4.1,r4.2.1,r4.2.2)] []:=by
 rw [Dp q1 q2 q4]
 exact kf (dF (by show gap (n*e) (m*d) < _;unfold gap;omega)) (dF h4) (Nat.mul_pos h1.p' h2.p')
theorem Bb (q1:rRe [rat n d] [] r1) (q2:rRe [rat m e] [] r2) (q4:qS (!false) r1 r2 r4) (q5:rWr [frA (r4.1,r4.2.1,r4.2.2)] [] r5):ji (λn d m e x=>x=dL (!Nat.ble (m*d) (n*e)) (gap (n*e) (m*d)) (d*e)) [rat n d,rat m e] [] r5:=ji.mk (by rw [q5 _ rfl,Dp q1 q2 q4])
variable {r7 r8:Nat}
theorem GC (q1:rRe [rat n d] [] r1) (q2:rRe [rat m e] [] r2) (h1:Fr n d) (h2:Fr m e):aR wd cL φN9 (rB B9 λv w x=>x=v*w) [ao B9 r1.1,ao B9 r2.2.1] []:=by
 rw [oA q1,oA q2]
 exact gC (Nat.le_trans (dF h1.n') (by decide)) (Nat.le_trans (dF h2.d') (by decide))
theorem GB (q1:rRe [rat n d] [] r1) (q2:rRe [rat m e] [] r2) (h1:Fr n d) (h2:Fr m e):aR wd cL φN9 (rB B9 λv w x=>x=v*w) [ao B9 r1.2.1,ao B9 r2.1] []:=by
 rw [oA q1,oA q2]
 exact gC (Nat.le_trans (dF h1.d') (by decide)) (Nat.le_trans (dF h2.n') (by decide))
abbrev qM (a b r:Nat):Prop:=rB B9 (λv w x=>x=v*w) [ao B9 a,ao B9 b] [] r
theorem zG {p:Prop} (q2:rRe [rat m e] [] r2) (hm:0 < m) (h:(!decide (((dl B9 r2.1:Nat):Int) > 0))=true):p:=by
 have:dl B9 r2.1≠0:=λh0=>by
  have:=(fw b9).1 h0
  rw [oA q2] at this
  have:m=0:=this
  omega
 rw [decide_eq_true (by omega)] at h;cases h
theorem GA (q1:rRe [rat n d] [] r1) (q2:rRe [rat m e] [] r2) (q4:qM r1.1 r2.2.1 r7) (q5:qM r1.2.1 r2.1 r8) (h1:Fr n d) (h2:Fr m e) (h3:n*e < 1000000000000000000) (h4:d*m < 1000000000000000000) (hm:0 < m):aR wd jj φWr rWr [frA (!(false==false),r7,r8)] []:=by
 rw [q4 _ _ rfl,q5 _ _ rfl,oA q1,oA q2]
 exact kf (dF h3) (dF h4) (Nat.mul_pos h1.p' hm)
theorem Cm (q1:rRe [rat n d] [] r1) (q2:rRe [rat m e] [] r2) (q4:qM r1.1 r2.2.1 r7) (q5:qM r1.2.1 r2.1 r8) (q7:rWr [frA (!(false==false),r7,r8)] [] r5):ji (λn d m e x=>x=dL false (n*e) (d*m)) [rat n d,rat m e] [] r5:=ji.mk (by rw [q7 _ rfl,q4 _ _ rfl,q5 _ _ rfl,oA q1,oA q2];rfl)
end
theorem An {n d m e:Nat} (h1:Fr n d) (h2:Fr m e) (h3:n*e+m*d < 1000000000000000000) (h4:d*e < 1000000000000000000):aR wd wF φWr (ji λn d m e x=>x=dL false (n*e+m*d) (d*e)) [rat n d,rat m e] []:=
 lx (V:=V0) [xr,DR,qK] 4 (.call (h1.read) λr1 q1=>
  .call (h2.read) λr2 q2=>
  .b (bif !r1.2.2 then true else !r2.2.2) (λh3_=>
   .t (r:=(.tup [.agg [.str [],.str []],.bool false],[])) default (rM q1 q2 h3_) (rM q1 q2 h3_)) λh3_=>
  .call (Ed q1 q2 h1 h2) λr4 q4=>
  .call (Hn q1 q2 q4 h1 h2 h3 h4) λr5 q5=>
  .r r5 (C6 q1 q2 q4 q5)) (by kernel_rfl)
theorem yy {n d m e:Nat} (h1:Fr n d) (h2:Fr m e) (h3:n*e+m*d < 1000000000000000000) (h4:d*e < 1000000000000000000):aR wd wD φWr (ji λn d m e x=>x=dL (!Nat.ble (m*d) (n*e)) (gap (n*e) (m*d)) (d*e)) [rat n d,rat m e] []:=
 lx (V:=V0) [xr,DR,qK] 4 (.call (h1.read) λr1 q1=>
  .call (h2.read) λr2 q2=>
  .b (bif !r1.2.2 then true else !r2.2.2) (λh3_=>
   .t (r:=(.tup [.agg [.str [],.str []],.bool false],[])) default (rM q1 q2 h3_) (rM q1 q2 h3_)) λh3_=>
  .call (Ed q1 q2 h1 h2) λr4 q4=>
  .call (E4 q1 q2 q4 h1 h2 h3 h4) λr5 q5=>
  .r r5 (Bb q1 q2 q4 q5)) (by kernel_rfl)
theorem zV {n d m e:Nat} (h1:Fr n d) (h2:Fr m e) (h3:n*e < 1000000000000000000) (h4:d*m < 1000000000000000000) (hm:0 < m):aR wd wE φWr (ji λn d m e x=>x=dL false (n*e) (d*m)) [rat n d,rat m e] []:=
 lx (V:=V0) [xr,DS,qK] 4 (.call (h1.read) λr1 q1=>
  .call (h2.read) λr2 q2=>
  .b (bif !r1.2.2 then true else !r2.2.2) (λh3_=>
   .t (r:=(.tup [.agg [.str [],.str []],.bool false],[])) default (rM q1 q2 h3_) (rM q1 q2 h3_)) λh3_=>
  .call (GC q1 q2 h1 h2) λr4 q4=>
  .call (GB q1 q2 h1 h2) λr5 q5=>
  .b (!decide ((↑(dl B9 r2.1):Int) > 0)) (λh6=>
   .t (r:=(.tup [.agg [.str [],.str []],.bool false],[])) default (zG q2 hm h6) (zG q2 hm h6)) λh6=>
  .call (GA q1 q2 q4 q5 h1 h2 h3 h4 hm) λr7 q7=>
  .r r7 (Cm q1 q2 q4 q5 q7)) (by kernel_rfl)
noncomputable abbrev Cg:Ent:=bN wd wF φWr (ji λn d m e x=>x=dL false (n*e+m*d) (d*e))
noncomputable abbrev Cd:Ent:=bN wd wD φWr (ji λn d m e x=>x=dL (!Nat.ble (m*d) (n*e)) (gap (n*e) (m*d)) (d*e))
noncomputable abbrev Cf:Ent:=bN wd wE φWr (ji λn d m e x=>x=dL false (n*e) (d*m))
section
variable {n d:Int} {a b:Nat} {r:Bool×Nat×Nat}
theorem uP {p:Prop} (h0:d≠0) (h:(d==0)=true):p:=absurd (eq_of_beq h) h0
theorem Bz {n:Int} (h:decide (n < 0)=true) (hn:n.natAbs < 1000000000000000000):aR wd jl φN9 (mu B9) [.int .u64 (IntKind.wrap .u64 (0 - IntKind.wrap .u64 n))] []:=by
 have:=of_decide_eq_true h
 rw [show IntKind.wrap .u64 (0 - IntKind.wrap .u64 n)=((n.natAbs:Nat):Int) by simp only [wL];omega]
 exact jk (by omega)
theorem Bx {n:Int} (h:decide (n < 0)=false) (hn:n.natAbs < 1000000000000000000):aR wd jl φN9 (mu B9) [.int .u64 (IntKind.wrap .u64 n)] []:=by
 have:=of_decide_eq_false h
 rw [show IntKind.wrap .u64 n=((n.natAbs:Nat):Int) by simp only [wL];omega]
 exact jk (by omega)
theorem nM {n:Int} (h:decide (n < 0)=true) (hn:n.natAbs < 1000000000000000000) {x:Nat} (q:mu B9 [.int .u64 (IntKind.wrap .u64 (0 - IntKind.wrap .u64 n))] [] x):x=n.natAbs:=by
 have:=of_decide_eq_true h
 exact q n.natAbs (by rw [show IntKind.wrap .u64 (0 - IntKind.wrap .u64 n)=((n.natAbs:Nat):Int) by simp only [wL];omega])
theorem nL {n:Int} (h:decide (n < 0)=false) (hn:n.natAbs < 1000000000000000000) {x:Nat} (q:mu B9 [.int .u64 (IntKind.wrap .u64 n)] [] x):x=n.natAbs:=by
 have:=of_decide_eq_false h
 exact q n.natAbs (by rw [show IntKind.wrap .u64 n=((n.natAbs:Nat):Int) by simp only [wL];omega])
def ofT (n d:Int):Bool×Nat×Nat:=dL (!(decide (n < 0)==decide (d < 0))) n.natAbs d.natAbs
def rOf (l:List AV) (_:List AO) (x:Bool×Nat×Nat):Prop:=∀n d:Int,l=[.int .i64 n,.int .i64 d]->x=ofT n d
theorem AA (ha:a=n.natAbs) (hb:b=d.natAbs) (hn:n.natAbs < 1000000000000000000) (hd:d.natAbs < 1000000000000000000) (h0:d≠0):aR wd jj φWr rWr [frA (!(decide (n < 0)==decide (d < 0)),a,b)] []:=by
 rw [ha,hb]
 exact kf (dF hn) (dF hd) (by omega)
theorem uO (ha:a=n.natAbs) (hb:b=d.natAbs) (q:rWr [frA (!(decide (n < 0)==decide (d < 0)),a,b)] [] r):rOf [.int .i64 n,.int .i64 d] [] r:=λn' d' e=>by
 injection e with e1 e
 injection e with e2 _
 injection e1 with _ e1
 injection e2 with _ e2
 rw [<-e1,<-e2,q _ rfl,ha,hb];rfl
end
theorem wM {n d:Int} (hn:n.natAbs < 1000000000000000000) (hd:d.natAbs < 1000000000000000000) (h0:d≠0):aR wd yU φWr rOf [.int .i64 n,.int .i64 d] []:=
 lx (V:=V0) [tG,qK] 4 (.b (d==0) (λh1=>
   .t (r:=(.tup [.agg [.str [],.str []],.bool false],[])) default (uP h0 h1) (uP h0 h1)) λh1=>
  .b (decide (n < 0)) (λh2=>
   .call (Bz h2 hn) λr3 q3=>
   .b (decide (d < 0)) (λh4=>
    .call (Bz h4 hd) λr5 q5=>
    .call (AA (nM h2 hn q3) (nM h4 hd q5) hn hd h0) λr6 q6=>
    .r r6 (uO (nM h2 hn q3) (nM h4 hd q5) q6)) λh4=>
   .call (Bx h4 hd) λr7 q7=>
   .call (AA (nM h2 hn q3) (nL h4 hd q7) hn hd h0) λr8 q8=>
   .r r8 (uO (nM h2 hn q3) (nL h4 hd q7) q8)) λh2=>
  .call (Bx h2 hn) λr9 q9=>
  .b (decide (d < 0)) (λh10=>
   .call (Bz h10 hd) λr11 q11=>
   .call (AA (nL h2 hn q9) (nM h10 hd q11) hn hd h0) λr12 q12=>
   .r r12 (uO (nL h2 hn q9) (nM h10 hd q11) q12)) λh10=>
  .call (Bx h10 hd) λr13 q13=>
  .call (AA (nL h2 hn q9) (nL h10 hd q13) hn hd h0) λr14 q14=>
  .r r14 (uO (nL h2 hn q9) (nL h10 hd q13) q14)) (by kernel_rfl)
noncomputable abbrev Ce:Ent:=bN wd yU φWr rOf
end Go.WE

namespace Go.WE
open Go Go.Ab Go.Proofs
set_option linter.unusedSectionVars false
abbrev BW:Nat:=4294967296
theorem bw:1 < BW:=by decide
abbrev φNW:=φN BW
def φIn (x:Nat):AV×List AO:=(.int .i64 (x:Int),[])
def φDi (x:Nat):AV×List AO:=(.int .u64 (x:Int),[])
def φ2W (x:Nat×Nat):AV×List AO:=(.tup [ao BW x.1,ao BW x.2],[])
def FtI (n:Nat) (g:Nat->Nat) (x:Nat):Prop:=Row BW n g/\x<=n/\∀j,x<=j->j < n->g j=0
section
variable {n x:Nat} {g:Nat->Nat} (hx:FtI n g x)
include hx
theorem xk (h:(bif decide ((x:Int) > 0) then ((g (Int.toNat (IntKind.wrap .i64 ((x:Int) - 1))):Nat):Int)==0 else false)=true):0 < x/\g (x - 1)=0:=by
 have h0:0 < x:=by
  cases hd:decide ((x:Int) > 0) with
  | true=>have:=of_decide_eq_true hd;omega
  | false=>rw [hd] at h;cases h
 rw [decide_eq_true (show ((x:Int) > 0) by omega),gX h0 (by have:=hx.1.1;have:=hx.2.1;omega)] at h
 have h:(((g (x - 1):Nat):Int)==0)=true:=h
 have:=eq_of_beq h
 exact ⟨h0,by omega⟩
theorem B0 (h:(bif decide ((x:Int) > 0) then ((g (Int.toNat (IntKind.wrap .i64 ((x:Int) - 1))):Nat):Int)==0 else false)=true):FtI n g (x - 1):=by
 have h1:=xk hx h
 refine ⟨hx.1,by have:=hx.2.1;omega,λj h2 h3=>?_⟩
 by_cases e:j=x - 1
 ·rw [e];exact h1.2
 ·exact hx.2.2 j (by omega) h3
theorem BZ (h:(bif decide ((x:Int) > 0) then ((g (Int.toNat (IntKind.wrap .i64 ((x:Int) - 1))):Nat):Int)==0 else false)=false):FtI n g x/\Nrm BW g x:=by
 refine ⟨hx,λi hi=>hx.1.2 i (by have:=hx.2.1;omega),λh0 hz=>?_⟩
 rw [decide_eq_true (show ((x:Int) > 0) by omega),gX (by omega) (by have:=hx.1.1;have:=hx.2.1;omega)] at h
 have h:(((g (x - 1):Nat):Int)==0)=false:=h
 rw [hz] at h;cases h
end
theorem pF (n:Nat) (g:Nat->Nat):∃ (u:St->Bool) (z:St->Nat),(∀x:Nat,FtI n g x->bq u z {env:=[(0,lz n g),(3,.int .i64 (x:Int))],objs:=[]} λ(x:Nat)=>FtI n g x/\Nrm BW g x)/\∀L:List (List Nat×Orc),aE (V0.run [] 2 [] L [] k0) k0 [1,1,0,0] (mkO u z λ(x:Nat) k=>k (.exit 0) {env:=[(0,lz n g),(3,.int .i64 (x:Int))],objs:=[]}):=
 aQ (Lf:=λL=>L) (λx:Nat=>{env:=[(0,lz n g),(3,.int .i64 (x:Int))],objs:=[]}) (FtI n g) (λx=>x) (λ(x:Nat) k=>k (.exit 0) {env:=[(0,lz n g),(3,.int .i64 (x:Int))],objs:=[]}) (λ(x:Nat)=>FtI n g x/\Nrm BW g x) (by kernel_rfl)
  (λx hx=>.n (c:=bif within (IntKind.wrap IntKind.i64 ((↑x:Int) - 1)) n then true else !bif decide ((↑x:Int) > 0)==true then true else false) (by
     by_cases h:0 < x
     ·rw [gX h (by have:=hx.1.1;have:=hx.2.1;omega),ag (by have:=hx.2.1;omega)];rfl
     ·rw [decide_eq_false (show ¬ ((x:Int) > 0) by omega)];cases within (IntKind.wrap .i64 ((x:Int) - 1)) n <;> rfl) (
  .b (bif decide ((↑x:Int) > 0) then (↑(g (Int.toNat (IntKind.wrap IntKind.i64 ((↑x:Int) - 1)))):Int)==0 else false) (λh1=>
   .go {env:=[(0,.sl .no 1 n λj=>[.int .u32 (↑(g j):Int)]),(3,.int .i64 (IntKind.wrap IntKind.i64 ((↑x:Int) - 1)))],objs:=[]} (x - 1) (B0 hx h1) (by have:=xk hx h1;omega) (by rw [gX (xk hx h1).1 (by have:=hx.1.1;have:=hx.2.1;omega)];rfl)) λh1=>
  .fi x (BZ hx h1)))
  (λv L k kn=>by kernel_rfl)
theorem ef {n:Nat} {g:Nat->Nat} (h:Row BW n g):aR wd k0 φNW (j3 BW) [lz n g] []:=by
 obtain ⟨u,z,hu,l1⟩:=pF n g
 refine lb (V:=V0) [] 2 (p:=[1,1,0,0]) l1 (.lp (hu n ⟨h,Nat.le_refl _,λj h1 h2=>by omega⟩) λx hx=>.n (c:=decide (0<=((0:Nat):Int))&&(decide (((0:Nat):Int)<=(x:Int))&&decide ((x:Int)<=(n:Int)))) (by have:=hx.1.2.1;simp;omega)
  (.t (r:=(.sl .no 1 (x - 0) λj=>[.int .u32 (g (0+j):Int)],[])) (vF BW g x) (.mk (kA hx.1.2.1 hx.1.2.2).symm) (.one ?_))) (by kernel_rfl)
 rw [Nat.sub_zero]
 simp only [Nat.zero_add]
 exact told .no bw hx.2 rfl
noncomputable abbrev ig:Ent:=bN wd k0 φNW (j3 BW)
def rDi (l:List AV) (_:List AO) (x:Nat):Prop:=∀v i:Nat,l=[ao BW v,.int .i64 (i:Int)]->x=dg BW v i
theorem dY (v i:Nat):aR wd mM φDi rDi [ao BW v,.int .i64 (i:Int)] []:=by
 refine lx (V:=V0) [] 2 (.b (decide ((i:Int)≥(dl BW v:Int))) (λh=>.r 0 λv' i' e=>?_) λh=>.n (c:=within (i:Int) (dl BW v)) (ag (by have:=of_decide_eq_false h;omega)) (.t (r:=(.int .u64 (IntKind.wrap .u64 ((dg BW v i:Nat):Int)),[])) (dg BW v i) (λv' i' e=>?_) ⟨.inl ?_,.inl rfl⟩)) (by kernel_rfl)
 ·injection e with e1 e
  injection e with e2 _
  injection e2 with _ e2
  rw [<-bJ bw e1,show i'=i by omega,nd bw (by have:=of_decide_eq_true h;omega)]
 ·injection e with e1 e
  injection e with e2 _
  injection e2 with _ e2
  rw [<-bJ bw e1,show i'=i by omega]
 ·show AV.int .u64 ((dg BW v i:Nat):Int)=_
  rw [w64 (x:=dg BW v i) (Nat.lt_trans (show dg BW v i < 4294967296 from aY (by decide)) (by decide))]
noncomputable abbrev xn:Ent:=bN wd mM φDi rDi
def NTI (v:Int):AV:=.sl .fit 1 2 (al [.int .u32 0] [(0,.int .u32 (IntKind.wrap .u32 v)),(1,.int .u32 (IntKind.wrap .u32 (Int.fdiv v (2 ^ min (Int.toNat 32) (IntKind.bits .u64)))))])
theorem fZ {v:Nat} (h:v < 18446744073709551616):aR wd eS φNW (mu BW) [.int .u64 (v:Int)] []:=by
 refine lx (V:=V0) [bN wd k0 φNW (λl _ x=>l=[NTI v]->x=v)] 2 (.call (D:=wd) (f:=k0) (ψ:=φNW) (R:=λl _ x=>l=[NTI v]->x=v) (l:=[NTI v]) (os:=[]) ?_ λx q=>.r x λw e=>by injection e with e;injection e with _ e;rw [q rfl];omega) (by kernel_rfl)
 have e0:dg BW v 0=v % 4294967296:=by unfold dg;rw [Nat.pow_zero,Nat.div_one]
 have e1:dg BW v 1=v / 4294967296:=by unfold dg;rw [Nat.pow_one];exact Nat.mod_eq_of_lt (by show v / 4294967296 < 4294967296;omega)
 obtain ⟨x,hx,hc⟩:=ef (n:=2) (g:=dg BW v) ⟨by decide,λi _=>aY (by decide)⟩
 refine ⟨x,λ_=>?_,Ct.args hc rfl rfl λi u u' hu hu' c w hr=>?_⟩
 ·rw [hx.at rfl,fC bw (eh bw h)]
 ·match i with
  | 0=>
   cases hu;cases hu'
   refine (eK (get':=λj=>[.int .u32 ((dg BW v j:Nat):Int)]) λj hj=>?_).2 _ _ hr
   match j with
   | 0=>
    show [AV.int .u32 ((dg BW v 0:Nat):Int)]=[.int .u32 (IntKind.wrap .u32 (v:Int))]
    rw [e0];rfl
   | 1=>
    show [AV.int .u32 ((dg BW v 1:Nat):Int)]=[.int .u32 (IntKind.wrap .u32 (Int.fdiv (v:Int) 4294967296))]
    rw [e1]
    have:IntKind.wrap .u32 (Int.fdiv (v:Int) 4294967296)=((v / 4294967296:Nat):Int):=by rw [Int.fdiv_eq_ediv_of_nonneg _ (by decide)];exact w32 (x:=v / 4294967296) (by omega)
    rw [this]
   | j+2=>omega
  | i+1=>cases hu
def CwI (v w k:Nat):Prop:=dl BW v=dl BW w/\k<=dl BW v/\(∀i,k<=i->i < dl BW v->dg BW v i=dg BW w i)/\dl BW v<=1000
section
variable {v w k:Nat} (hk:CwI v w k)
include hk
theorem CU (h1:decide ((k:Int) - 1≥0)=true):within ((k:Int) - 1) (dl BW v)=true:=by
 have:=fW h1;have:=hk.2.1
 exact kz (by omega) (by omega)
theorem D8 (h1:decide ((k:Int) - 1≥0)=true):within ((k:Int) - 1) (dl BW w)=true:=by rw [<-hk.1];exact CU hk h1
theorem CS (h1:decide ((k:Int) - 1≥0)=true) (h:decide (((dg BW v (Int.toNat ((k:Int) - 1)):Nat):Int) < ((dg BW w (Int.toNat ((k:Int) - 1)):Nat):Int))=true) : -1=kd v w:=by
 have h:=of_decide_eq_true h
 have:=fW h1;have:=hk.2.1
 rw [xZ h1] at h
 exact (jz (qQ bw hk.1 (k:=k - 1) (by omega) (λi h1 h2=>hk.2.2.1 i (by omega) h2) (by omega))).symm
theorem CT (h1:decide ((k:Int) - 1≥0)=true) (h:decide (((dg BW v (Int.toNat ((k:Int) - 1)):Nat):Int) > ((dg BW w (Int.toNat ((k:Int) - 1)):Nat):Int))=true):1=kd v w:=by
 have h:=of_decide_eq_true h
 have:=fW h1;have:=hk.2.1;have hn:=hk.1
 rw [xZ h1] at h
 exact (ld (qQ bw hk.1.symm (k:=k - 1) (by omega) (λi h1 h2=>(hk.2.2.1 i (by omega) (by omega)).symm) (by omega))).symm
theorem GY (h1:decide ((k:Int) - 1≥0)=true) (h2:decide (((dg BW v (Int.toNat ((k:Int) - 1)):Nat):Int) < ((dg BW w (Int.toNat ((k:Int) - 1)):Nat):Int))=false) (h3:decide (((dg BW v (Int.toNat ((k:Int) - 1)):Nat):Int) > ((dg BW w (Int.toNat ((k:Int) - 1)):Nat):Int))=false):CwI v w (k - 1):=by
 have h2:=of_decide_eq_false h2;have h3:=of_decide_eq_false h3
 have:=fW h1;have:=hk.2.1
 rw [xZ h1] at h2 h3
 refine ⟨hk.1,by omega,λi h4 h5=>?_,hk.2.2.2⟩
 by_cases e:i=k - 1
 ·rw [e];omega
 ·exact hk.2.2.1 i (by omega) h5
theorem GZ (h1:decide ((k:Int) - 1≥0)=false):v=w:=by
 have h0:k=0:=by have:=of_decide_eq_false h1;omega
 exact qO bw hk.1 λi hi=>hk.2.2.1 i (by omega) hi
end
theorem ry (v w:Nat):∃ (u:St->Bool) (z:St->Bool×Int),(∀k:Nat,CwI v w k->bq u z (cmS BW v w k) (CmP v w))/\∀L:List (List Nat×Orc),aE (V0.run [] 2 [] L [] eU) eU [1,1,1,0,1,0] (mkO u z cmO):=
 aQ (Lf:=λL=>L) (cmS BW v w) (CwI v w) (λk=>k) cmO (CmP v w) (by kernel_rfl)
  (λk hk=>.b (decide ((↑k:Int) - 1≥0)) (λh1=>
   .n (c:=within ((↑k:Int) - 1) (dl BW v)) (CU hk h1) (
   .n (c:=within ((↑k:Int) - 1) (dl BW w)) (D8 hk h1) (
   .b (decide ((↑(dg BW v (Int.toNat ((↑k:Int) - 1))):Int) < (↑(dg BW w (Int.toNat ((↑k:Int) - 1))):Int))) (λh2=>
    .fi (true,-1) ⟨λ_=>CS hk h1 h2,λh=>(nomatch h)⟩) λh2=>
   .n (c:=within ((↑k:Int) - 1) (dl BW v)) (CU hk h1) (
   .n (c:=within ((↑k:Int) - 1) (dl BW w)) (D8 hk h1) (
   .b (decide ((↑(dg BW v (Int.toNat ((↑k:Int) - 1))):Int) > (↑(dg BW w (Int.toNat ((↑k:Int) - 1))):Int))) (λh3=>
    .fi (true,1) ⟨λ_=>CT hk h1 h3,λh=>(nomatch h)⟩) λh3=>
   .go {env:=[(0,ao BW v),(1,ao BW w),(5,.int .i64 (IntKind.wrap IntKind.i64 ((↑k:Int) - 1 - 1)))],objs:=[]} (k - 1) (GY hk h1 h2 h3) (by have:=fW h1;omega) (by rw [sR (fW h1) (by have:=hk.2.1;have:=hk.2.2.2;omega)];rfl)))))) λh1=>
  .fi (false,0) ⟨λh=>(nomatch h),λ_=>GZ hk h1⟩)
  (λv L k kn=>by kernel_rfl)
theorem mN {v w:Nat} (h1:dl BW v<=1000):aR wd eU φI (rB BW λv w x=>x=kd v w) [ao BW v,ao BW w] []:=by
 obtain ⟨u,z,hu,l1⟩:=ry v w
 exact lb (V:=V0) [] 2 (p:=[1,1,1,0,1,0]) l1 (.b (decide ((dl BW v:Int) < (dl BW w:Int))) (λh=>.r (-1) (rB.mk bw (jz (k9 bw (aB h))).symm)) λh=>.b (decide ((dl BW v:Int) > (dl BW w:Int))) (λh2=>.r 1 (rB.mk bw (ld (k9 bw (by have:=of_decide_eq_true h2;omega))).symm)) λh2=>
  .lp (s:={env:=[(0,ao BW v),(1,ao BW w),(5,.int .i64 (IntKind.wrap .i64 ((dl BW v:Int) - 1)))],objs:=[]}) (Q:=CmP v w) (by
   rw [wrap_i64 (by omega) (by omega)]
   exact hu (dl BW v) ⟨by have:=aF h;have:=of_decide_eq_false h2;omega,Nat.le_refl _,λi h1 h2=>by omega,h1⟩) λx hx=>.b x.1 (λh=>.r x.2 (rB.mk bw (hx.1 h))) λh=>.r 0 (rB.mk bw (lf (hx.2 h)).symm)) (by kernel_rfl)
noncomputable abbrev AG:Ent:=bN wd eU φI (rB BW λv w x=>x=kd v w)
end Go.WE

namespace Go.WE
open Go Go.Ab Go.Proofs
set_option linter.unusedSectionVars false
def plS (v w:Nat) (x:R3):St:={env:=[(0,ao BW v),(1,ao BW w),(5,.sl (.key 38) 1 x.1 λj=>[.int .u32 (x.2.2 j:Int)]),(6,.int .u64 (x.2.1:Int)),(7,.int .i64 (x.1:Int))],objs:=[(38,.own 1 x.1)]}
def plO (x:R3) (k:Ex->St->Res):Res:=k (.exit 0) {env:=[(5,.sl (.key 38) 1 x.1 λj=>[.int .u32 (x.2.2 j:Int)])],objs:=[(38,.own 1 x.1)]}
structure PlI (v w:Nat) (x:R3):Prop where
 i':x.1<=901
 c':x.2.1<=1
 l':dl BW v<=900/\dl BW w<=900
 n':x.2.1=0∨x.1<=900
 d':∀j,j < x.1->x.2.2 j < 4294967296
 e':vF BW x.2.2 x.1+x.2.1*BW ^ x.1=vF BW (dg BW v) x.1+vF BW (dg BW w) x.1
def PlP (X:Nat) (x:R3):Prop:=x.1<=1000/\(∀j,j < x.1->x.2.2 j < BW)/\vF BW x.2.2 x.1=X
theorem Fu {v w:Nat} (h1:dl BW v<=900) (h2:dl BW w<=900):PlI v w (0,0,λ_=>0):=⟨Nat.zero_le _,Nat.zero_le _,⟨h1,h2⟩,.inl rfl,λj h=>absurd h (Nat.not_lt_zero _),rfl⟩
theorem dgw (v i:Nat):dg BW v i < 4294967296:=aY (by decide)
theorem AF (s:Nat):Int.fdiv (s:Int) (2 ^ min (Int.toNat 32) (IntKind.bits .u64))=((s / 4294967296:Nat):Int):=by
 show Int.fdiv (s:Int) 4294967296=_
 rw [Int.fdiv_eq_ediv_of_nonneg _ (by decide)];rfl
theorem xY (s:Nat):IntKind.wrap .u32 (s:Int)=((s % 4294967296:Nat):Int):=by
 rw [wU];rfl
abbrev qG (v i r:Nat):Prop:=rDi [ao BW v,.int .i64 (i:Int)] [] r
abbrev plC (v w:Nat) (x:R3):Bool:=bif bif decide ((x.1:Int) < (dl BW v:Int)) then true else decide ((x.1:Int) < (dl BW w:Int)) then true else decide ((x.2.1:Int) > 0)
theorem Fm {v w:Nat} {x:R3} (h:plC v w x=true):x.1 < dl BW v∨x.1 < dl BW w∨0 < x.2.1:=by
 unfold plC at h
 cases h1:decide ((x.1:Int) < (dl BW v:Int)) with
 | true=>exact .inl (aB h1)
 | false=>
  cases h2:decide ((x.1:Int) < (dl BW w:Int)) with
  | true=>exact .inr (.inl (aB h2))
  | false=>
   rw [h1,h2,cond_false,cond_false] at h
   have:=of_decide_eq_true h
   exact .inr (.inr (by omega))
theorem Fl {v w:Nat} {x:R3} (h:plC v w x=false):dl BW v<=x.1/\dl BW w<=x.1/\x.2.1=0:=by
 unfold plC at h
 cases h1:decide ((x.1:Int) < (dl BW v:Int)) with
 | true=>rw [h1,cond_true,cond_true] at h;cases h
 | false=>
  cases h2:decide ((x.1:Int) < (dl BW w:Int)) with
  | true=>rw [h1,h2,cond_false,cond_true] at h;cases h
  | false=>
   rw [h1,h2,cond_false,cond_false] at h
   have:=of_decide_eq_false h
   exact ⟨aF h1,aF h2,by omega⟩
section
variable {v w:Nat} {x:R3} (hx:PlI v w x)
include hx
theorem Fo {r2 r3:Nat} (q2:qG v x.1 r2) (q3:qG w x.1 r3):IntKind.wrap .u64 (IntKind.wrap .u64 ((r2:Int)+(r3:Int))+(x.2.1:Int))=((dg BW v x.1+dg BW w x.1+x.2.1:Nat):Int):=by
 have h1:=dgw v x.1;have h2:=dgw w x.1;have h3:=hx.c'
 rw [q2 v x.1 rfl,q3 w x.1 rfl]
 simp only [wL];omega
theorem Ft (h:plC v w x=true):PlI v w (x.1+1,(dg BW v x.1+dg BW w x.1+x.2.1) / 4294967296,bc x.2.2 x.1 ((dg BW v x.1+dg BW w x.1+x.2.1) % 4294967296)):=by
 have h1:=dgw v x.1;have h2:=dgw w x.1;have h3:=hx.c';have h4:=hx.l';have h5:=hx.n';have h6:=Fm h;have h7:=hx.i'
 refine ⟨?_,by show _ / 4294967296<=1;omega,h4,?_,fc hx.d' (Nat.mod_lt _ (by decide)),?_⟩
 ·show x.1+1<=901
  omega
 ·show _ / 4294967296=0∨x.1+1<=900
  rcases Nat.lt_or_ge x.1 900 with h8 | h8
  ·exact .inr h8
  ·rw [nd bw (show dl BW v<=x.1 by omega),nd bw (show dl BW w<=x.1 by omega)]
   exact .inl (by omega)
 ·exact yx (s:=dg BW v x.1+dg BW w x.1+x.2.1) (by omega) hx.e'
theorem Fq (h:plC v w x=true):902 - (x.1+1) < 902 - x.1:=by have:=hx.i';omega
theorem Fs (h:plC v w x=false):PlP (v+w) x:=by
 have h1:=Fl h
 have e:=hx.e'
 rw [h1.2.2,Nat.zero_mul,Nat.add_zero,fC bw h1.1,fC bw h1.2.1] at e
 exact ⟨by have:=hx.i';omega,hx.d',e⟩
end
theorem pG (v w:Nat):∃ (u:St->Bool) (z:St->R3),(∀x,PlI v w x->bq u z (plS v w x) (PlP (v+w)))/\∀L:List (List Nat×Orc),aE (V0.run [ig,xn] 2 [] L [] n7) n7 [1,1,1,0,1,0] (mkO u z plO):=
 aQ (Lf:=λL=>L) (plS v w) (PlI v w) (λx=>902 - x.1) plO (PlP (v+w)) (by kernel_rfl)
  (λx hx=>.b (bif bif decide ((↑x.1:Int) < (↑(dl BW v):Int)) then true else decide ((↑x.1:Int) < (↑(dl BW w):Int)) then true else decide ((↑x.2.1:Int) > 0)) (λh1=>
   .call (dY v x.1) λr2 q2=>
   .call (dY w x.1) λr3 q3=>
   .n (c:=roomy 4 (x.1+1)&&Nat.beq x.1 x.1) (cb (by have:=hx.i';omega)) (
   .go {env:=[(0,ao BW v),(1,ao BW w),(5,.sl (.key 38) 1 (x.1+1) (av x.1 1 (λj=>[.int .u32 (↑(x.2.2 j):Int)]) (al [.int .u32 0] [(0,.int .u32 (IntKind.wrap IntKind.u32 (IntKind.wrap IntKind.u64 (IntKind.wrap IntKind.u64 ((↑r2:Int)+(↑r3:Int))+(↑x.2.1:Int)))))]))),(6,.int .u64 (Int.fdiv (IntKind.wrap IntKind.u64 (IntKind.wrap IntKind.u64 ((↑r2:Int)+(↑r3:Int))+(↑x.2.1:Int))) (2 ^ min (Int.toNat 32) (IntKind.bits IntKind.u64)))),(7,.int .i64 (IntKind.wrap IntKind.i64 ((↑x.1:Int)+1)))],objs:=[(38,.own 1 (x.1+1))]} (x.1+1,(dg BW v x.1+dg BW w x.1+x.2.1) / 4294967296,bc x.2.2 x.1 ((dg BW v x.1+dg BW w x.1+x.2.1) % 4294967296)) (Ft hx h1) (Fq hx h1) (by rw [Fo hx q2 q3,AF,aZ (by have:=hx.i';omega),fO _ _ (xY _)];rfl))) λh1=>
  .fi x (Fs hx h1))
  (λv L k kn=>by kernel_rfl)
theorem n6 {v w:Nat} (h1:dl BW v<=900) (h2:dl BW w<=900):aR wd n7 φNW (rB BW λv w x=>x=v+w) [ao BW v,ao BW w] []:=by
 obtain ⟨u,z,hu,l1⟩:=pG v w
 exact lb (V:=V0) [ig,xn] 2 (p:=[1,1,1,0,1,0]) l1 (.lp (hu (0,0,λ_=>0) (Fu h1 h2)) λr1 q1=>
  .call (ef (n:=r1.1) (g:=r1.2.2) ⟨q1.1,q1.2.1⟩) λr2 q2=>
  .r r2 (rB.mk bw (by rw [q2.at rfl];exact q1.2.2))) (by kernel_rfl)
noncomputable abbrev zz:Ent:=bN wd n7 φNW (rB BW λv w x=>x=v+w)
def mnS (v w:Nat) (x:R3):St:={env:=[(0,ao BW v),(1,ao BW w),(5,.msl 11 1 0 (dl BW v)),(6,.int .u64 (x.2.1:Int)),(7,.int .i64 (x.1:Int))],objs:=[(11,.arr 1 (dl BW v) λj=>[.int .u32 (x.2.2 j:Int)])]}
def mnO (v:Nat) (x:R3) (k:Ex->St->Res):Res:=k (.exit 0) {env:=[(5,.msl 11 1 0 (dl BW v))],objs:=[(11,.arr 1 (dl BW v) λj=>[.int .u32 (x.2.2 j:Int)])]}
structure MnI (v w:Nat) (x:R3):Prop where
 i':x.1<=dl BW v
 c':x.2.1<=1
 l':dl BW v<=1000
 d':∀j,j < x.1->x.2.2 j < 4294967296
 e':vF BW x.2.2 x.1+vF BW (dg BW w) x.1=vF BW (dg BW v) x.1+x.2.1*BW ^ x.1
def rQ (v w:Nat) (x:R3):Nat:=if dg BW v x.1 < dg BW w x.1+x.2.1 then 1 else 0
def uc (v w:Nat) (x:R3):Nat:=if dg BW v x.1 < dg BW w x.1+x.2.1 then dg BW v x.1+4294967296 - dg BW w x.1 - x.2.1 else dg BW v x.1 - dg BW w x.1 - x.2.1
theorem FO {v w:Nat} (h:dl BW v<=1000):MnI v w (0,0,λ_=>0):=⟨Nat.zero_le _,Nat.zero_le _,h,λj h=>absurd h (Nat.not_lt_zero _),rfl⟩
theorem Dw {v i r:Nat} (q:qG v i r):r=dg BW v i:=q v i rfl
theorem Gp (s:Nat):Int.fdiv (s:Int) (2 ^ min (Int.toNat 63) (IntKind.bits .u64))=((s / 9223372036854775808:Nat):Int):=by
 show Int.fdiv (s:Int) 9223372036854775808=_
 rw [Int.fdiv_eq_ediv_of_nonneg _ (by decide)];rfl
section
variable {v w:Nat} {x:R3} (hx:MnI v w x)
include hx
theorem Dv:IntKind.wrap .u64 (IntKind.wrap .u64 ((dg BW v x.1:Int) - (dg BW w x.1:Int)) - (x.2.1:Int))=((uc v w x+rQ v w x*18446744069414584320:Nat):Int):=by
 have h1:=dgw v x.1;have h2:=dgw w x.1;have h3:=hx.c'
 unfold uc rQ
 simp only [wL]
 split <;> omega
theorem BE:uc v w x < 4294967296/\rQ v w x<=1:=by
 have h1:=dgw v x.1;have h2:=dgw w x.1;have h3:=hx.c'
 unfold uc rQ
 split <;> omega
theorem FM:Int.fdiv (IntKind.wrap .u64 (IntKind.wrap .u64 ((dg BW v x.1:Int) - (dg BW w x.1:Int)) - (x.2.1:Int))) (2 ^ min (Int.toNat 63) (IntKind.bits .u64))=((rQ v w x:Nat):Int):=by
 have:=BE hx
 rw [Dv hx,Gp]
 omega
theorem FL:IntKind.wrap .u32 (IntKind.wrap .u64 (IntKind.wrap .u64 ((dg BW v x.1:Int) - (dg BW w x.1:Int)) - (x.2.1:Int)))=((uc v w x:Nat):Int):=by
 have:=BE hx
 rw [Dv hx,xY]
 omega
theorem FN (h:x.1 < dl BW v):MnI v w (x.1+1,rQ v w x,bc x.2.2 (0+x.1) (uc v w x)):=by
 have hl:=BE hx
 have h1:=dgw v x.1;have h2:=dgw w x.1;have h3:=hx.c'
 rw [Nat.zero_add]
 refine ⟨h,hl.2,hx.l',fc hx.d' hl.1,?_⟩
 have he:uc v w x+dg BW w x.1+x.2.1=dg BW v x.1+rQ v w x*4294967296:=by
  unfold uc rQ
  split <;> omega
 have e:=hx.e'
 show vF BW (bc x.2.2 x.1 (uc v w x)) (x.1+1)+(vF BW (dg BW w) x.1+dg BW w x.1*BW ^ x.1)=vF BW (dg BW v) x.1+dg BW v x.1*BW ^ x.1+rQ v w x*BW ^ (x.1+1)
 rw [jF,Nat.pow_succ,Nat.mul_comm (BW ^ x.1) BW,<-Nat.mul_assoc,show rQ v w x*BW=rQ v w x*4294967296 from rfl]
 have:=congrArg (·*BW ^ x.1) he
 simp only [Nat.add_mul] at this
 omega
end
theorem zd {v w:Nat} {x:R3} (hw:w<=v) (hx:MnI v w x/\x.1=dl BW v):vF BW x.2.2 (dl BW v)=v - w:=by
 obtain ⟨⟨h1,h2,h5,h3,h4⟩,h6⟩:=hx
 rw [h6,en bw,fC bw (eX bw hw)] at h4
 rw [h6] at h3
 have h7:=j0 (b:=BW) (by decide) h3
 by_cases hc:x.2.1=0
 ·rw [hc,Nat.zero_mul] at h4;omega
 ·rw [show x.2.1=1 by omega,Nat.one_mul] at h4;omega
theorem n8 (v w:Nat):∃ (u:St->Bool) (z:St->R3),(∀x,MnI v w x->bq u z (mnS v w x) λx=>MnI v w x/\x.1=dl BW v)/\∀L:List (List Nat×Orc),aE (V0.run [ig,xn] 2 [] L [] mK) mK [1,1,1,0,1,0] (mkO u z (mnO v)):=
 aQ (Lf:=λL=>L) (mnS v w) (MnI v w) (λx=>dl BW v - x.1) (mnO v) (λx=>MnI v w x/\x.1=dl BW v) (by kernel_rfl)
  (λx hx=>.b (decide ((↑x.1:Int) < (↑(dl BW v):Int))) (λh1=>
   .call (dY v x.1) λr2 q2=>
   .call (dY w x.1) λr3 q3=>
   .n (c:=within (↑x.1:Int) (dl BW v)) (ag (aB h1)) (
   .n (c:=Nat.blt (0+x.1) (dl BW v)) (eI (by have:=aB h1;omega)) (
   .go {env:=[(0,ao BW v),(1,ao BW w),(5,.msl 11 1 0 (dl BW v)),(6,.int .u64 (Int.fdiv (IntKind.wrap IntKind.u64 (IntKind.wrap IntKind.u64 ((↑r2:Int) - (↑r3:Int)) - (↑x.2.1:Int))) (2 ^ min (Int.toNat 63) (IntKind.bits IntKind.u64)))),(7,.int .i64 (IntKind.wrap IntKind.i64 ((↑x.1:Int)+1)))],objs:=[(11,.arr 1 (dl BW v) λj=>bif Nat.beq j (0+x.1) then [.int .u32 (IntKind.wrap IntKind.u32 (IntKind.wrap IntKind.u64 (IntKind.wrap IntKind.u64 ((↑r2:Int) - (↑r3:Int)) - (↑x.2.1:Int))))] else [.int .u32 (↑(x.2.2 j):Int)])]} (x.1+1,rQ v w x,bc x.2.2 (0+x.1) (uc v w x)) (FN hx (aB h1)) (by have:=aB h1;show dl BW v - (x.1+1) < dl BW v - x.1;omega) (by rw [Dw q2,Dw q3,FM hx,aZ (by have:=aB h1;have:=hx.l';omega),ck _ _ _ _ (FL hx)];rfl)))) λh1=>
  .fi x ⟨hx,by have:=aF h1;have:=hx.i';omega⟩)
  (λv L k kn=>by kernel_rfl)
theorem ju {v w:Nat} (h1:dl BW v<=1000) (hw:w<=v):aR wd mK φNW (rB BW λv w x=>x=v - w) [ao BW v,ao BW w] []:=by
 obtain ⟨u,z,hu,l1⟩:=n8 v w
 exact lb (V:=V0) [ig,xn] 2 (p:=[1,1,1,0,1,0]) l1 (.n (c:=decide ((↑(dl BW v):Int)=(↑(dl BW v):Int))&&(decide (0<=(↑(dl BW v):Int))&&(roomy 4 (Int.toNat (↑(dl BW v):Int))&&decide ((↑(dl BW v):Int)<=140737488355328)))) (mB (by omega)) (
  .lp (hu (0,0,λ_=>0) (FO h1)) λr1 q1=>
  .n (c:=Nat.beq 1 1&&Nat.ble (0+dl BW v) (dl BW v)) (ix _ _) (
  .call (ef (n:=dl BW v) (g:=λj=>r1.2.2 (0+j)) ⟨h1,λj hj=>by show r1.2.2 (0+j) < 4294967296;rw [Nat.zero_add];exact q1.1.d' j (by rw [q1.2];exact hj)⟩) λr2 q2=>
  .r r2 (rB.mk bw (by rw [q2.at (n:=dl BW v) (g:=λj=>r1.2.2 (0+j)) rfl,cu (g:=λj=>r1.2.2 (0+j)) (h:=r1.2.2) λj _=>by rw [Nat.zero_add]];exact zd hw q1))))) (by kernel_rfl)
noncomputable abbrev tC:Ent:=bN wd mK φNW (rB BW λv w x=>x=v - w)
def hfS (v:Nat) (x:R1):St:={env:=[(0,ao BW v),(3,.msl 7 1 0 (dl BW v)),(4,.int .i64 (x.1:Int))],objs:=[(7,.arr 1 (dl BW v) λj=>[.int .u32 (x.2 j:Int)])]}
def hfO (v:Nat) (x:R1) (k:Ex->St->Res):Res:=k (.exit 0) {env:=[(3,.msl 7 1 0 (dl BW v))],objs:=[(7,.arr 1 (dl BW v) λj=>[.int .u32 (x.2 j:Int)])]}
def HfI (v:Nat) (x:R1):Prop:=dl BW v<=1000/\x.1<=dl BW v/\∀j,j < x.1->x.2 j=dg BW (v / 2) j
theorem sY {a b i:Nat} (h:b < 2 ^ i):2 ^ i*a ||| b=2 ^ i*a+b:=(Nat.two_pow_add_eq_or_of_lt h a).symm
theorem xG (w x y:Nat) (hx:x < 2 ^ w) (hy:y < 2 ^ w):(BitVec.ofInt w (x:Int) ||| BitVec.ofInt w (y:Int)).toNat=x ||| y:=by
 rw [BitVec.toNat_or,BitVec.toNat_ofInt,BitVec.toNat_ofInt]
 congr 1
 ·rw [<-Int.natCast_emod,Int.toNat_natCast,Nat.mod_eq_of_lt hx]
 ·rw [<-Int.natCast_emod,Int.toNat_natCast,Nat.mod_eq_of_lt hy]
theorem xf (v i:Nat):dg BW (v / 2) i=dg BW v i / 2+dg BW v (i+1) % 2*2147483648:=by
 unfold dg
 rw [Nat.pow_succ,<-Nat.div_div_eq_div_mul,Nat.div_div_eq_div_mul,Nat.mul_comm 2,<-Nat.div_div_eq_div_mul]
 generalize v / BW ^ i=y
 show y / 2 % 4294967296=y % 4294967296 / 2+y / 4294967296 % 4294967296 % 2*2147483648
 omega
theorem Gd (v i:Nat):IntKind.wrap .u32 ((BitVec.toNat (BitVec.ofInt (IntKind.bits .u32) (Int.fdiv ((dg BW v i:Nat):Int) (2 ^ min (Int.toNat 1) (IntKind.bits .u32))) ||| BitVec.ofInt (IntKind.bits .u32) (IntKind.wrap .u32 (IntKind.wrap .u64 (((dg BW v (i+1):Nat):Int)*2 ^ min (Int.toNat 31) (IntKind.bits .u64))))):Nat):Int)=((dg BW (v / 2) i:Nat):Int):=by
 have h1:=dgw v i;have h2:=dgw v (i+1)
 rw [show Int.fdiv ((dg BW v i:Nat):Int) (2 ^ min (Int.toNat 1) (IntKind.bits .u32))=((dg BW v i / 2:Nat):Int) by
  show Int.fdiv ((dg BW v i:Nat):Int) 2=_
  rw [Int.fdiv_eq_ediv_of_nonneg _ (by decide)];rfl]
 rw [show IntKind.wrap .u32 (IntKind.wrap .u64 (((dg BW v (i+1):Nat):Int)*2 ^ min (Int.toNat 31) (IntKind.bits .u64)))=((2 ^ 31*(dg BW v (i+1) % 2):Nat):Int) by
  show IntKind.wrap .u32 (IntKind.wrap .u64 (((dg BW v (i+1):Nat):Int)*2147483648))=((2147483648*(dg BW v (i+1) % 2):Nat):Int)
  simp only [wU,wL];omega]
 show IntKind.wrap .u32 ((BitVec.toNat (BitVec.ofInt 32 ((dg BW v i / 2:Nat):Int) ||| BitVec.ofInt 32 ((2 ^ 31*(dg BW v (i+1) % 2):Nat):Int)):Nat):Int)=_
 rw [xG 32 _ _ (by show _ < 4294967296;omega) (by show 2147483648*_ < 4294967296;omega),Nat.or_comm,sY (by show _ < 2147483648;omega),xY,xf]
 show (((2147483648*(dg BW v (i+1) % 2)+dg BW v i / 2) % 4294967296:Nat):Int)=_
 omega
section
variable {v:Nat} {x:R1} (hx:HfI v x)
include hx
theorem DH (h:x.1 < dl BW v):IntKind.wrap .i64 ((x.1:Int)+1)=((x.1+1:Nat):Int):=aZ (by have:=hx.1;omega)
theorem Gf (h:x.1 < dl BW v):aR wd mM φDi rDi [ao BW v,.int .i64 (IntKind.wrap .i64 ((x.1:Int)+1))] []:=by
 rw [DH hx h];exact dY v (x.1+1)
theorem Ge (h:x.1 < dl BW v) {r:Nat} (q:rDi [ao BW v,.int .i64 (IntKind.wrap .i64 ((x.1:Int)+1))] [] r):r=dg BW v (x.1+1):=q v (x.1+1) (by rw [DH hx h])
theorem Gh (h:x.1 < dl BW v):HfI v (x.1+1,bc x.2 (0+x.1) (dg BW (v / 2) x.1)):=by
 refine ⟨hx.1,h,λj hj=>?_⟩
 have hj:j < x.1+1:=hj
 show bc _ _ _ j=_
 by_cases e:j=0+x.1
 ·rw [e,bC,Nat.zero_add]
 ·rw [aW _ _ e];exact hx.2.2 j (by omega)
end
theorem Gg {v:Nat} {x:R1} (hx:HfI v x/\x.1=dl BW v) {j:Nat} (hj:j < dl BW v):(λj=>x.2 (0+j)) j < BW:=by
 show x.2 (0+j) < BW
 rw [Nat.zero_add,hx.1.2.2 j (by rw [hx.2];exact hj)]
 exact aY (by decide)
theorem zu {v:Nat} {x:R1} (hx:HfI v x/\x.1=dl BW v):vF BW (λj=>x.2 (0+j)) (dl BW v)=v / 2:=by
 rw [cu (g:=λj=>x.2 (0+j)) (h:=dg BW (v / 2)) λj hj=>by rw [Nat.zero_add];exact hx.1.2.2 j (by rw [hx.2];exact hj)]
 exact fC bw (eX bw (Nat.div_le_self _ _))
theorem pH (v:Nat):∃ (u:St->Bool) (z:St->R1),(∀x,HfI v x->bq u z (hfS v x) λx=>HfI v x/\x.1=dl BW v)/\∀L:List (List Nat×Orc),aE (V0.run [ig,xn] 2 [] L [] qC) qC [1,1,0,1,0] (mkO u z (hfO v)):=
 aQ (Lf:=λL=>L) (hfS v) (HfI v) (λx=>dl BW v - x.1) (hfO v) (λx=>HfI v x/\x.1=dl BW v) (by kernel_rfl)
  (λx hx=>.b (decide ((↑x.1:Int) < (↑(dl BW v):Int))) (λh1=>
   .n (c:=within (↑x.1:Int) (dl BW v)) (ag (aB h1)) (
   .call (Gf hx (aB h1)) λr2 q2=>
   .n (c:=within (↑x.1:Int) (dl BW v)) (ag (aB h1)) (
   .n (c:=Nat.blt (0+x.1) (dl BW v)) (eI (by have:=aB h1;omega)) (
   .go {env:=[(0,ao BW v),(3,.msl 7 1 0 (dl BW v)),(4,.int .i64 (IntKind.wrap IntKind.i64 ((↑x.1:Int)+1)))],objs:=[(7,.arr 1 (dl BW v) λj=>bif Nat.beq j (0+x.1) then [.int .u32 (IntKind.wrap IntKind.u32 (↑(BitVec.toNat (BitVec.ofInt (IntKind.bits IntKind.u32) (Int.fdiv (↑(dg BW v x.1):Int) (2 ^ min (Int.toNat 1) (IntKind.bits IntKind.u32))) ||| BitVec.ofInt (IntKind.bits IntKind.u32) (IntKind.wrap IntKind.u32 (IntKind.wrap IntKind.u64 ((↑r2:Int)*2 ^ min (Int.toNat 31) (IntKind.bits IntKind.u64)))))):Int))] else [.int .u32 (↑(x.2 j):Int)])]} (x.1+1,bc x.2 (0+x.1) (dg BW (v / 2) x.1)) (Gh hx (aB h1)) (by have:=aB h1;show dl BW v - (x.1+1) < dl BW v - x.1;omega) (by rw [Ge hx (aB h1) q2,aZ (by have:=aB h1;have:=hx.1;omega),ck _ _ _ _ (Gd v x.1)];rfl))))) λh1=>
  .fi x ⟨hx,by have:=aF h1;have:=hx.2.1;omega⟩)
  (λv L k kn=>by kernel_rfl)
theorem n9 {v:Nat} (h1:dl BW v<=1000):aR wd qC φNW (rU BW λv x=>x=v / 2) [ao BW v] []:=by
 obtain ⟨u,z,hu,l1⟩:=pH v
 exact lb (V:=V0) [ig,xn] 2 (p:=[1,1,0,1,0]) l1 (.n (c:=decide ((↑(dl BW v):Int)=(↑(dl BW v):Int))&&(decide (0<=(↑(dl BW v):Int))&&(roomy 4 (Int.toNat (↑(dl BW v):Int))&&decide ((↑(dl BW v):Int)<=140737488355328)))) (mB (by omega)) (
  .lp (hu (0,λ_=>0) ⟨h1,Nat.zero_le _,λj hj=>absurd hj (Nat.not_lt_zero _)⟩) λr1 q1=>
  .n (c:=Nat.beq 1 1&&Nat.ble (0+dl BW v) (dl BW v)) (ix _ _) (
  .call (ef (n:=dl BW v) (g:=λj=>r1.2 (0+j)) ⟨h1,λj hj=>Gg q1 hj⟩) λr2 q2=>
  .r r2 (rU.mk bw (by rw [q2.at (n:=dl BW v) (g:=λj=>r1.2 (0+j)) rfl];exact zu q1))))) (by kernel_rfl)
noncomputable abbrev zB:Ent:=bN wd qC φNW (rU BW λv x=>x=v / 2)
end Go.WE

namespace Go.WE
open Go Go.Ab Go.Proofs
noncomputable def VSh:Env:={V0 with
 grow:=onD [11]
 hint:=λf t=>cond (Nat.beq f eg) (hn [0,1,5,6,7] [33] [] []) (V0.hint f t)
 trim:=λf p=>cond (Nat.beq f eg) (uo [tn 1955 [5,6] [33],tn 489 [0,1,5,6,7] [33],tn 979 [0,1,5,6,7] [33],tn 31 [5,6] [33]] p) (V0.trim f p)}
noncomputable instance envSh:EnvOk VSh wd:=⟨rfl,rfl,qp,qy⟩
end Go.WE
