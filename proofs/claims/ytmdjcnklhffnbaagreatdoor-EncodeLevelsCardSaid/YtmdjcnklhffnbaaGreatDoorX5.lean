/- Hints and trims of the functions: printed by gentab.py; fn 6 and 9 by hand. A number in groups of seven bits. Numbers, texts and truth values are put. Conditions of some levels are written. The law's change is written. A reader at the beginning of some bytes. Numbers are read. Texts, counts and truth values are read. Cells told in other words. Conditions are read. The parts of a change are read: zeros, and after an error. A change is read, and a list of one. The law's change is read, or refused. The changes are the same. The empty environment. The fingerprint of the empty environment. EncodeLevels: the law answers true. -/
import Derived.Test.YtmdjcnklhffnbaaGreatDoorX4
import Derived.Test.YtmdjcnklhffnbaaGreatDoorProg
import Derived.Test.YtmdjcnklhffnbaaGreatDoorRows
import Derived.Laws.BitsLemmas
namespace Go.TE
open Go Go.Ab Go.Proofs
noncomputable abbrev prog : Program := Go.Proofs.Tryz.prog
abbrev iLevels : FuncId := 3
abbrev iAwake : FuncId := 4
abbrev iMod : FuncId := 5
abbrev iChanges : FuncId := 6
abbrev iReadCh : FuncId := 7
abbrev iSameChs : FuncId := 8
abbrev iEncEnv : FuncId := 9
abbrev iFinger : FuncId := 10
abbrev iPutCh : FuncId := 12
abbrev iWChange : FuncId := 13
abbrev iEnd : FuncId := 14
abbrev iOpen : FuncId := 15
abbrev iGetCh : FuncId := 16
abbrev iRChange : FuncId := 17
abbrev iREnd : FuncId := 18
abbrev iSameCh : FuncId := 19
abbrev iWNum : FuncId := 23
abbrev iWText : FuncId := 24
abbrev iWBool : FuncId := 25
abbrev iWExpr : FuncId := 76
abbrev iPutExpr : FuncId := 144
abbrev iPutNum : FuncId := 72
abbrev iPutText : FuncId := 73
abbrev iPutBool : FuncId := 74
abbrev iOwn : FuncId := 92
abbrev iGroups : FuncId := 141
abbrev iNew : FuncId := 32
abbrev iCount : FuncId := 33
abbrev iErr : FuncId := 34
abbrev iNumber : FuncId := 35
abbrev iBool : FuncId := 37
abbrev iFail : FuncId := 145
abbrev iLength : FuncId := 93
abbrev iText : FuncId := 94
abbrev iTake : FuncId := 95
abbrev iRText : FuncId := 36
abbrev iRExpr : FuncId := 97
abbrev iGetExpr : FuncId := 146
abbrev iRExpr1 : FuncId := 147
abbrev iSameExpr : FuncId := 114
abbrev iSameExprs : FuncId := 148
def hintsE : List (Nat × List (Nat × Hint)) := [
  (3, [(6, hn [0, 3, 4] [3] [] [])]),
  (6, [(4, hn [0, 10, 11, 12] [6] [] [])]),
  (7, [(8, hn [5, 28, 29, 30] [] [] [])]),
  (8, [(4, hn [0, 1, 5] [] [] [])]),
  (12, [(2, hn [2, 13, 14, 15] [] [] [])]),
  (16, [(3, hn [0, 1, 5, 6] [32] [(5, 32, 50)] [])]),
  (23, [(1, hn [0, 6, 7, 8] [] [] [])]),
  (24, [(1, hn [0, 6, 7, 8] [] [] [])]),
  (35, [(6, hn [0, 3, 4] [] [] [])]),
  (50, [(4, hn [14] [14] [] [])]),
  (51, [(10, hn [0, 50, 51, 52] [17] [] []), (4, hn [0, 17] [17] [] [])]),
  (52, [(4, hn [0, 8, 9, 10] [] [] [])]),
  (53, [(4, hn [0, 2, 3, 16, 17, 18] [] [] [])]),
  (56, [(4, hn [0, 2, 3, 16, 17, 18] [] [] [])]),
  (59, [(4, hn [0, 2, 3, 16, 17, 18] [] [] [])]),
  (62, [(4, hn [0, 2, 3, 16, 17, 18] [] [] [])]),
  (65, [(2, hn [2, 13, 14, 15] [] [] [])]),
  (66, [(2, hn [2, 13, 14, 15] [] [] [])]),
  (67, [(2, hn [2, 13, 14, 15] [] [] [])]),
  (68, [(2, hn [2, 13, 14, 15] [] [] [])]),
  (69, [(2, hn [2, 13, 14, 15] [] [] [])]),
  (70, [(14, hn [2, 7, 8, 53, 54] [7] [] []), (8, hn [2, 7, 8, 9, 10, 33] [7] [] []), (4, hn [2, 7, 8, 9] [7] [] [])]),
  (71, [(6, hn [3, 5, 6, 7, 8, 9] [26, 29] [(3, 26, 5)] []), (3, hn [3, 7, 8, 9] [26] [(3, 26, 5)] [])]),
  (77, [(2, hn [2, 13, 14, 15] [] [] [])]),
  (79, [(2, hn [2, 13, 14, 15] [] [] [])]),
  (81, [(2, hn [2, 13, 14, 15] [] [] [])]),
  (83, [(2, hn [2, 13, 14, 15] [] [] [])]),
  (86, [(2, hn [2, 13, 14, 15] [] [] [])]),
  (88, [(2, hn [2, 13, 14, 15] [] [] [])]),
  (90, [(2, hn [2, 13, 14, 15] [] [] [])]),
  (96, [(3, hn [0, 1, 5, 6] [32] [(5, 32, 9)] [])]),
  (98, [(3, hn [0, 1, 5, 6] [32] [(5, 32, 145)] [])]),
  (100, [(3, hn [0, 1, 5, 6] [32] [(5, 32, 149)] [])]),
  (102, [(3, hn [0, 1, 5, 6] [32] [(5, 32, 153)] [])]),
  (104, [(3, hn [0, 1, 5, 6] [32] [(5, 32, 157)] [])]),
  (107, [(3, hn [0, 1, 5, 6] [32] [(5, 32, 162)] [])]),
  (109, [(3, hn [0, 1, 5, 6] [32] [(5, 32, 166)] [])]),
  (111, [(3, hn [0, 1, 5, 6] [32] [(5, 32, 170)] [])]),
  (113, [(4, hn [0, 1, 5] [] [] [])]),
  (115, [(4, hn [0, 1, 5] [] [] [])]),
  (116, [(4, hn [0, 1, 5] [] [] [])]),
  (117, [(4, hn [0, 1, 5] [] [] [])]),
  (118, [(4, hn [0, 1, 5] [] [] [])]),
  (120, [(4, hn [0, 1, 5] [] [] [])]),
  (121, [(4, hn [0, 1, 5] [] [] [])]),
  (122, [(4, hn [0, 1, 5] [] [] [])]),
  (123, [(3, hn [3, 6, 7, 8] [] [] [])]),
  (124, [(9, hn [0] [6] [] []), (1, hn [0] [] [] [])]),
  (140, [(1, hn [0, 4, 5] [] [] [])]),
  (141, [(3, hn [3, 4] [19, 26] [(4, 19, 5)] [])]),
  (142, [(2, hn [2, 13, 14, 15] [] [] [])]),
  (144, [(2, hn [2, 13, 14, 15] [] [] [])]),
  (146, [(3, hn [0, 1, 5, 6] [32] [(5, 32, 27)] [])]),
  (148, [(4, hn [0, 1, 5] [] [] [])])]
def trimsE : List (Nat × List (List Nat × Hint)) := [
  (3, [tr [1, 1] [0] [], tr [1, 1, 1, 1, 0, 1, 0, 0, 0, 1, 1] [0, 3] [3], tr [1, 1, 1, 1, 0, 1, 0, 0, 1] [0, 3, 4] [3], tr [1, 1, 1, 1, 0, 1, 0, 0, 1, 1] [0, 3, 4] [3], tr [1, 1, 1, 1, 1] [0, 3] [3], tr [1, 1, 1, 1, 1, 1, 1, 1, 1] [0, 5, 8, 9] [], tr [1, 1, 1, 1, 1, 1, 1, 1, 1, 1] [5, 8, 9] []]),
  (6, [([1, 1, 1, 1], hn [0, 6] [6] [] [(6, 0, 900, 5)]), tr [1, 1] [0] [], tr [1, 1, 0, 1, 0, 0, 1, 0, 1] [0] [], tr [1, 1, 0, 1, 0, 0, 1, 1] [0, 10, 11, 12] [], tr [1, 1, 0, 1, 0, 0, 1, 1, 0, 0, 1, 1, 0, 1] [2, 3] [6], tr [1, 1, 0, 1, 0, 0, 1, 1, 1] [0, 10, 11, 12] [], tr [1, 1, 1] [0] []]),
  (7, [tr [1, 1] [0] [], tr [1, 1, 1, 1, 1] [5] [], tr [1, 1, 1, 1, 1, 0, 1, 0, 0, 1, 0, 1] [5] [], tr [1, 1, 1, 1, 1, 0, 1, 0, 0, 1, 1] [5, 28, 29, 30] [], tr [1, 1, 1, 1, 1, 0, 1, 0, 0, 1, 1, 0, 0, 1, 1, 0, 1] [2, 3] [], tr [1, 1, 1, 1, 1, 0, 1, 0, 0, 1, 1, 1] [5, 28, 29, 30] [], tr [1, 1, 1, 1, 1, 1] [5] []]),
  (8, [tr [1, 1] [0, 1] [], tr [1, 1, 0, 1, 0, 0, 0, 1, 1] [] [], tr [1, 1, 0, 1, 0, 0, 1] [0, 1, 5] [], tr [1, 1, 0, 1, 0, 0, 1, 0, 0, 1, 0, 1] [4] [], tr [1, 1, 0, 1, 0, 0, 1, 1] [0, 1, 5] [], tr [1, 1, 1] [] []]),
  (9, [([1, 1, 1], hn [1, 5] [1, 5] [] [(5, 0, 900, 5)]), tr [1, 1] [1] [1]]),
  (10, [tr [1, 1, 1] [3] []]),
  (12, [tr [1, 1, 0, 0, 1, 0, 1] [] [], tr [1, 1, 0, 0, 1, 1] [2, 13, 14, 15] [], tr [1, 1, 0, 0, 1, 1, 1] [2, 13, 14, 15] []]),
  (14, [tr [1, 1] [0] []]),
  (16, [tr [1, 1, 0, 1, 0, 0, 0, 1, 1] [5] [32], tr [1, 1, 0, 1, 0, 0, 1] [0, 1, 5, 6] [32], tr [1, 1, 0, 1, 0, 0, 1, 1] [0, 1, 5, 6] [32], tr [1, 1, 1] [5] [32]]),
  (18, [tr [1, 1] [0] []]),
  (20, [tr [1, 1, 1] [1] [1], tr [1, 1, 1, 1] [1] [1], tr [1, 1, 1, 1, 1] [1] [1], tr [1, 1, 1, 1, 1, 1] [1] [1]]),
  (23, [tr [1, 0, 0, 1, 0, 1] [] [], tr [1, 0, 0, 1, 1] [0, 6, 7, 8] [], tr [1, 0, 0, 1, 1, 1] [0, 6, 7, 8] []]),
  (24, [tr [1, 0, 0, 1, 0, 1] [] [], tr [1, 0, 0, 1, 1] [0, 6, 7, 8] [], tr [1, 0, 0, 1, 1, 1] [0, 6, 7, 8] []]),
  (35, [tr [1, 1] [0] [], tr [1, 1, 1, 1, 0, 0, 0, 0, 0, 1, 0, 1, 1] [2] [], tr [1, 1, 1, 1, 0, 0, 0, 0, 1] [0, 3, 4] [], tr [1, 1, 1, 1, 0, 0, 0, 0, 1, 1, 0, 1, 0, 1, 1] [2] [], tr [1, 1, 1, 1, 0, 0, 0, 0, 1, 1, 1] [0, 3, 4, 5] [], tr [1, 1, 1, 1, 0, 0, 0, 0, 1, 1, 1, 1, 0, 1, 0] [0, 3, 4] [], tr [1, 1, 1, 1, 0, 0, 0, 0, 1, 1, 1, 1, 1] [0, 3, 4, 5] [], tr [1, 1, 1, 1, 0, 0, 0, 0, 1, 1, 1, 1, 1, 0, 1, 0, 1, 1] [2] [], tr [1, 1, 1, 1, 0, 0, 0, 0, 1, 1, 1, 1, 1, 1] [0, 3, 4] [], tr [1, 1, 1, 1, 0, 0, 0, 0, 1, 1, 1, 1, 1, 1, 1, 1] [2] [], tr [1, 1, 1, 1, 0, 0, 1] [0, 3, 4] []]),
  (37, [tr [1, 1, 1] [0, 3] [], tr [1, 1, 1, 1] [3] []]),
  (50, [tr [1, 1] [0] [], tr [1, 1, 0, 1, 0, 0, 1, 0, 1] [] [], tr [1, 1, 0, 1, 0, 0, 1, 1] [14, 15] [14], tr [1, 1, 0, 1, 0, 0, 1, 1, 0, 1, 1, 0, 1] [2] [], tr [1, 1, 1] [] []]),
  (51, [tr [1, 1] [0] [], tr [1, 1, 0, 1, 0, 0, 1, 0, 1] [0] [], tr [1, 1, 0, 1, 0, 0, 1, 1] [0, 17, 18] [17], tr [1, 1, 0, 1, 0, 0, 1, 1, 0, 1, 1, 1, 0, 1] [2] [], tr [1, 1, 1] [0] [], tr [1, 1, 1, 0, 1, 0, 0, 1, 0, 1] [] [], tr [1, 1, 1, 0, 1, 0, 0, 1, 1] [0, 50, 51, 52] [], tr [1, 1, 1, 0, 1, 0, 0, 1, 1, 0, 0, 1, 1, 0, 1] [2] [], tr [1, 1, 1, 0, 1, 0, 0, 1, 1, 1] [0, 50, 51, 52] [], tr [1, 1, 1, 1] [] []]),
  (52, [tr [1, 1] [0] [], tr [1, 1, 0, 1, 0, 0, 1, 0, 1] [] [], tr [1, 1, 0, 1, 0, 0, 1, 1] [0, 8, 9, 10] [], tr [1, 1, 0, 1, 0, 0, 1, 1, 0, 0, 1, 0, 1, 0, 1] [2] [], tr [1, 1, 0, 1, 0, 0, 1, 1, 0, 0, 1, 1] [0, 3, 4, 8, 9, 10] [4], tr [1, 1, 0, 1, 0, 0, 1, 1, 0, 0, 1, 1, 0, 1, 0, 1] [2] [], tr [1, 1, 0, 1, 0, 0, 1, 1, 0, 0, 1, 1, 1] [0, 3, 4, 8, 9, 10] [4], tr [1, 1, 0, 1, 0, 0, 1, 1, 0, 0, 1, 1, 1, 1, 0, 1] [2] [], tr [1, 1, 0, 1, 0, 0, 1, 1, 1] [0, 8, 9, 10] [], tr [1, 1, 1] [] []]),
  (53, [tr [1, 1] [0, 2, 3] [], tr [1, 1, 0, 1, 0, 0, 1, 0, 1] [] [], tr [1, 1, 0, 1, 0, 0, 1, 1] [0, 2, 3, 16, 17, 18] [], tr [1, 1, 0, 1, 0, 0, 1, 1, 0, 0, 1, 0, 1, 1, 0, 1] [8] [], tr [1, 1, 0, 1, 0, 0, 1, 1, 0, 0, 1, 1] [0, 2, 3, 9, 10, 16, 17, 18] [10], tr [1, 1, 0, 1, 0, 0, 1, 1, 0, 0, 1, 1, 1, 0, 1] [8] [], tr [1, 1, 0, 1, 0, 0, 1, 1, 1] [0, 2, 3, 16, 17, 18] [], tr [1, 1, 1] [] []]),
  (56, [tr [1, 1] [0, 2, 3] [], tr [1, 1, 0, 1, 0, 0, 1, 0, 1] [] [], tr [1, 1, 0, 1, 0, 0, 1, 1] [0, 2, 3, 16, 17, 18] [], tr [1, 1, 0, 1, 0, 0, 1, 1, 0, 0, 1, 0, 1, 1, 0, 1] [8] [], tr [1, 1, 0, 1, 0, 0, 1, 1, 0, 0, 1, 1] [0, 2, 3, 9, 10, 16, 17, 18] [10], tr [1, 1, 0, 1, 0, 0, 1, 1, 0, 0, 1, 1, 1, 0, 1] [8] [], tr [1, 1, 0, 1, 0, 0, 1, 1, 1] [0, 2, 3, 16, 17, 18] [], tr [1, 1, 1] [] []]),
  (59, [tr [1, 1] [0, 2, 3] [], tr [1, 1, 0, 1, 0, 0, 1, 0, 1] [] [], tr [1, 1, 0, 1, 0, 0, 1, 1] [0, 2, 3, 16, 17, 18] [], tr [1, 1, 0, 1, 0, 0, 1, 1, 0, 0, 1, 0, 1, 1, 0, 1] [8] [], tr [1, 1, 0, 1, 0, 0, 1, 1, 0, 0, 1, 1] [0, 2, 3, 9, 10, 16, 17, 18] [10], tr [1, 1, 0, 1, 0, 0, 1, 1, 0, 0, 1, 1, 1, 0, 1] [8] [], tr [1, 1, 0, 1, 0, 0, 1, 1, 1] [0, 2, 3, 16, 17, 18] [], tr [1, 1, 1] [] []]),
  (62, [tr [1, 1] [0, 2, 3] [], tr [1, 1, 0, 1, 0, 0, 1, 0, 1] [] [], tr [1, 1, 0, 1, 0, 0, 1, 1] [0, 2, 3, 16, 17, 18] [], tr [1, 1, 0, 1, 0, 0, 1, 1, 0, 0, 1, 0, 1, 1, 0, 1] [8] [], tr [1, 1, 0, 1, 0, 0, 1, 1, 0, 0, 1, 1] [0, 2, 3, 9, 10, 16, 17, 18] [10], tr [1, 1, 0, 1, 0, 0, 1, 1, 0, 0, 1, 1, 1, 0, 1] [8] [], tr [1, 1, 0, 1, 0, 0, 1, 1, 1] [0, 2, 3, 16, 17, 18] [], tr [1, 1, 1] [] []]),
  (65, [tr [1, 1, 0, 0, 1, 0, 1] [] [], tr [1, 1, 0, 0, 1, 1] [2, 13, 14, 15] [], tr [1, 1, 0, 0, 1, 1, 1] [2, 13, 14, 15] []]),
  (66, [tr [1, 1, 0, 0, 1, 0, 1] [] [], tr [1, 1, 0, 0, 1, 1] [2, 13, 14, 15] [], tr [1, 1, 0, 0, 1, 1, 1] [2, 13, 14, 15] []]),
  (67, [tr [1, 1, 0, 0, 1, 0, 1] [] [], tr [1, 1, 0, 0, 1, 1] [2, 13, 14, 15] [], tr [1, 1, 0, 0, 1, 1, 1] [2, 13, 14, 15] []]),
  (68, [tr [1, 1, 0, 0, 1, 0, 1] [] [], tr [1, 1, 0, 0, 1, 1] [2, 13, 14, 15] [], tr [1, 1, 0, 0, 1, 1, 1] [2, 13, 14, 15] []]),
  (69, [tr [1, 1, 0, 0, 1, 0, 1] [] [], tr [1, 1, 0, 0, 1, 1] [2, 13, 14, 15] [], tr [1, 1, 0, 0, 1, 1, 1] [2, 13, 14, 15] []]),
  (70, [tr [1, 1, 1, 0, 1, 0, 0, 0, 1, 1] [2, 7, 8] [7], tr [1, 1, 1, 0, 1, 0, 0, 1] [2, 7, 8, 9] [7], tr [1, 1, 1, 0, 1, 0, 0, 1, 0, 0, 1, 0, 1, 0, 0, 1, 0, 1] [2, 7, 8, 9, 10] [7], tr [1, 1, 1, 0, 1, 0, 0, 1, 0, 0, 1, 0, 1, 0, 0, 1, 1] [2, 7, 8, 9, 10, 33] [7], tr [1, 1, 1, 0, 1, 0, 0, 1, 0, 0, 1, 0, 1, 0, 0, 1, 1, 1] [2, 7, 8, 9, 10, 33] [7], tr [1, 1, 1, 0, 1, 0, 0, 1, 0, 0, 1, 1] [2, 7, 8, 9, 10] [7], tr [1, 1, 1, 0, 1, 0, 0, 1, 1] [2, 7, 8, 9] [7], tr [1, 1, 1, 1] [2, 7, 8] [7], tr [1, 1, 1, 1, 0, 1, 0, 0, 1, 0, 1] [7, 8] [7], tr [1, 1, 1, 1, 0, 1, 0, 0, 1, 1] [2, 7, 8, 53, 54] [7], tr [1, 1, 1, 1, 0, 1, 0, 0, 1, 1, 1] [2, 7, 8, 53, 54] [7], tr [1, 1, 1, 1, 1] [7, 8] [7]]),
  (71, [tr [1, 1, 0, 1, 0, 0, 1, 0, 1] [3] [26, 29], tr [1, 1, 0, 1, 0, 0, 1, 1] [3, 7, 8, 9] [26, 29], tr [1, 1, 0, 1, 0, 0, 1, 1, 0, 0, 1, 0, 1, 0, 0, 0, 1, 1] [3, 5, 7, 8, 9] [26, 29], tr [1, 1, 0, 1, 0, 0, 1, 1, 0, 0, 1, 0, 1, 0, 0, 1] [3, 5, 6, 7, 8, 9] [26, 29], tr [1, 1, 0, 1, 0, 0, 1, 1, 0, 0, 1, 0, 1, 0, 0, 1, 1] [3, 5, 6, 7, 8, 9] [26, 29], tr [1, 1, 0, 1, 0, 0, 1, 1, 0, 0, 1, 1] [3, 5, 7, 8, 9] [26, 29], tr [1, 1, 0, 1, 0, 0, 1, 1, 1] [3, 7, 8, 9] [26, 29], tr [1, 1, 1] [3] [26, 29]]),
  (74, [tr [1, 1] [0] []]),
  (77, [tr [1, 1, 0, 0, 1, 0, 1] [] [], tr [1, 1, 0, 0, 1, 1] [2, 13, 14, 15] [], tr [1, 1, 0, 0, 1, 1, 1] [2, 13, 14, 15] []]),
  (79, [tr [1, 1, 0, 0, 1, 0, 1] [] [], tr [1, 1, 0, 0, 1, 1] [2, 13, 14, 15] [], tr [1, 1, 0, 0, 1, 1, 1] [2, 13, 14, 15] []]),
  (81, [tr [1, 1, 0, 0, 1, 0, 1] [] [], tr [1, 1, 0, 0, 1, 1] [2, 13, 14, 15] [], tr [1, 1, 0, 0, 1, 1, 1] [2, 13, 14, 15] []]),
  (83, [tr [1, 1, 0, 0, 1, 0, 1] [] [], tr [1, 1, 0, 0, 1, 1] [2, 13, 14, 15] [], tr [1, 1, 0, 0, 1, 1, 1] [2, 13, 14, 15] []]),
  (86, [tr [1, 1, 0, 0, 1, 0, 1] [] [], tr [1, 1, 0, 0, 1, 1] [2, 13, 14, 15] [], tr [1, 1, 0, 0, 1, 1, 1] [2, 13, 14, 15] []]),
  (88, [tr [1, 1, 0, 0, 1, 0, 1] [] [], tr [1, 1, 0, 0, 1, 1] [2, 13, 14, 15] [], tr [1, 1, 0, 0, 1, 1, 1] [2, 13, 14, 15] []]),
  (90, [tr [1, 1, 0, 0, 1, 0, 1] [] [], tr [1, 1, 0, 0, 1, 1] [2, 13, 14, 15] [], tr [1, 1, 0, 0, 1, 1, 1] [2, 13, 14, 15] []]),
  (93, [tr [1, 1, 1] [0, 7] [], tr [1, 1, 1, 1] [7] []]),
  (95, [tr [1, 1] [0, 1] [], tr [1, 1, 1] [0, 1] []]),
  (96, [tr [1, 1, 0, 1, 0, 0, 0, 1, 1] [5] [32], tr [1, 1, 0, 1, 0, 0, 1] [0, 1, 5, 6] [32], tr [1, 1, 0, 1, 0, 0, 1, 1] [0, 1, 5, 6] [32], tr [1, 1, 1] [5] [32]]),
  (97, [tr [1, 1] [2, 3, 4] [2, 3, 4]]),
  (98, [tr [1, 1, 0, 1, 0, 0, 0, 1, 1] [5] [32], tr [1, 1, 0, 1, 0, 0, 1] [0, 1, 5, 6] [32], tr [1, 1, 0, 1, 0, 0, 1, 1] [0, 1, 5, 6] [32], tr [1, 1, 1] [5] [32]]),
  (100, [tr [1, 1, 0, 1, 0, 0, 0, 1, 1] [5] [32], tr [1, 1, 0, 1, 0, 0, 1] [0, 1, 5, 6] [32], tr [1, 1, 0, 1, 0, 0, 1, 1] [0, 1, 5, 6] [32], tr [1, 1, 1] [5] [32]]),
  (102, [tr [1, 1, 0, 1, 0, 0, 0, 1, 1] [5] [32], tr [1, 1, 0, 1, 0, 0, 1] [0, 1, 5, 6] [32], tr [1, 1, 0, 1, 0, 0, 1, 1] [0, 1, 5, 6] [32], tr [1, 1, 1] [5] [32]]),
  (104, [tr [1, 1, 0, 1, 0, 0, 0, 1, 1] [5] [32], tr [1, 1, 0, 1, 0, 0, 1] [0, 1, 5, 6] [32], tr [1, 1, 0, 1, 0, 0, 1, 1] [0, 1, 5, 6] [32], tr [1, 1, 1] [5] [32]]),
  (107, [tr [1, 1, 0, 1, 0, 0, 0, 1, 1] [5] [32], tr [1, 1, 0, 1, 0, 0, 1] [0, 1, 5, 6] [32], tr [1, 1, 0, 1, 0, 0, 1, 1] [0, 1, 5, 6] [32], tr [1, 1, 1] [5] [32]]),
  (109, [tr [1, 1, 0, 1, 0, 0, 0, 1, 1] [5] [32], tr [1, 1, 0, 1, 0, 0, 1] [0, 1, 5, 6] [32], tr [1, 1, 0, 1, 0, 0, 1, 1] [0, 1, 5, 6] [32], tr [1, 1, 1] [5] [32]]),
  (111, [tr [1, 1, 0, 1, 0, 0, 0, 1, 1] [5] [32], tr [1, 1, 0, 1, 0, 0, 1] [0, 1, 5, 6] [32], tr [1, 1, 0, 1, 0, 0, 1, 1] [0, 1, 5, 6] [32], tr [1, 1, 1] [5] [32]]),
  (113, [tr [1, 1] [0, 1] [], tr [1, 1, 0, 1, 0, 0, 0, 1, 1] [] [], tr [1, 1, 0, 1, 0, 0, 1] [0, 1, 5] [], tr [1, 1, 0, 1, 0, 0, 1, 0, 0, 1, 0, 1] [4] [], tr [1, 1, 0, 1, 0, 0, 1, 1] [0, 1, 5] [], tr [1, 1, 1] [] []]),
  (115, [tr [1, 1] [0, 1] [], tr [1, 1, 0, 1, 0, 0, 0, 1, 1] [] [], tr [1, 1, 0, 1, 0, 0, 1] [0, 1, 5] [], tr [1, 1, 0, 1, 0, 0, 1, 0, 0, 1, 0, 1] [4] [], tr [1, 1, 0, 1, 0, 0, 1, 1] [0, 1, 5] [], tr [1, 1, 1] [] []]),
  (116, [tr [1, 1] [0, 1] [], tr [1, 1, 0, 1, 0, 0, 0, 1, 1] [] [], tr [1, 1, 0, 1, 0, 0, 1] [0, 1, 5] [], tr [1, 1, 0, 1, 0, 0, 1, 0, 0, 1, 0, 1] [4] [], tr [1, 1, 0, 1, 0, 0, 1, 1] [0, 1, 5] [], tr [1, 1, 1] [] []]),
  (117, [tr [1, 1] [0, 1] [], tr [1, 1, 0, 1, 0, 0, 0, 1, 1] [] [], tr [1, 1, 0, 1, 0, 0, 1] [0, 1, 5] [], tr [1, 1, 0, 1, 0, 0, 1, 0, 0, 1, 0, 1] [4] [], tr [1, 1, 0, 1, 0, 0, 1, 1] [0, 1, 5] [], tr [1, 1, 1] [] []]),
  (118, [tr [1, 1] [0, 1] [], tr [1, 1, 0, 1, 0, 0, 0, 1, 1] [] [], tr [1, 1, 0, 1, 0, 0, 1] [0, 1, 5] [], tr [1, 1, 0, 1, 0, 0, 1, 0, 0, 1, 0, 1] [4] [], tr [1, 1, 0, 1, 0, 0, 1, 1] [0, 1, 5] [], tr [1, 1, 1] [] []]),
  (120, [tr [1, 1] [0, 1] [], tr [1, 1, 0, 1, 0, 0, 0, 1, 1] [] [], tr [1, 1, 0, 1, 0, 0, 1] [0, 1, 5] [], tr [1, 1, 0, 1, 0, 0, 1, 0, 0, 1, 0, 1] [4] [], tr [1, 1, 0, 1, 0, 0, 1, 1] [0, 1, 5] [], tr [1, 1, 1] [] []]),
  (121, [tr [1, 1] [0, 1] [], tr [1, 1, 0, 1, 0, 0, 0, 1, 1] [] [], tr [1, 1, 0, 1, 0, 0, 1] [0, 1, 5] [], tr [1, 1, 0, 1, 0, 0, 1, 0, 0, 1, 0, 1] [4] [], tr [1, 1, 0, 1, 0, 0, 1, 1] [0, 1, 5] [], tr [1, 1, 1] [] []]),
  (122, [tr [1, 1] [0, 1] [], tr [1, 1, 0, 1, 0, 0, 0, 1, 1] [] [], tr [1, 1, 0, 1, 0, 0, 1] [0, 1, 5] [], tr [1, 1, 0, 1, 0, 0, 1, 0, 0, 1, 0, 1] [4] [], tr [1, 1, 0, 1, 0, 0, 1, 1] [0, 1, 5] [], tr [1, 1, 1] [] []]),
  (123, [tr [1, 1, 0, 1, 0, 0, 1, 0, 1] [3] [], tr [1, 1, 0, 1, 0, 0, 1, 1] [3, 6, 7, 8] [], tr [1, 1, 0, 1, 0, 0, 1, 1, 0, 0, 1, 1, 0, 1] [2] [], tr [1, 1, 0, 1, 0, 0, 1, 1, 1] [3, 6, 7, 8] [], tr [1, 1, 1] [3] []]),
  (124, [tr [1, 0, 0, 0, 0, 1, 1] [] [], tr [1, 0, 0, 0, 1] [0] [], tr [1, 0, 0, 0, 1, 0, 1, 0, 1, 0, 1, 0, 1, 0, 1, 1, 0, 1, 0, 0, 0, 1, 1] [0] [], tr [1, 0, 0, 0, 1, 0, 1, 0, 1, 0, 1, 0, 1, 0, 1, 1, 0, 1, 0, 0, 1] [0] [], tr [1, 0, 0, 0, 1, 0, 1, 0, 1, 0, 1, 1] [0] [], tr [1, 0, 0, 0, 1, 0, 1, 0, 1, 0, 1, 1] [0] [], tr [1, 0, 0, 0, 1, 0, 1, 1] [0, 3] [], tr [1, 0, 0, 0, 1, 0, 1, 1, 1, 1, 1, 1, 0, 1, 0, 0, 1, 0, 1] [2] [], tr [1, 0, 0, 0, 1, 0, 1, 1, 1, 1, 1, 1, 0, 1, 0, 1] [0] [], tr [1, 0, 0, 0, 1, 0, 1, 1, 1, 1, 1, 1, 0, 1, 1, 1, 0, 0, 1, 0, 1] [2] [], tr [1, 0, 0, 0, 1, 0, 1, 1, 1, 1, 1, 1, 0, 1, 1, 1, 0, 1] [0] [], tr [1, 0, 0, 0, 1, 0, 1, 1, 1, 1, 1, 1, 0, 1, 1, 1, 1, 1, 0, 0, 1, 0, 1] [2] [], tr [1, 0, 0, 0, 1, 0, 1, 1, 1, 1, 1, 1, 0, 1, 1, 1, 1, 1, 0, 1] [0] [], tr [1, 0, 0, 0, 1, 0, 1, 1, 1, 1, 1, 1, 0, 1, 1, 1, 1, 1, 1, 1] [2] [], tr [1, 1] [] []]),
  (140, [tr [1, 0, 0, 1, 0, 1] [] [], tr [1, 0, 0, 1, 1] [0, 4, 5] [], tr [1, 0, 0, 1, 1, 1] [0, 4, 5] []]),
  (141, [tr [1, 1, 1, 0, 0, 0, 0, 1, 1] [3, 4] [19], tr [1, 1, 1, 0, 0, 0, 1] [3, 4] [19], tr [1, 1, 1, 1] [3, 4] [19]]),
  (142, [tr [1, 1, 0, 0, 1, 0, 1] [] [], tr [1, 1, 0, 0, 1, 1] [2, 13, 14, 15] [], tr [1, 1, 0, 0, 1, 1, 1] [2, 13, 14, 15] []]),
  (144, [tr [1, 1, 0, 0, 1, 0, 1] [] [], tr [1, 1, 0, 0, 1, 1] [2, 13, 14, 15] [], tr [1, 1, 0, 0, 1, 1, 1] [2, 13, 14, 15] []]),
  (146, [tr [1, 1, 0, 1, 0, 0, 0, 1, 1] [5] [32], tr [1, 1, 0, 1, 0, 0, 1] [0, 1, 5, 6] [32], tr [1, 1, 0, 1, 0, 0, 1, 1] [0, 1, 5, 6] [32], tr [1, 1, 1] [5] [32]]),
  (148, [tr [1, 1] [0, 1] [], tr [1, 1, 0, 1, 0, 0, 0, 1, 1] [] [], tr [1, 1, 0, 1, 0, 0, 1] [0, 1, 5] [], tr [1, 1, 0, 1, 0, 0, 1, 0, 0, 1, 0, 1] [4] [], tr [1, 1, 0, 1, 0, 0, 1, 1] [0, 1, 5] [], tr [1, 1, 1] [] []]),
  (150, [tr [1, 1] [0] []])]
noncomputable def VE : Env := { P := prog, brk := fun o => match o.guard, o.dst with | some (g, _), some d => Nat.beq g 2 && ((Nat.ble 19 d && Nat.ble d 24 && (Nat.beq o.type 76 || Nat.beq o.type 0 || Nat.beq o.type 81 || Nat.beq o.type 53 || Nat.beq o.type 4)) || ((Nat.beq d 13 && Nat.beq o.type 52) || ((Nat.beq d 14 && Nat.beq o.type 9) || (Nat.beq d 15 && Nat.beq o.type 4)))) | _, _ => false, hint := fun f t => ((alook hintsE f).bind fun l => alook l t).getD {}, trim := fun f p => (alook trimsE f).bind fun l => trGet l p }
theorem mixedE : VE.P.follows .mixedOrders = true := by kernel_rfl
theorem funcsE : FuncsOk VE.P := funcsOk_of (by kernel_rfl)
end Go.TE

namespace Go.TE
open Go Go.Ab Go.Proofs
def grp (u : Nat) : List UInt8 := if u < 128 then [UInt8.ofNat u] else UInt8.ofNat (u % 128 + 128) :: grp (u / 128)
termination_by u
def zig (n : Int) : Int := IntKind.wrap .u64 ((BitVec.ofInt 64 (IntKind.wrap .u64 (IntKind.wrap .u64 n * 2 ^ min (Int.toNat 1) (IntKind.bits .u64))) ^^^ BitVec.ofInt 64 (IntKind.wrap .u64 (Int.fdiv n (2 ^ min (Int.toNat 63) (IntKind.bits .u64))))).toNat : Nat)
theorem zig_lt (n : Int) : 0 ≤ zig n ∧ zig n < 18446744073709551616 := by
  unfold zig
  simp only [IntKind.wrap, IntKind.bits, IntKind.signed, Bool.false_and, Bool.false_eq_true, if_false]
  omega
theorem or128 (u : Nat) : IntKind.wrap .u8 (((BitVec.ofInt (IntKind.bits .u8) (IntKind.wrap .u8 (u : Int)) ||| BitVec.ofInt (IntKind.bits .u8) 128).toNat : Nat) : Int) = ((u % 128 + 128 : Nat) : Int) := by
  have h1 : IntKind.wrap .u8 (u : Int) = ((u % 256 : Nat) : Int) := by rw [IntKind.wrap_u8]; omega
  rw [h1]
  have h2 : (BitVec.ofInt (IntKind.bits .u8) ((u % 256 : Nat) : Int) ||| BitVec.ofInt (IntKind.bits .u8) 128).toNat = (u % 256) ||| 128 := by
    show (BitVec.ofInt 8 ((u % 256 : Nat) : Int) ||| BitVec.ofInt 8 128).toNat = _
    rw [BitVec.toNat_or]
    congr 1
    simp only [BitVec.toNat_ofInt]
    omega
  rw [h2]
  have h3 : ∀ x, x < 256 → x ||| 128 = x % 128 + 128 := by decide +kernel
  rw [h3 _ (by omega), IntKind.wrap_u8]
  omega
structure GV where
  u : Nat
  r : RW
instance : Inhabited GV := ⟨⟨0, default⟩⟩
def grS (u : Int) (r : RW) : St := { env := [(3, .int .u64 u), (4, .sl (.key 19) 1 r.n r.g)], objs := [(19, .own 1 r.n)] }
def grO (x : GV) (k : Ex → St → Res) : Res := k (.exit 0) (grS x.u x.r)
def φGr (r : RW) : AV × List AO := (.sl (.key keyBase) 1 r.n r.g, [.own 1 r.n])
theorem groups_ex (n : Int) : ∃ r : RW, (Byt r (grp (zig n).toNat) ∧ r.n ≤ 11) ∧ Ct VE.P VE.G iGroups [.int .i64 n] [] (φGr r) := by
  obtain ⟨u, w, huw, hl⟩ := loop_any (Xf := fun L : List (List Nat × Orc) => VE.run [] 1 [] L [] iGroups) (b := subC (bodyOf VE.P iGroups) ([1, 1, 1, 0, 0] ++ [0])) (fun v : GV => grS v.u v.r) (fun v => ∃ m, v.r.n + m ≤ 10 ∧ v.u < 128 ^ m) (fun v => v.u) grO
    (fun v x => x.u < 128 ∧ x.r.n ≤ 10 ∧ ∀ l, Byt v.r l → ∃ l', Byt x.r l' ∧ l' ++ [UInt8.ofNat x.u] = l ++ grp v.u) (fun _ => by kernel_rfl) 9 (fun a b x hs hp => by
      obtain ⟨a1, a2, a3⟩ := a
      obtain ⟨b1, b2, b3⟩ := b
      simp only [grS, St.mk.injEq, List.cons.injEq, Prod.mk.injEq, AV.int.injEq, AV.sl.injEq, true_and, and_true] at hs
      obtain ⟨⟨h1, h2, h3⟩, _⟩ := hs
      obtain rfl : a1 = b1 := by omega
      subst h2 h3
      exact hp) fun v hv => by
    obtain ⟨u, r⟩ := v
    obtain ⟨m, hm, hu⟩ := hv
    have hm : r.n + m ≤ 10 := hm
    have hu : u < 128 ^ m := hu
    apply RT.by
    · exact .b (decide ((u : Int) ≥ 128)) (fun h => .n (c := roomy 1 (r.n + 1) && Nat.beq r.n r.n) (roomy_and (by omega)) (.nx (grS (Int.fdiv u (2 ^ min (Int.toNat 7) (IntKind.bits .u64))) ⟨r.n + 1, appGet r.n 1 r.g (fillGet [.int .u8 0] [(0, .int .u8 (IntKind.wrap .u8 (((BitVec.ofInt (IntKind.bits .u8) (IntKind.wrap .u8 (u : Int)) ||| BitVec.ofInt (IntKind.bits .u8) 128).toNat : Nat) : Int)))])⟩) (GV.mk (u / 128) ⟨r.n + 1, appGet r.n 1 r.g (fillGet [.int .u8 0] [(0, .int .u8 (((u % 128 + 128 : Nat) : Int)))])⟩)
        (by
          have h := of_decide_eq_true h
          obtain ⟨m', rfl⟩ : ∃ m', m = m' + 1 := ⟨m - 1, by cases m with | zero => simp at hu; omega | succ m => rfl⟩
          exact ⟨m', by show r.n + 1 + m' ≤ 10; omega, by show u / 128 < 128 ^ m'; rw [Nat.pow_succ] at hu; omega⟩)
        (by show u / 128 < u; have h := of_decide_eq_true h; omega)
        (fun o ho => by
          have h := of_decide_eq_true h
          refine ⟨ho.1, ho.2.1, fun l hl => ?_⟩
          obtain ⟨l', h1, h2⟩ := ho.2.2 _ (Byt.app (n := r.n) (g := r.g) hl (byt_one (z := [.int .u8 0]) (n := ((u % 128 + 128 : Nat) : Int)) (by omega)))
          refine ⟨l', h1, ?_⟩
          rw [h2, List.append_assoc]
          congr 1
          rw [grp.eq_1 u, if_neg (by omega)]
          rfl)
        (by
          rw [or128]
          have : Int.fdiv (u : Int) (2 ^ min (Int.toNat 7) (IntKind.bits .u64)) = ((u / 128 : Nat) : Int) := by show Int.fdiv (u : Int) 128 = _; rw [Int.fdiv_eq_ediv_of_nonneg _ (by omega)]; omega
          rw [this]))) fun h => .fi (GV.mk u r) (by
          have h := of_decide_eq_false h
          refine ⟨by show u < 128; omega, by show r.n ≤ 10; omega, fun l hl => ⟨l, hl, ?_⟩⟩
          rw [grp.eq_1 u, if_pos (by omega)])
    · intro i k kn; kernel_rfl
  obtain ⟨z1, z2⟩ := zig_lt n
  have hz : zig n = ((zig n).toNat : Int) := by omega
  have h0 := huw ⟨(zig n).toNat, ⟨0, fun _ => [.int .u8 0]⟩⟩ ⟨10, Nat.le_refl _, by show (zig n).toNat < 128 ^ 10; omega⟩
  have hL : Loops u w (grS (zig n) ⟨0, fun _ => [.int .u8 0]⟩) (fun x => x.u < 128 ∧ x.r.n ≤ 10 ∧ ∃ l', Byt x.r l' ∧ l' ++ [UInt8.ofNat x.u] = grp (zig n).toNat) := by
    have e : grS (zig n) ⟨0, fun _ => [.int .u8 0]⟩ = grS (((zig n).toNat : Nat) : Int) ⟨0, fun _ => [.int .u8 0]⟩ := by rw [← hz]
    rw [e]
    exact ⟨h0.1, h0.2.1, h0.2.2.1, h0.2.2.2 [] byt_nil⟩
  have E : ∃ r : RW, (Byt r (grp (zig n).toNat) ∧ r.n ≤ 11) ∧ runFW (VE.run [] 1 [] [([1, 1, 1, 0, 0], mkO u w grO)] [] iGroups) 9 iGroups [.int .i64 n] [] = some (φGr r) := by
    show RunTo _ φGr _
    apply RunTo.by
    · exact .lp hL fun t ht => .n (c := roomy 1 (t.r.n + 1) && Nat.beq t.r.n t.r.n) (roomy_and (by omega)) (.r (RW.mk (t.r.n + 1) (appGet t.r.n 1 t.r.g (fillGet [.int .u8 0] [(0, .int .u8 (IntKind.wrap .u8 (t.u : Int)))]))) (by
        obtain ⟨h1, h2, l', h3, h4⟩ := ht
        refine ⟨?_, by show t.r.n + 1 ≤ 11; omega⟩
        rw [← h4]
        have e : IntKind.wrap .u8 (t.u : Int) = (t.u : Int) := by rw [IntKind.wrap_u8]; omega
        rw [e]
        exact Byt.app (n := t.r.n) (g := t.r.g) h3 (byt_one (by omega))))
    · kernel_rfl
  obtain ⟨r, h1, h2⟩ := E
  exact ⟨r, h1, ct_newW (T := []) (W := []) mixedE funcsE tabOk_nil (loopsOk_cons (hl _) loopsOk_nil) (fun _ h => (List.not_mem_nil h).elim) h2⟩
end Go.TE

namespace Go.TE
open Go Go.Ab Go.Proofs
theorem mk_ok {m : Nat} (h : m ≤ 1099511627776) : (decide ((0 : Int) = 0) && (decide (0 ≤ IntKind.wrap .i64 (((0 : Nat) : Int) + (m : Int))) && (roomy 1 (IntKind.wrap .i64 (((0 : Nat) : Int) + (m : Int))).toNat && decide (IntKind.wrap .i64 (((0 : Nat) : Int) + (m : Int)) ≤ 140737488355328)))) = true := by
  have e : IntKind.wrap .i64 (((0 : Nat) : Int) + (m : Int)) = m := by rw [wrap_i64 (by omega) (by omega)]; omega
  rw [e, decide_eq_true (show (0 : Int) ≤ m by omega), decide_eq_true (show (m : Int) ≤ 140737488355328 by omega), roomy_le (by rw [Int.toNat_natCast]; omega)]
  rfl
def num (n : Int) : List UInt8 := grp (zig n).toNat
def txt (s : List UInt8) : List UInt8 := num s.length ++ s
def bol (b : Bool) : List UInt8 := [cond b 1 0]
def nilB : AV := .sl .fit 0 0 fun _ => []
def φRw (x : RW) : AV × List AO := (.sl .no 1 x.n x.g, [])
theorem group_ent : ∃ (g : List AV → List AO → Bool) (w : List AV → List AO → RW), (∀ n : Int, Asks g w [.int .i64 n] [] (fun r => Byt r (num n) ∧ r.n ≤ 11)) ∧ EntOk VE iGroups g w φGr := by
  obtain ⟨g, w, h1, h2⟩ := ent_any (V := VE) (f := iGroups) (A := fun n : Int => [.int .i64 n]) (O := fun _ => []) (Pre := fun _ => True) (φ := φGr) (fun n r => Byt r (num n) ∧ r.n ≤ 11) (fun a b x h _ hp => by
    simp only [List.cons.injEq, AV.int.injEq, true_and, and_true] at h
    subst h; exact hp) fun n _ => groups_ex n
  exact ⟨g, w, fun n => h1 n trivial, h2⟩
theorem putNum_ex (n : Int) : ∃ x : RW, (Byt x (num n) ∧ x.n ≤ 11) ∧ Ct VE.P VE.G iPutNum [nilB, .int .i64 n] [] (φRw x) := by
  obtain ⟨g, w, hg, eg⟩ := group_ent
  refine ct_to (n := 9) (V := VE) (d := 2) mixedE funcsE (tabOk_cons eg tabOk_nil) loopsOk_nil ?_
  apply RunTo.by
  · exact .ask (hg n) fun t ht => .n (mk_ok (m := t.n) (by omega)) (.n (roomy_and (b := 1) (n := 0 + 0 + t.n) (m := 0 + 0) (by omega))
      (.r (RW.mk (0 + 0 + t.n) (appGet (0 + 0) t.n (appGet 0 0 (fun _ => [.int .u8 0]) fun _ => []) t.g)) ⟨Byt.app (a := []) byt_nil ht.1, by show 0 + 0 + t.n ≤ 11; omega⟩))
  · kernel_rfl
theorem putText_ex (s : List UInt8) (hs : s.length ≤ 1048576) : ∃ x : RW, (Byt x (txt s) ∧ x.n ≤ s.length + 11) ∧ Ct VE.P VE.G iPutText [nilB, .str s] [] (φRw x) := by
  obtain ⟨g, w, hg, eg⟩ := group_ent
  refine ct_to (n := 9) (V := VE) (d := 2) mixedE funcsE (tabOk_cons eg tabOk_nil) loopsOk_nil ?_
  apply RunTo.by
  · exact .ask (hg s.length) fun t ht => .n (roomy_and (b := 1) (n := t.n + s.length) (m := t.n) (by omega)) (.n (mk_ok (m := t.n + s.length) (by omega)) (.n (roomy_and (b := 1) (n := 0 + 0 + (t.n + s.length)) (m := 0 + 0) (by omega))
      (.r (RW.mk (0 + 0 + (t.n + s.length)) (appGet (0 + 0) (t.n + s.length) (appGet 0 0 (fun _ => [.int .u8 0]) fun _ => []) (appGet t.n s.length t.g (rowOf s)))) ⟨Byt.app (a := []) byt_nil (Byt.app (n := t.n) (g := t.g) ht.1 (byt_row s)), by show 0 + 0 + (t.n + s.length) ≤ s.length + 11; omega⟩)))
  · kernel_rfl
theorem putBool_ex (b : Bool) : ∃ x : RW, (Byt x (bol b) ∧ x.n ≤ 1) ∧ Ct VE.P VE.G iPutBool [nilB, .bool b] [] (φRw x) := by
  have z : ∀ n : Int, 0 ≤ n ∧ n < 256 → Byt ⟨1, appGet (0 + 0) 1 (appGet 0 0 (fun _ => [.int .u8 0]) fun _ => []) (fillGet [.int .u8 0] [(0, .int .u8 n)])⟩ [UInt8.ofNat n.toNat] := fun n h => Byt.app (n := 0) (a := []) byt_nil (byt_one h)
  refine ct_to (n := 9) (V := VE) (T := []) (d := 2) mixedE funcsE tabOk_nil loopsOk_nil ?_
  apply RunTo.by
  · exact .b b (fun h => .r (RW.mk 1 (appGet (0 + 0) 1 (appGet 0 0 (fun _ => [.int .u8 0]) fun _ => []) (fillGet [.int .u8 0] [(0, .int .u8 1)]))) ⟨by rw [h]; exact z 1 (by omega), Nat.le_refl _⟩)
      fun h => .r (RW.mk 1 (appGet (0 + 0) 1 (appGet 0 0 (fun _ => [.int .u8 0]) fun _ => []) (fillGet [.int .u8 0] [(0, .int .u8 0)]))) ⟨by rw [h]; exact z 0 (by omega), Nat.le_refl _⟩
  · kernel_rfl
theorem putNum_ent : ∃ (g : List AV → List AO → Bool) (w : List AV → List AO → RW), (∀ n : Int, Asks g w [nilB, .int .i64 n] [] (fun r => Byt r (num n) ∧ r.n ≤ 11)) ∧ EntOk VE iPutNum g w φRw := by
  obtain ⟨g, w, h1, h2⟩ := ent_any (V := VE) (f := iPutNum) (A := fun n : Int => [nilB, .int .i64 n]) (O := fun _ => []) (Pre := fun _ => True) (φ := φRw) (fun n r => Byt r (num n) ∧ r.n ≤ 11) (fun a b x h _ hp => by
    simp only [List.cons.injEq, AV.int.injEq, true_and, and_true] at h
    subst h; exact hp) fun n _ => putNum_ex n
  exact ⟨g, w, fun n => h1 n trivial, h2⟩
theorem putText_ent : ∃ (g : List AV → List AO → Bool) (w : List AV → List AO → RW), (∀ s : List UInt8, s.length ≤ 1048576 → Asks g w [nilB, .str s] [] (fun r => Byt r (txt s) ∧ r.n ≤ s.length + 11)) ∧ EntOk VE iPutText g w φRw := by
  obtain ⟨g, w, h1, h2⟩ := ent_any (V := VE) (f := iPutText) (A := fun s : List UInt8 => [nilB, .str s]) (O := fun _ => []) (Pre := fun s => s.length ≤ 1048576) (φ := φRw) (fun s r => Byt r (txt s) ∧ r.n ≤ s.length + 11) (fun a b x h _ hp => by
    simp only [List.cons.injEq, AV.str.injEq, true_and, and_true] at h
    subst h; exact hp) fun s hs => putText_ex s hs
  exact ⟨g, w, h1, h2⟩
theorem putBool_ent : ∃ (g : List AV → List AO → Bool) (w : List AV → List AO → RW), (∀ b : Bool, Asks g w [nilB, .bool b] [] (fun r => Byt r (bol b) ∧ r.n ≤ 1)) ∧ EntOk VE iPutBool g w φRw := by
  obtain ⟨g, w, h1, h2⟩ := ent_any (V := VE) (f := iPutBool) (A := fun b : Bool => [nilB, .bool b]) (O := fun _ => []) (Pre := fun _ => True) (φ := φRw) (fun b r => Byt r (bol b) ∧ r.n ≤ 1) (fun a b x h _ hp => by
    simp only [List.cons.injEq, AV.bool.injEq, true_and, and_true] at h
    subst h; exact hp) fun b _ => putBool_ex b
  exact ⟨g, w, fun n => h1 n trivial, h2⟩
end Go.TE

namespace Go.TE
open Go Go.Ab Go.Proofs
/-- Bytes were appended. -/
def Ext (r q : RW) (b : List UInt8) : Prop := q.n = r.n + b.length ∧ ∀ l, Byt r l → Byt q (l ++ b)
theorem Ext.trans {r q p : RW} {b c : List UInt8} (h1 : Ext r q b) (h2 : Ext q p c) : Ext r p (b ++ c) :=
  ⟨by rw [h2.1, h1.1, List.length_append]; omega, fun l hl => by rw [← List.append_assoc]; exact h2.2 _ (h1.2 l hl)⟩
theorem Ext.nil (r : RW) : Ext r r [] := ⟨rfl, fun l hl => by rw [List.append_nil]; exact hl⟩
theorem Ext.of {r t : RW} {b : List UInt8} (h : Byt t b) : Ext r ⟨r.n + t.n, appGet r.n t.n r.g t.g⟩ b := ⟨by show r.n + t.n = _; rw [h.1], fun l hl => Byt.app (n := r.n) (g := r.g) hl h⟩
section
variable {τ : Type} {Post : τ → Prop} {φ : τ → AV × List AO}
/-- What a call answers is appended. -/
theorem put {g : List AV → List AO → Bool} {w : List AV → List AO → RW} {A : List AV} {m : Nat} {b : List UInt8} {T : RW → Res} (r : RW) (h : Asks g w A [] (fun t => Byt t b ∧ t.n ≤ m)) (hm : r.n + m ≤ 1099511627776) (k : ∀ q, Ext r q b → RunTo Post φ (T q)) :
    RunTo Post φ (cond (g A []) (cond (roomy 1 (r.n + (w A []).n) && Nat.beq r.n r.n) (T ⟨r.n + (w A []).n, appGet r.n (w A []).n r.g (w A []).g⟩) none) none) :=
  RunTo.n h.1 (RunTo.n (roomy_and (by have := h.2.2; omega)) (k _ (Ext.of h.2.1)))
end
theorem zig_small : ∀ n : Fin 64, zig (n.val : Int) = 2 * (n.val : Int) := by decide +kernel
theorem num_small {n : Nat} (h : n < 64) : num (n : Int) = [UInt8.ofNat (2 * n)] := by
  unfold num
  rw [zig_small ⟨n, h⟩, show (2 * ((⟨n, h⟩ : Fin 64).val : Int)).toNat = 2 * n by show (2 * (n : Int)).toNat = _; omega, grp.eq_1, if_pos (by omega)]
def nilX : AV := .sl .fit 0 0 fun _ => []
def z5 : List AV := [.int .i64 0, .str [], .str [], nilX, nilX]
def exC (c : Nat) : Nat → Int
  | 0 => c
  | _ + 1 => 4
def exD : Nat → Nat
  | 0 => 0
  | _ + 1 => 5
def exM : Nat → Nat
  | 0 => 0
  | _ + 1 => 1
def exG (c : Nat) : Nat → Nat → List AV
  | 0 => fun _ => []
  | k + 1 => fillGet z5 [(0, .agg [.int .i64 (exC c k), .str [], .str [], nilX, .sl .fit (exD k) (exM k) (exG c k)])]
/-- A condition of k + 1 levels. -/
def exN (c k : Nat) : List AV := [.int .i64 (exC c k), .str [], .str [], nilX, .sl .fit (exD k) (exM k) (exG c k)]
theorem exN_inj {c c' : Nat} : ∀ {k k' : Nat}, exN c k = exN c' k' → c = c' ∧ k = k' := by
  intro k
  induction k with
  | zero =>
    intro k' h
    cases k' with
    | zero =>
      have h : exC c 0 = exC c' 0 := by injection h with h _; injection h
      exact ⟨Int.ofNat.inj h, rfl⟩
    | succ k' =>
      simp only [exN, exM, exD, List.cons.injEq, AV.sl.injEq, true_and, and_true] at h
      omega
  | succ k ih =>
    intro k' h
    cases k' with
    | zero =>
      simp only [exN, exM, exD, List.cons.injEq, AV.sl.injEq, true_and, and_true] at h
      omega
    | succ k' =>
      simp only [exN, exM, exD, List.cons.injEq, AV.sl.injEq, true_and, and_true] at h
      have := ih (congrFun h.2 0)
      exact ⟨this.1, by omega⟩
def enc0 : List UInt8 := txt [] ++ (txt [] ++ num 0)
def encN (c : Nat) : Nat → List UInt8
  | 0 => UInt8.ofNat (2 * c) :: [0, 0, 0, 0]
  | k + 1 => 8 :: 0 :: 0 :: 0 :: 2 :: encN c k
theorem n0 : num 0 = [0] := num_small (n := 0) (by decide)
theorem n1 : num 1 = [2] := num_small (n := 1) (by decide)
theorem n4 : num 4 = [8] := num_small (n := 4) (by decide)
theorem t0 : txt [] = [0] := by unfold txt; rw [List.append_nil]; exact n0
theorem encN_len (c : Nat) : ∀ k, (encN c k).length = 5 * (k + 1)
  | 0 => rfl
  | k + 1 => by simp only [encN, List.length_cons, encN_len c k]; omega
def wO (r : RW) : List AO := [.cells [.sl (.key 1000001) 1 r.n r.g], .own 1 r.n]
def φWr (r : RW) : AV × List AO := (.tup [], wO r)
theorem wO_inj {a b : RW} (h : wO a = wO b) : a = b := by
  obtain ⟨a1, a2⟩ := a
  obtain ⟨b1, b2⟩ := b
  simp only [wO, List.cons.injEq, AO.cells.injEq, AV.sl.injEq, true_and, and_true] at h
  obtain ⟨⟨h1, h2⟩, _⟩ := h
  subst h1 h2; rfl
theorem wexpr_ex {c : Nat} (hc : c < 64) : ∀ (k : Nat) (r : RW), r.n + 100 * k ≤ 1000000000 → ∃ q : RW, Ext r q (encN c k) ∧ Ct VE.P VE.G iWExpr [.ref keyBase 0, .agg (exN c k)] (wO r) (φWr q) := by
  intro k
  obtain ⟨gn, wn, hn, en⟩ := putNum_ent
  obtain ⟨gt, wt, ht, et⟩ := putText_ent
  have h0 := hn 0
  have h1 := hn 1
  have h4 := hn 4
  have hcc := hn c
  have ht := ht [] (Nat.zero_le _)
  rw [n0] at h0
  rw [n1] at h1
  rw [n4] at h4
  rw [num_small hc] at hcc
  rw [t0] at ht
  induction k with
  | zero =>
    intro r hr
    refine ct_to (n := 9) (V := VE) (d := 4) mixedE funcsE (tabOk_cons en (tabOk_cons et tabOk_nil)) loopsOk_nil ?_
    apply RunTo.by
    · exact put r hcc (by omega) fun q1 a1 => put q1 ht (by have := a1.1; show q1.n + (0 + 11) ≤ _; simp only [List.length] at *; omega) fun q2 a2 => put q2 ht (by have := a1.1; have := a2.1; show q2.n + (0 + 11) ≤ _; simp only [List.length] at *; omega) fun q3 a3 =>
        put q3 h0 (by have := a1.1; have := a2.1; have := a3.1; simp only [List.length] at *; omega) fun q4 a4 => put q4 h0 (by have := a1.1; have := a2.1; have := a3.1; have := a4.1; simp only [List.length] at *; omega) fun q5 a5 => .r q5 (a1.trans (a2.trans (a3.trans (a4.trans a5))))
    · kernel_rfl
  | succ k ih =>
    intro r hr
    obtain ⟨gx, wx, hx, ex⟩ := ent_any (V := VE) (f := iWExpr) (A := fun _ : RW => [.ref keyBase 0, .agg (exN c k)]) (O := wO) (Pre := fun r => r.n + 100 * k ≤ 1000000000) (φ := φWr) (fun r q => Ext r q (encN c k)) (fun a b x _ h hp => by rw [← wO_inj h]; exact hp) (fun r hr => ih r hr)
    have hx : ∀ r : RW, r.n + 100 * k ≤ 1000000000 → Asks gx wx [.ref keyBase 0, .agg (exN c k)] (wO r) (fun q => Ext r q (encN c k)) := hx
    refine ct_to (n := 9) (V := VE) (d := 4) mixedE funcsE (tabOk_cons en (tabOk_cons et (tabOk_cons ex tabOk_nil))) loopsOk_nil ?_
    apply RunTo.by
    · exact put r h4 (by omega) fun q1 a1 => put q1 ht (by have := a1.1; show q1.n + (0 + 11) ≤ _; simp only [List.length] at *; omega) fun q2 a2 => put q2 ht (by have := a1.1; have := a2.1; show q2.n + (0 + 11) ≤ _; simp only [List.length] at *; omega) fun q3 a3 =>
        put q3 h0 (by have := a1.1; have := a2.1; have := a3.1; simp only [List.length] at *; omega) fun q4 a4 => put q4 h1 (by have := a1.1; have := a2.1; have := a3.1; have := a4.1; simp only [List.length] at *; omega) fun q5 a5 =>
        .ask (hx q5 (by have := a1.1; have := a2.1; have := a3.1; have := a4.1; have := a5.1; simp only [List.length] at *; omega)) fun q6 a6 => .r q6 (a1.trans (a2.trans (a3.trans (a4.trans (a5.trans a6)))))
    · kernel_rfl
/-- The writer of conditions as an entry. -/
structure WX where
  c : Nat
  k : Nat
  r : RW
def wxPre (x : WX) : Prop := x.c < 64 ∧ x.r.n + 100 * x.k ≤ 1000000000
theorem wexpr_ent : ∃ (g : List AV → List AO → Bool) (w : List AV → List AO → RW), (∀ (c k : Nat) (r : RW), c < 64 ∧ r.n + 100 * k ≤ 1000000000 → Asks g w [.ref keyBase 0, .agg (exN c k)] (wO r) (fun q => Ext r q (encN c k))) ∧ EntOk VE iWExpr g w φWr := by
  obtain ⟨g, w, h1, h2⟩ := ent_any (V := VE) (f := iWExpr) (A := fun x : WX => [.ref keyBase 0, .agg (exN x.c x.k)]) (O := fun x => wO x.r) (Pre := wxPre) (φ := φWr) (fun x q => Ext x.r q (encN x.c x.k)) (fun a b x h1 h2 hp => by
    have e := wO_inj h2
    simp only [List.cons.injEq, AV.agg.injEq, true_and, and_true] at h1
    have e2 := exN_inj h1
    rw [← e, ← e2.1, ← e2.2]; exact hp) fun x hx => wexpr_ex hx.1 x.k x.r hx.2
  exact ⟨g, w, fun c k r h => h1 ⟨c, k, r⟩ h, h2⟩
end Go.TE

namespace Go.TE
open Go Go.Ab Go.Proofs
set_option linter.unusedVariables false
def chOf (s : Int) (key seg kind : List UInt8) (w : List AV) : List AV := [.int .i64 s, .str key, .bool false, .str [], .str [], .int .i64 0, .str [], .str [], .int .i64 0, .str seg, .str kind, nilX, nilX] ++ w ++ [.str [], .int .i64 0, nilX, .bool false, .int .i64 0, nilX, nilX, nilX, .int .i64 0, .str [], .str [], .str [], nilX, .str [], .str [], .str [], .int .i64 0, .int .i64 0, nilX, .str [], .str [], .str [], .str [], .int .i64 0, nilX, nilX, .int .i64 0, .str [], .str [], nilX, nilX]
def chA (k : Nat) : AV := .sl .fit 49 1 (fillGet (chOf 0 [] [] [] z5) [(0, .agg (chOf 3 [97] [97] [117, 115, 101, 114] (exN 1 k)))])
def preL : List UInt8 := [2, 6, 2, 97, 0, 0, 0, 0, 0, 0, 0, 2, 97, 8, 117, 115, 101, 114, 0, 0]
def sufL : List UInt8 := [0, 0, 0, 0, 0, 0, 0, 0, 0, 0, 0, 0, 0, 0, 0, 0, 0, 0, 0, 0, 0, 0, 0, 0, 0, 0]
/-- The bytes of the change. -/
def chB (k : Nat) : List UInt8 := preL ++ (encN 1 k ++ (sufL ++ encN 0 0))
structure BE where
  o : Own
  d : Nat
  n : Nat
  g : Nat → List AV
  e : Int
def φBE (x : BE) : AV × List AO := (.tup [.sl x.o x.d x.n x.g, .int .i64 x.e], [])
def Wr (i : Nat) (r : RW) (l : List UInt8) : Prop := Byt r l ∧ r.n ≤ 2000 * i
section
variable {τ : Type} {Post : τ → Prop} {φ : τ → AV × List AO}
theorem pu {g : List AV → List AO → Bool} {w : List AV → List AO → RW} {A : List AV} {m i : Nat} {b l : List UInt8} {r : RW} {T : RW → Res} (hr : Wr i r l) (hi : i ≤ 100) (h : Asks g w A [] (fun t => Byt t b ∧ t.n ≤ m)) (hm : m ≤ 2000) (k : ∀ q, Wr (i + 1) q (l ++ b) → RunTo Post φ (T q)) :
    RunTo Post φ (cond (g A []) (cond (roomy 1 (r.n + (w A []).n) && Nat.beq r.n r.n) (T ⟨r.n + (w A []).n, appGet r.n (w A []).n r.g (w A []).g⟩) none) none) :=
  put r h (by have := hr.2; omega) fun q hq => k q ⟨hq.2 l hr.1, by have := hr.2; have := hq.1; have := h.2.1.1; have := h.2.2; omega⟩
end
set_option maxRecDepth 100000 in
theorem changes_ex {k : Nat} (hk : k ≤ 200) : ∃ x : BE, (x.o = .no ∧ x.d = 1 ∧ x.e = 0 ∧ Byt ⟨x.n, x.g⟩ (chB k)) ∧ Ct VE.P VE.G iChanges [chA k] [] (φBE x) := by
  obtain ⟨gn, wn, hn, en⟩ := putNum_ent
  obtain ⟨gt, wt, ht, et⟩ := putText_ent
  obtain ⟨gb, wb, hb, eb⟩ := putBool_ent
  obtain ⟨gx, wx, hx, ex⟩ := wexpr_ent
  have h_n0 := hn 0
  have h_n1 := hn 1
  have h_n3 := hn 3
  have h_t0 := ht [] (by decide)
  have h_ta := ht [97] (by decide)
  have h_tu := ht [117, 115, 101, 114] (by decide)
  have h_bf := hb false
  rw [n0] at h_n0
  rw [n1] at h_n1
  rw [show num 3 = [6] from num_small (n := 3) (by decide)] at h_n3
  rw [t0] at h_t0
  rw [show txt [97] = [2, 97] by unfold txt; rw [show num ((([97] : List UInt8).length : Nat) : Int) = [2] from n1]; rfl] at h_ta
  rw [show txt [117, 115, 101, 114] = [8, 117, 115, 101, 114] by unfold txt; rw [show num ((([117, 115, 101, 114] : List UInt8).length : Nat) : Int) = [8] from n4]; rfl] at h_tu
  have q0 : Wr 0 ⟨0, fun _ => [.int .u8 0]⟩ [] := ⟨byt_nil, Nat.le_refl _⟩
  refine ct_to (n := 9) (V := VE) (d := 9) mixedE funcsE (tabOk_cons en (tabOk_cons et (tabOk_cons eb (tabOk_cons ex tabOk_nil)))) loopsOk_nil ?_
  apply RunTo.by
  · exact pu q0 (by decide) h_n1 (by decide) fun r1 q1 =>
      pu q1 (by decide) h_n3 (by decide) fun r2 q2 =>
      pu q2 (by decide) h_ta (by decide) fun r3 q3 =>
      pu q3 (by decide) h_bf (by decide) fun r4 q4 =>
      pu q4 (by decide) h_t0 (by decide) fun r5 q5 =>
      pu q5 (by decide) h_t0 (by decide) fun r6 q6 =>
      pu q6 (by decide) h_n0 (by decide) fun r7 q7 =>
      pu q7 (by decide) h_t0 (by decide) fun r8 q8 =>
      pu q8 (by decide) h_t0 (by decide) fun r9 q9 =>
      pu q9 (by decide) h_n0 (by decide) fun r10 q10 =>
      pu q10 (by decide) h_ta (by decide) fun r11 q11 =>
      pu q11 (by decide) h_tu (by decide) fun r12 q12 =>
      pu q12 (by decide) h_n0 (by decide) fun r13 q13 =>
      pu q13 (by decide) h_n0 (by decide) fun r14 q14 =>
      .ask (hx 1 k _ ⟨by decide, by have := q14.2; omega⟩) fun r15 a15 =>
      have q15 : Wr (14+1) r15 _ := ⟨a15.2 _ q14.1, by have := q14.2; have := a15.1; rw [encN_len] at this; omega⟩
      pu q15 (by decide) h_t0 (by decide) fun r16 q16 =>
      pu q16 (by decide) h_n0 (by decide) fun r17 q17 =>
      pu q17 (by decide) h_n0 (by decide) fun r18 q18 =>
      pu q18 (by decide) h_bf (by decide) fun r19 q19 =>
      pu q19 (by decide) h_n0 (by decide) fun r20 q20 =>
      pu q20 (by decide) h_n0 (by decide) fun r21 q21 =>
      pu q21 (by decide) h_n0 (by decide) fun r22 q22 =>
      pu q22 (by decide) h_n0 (by decide) fun r23 q23 =>
      pu q23 (by decide) h_n0 (by decide) fun r24 q24 =>
      pu q24 (by decide) h_t0 (by decide) fun r25 q25 =>
      pu q25 (by decide) h_t0 (by decide) fun r26 q26 =>
      pu q26 (by decide) h_t0 (by decide) fun r27 q27 =>
      pu q27 (by decide) h_n0 (by decide) fun r28 q28 =>
      pu q28 (by decide) h_t0 (by decide) fun r29 q29 =>
      pu q29 (by decide) h_t0 (by decide) fun r30 q30 =>
      pu q30 (by decide) h_t0 (by decide) fun r31 q31 =>
      pu q31 (by decide) h_n0 (by decide) fun r32 q32 =>
      pu q32 (by decide) h_n0 (by decide) fun r33 q33 =>
      pu q33 (by decide) h_n0 (by decide) fun r34 q34 =>
      pu q34 (by decide) h_t0 (by decide) fun r35 q35 =>
      pu q35 (by decide) h_t0 (by decide) fun r36 q36 =>
      pu q36 (by decide) h_t0 (by decide) fun r37 q37 =>
      pu q37 (by decide) h_t0 (by decide) fun r38 q38 =>
      pu q38 (by decide) h_n0 (by decide) fun r39 q39 =>
      pu q39 (by decide) h_n0 (by decide) fun r40 q40 =>
      pu q40 (by decide) h_n0 (by decide) fun r41 q41 =>
      .ask (hx 0 0 _ ⟨by decide, by have := q41.2; omega⟩) fun r42 a42 =>
      have q42 : Wr (41+1) r42 _ := ⟨a42.2 _ q41.1, by have := q41.2; have := a42.1; rw [encN_len] at this; omega⟩
      .b (decide ((r42.n : Int) > 1048576)) (fun h => .r (BE.mk .fit 0 0 (fun _ => []) 4) (absurd (of_decide_eq_true h) (by have := q42.2; omega))) fun _ => .r (BE.mk .no 1 r42.n r42.g 0) ⟨rfl, rfl, rfl, by
        have h := q42.1
        simp only [List.append_assoc, List.nil_append, List.cons_append] at h
        exact h⟩
  · kernel_rfl
end Go.TE

namespace Go.TE
open Go Go.Ab Go.Proofs
set_option linter.unusedVariables false
/-- A contract of which less is told about the objects. -/
theorem Ct.objs {P : Program} {G : Nat → Option (List AV)} {f : FuncId} {l : List AV} {os o1 o2 : List AO} {r : AV} (h : Ct P G f l os (r, o1)) (hw : ObjsLe (enterObjs o1 keyBase) (enterObjs o2 keyBase)) : Ct P G f l os (r, o2) := by
  have hlive : ∀ k, live (enterObjs o1 keyBase) k → live (enterObjs o2 keyBase) k := fun k hk => by
    obtain ⟨o, hk⟩ := hk
    rcases hw.look k with ⟨h1, _⟩ | ⟨_, o', _, h2, _⟩
    · rw [h1] at hk; cases hk
    · exact ⟨o', h2⟩
  have hback : ∀ {k o'}, alook (enterObjs o2 keyBase) k = some o' → ∃ o, alook (enterObjs o1 keyBase) k = some o ∧ ObjLe o o' := fun {k o'} hk => by
    rcases hw.look k with ⟨_, h1⟩ | ⟨o, o2, h1, h2, h3⟩
    · rw [h1] at hk; cases hk
    · rw [h2] at hk; cases hk; exact ⟨o, h1, h3⟩
  refine ⟨fun c0 vs hg ho hs hr hl => (h.1 c0 vs hg ho hs hr hl).mono ?_, h.2⟩
  rintro e w' ⟨c', x, h1, h2, h3, h4, h5, h6, h7, h8⟩
  refine ⟨c', x, h1, h2, h3, h4, ⟨fun k o' hk => ?_, fun k o' q o3 b hk hq hne hb => ?_, fun k o' hk q hq => ?_⟩, h6, fun k hk => hlive k (h7 k hk), fun k o' b hk hb => ?_⟩
  · obtain ⟨o, e1, e2⟩ := hback hk
    exact e2.rep (h5.rep k o e1)
  · obtain ⟨o, e1, e2⟩ := hback hk
    obtain ⟨o4, e3, e4⟩ := hback hq
    rw [e4.excl]
    rw [e2.excl] at hb
    exact h5.apart k o q o4 b e1 e3 hne hb
  · obtain ⟨o, e1, e2⟩ := hback hk
    rcases e2.keys with rfl | h0
    · exact hlive q (h5.closed k _ e1 q hq)
    · rw [h0] at hq; cases hq
  · obtain ⟨o, e1, e2⟩ := hback hk
    rw [e2.excl] at hb
    exact h8 k o b e1 hb
/-- A reader's bytes and its error. -/
def rdr (l : List UInt8) (e : Int) : AO := .cells [.sl .no 1 l.length (rowOf l), .int .i64 e]
theorem mk_ok2 {m : Nat} (h : m ≤ 1099511627776) : (decide ((0 : Int) = 0) && (decide (0 ≤ IntKind.wrap .i64 ((m : Int) + ((0 : Nat) : Int))) && (roomy 1 (IntKind.wrap .i64 ((m : Int) + ((0 : Nat) : Int))).toNat && decide (IntKind.wrap .i64 ((m : Int) + ((0 : Nat) : Int)) ≤ 140737488355328)))) = true := by
  have e : IntKind.wrap .i64 ((m : Int) + ((0 : Nat) : Int)) = m := by rw [wrap_i64 (by omega) (by omega)]; omega
  rw [e, decide_eq_true (show (0 : Int) ≤ m by omega), decide_eq_true (show (m : Int) ≤ 140737488355328 by omega), roomy_le (by rw [Int.toNat_natCast]; omega)]
  rfl
theorem byt_two (l : List UInt8) : Byt ⟨0 + l.length + 0, appGet (0 + l.length) 0 (appGet 0 l.length (fun _ => [.int .u8 0]) (rowOf l)) fun _ => []⟩ l := by
  have h1 : Byt ⟨0 + l.length, appGet 0 l.length (fun _ => [.int .u8 0]) (rowOf l)⟩ ([] ++ l) := Byt.app byt_nil (byt_row l)
  have h2 : Byt ⟨0 + l.length + 0, appGet (0 + l.length) 0 (appGet 0 l.length (fun _ => [.int .u8 0]) (rowOf l)) fun _ => []⟩ (([] ++ l) ++ []) := Byt.app h1 byt_nil
  rw [List.append_nil] at h2
  exact h2
theorem new_ex (l : List UInt8) (hl : l.length ≤ 1048576) : Ct VE.P VE.G iNew [.sl .no 1 l.length (rowOf l)] [] (.ref keyBase 0, [rdr l 0]) := by
  have E : ∃ r : RW, Byt r l ∧ runFM (VE.run [] 3 [] [] [] iNew) 9 iNew [.sl .no 1 l.length (rowOf l)] [] = some (.ref keyBase 0, [.cells [.sl .no 1 r.n r.g, .int .i64 0]]) := by
    show RunTo _ (fun r : RW => (AV.ref keyBase 0, [AO.cells [.sl .no 1 r.n r.g, .int .i64 0]])) _
    apply RunTo.by
    · exact .n (mk_ok2 (m := l.length) (by omega)) (.n (roomy_and (b := 1) (n := 0 + l.length) (m := 0) (by omega)) (.n (roomy_and (b := 1) (n := 0 + l.length + 0) (m := 0 + l.length) (by omega)) (.r (RW.mk (0 + l.length + 0) (appGet (0 + l.length) 0 (appGet 0 l.length (fun _ => [.int .u8 0]) (rowOf l)) fun _ => [])) (byt_two l))))
    · kernel_rfl
  obtain ⟨r, h1, h2⟩ := E
  have h3 : Ct VE.P VE.G iNew [.sl .no 1 l.length (rowOf l)] [] (.ref keyBase 0, [.cells [.sl .no 1 r.n r.g, .int .i64 0]]) := ct_newM (T := []) (L := []) (W := []) mixedE funcsE tabOk_nil (fun _ h => (List.not_mem_nil h).elim) (fun _ h => (List.not_mem_nil h).elim) h2
  refine Ct.objs h3 (.cons _ _ _ _ _ (.cells _ _ ⟨rfl, rfl, fun i u u' h4 h5 => ?_⟩) .nil)
  match i with
  | 0 =>
    cases h4; cases h5
    refine ⟨rfl, fun c x hx => ?_⟩
    rw [← h1.1]
    exact rep_tell hx fun j hj => (h1.2 j hj).symm
  | 1 =>
    cases h4; cases h5
    exact ⟨rfl, fun _ _ h => h⟩
  | i + 2 => cases h4
end Go.TE

namespace Go.TE
open Go Go.Ab Go.Proofs
set_option linter.unusedVariables false
open Classical in
/-- An entry whose answer is reckoned. -/
theorem ent_fn {τ α : Type} {V : Env} {f : FuncId} {A : α → List AV} {O : α → List AO} {Pre : α → Prop} {φ : τ → AV × List AO} (w : List AV → List AO → τ) (h : ∀ a, Pre a → Ct V.P V.G f (A a) (O a) (φ (w (A a) (O a)))) : EntOk V f (goodA A O Pre) w φ := by
  intro l os hp
  have hp : goodA A O Pre l os = true := hp
  obtain ⟨a, h1, h2, h3⟩ := of_decide_eq_true hp
  have := h a h1
  rw [h2, h3] at this
  exact this
structure RX where
  v : Int
  n : Nat
  g : Nat → List AV
  e : Int
def φR (x : RX) : AV × List AO := (.int .i64 x.v, [.cells [.sl .no 1 x.n x.g, .int .i64 x.e]])
def u8at (g : Nat → List AV) (i : Nat) : Int := match g i with
  | [.int _ x] => x
  | _ => 0
def wN (_ : List AV) (os : List AO) : RX := match os with
  | [.cells [.sl _ _ n g, .int _ e]] => cond (decide (e = 0)) ⟨u8at g 0 / 2, n - 1, fun j => g (j + 1), e⟩ ⟨0, n, g, e⟩
  | _ => ⟨0, 0, fun _ => [], 0⟩
structure RS where
  l : List UInt8
  e : Int
def oR (s : RS) : List AO := [rdr s.l s.e]
def preN (s : RS) : Prop := (s.e = 0 ∧ ∃ b l, s.l = b :: l ∧ (b = 0 ∨ b = 2 ∨ b = 6 ∨ b = 8)) ∨ s.e = 1
theorem within_0 (n : Nat) : within 0 (n + 1) = true := by simp [within]
theorem cut_1 (n : Nat) : (decide (0 ≤ IntKind.wrap .i64 (0 + 1)) && (decide (IntKind.wrap .i64 (0 + 1) ≤ ((n + 1 : Nat) : Int)) && decide (((n + 1 : Nat) : Int) ≤ ((n + 1 : Nat) : Int)))) = true := by
  rw [show IntKind.wrap .i64 (0 + 1) = 1 from rfl, decide_eq_true (show (0 : Int) ≤ 1 by omega), decide_eq_true (show (1 : Int) ≤ ((n + 1 : Nat) : Int) by omega), decide_eq_true (Int.le_refl _)]; rfl
/-- A row of a reader told anew. -/
theorem Ct.rdr {f : FuncId} {A : List AV} {O : List AO} {v : AV} {n : Nat} {g g' : Nat → List AV} {e : Int} (h : Ct VE.P VE.G f A O (v, [.cells [.sl .no 1 n g, .int .i64 e]])) (hg : ∀ j, j < n → g' j = g j) : Ct VE.P VE.G f A O (v, [.cells [.sl .no 1 n g', .int .i64 e]]) := by
  refine Ct.objs h (.cons _ _ _ _ _ (.cells _ _ ⟨rfl, rfl, fun i u u' h4 h5 => ?_⟩) .nil)
  match i with
  | 0 =>
    cases h4; cases h5
    exact ⟨rfl, fun c x hx => rep_tell hx hg⟩
  | 1 =>
    cases h4; cases h5
    exact ⟨rfl, fun _ _ h => h⟩
  | i + 2 => cases h4
theorem drop_row (b : UInt8) (l : List UInt8) : ∀ j, j < l.length → (fun j => rowOf (b :: l) (j + 1)) j = (fun j => [AV.int .u8 ((b :: l).getD (1 + j) 0).toNat]) j := fun j _ => by
  show rowOf (b :: l) (j + 1) = _
  rw [Nat.add_comm]; rfl
theorem num_read (s : RS) (h : preN s) : Ct VE.P VE.G iNumber [.ref keyBase 0] (oR s) (φR (wN [.ref keyBase 0] (oR s))) := by
  obtain ⟨l, e⟩ := s
  rcases h with ⟨he, b, l', hl, hb⟩ | he
  · have he : e = 0 := he
    have hl : l = b :: l' := hl
    subst he hl
    have key : ∀ b : UInt8, (b = 0 ∨ b = 2 ∨ b = 6 ∨ b = 8) → ∃ x : RX, x = RX.mk (u8at (rowOf (b :: l')) 0 / 2) l'.length (fun j => [AV.int .u8 ((b :: l').getD (1 + j) 0).toNat]) 0 ∧ Ct VE.P VE.G iNumber [.ref keyBase 0] (oR ⟨b :: l', 0⟩) (φR x) := by
      intro b hb
      rcases hb with rfl | rfl | rfl | rfl
      all_goals
        refine ct_to (n := 9) (V := VE) (T := []) (d := 3) mixedE funcsE tabOk_nil loopsOk_nil ?_
        apply RunTo.by
        · exact .n (within_0 l'.length) (.n (cut_1 l'.length) (.r (RX.mk _ _ _ _) rfl))
        · kernel_rfl
    obtain ⟨x, rfl, hx⟩ := key b hb
    exact Ct.rdr hx (drop_row b l')
  · have he : e = 1 := he
    subst he
    have : ∃ x : RX, x = RX.mk 0 l.length (rowOf l) 1 ∧ Ct VE.P VE.G iNumber [.ref keyBase 0] (oR ⟨l, 1⟩) (φR x) := by
      refine ct_to (n := 9) (V := VE) (T := []) (d := 3) mixedE funcsE tabOk_nil loopsOk_nil ?_
      apply RunTo.by
      · exact .r (RX.mk _ _ _ _) rfl
      · kernel_rfl
    obtain ⟨x, rfl, hx⟩ := this
    exact hx
def aN (_ : RS) : List AV := [.ref keyBase 0]
theorem num_ent : EntOk VE iNumber (goodA aN oR preN) wN φR := ent_fn wN num_read
end Go.TE

namespace Go.TE
open Go Go.Ab Go.Proofs
set_option linter.unusedVariables false
/-- A reader's state and the most that it may read. -/
structure RM where
  m : Nat
  l : List UInt8
  e : Int
def aM (s : RM) : List AV := [.ref keyBase 0, .int .i64 ((s.m + 4 : Nat) : Int)]
def oM (s : RM) : List AO := [rdr s.l s.e]
structure TX where
  s : List UInt8
  n : Nat
  g : Nat → List AV
  e : Int
def φT (x : TX) : AV × List AO := (.str x.s, [.cells [.sl .no 1 x.n x.g, .int .i64 x.e]])
def φRb (x : RX) : AV × List AO := (.bool (decide (x.v = 1)), [.cells [.sl .no 1 x.n x.g, .int .i64 x.e]])
def wT (_ : List AV) (os : List AO) : TX := match os with
  | [.cells [.sl _ _ n g, .int _ e]] => cond (decide (e = 0)) ⟨bytesOf (u8at g 0 / 2).toNat fun j => g (j + 1), n - ((u8at g 0 / 2).toNat + 1), fun j => g (j + ((u8at g 0 / 2).toNat + 1)), e⟩ ⟨[], n, g, e⟩
  | _ => ⟨[], 0, fun _ => [], 0⟩
def preT (s : RM) : Prop := (s.e = 0 ∧ ∃ l, s.l = 0 :: l ∨ s.l = 2 :: 97 :: l ∨ s.l = 8 :: 117 :: 115 :: 101 :: 114 :: l) ∨ s.e = 1
def preC (s : RM) : Prop := (s.e = 0 ∧ ∃ l, s.l = 0 :: l ∨ s.l = 2 :: l) ∨ s.e = 1
def preB (s : RS) : Prop := (s.e = 0 ∧ ∃ l, s.l = 0 :: l) ∨ s.e = 1
theorem cut_3 (m n : Nat) : (decide (0 ≤ ((0 : Nat) : Int)) && (decide (((0 : Nat) : Int) ≤ (m : Int)) && (decide ((m : Int) = (m : Int)) && decide ((m : Int) ≤ ((n + m : Nat) : Int))))) = true := by
  rw [decide_eq_true (show (0 : Int) ≤ ((0 : Nat) : Int) by omega), decide_eq_true (show ((0 : Nat) : Int) ≤ (m : Int) by omega), decide_eq_true rfl, decide_eq_true (show (m : Int) ≤ ((n + m : Nat) : Int) by omega)]; rfl
theorem cut_2 (m n : Nat) : (decide (0 ≤ (m : Int)) && (decide ((m : Int) ≤ ((n + m : Nat) : Int)) && decide (((n + m : Nat) : Int) ≤ ((n + m : Nat) : Int)))) = true := by
  rw [decide_eq_true (show (0 : Int) ≤ (m : Int) by omega), decide_eq_true (show (m : Int) ≤ ((n + m : Nat) : Int) by omega), decide_eq_true (Int.le_refl _)]; rfl
theorem pre_num {b : UInt8} {l : List UInt8} (h : b = 0 ∨ b = 2 ∨ b = 6 ∨ b = 8) : preN ⟨b :: l, 0⟩ := .inl ⟨rfl, b, l, rfl, h⟩
theorem ask_num {b : UInt8} (l : List UInt8) (h : b = 0 ∨ b = 2 ∨ b = 6 ∨ b = 8) : goodA aN oR preN [.ref keyBase 0] [rdr (b :: l) 0] = true := goodA_eq (A := aN) (O := oR) (v := ⟨b :: l, 0⟩) (pre_num h)
theorem ask_err (l : List UInt8) : goodA aN oR preN [.ref keyBase 0] [rdr l 1] = true := goodA_eq (A := aN) (O := oR) (v := ⟨l, 1⟩) (.inr rfl)
theorem text_read (s : RM) (h : preT s) : Ct VE.P VE.G iText (aM s) (oM s) (φT (wT (aM s) (oM s))) := by
  obtain ⟨m, l, e⟩ := s
  rcases h with ⟨he, l', hl | hl | hl⟩ | he
  · have he : e = 0 := he
    have hl : l = 0 :: l' := hl
    subst he hl
    have : ∃ x : TX, x = TX.mk [] l'.length (fun j => [AV.int .u8 ((0 :: l').getD (0 + j + 1) 0).toNat]) 0 ∧ Ct VE.P VE.G iText (aM ⟨m, 0 :: l', 0⟩) (oM ⟨m, 0 :: l', 0⟩) (φT x) := by
      refine ct_to (n := 9) (V := VE) (d := 6) mixedE funcsE (tabOk_cons num_ent tabOk_nil) loopsOk_nil ?_
      apply RunTo.by
      · exact .n (ask_num (b := 0) (l') (by decide)) (.n (cut_3 0 l'.length) (.n (cut_2 0 l'.length) (.r (TX.mk _ _ _ _) rfl)))
      · kernel_rfl
    obtain ⟨x, rfl, hx⟩ := this
    have hx := Ct.rdr (g' := fun j => rowOf (0 :: l') (j + 1)) hx fun j _ => by show rowOf (0 :: l') (j + 1) = [AV.int .u8 ((0 :: l').getD (0 + j + 1) 0).toNat]; rw [Nat.zero_add]; rfl
    have e : φT (wT (aM ⟨m, 0 :: l', 0⟩) (oM ⟨m, 0 :: l', 0⟩)) = φT (TX.mk [] l'.length (fun j => rowOf (0 :: l') (j + 1)) 0) := by kernel_rfl
    rw [e]; exact hx
  · have he : e = 0 := he
    have hl : l = 2 :: 97 :: l' := hl
    subst he hl
    have : ∃ x : TX, x = TX.mk [97] l'.length (fun j => [AV.int .u8 ((2 :: 97 :: l').getD (1 + j + 1) 0).toNat]) 0 ∧ Ct VE.P VE.G iText (aM ⟨m, 2 :: 97 :: l', 0⟩) (oM ⟨m, 2 :: 97 :: l', 0⟩) (φT x) := by
      refine ct_to (n := 9) (V := VE) (d := 6) mixedE funcsE (tabOk_cons num_ent tabOk_nil) loopsOk_nil ?_
      apply RunTo.by
      · exact .n (ask_num (b := 2) (97 :: l') (by decide)) (.n (cut_3 1 l'.length) (.n (cut_2 1 l'.length) (.r (TX.mk _ _ _ _) rfl)))
      · kernel_rfl
    obtain ⟨x, rfl, hx⟩ := this
    have hx := Ct.rdr (g' := fun j => rowOf (2 :: 97 :: l') (j + 2)) hx fun j _ => by show rowOf (2 :: 97 :: l') (j + 2) = [AV.int .u8 ((2 :: 97 :: l').getD (1 + j + 1) 0).toNat]; rw [show 1 + j + 1 = j + 2 by omega]; rfl
    have e : φT (wT (aM ⟨m, 2 :: 97 :: l', 0⟩) (oM ⟨m, 2 :: 97 :: l', 0⟩)) = φT (TX.mk [97] l'.length (fun j => rowOf (2 :: 97 :: l') (j + 2)) 0) := by kernel_rfl
    rw [e]; exact hx
  · have he : e = 0 := he
    have hl : l = 8 :: 117 :: 115 :: 101 :: 114 :: l' := hl
    subst he hl
    have : ∃ x : TX, x = TX.mk [117, 115, 101, 114] l'.length (fun j => [AV.int .u8 ((8 :: 117 :: 115 :: 101 :: 114 :: l').getD (4 + j + 1) 0).toNat]) 0 ∧ Ct VE.P VE.G iText (aM ⟨m, 8 :: 117 :: 115 :: 101 :: 114 :: l', 0⟩) (oM ⟨m, 8 :: 117 :: 115 :: 101 :: 114 :: l', 0⟩) (φT x) := by
      refine ct_to (n := 9) (V := VE) (d := 6) mixedE funcsE (tabOk_cons num_ent tabOk_nil) loopsOk_nil ?_
      apply RunTo.by
      · exact .n (ask_num (b := 8) (117 :: 115 :: 101 :: 114 :: l') (by decide)) (.n (cut_3 4 l'.length) (.n (cut_2 4 l'.length) (.r (TX.mk _ _ _ _) rfl)))
      · kernel_rfl
    obtain ⟨x, rfl, hx⟩ := this
    have hx := Ct.rdr (g' := fun j => rowOf (8 :: 117 :: 115 :: 101 :: 114 :: l') (j + 5)) hx fun j _ => by show rowOf (8 :: 117 :: 115 :: 101 :: 114 :: l') (j + 5) = [AV.int .u8 ((8 :: 117 :: 115 :: 101 :: 114 :: l').getD (4 + j + 1) 0).toNat]; rw [show 4 + j + 1 = j + 5 by omega]; rfl
    have e : φT (wT (aM ⟨m, 8 :: 117 :: 115 :: 101 :: 114 :: l', 0⟩) (oM ⟨m, 8 :: 117 :: 115 :: 101 :: 114 :: l', 0⟩)) = φT (TX.mk [117, 115, 101, 114] l'.length (fun j => rowOf (8 :: 117 :: 115 :: 101 :: 114 :: l') (j + 5)) 0) := by kernel_rfl
    rw [e]; exact hx
  · have he : e = 1 := he
    subst he
    have : ∃ x : TX, x = TX.mk [] l.length (rowOf l) 1 ∧ Ct VE.P VE.G iText (aM ⟨m, l, 1⟩) (oM ⟨m, l, 1⟩) (φT x) := by
      refine ct_to (n := 9) (V := VE) (d := 6) mixedE funcsE (tabOk_cons num_ent tabOk_nil) loopsOk_nil ?_
      apply RunTo.by
      · exact .n (ask_err l) (.r (TX.mk _ _ _ _) rfl)
      · kernel_rfl
    obtain ⟨x, rfl, hx⟩ := this
    exact hx
theorem text_ent : EntOk VE iText (goodA aM oM preT) wT φT := ent_fn wT text_read
theorem count_read (s : RM) (h : preC s) : Ct VE.P VE.G iCount (aM s) (oM s) (φR (wN (aM s) (oM s))) := by
  obtain ⟨m, l, e⟩ := s
  rcases h with ⟨he, l', hl | hl⟩ | he
  · have he : e = 0 := he
    have hl : l = 0 :: l' := hl
    subst he hl
    have : ∃ x : RX, x = RX.mk 0 l'.length (fun j => rowOf (0 :: l') (j + 1)) 0 ∧ Ct VE.P VE.G iCount (aM ⟨m, 0 :: l', 0⟩) (oM ⟨m, 0 :: l', 0⟩) (φR x) := by
      refine ct_to (n := 9) (V := VE) (d := 6) mixedE funcsE (tabOk_cons num_ent tabOk_nil) loopsOk_nil ?_
      apply RunTo.by
      · exact .n (ask_num (b := 0) (l') (by decide)) (.r (RX.mk _ _ _ _) rfl)
      · kernel_rfl
    obtain ⟨x, rfl, hx⟩ := this
    have e : φR (wN (aM ⟨m, 0 :: l', 0⟩) (oM ⟨m, 0 :: l', 0⟩)) = φR (RX.mk 0 l'.length (fun j => rowOf (0 :: l') (j + 1)) 0) := by kernel_rfl
    rw [e]; exact hx
  · have he : e = 0 := he
    have hl : l = 2 :: l' := hl
    subst he hl
    have : ∃ x : RX, x = RX.mk 1 l'.length (fun j => rowOf (2 :: l') (j + 1)) 0 ∧ Ct VE.P VE.G iCount (aM ⟨m, 2 :: l', 0⟩) (oM ⟨m, 2 :: l', 0⟩) (φR x) := by
      refine ct_to (n := 9) (V := VE) (d := 6) mixedE funcsE (tabOk_cons num_ent tabOk_nil) loopsOk_nil ?_
      apply RunTo.by
      · exact .n (ask_num (b := 2) (l') (by decide)) (.r (RX.mk _ _ _ _) rfl)
      · kernel_rfl
    obtain ⟨x, rfl, hx⟩ := this
    have e : φR (wN (aM ⟨m, 2 :: l', 0⟩) (oM ⟨m, 2 :: l', 0⟩)) = φR (RX.mk 1 l'.length (fun j => rowOf (2 :: l') (j + 1)) 0) := by kernel_rfl
    rw [e]; exact hx
  · have he : e = 1 := he
    subst he
    have : ∃ x : RX, x = RX.mk 0 l.length (rowOf l) 1 ∧ Ct VE.P VE.G iCount (aM ⟨m, l, 1⟩) (oM ⟨m, l, 1⟩) (φR x) := by
      refine ct_to (n := 9) (V := VE) (d := 6) mixedE funcsE (tabOk_cons num_ent tabOk_nil) loopsOk_nil ?_
      apply RunTo.by
      · exact .n (ask_err l) (.r (RX.mk _ _ _ _) rfl)
      · kernel_rfl
    obtain ⟨x, rfl, hx⟩ := this
    exact hx
theorem count_ent : EntOk VE iCount (goodA aM oM preC) wN φR := ent_fn wN count_read
theorem bool_read (s : RS) (h : preB s) : Ct VE.P VE.G iBool (aN s) (oR s) (φRb (wN (aN s) (oR s))) := by
  obtain ⟨l, e⟩ := s
  rcases h with ⟨he, l', hl⟩ | he
  · have he : e = 0 := he
    have hl : l = 0 :: l' := hl
    subst he hl
    have : ∃ x : RX, x = RX.mk 0 l'.length (fun j => [AV.int .u8 ((0 :: l').getD (1 + j) 0).toNat]) 0 ∧ Ct VE.P VE.G iBool [.ref keyBase 0] (oR ⟨0 :: l', 0⟩) (φRb x) := by
      refine ct_to (n := 9) (V := VE) (T := []) (d := 6) mixedE funcsE tabOk_nil loopsOk_nil ?_
      apply RunTo.by
      · exact .n (cut_3 1 l'.length) (.n (cut_2 1 l'.length) (.r (RX.mk _ _ _ _) rfl))
      · kernel_rfl
    obtain ⟨x, rfl, hx⟩ := this
    have hx := Ct.rdr (g' := fun j => rowOf (0 :: l') (j + 1)) hx (drop_row 0 l')
    have e : φRb (wN (aN ⟨0 :: l', 0⟩) (oR ⟨0 :: l', 0⟩)) = φRb (RX.mk 0 l'.length (fun j => rowOf (0 :: l') (j + 1)) 0) := by kernel_rfl
    rw [e]; exact hx
  · have he : e = 1 := he
    subst he
    have : ∃ x : RX, x = RX.mk 0 l.length (rowOf l) 1 ∧ Ct VE.P VE.G iBool [.ref keyBase 0] (oR ⟨l, 1⟩) (φRb x) := by
      refine ct_to (n := 9) (V := VE) (T := []) (d := 6) mixedE funcsE tabOk_nil loopsOk_nil ?_
      apply RunTo.by
      · exact .r (RX.mk _ _ _ _) rfl
      · kernel_rfl
    obtain ⟨x, rfl, hx⟩ := this
    exact hx
theorem bool_ent : EntOk VE iBool (goodA aN oR preB) wN φRb := ent_fn wN bool_read
end Go.TE

namespace Go.Ab
open Go Go.RowKit
theorem agg_map {c : Cx} {us us' : List AV} {v : Value} (hl : us'.length = us.length) (hm : ∀ (i : Nat) (u u' : AV), us[i]? = some u → us'[i]? = some u' → u'.one = true ∧ ∀ x, Rep c u x → Rep c u' x) (h : Rep c (.agg us) v) : Rep c (.agg us') v := by
  cases h with
  | agg _ vs h1 h2 h3 =>
    have hg : ∀ (i : Nat) (u' : AV), us'[i]? = some u' → ∃ u, us[i]? = some u := fun i u' hu => by
      have := (List.getElem?_eq_some_iff.1 hu).1
      exact ⟨us[i]'(by omega), List.getElem?_eq_getElem (by omega)⟩
    refine .agg _ vs (by rw [hl]; exact h1) (fun i u' hu => ?_) (fun i u' hu => ?_)
    · obtain ⟨u, h⟩ := hg i u' hu
      exact (hm i u u' h hu).1
    · obtain ⟨u, h⟩ := hg i u' hu
      exact (hm i u u' h hu).2 _ (h3 i u h)
theorem sl_map {c : Cx} {o : Own} {sz n : Nat} {get get' : Nat → List AV} (hl : ∀ j, j < n → (get' j).length = sz ∧ keysL (get' j) = []) (hm : ∀ (j i : Nat) (u u' : AV), j < n → (get j)[i]? = some u → (get' j)[i]? = some u' → u'.one = true ∧ ∀ x, Rep c u x → Rep c u' x) (x : Value) (h : Rep c (.sl o sz n get) x) : Rep c (.sl .no sz n get') x := by
  cases h with
  | slNil _ _ _ ho => exact .slNil _ _ _ trivial
  | sl _ _ _ _ ad cap vals h1 h2 h3 h4 h5 h6 =>
    have hg : ∀ (j i : Nat) (u' : AV), j < n → (get' j)[i]? = some u' → ∃ u, (get j)[i]? = some u := fun j i u' hj hu => by
      have := (List.getElem?_eq_some_iff.1 hu).1
      rw [(hl j hj).1, ← (h4 j hj).1] at this
      exact ⟨_, List.getElem?_eq_getElem this⟩
    refine .sl _ _ _ _ ad cap vals h1 h2 trivial hl (fun j i u' hj hu => ?_) (fun j i u' hj hu => ?_)
    · obtain ⟨u, h⟩ := hg j i u' hj hu
      exact ⟨(hm j i u u' hj h hu).1, (h5 j i u hj h).2⟩
    · obtain ⟨u, h⟩ := hg j i u' hj hu
      exact (hm j i u u' hj h hu).2 _ (h6 j i u hj h)
/-- A cell told in other words. -/
def Tell1 (u u' : AV) : Prop := u'.one = true ∧ ∀ c x, Rep c u x → Rep c u' x
theorem Tell1.same {u : AV} (h : u.one = true) : Tell1 u u := ⟨h, fun _ _ h => h⟩
inductive TellL : List AV → List AV → Prop
  | nil : TellL [] []
  | cons {u u' : AV} {l l' : List AV} : Tell1 u u' → TellL l l' → TellL (u :: l) (u' :: l')
theorem TellL.len {l l' : List AV} (h : TellL l l') : l'.length = l.length := by
  induction h with
  | nil => rfl
  | cons _ _ ih => rw [List.length_cons, List.length_cons, ih]
theorem TellL.at {l l' : List AV} (h : TellL l l') : ∀ (i : Nat) (u u' : AV), l[i]? = some u → l'[i]? = some u' → Tell1 u u' := by
  induction h with
  | nil => intro i u u' h; simp at h
  | cons h1 _ ih =>
    intro i u u' h h'
    cases i with
    | zero =>
      simp only [List.getElem?_cons_zero, Option.some.injEq] at h h'
      rw [← h, ← h']; exact h1
    | succ i =>
      simp only [List.getElem?_cons_succ] at h h'
      exact ih i u u' h h'
theorem agg_tell {c : Cx} {l l' : List AV} {v : Value} (h : TellL l l') (hr : Rep c (.agg l) v) : Rep c (.agg l') v :=
  agg_map h.len (fun i u u' hu hu' => ⟨(h.at i u u' hu hu').1, fun x hx => (h.at i u u' hu hu').2 c x hx⟩) hr
theorem tell_nil1 {o : Own} {sz sz' : Nat} {get get' : Nat → List AV} : Tell1 (.sl o sz 0 get) (.sl .no sz' 0 get') := ⟨rfl, fun c x h => rep_nil h⟩
theorem tell_row1 {o : Own} {sz n : Nat} {get get' : Nat → List AV} (hg : ∀ j, j < n → get' j = get j) : Tell1 (.sl o sz n get) (.sl .no sz n get') := ⟨rfl, fun c x h => rep_tell h hg⟩
theorem tup_tell {c : Cx} {l l' : List AV} {v : Value} (h : TellL l l') (hr : Rep c (.tup l) v) : Rep c (.tup l') v := by
  cases hr with
  | tup _ vs h1 h2 =>
    refine .tup _ vs (by rw [h.len]; exact h1) fun i u' hu => ?_
    have hlt : i < l.length := by rw [← h.len]; exact (List.getElem?_eq_some_iff.1 hu).1
    have hu0 : l[i]? = some l[i] := List.getElem?_eq_getElem hlt
    exact (h.at i _ u' hu0 hu).2 _ _ (h2 i _ hu0)
end Go.Ab

namespace Go.TE
open Go Go.Ab Go.Proofs
set_option linter.unusedVariables false
def zV : List AV := [.int .i64 0, .int .i64 0, .str [], nilX]
def rG (c : Nat) : Nat → Nat → List AV
  | 0 => fun _ => z5
  | k + 1 => appGet 0 1 (fun _ => z5) (fillGet z5 [(0, .agg [.int .i64 (exC c k), .str [], .str [], .sl .no 4 0 fun _ => zV, .sl .no 5 (exM k) (rG c k)])])
/-- A condition that was read. -/
def exR (c k : Nat) : List AV := [.int .i64 (exC c k), .str [], .str [], .sl .no 4 0 fun _ => zV, .sl .no 5 (exM k) (rG c k)]
def rdO (m : Nat) (l : List UInt8) (e : Int) : List AO := [.cells [.ref (keyBase + 1) 0, .int .i64 ((m + 4 : Nat) : Int)], rdr l e]
structure XR where
  c : Int
  o : Own
  vd : Nat
  vg : Nat → List AV
  d : Nat
  n : Nat
  g : Nat → List AV
  l : List UInt8
  e : Int
def φX (m : Nat) (x : XR) : AV × List AO := (.agg [.int .i64 x.c, .str [], .str [], .sl x.o x.vd 0 x.vg, .sl x.o x.d x.n x.g], rdO m x.l x.e)
def aX (v : Nat) : List AV := [.ref keyBase 0, .int .i64 (v : Int)]
theorem ask_text0 (m : Nat) (l : List UInt8) : goodA aM oM preT [.ref keyBase 0, .int .i64 ((m + 4 : Nat) : Int)] [rdr (0 :: l) 0] = true := goodA_eq (A := aM) (O := oM) (v := ⟨m, 0 :: l, 0⟩) (.inl ⟨rfl, l, .inl rfl⟩)
theorem ask_count0 (m : Nat) (l : List UInt8) : goodA aM oM preC [.ref keyBase 0, .int .i64 ((m + 4 : Nat) : Int)] [rdr (0 :: l) 0] = true := goodA_eq (A := aM) (O := oM) (v := ⟨m, 0 :: l, 0⟩) (.inl ⟨rfl, l, .inl rfl⟩)
theorem ask_count1 (m : Nat) (l : List UInt8) : goodA aM oM preC [.ref keyBase 0, .int .i64 ((m + 4 : Nat) : Int)] [rdr (2 :: l) 0] = true := goodA_eq (A := aM) (O := oM) (v := ⟨m, 2 :: l, 0⟩) (.inl ⟨rfl, l, .inr rfl⟩)
/-- What is read above an inner condition. -/
theorem up_ex {m lev : Nat} {c c' k k' : Nat} {l l' : List UInt8} {e' : Int} (hv : lev ≤ 100) (ih : Ct VE.P VE.G iRExpr (aX (lev + 1)) (rdO m (encN c k ++ l) 0) (.agg (exR c' k'), rdO m l' e')) :
    Ct VE.P VE.G iRExpr (aX lev) (rdO m (encN c (k + 1) ++ l) 0) (.agg (exR c' (k' + 1)), rdO m l' e') := by
  have ih : Ct VE.P VE.G iRExpr [.ref keyBase 0, .int .i64 (IntKind.wrap .i64 ((lev : Int) + 1))] (rdO m (encN c k ++ l) 0) (.agg (exR c' k'), rdO m l' e') := by
    rw [wrap_i64 (by omega) (by omega)]; exact ih
  have : ∃ x : XR, x = XR.mk 4 .no 4 (fun _ => zV) 5 1 (rG c' (k' + 1)) l' e' ∧ Ct VE.P VE.G iRExpr (aX lev) (rdO m (encN c (k + 1) ++ l) 0) (φX m x) := by
    refine ct_to (n := 9) (V := VE) (d := 6) mixedE funcsE (tabOk_cons num_ent (tabOk_cons text_ent (tabOk_cons count_ent (tabOk_cons (e := entK iRExpr [.ref keyBase 0, .int .i64 (IntKind.wrap .i64 ((lev : Int) + 1))] (rdO m (encN c k ++ l) 0) () fun _ => (.agg (exR c' k'), rdO m l' e')) (entK_ok ih) tabOk_nil)))) loopsOk_nil ?_
    apply RunTo.by
    · exact .b (decide ((lev : Int) > 100)) (fun h => .r (XR.mk 0 .fit 0 (fun _ => []) 0 0 (fun _ => []) (encN c (k + 1) ++ l) 1) (absurd (of_decide_eq_true h) (by omega))) fun _ =>
        .n (ask_num (b := 8) (0 :: 0 :: 0 :: 2 :: (encN c k ++ l)) (by decide)) (.n (ask_text0 m (0 :: 0 :: 2 :: (encN c k ++ l))) (.n (ask_text0 m (0 :: 2 :: (encN c k ++ l))) (.n (ask_count0 m (2 :: (encN c k ++ l))) (.n (ask_count1 m (encN c k ++ l))
        (.n (gK_eq [.ref keyBase 0, .int .i64 (IntKind.wrap .i64 ((lev : Int) + 1))] (rdO m (encN c k ++ l) 0)) (.r (XR.mk 4 .no 4 (fun _ => zV) 5 1 (rG c' (k' + 1)) l' e') rfl))))))
    · kernel_rfl
  obtain ⟨x, rfl, hx⟩ := this
  exact hx
/-- A condition without inner ones. -/
theorem base_ex {m lev : Nat} {c : Nat} {l : List UInt8} (hv : lev ≤ 100) (hc : c = 0 ∨ c = 1) : Ct VE.P VE.G iRExpr (aX lev) (rdO m (encN c 0 ++ l) 0) (.agg (exR c 0), rdO m l 0) := by
  have key : ∀ c : Nat, (c = 0 ∨ c = 1) → ∃ x : XR, x = XR.mk c .no 4 (fun _ => zV) 5 0 (rG c 0) l 0 ∧ Ct VE.P VE.G iRExpr (aX lev) (rdO m (encN c 0 ++ l) 0) (φX m x) := by
    intro c hc
    rcases hc with rfl | rfl
    · refine ct_to (n := 9) (V := VE) (d := 6) mixedE funcsE (tabOk_cons num_ent (tabOk_cons text_ent (tabOk_cons count_ent tabOk_nil))) loopsOk_nil ?_
      apply RunTo.by
      · exact .b (decide ((lev : Int) > 100)) (fun h => .r (XR.mk 0 .fit 0 (fun _ => []) 0 0 (fun _ => []) (encN 0 0 ++ l) 1) (absurd (of_decide_eq_true h) (by omega))) fun _ =>
          .n (ask_num (b := 0) (0 :: 0 :: 0 :: 0 :: l) (by decide)) (.n (ask_text0 m (0 :: 0 :: 0 :: l)) (.n (ask_text0 m (0 :: 0 :: l)) (.n (ask_count0 m (0 :: l)) (.n (ask_count0 m l)
          (.r (XR.mk ((0 : Nat) : Int) .no 4 (fun _ => zV) 5 0 (rG 0 0) l 0) rfl)))))
      · kernel_rfl
    · refine ct_to (n := 9) (V := VE) (d := 6) mixedE funcsE (tabOk_cons num_ent (tabOk_cons text_ent (tabOk_cons count_ent tabOk_nil))) loopsOk_nil ?_
      apply RunTo.by
      · exact .b (decide ((lev : Int) > 100)) (fun h => .r (XR.mk 0 .fit 0 (fun _ => []) 0 0 (fun _ => []) (encN 1 0 ++ l) 1) (absurd (of_decide_eq_true h) (by omega))) fun _ =>
          .n (ask_num (b := 2) (0 :: 0 :: 0 :: 0 :: l) (by decide)) (.n (ask_text0 m (0 :: 0 :: 0 :: l)) (.n (ask_text0 m (0 :: 0 :: l)) (.n (ask_count0 m (0 :: l)) (.n (ask_count0 m l)
          (.r (XR.mk ((1 : Nat) : Int) .no 4 (fun _ => zV) 5 0 (rG 1 0) l 0) rfl)))))
      · kernel_rfl
  obtain ⟨x, rfl, hx⟩ := key c hc
  exact hx
/-- Too deep. -/
theorem deep_ex {m : Nat} {l : List UInt8} : Ct VE.P VE.G iRExpr (aX 101) (rdO m l 0) (.agg (exR 0 0), rdO m l 1) := by
  have : ∃ x : XR, x = XR.mk 0 .fit 0 (fun _ => []) 0 0 (fun _ => []) l 1 ∧ Ct VE.P VE.G iRExpr (aX 101) (rdO m l 0) (φX m x) := by
    refine ct_to (n := 9) (V := VE) (T := []) (d := 6) mixedE funcsE tabOk_nil loopsOk_nil ?_
    apply RunTo.by
    · exact .r (XR.mk 0 .fit 0 (fun _ => []) 0 0 (fun _ => []) l 1) rfl
    · kernel_rfl
  obtain ⟨x, rfl, hx⟩ := this
  exact Ct.res (r' := .agg (exR 0 0)) hx rfl fun c v hr => agg_tell (l' := exR 0 0) (.cons (.same rfl) (.cons (.same rfl) (.cons (.same rfl) (.cons tell_nil1 (.cons tell_nil1 .nil))))) hr
theorem expr_ok {m c : Nat} {l : List UInt8} (hc : c = 0 ∨ c = 1) : ∀ (k lev : Nat), lev + k ≤ 100 → Ct VE.P VE.G iRExpr (aX lev) (rdO m (encN c k ++ l) 0) (.agg (exR c k), rdO m l 0)
  | 0, lev, h => base_ex (by omega) hc
  | k + 1, lev, h => up_ex (by omega) (expr_ok hc k (lev + 1) (by omega))
theorem expr_bad {m c : Nat} {l : List UInt8} : ∀ (j k lev : Nat), lev + j = 101 → j ≤ k → Ct VE.P VE.G iRExpr (aX lev) (rdO m (encN c k ++ l) 0) (.agg (exR 0 j), rdO m (encN c (k - j) ++ l) 1)
  | 0, k, lev, h, _ => by
    have e : lev = 101 := by omega
    subst e
    exact deep_ex
  | j + 1, k, lev, h, hk => by
    obtain ⟨k, rfl⟩ : ∃ q, k = q + 1 := ⟨k - 1, by omega⟩
    rw [Nat.add_sub_add_right]
    exact up_ex (by omega) (expr_bad j k (lev + 1) (by omega) (by omega))
end Go.TE

namespace Go.TE
open Go Go.Ab Go.Proofs
set_option linter.unusedVariables false
theorem ct_u {T : List Ent} {d : Nat} {f : FuncId} {l : List AV} {os : List AO} {r : AV × List AO} (hT : TabOk VE T) (he : RunTo (fun _ : Unit => True) (fun _ => r) (runF (VE.run T d [] [] [] f) 9 f l os)) : Ct VE.P VE.G f l os r := by
  obtain ⟨_, _, h⟩ := ct_to mixedE funcsE hT loopsOk_nil he
  exact h
theorem ask_textE (m : Nat) (l : List UInt8) : goodA aM oM preT [.ref keyBase 0, .int .i64 ((m + 4 : Nat) : Int)] [rdr l 1] = true := goodA_eq (A := aM) (O := oM) (v := ⟨m, l, 1⟩) (.inr rfl)
theorem ask_countE (m : Nat) (l : List UInt8) : goodA aM oM preC [.ref keyBase 0, .int .i64 ((m + 4 : Nat) : Int)] [rdr l 1] = true := goodA_eq (A := aM) (O := oM) (v := ⟨m, l, 1⟩) (.inr rfl)
theorem ask_boolE (l : List UInt8) : goodA aN oR preB [.ref keyBase 0] [rdr l 1] = true := goodA_eq (A := aN) (O := oR) (v := ⟨l, 1⟩) (.inr rfl)
theorem ask_bool0 (l : List UInt8) : goodA aN oR preB [.ref keyBase 0] [rdr (0 :: l) 0] = true := goodA_eq (A := aN) (O := oR) (v := ⟨0 :: l, 0⟩) (.inl ⟨rfl, l, rfl⟩)
theorem expr_er {m : Nat} {l : List UInt8} : Ct VE.P VE.G iRExpr [.ref keyBase 0, .int .i64 1] (rdO m l 1) (.agg (exR 0 0), rdO m l 1) := by
  refine ct_u (d := 6) (tabOk_cons num_ent (tabOk_cons text_ent (tabOk_cons count_ent tabOk_nil))) ?_
  apply RunTo.by
  · exact .n (ask_err l) (.n (ask_textE m l) (.n (ask_textE m l) (.n (ask_countE m l) (.n (ask_countE m l) (.r () trivial)))))
  · kernel_rfl
theorem expr_0 {m : Nat} {l : List UInt8} : Ct VE.P VE.G iRExpr [.ref keyBase 0, .int .i64 1] (rdO m (0 :: 0 :: 0 :: 0 :: 0 :: l) 0) (.agg (exR 0 0), rdO m l 0) := base_ex (lev := 1) (c := 0) (by decide) (.inl rfl)
def z_settings : List AV := [.str [], .str [], .int .i64 0]
theorem settings_0 {m : Nat} {l : List UInt8} : Ct VE.P VE.G 38 [.ref keyBase 0] (rdO m (0 :: 0 :: 0 :: l) 0) (.agg z_settings, rdO m l 0) := by
  refine ct_u (d := 6) (tabOk_cons num_ent (tabOk_cons text_ent (tabOk_cons count_ent (tabOk_cons bool_ent tabOk_nil)))) ?_
  apply RunTo.by
  · exact .n (ask_text0 m (0 :: 0 :: l)) (.n (ask_text0 m (0 :: l)) (.n (ask_num (b := 0) (l) (by decide)) (.r () trivial)))
  · kernel_rfl
theorem settings_er {m : Nat} {l : List UInt8} : Ct VE.P VE.G 38 [.ref keyBase 0] (rdO m (l) 1) (.agg z_settings, rdO m l 1) := by
  refine ct_u (d := 6) (tabOk_cons num_ent (tabOk_cons text_ent (tabOk_cons count_ent (tabOk_cons bool_ent tabOk_nil)))) ?_
  apply RunTo.by
  · exact .n (ask_textE m l) (.n (ask_textE m l) (.n (ask_err l) (.r () trivial)))
  · kernel_rfl
def z_attribute : List AV := [.str [], .str [], .int .i64 0]
theorem attribute_0 {m : Nat} {l : List UInt8} : Ct VE.P VE.G 39 [.ref keyBase 0] (rdO m (0 :: 0 :: 0 :: l) 0) (.agg z_attribute, rdO m l 0) := by
  refine ct_u (d := 6) (tabOk_cons num_ent (tabOk_cons text_ent (tabOk_cons count_ent (tabOk_cons bool_ent tabOk_nil)))) ?_
  apply RunTo.by
  · exact .n (ask_text0 m (0 :: 0 :: l)) (.n (ask_text0 m (0 :: l)) (.n (ask_num (b := 0) (l) (by decide)) (.r () trivial)))
  · kernel_rfl
theorem attribute_er {m : Nat} {l : List UInt8} : Ct VE.P VE.G 39 [.ref keyBase 0] (rdO m (l) 1) (.agg z_attribute, rdO m l 1) := by
  refine ct_u (d := 6) (tabOk_cons num_ent (tabOk_cons text_ent (tabOk_cons count_ent (tabOk_cons bool_ent tabOk_nil)))) ?_
  apply RunTo.by
  · exact .n (ask_textE m l) (.n (ask_textE m l) (.n (ask_err l) (.r () trivial)))
  · kernel_rfl
def z_serve : List AV := [.int .i64 0, .str [], .str [], .str [], .sl .no 3 0 fun _ => [.int .i64 0, .int .i64 0, .int .i64 0]]
theorem serve_0 {m : Nat} {l : List UInt8} : Ct VE.P VE.G 106 [.ref keyBase 0] (rdO m (0 :: 0 :: 0 :: 0 :: 0 :: l) 0) (.agg z_serve, rdO m l 0) := by
  refine ct_u (d := 6) (tabOk_cons num_ent (tabOk_cons text_ent (tabOk_cons count_ent (tabOk_cons bool_ent tabOk_nil)))) ?_
  apply RunTo.by
  · exact .n (ask_num (b := 0) (0 :: 0 :: 0 :: 0 :: l) (by decide)) (.n (ask_text0 m (0 :: 0 :: 0 :: l)) (.n (ask_text0 m (0 :: 0 :: l)) (.n (ask_text0 m (0 :: l)) (.n (ask_count0 m (l)) (.r () trivial)))))
  · kernel_rfl
theorem serve_er {m : Nat} {l : List UInt8} : Ct VE.P VE.G 106 [.ref keyBase 0] (rdO m (l) 1) (.agg z_serve, rdO m l 1) := by
  refine ct_u (d := 6) (tabOk_cons num_ent (tabOk_cons text_ent (tabOk_cons count_ent (tabOk_cons bool_ent tabOk_nil)))) ?_
  apply RunTo.by
  · exact .n (ask_err l) (.n (ask_textE m l) (.n (ask_textE m l) (.n (ask_textE m l) (.n (ask_countE m l) (.r () trivial)))))
  · kernel_rfl
def z_flag : List AV := [.str [], .int .i64 0, .sl .no 4 0 fun _ => zV, .bool false, .int .i64 0, .sl .no 2 0 fun _ => [.str [], .int .i64 0], .sl .no 3 0 fun _ => [.str [], .int .i64 0, nilX], .sl .no 11 0 fun _ => [.str [], .int .i64 0, .str [], .str [], nilX, nilX, .int .i64 0, .str [], .str [], .str [], nilX]] ++ z_serve
theorem flag_0 {m : Nat} {l : List UInt8} : Ct VE.P VE.G 41 [.ref keyBase 0] (rdO m (0 :: 0 :: 0 :: 0 :: 0 :: 0 :: 0 :: 0 :: 0 :: 0 :: 0 :: 0 :: 0 :: l) 0) (.agg z_flag, rdO m l 0) := by
  refine ct_u (d := 6) (tabOk_cons num_ent (tabOk_cons text_ent (tabOk_cons count_ent (tabOk_cons bool_ent (tabOk_cons (e := entK 106 [.ref keyBase 0] (rdO m (0 :: 0 :: 0 :: 0 :: 0 :: l) 0) () fun _ => (.agg z_serve, rdO m l 0)) (entK_ok serve_0) tabOk_nil))))) ?_
  apply RunTo.by
  · exact .n (ask_text0 m (0 :: 0 :: 0 :: 0 :: 0 :: 0 :: 0 :: 0 :: 0 :: 0 :: 0 :: 0 :: l)) (.n (ask_num (b := 0) (0 :: 0 :: 0 :: 0 :: 0 :: 0 :: 0 :: 0 :: 0 :: 0 :: 0 :: l) (by decide)) (.n (ask_count0 m (0 :: 0 :: 0 :: 0 :: 0 :: 0 :: 0 :: 0 :: 0 :: 0 :: l)) (.n (ask_bool0 (0 :: 0 :: 0 :: 0 :: 0 :: 0 :: 0 :: 0 :: 0 :: l)) (.n (ask_num (b := 0) (0 :: 0 :: 0 :: 0 :: 0 :: 0 :: 0 :: 0 :: l) (by decide)) (.n (ask_count0 m (0 :: 0 :: 0 :: 0 :: 0 :: 0 :: 0 :: l)) (.n (ask_count0 m (0 :: 0 :: 0 :: 0 :: 0 :: 0 :: l)) (.n (ask_count0 m (0 :: 0 :: 0 :: 0 :: 0 :: l)) (.n (gK_eq [.ref keyBase 0] (rdO m (0 :: 0 :: 0 :: 0 :: 0 :: l) 0)) (.r () trivial)))))))))
  · kernel_rfl
theorem flag_er {m : Nat} {l : List UInt8} : Ct VE.P VE.G 41 [.ref keyBase 0] (rdO m (l) 1) (.agg z_flag, rdO m l 1) := by
  refine ct_u (d := 6) (tabOk_cons num_ent (tabOk_cons text_ent (tabOk_cons count_ent (tabOk_cons bool_ent (tabOk_cons (e := entK 106 [.ref keyBase 0] (rdO m l 1) () fun _ => (.agg z_serve, rdO m l 1)) (entK_ok serve_er) tabOk_nil))))) ?_
  apply RunTo.by
  · exact .n (ask_textE m l) (.n (ask_err l) (.n (ask_countE m l) (.n (ask_boolE l) (.n (ask_err l) (.n (ask_countE m l) (.n (ask_countE m l) (.n (ask_countE m l) (.n (gK_eq [.ref keyBase 0] (rdO m l 1)) (.r () trivial)))))))))
  · kernel_rfl
def z_layer : List AV := [.str [], .str [], .str [], .int .i64 0, .int .i64 0, .sl .no 3 0 fun _ => [.int .i64 0, .int .i64 0, .int .i64 0]]
theorem layer_0 {m : Nat} {l : List UInt8} : Ct VE.P VE.G 42 [.ref keyBase 0] (rdO m (0 :: 0 :: 0 :: 0 :: 0 :: 0 :: l) 0) (.agg z_layer, rdO m l 0) := by
  refine ct_u (d := 6) (tabOk_cons num_ent (tabOk_cons text_ent (tabOk_cons count_ent (tabOk_cons bool_ent tabOk_nil)))) ?_
  apply RunTo.by
  · exact .n (ask_text0 m (0 :: 0 :: 0 :: 0 :: 0 :: l)) (.n (ask_text0 m (0 :: 0 :: 0 :: 0 :: l)) (.n (ask_text0 m (0 :: 0 :: 0 :: l)) (.n (ask_num (b := 0) (0 :: 0 :: l) (by decide)) (.n (ask_num (b := 0) (0 :: l) (by decide)) (.n (ask_count0 m (l)) (.r () trivial))))))
  · kernel_rfl
theorem layer_er {m : Nat} {l : List UInt8} : Ct VE.P VE.G 42 [.ref keyBase 0] (rdO m (l) 1) (.agg z_layer, rdO m l 1) := by
  refine ct_u (d := 6) (tabOk_cons num_ent (tabOk_cons text_ent (tabOk_cons count_ent (tabOk_cons bool_ent tabOk_nil)))) ?_
  apply RunTo.by
  · exact .n (ask_textE m l) (.n (ask_textE m l) (.n (ask_textE m l) (.n (ask_err l) (.n (ask_err l) (.n (ask_countE m l) (.r () trivial))))))
  · kernel_rfl
def z_experiment : List AV := [.str [], .str [], .str [], .str [], .int .i64 0, .sl .no 2 0 fun _ => [.int .i64 0, .int .i64 0], .sl .no 3 0 fun _ => [.int .i64 0, .int .i64 0, .int .i64 0]] ++ exR 0 0
theorem experiment_0 {m : Nat} {l : List UInt8} : Ct VE.P VE.G 43 [.ref keyBase 0] (rdO m (0 :: 0 :: 0 :: 0 :: 0 :: 0 :: 0 :: 0 :: 0 :: 0 :: 0 :: 0 :: l) 0) (.agg z_experiment, rdO m l 0) := by
  refine ct_u (d := 6) (tabOk_cons num_ent (tabOk_cons text_ent (tabOk_cons count_ent (tabOk_cons bool_ent (tabOk_cons (e := entK iRExpr [.ref keyBase 0, .int .i64 1] (rdO m (0 :: 0 :: 0 :: 0 :: 0 :: l) 0) () fun _ => (.agg (exR 0 0), rdO m l 0)) (entK_ok expr_0) tabOk_nil))))) ?_
  apply RunTo.by
  · exact .n (ask_text0 m (0 :: 0 :: 0 :: 0 :: 0 :: 0 :: 0 :: 0 :: 0 :: 0 :: 0 :: l)) (.n (ask_text0 m (0 :: 0 :: 0 :: 0 :: 0 :: 0 :: 0 :: 0 :: 0 :: 0 :: l)) (.n (ask_text0 m (0 :: 0 :: 0 :: 0 :: 0 :: 0 :: 0 :: 0 :: 0 :: l)) (.n (ask_text0 m (0 :: 0 :: 0 :: 0 :: 0 :: 0 :: 0 :: 0 :: l)) (.n (ask_num (b := 0) (0 :: 0 :: 0 :: 0 :: 0 :: 0 :: 0 :: l) (by decide)) (.n (ask_count0 m (0 :: 0 :: 0 :: 0 :: 0 :: 0 :: l)) (.n (ask_count0 m (0 :: 0 :: 0 :: 0 :: 0 :: l)) (.n (gK_eq [.ref keyBase 0, .int .i64 1] (rdO m (0 :: 0 :: 0 :: 0 :: 0 :: l) 0)) (.r () trivial))))))))
  · kernel_rfl
theorem experiment_er {m : Nat} {l : List UInt8} : Ct VE.P VE.G 43 [.ref keyBase 0] (rdO m (l) 1) (.agg z_experiment, rdO m l 1) := by
  refine ct_u (d := 6) (tabOk_cons num_ent (tabOk_cons text_ent (tabOk_cons count_ent (tabOk_cons bool_ent (tabOk_cons (e := entK iRExpr [.ref keyBase 0, .int .i64 1] (rdO m l 1) () fun _ => (.agg (exR 0 0), rdO m l 1)) (entK_ok expr_er) tabOk_nil))))) ?_
  apply RunTo.by
  · exact .n (ask_textE m l) (.n (ask_textE m l) (.n (ask_textE m l) (.n (ask_textE m l) (.n (ask_err l) (.n (ask_countE m l) (.n (ask_countE m l) (.n (gK_eq [.ref keyBase 0, .int .i64 1] (rdO m l 1)) (.r () trivial))))))))
  · kernel_rfl
end Go.TE

namespace Go.TE
open Go Go.Ab Go.Proofs
set_option linter.unusedVariables false
def segB (l : List UInt8) : List UInt8 := 2 :: 97 :: 8 :: 117 :: 115 :: 101 :: 114 :: 0 :: 0 :: l
def segR (c k : Nat) : List AV := [.str [97], .str [117, 115, 101, 114], .sl .no 1 0 fun _ => [.str []], .sl .no 1 0 fun _ => [.str []]] ++ exR c k
theorem ask_textA (m : Nat) (l : List UInt8) : goodA aM oM preT [.ref keyBase 0, .int .i64 ((m + 4 : Nat) : Int)] [rdr (2 :: 97 :: l) 0] = true := goodA_eq (A := aM) (O := oM) (v := ⟨m, 2 :: 97 :: l, 0⟩) (.inl ⟨rfl, l, .inr (.inl rfl)⟩)
theorem ask_textU (m : Nat) (l : List UInt8) : goodA aM oM preT [.ref keyBase 0, .int .i64 ((m + 4 : Nat) : Int)] [rdr (8 :: 117 :: 115 :: 101 :: 114 :: l) 0] = true := goodA_eq (A := aM) (O := oM) (v := ⟨m, 8 :: 117 :: 115 :: 101 :: 114 :: l, 0⟩) (.inl ⟨rfl, l, .inr (.inr rfl)⟩)
theorem seg_up {m c k c' k' : Nat} {l l' : List UInt8} {e' : Int} (hx : Ct VE.P VE.G iRExpr (aX 1) (rdO m (encN c k ++ l) 0) (.agg (exR c' k'), rdO m l' e')) :
    Ct VE.P VE.G 40 [.ref keyBase 0] (rdO m (segB (encN c k ++ l)) 0) (.agg (segR c' k'), rdO m l' e') := by
  refine ct_u (d := 6) (tabOk_cons text_ent (tabOk_cons count_ent (tabOk_cons (e := entK iRExpr (aX 1) (rdO m (encN c k ++ l) 0) () fun _ => (.agg (exR c' k'), rdO m l' e')) (entK_ok hx) tabOk_nil))) ?_
  apply RunTo.by
  · exact .n (ask_textA m (8 :: 117 :: 115 :: 101 :: 114 :: 0 :: 0 :: (encN c k ++ l))) (.n (ask_textU m (0 :: 0 :: (encN c k ++ l))) (.n (ask_count0 m (0 :: (encN c k ++ l))) (.n (ask_count0 m (encN c k ++ l)) (.n (gK_eq (aX 1) (rdO m (encN c k ++ l) 0)) (.r () trivial)))))
  · kernel_rfl
def chgB (l : List UInt8) : List UInt8 := 6 :: 2 :: 97 :: 0 :: 0 :: 0 :: 0 :: 0 :: 0 :: 0 :: l
def chgR (c k : Nat) : List AV := [.int .i64 3, .str [97], .bool false] ++ (z_settings ++ (z_attribute ++ (segR c k ++ (z_flag ++ (z_layer ++ z_experiment)))))
theorem change_up {m c' k' : Nat} {l l1 l2 l3 l4 : List UInt8} {e : Int} (hs : Ct VE.P VE.G 40 [.ref keyBase 0] (rdO m l 0) (.agg (segR c' k'), rdO m l1 e)) (hf : Ct VE.P VE.G 41 [.ref keyBase 0] (rdO m l1 e) (.agg z_flag, rdO m l2 e))
    (hl : Ct VE.P VE.G 42 [.ref keyBase 0] (rdO m l2 e) (.agg z_layer, rdO m l3 e)) (hx : Ct VE.P VE.G 43 [.ref keyBase 0] (rdO m l3 e) (.agg z_experiment, rdO m l4 e)) :
    Ct VE.P VE.G iRChange [.ref keyBase 0] (rdO m (chgB l) 0) (.agg (chgR c' k'), rdO m l4 e) := by
  refine ct_u (d := 6) (tabOk_cons num_ent (tabOk_cons text_ent (tabOk_cons bool_ent (tabOk_cons (e := entK 38 [.ref keyBase 0] (rdO m (0 :: 0 :: 0 :: 0 :: 0 :: 0 :: l) 0) () fun _ => (.agg z_settings, rdO m (0 :: 0 :: 0 :: l) 0)) (entK_ok settings_0)
    (tabOk_cons (e := entK 39 [.ref keyBase 0] (rdO m (0 :: 0 :: 0 :: l) 0) () fun _ => (.agg z_attribute, rdO m l 0)) (entK_ok attribute_0)
    (tabOk_cons (e := entK 40 [.ref keyBase 0] (rdO m l 0) () fun _ => (.agg (segR c' k'), rdO m l1 e)) (entK_ok hs)
    (tabOk_cons (e := entK 41 [.ref keyBase 0] (rdO m l1 e) () fun _ => (.agg z_flag, rdO m l2 e)) (entK_ok hf)
    (tabOk_cons (e := entK 42 [.ref keyBase 0] (rdO m l2 e) () fun _ => (.agg z_layer, rdO m l3 e)) (entK_ok hl)
    (tabOk_cons (e := entK 43 [.ref keyBase 0] (rdO m l3 e) () fun _ => (.agg z_experiment, rdO m l4 e)) (entK_ok hx) tabOk_nil))))))))) ?_
  apply RunTo.by
  · exact .n (ask_num (b := 6) (2 :: 97 :: 0 :: 0 :: 0 :: 0 :: 0 :: 0 :: 0 :: l) (by decide)) (.n (ask_textA m (0 :: 0 :: 0 :: 0 :: 0 :: 0 :: 0 :: l)) (.n (ask_bool0 (0 :: 0 :: 0 :: 0 :: 0 :: 0 :: l)) (.n (gK_eq [.ref keyBase 0] (rdO m (0 :: 0 :: 0 :: 0 :: 0 :: 0 :: l) 0)) (.n (gK_eq [.ref keyBase 0] (rdO m (0 :: 0 :: 0 :: l) 0))
      (.n (gK_eq [.ref keyBase 0] (rdO m l 0)) (.n (gK_eq [.ref keyBase 0] (rdO m l1 e)) (.n (gK_eq [.ref keyBase 0] (rdO m l2 e)) (.n (gK_eq [.ref keyBase 0] (rdO m l3 e)) (.r () trivial)))))))))
  · kernel_rfl
def zs (n : Nat) (l : List UInt8) : List UInt8 := List.replicate n 0 ++ l
theorem change_ok {m k : Nat} {l : List UInt8} (hk : 1 + k ≤ 100) : Ct VE.P VE.G iRChange [.ref keyBase 0] (rdO m (chgB (segB (encN 1 k ++ (sufL ++ (encN 0 0 ++ l))))) 0) (.agg (chgR 1 k), rdO m l 0) :=
  change_up (seg_up (expr_ok (.inr rfl) k 1 hk)) (flag_0 (l := 0 :: 0 :: 0 :: 0 :: 0 :: 0 :: 0 :: 0 :: 0 :: 0 :: 0 :: 0 :: 0 :: 0 :: 0 :: 0 :: 0 :: 0 :: l)) (layer_0 (l := 0 :: 0 :: 0 :: 0 :: 0 :: 0 :: 0 :: 0 :: 0 :: 0 :: 0 :: 0 :: l)) (experiment_0 (l := l))
theorem change_bad {m k : Nat} {l : List UInt8} (hk : 100 ≤ k) : Ct VE.P VE.G iRChange [.ref keyBase 0] (rdO m (chgB (segB (encN 1 k ++ l))) 0) (.agg (chgR 0 100), rdO m (encN 1 (k - 100) ++ l) 1) :=
  change_up (seg_up (expr_bad 100 k 1 rfl hk)) flag_er layer_er experiment_er
theorem open_ex (l : List UInt8) (hl : l.length ≤ 1048576) : Ct VE.P VE.G iOpen [.sl .no 1 l.length (rowOf l)] [] (.ref keyBase 0, [.cells [.ref (keyBase + 1) 0, .int .i64 (l.length : Int)], rdr l 0]) := by
  have E : ∃ _ : Unit, True ∧ runFM (VE.run [entK iNew [.sl .no 1 l.length (rowOf l)] [] () fun _ => (.ref keyBase 0, [rdr l 0])] 4 [] [] [] iOpen) 9 iOpen [.sl .no 1 l.length (rowOf l)] [] = some (.ref keyBase 0, [.cells [.ref (keyBase + 1) 0, .int .i64 (l.length : Int)], rdr l 0]) := by
    show RunTo (fun _ : Unit => True) (fun _ : Unit => (AV.ref keyBase 0, [.cells [.ref (keyBase + 1) 0, .int .i64 (l.length : Int)], rdr l 0])) _
    apply RunTo.by
    · exact .n (gK_eq [.sl .no 1 l.length (rowOf l)] []) (.r () trivial)
    · kernel_rfl
  obtain ⟨_, _, h⟩ := E
  exact ct_newM (L := []) (W := []) mixedE funcsE (tabOk_cons (entK_ok (new_ex l hl)) tabOk_nil) (fun _ h => (List.not_mem_nil h).elim) (fun _ h => (List.not_mem_nil h).elim) h
end Go.TE

namespace Go.TE
open Go Go.Ab Go.Proofs
set_option linter.unusedVariables false
def rdV (c k : Nat) : AV := .sl .no 49 1 (appGet 0 1 (fun _ => chOf 0 [] [] [] z5) (fillGet (chOf 0 [] [] [] z5) [(0, .agg (chgR c k))]))
theorem chB_len (k : Nat) : (chB k).length = 5 * (k + 1) + 51 := by
  unfold chB
  rw [List.length_append, List.length_append, List.length_append, encN_len, encN_len]
  show 20 + (5 * (k + 1) + (26 + 5 * (0 + 1))) = _
  omega
def mOf (k : Nat) : Nat := (List.drop 4 (chB k)).length
theorem open_k {k : Nat} (hk : k ≤ 200) : Ct VE.P VE.G iOpen [.sl .no 1 (chB k).length (rowOf (chB k))] [] (.ref keyBase 0, rdO (mOf k) (chB k) 0) := open_ex (chB k) (by rw [chB_len]; omega)
theorem ask_count1' (k : Nat) : goodA aM oM preC [.ref keyBase 0, .int .i64 ((mOf k + 4 : Nat) : Int)] [rdr (chB k) 0] = true := ask_count1 (mOf k) _
def tail0 (k : Nat) : List UInt8 := chgB (segB (encN 1 k ++ (sufL ++ encN 0 0)))
theorem read_ok {k : Nat} (hk : k < 100) : Ct VE.P VE.G iReadCh [.sl .no 1 (chB k).length (rowOf (chB k))] [] (.tup [rdV 1 k, .int .i64 0], []) := by
  have hc : Ct VE.P VE.G iRChange [.ref keyBase 0] (rdO (mOf k) (tail0 k) 0) (.agg (chgR 1 k), rdO (mOf k) [] 0) := change_ok (by omega)
  have : ∃ x : BE, (x.o = .no ∧ x.d = 49 ∧ x.n = 1 ∧ x.g = (appGet 0 1 (fun _ => chOf 0 [] [] [] z5) (fillGet (chOf 0 [] [] [] z5) [(0, .agg (chgR 1 k))])) ∧ x.e = 0) ∧ Ct VE.P VE.G iReadCh [.sl .no 1 (chB k).length (rowOf (chB k))] [] (φBE x) := by
    refine ct_to (n := 9) (V := VE) (d := 8) mixedE funcsE (tabOk_cons count_ent (tabOk_cons (e := entK iRChange [.ref keyBase 0] (rdO (mOf k) (tail0 k) 0) () fun _ => (.agg (chgR 1 k), rdO (mOf k) [] 0)) (entK_ok hc)
      (tabOk_cons (e := entK iOpen [.sl .no 1 (chB k).length (rowOf (chB k))] [] () fun _ => (.ref keyBase 0, rdO (mOf k) (chB k) 0)) (entK_ok (open_k (by omega))) tabOk_nil))) loopsOk_nil ?_
    apply RunTo.by
    · exact .b (decide (((chB k).length : Int) > 1048576)) (fun h => .r (BE.mk .fit 0 0 (fun _ => []) 4) (absurd (of_decide_eq_true h) (by rw [chB_len]; omega))) fun _ => .n (gK_eq [.sl .no 1 (chB k).length (rowOf (chB k))] []) (.n (ask_count1' k) (.n (gK_eq [.ref keyBase 0] (rdO (mOf k) (tail0 k) 0))
        (.r (BE.mk .no 49 1 (appGet 0 1 (fun _ => chOf 0 [] [] [] z5) (fillGet (chOf 0 [] [] [] z5) [(0, .agg (chgR 1 k))])) 0) ⟨rfl, rfl, rfl, rfl, rfl⟩)))
    · kernel_rfl
  obtain ⟨⟨o, d, n, g, e⟩, ⟨h1, h2, h3, h4, h5⟩, h⟩ := this
  have h1 : o = .no := h1
  have h2 : d = 49 := h2
  have h3 : n = 1 := h3
  have h5 : e = 0 := h5
  subst h1 h2 h3 h5
  have h4 : g = _ := h4
  subst h4
  exact h
theorem read_bad {k : Nat} (hk : 100 ≤ k) (h2 : k ≤ 200) : Ct VE.P VE.G iReadCh [.sl .no 1 (chB k).length (rowOf (chB k))] [] (.tup [nilX, .int .i64 1], []) := by
  have hc : Ct VE.P VE.G iRChange [.ref keyBase 0] (rdO (mOf k) (tail0 k) 0) (.agg (chgR 0 100), rdO (mOf k) (encN 1 (k - 100) ++ (sufL ++ encN 0 0)) 1) := change_bad hk
  have : ∃ x : BE, (x.o = .fit ∧ x.d = 0 ∧ x.n = 0 ∧ x.g = (fun _ => []) ∧ x.e = 1) ∧ Ct VE.P VE.G iReadCh [.sl .no 1 (chB k).length (rowOf (chB k))] [] (φBE x) := by
    refine ct_to (n := 9) (V := VE) (d := 8) mixedE funcsE (tabOk_cons count_ent (tabOk_cons (e := entK iRChange [.ref keyBase 0] (rdO (mOf k) (tail0 k) 0) () fun _ => (.agg (chgR 0 100), rdO (mOf k) (encN 1 (k - 100) ++ (sufL ++ encN 0 0)) 1)) (entK_ok hc)
      (tabOk_cons (e := entK iOpen [.sl .no 1 (chB k).length (rowOf (chB k))] [] () fun _ => (.ref keyBase 0, rdO (mOf k) (chB k) 0)) (entK_ok (open_k (by omega))) tabOk_nil))) loopsOk_nil ?_
    apply RunTo.by
    · exact .b (decide (((chB k).length : Int) > 1048576)) (fun h => .r (BE.mk .fit 0 0 (fun _ => []) 4) (absurd (of_decide_eq_true h) (by rw [chB_len]; omega))) fun _ => .n (gK_eq [.sl .no 1 (chB k).length (rowOf (chB k))] []) (.n (ask_count1' k) (.n (gK_eq [.ref keyBase 0] (rdO (mOf k) (tail0 k) 0))
        (.r (BE.mk .fit 0 0 (fun _ => []) 1) ⟨rfl, rfl, rfl, rfl, rfl⟩)))
    · kernel_rfl
  obtain ⟨⟨o, d, n, g, e⟩, ⟨h1, h2, h3, h4, h5⟩, h⟩ := this
  have h1 : o = .fit := h1
  have h2 : d = 0 := h2
  have h3 : n = 0 := h3
  have h5 : e = 1 := h5
  subst h1 h2 h3 h5
  have h4 : g = _ := h4
  subst h4
  exact h
end Go.TE

namespace Go.TE
open Go Go.Ab Go.Proofs
set_option linter.unusedVariables false
theorem same_expr {c : Nat} (hc : c = 0 ∨ c = 1) : ∀ k, Ct VE.P VE.G iSameExpr [.agg (exN c k), .agg (exR c k)] [] (.bool true, []) := by
  intro k
  induction k with
  | zero =>
    rcases hc with rfl | rfl
    all_goals
      refine ct_u (d := 6) (T := []) tabOk_nil ?_
      apply RunTo.by
      · exact .r () trivial
      · kernel_rfl
  | succ k ih =>
    refine ct_u (d := 6) (tabOk_cons (e := entK iSameExpr [.agg (exN c k), .agg (exR c k)] [] () fun _ => (.bool true, [])) (entK_ok ih) tabOk_nil) ?_
    apply RunTo.by
    · exact .n (gK_eq [.agg (exN c k), .agg (exR c k)] []) (.r () trivial)
    · kernel_rfl
structure CK where
  c : Nat
  k : Nat
def aSE (x : CK) : List AV := [.agg (exN x.c x.k), .agg (exR x.c x.k)]
def preSE (x : CK) : Prop := x.c = 0 ∨ x.c = 1
theorem same_ent : EntOk VE iSameExpr (goodA aSE (fun _ => []) preSE) (fun _ _ => ()) (fun _ => (.bool true, [])) := ent_fn (fun _ _ => ()) fun x hx => same_expr hx x.k
theorem ask_se (c k : Nat) (h : c = 0 ∨ c = 1) : goodA aSE (fun _ => []) preSE [.agg (exN c k), .agg (exR c k)] [] = true := goodA_eq (A := aSE) (O := fun _ => []) (v := ⟨c, k⟩) h
theorem same_ok (k : Nat) : Ct VE.P VE.G iSameChs [chA k, rdV 1 k] [] (.bool true, []) := by
  refine ct_u (d := 6) (tabOk_cons same_ent tabOk_nil) ?_
  apply RunTo.by
  · exact .n (ask_se 1 k (.inr rfl)) (.n (ask_se 0 0 (.inl rfl)) (.r () trivial))
  · kernel_rfl
end Go.TE

namespace Go.TE
open Go Go.Ab Go.Proofs
set_option linter.unusedVariables false
def envZ : AV := .agg [.str [], .str [], .int .i64 0, nilX, nilX, nilX, nilX, nilX]
theorem env_ex : Ct VE.P VE.G iEncEnv [envZ] [] (.tup [.sl .no 1 8 (rowOf [0, 0, 0, 0, 0, 0, 0, 0]), .int .i64 0], []) := by
  obtain ⟨gn, wn, hn, en⟩ := putNum_ent
  obtain ⟨gt, wt, ht, et⟩ := putText_ent
  have h_n0 := hn 0
  have h_t0 := ht [] (by decide)
  rw [n0] at h_n0
  rw [t0] at h_t0
  have q0 : Wr 0 ⟨0, fun _ => [.int .u8 0]⟩ [] := ⟨byt_nil, Nat.le_refl _⟩
  have : ∃ x : BE, (x.o = .no ∧ x.d = 1 ∧ x.e = 0 ∧ Byt ⟨x.n, x.g⟩ [0, 0, 0, 0, 0, 0, 0, 0]) ∧ Ct VE.P VE.G iEncEnv [envZ] [] (φBE x) := by
    refine ct_to (n := 9) (V := VE) (d := 9) mixedE funcsE (tabOk_cons en (tabOk_cons et tabOk_nil)) loopsOk_nil ?_
    apply RunTo.by
    · exact pu q0 (by decide) h_t0 (by decide) fun r1 q1 => pu q1 (by decide) h_t0 (by decide) fun r2 q2 => pu q2 (by decide) h_n0 (by decide) fun r3 q3 => pu q3 (by decide) h_n0 (by decide) fun r4 q4 =>
        pu q4 (by decide) h_n0 (by decide) fun r5 q5 => pu q5 (by decide) h_n0 (by decide) fun r6 q6 => pu q6 (by decide) h_n0 (by decide) fun r7 q7 => pu q7 (by decide) h_n0 (by decide) fun r8 q8 =>
        .b (decide ((r8.n : Int) > 1048576)) (fun h => .r (BE.mk .fit 0 0 (fun _ => []) 4) (absurd (of_decide_eq_true h) (by have := q8.2; omega))) fun _ => .r (BE.mk .no 1 r8.n r8.g 0) ⟨rfl, rfl, rfl, q8.1⟩
    · kernel_rfl
  obtain ⟨⟨o, d, n, g, e⟩, ⟨h1, h2, h3, h4⟩, h⟩ := this
  have h1 : o = .no := h1
  have h2 : d = 1 := h2
  have h3 : e = 0 := h3
  have h5 : n = 8 := h4.1
  subst h1 h2 h3 h5
  refine Ct.res h rfl fun c v hr => ?_
  exact tup_tell (.cons (tell_row1 fun j hj => (h4.2 j hj).symm) (.cons (.same rfl) .nil)) hr
end Go.TE

namespace Go.TE
open Go Go.Ab Go.Proofs
set_option linter.unusedVariables false
theorem finger_ex : Ct VE.P VE.G iFinger [envZ] [] (.int .u64 7893159121253551925, []) := by
  refine ct_u (d := 40) (tabOk_cons (entK_ok env_ex) tabOk_nil) ?_
  apply RunTo.by
  · exact .n (gK_eq [envZ] []) (.r () trivial)
  · kernel_rfl
end Go.TE

namespace Go.TE
open Go Go.Ab Go.Proofs
set_option linter.unusedVariables false
theorem ct_l {T : List Ent} {f : FuncId} {l : List AV} {os : List AO} {p : List Nat} {g : Orc} (hl : LoopOk (VE.run T 9 [] [(p, g)] [] f) f p g) (hT : TabOk VE T) (he : RunTo (fun b : Bool => b = true) (fun b => (.bool b, [])) (runF (VE.run T 9 [] [(p, g)] [] f) 9 f l os)) : Ct VE.P VE.G f l os (.bool true, []) := by
  obtain ⟨b, hb, h⟩ := ct_to mixedE funcsE hT (loopsOk_cons hl loopsOk_nil) he
  rw [hb] at h
  exact h
theorem awake_ex : Ct VE.P VE.G iAwake [] [] (.bool true, []) := by
  refine ct_u (d := 9) (tabOk_cons (entK_ok env_ex) (tabOk_cons (entK_ok finger_ex) tabOk_nil)) ?_
  apply RunTo.by
  · exact .n (gK_eq [envZ] []) (.n (gK_eq [envZ] []) (.r () trivial))
  · kernel_rfl
theorem mod_20 (n : Int) : ∃ r : Int, (0 ≤ r ∧ r < 20) ∧ Ct VE.P VE.G iMod [.int .i64 n, .int .i64 20] [] (.int .i64 r, []) := by
  have h1 := Int.tmod_lt_of_pos n (show (0 : Int) < 20 by decide)
  have h2 : -20 < Int.tmod n 20 := by have := Int.lt_tmod_of_pos n (show (0 : Int) < 20 by decide); omega
  refine ct_to (n := 9) (V := VE) (T := []) (d := 4) mixedE funcsE tabOk_nil loopsOk_nil ?_
  apply RunTo.by
  · exact .b (decide (Int.tmod n 20 < 0)) (fun h => .r (IntKind.wrap .i64 (Int.tmod n 20 + 20)) (by have h := of_decide_eq_true h; rw [wrap_i64 (by omega) (by omega)]; omega)) fun h => .r (Int.tmod n 20) (by have h := of_decide_eq_false h; omega)
  · kernel_rfl
theorem chg_ex {k : Nat} (hk : k ≤ 200) : Ct VE.P VE.G iChanges [chA k] [] (.tup [.sl .no 1 (chB k).length (rowOf (chB k)), .int .i64 0], []) := by
  obtain ⟨⟨o, d, n, g, e⟩, ⟨h1, h2, h3, h4⟩, h⟩ := changes_ex hk
  have h1 : o = .no := h1
  have h2 : d = 1 := h2
  have h3 : e = 0 := h3
  have h5 : n = (chB k).length := h4.1
  subst h1 h2 h3 h5
  refine Ct.res h rfl fun c v hr => ?_
  exact tup_tell (.cons (tell_row1 fun j hj => (h4.2 j hj).symm) (.cons (.same rfl) .nil)) hr
def lvS (n : Int) (k : Nat) : St := { env := [(0, .int .i64 n), (3, .ref 3 0), (4, .int .i64 ((k + 1 : Nat) : Int))], objs := [(3, .cells (exN 1 k))] }
def lvO (n : Int) (K : Nat) (k : Ex → St → Res) : Res := k (.exit 0) { env := [(0, .int .i64 n), (3, .ref 3 0)], objs := [(3, .cells (exN 1 K))] }
theorem levels_loop (n : Int) (K : Nat) (hn : n = ((K + 1 : Nat) : Int)) (hK : K ≤ 200) : ∃ (u : St → Bool) (w : St → Nat), (u (lvS n 0) = true ∧ w (lvS n 0) = K) ∧ ∀ (T : List Ent) (L : List (List Nat × Orc)), LoopOk (VE.run T 9 [] L [] iLevels) iLevels [1, 1, 1, 1, 0, 1, 0] (mkO u w (lvO n)) := by
  obtain ⟨u, w, huw, hl⟩ := loop_any (Xf := fun x : List Ent × List (List Nat × Orc) => VE.run x.1 9 [] x.2 [] iLevels) (b := subC (bodyOf VE.P iLevels) ([1, 1, 1, 1, 0, 1, 0] ++ [0])) (lvS n) (fun k => k ≤ K) (fun k => K - k) (lvO n) (fun _ o => o = K) (fun _ => by kernel_rfl) 9 (fun _ _ _ _ h => h) fun k hk => by
    have hk : k ≤ K := hk
    apply RT.by
    · exact .b (decide (((k + 1 : Nat) : Int) < n)) (fun h => .nx ({ env := [(0, .int .i64 n), (3, .ref 3 0), (4, .int .i64 (IntKind.wrap .i64 (((k + 1 : Nat) : Int) + 1)))], objs := [(3, .cells (exN 1 (k + 1)))] }) (k + 1) (by have h := of_decide_eq_true h; omega) (by have h := of_decide_eq_true h; omega) (fun _ h => h) (by rw [wrap_i64 (by omega) (by omega)]; rfl))
        fun h => .fi k (by have h := of_decide_eq_false h; omega)
    · intro i kk kn; kernel_rfl
  exact ⟨u, w, ⟨(huw 0 (Nat.zero_le _)).1, (huw 0 (Nat.zero_le _)).2⟩, fun T L => hl (T, L)⟩
theorem levels_ex (n : Int) : Ct VE.P VE.G iLevels [.int .i64 n] [] (.bool true, []) := by
  obtain ⟨r, hr, hm⟩ := mod_20 n
  obtain ⟨K, hK⟩ : ∃ K : Nat, 90 + r = ((K + 1 : Nat) : Int) := ⟨(89 + r).toNat, by omega⟩
  have hw : IntKind.wrap .i64 (90 + r) = ((K + 1 : Nat) : Int) := by rw [hK, wrap_i64 (by omega) (by omega)]
  obtain ⟨u, w, ⟨hu, hwK⟩, hl⟩ := levels_loop (IntKind.wrap .i64 (90 + r)) K hw (by omega)
  have hc := chg_ex (k := w (lvS (IntKind.wrap .i64 (90 + r)) 0)) (by omega)
  by_cases h100 : K < 100
  · have hx := read_ok (k := w (lvS (IntKind.wrap .i64 (90 + r)) 0)) (by omega)
    have hs := same_ok (w (lvS (IntKind.wrap .i64 (90 + r)) 0))
    refine ct_l (hl _ _) (tabOk_cons (entK_ok awake_ex) (tabOk_cons (entK_ok hm) (tabOk_cons (entK_ok hc) (tabOk_cons (entK_ok hx) (tabOk_cons (entK_ok hs) tabOk_nil))))) ?_
    apply RunTo.by
    · exact .n (gK_eq [] []) (.n (gK_eq [.int .i64 n, .int .i64 20] []) (.n hu (.n (gK_eq [chA (w (lvS (IntKind.wrap .i64 (90 + r)) 0))] []) (.n (gK_eq [.sl .no 1 (chB (w (lvS (IntKind.wrap .i64 (90 + r)) 0))).length (rowOf (chB (w (lvS (IntKind.wrap .i64 (90 + r)) 0))))] [])
        (.b (decide (IntKind.wrap .i64 (90 + r) > 100)) (fun h => .r false (absurd (of_decide_eq_true h) (by omega))) fun _ => .n (gK_eq [chA (w (lvS (IntKind.wrap .i64 (90 + r)) 0)), rdV 1 (w (lvS (IntKind.wrap .i64 (90 + r)) 0))] []) (.r true rfl))))))
    · kernel_rfl
  · have hx := read_bad (k := w (lvS (IntKind.wrap .i64 (90 + r)) 0)) (by omega) (by omega)
    refine ct_l (hl _ _) (tabOk_cons (entK_ok awake_ex) (tabOk_cons (entK_ok hm) (tabOk_cons (entK_ok hc) (tabOk_cons (entK_ok hx) tabOk_nil)))) ?_
    apply RunTo.by
    · exact .n (gK_eq [] []) (.n (gK_eq [.int .i64 n, .int .i64 20] []) (.n hu (.n (gK_eq [chA (w (lvS (IntKind.wrap .i64 (90 + r)) 0))] []) (.n (gK_eq [.sl .no 1 (chB (w (lvS (IntKind.wrap .i64 (90 + r)) 0))).length (rowOf (chB (w (lvS (IntKind.wrap .i64 (90 + r)) 0))))] [])
        (.b (decide (IntKind.wrap .i64 (90 + r) > 100)) (fun h => .r true rfl) fun h => .r false (absurd (of_decide_eq_false h) (by omega)))))))
    · kernel_rfl
end Go.TE
