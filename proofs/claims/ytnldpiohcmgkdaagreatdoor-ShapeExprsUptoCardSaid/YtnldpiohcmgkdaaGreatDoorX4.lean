/- What lives on at the heads of the code, by function: for the evaluator. strings.Fields at the reserved words, run by the kernel. Contracts for one list of arguments. text.Key, flagstoneref1.Key, Word. Runes of a string: what decoding says of the bytes. text.Key: the same answer as flagstoneref1.Key. Contracts out of the kit's own: calls that lay new memory at most. text.Valid, flagstoneref1.Valid: one answer. Splits and spans. Lists of keys of contexts. utf8.ValidString: the kit's contract at this program (laid by the kit's tools lay-shelf, lay-plain). utf8.ValidString: its contract, out of the kit's. strconv.Atoi, strings.Split: the kit's contracts at this program (laid by the kit's tools lay-shelf, lay-plain). Contracts out of the kit's own: calls that hand back new memory. strconv.Atoi, strings.Split at the dot: their contracts, out of the kit's. text.ParseNumber, flagstoneref1.ParseNumber: one answer. text.ParseNumber, flagstoneref1.ParseNumber: what they answer. text.ParseNumber, flagstoneref1.ParseNumber: one answer, their contracts. flagstoneref1.ParseNumber: its contract. value.parts: is a text a version? flagstoneref3.parts: is a text a version? flagstoneref3.parts: its co -/
import Derived.Test.YtnldpiohcmgkdaaGreatDoorX3
import Derived.Test.YtnldpiohcmgkdaaGreatDoorProg
import Derived.Test.YtnldpiohcmgkdaaGreatDoorRows
import Derived.KernelRfl
import Derived.Laws.RangeString
import Derived.Lib.ValidU
import Derived.Shelf.Unicode.ValidAny
import Derived.Shelf.LaysC
import Derived.Shelf.Strconv.AtoiAll
import Derived.Shelf.Strings.Split
import Derived.Lib.SplitLaws
import Derived.Lib.CountLaws
namespace Go.SH
open Go Go.Ab Go.Proofs
mutual
def dcells : DataW Unit → List AV
  | .lit (.int k n) => [.int k n]
  | .agg ps => dcellsL ps
  | _ => []
def dcellsL : List (DataW Unit) → List AV
  | [] => []
  | d :: r => dcells d ++ dcellsL r
end
noncomputable def globs (g : Nat) : Option (List AV) := cond (Nat.beq g 3) (some (dcells Go.Proofs.YtnldpiohcmgkdaaGreatDoor.Rows.laid_strings_asciiSpace)) (cond (Nat.beq g 4) (some (dcells Go.Proofs.YtnldpiohcmgkdaaGreatDoor.Rows.laid_unicode_utf8_first)) (cond (Nat.beq g 5) (some (dcells Go.Proofs.YtnldpiohcmgkdaaGreatDoor.Rows.laid_unicode_utf8_acceptRanges)) (cond (Nat.beq g 7) (some [.num .i64]) (cond (Nat.beq g 8) (some [.nni]) (cond (Nat.beq g 9) (some [.nni]) (none))))))
noncomputable def hints : List (Nat × List (Nat × Hint)) := [
  (6, [(6, hn [4, 5, 6, 7, 9] [4, 5, 6, 7] [] [])]),
  (66, [(4, hn [14] [14] [] [])]),
  (65, [(10, hn [0, 50, 51, 52] [] [] []), (4, hn [0, 17] [17] [] [])]),
  (88, [(4, hn [0, 8, 9, 10] [] [] [])]),
  (89, [(4, hn [0, 2, 3, 16, 17, 18] [] [] [])]),
  (77, [(4, hn [0, 8, 9, 10] [] [] [])]),
  (52, [(8, hn [1, 2, 27, 28, 29] [] [] [])]),
  (106, [(18, hn [2, 83, 84, 85] [2] [] []), (10, hn [2, 35, 36, 37] [2] [] [])]),
  (69, [(29, hn [1, 76, 77] [1] [] []), (23, hn [1, 64, 65, 66] [1] [] [])]),
  (114, [(6, hn [2, 4, 16, 17, 18] [2, 4] [] [])]),
  (133, [(5, hn [0, 31] [31] [] [])]),
  (91, [(4, hn [0, 2, 3, 16, 17, 18] [] [] [])]),
  (34, [(6, hn [1, 3, 38, 39, 40] [1] [] [])]),
  (70, [(4, hn [0, 9, 10, 11] [] [] [])]),
  (71, [(4, hn [1, 11, 12, 13] [] [] [])]),
  (72, [(9, hn [0, 1, 6, 13, 14, 15, 26, 27, 28] [6] [] []), (4, hn [0, 1, 13, 14, 15] [] [] [])]),
  (23, [(5, hn [1, 5, 12, 13, 14] [5] [] [])]),
  (93, [(4, hn [0, 2, 3, 16, 17, 18] [] [] [])]),
  (38, [(5, hn [1, 52, 53, 54] [1] [] [])]),
  (95, [(4, hn [0, 2, 3, 16, 17, 18] [] [] [])]),
  (25, [(4, hn [0, 8, 9, 10] [] [] [])]),
  (11, [(3, hn [1, 3, 4] [1] [] [])]),
  (67, [(5, hn [0, 3, 4] [] [] [])]),
  (111, [(2, hn [0, 3] [] [] [])]),
  (73, [(7, hn [1, 3, 4] [1] [] [])]),
  (68, [(4, hn [0, 3] [] [] [])]),
  (135, [(7, hn [0, 2, 4, 5, 6, 7] [2, 4] [] []), (4, hn [0, 2, 4, 5, 6] [2, 4] [] [])]),
  (157, [(15, hn [0, 4, 6, 7] [] [] []), (5, hn [0, 4, 5] [] [] [])]),
  (136, [(9, hn [0, 4] [] [] []), (4, hn [0, 3] [] [] [])]),
  (74, [(4, hn [0, 3] [] [] [])]),
  (75, [(4, hn [0, 1, 5] [] [] [])]),
  (78, [(4, hn [0, 3] [] [] [])]),
  (76, [(9, hn [0, 1, 5, 6] [] [] []), (4, hn [0, 1, 5] [] [] [])]),
  (53, [(10, hn [1, 2, 3, 8] [3] [] [])]),
  (107, [(15, hn [1, 4] [1] [] []), (8, hn [1, 3] [1] [] [])]),
  (24, [(5, hn [0, 1, 5, 6] [] [] [])]),
  (39, [(10, hn [1, 3] [1] [] [])]),
  (26, [(4, hn [0, 3] [] [] [])]),
  (108, [(3, hn [3, 6, 7, 8] [] [] [])]),
  (121, [(3, hn [3, 6, 7, 8] [] [] [])]),
  (109, [(27, hn [0, 9, 10, 12] [41] [] []), (21, hn [0, 9, 10, 11, 12] [41] [] []), (18, hn [0, 9, 10, 12] [41] [] []), (5, hn [0, 3, 4, 5, 6] [] [] [])])]
noncomputable def trims : List (Nat × List (List Nat × Hint)) := [
  (6, [tr [1, 1] [4, 5, 6, 7] [4, 5, 6, 7], tr [1, 1, 1] [4, 5, 6, 7] [4, 5, 6, 7], tr [1, 1, 1, 0, 1, 0, 0, 0, 1, 1] [4, 5, 6, 7] [4, 5, 6, 7], tr [1, 1, 1, 0, 1, 0, 0, 1] [4, 5, 6, 7, 9] [4, 5, 6, 7], tr [1, 1, 1, 0, 1, 0, 0, 1, 0, 0, 1, 0, 1] [8] [], tr [1, 1, 1, 0, 1, 0, 0, 1, 1] [4, 5, 6, 7, 9] [4, 5, 6, 7], tr [1, 1, 1, 1] [4, 5, 6, 7] [4, 5, 6, 7]]),
  (11, [tr [1, 1, 0, 1, 0, 0, 0, 1, 1] [3] [], tr [1, 1, 0, 1, 0, 0, 1] [1, 3, 4] [1], tr [1, 1, 0, 1, 0, 0, 1, 0, 0, 1, 0, 1] [2] [], tr [1, 1, 0, 1, 0, 0, 1, 1] [1, 3, 4] [1], tr [1, 1, 1] [3] []]),
  (23, [tr [1, 1] [0, 1] [], tr [1, 1, 1, 0, 1, 0, 0, 1, 0, 1] [5] [5], tr [1, 1, 1, 0, 1, 0, 0, 1, 1] [1, 5, 12, 13, 14] [5], tr [1, 1, 1, 0, 1, 0, 0, 1, 1, 0, 0, 1, 0, 1, 0, 1] [4] [], tr [1, 1, 1, 0, 1, 0, 0, 1, 1, 0, 0, 1, 1] [1, 5, 7, 12, 13, 14] [5, 7], tr [1, 1, 1, 0, 1, 0, 0, 1, 1, 0, 0, 1, 1, 0, 1, 0, 1] [4] [], tr [1, 1, 1, 0, 1, 0, 0, 1, 1, 0, 0, 1, 1, 1] [1, 5, 7, 12, 13, 14] [5, 7], tr [1, 1, 1, 0, 1, 0, 0, 1, 1, 1] [1, 5, 12, 13, 14] [5], tr [1, 1, 1, 1] [5] [5]]),
  (24, [tr [1, 1] [0, 1] [], tr [1, 1, 1, 0, 1, 0, 0, 0, 1, 1] [5] [], tr [1, 1, 1, 0, 1, 0, 0, 1] [0, 1, 5, 6] [], tr [1, 1, 1, 0, 1, 0, 0, 1, 0, 0, 0, 1, 0, 1] [4] [], tr [1, 1, 1, 0, 1, 0, 0, 1, 0, 0, 1] [0, 1, 5, 6] [], tr [1, 1, 1, 0, 1, 0, 0, 1, 0, 0, 1, 0, 1, 0, 1] [4] [], tr [1, 1, 1, 0, 1, 0, 0, 1, 0, 0, 1, 1] [0, 1, 6] [], tr [1, 1, 1, 0, 1, 0, 0, 1, 1] [0, 1, 5, 6] [], tr [1, 1, 1, 1] [5] [], tr [1, 1, 1, 1, 1] [] []]),
  (25, [tr [1, 1] [0] [], tr [1, 1, 0, 1, 0, 0, 1, 0, 1] [] [], tr [1, 1, 0, 1, 0, 0, 1, 1] [0, 8, 9, 10] [], tr [1, 1, 0, 1, 0, 0, 1, 1, 0, 0, 1, 0, 1, 0, 1] [2] [], tr [1, 1, 0, 1, 0, 0, 1, 1, 0, 0, 1, 1] [0, 3, 4, 8, 9, 10] [4], tr [1, 1, 0, 1, 0, 0, 1, 1, 0, 0, 1, 1, 1, 0, 1] [2] [], tr [1, 1, 0, 1, 0, 0, 1, 1, 1] [0, 8, 9, 10] [], tr [1, 1, 1] [] []]),
  (26, [tr [1, 1] [0] [], tr [1, 1, 0, 1, 0, 0, 0, 1, 1] [] [], tr [1, 1, 0, 1, 0, 0, 1] [0, 3] [], tr [1, 1, 0, 1, 0, 0, 1, 0, 0, 0, 1, 0, 1] [2] [], tr [1, 1, 0, 1, 0, 0, 1, 0, 0, 1] [0, 3] [], tr [1, 1, 0, 1, 0, 0, 1, 0, 0, 1, 1, 0, 1] [2] [], tr [1, 1, 0, 1, 0, 0, 1, 1] [0, 3] [], tr [1, 1, 1] [] []]),
  (32, [tr [1, 1] [1, 2] [2]]),
  (33, [tr [1, 0, 1, 0, 1] [2] [2], tr [1, 0, 1, 0, 1, 1] [] [], tr [1, 1] [1, 2] [2], tr [1, 1, 1] [1, 2] [2], tr [1, 1, 1, 1] [1, 2] [2]]),
  (34, [tr [1, 1, 1] [1, 3] [1], tr [1, 1, 1, 0, 1, 0, 0, 1, 0, 1] [1, 3] [1], tr [1, 1, 1, 0, 1, 0, 0, 1, 1] [1, 3, 38, 39, 40] [1], tr [1, 1, 1, 0, 1, 0, 0, 1, 1, 0, 0, 1, 1, 1, 0, 1] [2] [], tr [1, 1, 1, 0, 1, 0, 0, 1, 1, 1] [1, 3, 38, 39, 40] [1], tr [1, 1, 1, 1] [1, 3] [1], tr [1, 1, 1, 1, 1] [1, 3] [1]]),
  (35, [tr [1, 1, 1] [1, 3] [1], tr [1, 1, 1, 1] [1, 3] [1], tr [1, 1, 1, 1, 1] [1, 3] [1], tr [1, 1, 1, 1, 1, 1] [1, 3] [1], tr [1, 1, 1, 1, 1, 1, 1] [1, 3] [1], tr [1, 1, 1, 1, 1, 1, 1, 1] [1, 3] [1]]),
  (36, [tr [1, 1] [1] [1]]),
  (37, [tr [1, 1] [1] [1], tr [1, 1, 1] [1] [1], tr [1, 1, 1, 1] [1] [1], tr [1, 1, 1, 1, 1] [1] [1]]),
  (38, [tr [1, 1] [1] [1], tr [1, 1, 0, 1, 0, 0, 1, 0, 1] [] [], tr [1, 1, 0, 1, 0, 0, 1, 1] [1, 52, 53, 54] [1], tr [1, 1, 0, 1, 0, 0, 1, 1, 0, 0, 1, 0, 1, 0, 1] [2] [], tr [1, 1, 0, 1, 0, 0, 1, 1, 0, 0, 1, 1] [1, 4, 5, 52, 53, 54] [1, 5], tr [1, 1, 0, 1, 0, 0, 1, 1, 0, 0, 1, 1, 1, 0, 1] [2] [], tr [1, 1, 0, 1, 0, 0, 1, 1, 1] [1, 52, 53, 54] [1], tr [1, 1, 1] [] []]),
  (39, [tr [1, 1] [1] [1], tr [1, 1, 1] [1] [1], tr [1, 1, 1, 1] [1] [1], tr [1, 1, 1, 1, 1] [1] [1], tr [1, 1, 1, 1, 1, 0, 1, 0, 0, 0, 1, 1] [] [], tr [1, 1, 1, 1, 1, 0, 1, 0, 0, 1] [1, 3] [1], tr [1, 1, 1, 1, 1, 0, 1, 0, 0, 1, 0, 0, 1, 0, 1, 0, 1] [2] [], tr [1, 1, 1, 1, 1, 0, 1, 0, 0, 1, 0, 0, 1, 1] [1, 3, 4] [1, 4], tr [1, 1, 1, 1, 1, 0, 1, 0, 0, 1, 0, 0, 1, 1, 1, 0, 1] [2] [], tr [1, 1, 1, 1, 1, 0, 1, 0, 0, 1, 1] [1, 3] [1], tr [1, 1, 1, 1, 1, 1] [] []]),
  (41, [tr [1, 1] [1] [1], tr [1, 1, 1] [1] [1], tr [1, 1, 1, 1] [1] [1], tr [1, 1, 1, 1, 1] [1] [1], tr [1, 1, 1, 1, 1, 1] [1] [1]]),
  (44, [tr [1, 1, 1] [1] [1], tr [1, 1, 1, 1] [1] [1], tr [1, 1, 1, 1, 1] [1] [1], tr [1, 1, 1, 1, 1, 1] [1] [1]]),
  (52, [tr [1, 1] [1, 2, 3] [3], tr [1, 1, 1, 1] [1, 2, 3] [3], tr [1, 1, 1, 1, 0, 1, 0, 0, 1, 0, 1] [] [], tr [1, 1, 1, 1, 0, 1, 0, 0, 1, 1] [1, 2, 27, 28, 29] [], tr [1, 1, 1, 1, 0, 1, 0, 0, 1, 1, 0, 0, 1, 1, 1, 0, 1] [6] [], tr [1, 1, 1, 1, 0, 1, 0, 0, 1, 1, 1] [1, 2, 27, 28, 29] [], tr [1, 1, 1, 1, 1] [] []]),
  (53, [tr [1, 1] [1, 2, 3] [3], tr [1, 1, 1, 1] [1, 2, 3] [3], tr [1, 1, 1, 1, 1] [1, 2, 3] [3], tr [1, 1, 1, 1, 1, 0, 1, 0, 0, 0, 1, 1] [] [], tr [1, 1, 1, 1, 1, 0, 1, 0, 0, 1] [1, 2, 3, 8] [3], tr [1, 1, 1, 1, 1, 0, 1, 0, 0, 1, 0, 0, 1, 1, 0, 1] [6] [], tr [1, 1, 1, 1, 1, 0, 1, 0, 0, 1, 1] [1, 2, 3, 8] [3], tr [1, 1, 1, 1, 1, 1] [] []]),
  (56, [tr [1, 1] [] []]),
  (65, [tr [1, 1] [0] [], tr [1, 1, 0, 1, 0, 0, 1, 0, 1] [0] [], tr [1, 1, 0, 1, 0, 0, 1, 1] [0, 17, 18] [17], tr [1, 1, 0, 1, 0, 0, 1, 1, 0, 1, 1, 1, 0, 1] [2] [], tr [1, 1, 1] [0] [], tr [1, 1, 1, 0, 1, 0, 0, 1, 0, 1] [] [], tr [1, 1, 1, 0, 1, 0, 0, 1, 1] [0, 50, 51, 52] [], tr [1, 1, 1, 0, 1, 0, 0, 1, 1, 0, 0, 1, 1, 0, 1] [2] [], tr [1, 1, 1, 0, 1, 0, 0, 1, 1, 1] [0, 50, 51, 52] [], tr [1, 1, 1, 1] [] []]),
  (66, [tr [1, 1] [0] [], tr [1, 1, 0, 1, 0, 0, 1, 0, 1] [] [], tr [1, 1, 0, 1, 0, 0, 1, 1] [14, 15] [14], tr [1, 1, 0, 1, 0, 0, 1, 1, 0, 1, 1, 0, 1] [2] [], tr [1, 1, 1] [] []]),
  (67, [tr [1, 1] [0] [], tr [1, 1, 1, 0, 1, 0, 0, 0, 1, 1] [] [], tr [1, 1, 1, 0, 1, 0, 0, 1] [0, 3, 4] [], tr [1, 1, 1, 0, 1, 0, 0, 1, 0, 0, 1, 0, 1] [2] [], tr [1, 1, 1, 0, 1, 0, 0, 1, 1] [0, 3, 4] [], tr [1, 1, 1, 1] [] []]),
  (68, [tr [1, 1] [0] [], tr [1, 1, 0, 1, 0, 0, 0, 1, 1] [] [], tr [1, 1, 0, 1, 0, 0, 1] [0, 3] [], tr [1, 1, 0, 1, 0, 0, 1, 0, 0, 1, 0, 1] [2] [], tr [1, 1, 0, 1, 0, 0, 1, 1] [0, 3] [], tr [1, 1, 1] [] []]),
  (69, [tr [1, 1] [1] [1], tr [1, 1, 1] [1] [1], tr [1, 1, 1, 0, 1, 0, 1, 1, 1, 1, 1, 1, 1, 1, 1, 0, 1] [1] [1], tr [1, 1, 1, 0, 1, 0, 1, 1, 1, 1, 1, 1, 1, 1, 1, 0, 1, 0, 1, 0, 0, 1, 0, 1] [1] [1], tr [1, 1, 1, 0, 1, 0, 1, 1, 1, 1, 1, 1, 1, 1, 1, 0, 1, 0, 1, 0, 0, 1, 1] [1, 64, 65, 66] [1], tr [1, 1, 1, 0, 1, 0, 1, 1, 1, 1, 1, 1, 1, 1, 1, 0, 1, 0, 1, 0, 0, 1, 1, 0, 0, 1, 1, 0, 1] [2] [], tr [1, 1, 1, 0, 1, 0, 1, 1, 1, 1, 1, 1, 1, 1, 1, 0, 1, 0, 1, 0, 0, 1, 1, 1] [1, 64, 65, 66] [1], tr [1, 1, 1, 0, 1, 0, 1, 1, 1, 1, 1, 1, 1, 1, 1, 0, 1, 1] [1] [1], tr [1, 1, 1, 0, 1, 0, 1, 1, 1, 1, 1, 1, 1, 1, 1, 0, 1, 1, 1, 0, 0, 1, 0, 1] [] [], tr [1, 1, 1, 0, 1, 0, 1, 1, 1, 1, 1, 1, 1, 1, 1, 0, 1, 1, 1, 0, 0, 1, 1] [1, 76, 77] [1], tr [1, 1, 1, 0, 1, 0, 1, 1, 1, 1, 1, 1, 1, 1, 1, 0, 1, 1, 1, 0, 0, 1, 1, 0, 0, 1, 1, 0, 1] [2] [], tr [1, 1, 1, 0, 1, 0, 1, 1, 1, 1, 1, 1, 1, 1, 1, 0, 1, 1, 1, 0, 0, 1, 1, 1] [1, 76, 77] [1], tr [1, 1, 1, 1] [] []]),
  (70, [tr [1, 1] [0] [], tr [1, 1, 0, 1, 0, 0, 1, 0, 1] [] [], tr [1, 1, 0, 1, 0, 0, 1, 1] [0, 9, 10, 11] [], tr [1, 1, 0, 1, 0, 0, 1, 1, 0, 0, 1, 1, 1, 0, 1] [2] [], tr [1, 1, 0, 1, 0, 0, 1, 1, 1] [0, 9, 10, 11] [], tr [1, 1, 1] [] []]),
  (71, [tr [1, 1] [0, 1] [], tr [1, 1, 0, 1, 0, 0, 1, 0, 1] [] [], tr [1, 1, 0, 1, 0, 0, 1, 1] [1, 11, 12, 13] [], tr [1, 1, 0, 1, 0, 0, 1, 1, 0, 0, 1, 1, 1, 0, 1] [4] [], tr [1, 1, 0, 1, 0, 0, 1, 1, 1] [1, 11, 12, 13] [], tr [1, 1, 1] [] []]),
  (72, [tr [1, 0, 1] [0, 1] [], tr [1, 0, 1, 1] [0, 1] [], tr [1, 0, 1, 1, 0, 1, 0, 0, 1, 0, 1] [] [], tr [1, 0, 1, 1, 0, 1, 0, 0, 1, 1] [0, 1, 13, 14, 15] [], tr [1, 0, 1, 1, 0, 1, 0, 0, 1, 1, 0, 0, 1, 0, 1, 0, 1] [4] [], tr [1, 0, 1, 1, 0, 1, 0, 0, 1, 1, 0, 0, 1, 1] [0, 1, 5, 6, 13, 14, 15] [6], tr [1, 0, 1, 1, 0, 1, 0, 0, 1, 1, 0, 0, 1, 1, 0, 1, 0, 0, 1, 0, 1] [0, 1, 6, 13, 14, 15] [6], tr [1, 0, 1, 1, 0, 1, 0, 0, 1, 1, 0, 0, 1, 1, 0, 1, 0, 0, 1, 1] [0, 1, 6, 13, 14, 15, 26, 27, 28] [6], tr [1, 0, 1, 1, 0, 1, 0, 0, 1, 1, 0, 0, 1, 1, 0, 1, 0, 0, 1, 1, 0, 0, 1, 1, 0, 1] [4] [], tr [1, 0, 1, 1, 0, 1, 0, 0, 1, 1, 0, 0, 1, 1, 0, 1, 0, 0, 1, 1, 1] [0, 1, 6, 13, 14, 15, 26, 27, 28] [6], tr [1, 0, 1, 1, 0, 1, 0, 0, 1, 1, 0, 0, 1, 1, 1] [0, 1, 6, 13, 14, 15] [6], tr [1, 0, 1, 1, 0, 1, 0, 0, 1, 1, 0, 0, 1, 1, 1, 1, 0, 1, 0] [0, 1, 13, 14, 15] [], tr [1, 0, 1, 1, 0, 1, 0, 0, 1, 1, 0, 0, 1, 1, 1, 1, 0, 1, 1, 1] [4] [], tr [1, 0, 1, 1, 0, 1, 0, 0, 1, 1, 1] [0, 1, 13, 14, 15] [], tr [1, 0, 1, 1, 1] [] []]),
  (73, [tr [1, 1, 1] [1, 3] [1], tr [1, 1, 1, 1] [1, 3] [1], tr [1, 1, 1, 1, 0, 1, 0, 0, 0, 1, 1] [1, 3] [1], tr [1, 1, 1, 1, 0, 1, 0, 0, 1] [1, 3, 4] [1], tr [1, 1, 1, 1, 0, 1, 0, 0, 1, 0, 0, 0, 1, 1, 0, 1] [2] [], tr [1, 1, 1, 1, 0, 1, 0, 0, 1, 0, 0, 1] [1, 3, 4] [1], tr [1, 1, 1, 1, 0, 1, 0, 0, 1, 0, 0, 1, 1, 0, 1] [2] [], tr [1, 1, 1, 1, 0, 1, 0, 0, 1, 1] [1, 3, 4] [1], tr [1, 1, 1, 1, 1] [1, 3] [1], tr [1, 1, 1, 1, 1, 1] [] []]),
  (74, [tr [1, 1] [0] [], tr [1, 1, 0, 1, 0, 0, 0, 1, 1] [] [], tr [1, 1, 0, 1, 0, 0, 1] [0, 3] [], tr [1, 1, 0, 1, 0, 0, 1, 0, 0, 0, 1, 0, 1] [2] [], tr [1, 1, 0, 1, 0, 0, 1, 0, 0, 1] [0, 3] [], tr [1, 1, 0, 1, 0, 0, 1, 0, 0, 1, 0, 1, 0, 1] [2] [], tr [1, 1, 0, 1, 0, 0, 1, 0, 0, 1, 1] [0, 3] [], tr [1, 1, 0, 1, 0, 0, 1, 0, 0, 1, 1, 1, 0, 1] [2] [], tr [1, 1, 0, 1, 0, 0, 1, 1] [0, 3] [], tr [1, 1, 1] [] []]),
  (75, [tr [1, 1] [0, 1] [], tr [1, 1, 0, 1, 0, 0, 0, 1, 1] [] [], tr [1, 1, 0, 1, 0, 0, 1] [0, 1, 5] [], tr [1, 1, 0, 1, 0, 0, 1, 0, 0, 0, 1, 0, 1] [4] [], tr [1, 1, 0, 1, 0, 0, 1, 0, 0, 1] [0, 1, 5] [], tr [1, 1, 0, 1, 0, 0, 1, 0, 0, 1, 0, 1, 0, 1] [4] [], tr [1, 1, 0, 1, 0, 0, 1, 0, 0, 1, 1] [0, 1, 5] [], tr [1, 1, 0, 1, 0, 0, 1, 0, 0, 1, 1, 1, 1, 0, 1] [4] [], tr [1, 1, 0, 1, 0, 0, 1, 1] [0, 1, 5] [], tr [1, 1, 1] [] []]),
  (76, [tr [1, 1] [0, 1] [], tr [1, 1, 0, 1, 0, 0, 0, 1, 1] [] [], tr [1, 1, 0, 1, 0, 0, 1] [0, 1, 5] [], tr [1, 1, 0, 1, 0, 0, 1, 0, 0, 0, 1, 0, 1] [4] [], tr [1, 1, 0, 1, 0, 0, 1, 0, 0, 1] [0, 1, 5] [], tr [1, 1, 0, 1, 0, 0, 1, 0, 0, 1, 0, 1, 0, 0, 0, 1, 1] [0, 1, 5] [], tr [1, 1, 0, 1, 0, 0, 1, 0, 0, 1, 0, 1, 0, 0, 1] [0, 1, 5, 6] [], tr [1, 1, 0, 1, 0, 0, 1, 0, 0, 1, 0, 1, 0, 0, 1, 0, 0, 1, 0, 1] [4] [], tr [1, 1, 0, 1, 0, 0, 1, 0, 0, 1, 0, 1, 0, 0, 1, 1] [0, 1, 5, 6] [], tr [1, 1, 0, 1, 0, 0, 1, 0, 0, 1, 1] [0, 1, 5] [], tr [1, 1, 0, 1, 0, 0, 1, 0, 0, 1, 1, 0, 1, 1, 0, 1] [4] [], tr [1, 1, 0, 1, 0, 0, 1, 0, 0, 1, 1, 1] [0, 1, 5] [], tr [1, 1, 0, 1, 0, 0, 1, 0, 0, 1, 1, 1, 1, 1, 0, 1] [4] [], tr [1, 1, 0, 1, 0, 0, 1, 1] [0, 1, 5] [], tr [1, 1, 1] [] []]),
  (77, [tr [1, 1] [0] [], tr [1, 1, 0, 1, 0, 0, 1, 0, 1] [] [], tr [1, 1, 0, 1, 0, 0, 1, 1] [0, 8, 9, 10] [], tr [1, 1, 0, 1, 0, 0, 1, 1, 0, 0, 1, 0, 1, 0, 1] [2] [], tr [1, 1, 0, 1, 0, 0, 1, 1, 0, 0, 1, 1] [0, 3, 4, 8, 9, 10] [], tr [1, 1, 0, 1, 0, 0, 1, 1, 0, 0, 1, 1, 1, 0, 1] [2] [], tr [1, 1, 0, 1, 0, 0, 1, 1, 1] [0, 8, 9, 10] [], tr [1, 1, 1] [] []]),
  (78, [tr [1, 1] [0] [], tr [1, 1, 0, 1, 0, 0, 0, 1, 1] [] [], tr [1, 1, 0, 1, 0, 0, 1] [0, 3] [], tr [1, 1, 0, 1, 0, 0, 1, 0, 0, 0, 1, 0, 1] [2] [], tr [1, 1, 0, 1, 0, 0, 1, 0, 0, 1] [0, 3] [], tr [1, 1, 0, 1, 0, 0, 1, 0, 0, 1, 1, 0, 1] [2] [], tr [1, 1, 0, 1, 0, 0, 1, 1] [0, 3] [], tr [1, 1, 1] [] []]),
  (88, [tr [1, 1] [0] [], tr [1, 1, 0, 1, 0, 0, 1, 0, 1] [] [], tr [1, 1, 0, 1, 0, 0, 1, 1] [0, 8, 9, 10] [], tr [1, 1, 0, 1, 0, 0, 1, 1, 0, 0, 1, 0, 1, 0, 1] [2] [], tr [1, 1, 0, 1, 0, 0, 1, 1, 0, 0, 1, 1] [0, 3, 4, 8, 9, 10] [4], tr [1, 1, 0, 1, 0, 0, 1, 1, 0, 0, 1, 1, 0, 1, 0, 1] [2] [], tr [1, 1, 0, 1, 0, 0, 1, 1, 0, 0, 1, 1, 1] [0, 3, 4, 8, 9, 10] [4], tr [1, 1, 0, 1, 0, 0, 1, 1, 0, 0, 1, 1, 1, 1, 0, 1] [2] [], tr [1, 1, 0, 1, 0, 0, 1, 1, 1] [0, 8, 9, 10] [], tr [1, 1, 1] [] []]),
  (89, [tr [1, 1] [0, 2, 3] [], tr [1, 1, 0, 1, 0, 0, 1, 0, 1] [] [], tr [1, 1, 0, 1, 0, 0, 1, 1] [0, 2, 3, 16, 17, 18] [], tr [1, 1, 0, 1, 0, 0, 1, 1, 0, 0, 1, 0, 1, 1, 0, 1] [8] [], tr [1, 1, 0, 1, 0, 0, 1, 1, 0, 0, 1, 1] [0, 2, 3, 9, 10, 16, 17, 18] [10], tr [1, 1, 0, 1, 0, 0, 1, 1, 0, 0, 1, 1, 1, 0, 1] [8] [], tr [1, 1, 0, 1, 0, 0, 1, 1, 1] [0, 2, 3, 16, 17, 18] [], tr [1, 1, 1] [] []]),
  (91, [tr [1, 1] [0, 2, 3] [], tr [1, 1, 0, 1, 0, 0, 1, 0, 1] [] [], tr [1, 1, 0, 1, 0, 0, 1, 1] [0, 2, 3, 16, 17, 18] [], tr [1, 1, 0, 1, 0, 0, 1, 1, 0, 0, 1, 0, 1, 1, 0, 1] [8] [], tr [1, 1, 0, 1, 0, 0, 1, 1, 0, 0, 1, 1] [0, 2, 3, 9, 10, 16, 17, 18] [10], tr [1, 1, 0, 1, 0, 0, 1, 1, 0, 0, 1, 1, 1, 0, 1] [8] [], tr [1, 1, 0, 1, 0, 0, 1, 1, 1] [0, 2, 3, 16, 17, 18] [], tr [1, 1, 1] [] []]),
  (93, [tr [1, 1] [0, 2, 3] [], tr [1, 1, 0, 1, 0, 0, 1, 0, 1] [] [], tr [1, 1, 0, 1, 0, 0, 1, 1] [0, 2, 3, 16, 17, 18] [], tr [1, 1, 0, 1, 0, 0, 1, 1, 0, 0, 1, 0, 1, 1, 0, 1] [8] [], tr [1, 1, 0, 1, 0, 0, 1, 1, 0, 0, 1, 1] [0, 2, 3, 9, 10, 16, 17, 18] [10], tr [1, 1, 0, 1, 0, 0, 1, 1, 0, 0, 1, 1, 1, 0, 1] [8] [], tr [1, 1, 0, 1, 0, 0, 1, 1, 1] [0, 2, 3, 16, 17, 18] [], tr [1, 1, 1] [] []]),
  (95, [tr [1, 1] [0, 2, 3] [], tr [1, 1, 0, 1, 0, 0, 1, 0, 1] [] [], tr [1, 1, 0, 1, 0, 0, 1, 1] [0, 2, 3, 16, 17, 18] [], tr [1, 1, 0, 1, 0, 0, 1, 1, 0, 0, 1, 0, 1, 1, 0, 1] [8] [], tr [1, 1, 0, 1, 0, 0, 1, 1, 0, 0, 1, 1] [0, 2, 3, 9, 10, 16, 17, 18] [10], tr [1, 1, 0, 1, 0, 0, 1, 1, 0, 0, 1, 1, 1, 0, 1] [8] [], tr [1, 1, 0, 1, 0, 0, 1, 1, 1] [0, 2, 3, 16, 17, 18] [], tr [1, 1, 1] [] []]),
  (106, [tr [1, 1] [2] [2], tr [1, 1, 1] [2] [2], tr [1, 1, 1, 1] [2] [2], tr [1, 1, 1, 1, 1] [2] [2], tr [1, 1, 1, 1, 1, 0, 1, 0, 0, 1, 0, 1] [2] [2], tr [1, 1, 1, 1, 1, 0, 1, 0, 0, 1, 1] [2, 35, 36, 37] [2], tr [1, 1, 1, 1, 1, 0, 1, 0, 0, 1, 1, 0, 0, 1, 1, 0, 1] [4] [], tr [1, 1, 1, 1, 1, 0, 1, 0, 0, 1, 1, 1] [2, 35, 36, 37] [2], tr [1, 1, 1, 1, 1, 1] [2] [2], tr [1, 1, 1, 1, 1, 1, 1] [2] [2], tr [1, 1, 1, 1, 1, 1, 1, 0, 1, 0, 0, 1, 0, 1] [2] [2], tr [1, 1, 1, 1, 1, 1, 1, 0, 1, 0, 0, 1, 1] [2, 83, 84, 85] [2], tr [1, 1, 1, 1, 1, 1, 1, 0, 1, 0, 0, 1, 1, 0, 0, 1, 1, 1, 0, 1] [4] [], tr [1, 1, 1, 1, 1, 1, 1, 0, 1, 0, 0, 1, 1, 1] [2, 83, 84, 85] [2], tr [1, 1, 1, 1, 1, 1, 1, 1] [2] [2]]),
  (107, [tr [1, 1] [1] [1], tr [1, 1, 1] [1] [1], tr [1, 1, 1, 1] [1] [1], tr [1, 1, 1, 1, 0, 1, 0, 0, 0, 1, 1] [1] [1], tr [1, 1, 1, 1, 0, 1, 0, 0, 1] [1, 3] [1], tr [1, 1, 1, 1, 0, 1, 0, 0, 1, 0, 0, 1, 0, 1] [2] [], tr [1, 1, 1, 1, 0, 1, 0, 0, 1, 1] [1, 3] [1], tr [1, 1, 1, 1, 1] [1] [1], tr [1, 1, 1, 1, 1, 1] [1] [1], tr [1, 1, 1, 1, 1, 1, 0, 1, 0, 0, 0, 1, 1] [1] [1], tr [1, 1, 1, 1, 1, 1, 0, 1, 0, 0, 1] [1, 4] [1], tr [1, 1, 1, 1, 1, 1, 0, 1, 0, 0, 1, 0, 0, 1, 1, 0, 1] [2] [], tr [1, 1, 1, 1, 1, 1, 0, 1, 0, 0, 1, 1] [1, 4] [1], tr [1, 1, 1, 1, 1, 1, 1] [1] [1], tr [1, 1, 1, 1, 1, 1, 1, 1] [] []]),
  (108, [tr [1, 1, 0, 1, 0, 0, 1, 0, 1] [3] [], tr [1, 1, 0, 1, 0, 0, 1, 1] [3, 6, 7, 8] [], tr [1, 1, 0, 1, 0, 0, 1, 1, 0, 0, 1, 1, 0, 1] [2] [], tr [1, 1, 0, 1, 0, 0, 1, 1, 1] [3, 6, 7, 8] [], tr [1, 1, 1] [3] []]),
  (109, [tr [1, 1, 1, 1, 0, 1, 0, 0, 0, 1, 1] [0, 3, 5] [], tr [1, 1, 1, 1, 0, 1, 0, 0, 1] [0, 3, 4, 5, 6] [], tr [1, 1, 1, 1, 0, 1, 0, 0, 1, 1] [0, 3, 4, 5, 6] [], tr [1, 1, 1, 1, 1] [0, 3, 5] [], tr [1, 1, 1, 1, 1, 1] [0, 3] [], tr [1, 1, 1, 1, 1, 1, 1, 1, 1, 1, 0, 0, 0, 0, 1, 1] [0, 9, 10, 12] [41], tr [1, 1, 1, 1, 1, 1, 1, 1, 1, 1, 0, 0, 0, 1] [0, 9, 10, 12] [41], tr [1, 1, 1, 1, 1, 1, 1, 1, 1, 1, 1] [0, 9, 10, 12] [41], tr [1, 1, 1, 1, 1, 1, 1, 1, 1, 1, 1, 1, 0, 0, 0, 0, 1, 1] [0, 9, 10, 11] [41], tr [1, 1, 1, 1, 1, 1, 1, 1, 1, 1, 1, 1, 0, 0, 0, 1] [0, 9, 10, 11, 12] [41], tr [1, 1, 1, 1, 1, 1, 1, 1, 1, 1, 1, 1, 0, 0, 0, 1, 0, 0, 1, 0, 1] [0, 9, 10, 11, 12] [41], tr [1, 1, 1, 1, 1, 1, 1, 1, 1, 1, 1, 1, 0, 0, 0, 1, 0, 1] [0, 9, 10, 11, 12] [41], tr [1, 1, 1, 1, 1, 1, 1, 1, 1, 1, 1, 1, 0, 0, 0, 1, 0, 1, 1, 1, 1, 0, 0, 0, 0, 1, 1] [0, 9, 10, 12] [41], tr [1, 1, 1, 1, 1, 1, 1, 1, 1, 1, 1, 1, 0, 0, 0, 1, 0, 1, 1, 1, 1, 0, 0, 0, 1] [0, 9, 10, 12] [41], tr [1, 1, 1, 1, 1, 1, 1, 1, 1, 1, 1, 1, 0, 0, 0, 1, 0, 1, 1, 1, 1, 1] [0, 9, 10, 12] [41], tr [1, 1, 1, 1, 1, 1, 1, 1, 1, 1, 1, 1, 1] [0, 9, 10, 11] [41], tr [1, 1, 1, 1, 1, 1, 1, 1, 1, 1, 1, 1, 1, 1] [9] [41]]),
  (111, [tr [1, 0, 1, 0, 0, 0, 1, 1] [0] [], tr [1, 0, 1, 0, 0, 1] [0, 3] [], tr [1, 0, 1, 0, 0, 1, 0, 0, 1, 1, 1, 0, 1] [2] [], tr [1, 0, 1, 0, 0, 1, 1] [0, 3] [], tr [1, 1] [0] []]),
  (113, [tr [1, 0, 1, 0, 1] [1, 4, 5] [1], tr [1, 0, 1, 0, 1, 1, 1] [1, 17] [1], tr [1, 1] [1] [1]]),
  (114, [tr [1, 1, 1, 1] [2, 4, 5] [2, 4], tr [1, 1, 1, 1, 0, 1, 0, 0, 1, 0, 1] [2, 4] [2, 4], tr [1, 1, 1, 1, 0, 1, 0, 0, 1, 1] [2, 4, 16, 17, 18] [2, 4], tr [1, 1, 1, 1, 0, 1, 0, 0, 1, 1, 0, 0, 1, 1, 0, 1, 0, 1] [2, 3] [2], tr [1, 1, 1, 1, 0, 1, 0, 0, 1, 1, 0, 0, 1, 1, 1] [2, 4, 6, 8, 16, 17, 18] [2, 4], tr [1, 1, 1, 1, 0, 1, 0, 0, 1, 1, 1] [2, 4, 16, 17, 18] [2, 4], tr [1, 1, 1, 1, 1] [2, 4] [2, 4]]),
  (115, [tr [1, 1] [1] [1], tr [1, 1, 1] [1] [1], tr [1, 1, 1, 1] [] []]),
  (121, [tr [1, 1, 0, 1, 0, 0, 1, 0, 1] [3] [], tr [1, 1, 0, 1, 0, 0, 1, 1] [3, 6, 7, 8] [], tr [1, 1, 0, 1, 0, 0, 1, 1, 0, 0, 1, 1, 0, 1] [2] [], tr [1, 1, 0, 1, 0, 0, 1, 1, 1] [3, 6, 7, 8] [], tr [1, 1, 1] [3] []]),
  (125, [tr [1, 1, 1] [1, 4] [1], tr [1, 1, 1, 1] [1, 4] [1], tr [1, 1, 1, 1, 1] [4] []]),
  (127, [tr [1, 1, 1] [1, 3, 4] [1]]),
  (133, [tr [1, 1, 1] [0, 4] [], tr [1, 1, 1, 0, 1, 0, 0, 1, 0, 1] [0] [], tr [1, 1, 1, 0, 1, 0, 0, 1, 1] [0, 31, 32] [31], tr [1, 1, 1, 0, 1, 0, 0, 1, 1, 0, 1, 1, 0, 1] [2, 3] [], tr [1, 1, 1, 1] [0] [], tr [1, 1, 1, 1, 1, 1] [8] []]),
  (135, [tr [1, 1, 1, 0, 1, 0, 0, 0, 1, 1] [2, 4] [2, 4], tr [1, 1, 1, 0, 1, 0, 0, 1] [0, 2, 4, 5, 6] [2, 4], tr [1, 1, 1, 0, 1, 0, 0, 1, 0, 0, 1, 0, 0, 0, 0, 1, 1] [0, 2, 4, 5, 6, 7] [2, 4], tr [1, 1, 1, 0, 1, 0, 0, 1, 0, 0, 1, 0, 0, 0, 1] [0, 2, 4, 5, 6, 7] [2, 4], tr [1, 1, 1, 0, 1, 0, 0, 1, 0, 0, 1, 1] [0, 2, 4, 5, 6, 7] [2, 4], tr [1, 1, 1, 0, 1, 0, 0, 1, 0, 0, 1, 1, 1, 0, 1, 0, 1] [2, 3] [2], tr [1, 1, 1, 0, 1, 0, 0, 1, 0, 0, 1, 1, 1, 1] [0, 2, 4, 5, 6, 8] [2, 4], tr [1, 1, 1, 0, 1, 0, 0, 1, 1] [0, 2, 4, 5, 6] [2, 4], tr [1, 1, 1, 1] [2, 4] [2, 4]]),
  (136, [tr [1, 1] [0] [], tr [1, 1, 0, 1, 0, 0, 0, 1, 1] [0] [], tr [1, 1, 0, 1, 0, 0, 1] [0, 3] [], tr [1, 1, 0, 1, 0, 0, 1, 0, 0, 1, 0, 1] [2] [], tr [1, 1, 0, 1, 0, 0, 1, 1] [0, 3] [], tr [1, 1, 1] [0] [], tr [1, 1, 1, 0, 1, 0, 0, 0, 1, 1] [] [], tr [1, 1, 1, 0, 1, 0, 0, 1] [0, 4] [], tr [1, 1, 1, 0, 1, 0, 0, 1, 0, 0, 1, 0, 1] [2] [], tr [1, 1, 1, 0, 1, 0, 0, 1, 1] [0, 4] [], tr [1, 1, 1, 1] [] []]),
  (157, [tr [1, 1, 1] [0, 4] [], tr [1, 1, 1, 0, 1, 0, 0, 0, 1, 1] [0, 4] [], tr [1, 1, 1, 0, 1, 0, 0, 1] [0, 4, 5] [], tr [1, 1, 1, 0, 1, 0, 0, 1, 0, 0, 1, 0, 1] [2, 3] [], tr [1, 1, 1, 0, 1, 0, 0, 1, 1] [0, 4, 5] [], tr [1, 1, 1, 1] [0, 4] [], tr [1, 1, 1, 1, 1] [0, 4] [], tr [1, 1, 1, 1, 1, 1] [0, 4] [], tr [1, 1, 1, 1, 1, 1, 1, 0, 1, 0, 0, 0, 1, 1] [0, 4, 6] [], tr [1, 1, 1, 1, 1, 1, 1, 0, 1, 0, 0, 1] [0, 4, 6, 7] [], tr [1, 1, 1, 1, 1, 1, 1, 0, 1, 0, 0, 1, 1] [0, 4, 6, 7] [], tr [1, 1, 1, 1, 1, 1, 1, 1] [0, 4, 6] [], tr [1, 1, 1, 1, 1, 1, 1, 1, 1] [0, 4, 6] [], tr [1, 1, 1, 1, 1, 1, 1, 1, 1, 1] [6] []]),
  (182, [tr [1, 1] [0, 1] []])]
noncomputable def V : Env := { P := Tryz.prog, G := globs, hint := fun f t => ((alook hints f).bind fun l => alook l t).getD {}, trim := fun f p => (alook trims f).bind fun l => trGet l p }
theorem mixed : V.P.follows .mixedOrders = true := by kernel_rfl
theorem funcs : FuncsOk V.P := funcsOk_of (by kernel_rfl)
end Go.SH

namespace Go.SH
open Go Go.Ab Go.Proofs
set_option linter.unusedVariables false
def wordsS : List UInt8 := [97, 110, 100, 32, 97, 114, 109, 115, 32, 97, 116, 116, 114, 105, 98, 117, 116, 101, 32, 98, 111, 111, 108, 32, 99, 108, 97, 105, 109, 115, 32, 99, 111, 110, 116, 97, 105, 110, 115, 32, 99, 111, 111, 108, 32, 99, 111, 111, 108, 105, 110, 103, 32, 100, 101, 102, 97, 117, 108, 116, 32, 100, 114, 97, 102, 116, 32, 101, 110, 100, 115, 32, 101, 120, 99, 108, 117, 100, 101, 32, 101, 120, 105, 115, 116, 115, 32, 101, 120, 112, 101, 114, 105, 109, 101, 110, 116, 32, 102, 97, 108, 115, 101, 32, 102, 108, 97, 103, 32, 104, 111, 108, 100, 111, 117, 116, 32, 105, 110, 32, 105, 110, 99, 108, 117, 100, 101, 32, 105, 115, 32, 108, 97, 121, 101, 114, 32, 108, 105, 115, 116, 32, 109, 101, 109, 98, 101, 114, 32, 110, 101, 101, 100, 115, 32, 110, 111, 116, 32, 110, 117, 109, 98, 101, 114, 32, 111, 102, 102, 32, 111, 110, 32, 111, 114, 32, 114, 117, 108, 101, 32, 114, 117, 110, 110, 105, 110, 103, 32, 115, 97, 108, 116, 32, 115, 101, 103, 109, 101, 110, 116, 32, 115, 101, 114, 118, 101, 32, 115, 101, 116, 116, 105, 110, 103, 115, 32, 115, 112, 108, 105, 116, 32, 115, 116, 97, 114, 116, 115, 32, 115, 116, 111, 112, 112, 101, 100, 32, 116, 97, 114, 103, 101, 116, 32, 116, 101, 120, 116, 32, 116, 111, 32, 116, 114, 117, 101, 32, 117, 110, 116, 105, 108, 32, 118, 97, 114, 105, 97, 116, 105, 111, 110, 115, 32, 118, 101, 114, 115, 105, 111, 110, 32, 119, 104, 101, 110]
def cutW : List UInt8 → List UInt8 → List (List UInt8)
  | [], w => [w]
  | c :: r, w => if c = 32 then w :: cutW r [] else cutW r (w ++ [c])
def resW : List (List UInt8) := cutW wordsS []
def isWords : Option (AV × List AO) → Bool
  | some (.sl _ 1 46 get, []) => rowsEq 46 (fun j => [.str (resW.getD j [])]) get
  | _ => false
set_option maxRecDepth 100000 in
theorem fields_run : isWords (E V 400 109 [.str wordsS] []) = true := by kernel_rfl
theorem isWords_inv {x : Option (AV × List AO)} (h : isWords x = true) : ∃ o get, x = some (.sl o 1 46 get, []) ∧ rowsEq 46 (fun j => [.str (resW.getD j [])]) get = true := by
  unfold isWords at h
  split at h
  · exact ⟨_, _, rfl, h⟩
  · cases h
def strsA (l : List (List UInt8)) : AV := .sl .no 1 l.length fun j => [.str (l.getD j [])]
theorem resW_len : resW.length = 46 := by kernel_rfl
theorem fields_ok : Ct V.P V.G 109 [.str wordsS] [] (strsA resW, []) := by
  obtain ⟨o, get, h1, h2⟩ := isWords_inv fields_run
  refine (ct_of_E mixed funcs (fun _ => rfl) h1).res rfl fun c v hr => ?_
  unfold strsA
  rw [resW_len]
  exact Rep.slWeak (rowsEq_eq h2) hr
end Go.SH

namespace Go.Ab
open Go
section
variable {τ : Type} [Inhabited τ]
noncomputable def g1 (A : List AV) : List AV → List AO → Bool := goodA (fun _ : Unit => A) (fun _ => []) (fun _ => True)
noncomputable def v1 (A : List AV) (w : τ) : List AV → List AO → τ := valA (fun _ : Unit => A) (fun _ => []) (fun _ => True) (fun _ => w)
noncomputable def ent1 (f : FuncId) (A : List AV) (w : τ) (φ : τ → AV × List AO) : Ent := mkE f (g1 A) (v1 A w) φ
theorem g1_eq (A : List AV) : g1 A A [] = true := goodA_eq (A := fun _ : Unit => A) (v := ()) trivial
theorem v1_eq (A : List AV) (w : τ) : v1 A w A [] = w := valA_eq (A := fun _ : Unit => A) (v := ()) (fun _ _ _ _ _ _ => rfl) trivial
theorem ent1_ok {V : Env} {f : FuncId} {A : List AV} {w : τ} {φ : τ → AV × List AO} (h : Ct V.P V.G f A [] (φ w)) : ∀ l os, (ent1 f A w φ).pre l os = true → Ct V.P V.G (ent1 f A w φ).f l os ((ent1 f A w φ).ans l os) :=
  entC_ok (w := fun _ : Unit => w) (φ := φ) fun _ _ => h
noncomputable def gF {α : Type} (A : α → List AV) (Pre : α → Prop) : List AV → List AO → Bool := goodA A (fun _ => []) Pre
noncomputable def vF {α : Type} (A : α → List AV) (Pre : α → Prop) (w : α → τ) : List AV → List AO → τ := valA A (fun _ => []) Pre w
noncomputable def entF {α : Type} (f : FuncId) (A : α → List AV) (Pre : α → Prop) (w : α → τ) (φ : τ → AV × List AO) : Ent := mkE f (gF A Pre) (vF A Pre w) φ
theorem gF_eq {α : Type} {A : α → List AV} {Pre : α → Prop} {a : α} (h : Pre a) : gF A Pre (A a) [] = true := goodA_eq (A := A) h
theorem vF_eq {α : Type} {A : α → List AV} {Pre : α → Prop} {w : α → τ} (hi : ∀ a b, A a = A b → w a = w b) {a : α} (h : Pre a) : vF A Pre w (A a) [] = w a := valA_eq (A := A) (fun a b _ _ h _ => hi a b h) h
theorem entF_ok {V : Env} {α : Type} {f : FuncId} {A : α → List AV} {Pre : α → Prop} {w : α → τ} {φ : τ → AV × List AO} (h : ∀ a, Pre a → Ct V.P V.G f (A a) [] (φ (w a))) : ∀ l os, (entF f A Pre w φ).pre l os = true → Ct V.P V.G (entF f A Pre w φ).f l os ((entF f A Pre w φ).ans l os) :=
  entC_ok (w := w) (φ := φ) h
end
end Go.Ab

namespace Go.SH
open Go Go.Ab Go.Proofs
set_option linter.unusedVariables false
set_option linter.unusedSimpArgs false
def Sw (s : List UInt8) (i : Nat) : St := { env := [(0, .str s), (3, .int .i64 i)], objs := [] }
def Sr (s : List UInt8) (l : List (List UInt8)) (i : Nat) : St := { env := [(0, .str s), (3, strsA l), (4, .int .i64 i)], objs := [] }
def Sa (s : List UInt8) (i : Nat) : St := { env := [(0, .str s), (17, .ref 17 0)], objs := [(17, .iter s i)] }
def Sb (s : List UInt8) (l : List (List UInt8)) (i : Nat) : St := { env := [(0, .str s), (50, strsA l), (51, .int .i64 l.length), (52, .int .i64 i)], objs := [] }
def φB (b : Bool) : AV × List AO := (.bool b, [])
def φS (l : List (List UInt8)) : AV × List AO := (strsA l, [])
set_option maxRecDepth 100000 in
theorem word_r (L : List (List Nat × Orc)) (m : Nat) (s : List UInt8) (i : Nat) (kn : St → Res) (k : Ex → St → Res)  : roundR (V.run [] 0 [] L [] 111) 111 m [1, 0, 1, 0] (Sw s i) kn k =
  cond (decide ((↑i : Int) < (↑(List.length s) : Int))) (cond (within (↑i : Int) (List.length s)) (cond (bif !bif decide ((↑(UInt8.toNat (List.getD s (Int.toNat (↑i : Int)) 0)) : Int) ≥ 97) then decide ((↑(UInt8.toNat (List.getD s (Int.toNat (↑i : Int)) 0)) : Int) ≤ 122) else false then bif (↑i : Int) == 0 then true else bif bif !bif decide ((↑(UInt8.toNat (List.getD s (Int.toNat (↑i : Int)) 0)) : Int) ≥ 48) then decide ((↑(UInt8.toNat (List.getD s (Int.toNat (↑i : Int)) 0)) : Int) ≤ 57) else false then (↑(UInt8.toNat (List.getD s (Int.toNat (↑i : Int)) 0)) : Int) != 45 else false then (↑(UInt8.toNat (List.getD s (Int.toNat (↑i : Int)) 0)) : Int) != 95 else false else false) (k (.ret) ({ env := [(2, .bool false)], objs := [] })) (kn ({ env := [(0, .str s), (3, .int .i64 (IntKind.wrap IntKind.i64 ((↑i : Int) + 1)))], objs := [] }))) (none)) (k (.exit 0) ({ env := [(0, .str s)], objs := [] })) := by kernel_rfl
set_option maxRecDepth 100000 in
theorem word_m (g : St → Bool) (v : St → Bool × Bool) (m : Nat) (s : List UInt8) {t1 : Bool × Bool} (h_t1 : v (Sw s 0) = t1) : runF (V.run [] 0 [] [([1, 0, 1, 0], mkO g v (outB (retB 2) fun k => k (.exit 0) { env := [(0, .str s)], objs := [] }))] [] 111) m 111 [.str s] [] =
  cond (g (Sw s 0)) (cond (Prod.fst t1) (some ((.bool (Prod.snd t1), []))) (some ((.bool (decide ((↑(List.length s) : Int) > 0)), [])))) (none) := by subst h_t1; kernel_rfl
set_option maxRecDepth 100000 in
theorem rkey_r (T : List Ent) (L : List (List Nat × Orc)) (m : Nat) (s : List UInt8) (l : List (List UInt8)) (i : Nat) (kn : St → Res) (k : Ex → St → Res)  : roundR (V.run T 1 [] L [] 67) 67 m [1, 1, 1, 0, 1, 0] (Sr s l i) kn k =
  cond (decide ((↑i : Int) < (↑(List.length l) : Int))) (cond (within (↑i : Int) (List.length l)) (cond (List.getD l (Int.toNat (↑i : Int)) [] == s) (k (.ret) ({ env := [(2, .bool false)], objs := [] })) (kn ({ env := [(0, .str s), (3, strsA l), (4, .int .i64 (IntKind.wrap IntKind.i64 ((↑i : Int) + 1)))], objs := [] }))) (none)) (k (.exit 0) ({ env := [], objs := [] })) := by kernel_rfl
set_option maxRecDepth 100000 in
theorem rkey_m (gw : List AV → List AO → Bool) (vw : List AV → List AO → Bool) (gr : List AV → List AO → Bool) (vr : List AV → List AO → List (List UInt8)) (g : St → Bool) (v : St → Bool × Bool) (m : Nat) (s : List UInt8) {t1 : List (List UInt8)} (h_t1 : vr [] [] = t1) {t2 : Bool × Bool} (h_t2 : v { env := [(0, .str s), (3, .sl .no 1 (List.length t1) fun j => [.str (List.getD t1 j [])]), (4, .int .i64 0)], objs := [] } = t2) : runF (V.run [mkE 111 gw vw φB, mkE 112 gr vr φS] 1 [] [([1, 1, 1, 0, 1, 0], mkO g v (outB (retB 2) fun k => k (.exit 0) { env := [], objs := [] }))] [] 67) m 67 [.str s] [] =
  cond (gw [.str s] []) (cond (bif !vw [.str s] [] then true else decide ((↑(List.length s) : Int) > 32)) (some ((.bool false, []))) (cond (gr [] []) (cond (g { env := [(0, .str s), (3, .sl .no 1 (List.length t1) fun j => [.str (List.getD t1 j [])]), (4, .int .i64 0)], objs := [] }) (cond (Prod.fst t2) (some ((.bool (Prod.snd t2), []))) (some ((.bool true, [])))) (none)) (none))) (none) := by subst h_t2 h_t1; kernel_rfl
set_option maxRecDepth 100000 in
theorem key_ra (T : List Ent) (L : List (List Nat × Orc)) (m : Nat) (s : List UInt8) (i : Nat) (kn : St → Res) (k : Ex → St → Res)  : roundR (V.run T 1 [] L [] 65) 65 m [1, 1, 0, 1, 0] (Sa s i) kn k =
  cond (Nat.blt i (List.length s)) (cond (bif !bif decide ((↑(Prod.fst (Utf8.decode { data := List.toArray s } i)) : Int) ≥ 97) then decide ((↑(Prod.fst (Utf8.decode { data := List.toArray s } i)) : Int) ≤ 122) else false then bif (↑i : Int) == 0 then true else bif bif bif decide ((↑(Prod.fst (Utf8.decode { data := List.toArray s } i)) : Int) < 48) then true else decide ((↑(Prod.fst (Utf8.decode { data := List.toArray s } i)) : Int) > 57) then (↑(Prod.fst (Utf8.decode { data := List.toArray s } i)) : Int) != 45 else false then (↑(Prod.fst (Utf8.decode { data := List.toArray s } i)) : Int) != 95 else false else false) (k (.ret) ({ env := [(2, .bool false)], objs := [] })) (kn (Sa s (nextP s i)))) (k (.exit 0) ({ env := [(0, .str s)], objs := [] })) := by kernel_rfl
set_option maxRecDepth 100000 in
theorem key_rb (T : List Ent) (L : List (List Nat × Orc)) (m : Nat) (s : List UInt8) (l : List (List UInt8)) (i : Nat) (kn : St → Res) (k : Ex → St → Res)  : roundR (V.run T 1 [] L [] 65) 65 m [1, 1, 1, 0, 1, 0] (Sb s l i) kn k =
  cond (decide ((↑i : Int) < (↑(List.length l) : Int))) (cond (within (↑i : Int) (List.length l)) (cond (List.getD l (Int.toNat (↑i : Int)) [] == s) (k (.ret) ({ env := [(2, .bool false)], objs := [] })) (kn ({ env := [(0, .str s), (50, strsA l), (51, .int .i64 (↑(List.length l) : Int)), (52, .int .i64 (IntKind.wrap IntKind.i64 ((↑i : Int) + 1)))], objs := [] }))) (none)) (k (.exit 2) ({ env := [], objs := [] })) := by kernel_rfl
set_option maxRecDepth 100000 in
theorem key_m (gf : List AV → List AO → Bool) (vf : List AV → List AO → List (List UInt8)) (ga gb : St → Bool) (va vb : St → Bool × Bool) (m : Nat) (s : List UInt8) {t1 : Bool × Bool} (h_t1 : va (Sa s 0) = t1) {t2 : List (List UInt8)} (h_t2 : vf [.str wordsS] [] = t2) {t3 : Bool × Bool} (h_t3 : vb { env := [(0, .str s), (50, .sl .no 1 (List.length t2) fun j => [.str (List.getD t2 j [])]), (51, .int .i64 (↑(List.length t2) : Int)), (52, .int .i64 0)], objs := [] } = t3) : runF (V.run [mkE 109 gf vf φS] 1 [] [([1, 1, 0, 1, 0], mkO ga va (outB (retB 2) fun k => k (.exit 0) { env := [(0, .str s)], objs := [] })), ([1, 1, 1, 0, 1, 0], mkO gb vb (outB (retB 2) fun k => k (.exit 2) { env := [], objs := [] }))] [] 65) m 65 [.str s] [] =
  cond (bif decide ((↑(List.length s) : Int) < 1) then true else decide ((↑(List.length s) : Int) > 32)) (some ((.bool false, []))) (cond (ga (Sa s 0)) (cond (Prod.fst t1) (some ((.bool (Prod.snd t1), []))) (cond (gf [.str wordsS] []) (cond (gb { env := [(0, .str s), (50, .sl .no 1 (List.length t2) fun j => [.str (List.getD t2 j [])]), (51, .int .i64 (↑(List.length t2) : Int)), (52, .int .i64 0)], objs := [] }) (cond (Prod.fst t3) (some ((.bool (Prod.snd t3), []))) (some ((.bool true, [])))) (none)) (none))) (none)) := by subst h_t3 h_t2 h_t1; kernel_rfl
def maxS : Nat := 4611686018427387904
def wordBad (i : Nat) (c : Nat) : Bool := bif !bif decide ((c : Int) ≥ 97) then decide ((c : Int) ≤ 122) else false then bif (i : Int) == 0 then true else bif bif !bif decide ((c : Int) ≥ 48) then decide ((c : Int) ≤ 57) else false then (c : Int) != 45 else false then (c : Int) != 95 else false else false
def wordSeek (s : List UInt8) : Bool × Bool := seek s.length (· + 1) (fun i => wordBad i (s.getD i 0).toNat) false
def wordB (s : List UInt8) : Bool := !(wordSeek s).1 && decide (0 < s.length)
theorem Sw_inj (s : List UInt8) (i j : Nat) (h : Sw s i = Sw s j) : i = j := by
  simp only [Sw, St.mk.injEq, List.cons.injEq, Prod.mk.injEq, AV.int.injEq, and_true, true_and] at h; omega
theorem word_ok (s : List UInt8) (hs : s.length ≤ maxS) : Ct V.P V.G 111 [.str s] [] (φB (wordB s)) := by
  unfold maxS at hs
  have hl := loopOk_seek (X := V.run [] 0 [] [([1, 0, 1, 0], mkO (goodS (Sw s) (· ≤ s.length)) (valS (Sw s) (· ≤ s.length) (scanAt s.length (· + 1) (fun i => bif wordBad i (s.getD i 0).toNat then some false else none))) (outB (retB 2) fun k => k (.exit 0) { env := [(0, .str s)], objs := [] }))] [] 111)
    (f := 111) (p := [1, 0, 1, 0]) (b := subC (bodyOf V.P 111) ([1, 0, 1, 0] ++ [0])) (Sw s) s.length (· + 1) (fun i => wordBad i (s.getD i 0).toNat) false (retB 2) (fun k => k (.exit 0) { env := [(0, .str s)], objs := [] }) (by kernel_rfl) 0 (fun i h => ⟨by omega, by omega⟩)
    (fun i h kn k => by rw [word_r, lt_true h, within_lt h, wrap_next h hs, Int.toNat_natCast]; rfl) (fun kn k => by rw [word_r, lt_false (Nat.lt_irrefl _)]; rfl)
  obtain ⟨h1, h2⟩ := seek_at (Sw s) s.length (· + 1) (fun i => wordBad i (s.getD i 0).toNat) false (Sw_inj s)
  refine ct_loops (n := 0) mixed funcs tabOk_nil (loopsOk_cons hl loopsOk_nil) ?_
  refine (word_m _ _ 0 s h2).trans ?_
  rw [h1]
  unfold wordB wordSeek φB
  cases hb : (seek s.length (· + 1) (fun i => wordBad i (s.getD i 0).toNat) false).1 with
  | true => rw [seek_val hb]; rfl
  | false => simp
set_option maxRecDepth 100000 in
theorem reserved_run : isWords (E V 5 112 [] []) = true := by kernel_rfl
theorem reserved_ok : Ct V.P V.G 112 [] [] (φS resW) := by
  obtain ⟨o, get, h1, h2⟩ := isWords_inv reserved_run
  refine (ct_of_E mixed funcs (fun _ => rfl) h1).res rfl fun c v hr => ?_
  unfold strsA
  rw [resW_len]
  exact Rep.slWeak (rowsEq_eq h2) hr
def resSeek (s : List UInt8) : Bool × Bool := seek resW.length (· + 1) (fun i => resW.getD i [] == s) false
def keyB (s : List UInt8) : Bool := wordB s && (decide (s.length ≤ 32) && !(resSeek s).1)
theorem Sr_inj (s : List UInt8) (l : List (List UInt8)) (i j : Nat) (h : Sr s l i = Sr s l j) : i = j := by
  simp only [Sr, St.mk.injEq, List.cons.injEq, Prod.mk.injEq, AV.int.injEq, and_true, true_and] at h; omega
theorem Sb_inj (s : List UInt8) (l : List (List UInt8)) (i j : Nat) (h : Sb s l i = Sb s l j) : i = j := by
  simp only [Sb, St.mk.injEq, List.cons.injEq, Prod.mk.injEq, AV.int.injEq, and_true, true_and] at h; omega
theorem Sa_inj (s : List UInt8) (i j : Nat) (h : Sa s i = Sa s j) : i = j := by
  simp only [Sa, St.mk.injEq, List.cons.injEq, Prod.mk.injEq, AO.iter.injEq, and_true, true_and] at h; exact h
theorem rkey_ok (s : List UInt8) (hs : s.length ≤ maxS) : Ct V.P V.G 67 [.str s] [] (φB (keyB s)) := by
  have hl := fun T L => loopOk_seek (X := V.run T 1 [] L [] 67)
    (f := 67) (p := [1, 1, 1, 0, 1, 0]) (b := subC (bodyOf V.P 67) ([1, 1, 1, 0, 1, 0] ++ [0])) (Sr s resW) resW.length (· + 1) (fun i => resW.getD i [] == s) false (retB 2) (fun k => k (.exit 0) { env := [], objs := [] }) (by kernel_rfl) 0 (fun i h => ⟨by omega, by omega⟩)
    (fun i h kn k => by rw [rkey_r, lt_true h, within_lt h, wrap_next h (by rw [resW_len]; omega), Int.toNat_natCast]; rfl) (fun kn k => by rw [rkey_r, lt_false (Nat.lt_irrefl _)]; rfl)
  obtain ⟨h1, h2⟩ := seek_at (Sr s resW) resW.length (· + 1) (fun i => resW.getD i [] == s) false (Sr_inj s resW)
  refine ct_loops (n := 0) (T := [ent1 111 [.str s] (wordB s) φB, ent1 112 [] resW φS]) mixed funcs (tabOk_cons (ent1_ok (word_ok s hs)) (tabOk_cons (ent1_ok reserved_ok) tabOk_nil)) (loopsOk_cons (hl _ _) loopsOk_nil) ?_
  refine (rkey_m (g1 [.str s]) (v1 [.str s] (wordB s)) (g1 []) (v1 [] resW) _ _ 0 s (v1_eq _ _) h2).trans ?_
  rw [g1_eq, g1_eq, v1_eq]
  rw [show goodS (Sr s resW) (· ≤ resW.length) { env := [(0, .str s), (3, .sl .no 1 (List.length resW) fun j => [.str (List.getD resW j [])]), (4, .int .i64 0)], objs := [] } = true from h1]
  unfold keyB φB
  rw [show seek resW.length (· + 1) (fun i => resW.getD i [] == s) false = resSeek s from rfl]
  have hv : (resSeek s).1 = true → (resSeek s).2 = false := seek_val
  have hd : decide ((s.length : Int) > 32) = !decide (s.length ≤ 32) := by
    by_cases h : s.length ≤ 32
    · rw [decide_eq_true h, decide_eq_false (by omega)]; rfl
    · rw [decide_eq_false h, decide_eq_true (by omega)]; rfl
  rw [hd]
  cases wordB s <;> cases decide (s.length ≤ 32) <;> cases hr : (resSeek s).1 <;> simp [hr, hv]
end Go.SH

namespace Go.Ab
open Go
theorem get_bytes (s : List UInt8) (i : Nat) : (ByteArray.mk s.toArray).get! i = s.getD i 0 := by
  show s.toArray[i]! = _
  simp only [List.getElem!_toArray, List.getD_eq_getElem?_getD, List.getElem!_eq_getElem?_getD]
  rfl
theorem dec_low {s : List UInt8} {i : Nat} (ha : (s.getD i 0).toNat < 128) : Utf8.decode ⟨s.toArray⟩ i = ((s.getD i 0).toNat, 1) := by
  have e : (ByteArray.mk s.toArray).get! (i + 0) = s.getD i 0 := get_bytes s i
  simp only [Utf8.decode, e, ha, if_true]
theorem size_bytes (s : List UInt8) : (ByteArray.mk s.toArray).size = s.length := by simp [ByteArray.size]
theorem dec_high {s : List UInt8} {i : Nat} (_ : i < s.length) (ha : 128 ≤ (s.getD i 0).toNat) :
    128 ≤ (Utf8.decode ⟨s.toArray⟩ i).1 ∧ 1 ≤ (Utf8.decode ⟨s.toArray⟩ i).2 ∧ ∀ k, 1 ≤ k → k < (Utf8.decode ⟨s.toArray⟩ i).2 → i + k < s.length ∧ 128 ≤ (s.getD (i + k) 0).toNat := by
  have e0 : (ByteArray.mk s.toArray).get! (i + 0) = s.getD i 0 := get_bytes s i
  have hone : ∀ {c : Nat}, 128 ≤ c → (128 ≤ ((c, 1) : Nat × Nat).1 ∧ 1 ≤ ((c, 1) : Nat × Nat).2 ∧ ∀ k, 1 ≤ k → k < ((c, 1) : Nat × Nat).2 → i + k < s.length ∧ 128 ≤ (s.getD (i + k) 0).toNat) := by
    intro c hc; exact ⟨hc, Nat.le_refl _, fun k h1 h2 => by simp at h2; omega⟩
  have herr : 128 ≤ Utf8.runeError := by decide
  have hcont : ∀ k, (decide (i + k < (ByteArray.mk s.toArray).size) && ((ByteArray.mk s.toArray).get! (i + k)).toNat / 64 == 2) = true → i + k < s.length ∧ 128 ≤ (s.getD (i + k) 0).toNat := by
    intro k h
    simp only [Bool.and_eq_true, decide_eq_true_eq, beq_iff_eq, size_bytes, get_bytes] at h
    exact ⟨h.1, by omega⟩
  unfold Utf8.decode
  simp only [e0]
  rw [if_neg (by omega)]
  split
  · rename_i h
    simp only [Bool.and_eq_true] at h
    split
    · rename_i hc
      refine ⟨hc, by omega, fun k h1 h2 => ?_⟩
      simp only at h2
      obtain rfl : k = 1 := by omega
      exact hcont 1 (by simpa using h.2)
    · exact hone herr
  · split
    · rename_i h
      simp only [Bool.and_eq_true] at h
      split
      · rename_i hc
        simp only [Bool.and_eq_true, decide_eq_true_eq] at hc
        refine ⟨by simp only; omega, by omega, fun k h1 h2 => ?_⟩
        simp only at h2
        rcases (show k = 1 ∨ k = 2 by omega) with rfl | rfl
        · exact hcont 1 (by simpa using h.1.2)
        · exact hcont 2 (by simpa using h.2)
      · exact hone herr
    · split
      · rename_i h
        simp only [Bool.and_eq_true] at h
        split
        · rename_i hc
          simp only [Bool.and_eq_true, decide_eq_true_eq] at hc
          refine ⟨by simp only; omega, by omega, fun k h1 h2 => ?_⟩
          simp only at h2
          rcases (show k = 1 ∨ k = 2 ∨ k = 3 by omega) with rfl | rfl | rfl
          · exact hcont 1 (by simpa using h.1.1.2)
          · exact hcont 2 (by simpa using h.1.2)
          · exact hcont 3 (by simpa using h.2)
        · exact hone herr
      · exact hone herr
theorem next_bd {s : List UInt8} {i : Nat} (hi : i < s.length) : i < nextP s i ∧ nextP s i ≤ s.length := by
  unfold nextP
  by_cases h : (s.getD i 0).toNat < 128
  · rw [dec_low h]; exact ⟨by simp, by simp; omega⟩
  · obtain ⟨_, h2, h3⟩ := dec_high hi (by omega)
    refine ⟨by omega, ?_⟩
    by_cases h4 : (Utf8.decode ⟨s.toArray⟩ i).2 = 1
    · omega
    · have := (h3 ((Utf8.decode ⟨s.toArray⟩ i).2 - 1) (by omega) (by omega)).1
      omega
theorem seek_step {τ : Type} [Inhabited τ] {n : Nat} {nxt : Nat → Nat} {bad : Nat → Bool} {t : τ} (hn : ∀ i, i < n → i < nxt i) {i : Nat} (h : i < n) :
    scanAt n nxt (fun i => bif bad i then some t else none) i = cond (bad i) (true, t) (scanAt n nxt (fun i => bif bad i then some t else none) (nxt i)) := by
  rw [scanAt_step hn h]; cases bad i <;> rfl
theorem seek_runes_bad {τ : Type} [Inhabited τ] (s : List UInt8) (badR badB : Nat → Bool) (t : τ) (hlow : ∀ i, i < s.length → (s.getD i 0).toNat < 128 → badR i = badB i) (hhigh : ∀ i, i < s.length → 128 ≤ (s.getD i 0).toNat → badR i = true ∧ badB i = true) :
    seek s.length (nextP s) badR t = seek s.length (· + 1) badB t := by
  have key : ∀ d i, s.length - i ≤ d → scanAt s.length (nextP s) (fun i => bif badR i then some t else none) i = scanAt s.length (· + 1) (fun i => bif badB i then some t else none) i := by
    intro d
    induction d with
    | zero => intro i hd; rw [scanAt_end _ _ _ (by omega), scanAt_end _ _ _ (by omega)]
    | succ d ih =>
      intro i hd
      by_cases h : i < s.length
      · rw [seek_step (fun i h => (next_bd h).1) h, seek_step (fun i _ => Nat.lt_succ_self i) h]
        by_cases hl : (s.getD i 0).toNat < 128
        · rw [hlow i h hl]
          have : nextP s i = i + 1 := by unfold nextP; rw [dec_low hl]
          rw [this, ih (i + 1) (by omega)]
        · obtain ⟨h1, h2⟩ := hhigh i h (by omega)
          rw [h1, h2]; rfl
      · rw [scanAt_end _ _ _ h, scanAt_end _ _ _ h]
  exact key s.length 0 (by omega)
theorem seek_runes_good {τ : Type} [Inhabited τ] (s : List UInt8) (badR badB : Nat → Bool) (t : τ) (hlow : ∀ i, i < s.length → (s.getD i 0).toNat < 128 → badR i = badB i) (hhigh : ∀ i, i < s.length → 128 ≤ (s.getD i 0).toNat → badR i = false ∧ badB i = false) :
    seek s.length (nextP s) badR t = seek s.length (· + 1) badB t := by
  have skip : ∀ k i, i + k ≤ s.length → (∀ j, j < k → 128 ≤ (s.getD (i + j) 0).toNat) → scanAt s.length (· + 1) (fun i => bif badB i then some t else none) i = scanAt s.length (· + 1) (fun i => bif badB i then some t else none) (i + k) := by
    intro k
    induction k with
    | zero => intro i _ _; rfl
    | succ k ih =>
      intro i hk hj
      have h : i < s.length := by omega
      rw [seek_step (fun i _ => Nat.lt_succ_self i) h, (hhigh i h (by have := hj 0 (by omega); simpa using this)).2]
      simp only [cond_false]
      rw [ih (i + 1) (by omega) (fun j hj' => by have := hj (j + 1) (by omega); rwa [show i + 1 + j = i + (j + 1) by omega])]
      congr 1; omega
  have key : ∀ d i, s.length - i ≤ d → scanAt s.length (nextP s) (fun i => bif badR i then some t else none) i = scanAt s.length (· + 1) (fun i => bif badB i then some t else none) i := by
    intro d
    induction d with
    | zero => intro i hd; rw [scanAt_end _ _ _ (by omega), scanAt_end _ _ _ (by omega)]
    | succ d ih =>
      intro i hd
      by_cases h : i < s.length
      · have hb := next_bd h
        rw [seek_step (fun i h => (next_bd h).1) h]
        by_cases hl : (s.getD i 0).toNat < 128
        · rw [seek_step (fun i _ => Nat.lt_succ_self i) h, hlow i h hl]
          have : nextP s i = i + 1 := by unfold nextP; rw [dec_low hl]
          rw [this, ih (i + 1) (by omega)]
        · obtain ⟨_, h2, h3⟩ := dec_high h (by omega)
          rw [(hhigh i h (by omega)).1]
          simp only [cond_false]
          rw [ih _ (by omega), skip (nextP s i - i) i (by omega) (fun j hj => by
            by_cases hz : j = 0
            · subst hz; rw [Nat.add_zero]; omega
            · exact (h3 j (by omega) (by unfold nextP at hj; omega)).2)]
          congr 1; omega
      · rw [scanAt_end _ _ _ h, scanAt_end _ _ _ h]
  exact key s.length 0 (by omega)
end Go.Ab

namespace Go.SH
open Go Go.Ab Go.Proofs
set_option linter.unusedVariables false
set_option linter.unusedSimpArgs false
theorem wordBad_high {i c : Nat} (h : 128 ≤ c) : wordBad i c = true := by
  unfold wordBad
  rw [decide_eq_true (show (c : Int) ≥ 97 by omega), decide_eq_false (show ¬ (c : Int) ≤ 122 by omega), decide_eq_true (show (c : Int) ≥ 48 by omega), decide_eq_false (show ¬ (c : Int) ≤ 57 by omega)]
  rw [show ((c : Int) != 45) = true by simp; omega, show ((c : Int) != 95) = true by simp; omega]
  cases ((i : Int) == 0) <;> rfl
theorem wordBad_prog (i c : Nat) : (bif !bif decide ((c : Int) ≥ 97) then decide ((c : Int) ≤ 122) else false then bif (i : Int) == 0 then true else bif bif bif decide ((c : Int) < 48) then true else decide ((c : Int) > 57) then (c : Int) != 45 else false then (c : Int) != 95 else false else false) = wordBad i c := by
  unfold wordBad
  have e1 : decide ((c : Int) < 48) = !decide ((c : Int) ≥ 48) := by
    by_cases h : (c : Int) ≥ 48
    · rw [decide_eq_true h, decide_eq_false (by omega)]; rfl
    · rw [decide_eq_false h, decide_eq_true (by omega)]; rfl
  have e2 : decide ((c : Int) > 57) = !decide ((c : Int) ≤ 57) := by
    by_cases h : (c : Int) ≤ 57
    · rw [decide_eq_true h, decide_eq_false (by omega)]; rfl
    · rw [decide_eq_false h, decide_eq_true (by omega)]; rfl
  rw [e1, e2]
  cases decide ((c : Int) ≥ 48) <;> cases decide ((c : Int) ≤ 57) <;> rfl
def keyBad (s : List UInt8) (i : Nat) : Bool := wordBad i (Utf8.decode ⟨s.toArray⟩ i).1
theorem keySeek_eq (s : List UInt8) : seek s.length (nextP s) (keyBad s) false = wordSeek s :=
  seek_runes_bad s (keyBad s) _ false (fun i hi hl => by unfold keyBad; rw [dec_low hl]) (fun i hi hh => ⟨wordBad_high (dec_high hi hh).1, wordBad_high hh⟩)
theorem key_ok (s : List UInt8) : Ct V.P V.G 65 [.str s] [] (φB (keyB s)) := by
  have ha := fun T L => loopOk_seek (X := V.run T 1 [] L [] 65)
    (f := 65) (p := [1, 1, 0, 1, 0]) (b := subC (bodyOf V.P 65) ([1, 1, 0, 1, 0] ++ [0])) (Sa s) s.length (nextP s) (keyBad s) false (retB 2) (fun k => k (.exit 0) { env := [(0, .str s)], objs := [] }) (by kernel_rfl) 0 (fun i h => next_bd h)
    (fun i h kn k => by rw [key_ra, bltT h, wordBad_prog]; rfl) (fun kn k => by
      have : Nat.blt s.length s.length = false := by
        cases e : Nat.blt s.length s.length with
        | false => rfl
        | true => exact absurd (ltB e) (Nat.lt_irrefl _)
      rw [key_ra, this]; rfl)
  have hb := fun T L => loopOk_seek (X := V.run T 1 [] L [] 65)
    (f := 65) (p := [1, 1, 1, 0, 1, 0]) (b := subC (bodyOf V.P 65) ([1, 1, 1, 0, 1, 0] ++ [0])) (Sb s resW) resW.length (· + 1) (fun i => resW.getD i [] == s) false (retB 2) (fun k => k (.exit 2) { env := [], objs := [] }) (by kernel_rfl) 0 (fun i h => ⟨by omega, by omega⟩)
    (fun i h kn k => by rw [key_rb, lt_true h, within_lt h, wrap_next h (by rw [resW_len]; omega), Int.toNat_natCast]; rfl) (fun kn k => by rw [key_rb, lt_false (Nat.lt_irrefl _)]; rfl)
  obtain ⟨h1, h2⟩ := seek_at (Sa s) s.length (nextP s) (keyBad s) false (Sa_inj s)
  obtain ⟨h3, h4⟩ := seek_at (Sb s resW) resW.length (· + 1) (fun i => resW.getD i [] == s) false (Sb_inj s resW)
  refine ct_loops (n := 0) (T := [ent1 109 [.str wordsS] resW φS]) mixed funcs (tabOk_cons (ent1_ok fields_ok) tabOk_nil) (loopsOk_cons (ha _ _) (loopsOk_cons (hb _ _) loopsOk_nil)) ?_
  refine (key_m (g1 [.str wordsS]) (v1 [.str wordsS] resW) _ _ _ _ 0 s h2 (t2 := resW) ?_ h4).trans ?_
  · exact v1_eq _ _
  · rw [keySeek_eq, h1]
    rw [show goodS (Sb s resW) (· ≤ resW.length) { env := [(0, .str s), (50, .sl .no 1 (List.length resW) fun j => [.str (List.getD resW j [])]), (51, .int .i64 (List.length resW : Nat)), (52, .int .i64 0)], objs := [] } = true from h3, g1_eq]
    unfold keyB φB wordB
    have hv : (resSeek s).1 = true → (resSeek s).2 = false := seek_val
    have hw : (wordSeek s).1 = true → (wordSeek s).2 = false := seek_val
    have e1 : decide ((s.length : Int) > 32) = !decide (s.length ≤ 32) := by
      by_cases h : s.length ≤ 32
      · rw [decide_eq_true h, decide_eq_false (by omega)]; rfl
      · rw [decide_eq_false h, decide_eq_true (by omega)]; rfl
    have e2 : decide ((s.length : Int) < 1) = !decide (0 < s.length) := by
      by_cases h : 0 < s.length
      · rw [decide_eq_true h, decide_eq_false (by omega)]; rfl
      · rw [decide_eq_false h, decide_eq_true (by omega)]; rfl
    rw [e1, e2, show seek resW.length (· + 1) (fun i => resW.getD i [] == s) false = resSeek s from rfl]
    cases decide (0 < s.length) <;> cases decide (s.length ≤ 32) <;> cases hr : (resSeek s).1 <;> cases hx : (wordSeek s).1 <;> simp [hr, hv, hx, hw]
end Go.SH

namespace Go.Ab
open Go Go.RowKit
theorem good_below {G : Nat → Option (List AV)} {c : Cx} {w' : World} (hg : Good G c) (hb : Below c.w.heap.size c.w w') : Good G { c with w := w' } := by
  have hcell : ∀ b o v, c.I b o → c.w.cell? ⟨b, o, none⟩ = some v → w'.cell? ⟨b, o, none⟩ = some v := fun b o v _ hv => by
    rw [World.cell?_block (hb.block b (lt_of_cell hv))]; exact hv
  refine ⟨fun b o hi => ?_, fun g cs h => (hg.globs g cs h).ext (ks := fun _ => False) ⟨hcell, fun _ _ h => h, fun _ h => h.elim, fun _ h => h.elim⟩ (by simp [AV.keys])⟩
  obtain ⟨v, hv⟩ := hg.there b o hi
  exact ⟨v, hcell b o v hi hv⟩
theorem ct_of_below {P : Program} {G : Nat → Option (List AV)} {f : FuncId} {l : List AV} {r : AV} {x : Value} (hx : ∀ c, Rep c r x) (hk : r.keys = [])
    (hfn : ∃ fn, P.funcs[f]? = some fn ∧ (fn.name == "runtime.NumGoroutine") = false ∧ fn.body.isSome = true)
    (h : ∀ (c : Cx) (vs : Array Value), Good G c → vs.size = l.length → (∀ (i : Nat) (u : AV), l[i]? = some u → Rep c u (vs.getD i undef)) → Calls P f vs c.w fun e w' => e = .returned x ∧ Below c.w.heap.size c.w w') :
    Ct P G f l [] (r, []) := by
  refine ⟨fun c0 vs hg ho hs hr _ => (h c0 vs hg hs hr).mono ?_, hfn⟩
  rintro e w' ⟨rfl, hb⟩
  refine ⟨{ c0 with w := w' }, x, rfl, rfl, good_below hg hb, ⟨hb.os, hb.output, hb.tape, hb.size, fun b hb' _ => hb.block b hb', ?_, fun _ _ _ _ hi => hi⟩, ?_, hx _, fun k hk' => by rw [hk] at hk'; simp at hk', fun k o b ho' => by simp [enterObjs, alook] at ho'⟩
  · exact ⟨fun b o v _ hv => by show w'.cell? _ = _; rw [World.cell?_block (hb.block b (lt_of_cell hv))]; exact hv, fun _ _ h => h, fun _ _ => rfl, fun _ _ _ _ h => h⟩
  · exact ⟨fun k o h => by simp [enterObjs, alook] at h, fun k o k' o' b h => by simp [enterObjs, alook] at h, fun k o h => by simp [enterObjs, alook] at h⟩
end Go.Ab

namespace Go.SH
open Go Go.Ab Go.Proofs
set_option linter.unusedVariables false
set_option linter.unusedSimpArgs false
def Sv (s : List UInt8) (i : Nat) : St := { env := [(14, .ref 14 0)], objs := [(14, .iter s i)] }
set_option maxRecDepth 100000 in
theorem valid_r (T : List Ent) (L : List (List Nat × Orc)) (m : Nat) (s : List UInt8) (i : Nat) (kn : St → Res) (k : Ex → St → Res)  : roundR (V.run T 1 [] L [] 66) 66 m [1, 1, 0, 1, 0] (Sv s i) kn k =
  cond (Nat.blt i (List.length s)) (cond (bif decide ((↑(Prod.fst (Utf8.decode { data := List.toArray s } i)) : Int) < 32) then true else (↑(Prod.fst (Utf8.decode { data := List.toArray s } i)) : Int) == 127) (k (.ret) ({ env := [(2, .bool false)], objs := [] })) (kn (Sv s (nextP s i)))) (k (.exit 0) ({ env := [], objs := [] })) := by kernel_rfl
set_option maxRecDepth 100000 in
theorem valid_m (gu : List AV → List AO → Bool) (vu : List AV → List AO → Bool) (g : St → Bool) (v : St → Bool × Bool) (m : Nat) (s : List UInt8) {t1 : Bool × Bool} (h_t1 : v (Sv s 0) = t1) : runF (V.run [mkE 110 gu vu φB] 1 [] [([1, 1, 0, 1, 0], mkO g v (outB (retB 2) fun k => k (.exit 0) { env := [], objs := [] }))] [] 66) m 66 [.str s] [] =
  cond (gu [.str s] []) (cond (bif decide ((↑(List.length s) : Int) > 200) then true else !vu [.str s] []) (some ((.bool false, []))) (cond (g (Sv s 0)) (cond (Prod.fst t1) (some ((.bool (Prod.snd t1), []))) (some ((.bool true, [])))) (none))) (none) := by subst h_t1; kernel_rfl
set_option maxRecDepth 100000 in
theorem rvalid_r (T : List Ent) (L : List (List Nat × Orc)) (m : Nat) (s : List UInt8) (i : Nat) (kn : St → Res) (k : Ex → St → Res)  : roundR (V.run T 1 [] L [] 68) 68 m [1, 1, 0, 1, 0] (Sw s i) kn k =
  cond (decide ((↑i : Int) < (↑(List.length s) : Int))) (cond (within (↑i : Int) (List.length s)) (cond (bif within (↑i : Int) (List.length s) then true else !bif decide ((↑(UInt8.toNat (List.getD s (Int.toNat (↑i : Int)) 0)) : Int) < 32) == false then true else false) (cond (bif decide ((↑(UInt8.toNat (List.getD s (Int.toNat (↑i : Int)) 0)) : Int) < 32) then true else (↑(UInt8.toNat (List.getD s (Int.toNat (↑i : Int)) 0)) : Int) == 127) (k (.ret) ({ env := [(2, .bool false)], objs := [] })) (kn ({ env := [(0, .str s), (3, .int .i64 (IntKind.wrap IntKind.i64 ((↑i : Int) + 1)))], objs := [] }))) (none)) (none)) (k (.exit 0) ({ env := [], objs := [] })) := by kernel_rfl
set_option maxRecDepth 100000 in
theorem rvalid_m (gu : List AV → List AO → Bool) (vu : List AV → List AO → Bool) (g : St → Bool) (v : St → Bool × Bool) (m : Nat) (s : List UInt8) {t1 : Bool × Bool} (h_t1 : v (Sw s 0) = t1) : runF (V.run [mkE 110 gu vu φB] 1 [] [([1, 1, 0, 1, 0], mkO g v (outB (retB 2) fun k => k (.exit 0) { env := [], objs := [] }))] [] 68) m 68 [.str s] [] =
  cond (gu [.str s] []) (cond (bif decide ((↑(List.length s) : Int) > 200) then true else !vu [.str s] []) (some ((.bool false, []))) (cond (g (Sw s 0)) (cond (Prod.fst t1) (some ((.bool (Prod.snd t1), []))) (some ((.bool true, [])))) (none))) (none) := by subst h_t1; kernel_rfl
def utfB (s : List UInt8) : Bool := Lib.validD s
def ctrl (c : Nat) : Bool := bif decide ((c : Int) < 32) then true else (c : Int) == 127
def ctrlSeek (s : List UInt8) : Bool × Bool := seek s.length (· + 1) (fun i => ctrl (s.getD i 0).toNat) false
def validB (s : List UInt8) : Bool := decide (s.length ≤ 200) && (utfB s && !(ctrlSeek s).1)
theorem ctrl_high {c : Nat} (h : 128 ≤ c) : ctrl c = false := by
  unfold ctrl
  rw [decide_eq_false (show ¬ (c : Int) < 32 by omega)]
  simp; omega
def ctrlR (s : List UInt8) (i : Nat) : Bool := ctrl (Utf8.decode ⟨s.toArray⟩ i).1
theorem ctrlSeek_eq (s : List UInt8) : seek s.length (nextP s) (ctrlR s) false = ctrlSeek s :=
  seek_runes_good s (ctrlR s) _ false (fun i hi hl => by unfold ctrlR; rw [dec_low hl]) (fun i hi hh => ⟨ctrl_high (dec_high hi hh).1, ctrl_high hh⟩)
theorem Sv_inj (s : List UInt8) (i j : Nat) (h : Sv s i = Sv s j) : i = j := by
  simp only [Sv, St.mk.injEq, List.cons.injEq, Prod.mk.injEq, AO.iter.injEq, and_true, true_and] at h; exact h
theorem len200 (s : List UInt8) : decide ((s.length : Int) > 200) = !decide (s.length ≤ 200) := by
  by_cases h : s.length ≤ 200
  · rw [decide_eq_true h, decide_eq_false (by omega)]; rfl
  · rw [decide_eq_false h, decide_eq_true (by omega)]; rfl
theorem blt_irrefl (n : Nat) : Nat.blt n n = false := by
  cases e : Nat.blt n n with
  | false => rfl
  | true => exact absurd (ltB e) (Nat.lt_irrefl _)
section
variable (hu : ∀ s : List UInt8, s.length ≤ maxS → Ct V.P V.G 110 [.str s] [] (φB (utfB s)))
include hu
theorem valid_ok (s : List UInt8) (hs : s.length ≤ maxS) : Ct V.P V.G 66 [.str s] [] (φB (validB s)) := by
  have hl := fun T L => loopOk_seek (X := V.run T 1 [] L [] 66)
    (f := 66) (p := [1, 1, 0, 1, 0]) (b := subC (bodyOf V.P 66) ([1, 1, 0, 1, 0] ++ [0])) (Sv s) s.length (nextP s) (ctrlR s) false (retB 2) (fun k => k (.exit 0) { env := [], objs := [] }) (by kernel_rfl) 0 (fun i h => next_bd h)
    (fun i h kn k => by rw [valid_r, bltT h]; rfl) (fun kn k => by rw [valid_r, blt_irrefl]; rfl)
  obtain ⟨h1, h2⟩ := seek_at (Sv s) s.length (nextP s) (ctrlR s) false (Sv_inj s)
  refine ct_loops (n := 0) (T := [ent1 110 [.str s] (utfB s) φB]) mixed funcs (tabOk_cons (ent1_ok (hu s hs)) tabOk_nil) (loopsOk_cons (hl _ _) loopsOk_nil) ?_
  refine (valid_m (g1 [.str s]) (v1 [.str s] (utfB s)) _ _ 0 s h2).trans ?_
  rw [g1_eq, v1_eq, h1, ctrlSeek_eq, len200]
  unfold validB φB
  have hv : (ctrlSeek s).1 = true → (ctrlSeek s).2 = false := seek_val
  cases decide (s.length ≤ 200) <;> cases utfB s <;> cases hr : (ctrlSeek s).1 <;> simp [hr, hv]
theorem rvalid_ok (s : List UInt8) (hs : s.length ≤ maxS) : Ct V.P V.G 68 [.str s] [] (φB (validB s)) := by
  have hm : s.length ≤ 4611686018427387904 := hs
  have hl := fun T L => loopOk_seek (X := V.run T 1 [] L [] 68)
    (f := 68) (p := [1, 1, 0, 1, 0]) (b := subC (bodyOf V.P 68) ([1, 1, 0, 1, 0] ++ [0])) (Sw s) s.length (· + 1) (fun i => ctrl (s.getD i 0).toNat) false (retB 2) (fun k => k (.exit 0) { env := [], objs := [] }) (by kernel_rfl) 0 (fun i h => ⟨by omega, by omega⟩)
    (fun i h kn k => by rw [rvalid_r, lt_true h, within_lt h, wrap_next h hm, Int.toNat_natCast]; rfl) (fun kn k => by rw [rvalid_r, lt_false (Nat.lt_irrefl _)]; rfl)
  obtain ⟨h1, h2⟩ := seek_at (Sw s) s.length (· + 1) (fun i => ctrl (s.getD i 0).toNat) false (Sw_inj s)
  refine ct_loops (n := 0) (T := [ent1 110 [.str s] (utfB s) φB]) mixed funcs (tabOk_cons (ent1_ok (hu s hs)) tabOk_nil) (loopsOk_cons (hl _ _) loopsOk_nil) ?_
  refine (rvalid_m (g1 [.str s]) (v1 [.str s] (utfB s)) _ _ 0 s h2).trans ?_
  rw [g1_eq, v1_eq, show goodS (Sw s) (· ≤ s.length) (Sw s 0) = true from h1, len200]
  rw [show seek s.length (· + 1) (fun i => ctrl (s.getD i 0).toNat) false = ctrlSeek s from rfl]
  unfold validB φB
  have hv : (ctrlSeek s).1 = true → (ctrlSeek s).2 = false := seek_val
  cases decide (s.length ≤ 200) <;> cases utfB s <;> cases hr : (ctrlSeek s).1 <;> simp [hr, hv]
end
end Go.SH

namespace Go.SH
open Go Go.Ab Go.Proofs
set_option linter.unusedVariables false
set_option linter.unusedSimpArgs false
def rngC (r : Int × Int × Int) : List AV := [.int .i64 r.1, .int .i64 r.2.1, .int .i64 r.2.2]
def rngL (l : List (Int × Int × Int)) : AV := .sl .no 3 l.length fun j => rngC (l.getD j (0, 0, 0))
def spnC (r : Int × Int) : List AV := [.int .i64 r.1, .int .i64 r.2]
def spnL (l : List (Int × Int)) : AV := .sl .no 2 l.length fun j => spnC (l.getD j (0, 0))
def φE (e : Int) : AV × List AO := (.int .i64 e, [])
def Ss (l : List (Int × Int × Int)) (n : Int) (r : Int × Int × Int) (i : Nat) : St := { env := [(1, .int .i64 n), (5, .ref 5 0), (12, rngL l), (13, .int .i64 l.length), (14, .int .i64 i)], objs := [(5, .cells (rngC r))] }
def Sq (l : List (Int × Int × Int)) (n : Int) (at' : Int) (i : Nat) : St := { env := [(0, rngL l), (1, .int .i64 n), (5, .int .i64 at'), (6, .int .i64 i)], objs := [] }
def Sp (l : List (Int × Int)) (i : Nat) : St := { env := [(0, spnL l), (8, spnL l), (9, .int .i64 l.length), (10, .int .i64 i)], objs := [] }
def Sp' (l : List (Int × Int)) (i : Nat) : St := { env := [(0, spnL l), (3, .int .i64 i)], objs := [] }
def prevR (l : List (Int × Int × Int)) (i : Nat) : Int × Int × Int := if i = 0 then (0, 0, 0) else l.getD (i - 1) (0, 0, 0)
def splitStop (l : List (Int × Int × Int)) (n : Int) (i : Nat) : Option Int :=
  bif decide ((l.getD i (0, 0, 0)).2.2 < 1) || decide ((l.getD i (0, 0, 0)).2.2 > n) then some 3 else
  bif (l.getD i (0, 0, 0)).1 != (prevR l i).2.1 || (decide ((l.getD i (0, 0, 0)).2.1 ≤ (l.getD i (0, 0, 0)).1) || (l.getD i (0, 0, 0)).2.2 == (prevR l i).2.2) then some 9 else none
def splitSeek (l : List (Int × Int × Int)) (n : Int) : Bool × Int := scanAt l.length (· + 1) (splitStop l n) 0
def splitE (l : List (Int × Int × Int)) (n : Int) : Int :=
  bif decide (l.length > 16) then 5 else bif (splitSeek l n).1 then (splitSeek l n).2 else bif (prevR l l.length).2.1 != 10000 then 3 else 0
theorem scan_start {τ : Type} [Inhabited τ] (S : Nat → St) (n : Nat) (nxt : Nat → Nat) (stop : Nat → Option τ) (hi : ∀ i j, S i = S j → i = j) :
    goodS S (· ≤ n) (S 0) = true ∧ valS S (· ≤ n) (scanAt n nxt stop) (S 0) = scanAt n nxt stop 0 :=
  ⟨goodS_eq (Nat.zero_le _), valS_eq (fun a b _ _ h => by rw [hi a b h]) (Nat.zero_le _)⟩
theorem gt_cast (n k : Nat) : decide ((n : Int) > (k : Int)) = decide (n > k) := by
  by_cases h : n > k
  · rw [decide_eq_true h, decide_eq_true (by omega)]
  · rw [decide_eq_false h, decide_eq_false (by omega)]
theorem prev_in {i n : Nat} (h : i < n) (hm : n ≤ 4611686018427387904) (h0 : i ≠ 0) : within (IntKind.wrap .i64 ((i : Int) - 1)) n = true ∧ Int.toNat (IntKind.wrap .i64 ((i : Int) - 1)) = i - 1 ∧ decide ((i : Int) > 0) = true := by
  rw [wrap_i64 (by omega) (by omega)]
  exact ⟨within_of (by omega) (by omega), by omega, decide_eq_true (by omega)⟩
theorem zero_gt : decide (((0 : Nat) : Int) > 0) = false := rfl
def spanStop (l : List (Int × Int)) (i : Nat) : Option Int :=
  bif decide ((l.getD i (0, 0)).1 < 0) || (decide ((l.getD i (0, 0)).1 ≥ (l.getD i (0, 0)).2) || decide ((l.getD i (0, 0)).2 > 10000)) then some 3 else
  bif decide (i > 0) && decide ((l.getD i (0, 0)).1 ≤ (l.getD (i - 1) (0, 0)).2) then some 9 else none
def spanSeek (l : List (Int × Int)) : Bool × Int := scanAt l.length (· + 1) (spanStop l) 0
def spansE (l : List (Int × Int)) : Int := bif decide (l.length > 16) then 5 else bif (spanSeek l).1 then (spanSeek l).2 else 0
end Go.SH

namespace Go.SH
open Go Go.Ab Go.Proofs
set_option linter.unusedVariables false
set_option linter.unusedSimpArgs false
def Sm (l : List (List UInt8)) (i : Nat) : St := { env := [(0, strsA l), (8, strsA l), (9, .int .i64 l.length), (10, .int .i64 i)], objs := [] }
def Sm' (l : List (List UInt8)) (i : Nat) : St := { env := [(0, strsA l), (3, .int .i64 i)], objs := [] }
abbrev UtfOk : Prop := ∀ s : List UInt8, s.length ≤ maxS → Ct V.P V.G 110 [.str s] [] (φB (utfB s))
def strA (s : List UInt8) : List AV := [.str s]
def lenS (s : List UInt8) : Prop := s.length ≤ maxS
theorem strA_inj {τ : Type} (w : List UInt8 → τ) (a b : List UInt8) (h : strA a = strA b) : w a = w b := by
  simp only [strA, List.cons.injEq, AV.str.injEq, and_true] at h; rw [h]
noncomputable abbrev gS : List AV → List AO → Bool := gF strA lenS
noncomputable abbrev vS (w : List UInt8 → Bool) : List AV → List AO → Bool := vF strA lenS w
theorem gS_eq {s : List UInt8} (h : lenS s) : gS [.str s] [] = true := gF_eq (A := strA) h
theorem vS_eq (w : List UInt8 → Bool) {s : List UInt8} (h : lenS s) : vS w [.str s] [] = w s := vF_eq (A := strA) (strA_inj w) h
def strsOk (l : List (List UInt8)) : Prop := l.length ≤ 4611686018427387904 ∧ ∀ s ∈ l, lenS s
theorem strsOk.at {l : List (List UInt8)} (h : strsOk l) {i : Nat} (hi : i < l.length) : lenS (l.getD i []) := by
  rw [List.getD_eq_getElem?_getD, List.getElem?_eq_getElem hi]
  exact h.2 _ (List.getElem_mem hi)
def memStop (l : List (List UInt8)) (i : Nat) : Option Int :=
  bif (l.getD i [] == []) || !validB (l.getD i []) then some 2 else
  bif decide (i > 0) && (bytesLt (l.getD i []) (l.getD (i - 1) []) || l.getD i [] == l.getD (i - 1) []) then some 9 else none
def memSeek (l : List (List UInt8)) : Bool × Int := scanAt l.length (· + 1) (memStop l) 0
def memE (l : List (List UInt8)) : Int := bif decide (l.length > 40) then 5 else bif (memSeek l).1 then (memSeek l).2 else 0
section
variable (hu : UtfOk)
include hu
end
end Go.SH

namespace Go.Proofs
open Go.Shelf
def Tryz.lays196_ren : Go.Shelf.Ren := ⟨fun | 196 => 110 | 259 => 131 | n => n, fun | 9 => 9 | 4 => 4 | 3 => 3 | 5 => 5 | 12 => 12 | 119 => 179 | 0 => 0 | 46 => 186 | 139 => 185 | 138 => 184 | 53 => 215 | n => n, fun | 3 => 4 | 4 => 5 | n => n⟩
theorem Tryz.lays196 : Go.Proofs.Lays.n196 Tryz.prog Tryz.lays196_ren := {
  mixed := by kernel_rfl
  f196 := Tryz.func110.trans (congrArg some (by kernel_rfl))
  f259 := Tryz.func131.trans (congrArg some (by kernel_rfl))
  t0 := Tryz.underlying0
  a0 := Tryz.isAgg0
  z0 := Tryz.sizeOf0
  v0 := Tryz.zeroValue0
  t3 := Tryz.underlying3
  a3 := Tryz.isAgg3
  z3 := Tryz.sizeOf3
  v3 := Tryz.zeroValue3
  t4 := Tryz.underlying4
  a4 := Tryz.isAgg4
  z4 := Tryz.sizeOf4
  v4 := Tryz.zeroValue4
  t5 := Tryz.underlying5
  a5 := Tryz.isAgg5
  z5 := Tryz.sizeOf5
  v5 := Tryz.zeroValue5
  t9 := Tryz.underlying9
  a9 := Tryz.isAgg9
  z9 := Tryz.sizeOf9
  v9 := Tryz.zeroValue9
  t12 := Tryz.underlying12
  a12 := Tryz.isAgg12
  z12 := Tryz.sizeOf12
  v12 := Tryz.zeroValue12
  t46 := Tryz.underlying186
  a46 := Tryz.isAgg186
  z46 := Tryz.sizeOf186
  v46 := Tryz.zeroValue186
  t53 := Tryz.underlying215
  a53 := Tryz.isAgg215
  z53 := Tryz.sizeOf215
  v53 := Tryz.zeroValue215
  t119 := Tryz.underlying179
  a119 := Tryz.isAgg179
  z119 := Tryz.sizeOf179
  t138 := Tryz.underlying184
  a138 := Tryz.isAgg184
  z138 := Tryz.sizeOf184
  v138 := Tryz.zeroValue184
  t139 := Tryz.underlying185
  a139 := Tryz.isAgg185
  z139 := Tryz.sizeOf185
  v139 := Tryz.zeroValue185
  g3 := by kernel_rfl
  g4 := by kernel_rfl }
open Go.RowKit in
theorem Tryz.utf8_ValidString (s : ByteArray) (w : World) (hs : s.size ≤ 9223372036854775807) (hT : Lib.Utf8Tabs 4 5 w) :
    Calls Tryz.prog 110 #[.string s] w fun e w' => e = .returned (.bool (Lib.validD s.data.toList)) ∧ Below w.heap.size w w' := Any.utf8_ValidString Tryz.lays196 s w hs hT
end Go.Proofs

namespace Go.SH
open Go Go.Ab Go.Proofs Go.RowKit
theorem firstCells : globs 4 = some ((List.range 256).map fun c => AV.int .u8 (Lib.firstT c)) := by kernel_rfl
theorem acceptCells : globs 5 = some ((List.range 32).map fun j => AV.int .u8 (if j % 2 = 0 then (Lib.accLo (j / 2) : Int) else Lib.accHi (j / 2))) := by kernel_rfl
theorem glob_cell {c : Cx} (hg : Ab.Good V.G c) {g : Nat} {cs : List AV} (h : globs g = some cs) {i : Nat} {k : IntKind} {z : Int} (hi : cs[i]? = some (.int k z)) :
    c.w.cell? ⟨g, i, none⟩ = some (.int k z) := by
  have h1 := hg.globs g cs h
  generalize hp : Value.pointer (some ⟨g, 0, none⟩) = p at h1
  cases h1 with
  | elt cs off b o vals hl hc hr =>
    simp only [Value.pointer.injEq, Option.some.injEq, Addr.mk.injEq, and_true] at hp
    obtain ⟨rfl, h0⟩ := hp
    have h2 := (hc i _ hi).2.1
    have h3 : vals i = .int k z := by
      have h4 := hr i _ hi
      generalize vals i = w at h4 ⊢
      cases h4; rfl
    have h0' : o = 0 := by omega
    rw [h3, h0', Nat.zero_add] at h2
    exact h2
theorem utf8Tabs {c : Cx} (hg : Ab.Good V.G c) : Lib.Utf8Tabs 4 5 c.w := by
  refine ⟨fun i hi => ?_, fun i hi => ⟨?_, ?_⟩⟩
  · exact glob_cell hg firstCells (by rw [List.getElem?_map, List.getElem?_range hi]; rfl)
  · refine glob_cell hg acceptCells ?_
    rw [List.getElem?_map, List.getElem?_range (by omega)]
    simp only [Option.map_some, Nat.mul_mod_right, if_true, Nat.mul_div_cancel_left i (show 0 < 2 by omega)]
  · refine glob_cell hg acceptCells ?_
    rw [List.getElem?_map, List.getElem?_range (by omega)]
    simp only [Option.map_some]
    rw [if_neg (by omega), show (2 * i + 1) / 2 = i by omega]
theorem rep_str {c : Cx} {s : List UInt8} {v : Value} (h : Rep c (.str s) v) : v = .string ⟨s.toArray⟩ := by cases h; rfl
theorem arr1 {vs : Array Value} {v : Value} (hs : vs.size = 1) (h : vs.getD 0 undef = v) : vs = #[v] := by
  apply Array.ext
  · simpa using hs
  · intro i h1 h2
    have : i = 0 := by omega
    subst this
    rw [← h]; simp [Array.getD, h1]
theorem utfOk : UtfOk := fun s hs => by
  refine ct_of_below (x := .bool (utfB s)) (fun c => .bool _) rfl ?_ fun c vs hg hsz hr => ?_
  · exact ⟨_, Tryz.func110, by kernel_rfl, by kernel_rfl⟩
  · have h1 := arr1 hsz (rep_str (hr 0 _ rfl))
    subst h1
    exact (Tryz.utf8_ValidString ⟨s.toArray⟩ c.w (by have h2 := hs; unfold maxS at h2; show s.toArray.size ≤ _; rw [List.size_toArray]; omega) (utf8Tabs hg)).mono fun e w' h => by
      simpa [utfB] using h
end Go.SH

namespace Go.Proofs
open Go.Shelf
def Tryz.laysC172_ren : Go.Shelf.Ren := ⟨fun | 172 => 156 | 244 => 183 | 245 => 184 | 247 => 198 | 279 => 199 | 280 => 200 | 281 => 201 | 282 => 202 | 287 => 212 | 316 => 213 | 171 => 215 | 205 => 214 | 321 => 219 | 322 => 220 | 243 => 221 | 246 => 223 | 283 => 224 | 284 => 225 | 285 => 226 | 286 => 227 | 129 => 229 | 317 => 228 | 318 => 230 | 319 => 231 | 320 => 232 | 337 => 233 | 338 => 234 | n => n, fun | 9 => 9 | 3 => 3 | 75 => 219 | 76 => 220 | 4 => 4 | 5 => 5 | 167 => 265 | 37 => 26 | 0 => 0 | 85 => 266 | 2 => 2 | 168 => 268 | 53 => 215 | 175 => 277 | 46 => 186 | 210 => 281 | 127 => 288 | 145 => 291 | 143 => 289 | 21 => 21 | 171 => 294 | 173 => 297 | 212 => 300 | 51 => 212 | 20 => 20 | 213 => 301 | 232 => 304 | 233 => 305 | 80 => 102 | n => n, fun | 15 => 8 | 16 => 9 | 17 => 10 | 18 => 11 | 19 => 12 | n => n⟩
theorem Tryz.laysC172 : Go.Proofs.LaysC.n172 Tryz.prog Tryz.laysC172_ren := {
  mixed := by kernel_rfl
  f129 := Tryz.func229.trans (congrArg some (by kernel_rfl))
  f171 := Tryz.func215.trans (congrArg some (by kernel_rfl))
  f172 := Tryz.func156.trans (congrArg some (by kernel_rfl))
  f205 := Tryz.func214.trans (congrArg some (by kernel_rfl))
  f243 := Tryz.func221.trans (congrArg some (by kernel_rfl))
  f244 := Tryz.func183.trans (congrArg some (by kernel_rfl))
  f245 := Tryz.func184.trans (congrArg some (by kernel_rfl))
  f246 := Tryz.func223.trans (congrArg some (by kernel_rfl))
  f247 := Tryz.func198.trans (congrArg some (by kernel_rfl))
  f279 := Tryz.func199.trans (congrArg some (by kernel_rfl))
  f280 := Tryz.func200.trans (congrArg some (by kernel_rfl))
  f281 := Tryz.func201.trans (congrArg some (by kernel_rfl))
  f282 := Tryz.func202.trans (congrArg some (by kernel_rfl))
  f283 := Tryz.func224.trans (congrArg some (by kernel_rfl))
  f284 := Tryz.func225.trans (congrArg some (by kernel_rfl))
  f285 := Tryz.func226.trans (congrArg some (by kernel_rfl))
  f286 := Tryz.func227.trans (congrArg some (by kernel_rfl))
  f287 := Tryz.func212.trans (congrArg some (by kernel_rfl))
  f316 := Tryz.func213.trans (congrArg some (by kernel_rfl))
  f317 := Tryz.func228.trans (congrArg some (by kernel_rfl))
  f318 := Tryz.func230.trans (congrArg some (by kernel_rfl))
  f319 := Tryz.func231.trans (congrArg some (by kernel_rfl))
  f320 := Tryz.func232.trans (congrArg some (by kernel_rfl))
  f321 := Tryz.func219.trans (congrArg some (by kernel_rfl))
  f322 := Tryz.func220.trans (congrArg some (by kernel_rfl))
  f337 := Tryz.func233.trans (congrArg some (by kernel_rfl))
  f338 := Tryz.func234.trans (congrArg some (by kernel_rfl))
  t0 := Tryz.underlying0
  a0 := Tryz.isAgg0
  z0 := Tryz.sizeOf0
  v0 := Tryz.zeroValue0
  t2 := Tryz.underlying2
  a2 := Tryz.isAgg2
  z2 := Tryz.sizeOf2
  v2 := Tryz.zeroValue2
  t3 := Tryz.underlying3
  a3 := Tryz.isAgg3
  z3 := Tryz.sizeOf3
  v3 := Tryz.zeroValue3
  t4 := Tryz.underlying4
  a4 := Tryz.isAgg4
  z4 := Tryz.sizeOf4
  v4 := Tryz.zeroValue4
  t5 := Tryz.underlying5
  a5 := Tryz.isAgg5
  z5 := Tryz.sizeOf5
  v5 := Tryz.zeroValue5
  t9 := Tryz.underlying9
  a9 := Tryz.isAgg9
  z9 := Tryz.sizeOf9
  v9 := Tryz.zeroValue9
  t20 := Tryz.underlying20
  a20 := Tryz.isAgg20
  z20 := Tryz.sizeOf20
  v20 := Tryz.zeroValue20
  t21 := Tryz.underlying21
  a21 := Tryz.isAgg21
  z21 := Tryz.sizeOf21
  v21 := Tryz.zeroValue21
  t37 := Tryz.underlying26
  a37 := Tryz.isAgg26
  z37 := Tryz.sizeOf26
  v37 := Tryz.zeroValue26
  t46 := Tryz.underlying186
  a46 := Tryz.isAgg186
  z46 := Tryz.sizeOf186
  v46 := Tryz.zeroValue186
  t51 := Tryz.underlying212
  a51 := Tryz.isAgg212
  z51 := Tryz.sizeOf212
  v51 := Tryz.zeroValue212
  t53 := Tryz.underlying215
  a53 := Tryz.isAgg215
  z53 := Tryz.sizeOf215
  v53 := Tryz.zeroValue215
  t75 := Tryz.underlying219
  a75 := Tryz.isAgg219
  z75 := Tryz.sizeOf219
  v75 := Tryz.zeroValue219
  t76 := Tryz.underlying220
  a76 := Tryz.isAgg220
  z76 := Tryz.sizeOf220
  v76 := Tryz.zeroValue220
  t85 := Tryz.underlying266
  a85 := Tryz.isAgg266
  z85 := Tryz.sizeOf266
  v85 := Tryz.zeroValue266
  t127 := Tryz.underlying288
  a127 := Tryz.isAgg288
  z127 := Tryz.sizeOf288
  v127 := Tryz.zeroValue288
  t143 := Tryz.underlying289
  a143 := Tryz.isAgg289
  z143 := Tryz.sizeOf289
  v143 := Tryz.zeroValue289
  t145 := Tryz.underlying291
  a145 := Tryz.isAgg291
  z145 := Tryz.sizeOf291
  v145 := Tryz.zeroValue291
  t167 := Tryz.underlying265
  a167 := Tryz.isAgg265
  z167 := Tryz.sizeOf265
  v167 := Tryz.zeroValue265
  t168 := Tryz.underlying268
  a168 := Tryz.isAgg268
  z168 := Tryz.sizeOf268
  v168 := Tryz.zeroValue268
  t171 := Tryz.underlying294
  a171 := Tryz.isAgg294
  z171 := Tryz.sizeOf294
  v171 := Tryz.zeroValue294
  t173 := Tryz.underlying297
  a173 := Tryz.isAgg297
  z173 := Tryz.sizeOf297
  v173 := Tryz.zeroValue297
  t175 := Tryz.underlying277
  a175 := Tryz.isAgg277
  z175 := Tryz.sizeOf277
  v175 := Tryz.zeroValue277
  t210 := Tryz.underlying281
  a210 := Tryz.isAgg281
  z210 := Tryz.sizeOf281
  v210 := Tryz.zeroValue281
  t212 := Tryz.underlying300
  a212 := Tryz.isAgg300
  z212 := Tryz.sizeOf300
  v212 := Tryz.zeroValue300
  t213 := Tryz.underlying301
  a213 := Tryz.isAgg301
  z213 := Tryz.sizeOf301
  t232 := Tryz.underlying304
  a232 := Tryz.isAgg304
  z232 := Tryz.sizeOf304
  v232 := Tryz.zeroValue304
  t233 := Tryz.underlying305
  a233 := Tryz.isAgg305
  z233 := Tryz.sizeOf305
  v233 := Tryz.zeroValue305
  g15 := by kernel_rfl
  g16 := by kernel_rfl
  g17 := by kernel_rfl
  g18 := by kernel_rfl
  g19 := by kernel_rfl
  t80 := Tryz.underlying102
  a80 := Tryz.isAgg102
  z80 := Tryz.sizeOf102
  v80 := Tryz.zeroValue102
  i0 := by kernel_rfl
  i2 := by kernel_rfl
  i3 := by kernel_rfl
  i4 := by kernel_rfl
  i5 := by kernel_rfl
  i9 := by kernel_rfl
  i20 := by kernel_rfl
  i21 := by kernel_rfl
  i37 := by kernel_rfl
  i46 := by kernel_rfl
  i51 := by kernel_rfl
  i53 := by kernel_rfl
  i75 := by kernel_rfl
  i76 := by kernel_rfl
  i80 := by kernel_rfl
  i85 := by kernel_rfl
  i127 := by kernel_rfl
  i143 := by kernel_rfl
  i145 := by kernel_rfl
  i167 := by kernel_rfl
  i168 := by kernel_rfl
  i171 := by kernel_rfl
  i173 := by kernel_rfl
  i175 := by kernel_rfl
  i210 := by kernel_rfl
  i212 := by kernel_rfl
  i232 := by kernel_rfl
  i233 := by kernel_rfl
  m15 := by kernel_rfl
  m16 := by kernel_rfl
  m17 := by kernel_rfl
  m18 := by kernel_rfl
  m19 := by kernel_rfl
  c0 := by kernel_rfl
  c2 := by kernel_rfl
  c3 := by kernel_rfl
  c4 := by kernel_rfl
  c5 := by kernel_rfl
  c9 := by kernel_rfl
  c20 := by kernel_rfl
  c21 := by kernel_rfl
  c37 := by kernel_rfl
  c46 := by kernel_rfl
  c51 := by kernel_rfl
  c53 := by kernel_rfl
  c75 := by kernel_rfl
  c76 := by kernel_rfl
  c80 := by kernel_rfl
  c85 := by kernel_rfl
  c127 := by kernel_rfl
  c143 := by kernel_rfl
  c145 := by kernel_rfl
  c167 := by kernel_rfl
  c168 := by kernel_rfl
  c171 := by kernel_rfl
  c173 := by kernel_rfl
  c175 := by kernel_rfl
  c210 := by kernel_rfl
  c212 := by kernel_rfl
  c213 := by kernel_rfl
  c232 := by kernel_rfl
  c233 := by kernel_rfl }
open Go.RowKit in
theorem Tryz.strconv_Atoi_ok (s : ByteArray) (hmax : s.size ≤ 9223372036854775806) (v : Int) (h : Lib.atoiAll s.data.toList = .ok v) (w : World) :
    Calls Tryz.prog 156 #[.string s] w fun e w' => e = .returned (.tuple #[.int .i64 v, .nilIface]) ∧ (w' = w ∨ ∃ t, w' = Lib.bytesWorld w 5 t) := Any.strconv_Atoi_ok Tryz.laysC172 s hmax v h w
open Go.RowKit in
theorem Tryz.strconv_Atoi_range (s : ByteArray) (hlim : s.size ≤ 281474976710656) (h : Lib.atoiAll s.data.toList = .range) (ev : Value) (w : World) (hv : w.cell? ⟨9, 0, none⟩ = some ev) (hev : ev = .nilIface ∨ ∃ te pe, ev = .iface te pe) :
    Calls Tryz.prog 156 #[.string s] w fun e w' => ∃ N, e = .returned (.tuple #[.int .i64 (Lib.atoiSat s.data.toList), .iface 268 (.pointer (some ⟨N, 0, none⟩))]) ∧ w.heap.size ≤ N ∧ w'.heap[N]? = some (.cells #[.string ⟨#[65, 116, 111, 105]⟩, .string s, ev] 281 (0, 0)) ∧ Below w.heap.size w w' := Any.strconv_Atoi_range Tryz.laysC172 s hlim h ev w hv hev
def Tryz.lays146_ren : Go.Shelf.Ren := ⟨fun | 146 => 132 | 221 => 154 | 268 => 179 | 138 => 180 | 143 => 181 | 195 => 193 | 197 => 194 | 218 => 195 | 219 => 196 | 260 => 207 | 217 => 208 | 225 => 209 | 224 => 210 | 267 => 211 | 266 => 217 | 314 => 218 | n => n, fun | 9 => 9 | 31 => 32 | 3 => 3 | 4 => 4 | 0 => 0 | 105 => 261 | 21 => 21 | 5 => 5 | 46 => 186 | 119 => 179 | 139 => 185 | 138 => 184 | 146 => 285 | 51 => 212 | n => n, fun | 1 => 7 | 3 => 4 | 4 => 5 | n => n⟩
theorem Tryz.lays146 : Go.Proofs.Lays.n146 Tryz.prog Tryz.lays146_ren := {
  mixed := by kernel_rfl
  f138 := Tryz.func180.trans (congrArg some (by kernel_rfl))
  f143 := Tryz.func181.trans (congrArg some (by kernel_rfl))
  f146 := Tryz.func132.trans (congrArg some (by kernel_rfl))
  f195 := Tryz.func193.trans (congrArg some (by kernel_rfl))
  f197 := Tryz.func194.trans (congrArg some (by kernel_rfl))
  f217 := Tryz.func208.trans (congrArg some (by kernel_rfl))
  f218 := Tryz.func195.trans (congrArg some (by kernel_rfl))
  f219 := Tryz.func196.trans (congrArg some (by kernel_rfl))
  f221 := Tryz.func154.trans (congrArg some (by kernel_rfl))
  f224 := Tryz.func210.trans (congrArg some (by kernel_rfl))
  f225 := Tryz.func209.trans (congrArg some (by kernel_rfl))
  f260 := Tryz.func207.trans (congrArg some (by kernel_rfl))
  f266 := Tryz.func217.trans (congrArg some (by kernel_rfl))
  f267 := Tryz.func211.trans (congrArg some (by kernel_rfl))
  f268 := Tryz.func179.trans (congrArg some (by kernel_rfl))
  f314 := Tryz.func218.trans (congrArg some (by kernel_rfl))
  t0 := Tryz.underlying0
  a0 := Tryz.isAgg0
  z0 := Tryz.sizeOf0
  v0 := Tryz.zeroValue0
  t3 := Tryz.underlying3
  a3 := Tryz.isAgg3
  z3 := Tryz.sizeOf3
  v3 := Tryz.zeroValue3
  t4 := Tryz.underlying4
  a4 := Tryz.isAgg4
  z4 := Tryz.sizeOf4
  v4 := Tryz.zeroValue4
  t5 := Tryz.underlying5
  a5 := Tryz.isAgg5
  z5 := Tryz.sizeOf5
  v5 := Tryz.zeroValue5
  t9 := Tryz.underlying9
  a9 := Tryz.isAgg9
  z9 := Tryz.sizeOf9
  v9 := Tryz.zeroValue9
  t21 := Tryz.underlying21
  a21 := Tryz.isAgg21
  z21 := Tryz.sizeOf21
  v21 := Tryz.zeroValue21
  t31 := Tryz.underlying32
  a31 := Tryz.isAgg32
  z31 := Tryz.sizeOf32
  v31 := Tryz.zeroValue32
  t46 := Tryz.underlying186
  a46 := Tryz.isAgg186
  z46 := Tryz.sizeOf186
  v46 := Tryz.zeroValue186
  t51 := Tryz.underlying212
  a51 := Tryz.isAgg212
  z51 := Tryz.sizeOf212
  v51 := Tryz.zeroValue212
  t105 := Tryz.underlying261
  a105 := Tryz.isAgg261
  z105 := Tryz.sizeOf261
  v105 := Tryz.zeroValue261
  t119 := Tryz.underlying179
  a119 := Tryz.isAgg179
  z119 := Tryz.sizeOf179
  t138 := Tryz.underlying184
  a138 := Tryz.isAgg184
  z138 := Tryz.sizeOf184
  v138 := Tryz.zeroValue184
  t139 := Tryz.underlying185
  a139 := Tryz.isAgg185
  z139 := Tryz.sizeOf185
  v139 := Tryz.zeroValue185
  t146 := Tryz.underlying285
  a146 := Tryz.isAgg285
  z146 := Tryz.sizeOf285
  v146 := Tryz.zeroValue285
  g1 := by kernel_rfl
  g3 := by kernel_rfl
  g4 := by kernel_rfl }
open Go.RowKit Go.Lib in
theorem Tryz.strings_Split (s sep : ByteArray) (m : Int) (w : World) (hs : s.size < 4294967281) (hm : w.cell? ⟨7, 0, none⟩ = some (.int .i64 m)) (h1 : 1 ≤ sep.size) :
    Calls Tryz.prog 132 #[.string s, .string sep] w fun e w' =>
      e = .returned (.slice (some ⟨w.heap.size, 0, none⟩) (Lib.countB s sep + 1) (Lib.countB s sep + 1)) ∧ w' = w.alloc (.cells ((Lib.splitB sep 0 (Lib.countB s sep) s).map Value.string).toArray 9) := Any.strings_Split Tryz.lays146 (by kernel_rfl) s sep m w hs hm h1
end Go.Proofs

namespace Go.Ab
open Go Go.RowKit
theorem good_grow {G : Nat → Option (List AV)} {c : Cx} {w' : World} {I : Nat → Nat → Prop} (hg : Good G c) (hb : Below c.w.heap.size c.w w') (hI : ∀ b o, c.I b o → I b o)
    (hn : ∀ b o, I b o → c.I b o ∨ ∃ v, w'.cell? ⟨b, o, none⟩ = some v) : Good G { c with w := w', I := I } := by
  have hcell : ∀ b o v, c.I b o → c.w.cell? ⟨b, o, none⟩ = some v → w'.cell? ⟨b, o, none⟩ = some v := fun b o v _ hv => by
    rw [World.cell?_block (hb.block b (lt_of_cell hv))]; exact hv
  refine ⟨fun b o hi => ?_, fun g cs h => (hg.globs g cs h).ext (ks := fun _ => False) ⟨hcell, hI, fun _ h => h.elim, fun _ h => h.elim⟩ (by simp [AV.keys])⟩
  rcases hn b o hi with h | h
  · obtain ⟨v, hv⟩ := hg.there b o h
    exact ⟨v, hcell b o v h hv⟩
  · exact h
theorem ct_of_new {P : Program} {G : Nat → Option (List AV)} {f : FuncId} {l : List AV} {r : AV} (hk : r.keys = [])
    (hfn : ∃ fn, P.funcs[f]? = some fn ∧ (fn.name == "runtime.NumGoroutine") = false ∧ fn.body.isSome = true)
    (h : ∀ (c : Cx) (vs : Array Value), Good G c → vs.size = l.length → (∀ (i : Nat) (u : AV), l[i]? = some u → Rep c u (vs.getD i undef)) →
      Calls P f vs c.w fun e w' => ∃ x, e = .returned x ∧ Below c.w.heap.size c.w w' ∧ ∃ N : Nat → Nat → Prop, (∀ b o, N b o → c.w.heap.size ≤ b ∧ ∃ v, w'.cell? ⟨b, o, none⟩ = some v) ∧
        Rep { c with w := w', I := fun b o => c.I b o ∨ N b o } r x) :
    Ct P G f l [] (r, []) := by
  refine ⟨fun c0 vs hg ho hs hr _ => (h c0 vs hg hs hr).mono ?_, hfn⟩
  rintro e w' ⟨x, rfl, hb, N, hN, hx⟩
  refine ⟨{ c0 with w := w', I := fun b o => c0.I b o ∨ N b o }, x, rfl, rfl, good_grow hg hb (fun _ _ h => .inl h) (fun b o h => h.imp id fun h => (hN b o h).2), ⟨hb.os, hb.output, hb.tape, hb.size, fun b hb' _ => hb.block b hb', ?_, ?_⟩, ?_, hx, fun k hk' => by rw [hk] at hk'; simp at hk', fun k o b ho' => by simp [enterObjs, alook] at ho'⟩
  · exact ⟨fun b o v _ hv => by show w'.cell? _ = _; rw [World.cell?_block (hb.block b (lt_of_cell hv))]; exact hv, fun _ _ h => .inl h, fun _ _ => rfl, fun _ _ _ _ h => h⟩
  · rintro b o hlt _ (hi | hi)
    · exact hi
    · exact absurd (hN b o hi).1 (by show ¬ c0.w.heap.size ≤ b; exact Nat.not_le.mpr hlt)
  · exact ⟨fun k o h => by simp [enterObjs, alook] at h, fun k o k' o' b h => by simp [enterObjs, alook] at h, fun k o h => by simp [enterObjs, alook] at h⟩
def rowA (L : List (List UInt8)) : AV := .sl .no 1 L.length fun j => [.str (L.getD j [])]
theorem ct_of_texts {P : Program} {G : Nat → Option (List AV)} {f : FuncId} {l : List AV} (L : List ByteArray) (t : TypeId)
    (hfn : ∃ fn, P.funcs[f]? = some fn ∧ (fn.name == "runtime.NumGoroutine") = false ∧ fn.body.isSome = true)
    (h : ∀ (c : Cx) (vs : Array Value), Good G c → vs.size = l.length → (∀ (i : Nat) (u : AV), l[i]? = some u → Rep c u (vs.getD i undef)) →
      Calls P f vs c.w fun e w' => e = .returned (.slice (some ⟨c.w.heap.size, 0, none⟩) L.length L.length) ∧ w' = c.w.alloc (.cells (L.map Value.string).toArray t (0, 0))) :
    Ct P G f l [] (rowA (L.map fun s => s.data.toList), []) := by
  refine ct_of_new rfl hfn fun c vs hg hs hr => (h c vs hg hs hr).mono ?_
  rintro e w' ⟨rfl, rfl⟩
  have hnew : ∀ j, j < L.length → (c.w.alloc (.cells (L.map Value.string).toArray t (0, 0))).cell? ⟨c.w.heap.size, j, none⟩ = some (.string (L.getD j ByteArray.empty)) := fun j hj => by
    rw [cell?_cells (heap_alloc_eq _ _)]
    simp [hj]
  refine ⟨_, rfl, (Below.refl _ _).alloc (Nat.le_refl _) _, fun b o => b = c.w.heap.size ∧ o < L.length, ?_, ?_⟩
  · rintro b o ⟨rfl, ho⟩
    exact ⟨Nat.le_refl _, _, hnew o ho⟩
  · unfold rowA
    rw [List.length_map]
    refine .sl .no 1 _ _ _ _ (fun j _ => .string (L.getD j ByteArray.empty)) (fun _ => rfl) (Nat.le_refl _) trivial (fun j hj => ⟨rfl, rfl⟩) (fun j i u hj hu => ?_) (fun j i u hj hu => ?_)
    · match i, hu with
      | 0, hu =>
        simp at hu; subst hu
        exact ⟨rfl, by simpa using hnew j hj, .inr ⟨rfl, by simpa using hj⟩⟩
    · match i, hu with
      | 0, hu =>
        simp only [List.getElem?_cons_zero, Option.some.injEq] at hu; subst hu
        have e : (L.map fun s => s.data.toList).getD j [] = (L.getD j ByteArray.empty).data.toList := by simp [List.getD, hj]
        rw [e]
        exact Rep.str _
end Go.Ab

namespace Go.SH
open Go Go.Ab Go.Proofs Go.RowKit
theorem glob_nni {c : Cx} (hg : Ab.Good V.G c) {g : Nat} (h : globs g = some [AV.nni]) : ∃ t v, c.w.cell? ⟨g, 0, none⟩ = some (.iface t v) := by
  have h1 := hg.globs g _ h
  generalize hp : Value.pointer (some ⟨g, 0, none⟩) = p at h1
  cases h1 with
  | elt cs off b o vals hl hc hr =>
    simp only [Value.pointer.injEq, Option.some.injEq, Addr.mk.injEq, and_true] at hp
    obtain ⟨rfl, h0⟩ := hp
    have h2 := (hc 0 _ rfl).2.1
    have h4 := hr 0 _ rfl
    have h0' : o = 0 := by omega
    generalize vals 0 = w at h4 h2
    cases h4
    rw [h0'] at h2
    exact ⟨_, _, h2⟩
theorem glob_num {c : Cx} (hg : Ab.Good V.G c) {g : Nat} {k : IntKind} (h : globs g = some [AV.num k]) : ∃ n, c.w.cell? ⟨g, 0, none⟩ = some (.int k n) := by
  have h1 := hg.globs g _ h
  generalize hp : Value.pointer (some ⟨g, 0, none⟩) = p at h1
  cases h1 with
  | elt cs off b o vals hl hc hr =>
    simp only [Value.pointer.injEq, Option.some.injEq, Addr.mk.injEq, and_true] at hp
    obtain ⟨rfl, h0⟩ := hp
    have h2 := (hc 0 _ rfl).2.1
    have h4 := hr 0 _ rfl
    have h0' : o = 0 := by omega
    generalize vals 0 = w at h4 h2
    cases h4
    rw [h0'] at h2
    exact ⟨_, h2⟩
def atoiA (s : List UInt8) : List AV := match Lib.atoiAll s with
  | .ok v => [.int .i64 v, .nili]
  | _ => [.int .i64 (Lib.atoiSat s), .nni]
def isNum (s : List UInt8) : Prop := (∃ v, Lib.atoiAll s = .ok v) ∨ Lib.atoiAll s = .range
theorem below_bytes (w : World) (t : ByteArray) : Below w.heap.size w (Lib.bytesWorld w 5 t) := by
  refine ⟨rfl, rfl, rfl, ?_, fun k hk => Lib.bytesWorld_at_old w 5 t k hk⟩
  simp [Lib.bytesWorld, World.freeze, World.alloc, World.drew, -World.alloc_eq, -World.drew_eq]
theorem atoi_ok (s : List UInt8) (hs : s.length ≤ 1048576) (h : isNum s) : Ct V.P V.G 156 [.str s] [] (.tup (atoiA s), []) := by
  refine ct_of_new (by unfold atoiA; split <;> rfl) ⟨_, Tryz.func156, by kernel_rfl, by kernel_rfl⟩ fun c vs hg hsz hr => ?_
  have h1 := arr1 hsz (rep_str (hr 0 _ rfl))
  subst h1
  have hsz : (ByteArray.mk s.toArray).size ≤ 1048576 := by show s.toArray.size ≤ _; simpa using hs
  rcases h with ⟨v, hv⟩ | hv
  · refine (Tryz.strconv_Atoi_ok ⟨s.toArray⟩ (by omega) v (by simpa using hv) c.w).mono ?_
    rintro e w' ⟨rfl, hw⟩
    refine ⟨_, rfl, ?_, fun _ _ => False, fun _ _ h => h.elim, ?_⟩
    · rcases hw with rfl | ⟨t, rfl⟩
      · exact Below.refl _ _
      · exact below_bytes _ _
    · unfold atoiA; rw [hv]
      refine .tup _ _ rfl fun i u hu => ?_
      match i, hu with
      | 0, hu => simp at hu; subst hu; exact .int _ _
      | 1, hu => simp at hu; subst hu; exact .nili
  · obtain ⟨te, pe, hc⟩ := glob_nni hg (g := 9) (by kernel_rfl)
    refine (Tryz.strconv_Atoi_range ⟨s.toArray⟩ (by omega) (by simpa using hv) _ c.w hc (.inr ⟨_, _, rfl⟩)).mono ?_
    rintro e w' ⟨N, rfl, _, _, hb⟩
    refine ⟨_, rfl, hb, fun _ _ => False, fun _ _ h => h.elim, ?_⟩
    unfold atoiA; rw [hv]
    refine .tup _ _ rfl fun i u hu => ?_
    match i, hu with
    | 0, hu => simp at hu; subst hu; exact .int _ _
    | 1, hu => simp at hu; subst hu; exact .nni _ _
theorem arr2 {vs : Array Value} {v w : Value} (hs : vs.size = 2) (h : vs.getD 0 undef = v) (h' : vs.getD 1 undef = w) : vs = #[v, w] := by
  apply Array.ext
  · simpa using hs
  · intro i h1 h2
    match i, h1, h2 with
    | 0, h1, h2 => rw [← h]; simp [Array.getD, h1]
    | 1, h1, h2 => rw [← h']; simp [Array.getD, h1]
    | k + 2, h1, h2 => omega
theorem dots_ok (s : List UInt8) (hs : s.length ≤ 1048576) : Ct V.P V.G 132 [.str s, .str [46]] [] (rowA (Lib.split s [46]), []) := by
  have e : Lib.split s [46] = (Lib.splitB ⟨#[46]⟩ 0 (Lib.countB ⟨s.toArray⟩ ⟨#[46]⟩) ⟨s.toArray⟩).map fun s => s.data.toList := by
    rw [Lib.splitB_data]; simp [Lib.split, Lib.countB]
  rw [e]
  have hl := Lib.splitB_all ⟨#[46]⟩ (by decide) 0 _ ⟨s.toArray⟩ rfl
  refine ct_of_texts _ 9 ⟨_, Tryz.func132, by kernel_rfl, by kernel_rfl⟩ fun c vs hg hsz hr => ?_
  have h1 := arr2 hsz (rep_str (hr 0 _ rfl)) (rep_str (hr 1 _ rfl))
  subst h1
  obtain ⟨m, hm⟩ := glob_num hg (g := 7) (k := .i64) (by kernel_rfl)
  refine (Tryz.strings_Split ⟨s.toArray⟩ ⟨#[46]⟩ m c.w (by show s.toArray.size < _; simp; omega) hm (by decide)).mono fun e w' h => ?_
  rw [hl]
  exact h
end Go.SH

namespace Go.SH
open Go Go.Ab Go.Proofs
set_option linter.unusedVariables false
set_option linter.unusedSimpArgs false
def φD (x : List UInt8 × Bool) : AV × List AO := (.tup [.str x.1, .bool x.2], [])
def φI (n : Int) : AV × List AO := (.tup [.int .i64 n, .nili], [])
def φJ (n : Int) : AV × List AO := (.tup [.int .i64 n, .nni], [])
def φN (x : Int × Int) : AV × List AO := (.tup [.int .i64 x.1, .int .i64 x.2], [])
def Yp (s d : List UInt8) (i : Nat) : St := { env := [(0, .str s), (31, .ref 31 0)], objs := [(31, .iter d i)] }
def Yr (s d : List UInt8) (i : Nat) : St := { env := [(0, .str s), (4, .str d), (5, .int .i64 i)], objs := [] }
def Yn (s d : List UInt8) (n : Int) (i : Nat) : St := { env := [(0, .str s), (4, .str d), (6, .int .i64 n), (7, .int .i64 i)], objs := [] }
def retY (_ : Unit) (k : Ex → St → Res) : Res := k .ret { env := [(2, .int .i64 0), (3, .int .i64 1)], objs := [] }
set_option maxRecDepth 100000 in
theorem cut_m (m : Nat) (s : List UInt8)  : runF (V.run [] 6 [] [] [] 155) m 155 [.str s, .str (45 :: [])] [] =
  cond (bif decide (0 ≤ (↑0 : Int)) && (decide ((↑0 : Int) ≤ (↑(List.length [45]) : Int)) && decide ((↑(List.length [45]) : Int) ≤ (↑(List.length s) : Int))) then true else !bif decide ((↑(List.length s) : Int) ≥ (↑(List.length [45]) : Int)) == true then true else false) (cond (!bif decide ((↑(List.length s) : Int) ≥ (↑(List.length [45]) : Int)) then List.take (Int.toNat (↑(List.length [45]) : Int) - Int.toNat (↑0 : Int)) (List.drop (Int.toNat (↑0 : Int)) s) == [45] else false) (some ((.tup [.str s, .bool false], []))) (cond (decide (0 ≤ (↑(List.length [45]) : Int)) && (decide ((↑(List.length [45]) : Int) ≤ (↑(List.length s) : Int)) && decide ((↑(List.length s) : Int) ≤ (↑(List.length s) : Int)))) (some ((.tup [.str (List.take (Int.toNat (↑(List.length s) : Int) - Int.toNat (↑(List.length [45]) : Int)) (List.drop (Int.toNat (↑(List.length [45]) : Int)) s)), .bool true], []))) (none))) (none) := by kernel_rfl
set_option maxRecDepth 100000 in
theorem num_r (T : List Ent) (L : List (List Nat × Orc)) (m : Nat) (s d : List UInt8) (i : Nat) (kn : St → Res) (k : Ex → St → Res)  : roundR (V.run T 1 [] L [] 133) 133 m [1, 1, 1, 0, 1, 0] (Yp s d i) kn k =
  cond (Nat.blt i (List.length d)) (cond (bif decide ((↑(Prod.fst (Utf8.decode { data := List.toArray d } i)) : Int) < 48) then true else decide ((↑(Prod.fst (Utf8.decode { data := List.toArray d } i)) : Int) > 57)) (k (.ret) ({ env := [(2, .int .i64 0), (3, .int .i64 1)], objs := [] })) (kn (Yp s d (nextP d i)))) (k (.exit 0) ({ env := [(0, .str s)], objs := [] })) := by kernel_rfl
set_option maxRecDepth 100000 in
theorem num_m1 (gc : List AV → List AO → Bool) (vc : List AV → List AO → List UInt8 × Bool) (ga : List AV → List AO → Bool) (va : List AV → List AO → Int) (g : St → Bool) (v : St → Bool × Unit) (m : Nat) (s : List UInt8) {t1 : List UInt8 × Bool} (h_t1 : vc [.str s, .str [45]] [] = t1) {t2 : Bool × Unit} (h_t2 : v (Yp s (Prod.fst t1) 0) = t2) {t3 : Int} (h_t3 : va [.str s] [] = t3) : runF (V.run [mkE 155 gc vc φD, mkE 156 ga va φI] 1 [] [([1, 1, 1, 0, 1, 0], mkO g v (outB retY fun k => k (.exit 0) { env := [(0, .str s)], objs := [] }))] [] 133) m 133 [.str s] [] =
  cond (gc [.str s, .str [45]] []) (cond (bif within 0 (List.length (Prod.fst t1)) then true else !bif (Prod.fst t1 == []) == false then true else false) (cond (bif Prod.fst t1 == [] then true else bif (↑(UInt8.toNat (List.getD (Prod.fst t1) (Int.toNat 0) 0)) : Int) == 48 then bif decide ((↑(List.length (Prod.fst t1)) : Int) > 1) then true else Prod.snd t1 else false) (some ((.tup [.int .i64 0, .int .i64 1], []))) (cond (g (Yp s (Prod.fst t1) 0)) (cond (Prod.fst t2) (some ((.tup [.int .i64 0, .int .i64 1], []))) (cond (ga [.str s] []) (cond (bif bif !true then true else decide (t3 < -1099511627776) then true else decide (t3 > 1099511627776)) (some ((.tup [.int .i64 0, .int .i64 3], []))) (some ((.tup [.int .i64 t3, .int .i64 0], [])))) (none))) (none))) (none)) (none) := by subst h_t3 h_t2 h_t1; kernel_rfl
set_option maxRecDepth 100000 in
theorem num_m2 (gc : List AV → List AO → Bool) (vc : List AV → List AO → List UInt8 × Bool) (ga : List AV → List AO → Bool) (va : List AV → List AO → Int) (g : St → Bool) (v : St → Bool × Unit) (m : Nat) (s : List UInt8) {t1 : List UInt8 × Bool} (h_t1 : vc [.str s, .str [45]] [] = t1) {t2 : Bool × Unit} (h_t2 : v (Yp s (Prod.fst t1) 0) = t2) : runF (V.run [mkE 155 gc vc φD, mkE 156 ga va φJ] 1 [] [([1, 1, 1, 0, 1, 0], mkO g v (outB retY fun k => k (.exit 0) { env := [(0, .str s)], objs := [] }))] [] 133) m 133 [.str s] [] =
  cond (gc [.str s, .str [45]] []) (cond (bif within 0 (List.length (Prod.fst t1)) then true else !bif (Prod.fst t1 == []) == false then true else false) (cond (bif Prod.fst t1 == [] then true else bif (↑(UInt8.toNat (List.getD (Prod.fst t1) (Int.toNat 0) 0)) : Int) == 48 then bif decide ((↑(List.length (Prod.fst t1)) : Int) > 1) then true else Prod.snd t1 else false) (some ((.tup [.int .i64 0, .int .i64 1], []))) (cond (g (Yp s (Prod.fst t1) 0)) (cond (Prod.fst t2) (some ((.tup [.int .i64 0, .int .i64 1], []))) (cond (ga [.str s] []) (some ((.tup [.int .i64 0, .int .i64 3], []))) (none))) (none))) (none)) (none) := by subst h_t2 h_t1; kernel_rfl
set_option maxRecDepth 100000 in
theorem rnum_r1 (T : List Ent) (L : List (List Nat × Orc)) (m : Nat) (s d : List UInt8) (i : Nat) (kn : St → Res) (k : Ex → St → Res)  : roundR (V.run T 1 [] L [] 157) 157 m [1, 1, 1, 0, 1, 0] (Yr s d i) kn k =
  cond (decide ((↑i : Int) < (↑(List.length d) : Int))) (cond (within (↑i : Int) (List.length d)) (cond (bif within (↑i : Int) (List.length d) then true else !bif decide ((↑(UInt8.toNat (List.getD d (Int.toNat (↑i : Int)) 0)) : Int) < 48) == false then true else false) (cond (bif decide ((↑(UInt8.toNat (List.getD d (Int.toNat (↑i : Int)) 0)) : Int) < 48) then true else decide ((↑(UInt8.toNat (List.getD d (Int.toNat (↑i : Int)) 0)) : Int) > 57)) (k (.ret) ({ env := [(2, .int .i64 0), (3, .int .i64 1)], objs := [] })) (kn ({ env := [(0, .str s), (4, .str d), (5, .int .i64 (IntKind.wrap IntKind.i64 ((↑i : Int) + 1)))], objs := [] }))) (none)) (none)) (k (.exit 0) ({ env := [(0, .str s), (4, .str d)], objs := [] })) := by kernel_rfl
set_option maxRecDepth 100000 in
theorem rnum_r2 (T : List Ent) (L : List (List Nat × Orc)) (m : Nat) (s d : List UInt8) (n : Int) (i : Nat) (kn : St → Res) (k : Ex → St → Res)  : roundR (V.run T 1 [] L [] 157) 157 m [1, 1, 1, 1, 1, 1, 1, 0, 1, 0] (Yn s d n i) kn k =
  cond (decide ((↑i : Int) < (↑(List.length d) : Int))) (cond (within (↑i : Int) (List.length d)) (kn ({ env := [(0, .str s), (4, .str d), (6, .int .i64 (IntKind.wrap IntKind.i64 (IntKind.wrap IntKind.i64 (10 * n) + IntKind.wrap IntKind.i64 (IntKind.wrap IntKind.u8 ((↑(UInt8.toNat (List.getD d (Int.toNat (↑i : Int)) 0)) : Int) - 48))))), (7, .int .i64 (IntKind.wrap IntKind.i64 ((↑i : Int) + 1)))], objs := [] })) (none)) (k (.exit 2) ({ env := [(0, .str s), (4, .str d), (6, .int .i64 n)], objs := [] })) := by kernel_rfl
set_option maxRecDepth 100000 in
theorem rnum_m (g1 : St → Bool) (v1 : St → Bool × Unit) (g2 : St → Bool) (v2 : St → Int) (m : Nat) (s d : List UInt8) {t1 : Bool × Unit} (h_t1 : v1 (Yr s (List.take (Int.toNat (↑(List.length s) : Int) - Int.toNat 1) (List.drop (Int.toNat 1) s)) 0) = t1) {t2 : Int} (h_t2 : v2 (Yn s d 0 0) = t2) {t3 : Bool × Unit} (h_t3 : v1 (Yr s s 0) = t3) : runF (V.run [] 1 [] [([1, 1, 1, 0, 1, 0], mkO g1 v1 (outB retY fun k => k (.exit 0) { env := [(0, .str s), (4, .str d)], objs := [] })), ([1, 1, 1, 1, 1, 1, 1, 0, 1, 0], mkO g2 v2 fun n k => k (.exit 2) { env := [(0, .str s), (4, .str d), (6, .int .i64 n)], objs := [] })] [] 157) m 157 [.str s] [] =
  cond (bif within 0 (List.length s) then true else !bif decide ((↑(List.length s) : Int) > 0) == true then true else false) (cond (bif decide ((↑(List.length s) : Int) > 0) then (↑(UInt8.toNat (List.getD s (Int.toNat 0) 0)) : Int) == 45 else false) (cond (decide (0 ≤ 1) && (decide (1 ≤ (↑(List.length s) : Int)) && decide ((↑(List.length s) : Int) ≤ (↑(List.length s) : Int)))) (cond (g1 (Yr s (List.take (Int.toNat (↑(List.length s) : Int) - Int.toNat 1) (List.drop (Int.toNat 1) s)) 0)) (cond (Prod.fst t1) (some ((.tup [.int .i64 0, .int .i64 1], []))) (cond (bif within 0 (List.length d) then true else !bif (d == []) == false then true else false) (cond (bif d == [] then true else bif (↑(UInt8.toNat (List.getD d (Int.toNat 0) 0)) : Int) == 48 then !s == [48] else false) (some ((.tup [.int .i64 0, .int .i64 1], []))) (cond (decide ((↑(List.length d) : Int) > 13)) (some ((.tup [.int .i64 0, .int .i64 3], []))) (cond (g2 (Yn s d 0 0)) (cond (decide (t2 > 1099511627776)) (some ((.tup [.int .i64 0, .int .i64 3], []))) (cond (decide ((↑(List.length d) : Int) < (↑(List.length s) : Int))) (some ((.tup [.int .i64 (IntKind.wrap IntKind.i64 (0 - t2)), .int .i64 0], []))) (some ((.tup [.int .i64 t2, .int .i64 0], []))))) (none)))) (none))) (none)) (none)) (cond (g1 (Yr s s 0)) (cond (Prod.fst t3) (some ((.tup [.int .i64 0, .int .i64 1], []))) (cond (bif within 0 (List.length d) then true else !bif (d == []) == false then true else false) (cond (bif d == [] then true else bif (↑(UInt8.toNat (List.getD d (Int.toNat 0) 0)) : Int) == 48 then !s == [48] else false) (some ((.tup [.int .i64 0, .int .i64 1], []))) (cond (decide ((↑(List.length d) : Int) > 13)) (some ((.tup [.int .i64 0, .int .i64 3], []))) (cond (g2 (Yn s d 0 0)) (cond (decide (t2 > 1099511627776)) (some ((.tup [.int .i64 0, .int .i64 3], []))) (cond (decide ((↑(List.length d) : Int) < (↑(List.length s) : Int))) (some ((.tup [.int .i64 (IntKind.wrap IntKind.i64 (0 - t2)), .int .i64 0], []))) (some ((.tup [.int .i64 t2, .int .i64 0], []))))) (none)))) (none))) (none))) (none) := by subst h_t3 h_t2 h_t1; kernel_rfl
end Go.SH

namespace Go.SH
open Go Go.Ab Go.Proofs
def badD (c : Nat) : Bool := bif decide ((c : Int) < 48) then true else decide ((c : Int) > 57)
theorem badD_false {c : Nat} (h : badD c = false) : 48 ≤ c ∧ c ≤ 57 := by
  unfold badD at h
  by_cases h1 : (c : Int) < 48
  · rw [decide_eq_true h1] at h; simp at h
  · rw [decide_eq_false h1] at h
    have h2 : ¬ (c : Int) > 57 := by simpa using h
    omega
theorem badD_high {c : Nat} (h : 128 ≤ c) : badD c = true := by
  unfold badD
  rw [decide_eq_false (by omega), decide_eq_true (by omega)]; rfl
theorem scan_any {τ : Type} [Inhabited τ] (l : List UInt8) (p : UInt8 → Bool) (t : τ) : ∀ d i, l.length - i ≤ d →
    (scanAt l.length (· + 1) (fun i => bif p (l.getD i 0) then some t else none) i).1 = (l.drop i).any p := by
  intro d
  induction d with
  | zero => intro i h; rw [scanAt_end _ _ _ (by omega), List.drop_eq_nil_of_le (by omega)]; rfl
  | succ d ih =>
    intro i h
    by_cases hi : i < l.length
    · rw [scanAt_step (fun i _ => Nat.lt_succ_self i) hi, List.drop_eq_getElem_cons hi, List.any_cons, ← ih (i + 1) (by omega)]
      have e : l.getD i 0 = l[i] := by simp [List.getD, hi]
      rw [e]
      cases p l[i] <;> rfl
    · rw [scanAt_end _ _ _ hi, List.drop_eq_nil_of_le (by omega)]; rfl
theorem seek_any {τ : Type} [Inhabited τ] (l : List UInt8) (p : UInt8 → Bool) (t : τ) :
    (seek l.length (· + 1) (fun i => p (l.getD i 0)) t).1 = l.any p := by
  have := scan_any l p t l.length 0 (by omega)
  rwa [List.drop_zero] at this
def put (a : Nat) (c : UInt8) : Nat := a * 10 + (c.toNat - 48)
theorem put_eq (a : Nat) (c : UInt8) : put a c = a * 10 + (c.toNat - 48) := by unfold put; exact Eq.refl _
def val (a : Nat) (l : List UInt8) : Nat := l.foldl put a
theorem val_nil (a : Nat) : val a [] = a := by unfold val; exact List.foldl_nil
theorem val_cons (a : Nat) (c : UInt8) (r : List UInt8) : val a (c :: r) = val (put a c) r := by unfold val; exact List.foldl_cons ..
theorem val_ge : ∀ (l : List UInt8) (a : Nat), a * 10 ^ l.length ≤ val a l
  | [], a => by rw [val_nil]; simp
  | c :: r, a => by
    have h := val_ge r (put a c)
    rw [val_cons, List.length_cons, Nat.pow_succ]
    refine Nat.le_trans ?_ h
    rw [Nat.mul_comm (10 ^ r.length) 10, ← Nat.mul_assoc]
    exact Nat.mul_le_mul_right _ (by rw [put_eq]; exact Nat.le_add_right _ _)
theorem val_le (l : List UInt8) (a : Nat) : a ≤ val a l := by
  refine Nat.le_trans ?_ (val_ge l a)
  exact Nat.le_mul_of_pos_right a (Nat.pow_pos (by decide))
def digs (l : List UInt8) : Prop := ∀ c ∈ l, 48 ≤ c.toNat ∧ c.toNat ≤ 57
theorem parse_val : ∀ (l : List UInt8) (a : Nat), digs l → Lib.parseUint10 a l = if val a l < 18446744073709551616 ∨ l = [] then .ok (val a l) else .range
  | [], a, h => by simp [Lib.parseUint10, val_nil]
  | c :: r, a, h => by
    have hc := h c (List.mem_cons_self ..)
    have ih := parse_val r (put a c) (fun c hc => h c (List.mem_cons_of_mem _ hc))
    have hv := val_le r (put a c)
    have hq := put_eq a c
    rw [Lib.parseUint10, if_pos hc, ← hq]
    simp only [val_cons, reduceCtorEq, or_false]
    by_cases h1 : 1844674407370955162 ≤ a
    · rw [if_pos h1, if_neg (by omega)]
    · rw [if_neg h1]
      by_cases h2 : 18446744073709551616 ≤ put a c
      · rw [if_pos h2, if_neg (by omega)]
      · rw [if_neg h2, ih]
        by_cases h3 : r = []
        · subst h3
          have h4 : val (put a c) [] < 18446744073709551616 := by rw [val_nil]; omega
          rw [if_pos (.inl h4), if_pos h4]
        · simp [h3]
def cutB (s : List UInt8) : List UInt8 × Bool := bif s.head? == some 45 then (s.tail, true) else (s, false)
theorem cutB_cases (s : List UInt8) : (∃ r, s = 45 :: r ∧ cutB s = (r, true)) ∨ ((s.head? == some 45) = false ∧ cutB s = (s, false)) := by
  cases s with
  | nil => exact .inr ⟨rfl, rfl⟩
  | cons c r =>
    by_cases h : c = 45
    · subst h; exact .inl ⟨r, rfl, rfl⟩
    · have e : ((c :: r).head? == some 45) = false := by simp [h]
      exact .inr ⟨e, by unfold cutB; rw [e]; rfl⟩
def badN (s : List UInt8) : Bool := (cutB s).1 == [] || ((cutB s).1.getD 0 0).toNat == 48 && (decide ((cutB s).1.length > 1) || (cutB s).2) || (cutB s).1.any fun c => badD c.toNat
def maxN : Nat := 1099511627776
def numB (s : List UInt8) : Int × Int :=
  bif badN s then (0, 1) else bif decide (val 0 (cutB s).1 > maxN) then (0, 3) else (bif (cutB s).2 then -(val 0 (cutB s).1 : Int) else (val 0 (cutB s).1 : Int), 0)
theorem digs_of {l : List UInt8} (h : (l.any fun c => badD c.toNat) = false) : digs l := fun c hc => by
  have := List.any_eq_false.1 h c hc
  exact badD_false (by simpa using this)
theorem atoi_num {s : List UInt8} (h : badN s = false) :
    (∃ v : Int, Lib.atoiAll s = .ok v ∧ v = (bif (cutB s).2 then -(val 0 (cutB s).1 : Int) else (val 0 (cutB s).1 : Int))) ∨ (Lib.atoiAll s = .range ∧ maxN < val 0 (cutB s).1) := by
  unfold badN at h
  simp only [Bool.or_eq_false_iff] at h
  obtain ⟨⟨h1, _⟩, h3⟩ := h
  have hd := digs_of h3
  have hne : (cutB s).1 ≠ [] := by simpa using h1
  have hp : Lib.parseMag (cutB s).1 = if val 0 (cutB s).1 < 18446744073709551616 then .ok (val 0 (cutB s).1) else .range := by
    unfold Lib.parseMag
    rw [if_neg hne, parse_val _ _ hd]
    simp [hne]
  rcases cutB_cases s with ⟨r, rfl, hc⟩ | ⟨hh, hc⟩
  · rw [hc] at hp hd hne ⊢
    simp only [cond_true] at hp ⊢
    have ha : Lib.atoiAll (45 :: r) = (match Lib.parseMag r with | .ok u => if 9223372036854775808 < u then .range else .ok (-(u : Int)) | e => (match e with | .range => .range | _ => Lib.atoiAll (45 :: r))) := by
      rw [hp]
      simp only [Lib.atoiAll]
      by_cases hlt : val 0 r < 18446744073709551616
      · simp [hp, hlt]
      · simp [hp, hlt]
    rw [ha, hp]
    by_cases hlt : val 0 r < 18446744073709551616
    · rw [if_pos hlt]
      by_cases h2 : 9223372036854775808 < val 0 r
      · simp only [h2, if_true]
        exact .inr ⟨trivial, by unfold maxN; omega⟩
      · simp only [h2, if_false]
        exact .inl ⟨_, rfl, rfl⟩
    · rw [if_neg hlt]
      exact .inr ⟨rfl, by unfold maxN; omega⟩
  · rw [hc] at hp hd hne ⊢
    simp only [cond_false] at hp ⊢
    obtain ⟨c, r, rfl⟩ : ∃ c r, s = c :: r := by cases s with
      | nil => exact absurd rfl hne
      | cons c r => exact ⟨c, r, rfl⟩
    have hcd := hd c (List.mem_cons_self ..)
    have ha : Lib.atoiAll (c :: r) = (match Lib.parseMag (c :: r) with | .ok u => if 9223372036854775808 ≤ u then .range else .ok (u : Int) | e => (match e with | .range => .range | _ => Lib.atoiAll (c :: r))) := by
      have n43 : ¬ (c.toNat = 43 ∨ c.toNat = 45) := by omega
      have n45 : ¬ c.toNat = 45 := by omega
      rw [hp]
      simp only [Lib.atoiAll, if_neg n43, hp]
      by_cases hlt : val 0 (c :: r) < 18446744073709551616
      · simp [hlt, n45]
      · simp [hlt]
    rw [ha, hp]
    by_cases hlt : val 0 (c :: r) < 18446744073709551616
    · rw [if_pos hlt]
      by_cases h2 : 9223372036854775808 ≤ val 0 (c :: r)
      · simp only [h2, if_true]
        exact .inr ⟨trivial, by unfold maxN; omega⟩
      · simp only [h2, if_false]
        exact .inl ⟨_, rfl, rfl⟩
    · rw [if_neg hlt]
      exact .inr ⟨rfl, by unfold maxN; omega⟩
end Go.SH

namespace Go.SH
open Go Go.Ab Go.Proofs
set_option linter.unusedVariables false
set_option linter.unusedSimpArgs false
theorem cut_ok (s : List UInt8) (hs : s.length ≤ 1048576) : Ct V.P V.G 155 [.str s, .str [45]] [] (φD (cutB s)) := by
  refine ct_loops (n := 0) (d := 6) (T := []) (L := []) mixed funcs tabOk_nil loopsOk_nil ((cut_m 0 s).trans ?_)
  have h1 : ∀ n : Nat, decide (1 ≤ (n : Int) + 1) = true := fun n => decide_eq_true (by omega)
  rcases cutB_cases s with ⟨r, rfl, hc⟩ | ⟨hh, hc⟩
  · rw [hc]
    simp [φD, List.length_cons, List.length_nil, h1]
  · rw [hc]
    cases s with
    | nil => simp [φD]
    | cons c r =>
      have hne : (c == 45) = false := by simpa using hh
      simp [φD, List.take, hne, h1]
theorem Yp_inj (s d : List UInt8) (i j : Nat) (h : Yp s d i = Yp s d j) : i = j := by
  simp only [Yp, St.mk.injEq, List.cons.injEq, Prod.mk.injEq, AO.iter.injEq, and_true, true_and] at h; exact h
theorem Yr_inj (s d : List UInt8) (i j : Nat) (h : Yr s d i = Yr s d j) : i = j := by
  simp only [Yr, St.mk.injEq, List.cons.injEq, Prod.mk.injEq, AV.int.injEq, and_true, true_and] at h; omega
def badS (d : List UInt8) : Bool × Unit := seek d.length (· + 1) (fun i => badD (d.getD i 0).toNat) ()
theorem badS_any (d : List UInt8) : (badS d).1 = d.any fun c => badD c.toNat := seek_any d (fun c => badD c.toNat) ()
theorem badR_eq (d : List UInt8) : seek d.length (nextP d) (fun i => badD (Utf8.decode ⟨d.toArray⟩ i).1) () = badS d :=
  seek_runes_bad d _ _ () (fun i hi hl => by rw [dec_low hl]) (fun i hi hh => ⟨badD_high (dec_high hi hh).1, badD_high hh⟩)
theorem head0 (d : List UInt8) : (bif within 0 d.length then true else !bif (d == []) == false then true else false) = true := by
  cases d with
  | nil => rfl
  | cons c r => rw [show within 0 (c :: r).length = true from within_of (by omega) (by rw [List.length_cons]; omega)]; rfl
theorem dec1 (n : Nat) : decide ((n : Int) > 1) = decide (n > 1) := by
  by_cases h : n > 1
  · rw [decide_eq_true h, decide_eq_true (by omega)]
  · rw [decide_eq_false h, decide_eq_false (by omega)]
theorem eq48 (n : Nat) : ((n : Int) == 48) = (n == 48) := by
  by_cases h : n = 48
  · subst h; rfl
  · rw [beq_eq_false_iff_ne.2 h, beq_eq_false_iff_ne.2 (by omega)]
theorem numLoop (s d : List UInt8) (T : List Ent) (L : List (List Nat × Orc)) :
    LoopOk (V.run T 1 [] L [] 133) 133 [1, 1, 1, 0, 1, 0] (mkO (goodS (Yp s d) (· ≤ d.length)) (valS (Yp s d) (· ≤ d.length) (scanAt d.length (nextP d) (fun i => bif badD (Utf8.decode ⟨d.toArray⟩ i).1 then some () else none))) (outB retY fun k => k (.exit 0) { env := [(0, .str s)], objs := [] })) :=
  loopOk_seek (X := V.run T 1 [] L [] 133)
    (f := 133) (p := [1, 1, 1, 0, 1, 0]) (b := subC (bodyOf V.P 133) ([1, 1, 1, 0, 1, 0] ++ [0])) (Yp s d) d.length (nextP d) (fun i => badD (Utf8.decode ⟨d.toArray⟩ i).1) () retY (fun k => k (.exit 0) { env := [(0, .str s)], objs := [] }) (by kernel_rfl) 0 (fun i h => next_bd h)
    (fun i h kn k => by rw [num_r, bltT h]; rfl) (fun kn k => by rw [num_r, blt_irrefl]; rfl)
theorem tabOk_no {V : Env} {f : FuncId} {w : List AV → List AO → Int} {φ : Int → AV × List AO} {T : List Ent} (h : TabOk V T) : TabOk V (mkE f (fun _ _ => false) w φ :: T) :=
  tabOk_cons (fun l os h => by cases h) h
theorem num_ok (s : List UInt8) (hs : s.length ≤ 1048576) : Ct V.P V.G 133 [.str s] [] (φN (numB s)) := by
  obtain ⟨h1, h2⟩ := seek_at (Yp s (cutB s).1) (cutB s).1.length (nextP (cutB s).1) (fun i => badD (Utf8.decode ⟨(cutB s).1.toArray⟩ i).1) () (Yp_inj s (cutB s).1)
  rw [badR_eq] at h2
  have hcut := ent1_ok (f := 155) (cut_ok s hs)
  cases hb : badN s with
  | true =>
    refine ct_loops (n := 0) (T := [ent1 155 [.str s, .str [45]] (cutB s) φD, mkE 156 (fun _ _ => false) (fun _ _ => 0) φI]) mixed funcs (tabOk_cons hcut (tabOk_no tabOk_nil)) (loopsOk_cons (numLoop s (cutB s).1 _ _) loopsOk_nil) ?_
    refine (num_m1 (g1 _) (v1 _ (cutB s)) _ _ _ _ 0 s (v1_eq _ _) h2 rfl).trans ?_
    rw [g1_eq, head0, h1, badS_any, eq48, dec1, show Int.toNat 0 = 0 from rfl]
    have hb' := hb
    unfold badN at hb'
    unfold numB φN
    rw [hb]
    revert hb'
    cases (cutB s).1 == [] <;> cases ((cutB s).1.getD 0 0).toNat == 48 <;> cases decide ((cutB s).1.length > 1) <;> cases (cutB s).2 <;> cases ((cutB s).1.any fun c => badD c.toNat) <;> simp
  | false =>
    have hb' := hb
    unfold badN at hb'
    simp only [Bool.or_eq_false_iff] at hb'
    obtain ⟨⟨e1, e2⟩, e3⟩ := hb'
    have e2' : (bif ((cutB s).1.getD 0 0).toNat == 48 then bif decide ((cutB s).1.length > 1) then true else (cutB s).2 else false) = false := by
      revert e2
      cases ((cutB s).1.getD 0 0).toNat == 48 <;> cases decide ((cutB s).1.length > 1) <;> cases (cutB s).2 <;> simp
    rcases atoi_num hb with ⟨v, hv, hval⟩ | ⟨hv, hval⟩
    · have ha : Ct V.P V.G 156 [.str s] [] (φI v) := by
        have h := atoi_ok s hs (.inl ⟨v, hv⟩)
        unfold atoiA at h; rw [hv] at h; exact h
      refine ct_loops (n := 0) (T := [ent1 155 [.str s, .str [45]] (cutB s) φD, ent1 156 [.str s] v φI]) mixed funcs (tabOk_cons hcut (tabOk_cons (ent1_ok ha) tabOk_nil)) (loopsOk_cons (numLoop s (cutB s).1 _ _) loopsOk_nil) ?_
      refine (num_m1 (g1 _) (v1 _ (cutB s)) (g1 _) (v1 _ v) _ _ 0 s (v1_eq _ _) h2 (v1_eq _ _)).trans ?_
      rw [g1_eq, head0, h1, badS_any, eq48, dec1, show Int.toNat 0 = 0 from rfl, g1_eq, e1, e2', e3]
      unfold numB φN
      rw [hb, hval]
      have hq : ∀ (b : Bool) (n : Nat), (bif (bif !true then true else decide ((bif b then -(n : Int) else (n : Int)) < -1099511627776)) then true else decide ((bif b then -(n : Int) else (n : Int)) > 1099511627776)) = decide (n > maxN) := by
        intro b n
        unfold maxN
        by_cases hm : n > 1099511627776
        · rw [decide_eq_true hm]
          cases b with
          | true => rw [decide_eq_true (show (bif true then -(n : Int) else (n : Int)) < -1099511627776 by show -(n : Int) < _; omega)]; rfl
          | false => rw [decide_eq_true (show (bif false then -(n : Int) else (n : Int)) > 1099511627776 by show (n : Int) > _; omega)]; cases decide ((bif false then -(n : Int) else (n : Int)) < -1099511627776) <;> rfl
        · rw [decide_eq_false hm]
          cases b with
          | true => rw [decide_eq_false (show ¬ (bif true then -(n : Int) else (n : Int)) < -1099511627776 by show ¬ -(n : Int) < _; omega), decide_eq_false (show ¬ (bif true then -(n : Int) else (n : Int)) > 1099511627776 by show ¬ -(n : Int) > _; omega)]; rfl
          | false => rw [decide_eq_false (show ¬ (bif false then -(n : Int) else (n : Int)) < -1099511627776 by show ¬ (n : Int) < _; omega), decide_eq_false (show ¬ (bif false then -(n : Int) else (n : Int)) > 1099511627776 by show ¬ (n : Int) > _; omega)]; rfl
      rw [hq]
      cases decide (val 0 (cutB s).1 > maxN) <;> rfl
    · have ha : Ct V.P V.G 156 [.str s] [] (φJ (Lib.atoiSat s)) := by
        have h := atoi_ok s hs (.inr hv)
        unfold atoiA at h; rw [hv] at h; exact h
      refine ct_loops (n := 0) (T := [ent1 155 [.str s, .str [45]] (cutB s) φD, ent1 156 [.str s] (Lib.atoiSat s) φJ]) mixed funcs (tabOk_cons hcut (tabOk_cons (ent1_ok ha) tabOk_nil)) (loopsOk_cons (numLoop s (cutB s).1 _ _) loopsOk_nil) ?_
      refine (num_m2 (g1 _) (v1 _ (cutB s)) (g1 _) (v1 _ (Lib.atoiSat s)) _ _ 0 s (v1_eq _ _) h2).trans ?_
      rw [g1_eq, head0, h1, badS_any, eq48, dec1, show Int.toNat 0 = 0 from rfl, g1_eq, e1, e2', e3]
      unfold numB φN
      rw [hb, decide_eq_true (show val 0 (cutB s).1 > maxN from hval)]
      rfl
end Go.SH

namespace Go.SH
open Go Go.Ab Go.Proofs
set_option linter.unusedVariables false
set_option linter.unusedSimpArgs false
theorem rnumLoop (s d : List UInt8) (hd : d.length ≤ 4611686018427387904) (T : List Ent) (L : List (List Nat × Orc)) :
    LoopOk (V.run T 1 [] L [] 157) 157 [1, 1, 1, 0, 1, 0] (mkO (goodS (Yr s d) (· ≤ d.length)) (valS (Yr s d) (· ≤ d.length) (scanAt d.length (· + 1) (fun i => bif badD (d.getD i 0).toNat then some () else none))) (outB retY fun k => k (.exit 0) { env := [(0, .str s), (4, .str d)], objs := [] })) :=
  loopOk_seek (X := V.run T 1 [] L [] 157)
    (f := 157) (p := [1, 1, 1, 0, 1, 0]) (b := subC (bodyOf V.P 157) ([1, 1, 1, 0, 1, 0] ++ [0])) (Yr s d) d.length (· + 1) (fun i => badD (d.getD i 0).toNat) () retY (fun k => k (.exit 0) { env := [(0, .str s), (4, .str d)], objs := [] }) (by kernel_rfl) 0 (fun i h => ⟨by omega, by omega⟩)
    (fun i h kn k => by rw [rnum_r1, lt_true h, within_lt h, wrap_next h hd, Int.toNat_natCast]; rfl) (fun kn k => by rw [rnum_r1, lt_false (Nat.lt_irrefl _)]; rfl)
theorem val_snoc (a : Nat) (l : List UInt8) (c : UInt8) : val a (l ++ [c]) = put (val a l) c := by unfold val; rw [List.foldl_append]; rfl
theorem val_bound : ∀ (l : List UInt8) (a : Nat), digs l → val a l < (a + 1) * 10 ^ l.length
  | [], a, _ => by rw [val_nil]; simp
  | c :: r, a, h => by
    have hc := h c (List.mem_cons_self ..)
    have ih := val_bound r (put a c) (fun c hc => h c (List.mem_cons_of_mem _ hc))
    rw [val_cons, List.length_cons, Nat.pow_succ]
    refine Nat.lt_of_lt_of_le ih ?_
    rw [Nat.mul_comm (10 ^ r.length) 10, ← Nat.mul_assoc]
    refine Nat.mul_le_mul_right _ ?_
    rw [put_eq]; omega
def InvV (d : List UInt8) (i : Nat) : Prop := i ≤ d.length ∧ digs d ∧ d.length ≤ 13
theorem take_bound {d : List UInt8} (hd : digs d) (hl : d.length ≤ 13) (i : Nat) : val 0 (d.take i) < 10000000000000 := by
  have h := val_bound (d.take i) 0 (fun c hc => hd c (List.mem_of_mem_take hc))
  refine Nat.lt_of_lt_of_le h ?_
  rw [Nat.zero_add, Nat.one_mul]
  exact Nat.pow_le_pow_right (by decide) (show (d.take i).length ≤ 13 by rw [List.length_take]; omega)
theorem wrap_u8 {n : Int} (h0 : 0 ≤ n) (h1 : n < 256) : IntKind.wrap .u8 n = n := by
  simp [IntKind.wrap, IntKind.bits, IntKind.signed]; omega
theorem rnumLoop2 (s d : List UInt8) (T : List Ent) (L : List (List Nat × Orc)) :
    LoopOk (V.run T 1 [] L [] 157) 157 [1, 1, 1, 1, 1, 1, 1, 0, 1, 0] (mkO (goodS (fun i => Yn s d (val 0 (d.take i) : Nat) i) (InvV d)) (valS (fun i => Yn s d (val 0 (d.take i) : Nat) i) (InvV d) (fun _ => ((val 0 d : Nat) : Int))) (fun n k => k (.exit 2) { env := [(0, .str s), (4, .str d), (6, .int .i64 n)], objs := [] })) := by
  refine loopOk_of (b := subC (bodyOf V.P 157) ([1, 1, 1, 1, 1, 1, 1, 0, 1, 0] ++ [0])) (fun i => Yn s d (val 0 (d.take i) : Nat) i) (InvV d) (fun i => d.length - i) (fun _ => ((val 0 d : Nat) : Int)) _ (by kernel_rfl) 0 fun i hi k kn hk => ?_
  obtain ⟨hi, hd, hl⟩ := hi
  rw [rnum_r2]
  by_cases h : i < d.length
  · rw [lt_true h, within_lt h, wrap_next h (by omega), Int.toNat_natCast]
    have hc : 48 ≤ (d.getD i 0).toNat ∧ (d.getD i 0).toNat ≤ 57 := by
      have e : d.getD i 0 = d[i] := by simp [List.getD, h]
      rw [e]; exact hd _ (List.getElem_mem _)
    have hb := take_bound hd hl i
    have hn := hk (i + 1) ⟨h, hd, hl⟩ (by show d.length - (i + 1) < d.length - i; omega)
    have e : val 0 (d.take (i + 1)) = put (val 0 (d.take i)) (d.getD i 0) := by
      have : d.take (i + 1) = d.take i ++ [d.getD i 0] := by rw [List.take_succ_eq_append_getElem h]; simp [List.getD, h]
      rw [this, val_snoc]
    rw [e, put_eq] at hn
    rw [wrap_u8 (n := ((d.getD i 0).toNat : Int) - 48) (by omega) (by omega)]
    have w1 : IntKind.wrap .i64 (10 * ((val 0 (d.take i) : Nat) : Int)) = 10 * ((val 0 (d.take i) : Nat) : Int) := wrap_i64 (by omega) (by omega)
    have w2 : IntKind.wrap .i64 (((d.getD i 0).toNat : Int) - 48) = ((d.getD i 0).toNat : Int) - 48 := wrap_i64 (by omega) (by omega)
    rw [w1, w2, wrap_i64 (by omega) (by omega)]
    have e2 : 10 * ((val 0 (d.take i) : Nat) : Int) + (((d.getD i 0).toNat : Int) - 48) = ((val 0 (d.take i) * 10 + ((d.getD i 0).toNat - 48) : Nat) : Int) := by omega
    rw [e2]
    exact hn
  · have : i = d.length := by omega
    subst this
    rw [lt_false h, List.take_length]; rfl
theorem rnum_ok (s : List UInt8) (hs : s.length ≤ 1048576) : Ct V.P V.G 157 [.str s] [] (φN (numB s)) := by
  obtain ⟨d, hd⟩ : ∃ d, (cutB s).1 = d := ⟨_, rfl⟩
  obtain ⟨h1, h2⟩ := seek_at (Yr s d) d.length (· + 1) (fun i => badD (d.getD i 0).toNat) () (Yr_inj s d)
  have hlen : d.length ≤ s.length := by
    rcases cutB_cases s with ⟨r, rfl, hc⟩ | ⟨hh, hc⟩ <;> rw [hc] at hd <;> subst hd <;> simp
  refine ct_loops (n := 0) (d := 1) (T := []) mixed funcs tabOk_nil (loopsOk_cons (rnumLoop s d (by omega) _ _) (loopsOk_cons (rnumLoop2 s d _ _) loopsOk_nil)) ?_
  have hv2 : digs d → d.length ≤ 13 → goodS (fun i => Yn s d (val 0 (d.take i) : Nat) i) (InvV d) (Yn s d 0 0) = true ∧ valS (fun i => Yn s d (val 0 (d.take i) : Nat) i) (InvV d) (fun _ => ((val 0 d : Nat) : Int)) (Yn s d 0 0) = (val 0 d : Nat) := fun h h' =>
    ⟨goodS_eq (S := fun i => Yn s d (val 0 (d.take i) : Nat) i) (v := 0) ⟨Nat.zero_le _, h, h'⟩, valS_eq (S := fun i => Yn s d (val 0 (d.take i) : Nat) i) (v := 0) (fun _ _ _ _ _ => rfl) ⟨Nat.zero_le _, h, h'⟩⟩
  refine (rnum_m _ _ _ _ 0 s d rfl rfl rfl).trans ?_
  have big : badN s = false → d.length > 13 → val 0 d > maxN := by
    intro hb hl
    unfold badN at hb
    rw [hd] at hb
    simp only [Bool.or_eq_false_iff] at hb
    obtain ⟨⟨e1, e2⟩, e3⟩ := hb
    obtain ⟨c, r, rfl⟩ : ∃ c r, d = c :: r := by cases d with
      | nil => simp at hl
      | cons c r => exact ⟨c, r, rfl⟩
    have hc := digs_of e3 c (List.mem_cons_self ..)
    rw [show decide ((c :: r).length > 1) = true from decide_eq_true (by omega)] at e2
    have hne : ¬ c.toNat = 48 := by simpa using e2
    have hg := val_ge r (put 0 c)
    rw [val_cons]
    have hr : 13 ≤ r.length := by simp at hl; omega
    have hp : 10 ^ 13 ≤ 10 ^ r.length := Nat.pow_le_pow_right (by decide) hr
    have hq : 1 ≤ put 0 c := by rw [put_eq]; omega
    have : 10 ^ r.length ≤ put 0 c * 10 ^ r.length := Nat.le_mul_of_pos_left _ hq
    unfold maxN; omega
  have tail : ∀ (g : Bool) (t : Int), (badN s = false → d.length ≤ 13 → g = true ∧ t = (val 0 d : Nat)) → (bif d == [] then true else bif ((d.getD 0 0).toNat : Int) == 48 then !s == [48] else false) = (d == [] || (d.getD 0 0).toNat == 48 && (decide (d.length > 1) || (cutB s).2)) →
      decide ((d.length : Int) < (s.length : Int)) = (cutB s).2 →
      cond (badS d).1 (some ((.tup [.int .i64 0, .int .i64 1], []))) (cond (bif within 0 d.length then true else !bif (d == []) == false then true else false) (cond (bif d == [] then true else bif ((d.getD 0 0).toNat : Int) == 48 then !s == [48] else false) (some ((.tup [.int .i64 0, .int .i64 1], []))) (cond (decide ((d.length : Int) > 13)) (some ((.tup [.int .i64 0, .int .i64 3], []))) (cond g (cond (decide (t > 1099511627776)) (some ((.tup [.int .i64 0, .int .i64 3], []))) (cond (decide ((d.length : Int) < (s.length : Int))) (some ((.tup [.int .i64 (IntKind.wrap IntKind.i64 (0 - t)), .int .i64 0], []))) (some ((.tup [.int .i64 t, .int .i64 0], []))))) none))) none) = some (φN (numB s)) := by
    intro g t hgt hcond hneg
    rw [head0, hcond, hneg, badS_any]
    cases hb : badN s with
    | true =>
      have hb' := hb
      unfold badN at hb'
      rw [hd] at hb'
      unfold numB φN
      rw [hb]
      revert hb'
      cases d == [] <;> cases (d.getD 0 0).toNat == 48 <;> cases decide (d.length > 1) <;> cases (cutB s).2 <;> cases (d.any fun c => badD c.toNat) <;> simp
    | false =>
      have hb' := hb
      unfold badN at hb'
      rw [hd] at hb'
      simp only [Bool.or_eq_false_iff] at hb'
      obtain ⟨⟨e1, e2⟩, e3⟩ := hb'
      rw [e1, e2, e3]
      unfold numB φN
      rw [hb, hd]
      by_cases hl : d.length > 13
      · rw [decide_eq_true (show (d.length : Int) > 13 by omega), decide_eq_true (big hb hl)]; rfl
      · obtain ⟨rfl, rfl⟩ := hgt hb (by omega)
        rw [decide_eq_false (show ¬ (d.length : Int) > 13 by omega)]
        have hv := take_bound (digs_of e3) (by omega) d.length
        rw [List.take_length] at hv
        by_cases hm : val 0 d > maxN
        · rw [decide_eq_true hm]
          unfold maxN at hm
          rw [decide_eq_true (show ((val 0 d : Nat) : Int) > 1099511627776 by omega)]; rfl
        · rw [decide_eq_false hm]
          unfold maxN at hm
          rw [decide_eq_false (show ¬ ((val 0 d : Nat) : Int) > 1099511627776 by omega), wrap_i64 (by omega) (by omega), Int.zero_sub]
          cases (cutB s).2 <;> rfl
  have hgt : badN s = false → d.length ≤ 13 → goodS (fun i => Yn s d (val 0 (d.take i) : Nat) i) (InvV d) (Yn s d 0 0) = true ∧ valS (fun i => Yn s d (val 0 (d.take i) : Nat) i) (InvV d) (fun _ => ((val 0 d : Nat) : Int)) (Yn s d 0 0) = (val 0 d : Nat) := fun hb hl => by
    unfold badN at hb
    rw [hd] at hb
    simp only [Bool.or_eq_false_iff] at hb
    exact hv2 (digs_of hb.2) hl
  have t0 : Int.toNat 0 = 0 := rfl
  rcases cutB_cases s with ⟨r, rfl, hc⟩ | ⟨hh, hc⟩
  · rw [hc] at hd
    have hdr : r = d := hd
    subst hdr
    have e1 : List.take (Int.toNat ((45 :: r : List UInt8).length : Int) - Int.toNat 1) (List.drop (Int.toNat 1) (45 :: r)) = r := by simp
    rw [e1, h1, h2, t0]
    have a1 : within 0 (45 :: r : List UInt8).length = true := within_of (by omega) (by rw [List.length_cons]; omega)
    have a2 : decide (((45 :: r : List UInt8).length : Int) > 0) = true := decide_eq_true (by rw [List.length_cons]; omega)
    have a3 : decide ((1 : Int) ≤ ((45 :: r : List UInt8).length : Int)) = true := decide_eq_true (by rw [List.length_cons]; omega)
    have a4 : decide (((45 :: r : List UInt8).length : Int) ≤ ((45 :: r : List UInt8).length : Int)) = true := decide_eq_true (Int.le_refl _)
    rw [a1, a2, a3, a4]
    refine tail _ _ hgt ?_ ?_
    · rw [hc, eq48]
      have : ((45 :: r : List UInt8) == [48]) = false := by simp
      rw [this]
      cases r == [] <;> cases (r.getD 0 0).toNat == 48 <;> cases decide (r.length > 1) <;> rfl
    · rw [hc]; exact decide_eq_true (by rw [List.length_cons]; omega)
  · rw [hc] at hd
    have hdr : s = d := hd
    subst hdr
    rw [h1, h2, t0]
    have a2 : (bif decide ((s.length : Int) > 0) then ((s.getD 0 0).toNat : Int) == 45 else false) = false := by
      cases s with
      | nil => rfl
      | cons c r =>
        have hne : c.toNat ≠ 45 := fun h => by
          have : c = 45 := UInt8.toNat_inj.1 h
          subst this; simp at hh
        rw [decide_eq_true (show ((c :: r).length : Int) > 0 by rw [List.length_cons]; omega)]
        show ((c.toNat : Int) == 45) = false
        exact beq_eq_false_iff_ne.2 (by omega)
    have a1 : (bif within 0 s.length then true else !bif decide ((s.length : Int) > 0) == true then true else false) = true := by
      cases s with
      | nil => rfl
      | cons c r => rw [show within 0 (c :: r).length = true from within_of (by omega) (by rw [List.length_cons]; omega)]; rfl
    rw [a1, a2, show (seek s.length (· + 1) (fun i => badD (s.getD i 0).toNat) ()) = badS s from rfl]
    simp only [cond_true, cond_false]
    refine tail _ _ hgt ?_ ?_
    · rw [hc, eq48]
      cases s with
      | nil => rfl
      | cons c r =>
        show (bif c.toNat == 48 then !(c :: r == [48]) else false) = (c.toNat == 48 && (decide ((c :: r).length > 1) || false))
        cases h : c.toNat == 48 with
        | false => rfl
        | true =>
          have : c = 48 := UInt8.toNat_inj.1 (by simpa using h)
          subst this
          cases r <;> simp
    · rw [hc]; exact decide_eq_false (by omega)
end Go.SH

namespace Go.SH
open Go Go.Ab Go.Proofs
set_option linter.unusedVariables false
set_option linter.unusedSimpArgs false
def φR (L : List (List UInt8)) : AV × List AO := (rowA L, [])
def φ3 (x : List UInt8 × List UInt8 × List UInt8) : AV × List AO := (rowA [x.1, x.2.1, x.2.2], [])
def φP (b : Bool) : AV × List AO := (.tup [.arr 1 3 fun _ => [.num .i64], .bool b], [])
set_option maxRecDepth 100000 in
theorem parts_n (g2 : List AV → List AO → Bool) (v2 : List AV → List AO → List (List UInt8)) (m : Nat) (s : List UInt8) {t1 : List (List UInt8)} (h_t1 : v2 [.str s, .str [46]] [] = t1) : runF (V.run [mkE 132 g2 v2 φR] 1 [] [([1, 1, 1, 1, 0, 1, 0], mkO (fun _ => false) (fun _ => ()) retY)] [] 114) m 114 [.str s] [] =
  cond (g2 [.str s, .str [46]] []) (cond ((↑(List.length t1) : Int) != 3) (some ((.tup [.arr 1 3 fun x => [.int .i64 0], .bool false], []))) (none)) (none) := by subst h_t1; kernel_rfl
set_option maxRecDepth 100000 in
theorem parts_3 (g2 : List AV → List AO → Bool) (v2 : List AV → List AO → List UInt8 × List UInt8 × List UInt8) (g3 : List AV → List AO → Bool) (v3 : List AV → List AO → Int × Int) (s : List UInt8) {t1 : List UInt8 × List UInt8 × List UInt8} (h_t1 : v2 [.str s, .str [46]] [] = t1) {t2 : Int × Int} (h_t2 : v3 [.str (List.getD [Prod.fst t1, Prod.fst (Prod.snd t1), Prod.snd (Prod.snd t1)] (Int.toNat 0) [])] [] = t2) {t3 : Int × Int} (h_t3 : v3 [.str (List.getD [Prod.fst t1, Prod.fst (Prod.snd t1), Prod.snd (Prod.snd t1)] (Int.toNat (IntKind.wrap IntKind.i64 (0 + 1))) [])] [] = t3) {t4 : Int × Int} (h_t4 : v3 [.str (List.getD [Prod.fst t1, Prod.fst (Prod.snd t1), Prod.snd (Prod.snd t1)] (Int.toNat (IntKind.wrap IntKind.i64 (IntKind.wrap IntKind.i64 (0 + 1) + 1))) [])] [] = t4) : runF (V.run [mkE 132 g2 v2 φ3, mkE 133 g3 v3 φN] 1 [] [] [] 114) 9 114 [.str s] [] =
  cond (g2 [.str s, .str [46]] []) (cond (g3 [.str (List.getD [Prod.fst t1, Prod.fst (Prod.snd t1), Prod.snd (Prod.snd t1)] (Int.toNat 0) [])] []) (cond (bif bif Prod.snd t2 != 0 then true else decide (Prod.fst t2 < 0) then true else decide (Prod.fst t2 > 999999)) (some ((.tup [.arr 1 3 fun x => [.int .i64 0], .bool false], []))) (cond (g3 [.str (List.getD [Prod.fst t1, Prod.fst (Prod.snd t1), Prod.snd (Prod.snd t1)] (Int.toNat (IntKind.wrap IntKind.i64 (0 + 1))) [])] []) (cond (bif bif Prod.snd t3 != 0 then true else decide (Prod.fst t3 < 0) then true else decide (Prod.fst t3 > 999999)) (some ((.tup [.arr 1 3 fun x => [.int .i64 0], .bool false], []))) (cond (g3 [.str (List.getD [Prod.fst t1, Prod.fst (Prod.snd t1), Prod.snd (Prod.snd t1)] (Int.toNat (IntKind.wrap IntKind.i64 (IntKind.wrap IntKind.i64 (0 + 1) + 1))) [])] []) (cond (bif bif Prod.snd t4 != 0 then true else decide (Prod.fst t4 < 0) then true else decide (Prod.fst t4 > 999999)) (some ((.tup [.arr 1 3 fun x => [.int .i64 0], .bool false], []))) (some ((.tup [.arr 1 3 fun j => bif Nat.beq j (Int.toNat (IntKind.wrap IntKind.i64 (IntKind.wrap IntKind.i64 (0 + 1) + 1))) then [.int .i64 (Prod.fst t4)] else bif Nat.beq j (Int.toNat (IntKind.wrap IntKind.i64 (0 + 1))) then [.int .i64 (Prod.fst t3)] else bif Nat.beq j (Int.toNat 0) then [.int .i64 (Prod.fst t2)] else [.int .i64 0], .bool true], [])))) (none))) (none))) (none)) (none) := by subst h_t4 h_t3 h_t2 h_t1; kernel_rfl
def badP (p : List UInt8) : Bool := bif bif (numB p).2 != 0 then true else decide ((numB p).1 < 0) then true else decide ((numB p).1 > 999999)
def partsB (s : List UInt8) : Bool := match Lib.split s [46] with
  | [a, b, c] => !badP a && (!badP b && !badP c)
  | _ => false
theorem splitK_len (sep : List UInt8) : ∀ (k : Nat) (s : List UInt8), ∀ p ∈ Lib.splitK sep 0 k s, p.length ≤ s.length
  | 0, s, p, h => by simp [Lib.splitK] at h; subst h; exact Nat.le_refl _
  | k + 1, s, p, h => by
    unfold Lib.splitK at h
    split at h
    · simp at h; subst h; exact Nat.le_refl _
    · rcases List.mem_cons.1 h with rfl | h
      · rw [List.length_take]; exact Nat.min_le_right _ _
      · have := splitK_len sep k _ p h
        rw [List.length_drop] at this; omega
theorem partsRes {f : FuncId} {s : List UInt8} {b : Bool} {get : Nat → List AV} (hg : ∀ j, j < 3 → ∃ n, get j = [.int .i64 n]) (h : Ct V.P V.G f [.str s] [] (.tup [.arr 1 3 get, .bool b], [])) : Ct V.P V.G f [.str s] [] (φP b) := by
  refine Ct.res h rfl fun c v hr => ?_
  cases hr with
  | tup _ vs hs hu =>
    refine .tup _ _ (by simpa using hs) fun i u hi => ?_
    match i, hi with
    | 0, hi =>
      simp at hi; subst hi
      have h0 := hu 0 _ rfl
      generalize vs.getD 0 undef = w at h0 ⊢
      cases h0 with
      | arr _ _ _ ws h1 h2 h3 h4 => exact .arr _ _ _ ws h1 (fun j hj => ⟨rfl, rfl⟩) (fun j i u hj hu => by match i, hu with | 0, hu => simp at hu; subst hu; rfl) (fun j i u hj hu => by
        match i, hu with
        | 0, hu =>
          simp at hu; subst hu
          obtain ⟨n, hn⟩ := hg j hj
          have h5 := h4 j 0 (.int .i64 n) hj (by rw [hn]; rfl)
          generalize ws.getD (j * 1 + 0) undef = w at h5 ⊢
          cases h5; exact .num _ _)
    | 1, hi => simp at hi; subst hi; exact hu 1 _ rfl
set_option maxRecDepth 100000 in
theorem parts_ok (s : List UInt8) (hs : s.length ≤ 1048576) : Ct V.P V.G 114 [.str s] [] (φP (partsB s)) := by
  have hsp := dots_ok s hs
  have hlen : ∀ p ∈ Lib.split s [46], p.length ≤ 1048576 := fun p hp => Nat.le_trans (splitK_len _ _ _ p hp) hs
  by_cases h3 : (Lib.split s [46]).length = 3
  · obtain ⟨a, b, c, he⟩ : ∃ a b c, Lib.split s [46] = [a, b, c] := by
      match hL : Lib.split s [46], h3 with
      | [a, b, c], _ => exact ⟨a, b, c, rfl⟩
    rw [he] at hsp hlen
    have ha := hlen a (by simp)
    have hb := hlen b (by simp)
    have hc := hlen c (by simp)
    have hn : ∀ p : List UInt8, p.length ≤ 1048576 → Ct V.P V.G 133 ((fun p : List UInt8 => [AV.str p]) p) [] (φN (numB p)) := fun p hp => num_ok p hp
    have hi : ∀ a b : List UInt8, (fun p : List UInt8 => [AV.str p]) a = (fun p : List UInt8 => [AV.str p]) b → numB a = numB b := fun a b h => by simp at h; rw [h]
    have hcall : ∀ p : List UInt8, p.length ≤ 1048576 → gF (fun p : List UInt8 => [AV.str p]) (fun p => p.length ≤ 1048576) [.str p] [] = true := fun p hp => gF_eq (A := fun p : List UInt8 => [AV.str p]) (a := p) hp
    have hval : ∀ p : List UInt8, p.length ≤ 1048576 → vF (fun p : List UInt8 => [AV.str p]) (fun p => p.length ≤ 1048576) numB [.str p] [] = numB p := fun p hp => vF_eq (A := fun p : List UInt8 => [AV.str p]) hi (a := p) hp
    have hrun : ∀ r, runF (V.run [ent1 132 [.str s, .str [46]] (a, b, c) φ3, entF 133 (fun p : List UInt8 => [AV.str p]) (fun p => p.length ≤ 1048576) numB φN] 1 [] [] [] 114) 9 114 [.str s] [] = some r → Ct V.P V.G 114 [.str s] [] r := fun r h =>
      ct_loops (n := 9) (d := 1) (L := []) (T := [ent1 132 [.str s, .str [46]] (a, b, c) φ3, entF 133 (fun p : List UInt8 => [AV.str p]) (fun p => p.length ≤ 1048576) numB φN]) mixed funcs (tabOk_cons (ent1_ok (φ := φ3) (w := (a, b, c)) hsp) (tabOk_cons (entF_ok (φ := φN) (w := numB) hn) tabOk_nil)) loopsOk_nil h
    have hq := parts_3 (g1 [.str s, .str [46]]) (v1 [.str s, .str [46]] (a, b, c)) (gF (fun p : List UInt8 => [AV.str p]) (fun p => p.length ≤ 1048576)) (vF (fun p : List UInt8 => [AV.str p]) (fun p => p.length ≤ 1048576) numB) s (v1_eq _ _) (hval a ha) (hval b hb) (hval c hc)
    have ga := hcall a ha
    have gb := hcall b hb
    have gc := hcall c hc
    have hq2 : runF (V.run [ent1 132 [.str s, .str [46]] (a, b, c) φ3, entF 133 (fun p : List UInt8 => [AV.str p]) (fun p => p.length ≤ 1048576) numB φN] 1 [] [] [] 114) 9 114 [.str s] [] =
        some (bif badP a then (.tup [.arr 1 3 fun _ => [.int .i64 0], .bool false], []) else bif badP b then (.tup [.arr 1 3 fun _ => [.int .i64 0], .bool false], []) else bif badP c then (.tup [.arr 1 3 fun _ => [.int .i64 0], .bool false], []) else
          (.tup [.arr 1 3 fun j => bif Nat.beq j 2 then [.int .i64 (numB c).1] else bif Nat.beq j 1 then [.int .i64 (numB b).1] else bif Nat.beq j 0 then [.int .i64 (numB a).1] else [.int .i64 0], .bool true], [])) := by
      refine hq.trans ?_
      show cond _ (cond (gF (fun p : List UInt8 => [AV.str p]) (fun p => p.length ≤ 1048576) [.str a] []) (cond (badP a) _ (cond (gF (fun p : List UInt8 => [AV.str p]) (fun p => p.length ≤ 1048576) [.str b] []) (cond (badP b) _ (cond (gF (fun p : List UInt8 => [AV.str p]) (fun p => p.length ≤ 1048576) [.str c] []) (cond (badP c) _ _) none)) none)) none) none = _
      rw [g1_eq, ga, gb, gc]
      cases badP a <;> cases badP b <;> cases badP c <;> rfl
    have h := hrun _ hq2
    unfold partsB
    rw [he]
    simp only
    cases hA : badP a with
    | true => rw [hA] at h; exact partsRes (get := fun _ => [.int .i64 0]) (fun _ _ => ⟨0, rfl⟩) h
    | false =>
      cases hB : badP b with
      | true => rw [hA, hB] at h; exact partsRes (get := fun _ => [.int .i64 0]) (fun _ _ => ⟨0, rfl⟩) h
      | false =>
        cases hC : badP c with
        | true => rw [hA, hB, hC] at h; exact partsRes (get := fun _ => [.int .i64 0]) (fun _ _ => ⟨0, rfl⟩) h
        | false =>
          rw [hA, hB, hC] at h
          refine partsRes (get := fun j => bif Nat.beq j 2 then [.int .i64 (numB c).1] else bif Nat.beq j 1 then [.int .i64 (numB b).1] else bif Nat.beq j 0 then [.int .i64 (numB a).1] else [.int .i64 0]) (fun j _ => ?_) h
          cases Nat.beq j 2 <;> cases Nat.beq j 1 <;> cases Nat.beq j 0 <;> exact ⟨_, rfl⟩
  · have hb : partsB s = false := by
      unfold partsB
      split
      · rename_i h; rw [h] at h3; exact absurd rfl h3
      · rfl
    rw [hb]
    refine partsRes (get := fun _ => [.int .i64 0]) (fun _ _ => ⟨0, rfl⟩) ?_
    refine ct_loops (n := 0) (d := 1) (T := [ent1 132 [.str s, .str [46]] (Lib.split s [46]) φR]) (L := [([1, 1, 1, 1, 0, 1, 0], mkO (fun _ => false) (fun _ => ()) retY)]) mixed funcs (tabOk_cons (ent1_ok hsp) tabOk_nil) (loopsOk_cons (fun st k r h => by unfold mkO at h; cases h) loopsOk_nil) ?_
    refine (parts_n (g1 _) (v1 _ (Lib.split s [46])) 0 s (v1_eq _ _)).trans ?_
    rw [g1_eq, show (((Lib.split s [46]).length : Int) != 3) = true from bne_iff_ne.2 (by omega)]
    rfl
end Go.SH

namespace Go.SH
open Go Go.Ab Go.Proofs
set_option linter.unusedVariables false
set_option linter.unusedSimpArgs false
def mkU (g : St → Bool) (v : St → Nat) (slot ex : Nat) : Orc := fun s k => cond (g s) (k (.exit ex) { env := aput s.env slot (.int .i64 (v s)), objs := s.objs }) none
instance : Inhabited St := ⟨{ env := [], objs := [] }⟩
open Classical in
theorem loopOk_upd {α : Type} {X : Cfg} {f : FuncId} {p : List Nat} {b : Code} (S : α → St) (Inv : α → Prop) (μ : α → Nat) (w : α → Nat) (slot ex : Nat) (hi : ∀ a b, Inv a → Inv b → S a = S b → w a = w b) (hb : subC (bodyOf X.P f) p = .loop b) (m : Nat)
    (round : ∀ v, Inv v → ∀ (k : Ex → St → Res) (kn : St → Res), (∀ v', Inv v' → μ v' < μ v → kn (S v') = k (.exit ex) { env := aput (S v').env slot (.int .i64 (w v')), objs := (S v').objs }) → roundR X f m p (S v) kn k = k (.exit ex) { env := aput (S v).env slot (.int .i64 (w v)), objs := (S v).objs }) :
    LoopOk X f p (mkU (goodS S Inv) (valS S Inv w) slot ex) := by
  intro s k r h
  have hl := loopOk_of (τ := St) S Inv μ (fun a => { env := aput (S a).env slot (.int .i64 (w a)), objs := (S a).objs }) (fun st k => k (.exit ex) st) hb m round
  refine hl s k r ?_
  unfold mkU at h
  unfold mkO
  obtain ⟨hg, h⟩ := cond_none h
  rw [hg]
  have hx : ∃ a, Inv a ∧ S a = s := by unfold goodS at hg; exact of_decide_eq_true hg
  obtain ⟨a, ha, rfl⟩ := hx
  rw [valS_eq hi ha] at h
  rw [cond_true, valS_eq (w := fun a => ({ env := aput (S a).env slot (.int .i64 (w a)), objs := (S a).objs } : St)) (fun a b ha hb e => by show St.mk _ _ = St.mk _ _; rw [e, hi a b ha hb e]) ha]
  exact h
def Yq (s : List UInt8) (g2 g4 : Nat → List AV) (at' : Nat) (i from' : Int) : St := { env := [(0, .str s), (2, .ref 2 0), (4, .ref 4 0), (5, .int .i64 at'), (6, .int .i64 i), (7, .int .i64 from')], objs := [(2, .arr 1 3 g2), (4, .arr 1 3 g4)] }
set_option maxRecDepth 100000 in
theorem rparts_r (T : List Ent) (L : List (List Nat × Orc)) (m : Nat) (s : List UInt8) (g2 g4 : Nat → List AV) (at' : Nat) (i from' : Int) (kn : St → Res) (k : Ex → St → Res)  : roundR (V.run T 1 [] L [] 135) 135 m [1, 1, 1, 0, 1, 0, 0, 1, 0, 0, 1, 0, 0] (Yq s g2 g4 at' i from') kn k =
  cond (bif within (↑at' : Int) (List.length s) then true else !bif decide ((↑at' : Int) < (↑(List.length s) : Int)) == true then true else false) (cond (bif decide ((↑at' : Int) < (↑(List.length s) : Int)) then (↑(UInt8.toNat (List.getD s (Int.toNat (↑at' : Int)) 0)) : Int) != 46 else false) (kn ({ env := [(0, .str s), (2, .ref 2 0), (4, .ref 4 0), (5, .int .i64 (IntKind.wrap IntKind.i64 ((↑at' : Int) + 1))), (6, .int .i64 i), (7, .int .i64 from')], objs := [(2, .arr 1 3 g2), (4, .arr 1 3 g4)] })) (k (.exit 2) ({ env := [(0, .str s), (2, .ref 2 0), (4, .ref 4 0), (5, .int .i64 (↑at' : Int)), (6, .int .i64 i), (7, .int .i64 from')], objs := [(2, .arr 1 3 g2), (4, .arr 1 3 g4)] }))) (none) := by kernel_rfl
set_option maxRecDepth 100000 in
theorem rparts_m (g3 : List AV → List AO → Bool) (v3 : List AV → List AO → Int × Int) (g : St → Bool) (v : St → Nat) (s : List UInt8) {t1 : Nat} (h_t1 : v { env := [(0, .str s), (2, .ref 2 0), (4, .ref 4 0), (5, .int .i64 0), (6, .int .i64 0), (7, .int .i64 0)], objs := [(2, .arr 1 3 fun x => [.int .i64 0]), (4, .arr 1 3 fun x => [.int .i64 0])] } = t1) {t2 : Int × Int} (h_t2 : v3 [.str (List.take (Int.toNat (↑t1 : Int) - Int.toNat 0) (List.drop (Int.toNat 0) s))] [] = t2) {t3 : Nat} (h_t3 : v { env := [(0, .str s), (2, .ref 2 0), (4, .ref 4 0), (5, .int .i64 (IntKind.wrap IntKind.i64 ((↑t1 : Int) + 1))), (6, .int .i64 (IntKind.wrap IntKind.i64 (0 + 1))), (7, .int .i64 (IntKind.wrap IntKind.i64 ((↑t1 : Int) + 1)))], objs := [(2, .arr 1 3 fun x => [.int .i64 0]), (4, .arr 1 3 fun j => bif Nat.beq j (Int.toNat 0) then [.int .i64 (Prod.fst t2)] else [.int .i64 0])] } = t3) {t4 : Int × Int} (h_t4 : v3 [.str (List.take (Int.toNat (↑t3 : Int) - Int.toNat (IntKind.wrap IntKind.i64 ((↑t1 : Int) + 1))) (List.drop (Int.toNat (IntKind.wrap IntKind.i64 ((↑t1 : Int) + 1))) s))] [] = t4) {t5 : Nat} (h_t5 : v { env := [(0, .str s), (2, .ref 2 0), (4, .ref 4 0), (5, .int .i64 (IntKind.wrap IntKind.i64 ((↑t3 : Int) + 1))), (6, .int .i64 (IntKind.wrap IntKind.i64 (IntKind.wrap IntKind.i64 (0 + 1) + 1))), (7, .int .i64 (IntKind.wrap IntKind.i64 ((↑t3 : Int) + 1)))], objs := [(2, .arr 1 3 fun x => [.int .i64 0]), (4, .arr 1 3 fun j => bif Nat.beq j (Int.toNat (IntKind.wrap IntKind.i64 (0 + 1))) then [.int .i64 (Prod.fst t4)] else bif Nat.beq j (Int.toNat 0) then [.int .i64 (Prod.fst t2)] else [.int .i64 0])] } = t5) {t6 : Int × Int} (h_t6 : v3 [.str (List.take (Int.toNat (↑t5 : Int) - Int.toNat (IntKind.wrap IntKind.i64 ((↑t3 : Int) + 1))) (List.drop (Int.toNat (IntKind.wrap IntKind.i64 ((↑t3 : Int) + 1))) s))] [] = t6) : runF (V.run [mkE 157 g3 v3 φN] 1 [] [([1, 1, 1, 0, 1, 0, 0, 1, 0, 0, 1, 0, 0], mkU g v 5 2)] [] 135) 9 135 [.str s] [] =
  cond (g { env := [(0, .str s), (2, .ref 2 0), (4, .ref 4 0), (5, .int .i64 0), (6, .int .i64 0), (7, .int .i64 0)], objs := [(2, .arr 1 3 fun x => [.int .i64 0]), (4, .arr 1 3 fun x => [.int .i64 0])] }) (cond (decide (0 ≤ 0) && (decide (0 ≤ (↑t1 : Int)) && decide ((↑t1 : Int) ≤ (↑(List.length s) : Int)))) (cond (g3 [.str (List.take (Int.toNat (↑t1 : Int) - Int.toNat 0) (List.drop (Int.toNat 0) s))] []) (cond (bif bif bif Prod.snd t2 != 0 then true else decide (Prod.fst t2 < 0) then true else decide (Prod.fst t2 > 999999) then true else !decide (0 < 2) == decide ((↑t1 : Int) < (↑(List.length s) : Int))) (some ((.tup [.arr 1 3 fun x => [.int .i64 0], .bool false], []))) (cond (g { env := [(0, .str s), (2, .ref 2 0), (4, .ref 4 0), (5, .int .i64 (IntKind.wrap IntKind.i64 ((↑t1 : Int) + 1))), (6, .int .i64 (IntKind.wrap IntKind.i64 (0 + 1))), (7, .int .i64 (IntKind.wrap IntKind.i64 ((↑t1 : Int) + 1)))], objs := [(2, .arr 1 3 fun x => [.int .i64 0]), (4, .arr 1 3 fun j => bif Nat.beq j (Int.toNat 0) then [.int .i64 (Prod.fst t2)] else [.int .i64 0])] }) (cond (decide (0 ≤ IntKind.wrap IntKind.i64 ((↑t1 : Int) + 1)) && (decide (IntKind.wrap IntKind.i64 ((↑t1 : Int) + 1) ≤ (↑t3 : Int)) && decide ((↑t3 : Int) ≤ (↑(List.length s) : Int)))) (cond (g3 [.str (List.take (Int.toNat (↑t3 : Int) - Int.toNat (IntKind.wrap IntKind.i64 ((↑t1 : Int) + 1))) (List.drop (Int.toNat (IntKind.wrap IntKind.i64 ((↑t1 : Int) + 1))) s))] []) (cond (bif bif bif Prod.snd t4 != 0 then true else decide (Prod.fst t4 < 0) then true else decide (Prod.fst t4 > 999999) then true else !decide (IntKind.wrap IntKind.i64 (0 + 1) < 2) == decide ((↑t3 : Int) < (↑(List.length s) : Int))) (some ((.tup [.arr 1 3 fun x => [.int .i64 0], .bool false], []))) (cond (g { env := [(0, .str s), (2, .ref 2 0), (4, .ref 4 0), (5, .int .i64 (IntKind.wrap IntKind.i64 ((↑t3 : Int) + 1))), (6, .int .i64 (IntKind.wrap IntKind.i64 (IntKind.wrap IntKind.i64 (0 + 1) + 1))), (7, .int .i64 (IntKind.wrap IntKind.i64 ((↑t3 : Int) + 1)))], objs := [(2, .arr 1 3 fun x => [.int .i64 0]), (4, .arr 1 3 fun j => bif Nat.beq j (Int.toNat (IntKind.wrap IntKind.i64 (0 + 1))) then [.int .i64 (Prod.fst t4)] else bif Nat.beq j (Int.toNat 0) then [.int .i64 (Prod.fst t2)] else [.int .i64 0])] }) (cond (decide (0 ≤ IntKind.wrap IntKind.i64 ((↑t3 : Int) + 1)) && (decide (IntKind.wrap IntKind.i64 ((↑t3 : Int) + 1) ≤ (↑t5 : Int)) && decide ((↑t5 : Int) ≤ (↑(List.length s) : Int)))) (cond (g3 [.str (List.take (Int.toNat (↑t5 : Int) - Int.toNat (IntKind.wrap IntKind.i64 ((↑t3 : Int) + 1))) (List.drop (Int.toNat (IntKind.wrap IntKind.i64 ((↑t3 : Int) + 1))) s))] []) (cond (bif bif bif Prod.snd t6 != 0 then true else decide (Prod.fst t6 < 0) then true else decide (Prod.fst t6 > 999999) then true else !decide (IntKind.wrap IntKind.i64 (IntKind.wrap IntKind.i64 (0 + 1) + 1) < 2) == decide ((↑t5 : Int) < (↑(List.length s) : Int))) (some ((.tup [.arr 1 3 fun x => [.int .i64 0], .bool false], []))) (some ((.tup [.arr 1 3 fun j => bif Nat.beq j (Int.toNat (IntKind.wrap IntKind.i64 (IntKind.wrap IntKind.i64 (0 + 1) + 1))) then [.int .i64 (Prod.fst t6)] else bif Nat.beq j (Int.toNat (IntKind.wrap IntKind.i64 (0 + 1))) then [.int .i64 (Prod.fst t4)] else bif Nat.beq j (Int.toNat 0) then [.int .i64 (Prod.fst t2)] else [.int .i64 0], .bool true], [])))) (none)) (none)) (none))) (none)) (none)) (none))) (none)) (none)) (none) := by subst h_t6 h_t5 h_t4 h_t3 h_t2 h_t1; kernel_rfl
end Go.SH

namespace Go.SH
open Go Go.Ab Go.Proofs
set_option linter.unusedVariables false
set_option linter.unusedSimpArgs false
def nx (l : List UInt8) : Nat := (l.takeWhile (· != 46)).length
theorem nx_nil : nx [] = 0 := rfl
theorem nx_dot (l : List UInt8) : nx (46 :: l) = 0 := rfl
theorem nx_cons {b : UInt8} (h : b ≠ 46) (l : List UInt8) : nx (b :: l) = nx l + 1 := by
  unfold nx
  rw [List.takeWhile_cons_of_pos (by simpa using h)]; rfl
theorem nx_le (l : List UInt8) : nx l ≤ l.length := by
  induction l with
  | nil => exact Nat.le_refl _
  | cons b l ih =>
    by_cases h : b = 46
    · subst h; rw [nx_dot]; exact Nat.zero_le _
    · rw [nx_cons h]; simpa using ih
theorem index_nx (l : List UInt8) : Lib.index l [46] = if nx l < l.length then (nx l : Int) else -1 := by
  induction l with
  | nil => rfl
  | cons b l ih =>
    rw [Lib.index]
    by_cases h : b = 46
    · subst h; rw [nx_dot]; simp
    · have hp : ([46] : List UInt8).isPrefixOf (b :: l) = false := by
        have : (46 == b) = false := by simpa using fun e => h e.symm
        simp [List.isPrefixOf, this]
      rw [hp, nx_cons h, ih]
      by_cases hl : nx l < l.length
      · have : ¬ ((nx l : Int) = -1) := by omega
        simp [hl, this]
      · simp [hl]
theorem split_nx (l : List UInt8) : Lib.split l [46] = if nx l < l.length then l.take (nx l) :: Lib.split (l.drop (nx l + 1)) [46] else [l] := by
  unfold Lib.split
  by_cases h : nx l < l.length
  · rw [if_pos h]
    have hi : Lib.index l [46] = ((nx l : Nat) : Int) := by rw [index_nx, if_pos h]
    rw [Lib.count_hit (by simp) hi, Nat.add_comm 1]
    have hb : (Lib.index l [46] == -1) = false := by rw [hi]; exact beq_eq_false_iff_ne.2 (by omega)
    have hk : ∀ k, Lib.splitK [46] 0 (k + 1) l = if (Lib.index l [46] == -1) = true then [l] else l.take ((Lib.index l [46]).toNat + 0) :: Lib.splitK [46] 0 k (l.drop ((Lib.index l [46]).toNat + [(46 : UInt8)].length)) := fun k => by rw [Lib.splitK]
    rw [hk, hb, hi]
    rfl
  · rw [if_neg h]
    have hi : Lib.index l [46] = -1 := by rw [index_nx, if_neg h]
    rw [Lib.count_miss hi]; rfl
theorem nx_step {l : List UInt8} {i : Nat} (h : i < l.length) (hd : l.getD i 0 ≠ 46) : nx (l.drop i) = nx (l.drop (i + 1)) + 1 := by
  rw [List.drop_eq_getElem_cons h, nx_cons]
  have : l.getD i 0 = l[i] := by simp [List.getD, h]
  rwa [this] at hd
theorem nx_stop {l : List UInt8} {i : Nat} (h : i < l.length) (hd : l.getD i 0 = 46) : nx (l.drop i) = 0 := by
  have : l.getD i 0 = l[i] := by simp [List.getD, h]
  rw [List.drop_eq_getElem_cons h, ← this, hd, nx_dot]
abbrev QA : Type := (Nat → List AV) × (Nat → List AV) × Nat × Int × Int
def QS (s : List UInt8) (a : QA) : St := Yq s a.1 a.2.1 a.2.2.1 a.2.2.2.1 a.2.2.2.2
def QI (s : List UInt8) (a : QA) : Prop := a.2.2.1 ≤ s.length
def QW (s : List UInt8) (a : QA) : Nat := a.2.2.1 + nx (s.drop a.2.2.1)
theorem QW_inj (s : List UInt8) (a b : QA) (h : QS s a = QS s b) : QW s a = QW s b := by
  unfold QS Yq at h
  simp only [St.mk.injEq, List.cons.injEq, Prod.mk.injEq, AV.int.injEq, and_true, true_and] at h
  have : a.2.2.1 = b.2.2.1 := by omega
  unfold QW; rw [this]
theorem rpartsLoop (s : List UInt8) (hs : s.length ≤ 1048576) (T : List Ent) (L : List (List Nat × Orc)) :
    LoopOk (V.run T 1 [] L [] 135) 135 [1, 1, 1, 0, 1, 0, 0, 1, 0, 0, 1, 0, 0] (mkU (goodS (QS s) (QI s)) (valS (QS s) (QI s) (QW s)) 5 2) := by
  refine loopOk_upd (b := subC (bodyOf V.P 135) ([1, 1, 1, 0, 1, 0, 0, 1, 0, 0, 1, 0, 0] ++ [0])) (QS s) (QI s) (fun a => s.length - a.2.2.1) (QW s) 5 2 (fun a b _ _ h => QW_inj s a b h) (by kernel_rfl) 0 fun a ha k kn hk => ?_
  obtain ⟨g2, g4, i, x, y⟩ := a
  have hi : i ≤ s.length := ha
  show roundR _ _ _ _ (Yq s g2 g4 i x y) kn k = _
  rw [rparts_r]
  by_cases h : i < s.length
  · rw [lt_true h, within_lt h, Int.toNat_natCast, wrap_next h (by omega)]
    by_cases hd : s.getD i 0 = 46
    · have e : (((s.getD i 0).toNat : Int) != 46) = false := by rw [hd]; rfl
      rw [e]
      show k (.exit 2) _ = k (.exit 2) { env := aput (Yq s g2 g4 i x y).env 5 (.int .i64 ((i + nx (s.drop i) : Nat) : Int)), objs := _ }
      rw [nx_stop h hd]; rfl
    · have e : (((s.getD i 0).toNat : Int) != 46) = true := bne_iff_ne.2 (fun e => hd (UInt8.toNat_inj.1 (by show _ = 46; omega)))
      rw [e]
      have hn := hk (g2, g4, i + 1, x, y) h (by show s.length - (i + 1) < s.length - i; omega)
      refine Eq.trans ?_ (hn.trans ?_)
      · rfl
      · show k (.exit 2) { env := aput (Yq s g2 g4 (i + 1) x y).env 5 (.int .i64 ((i + 1 + nx (s.drop (i + 1)) : Nat) : Int)), objs := _ } = k (.exit 2) { env := aput (Yq s g2 g4 i x y).env 5 (.int .i64 ((i + nx (s.drop i) : Nat) : Int)), objs := _ }
        rw [nx_step h hd, show i + 1 + nx (s.drop (i + 1)) = i + (nx (s.drop (i + 1)) + 1) by omega]; rfl
  · have hw : within (i : Int) s.length = false := by unfold within; rw [decide_eq_false (show ¬ (i : Int) < s.length by omega)]; cases decide (0 ≤ (i : Int)) <;> rfl
    rw [lt_false h, hw]
    show k (.exit 2) _ = k (.exit 2) { env := aput (Yq s g2 g4 i x y).env 5 (.int .i64 ((i + nx (s.drop i) : Nat) : Int)), objs := _ }
    rw [List.drop_eq_nil_of_le (by omega), nx_nil]; rfl
end Go.SH

namespace Go.SH
open Go Go.Ab Go.Proofs
set_option linter.unusedVariables false
set_option linter.unusedSimpArgs false
theorem condT {α : Type} {b : Bool} {x y : α} (h : b = true) : cond b x y = x := by rw [h]; rfl
theorem slT {a b n : Int} (h0 : 0 ≤ a) (h1 : a ≤ b) (h2 : b ≤ n) : (decide (0 ≤ a) && (decide (a ≤ b) && decide (b ≤ n))) = true := by
  rw [decide_eq_true h0, decide_eq_true h1, decide_eq_true h2]; rfl
theorem parts1 {s : List UInt8} (h : ¬ nx s < s.length) : partsB s = false := by
  unfold partsB; rw [split_nx, if_neg h]
theorem parts2 {s r : List UInt8} (h : nx s < s.length) (hr : s.drop (nx s + 1) = r) (h2 : ¬ nx r < r.length) : partsB s = false := by
  unfold partsB; rw [split_nx, if_pos h, hr, split_nx, if_neg h2]
theorem parts3 {s r q : List UInt8} (h : nx s < s.length) (hr : s.drop (nx s + 1) = r) (h2 : nx r < r.length) (hq : r.drop (nx r + 1) = q) (h3 : nx q < q.length) : partsB s = false := by
  unfold partsB; rw [split_nx, if_pos h, hr, split_nx, if_pos h2, hq, split_nx q, if_pos h3, split_nx (q.drop _)]
  split <;> rename_i he
  · split at he <;> simp at he
  · rfl
theorem parts4 {s r q : List UInt8} (h : nx s < s.length) (hr : s.drop (nx s + 1) = r) (h2 : nx r < r.length) (hq : r.drop (nx r + 1) = q) (h3 : ¬ nx q < q.length) :
    partsB s = (!badP (s.take (nx s)) && (!badP (r.take (nx r)) && !badP q)) := by
  unfold partsB; rw [split_nx, if_pos h, hr, split_nx, if_pos h2, hq, split_nx q, if_neg h3]
theorem pick3 (b c d : Bool) (x y z : Int) : ∃ n, (bif b then [AV.int .i64 x] else bif c then [AV.int .i64 y] else bif d then [AV.int .i64 z] else [AV.int .i64 0]) = [AV.int .i64 n] := by
  cases b <;> cases c <;> cases d <;> exact ⟨_, rfl⟩
def F0 : AV × List AO := (.tup [.arr 1 3 fun _ => [.int .i64 0], .bool false], [])
theorem F0_ok {f : FuncId} {s : List UInt8} (h : Ct V.P V.G f [.str s] [] F0) : Ct V.P V.G f [.str s] [] (φP false) :=
  partsRes (get := fun _ => [.int .i64 0]) (fun _ _ => ⟨0, rfl⟩) h
set_option maxRecDepth 100000 in
theorem rparts_ok (s : List UInt8) (hs : s.length ≤ 1048576) : Ct V.P V.G 135 [.str s] [] (φP (partsB s)) := by
  have hn : ∀ p : List UInt8, p.length ≤ 1048576 → Ct V.P V.G 157 ((fun p : List UInt8 => [AV.str p]) p) [] (φN (numB p)) := fun p hp => rnum_ok p hp
  have hi : ∀ a b : List UInt8, (fun p : List UInt8 => [AV.str p]) a = (fun p : List UInt8 => [AV.str p]) b → numB a = numB b := fun a b h => by simp at h; rw [h]
  have hcall : ∀ p : List UInt8, p.length ≤ 1048576 → gF (fun p : List UInt8 => [AV.str p]) (fun p => p.length ≤ 1048576) [.str p] [] = true := fun p hp => gF_eq (A := fun p : List UInt8 => [AV.str p]) (a := p) hp
  have hval : ∀ p : List UInt8, p.length ≤ 1048576 → vF (fun p : List UInt8 => [AV.str p]) (fun p => p.length ≤ 1048576) numB [.str p] [] = numB p := fun p hp => vF_eq (A := fun p : List UInt8 => [AV.str p]) hi (a := p) hp
  have hgood : ∀ (g2 g4 : Nat → List AV) (i : Nat) (x y : Int), i ≤ s.length → goodS (QS s) (QI s) (Yq s g2 g4 i x y) = true := fun g2 g4 i x y h => goodS_eq (S := QS s) (Inv := QI s) (v := (g2, g4, i, x, y)) h
  have hnext : ∀ (g2 g4 : Nat → List AV) (i : Nat) (x y : Int), i ≤ s.length → valS (QS s) (QI s) (QW s) (Yq s g2 g4 i x y) = i + nx (s.drop i) := fun g2 g4 i x y h => valS_eq (S := QS s) (Inv := QI s) (w := QW s) (v := (g2, g4, i, x, y)) (fun a b _ _ h => QW_inj s a b h) h
  have hrun : ∀ r, runF (V.run [entF 157 (fun p : List UInt8 => [AV.str p]) (fun p => p.length ≤ 1048576) numB φN] 1 [] [([1, 1, 1, 0, 1, 0, 0, 1, 0, 0, 1, 0, 0], mkU (goodS (QS s) (QI s)) (valS (QS s) (QI s) (QW s)) 5 2)] [] 135) 9 135 [.str s] [] = some r → Ct V.P V.G 135 [.str s] [] r := fun r h =>
    ct_loops (n := 9) (d := 1) (T := [entF 157 (fun p : List UInt8 => [AV.str p]) (fun p => p.length ≤ 1048576) numB φN]) mixed funcs (tabOk_cons (entF_ok (φ := φN) (w := numB) hn) tabOk_nil) (loopsOk_cons (rpartsLoop s hs _ _) loopsOk_nil) h
  have e0 : valS (QS s) (QI s) (QW s) (Yq s (fun _ => [.int .i64 0]) (fun _ => [.int .i64 0]) 0 0 0) = nx s := by rw [hnext _ _ 0 0 0 (Nat.zero_le _), List.drop_zero, Nat.zero_add]
  have l1 := nx_le s
  have b1 : (s.take (nx s)).length ≤ 1048576 := by rw [List.length_take]; omega
  have hA := fun {t3 : Nat} {t4 : Int × Int} {t5 : Nat} {t6 : Int × Int} => rparts_m (gF (fun p : List UInt8 => [AV.str p]) (fun p => p.length ≤ 1048576)) (vF (fun p : List UInt8 => [AV.str p]) (fun p => p.length ≤ 1048576) numB) (goodS (QS s) (QI s)) (valS (QS s) (QI s) (QW s)) s (t1 := nx s) (t2 := numB (s.take (nx s))) (t3 := t3) (t4 := t4) (t5 := t5) (t6 := t6) e0 (hval _ b1)
  by_cases d1 : nx s < s.length
  · obtain ⟨r, hr⟩ : ∃ r, s.drop (nx s + 1) = r := ⟨_, rfl⟩
    have w1 : IntKind.wrap .i64 (((nx s : Nat) : Int) + 1) = ((nx s + 1 : Nat) : Int) := wrap_next d1 (by omega)
    have lr : r.length = s.length - (nx s + 1) := by rw [← hr, List.length_drop]
    have l2 := nx_le r
    have b2 : (r.take (nx r)).length ≤ 1048576 := by rw [List.length_take]; omega
    have q2 : List.take (Int.toNat ((nx s + 1 + nx r : Nat) : Int) - Int.toNat ((nx s + 1 : Nat) : Int)) (List.drop (Int.toNat ((nx s + 1 : Nat) : Int)) s) = r.take (nx r) := by
      rw [Int.toNat_natCast, Int.toNat_natCast, Nat.add_sub_cancel_left, hr]
    have e1 : ∀ (g2 g4 : Nat → List AV) (x : Int), valS (QS s) (QI s) (QW s) (Yq s g2 g4 (nx s + 1) x ((nx s + 1 : Nat) : Int)) = nx s + 1 + nx r := fun g2 g4 x => by rw [hnext _ _ _ _ _ (by omega), hr]
    have hB := fun {t5 : Nat} {t6 : Int × Int} => hA (t3 := nx s + 1 + nx r) (t4 := numB (r.take (nx r))) (t5 := t5) (t6 := t6) (by rw [w1]; exact e1 _ _ _) (by rw [w1, q2]; exact hval _ b2)
    have start : ∀ (rest : Option (AV × List AO)) (X : Option (AV × List AO)), X = (cond (badP (s.take (nx s))) (some F0) rest) →
        cond (goodS (QS s) (QI s) (Yq s (fun _ => [.int .i64 0]) (fun _ => [.int .i64 0]) 0 0 0)) (cond (decide ((0 : Int) ≤ 0) && (decide ((0 : Int) ≤ ((nx s : Nat) : Int)) && decide (((nx s : Nat) : Int) ≤ (s.length : Int)))) (cond (gF (fun p : List UInt8 => [AV.str p]) (fun p => p.length ≤ 1048576) [.str (s.take (nx s))] []) (cond (bif badP (s.take (nx s)) then true else !decide ((0 : Int) < 2) == decide (((nx s : Nat) : Int) < (s.length : Int))) (some F0) rest) none) none) none = X := fun rest X hX => by
      rw [hX]
      refine (condT (hgood _ _ 0 0 0 (Nat.zero_le _))).trans ?_
      refine (condT (slT (Int.le_refl _) (by omega) (by omega))).trans ?_
      refine (condT (hcall _ b1)).trans ?_
      rw [decide_eq_true (show ((nx s : Nat) : Int) < (s.length : Int) by omega)]
      cases badP (s.take (nx s)) <;> rfl
    by_cases d2 : nx r < r.length
    · obtain ⟨q, hq⟩ : ∃ q, r.drop (nx r + 1) = q := ⟨_, rfl⟩
      have w3 : IntKind.wrap .i64 (((nx s + 1 + nx r : Nat) : Int) + 1) = ((nx s + 1 + nx r + 1 : Nat) : Int) := wrap_next (n := s.length) (by omega) (by omega)
      have hq' : s.drop (nx s + 1 + nx r + 1) = q := by rw [← hq, ← hr, List.drop_drop]; congr 1
      have lq : q.length = r.length - (nx r + 1) := by rw [← hq, List.length_drop]
      have l3 := nx_le q
      have b3 : (q.take (nx q)).length ≤ 1048576 := by rw [List.length_take]; omega
      have q3 : List.take (Int.toNat ((nx s + 1 + nx r + 1 + nx q : Nat) : Int) - Int.toNat ((nx s + 1 + nx r + 1 : Nat) : Int)) (List.drop (Int.toNat ((nx s + 1 + nx r + 1 : Nat) : Int)) s) = q.take (nx q) := by
        rw [Int.toNat_natCast, Int.toNat_natCast, Nat.add_sub_cancel_left, hq']
      have e2 : ∀ (g2 g4 : Nat → List AV) (x : Int), valS (QS s) (QI s) (QW s) (Yq s g2 g4 (nx s + 1 + nx r + 1) x ((nx s + 1 + nx r + 1 : Nat) : Int)) = nx s + 1 + nx r + 1 + nx q := fun g2 g4 x => by rw [hnext _ _ _ _ _ (by omega), hq']
      have hC := hB (t5 := nx s + 1 + nx r + 1 + nx q) (t6 := numB (q.take (nx q))) (by rw [w3]; exact e2 _ _ _) (by rw [w3, q3]; exact hval _ b3)
      obtain ⟨get, hget, hrun3⟩ : ∃ get : Nat → List AV, (∀ j, j < 3 → ∃ n, get j = [.int .i64 n]) ∧ runF (V.run [entF 157 (fun p : List UInt8 => [AV.str p]) (fun p => p.length ≤ 1048576) numB φN] 1 [] [([1, 1, 1, 0, 1, 0, 0, 1, 0, 0, 1, 0, 0], mkU (goodS (QS s) (QI s)) (valS (QS s) (QI s) (QW s)) 5 2)] [] 135) 9 135 [.str s] [] =
          cond (badP (s.take (nx s))) (some F0) (cond (badP (r.take (nx r))) (some F0) (cond (bif badP (q.take (nx q)) then true else decide (nx q < q.length)) (some F0) (some (.tup [.arr 1 3 get, .bool true], [])))) := by
        refine ⟨fun j => bif Nat.beq j (Int.toNat (IntKind.wrap IntKind.i64 (IntKind.wrap IntKind.i64 (0 + 1) + 1))) then [.int .i64 (numB (q.take (nx q))).1] else bif Nat.beq j (Int.toNat (IntKind.wrap IntKind.i64 (0 + 1))) then [.int .i64 (numB (r.take (nx r))).1] else bif Nat.beq j (Int.toNat 0) then [.int .i64 (numB (s.take (nx s))).1] else [.int .i64 0], ?_, hC.trans ?_⟩
        rotate_left
        · rw [w1, q2, w3, q3]
          refine start _ _ ?_
          cases badP (s.take (nx s)) with
          | true => rfl
          | false =>
            refine Eq.symm ?_
            refine (condT (hgood _ _ (nx s + 1) _ _ (by omega))).trans ?_
            refine (condT (slT (by omega) (by omega) (by omega))).trans ?_
            refine (condT (hcall _ b2)).trans ?_
            rw [decide_eq_true (show ((nx s + 1 + nx r : Nat) : Int) < (s.length : Int) by omega)]
            show cond (bif badP (r.take (nx r)) then true else false) _ _ = cond false _ (cond (badP (r.take (nx r))) _ _)
            cases badP (r.take (nx r)) with
            | true => rfl
            | false =>
              refine (condT (hgood _ _ (nx s + 1 + nx r + 1) _ _ (by omega))).trans ?_
              refine (condT (slT (by omega) (by omega) (by omega))).trans ?_
              refine (condT (hcall _ b3)).trans ?_
              by_cases d3 : nx q < q.length
              · rw [decide_eq_true d3, decide_eq_true (show ((nx s + 1 + nx r + 1 + nx q : Nat) : Int) < (s.length : Int) by omega)]
                show cond (bif badP (q.take (nx q)) then true else true) _ _ = cond false _ (cond false _ (cond (bif badP (q.take (nx q)) then true else true) _ _))
                cases badP (q.take (nx q)) <;> rfl
              · rw [decide_eq_false d3, decide_eq_false (show ¬ ((nx s + 1 + nx r + 1 + nx q : Nat) : Int) < (s.length : Int) by omega)]
                show cond (bif badP (q.take (nx q)) then true else false) _ _ = cond false _ (cond false _ (cond (bif badP (q.take (nx q)) then true else false) _ _))
                cases badP (q.take (nx q)) <;> rfl
        · intro j _
          exact pick3 _ _ _ _ _ _
      by_cases d3 : nx q < q.length
      · rw [parts3 d1 hr d2 hq d3]
        refine F0_ok (hrun _ (hrun3.trans ?_))
        rw [decide_eq_true d3]
        cases badP (s.take (nx s)) <;> cases badP (r.take (nx r)) <;> cases badP (q.take (nx q)) <;> rfl
      · rw [parts4 d1 hr d2 hq d3]
        have hqq : q.take (nx q) = q := List.take_of_length_le (by omega)
        rw [decide_eq_false d3, hqq] at hrun3
        cases hA' : badP (s.take (nx s)) with
        | true => rw [hA'] at hrun3; exact F0_ok (hrun _ hrun3)
        | false =>
          cases hB' : badP (r.take (nx r)) with
          | true => rw [hA', hB'] at hrun3; exact F0_ok (hrun _ hrun3)
          | false =>
            cases hC' : badP q with
            | true => rw [hA', hB', hC'] at hrun3; exact F0_ok (hrun _ hrun3)
            | false => rw [hA', hB', hC'] at hrun3; exact partsRes hget (hrun _ hrun3)
    · rw [parts2 d1 hr d2]
      refine F0_ok (hrun _ ?_)
      refine (hB rfl rfl).trans ?_
      rw [w1, q2]
      refine start _ _ ?_
      cases badP (s.take (nx s)) with
      | true => rfl
      | false =>
        refine Eq.symm ?_
        refine (condT (hgood _ _ (nx s + 1) _ _ (by omega))).trans ?_
        refine (condT (slT (by omega) (by omega) (by omega))).trans ?_
        refine (condT (hcall _ b2)).trans ?_
        refine condT ?_
        rw [decide_eq_false (show ¬ ((nx s + 1 + nx r : Nat) : Int) < (s.length : Int) by omega)]
        cases (bif bif (numB (r.take (nx r))).2 != 0 then true else decide ((numB (r.take (nx r))).1 < 0) then true else decide ((numB (r.take (nx r))).1 > 999999)) <;> rfl
  · rw [parts1 d1]
    refine F0_ok (hrun _ ?_)
    refine (hA rfl rfl rfl rfl).trans ?_
    refine (condT (hgood _ _ 0 0 0 (Nat.zero_le _))).trans ?_
    refine (condT (slT (Int.le_refl _) (by omega) (by omega))).trans ?_
    refine (condT (hcall _ b1)).trans ?_
    refine condT ?_
    rw [decide_eq_false (show ¬ ((nx s : Nat) : Int) < (s.length : Int) by omega)]
    cases (bif bif (numB (s.take (nx s))).2 != 0 then true else decide ((numB (s.take (nx s))).1 < 0) then true else decide ((numB (s.take (nx s))).1 > 999999)) <;> rfl
end Go.SH

namespace Go.SH
open Go Go.Ab Go.Proofs
set_option linter.unusedVariables false
set_option linter.unusedSimpArgs false
structure VAL where
  kind : Int
  num : Int
  text : List UInt8
  list : List (List UInt8)
def VAL.c (v : VAL) : List AV := [.int .i64 v.kind, .int .i64 v.num, .str v.text, strsA v.list]
def Y1 (v : VAL) (i : Nat) : St := { env := [(1, .ref 1 0), (64, strsA v.list), (65, .int .i64 v.list.length), (66, .int .i64 i)], objs := [(1, .cells v.c)] }
def Y2 (v : VAL) (i : Nat) : St := { env := [(1, .ref 1 0), (76, .int .i64 v.list.length), (77, .int .i64 i)], objs := [(1, .cells v.c)] }
set_option maxRecDepth 100000 in
theorem chk_1 (gv vv gp vp : List AV → List AO → Bool) (L : List (List Nat × Orc)) (m : Nat) (v : VAL) (i : Nat) (kn : St → Res) (k : Ex → St → Res)  : roundR (V.run [mkE 66 gv vv φB, mkE 114 gp vp φP] 9 [] L [] 69) 69 m [1, 1, 1, 0, 1, 0, 1, 1, 1, 1, 1, 1, 1, 1, 1, 0, 1, 0, 1, 0] (Y1 v i) kn k =
  cond (decide ((↑i : Int) < (↑(List.length (VAL.list v)) : Int))) (cond (within (↑i : Int) (List.length (VAL.list v))) (cond (gv [.str (List.getD (VAL.list v) (Int.toNat (↑i : Int)) [])] []) (cond (!vv [.str (List.getD (VAL.list v) (Int.toNat (↑i : Int)) [])] []) (k (.ret) ({ env := [(2, .int .i64 2)], objs := [] })) (kn ({ env := [(1, .ref 1 0), (64, strsA (VAL.list v)), (65, .int .i64 (↑(List.length (VAL.list v)) : Int)), (66, .int .i64 (IntKind.wrap IntKind.i64 ((↑i : Int) + 1)))], objs := [(1, .cells (VAL.c v))] }))) (none)) (none)) (k (.exit 1) ({ env := [(1, .ref 1 0)], objs := [(1, .cells (VAL.c v))] })) := by kernel_rfl
set_option maxRecDepth 100000 in
theorem chk_2 (T : List Ent) (L : List (List Nat × Orc)) (m : Nat) (v : VAL) (i : Nat) (kn : St → Res) (k : Ex → St → Res)  : roundR (V.run T 9 [] L [] 69) 69 m [1, 1, 1, 0, 1, 0, 1, 1, 1, 1, 1, 1, 1, 1, 1, 0, 1, 1, 1, 0] (Y2 v i) kn k =
  cond (decide ((↑i : Int) < (↑(List.length (VAL.list v)) : Int))) (cond (bif within (IntKind.wrap IntKind.i64 ((↑i : Int) - 1)) (List.length (VAL.list v)) then true else !bif decide ((↑i : Int) > 0) == true then true else false) (cond (bif within (↑i : Int) (List.length (VAL.list v)) then true else !bif decide ((↑i : Int) > 0) == true then true else false) (cond (bif decide ((↑i : Int) > 0) then !bytesLt (List.getD (VAL.list v) (Int.toNat (IntKind.wrap IntKind.i64 ((↑i : Int) - 1))) []) (List.getD (VAL.list v) (Int.toNat (↑i : Int)) []) else false) (k (.ret) ({ env := [(2, .int .i64 9)], objs := [] })) (kn ({ env := [(1, .ref 1 0), (76, .int .i64 (↑(List.length (VAL.list v)) : Int)), (77, .int .i64 (IntKind.wrap IntKind.i64 ((↑i : Int) + 1)))], objs := [(1, .cells (VAL.c v))] }))) (none)) (none)) (k (.exit 3) ({ env := [], objs := [] })) := by kernel_rfl
set_option maxRecDepth 100000 in
theorem chk_m (gv vv gp vp : List AV → List AO → Bool) (g1 g2 : St → Bool) (v1 v2 : St → Bool × Unit) (v : VAL) {t1 : Bool × Unit} (h_t1 : v1 (Y1 v 0) = t1) {t2 : Bool × Unit} (h_t2 : v2 (Y2 v 0) = t2) : runF (V.run [mkE 66 gv vv φB, mkE 114 gp vp φP] 9 [] [([1, 1, 1, 0, 1, 0, 1, 1, 1, 1, 1, 1, 1, 1, 1, 0, 1, 0, 1, 0], mkO g1 v1 (outB (fun _ k => k .ret { env := [(2, .int .i64 2)], objs := [] }) fun k => k (.exit 1) { env := [(1, .ref 1 0)], objs := [(1, .cells v.c)] })), ([1, 1, 1, 0, 1, 0, 1, 1, 1, 1, 1, 1, 1, 1, 1, 0, 1, 1, 1, 0], mkO g2 v2 (outB (fun _ k => k .ret { env := [(2, .int .i64 9)], objs := [] }) fun k => k (.exit 3) { env := [], objs := [] }))] [] 69) 9 69 [.agg v.c] [] =
  cond (bif decide (VAL.kind v < 1) then true else decide (VAL.kind v > 5)) (some ((.int .i64 7, []))) (cond (VAL.kind v == 1) (cond (VAL.kind v == 1) (cond (!bif VAL.text v == [] then (↑(List.length (VAL.list v)) : Int) == 0 else false) (some ((.int .i64 15, []))) (cond (VAL.kind v == 1) (cond (bif VAL.num v != 0 then VAL.num v != 1 else false) (some ((.int .i64 3, []))) (some ((.int .i64 0, [])))) (cond (VAL.kind v == 2) (cond (bif decide (VAL.num v < -1099511627776) then true else decide (VAL.num v > 1099511627776)) (some ((.int .i64 3, []))) (some ((.int .i64 0, [])))) (cond (VAL.kind v == 3) (cond (gv [.str (VAL.text v)] []) (cond (!vv [.str (VAL.text v)] []) (some ((.int .i64 2, []))) (some ((.int .i64 0, [])))) (none)) (cond (VAL.kind v == 4) (cond (gp [.str (VAL.text v)] []) (cond (!vp [.str (VAL.text v)] []) (some ((.int .i64 1, []))) (some ((.int .i64 0, [])))) (none)) (cond (VAL.kind v == 5) (cond (decide ((↑(List.length (VAL.list v)) : Int) > 20)) (some ((.int .i64 5, []))) (cond (g1 (Y1 v 0)) (cond (Prod.fst t1) (some ((.int .i64 2, []))) (cond (g2 (Y2 v 0)) (cond (Prod.fst t2) (some ((.int .i64 9, []))) (some ((.int .i64 0, [])))) (none))) (none))) (some ((.int .i64 0, []))))))))) (cond (VAL.kind v == 3) (cond (VAL.kind v == 3) (cond (!bif VAL.num v == 0 then (↑(List.length (VAL.list v)) : Int) == 0 else false) (some ((.int .i64 15, []))) (cond (VAL.kind v == 1) (cond (bif VAL.num v != 0 then VAL.num v != 1 else false) (some ((.int .i64 3, []))) (some ((.int .i64 0, [])))) (cond (VAL.kind v == 2) (cond (bif decide (VAL.num v < -1099511627776) then true else decide (VAL.num v > 1099511627776)) (some ((.int .i64 3, []))) (some ((.int .i64 0, [])))) (cond (VAL.kind v == 3) (cond (gv [.str (VAL.text v)] []) (cond (!vv [.str (VAL.text v)] []) (some ((.int .i64 2, []))) (some ((.int .i64 0, [])))) (none)) (cond (VAL.kind v == 4) (cond (gp [.str (VAL.text v)] []) (cond (!vp [.str (VAL.text v)] []) (some ((.int .i64 1, []))) (some ((.int .i64 0, [])))) (none)) (cond (VAL.kind v == 5) (cond (decide ((↑(List.length (VAL.list v)) : Int) > 20)) (some ((.int .i64 5, []))) (cond (g1 (Y1 v 0)) (cond (Prod.fst t1) (some ((.int .i64 2, []))) (cond (g2 (Y2 v 0)) (cond (Prod.fst t2) (some ((.int .i64 9, []))) (some ((.int .i64 0, [])))) (none))) (none))) (some ((.int .i64 0, []))))))))) (cond (!bif VAL.num v == 0 then VAL.text v == [] else false) (some ((.int .i64 15, []))) (cond (VAL.kind v == 1) (cond (bif VAL.num v != 0 then VAL.num v != 1 else false) (some ((.int .i64 3, []))) (some ((.int .i64 0, [])))) (cond (VAL.kind v == 2) (cond (bif decide (VAL.num v < -1099511627776) then true else decide (VAL.num v > 1099511627776)) (some ((.int .i64 3, []))) (some ((.int .i64 0, [])))) (cond (VAL.kind v == 3) (cond (gv [.str (VAL.text v)] []) (cond (!vv [.str (VAL.text v)] []) (some ((.int .i64 2, []))) (some ((.int .i64 0, [])))) (none)) (cond (VAL.kind v == 4) (cond (gp [.str (VAL.text v)] []) (cond (!vp [.str (VAL.text v)] []) (some ((.int .i64 1, []))) (some ((.int .i64 0, [])))) (none)) (cond (VAL.kind v == 5) (cond (decide ((↑(List.length (VAL.list v)) : Int) > 20)) (some ((.int .i64 5, []))) (cond (g1 (Y1 v 0)) (cond (Prod.fst t1) (some ((.int .i64 2, []))) (cond (g2 (Y2 v 0)) (cond (Prod.fst t2) (some ((.int .i64 9, []))) (some ((.int .i64 0, [])))) (none))) (none))) (some ((.int .i64 0, [])))))))))) (cond (VAL.kind v == 4) (cond (!bif VAL.num v == 0 then (↑(List.length (VAL.list v)) : Int) == 0 else false) (some ((.int .i64 15, []))) (cond (VAL.kind v == 1) (cond (bif VAL.num v != 0 then VAL.num v != 1 else false) (some ((.int .i64 3, []))) (some ((.int .i64 0, [])))) (cond (VAL.kind v == 2) (cond (bif decide (VAL.num v < -1099511627776) then true else decide (VAL.num v > 1099511627776)) (some ((.int .i64 3, []))) (some ((.int .i64 0, [])))) (cond (VAL.kind v == 3) (cond (gv [.str (VAL.text v)] []) (cond (!vv [.str (VAL.text v)] []) (some ((.int .i64 2, []))) (some ((.int .i64 0, [])))) (none)) (cond (VAL.kind v == 4) (cond (gp [.str (VAL.text v)] []) (cond (!vp [.str (VAL.text v)] []) (some ((.int .i64 1, []))) (some ((.int .i64 0, [])))) (none)) (cond (VAL.kind v == 5) (cond (decide ((↑(List.length (VAL.list v)) : Int) > 20)) (some ((.int .i64 5, []))) (cond (g1 (Y1 v 0)) (cond (Prod.fst t1) (some ((.int .i64 2, []))) (cond (g2 (Y2 v 0)) (cond (Prod.fst t2) (some ((.int .i64 9, []))) (some ((.int .i64 0, [])))) (none))) (none))) (some ((.int .i64 0, []))))))))) (cond (!bif VAL.num v == 0 then VAL.text v == [] else false) (some ((.int .i64 15, []))) (cond (VAL.kind v == 1) (cond (bif VAL.num v != 0 then VAL.num v != 1 else false) (some ((.int .i64 3, []))) (some ((.int .i64 0, [])))) (cond (VAL.kind v == 2) (cond (bif decide (VAL.num v < -1099511627776) then true else decide (VAL.num v > 1099511627776)) (some ((.int .i64 3, []))) (some ((.int .i64 0, [])))) (cond (VAL.kind v == 3) (cond (gv [.str (VAL.text v)] []) (cond (!vv [.str (VAL.text v)] []) (some ((.int .i64 2, []))) (some ((.int .i64 0, [])))) (none)) (cond (VAL.kind v == 4) (cond (gp [.str (VAL.text v)] []) (cond (!vp [.str (VAL.text v)] []) (some ((.int .i64 1, []))) (some ((.int .i64 0, [])))) (none)) (cond (VAL.kind v == 5) (cond (decide ((↑(List.length (VAL.list v)) : Int) > 20)) (some ((.int .i64 5, []))) (cond (g1 (Y1 v 0)) (cond (Prod.fst t1) (some ((.int .i64 2, []))) (cond (g2 (Y2 v 0)) (cond (Prod.fst t2) (some ((.int .i64 9, []))) (some ((.int .i64 0, [])))) (none))) (none))) (some ((.int .i64 0, [])))))))))))) (cond (VAL.kind v == 2) (cond (!bif VAL.text v == [] then (↑(List.length (VAL.list v)) : Int) == 0 else false) (some ((.int .i64 15, []))) (cond (VAL.kind v == 1) (cond (bif VAL.num v != 0 then VAL.num v != 1 else false) (some ((.int .i64 3, []))) (some ((.int .i64 0, [])))) (cond (VAL.kind v == 2) (cond (bif decide (VAL.num v < -1099511627776) then true else decide (VAL.num v > 1099511627776)) (some ((.int .i64 3, []))) (some ((.int .i64 0, [])))) (cond (VAL.kind v == 3) (cond (gv [.str (VAL.text v)] []) (cond (!vv [.str (VAL.text v)] []) (some ((.int .i64 2, []))) (some ((.int .i64 0, [])))) (none)) (cond (VAL.kind v == 4) (cond (gp [.str (VAL.text v)] []) (cond (!vp [.str (VAL.text v)] []) (some ((.int .i64 1, []))) (some ((.int .i64 0, [])))) (none)) (cond (VAL.kind v == 5) (cond (decide ((↑(List.length (VAL.list v)) : Int) > 20)) (some ((.int .i64 5, []))) (cond (g1 (Y1 v 0)) (cond (Prod.fst t1) (some ((.int .i64 2, []))) (cond (g2 (Y2 v 0)) (cond (Prod.fst t2) (some ((.int .i64 9, []))) (some ((.int .i64 0, [])))) (none))) (none))) (some ((.int .i64 0, []))))))))) (cond (VAL.kind v == 3) (cond (VAL.kind v == 3) (cond (!bif VAL.num v == 0 then (↑(List.length (VAL.list v)) : Int) == 0 else false) (some ((.int .i64 15, []))) (cond (VAL.kind v == 1) (cond (bif VAL.num v != 0 then VAL.num v != 1 else false) (some ((.int .i64 3, []))) (some ((.int .i64 0, [])))) (cond (VAL.kind v == 2) (cond (bif decide (VAL.num v < -1099511627776) then true else decide (VAL.num v > 1099511627776)) (some ((.int .i64 3, []))) (some ((.int .i64 0, [])))) (cond (VAL.kind v == 3) (cond (gv [.str (VAL.text v)] []) (cond (!vv [.str (VAL.text v)] []) (some ((.int .i64 2, []))) (some ((.int .i64 0, [])))) (none)) (cond (VAL.kind v == 4) (cond (gp [.str (VAL.text v)] []) (cond (!vp [.str (VAL.text v)] []) (some ((.int .i64 1, []))) (some ((.int .i64 0, [])))) (none)) (cond (VAL.kind v == 5) (cond (decide ((↑(List.length (VAL.list v)) : Int) > 20)) (some ((.int .i64 5, []))) (cond (g1 (Y1 v 0)) (cond (Prod.fst t1) (some ((.int .i64 2, []))) (cond (g2 (Y2 v 0)) (cond (Prod.fst t2) (some ((.int .i64 9, []))) (some ((.int .i64 0, [])))) (none))) (none))) (some ((.int .i64 0, []))))))))) (cond (!bif VAL.num v == 0 then VAL.text v == [] else false) (some ((.int .i64 15, []))) (cond (VAL.kind v == 1) (cond (bif VAL.num v != 0 then VAL.num v != 1 else false) (some ((.int .i64 3, []))) (some ((.int .i64 0, [])))) (cond (VAL.kind v == 2) (cond (bif decide (VAL.num v < -1099511627776) then true else decide (VAL.num v > 1099511627776)) (some ((.int .i64 3, []))) (some ((.int .i64 0, [])))) (cond (VAL.kind v == 3) (cond (gv [.str (VAL.text v)] []) (cond (!vv [.str (VAL.text v)] []) (some ((.int .i64 2, []))) (some ((.int .i64 0, [])))) (none)) (cond (VAL.kind v == 4) (cond (gp [.str (VAL.text v)] []) (cond (!vp [.str (VAL.text v)] []) (some ((.int .i64 1, []))) (some ((.int .i64 0, [])))) (none)) (cond (VAL.kind v == 5) (cond (decide ((↑(List.length (VAL.list v)) : Int) > 20)) (some ((.int .i64 5, []))) (cond (g1 (Y1 v 0)) (cond (Prod.fst t1) (some ((.int .i64 2, []))) (cond (g2 (Y2 v 0)) (cond (Prod.fst t2) (some ((.int .i64 9, []))) (some ((.int .i64 0, [])))) (none))) (none))) (some ((.int .i64 0, [])))))))))) (cond (VAL.kind v == 4) (cond (!bif VAL.num v == 0 then (↑(List.length (VAL.list v)) : Int) == 0 else false) (some ((.int .i64 15, []))) (cond (VAL.kind v == 1) (cond (bif VAL.num v != 0 then VAL.num v != 1 else false) (some ((.int .i64 3, []))) (some ((.int .i64 0, [])))) (cond (VAL.kind v == 2) (cond (bif decide (VAL.num v < -1099511627776) then true else decide (VAL.num v > 1099511627776)) (some ((.int .i64 3, []))) (some ((.int .i64 0, [])))) (cond (VAL.kind v == 3) (cond (gv [.str (VAL.text v)] []) (cond (!vv [.str (VAL.text v)] []) (some ((.int .i64 2, []))) (some ((.int .i64 0, [])))) (none)) (cond (VAL.kind v == 4) (cond (gp [.str (VAL.text v)] []) (cond (!vp [.str (VAL.text v)] []) (some ((.int .i64 1, []))) (some ((.int .i64 0, [])))) (none)) (cond (VAL.kind v == 5) (cond (decide ((↑(List.length (VAL.list v)) : Int) > 20)) (some ((.int .i64 5, []))) (cond (g1 (Y1 v 0)) (cond (Prod.fst t1) (some ((.int .i64 2, []))) (cond (g2 (Y2 v 0)) (cond (Prod.fst t2) (some ((.int .i64 9, []))) (some ((.int .i64 0, [])))) (none))) (none))) (some ((.int .i64 0, []))))))))) (cond (!bif VAL.num v == 0 then VAL.text v == [] else false) (some ((.int .i64 15, []))) (cond (VAL.kind v == 1) (cond (bif VAL.num v != 0 then VAL.num v != 1 else false) (some ((.int .i64 3, []))) (some ((.int .i64 0, [])))) (cond (VAL.kind v == 2) (cond (bif decide (VAL.num v < -1099511627776) then true else decide (VAL.num v > 1099511627776)) (some ((.int .i64 3, []))) (some ((.int .i64 0, [])))) (cond (VAL.kind v == 3) (cond (gv [.str (VAL.text v)] []) (cond (!vv [.str (VAL.text v)] []) (some ((.int .i64 2, []))) (some ((.int .i64 0, [])))) (none)) (cond (VAL.kind v == 4) (cond (gp [.str (VAL.text v)] []) (cond (!vp [.str (VAL.text v)] []) (some ((.int .i64 1, []))) (some ((.int .i64 0, [])))) (none)) (cond (VAL.kind v == 5) (cond (decide ((↑(List.length (VAL.list v)) : Int) > 20)) (some ((.int .i64 5, []))) (cond (g1 (Y1 v 0)) (cond (Prod.fst t1) (some ((.int .i64 2, []))) (cond (g2 (Y2 v 0)) (cond (Prod.fst t2) (some ((.int .i64 9, []))) (some ((.int .i64 0, [])))) (none))) (none))) (some ((.int .i64 0, []))))))))))))) := by subst h_t2 h_t1; kernel_rfl
def valBad (l : List (List UInt8)) : Bool × Unit := seek l.length (· + 1) (fun i => !validB (l.getD i [])) ()
def ordBad (l : List (List UInt8)) : Bool × Unit := seek l.length (· + 1) (fun i => decide (0 < i) && !bytesLt (l.getD (i - 1) []) (l.getD i [])) ()
def listE (l : List (List UInt8)) : Int := bif decide (l.length > 20) then 5 else bif (valBad l).1 then 2 else bif (ordBad l).1 then 9 else 0
def shapeB (v : VAL) : Bool := bif decide (v.kind ≤ 2) then v.text == [] && v.list.length == 0 else bif decide (v.kind ≤ 4) then v.num == 0 && v.list.length == 0 else v.num == 0 && v.text == []
def checkE (v : VAL) : Int :=
  bif decide (v.kind < 1) || decide (v.kind > 5) then 7 else bif !shapeB v then 15 else
  bif v.kind == 1 then (bif v.num != 0 && v.num != 1 then 3 else 0) else
  bif v.kind == 2 then (bif decide (v.num < -1099511627776) || decide (v.num > 1099511627776) then 3 else 0) else
  bif v.kind == 3 then (bif !validB v.text then 2 else 0) else
  bif v.kind == 4 then (bif !partsB v.text then 1 else 0) else listE v.list
theorem Y1_inj (v : VAL) (i j : Nat) (h : Y1 v i = Y1 v j) : i = j := by
  simp only [Y1, St.mk.injEq, List.cons.injEq, Prod.mk.injEq, AV.int.injEq, and_true, true_and] at h; omega
theorem Y2_inj (v : VAL) (i j : Nat) (h : Y2 v i = Y2 v j) : i = j := by
  simp only [Y2, St.mk.injEq, List.cons.injEq, Prod.mk.injEq, AV.int.injEq, and_true, true_and] at h; omega
def VAL.Ok (v : VAL) : Prop := v.text.length ≤ 1048576 ∧ strsOk v.list
noncomputable abbrev gQ : List AV → List AO → Bool := gF strA (fun s => s.length ≤ 1048576)
noncomputable abbrev vQ (w : List UInt8 → Bool) : List AV → List AO → Bool := vF strA (fun s => s.length ≤ 1048576) w
theorem gQ_eq {s : List UInt8} (h : s.length ≤ 1048576) : gQ [.str s] [] = true := gF_eq (A := strA) h
theorem vQ_eq (w : List UInt8 → Bool) {s : List UInt8} (h : s.length ≤ 1048576) : vQ w [.str s] [] = w s := vF_eq (A := strA) (strA_inj w) h
theorem chkLoop1 (v : VAL) (hv : v.Ok) (L : List (List Nat × Orc)) :
    LoopOk (V.run [entF 66 strA lenS validB φB, entF 114 strA (fun s => s.length ≤ 1048576) partsB φP] 9 [] L [] 69) 69 [1, 1, 1, 0, 1, 0, 1, 1, 1, 1, 1, 1, 1, 1, 1, 0, 1, 0, 1, 0] (mkO (goodS (Y1 v) (· ≤ v.list.length)) (valS (Y1 v) (· ≤ v.list.length) (scanAt v.list.length (· + 1) (fun i => bif !validB (v.list.getD i []) then some () else none))) (outB (fun _ k => k .ret { env := [(2, .int .i64 2)], objs := [] }) fun k => k (.exit 1) { env := [(1, .ref 1 0)], objs := [(1, .cells v.c)] })) :=
  loopOk_seek (b := subC (bodyOf V.P 69) ([1, 1, 1, 0, 1, 0, 1, 1, 1, 1, 1, 1, 1, 1, 1, 0, 1, 0, 1, 0] ++ [0])) (Y1 v) v.list.length (· + 1) (fun i => !validB (v.list.getD i [])) () _ _ (by kernel_rfl) 9 (fun i h => ⟨by omega, by omega⟩)
    (fun i h kn k => by
      refine (chk_1 gS (vS validB) gQ (vQ partsB) L _ v i kn k).trans ?_
      rw [lt_true h, within_lt h, wrap_next h hv.2.1, Int.toNat_natCast, gS_eq (hv.2.at h), vS_eq _ (hv.2.at h)]
      rfl) (fun kn k => by refine (chk_1 gS (vS validB) gQ (vQ partsB) L _ v _ kn k).trans ?_; rw [lt_false (Nat.lt_irrefl _)]; rfl)
theorem chkLoop2 (v : VAL) (hv : v.Ok) (T : List Ent) (L : List (List Nat × Orc)) :
    LoopOk (V.run T 9 [] L [] 69) 69 [1, 1, 1, 0, 1, 0, 1, 1, 1, 1, 1, 1, 1, 1, 1, 0, 1, 1, 1, 0] (mkO (goodS (Y2 v) (· ≤ v.list.length)) (valS (Y2 v) (· ≤ v.list.length) (scanAt v.list.length (· + 1) (fun i => bif decide (0 < i) && !bytesLt (v.list.getD (i - 1) []) (v.list.getD i []) then some () else none))) (outB (fun _ k => k .ret { env := [(2, .int .i64 9)], objs := [] }) fun k => k (.exit 3) { env := [], objs := [] })) :=
  loopOk_seek (b := subC (bodyOf V.P 69) ([1, 1, 1, 0, 1, 0, 1, 1, 1, 1, 1, 1, 1, 1, 1, 0, 1, 1, 1, 0] ++ [0])) (Y2 v) v.list.length (· + 1) (fun i => decide (0 < i) && !bytesLt (v.list.getD (i - 1) []) (v.list.getD i [])) () _ _ (by kernel_rfl) 9 (fun i h => ⟨by omega, by omega⟩)
    (fun i h kn k => by
      refine (chk_2 T L _ v i kn k).trans ?_
      rw [lt_true h, within_lt h, wrap_next h hv.2.1, Int.toNat_natCast]
      by_cases h0 : i = 0
      · subst h0
        rw [zero_gt]
        cases within (IntKind.wrap IntKind.i64 (((0 : Nat) : Int) - 1)) v.list.length <;> rfl
      · obtain ⟨p1, p2, p3⟩ := prev_in h hv.2.1 h0
        rw [p1, p2, p3, decide_eq_true (show 0 < i by omega)]
        rfl) (fun kn k => by refine (chk_2 T L _ v _ kn k).trans ?_; rw [lt_false (Nat.lt_irrefl _)]; rfl)
end Go.SH

namespace Go.SH
open Go Go.Ab Go.Proofs
set_option linter.unusedVariables false
set_option linter.unusedSimpArgs false
theorem check_ok (v : VAL) (hv : v.Ok) : Ct V.P V.G 69 [.agg v.c] [] (φE (checkE v)) := by
  obtain ⟨a1, a2⟩ := seek_at (Y1 v) v.list.length (· + 1) (fun i => !validB (v.list.getD i [])) () (Y1_inj v)
  obtain ⟨b1, b2⟩ := seek_at (Y2 v) v.list.length (· + 1) (fun i => decide (0 < i) && !bytesLt (v.list.getD (i - 1) []) (v.list.getD i [])) () (Y2_inj v)
  have ht : lenS v.text := by have := hv.1; unfold lenS maxS; omega
  refine ct_loops (n := 9) (d := 9) (T := [entF 66 strA lenS validB φB, entF 114 strA (fun s => s.length ≤ 1048576) partsB φP]) mixed funcs (tabOk_cons (entF_ok fun s hs => valid_ok utfOk s hs) (tabOk_cons (entF_ok fun s hs => parts_ok s hs) tabOk_nil)) (loopsOk_cons (chkLoop1 v hv _) (loopsOk_cons (chkLoop2 v hv _ _) loopsOk_nil)) ?_
  refine (chk_m gS (vS validB) gQ (vQ partsB) _ _ _ _ v a2 b2).trans ?_
  rw [a1, b1, gS_eq ht, vS_eq _ ht, gQ_eq hv.1, vQ_eq _ hv.1]
  rw [show seek v.list.length (· + 1) (fun i => !validB (v.list.getD i [])) () = valBad v.list from rfl, show seek v.list.length (· + 1) (fun i => decide (0 < i) && !bytesLt (v.list.getD (i - 1) []) (v.list.getD i [])) () = ordBad v.list from rfl]
  have hl : decide ((v.list.length : Int) > 20) = decide (v.list.length > 20) := by
    by_cases h : v.list.length > 20
    · rw [decide_eq_true h, decide_eq_true (by omega)]
    · rw [decide_eq_false h, decide_eq_false (by omega)]
  have hz : ((v.list.length : Int) == 0) = (v.list.length == 0) := by
    by_cases h : v.list.length = 0
    · rw [h]; rfl
    · rw [beq_eq_false_iff_ne.2 h, beq_eq_false_iff_ne.2 (by omega)]
  rw [hl, hz]
  unfold checkE shapeB listE φE
  generalize decide (v.list.length > 20) = c1
  generalize (v.list.length == 0) = c2
  generalize (valBad v.list).1 = c3
  generalize (ordBad v.list).1 = c4
  generalize validB v.text = c5
  generalize partsB v.text = c6
  generalize (v.text == []) = c7
  generalize (v.num == 0) = c8
  generalize (v.num != 0) = c9
  generalize (v.num != 1) = c10
  generalize decide (v.num < -1099511627776) = c11
  generalize decide (v.num > 1099511627776) = c12
  by_cases k0 : v.kind < 1
  · rw [decide_eq_true k0]; rfl
  · by_cases k5 : v.kind > 5
    · rw [decide_eq_false k0, decide_eq_true k5]; rfl
    · have : v.kind = 1 ∨ v.kind = 2 ∨ v.kind = 3 ∨ v.kind = 4 ∨ v.kind = 5 := by omega
      rcases this with h | h | h | h | h
      · rw [h]; cases c2 <;> cases c7 <;> cases c9 <;> cases c10 <;> rfl
      · rw [h]; cases c2 <;> cases c7 <;> cases c11 <;> cases c12 <;> rfl
      · rw [h]; cases c2 <;> cases c8 <;> cases c5 <;> rfl
      · rw [h]; cases c2 <;> cases c8 <;> cases c6 <;> rfl
      · rw [h]; cases c7 <;> cases c8 <;> cases c1 <;> cases c3 <;> cases c4 <;> rfl
end Go.SH

namespace Go.SH
open Go Go.Ab Go.Proofs
set_option linter.unusedVariables false
set_option linter.unusedSimpArgs false
def Z1 (l : List (List UInt8)) (i : Nat) : St := { env := [(0, strsA l), (3, .int .i64 i)], objs := [] }
def Z2 (l : List (List UInt8)) (i : Nat) : St := { env := [(0, strsA l), (4, .int .i64 (1 + i : Nat))], objs := [] }
set_option maxRecDepth 100000 in
theorem rlist_1 (gv vv : List AV → List AO → Bool) (L : List (List Nat × Orc)) (m : Nat) (l : List (List UInt8)) (i : Nat) (kn : St → Res) (k : Ex → St → Res)  : roundR (V.run [mkE 68 gv vv φB] 1 [] L [] 136) 136 m [1, 1, 0, 1, 0] (Z1 l i) kn k =
  cond (decide ((↑i : Int) < (↑(List.length l) : Int))) (cond (within (↑i : Int) (List.length l)) (cond (gv [.str (List.getD l (Int.toNat (↑i : Int)) [])] []) (cond (!vv [.str (List.getD l (Int.toNat (↑i : Int)) [])] []) (k (.ret) ({ env := [(2, .int .i64 2)], objs := [] })) (kn ({ env := [(0, strsA l), (3, .int .i64 (IntKind.wrap IntKind.i64 ((↑i : Int) + 1)))], objs := [] }))) (none)) (none)) (k (.exit 0) ({ env := [(0, strsA l)], objs := [] })) := by kernel_rfl
set_option maxRecDepth 100000 in
theorem rlist_2 (T : List Ent) (L : List (List Nat × Orc)) (m : Nat) (l : List (List UInt8)) (i : Nat) (kn : St → Res) (k : Ex → St → Res)  : roundR (V.run T 1 [] L [] 136) 136 m [1, 1, 1, 0, 1, 0] (Z2 l i) kn k =
  cond (decide ((↑(1 + i) : Int) < (↑(List.length l) : Int))) (cond (within (↑(1 + i) : Int) (List.length l)) (cond (within (IntKind.wrap IntKind.i64 ((↑(1 + i) : Int) - 1)) (List.length l)) (cond (bytesLt (List.getD l (Int.toNat (↑(1 + i) : Int)) []) (List.getD l (Int.toNat (IntKind.wrap IntKind.i64 ((↑(1 + i) : Int) - 1))) []) || List.getD l (Int.toNat (↑(1 + i) : Int)) [] == List.getD l (Int.toNat (IntKind.wrap IntKind.i64 ((↑(1 + i) : Int) - 1))) []) (k (.ret) ({ env := [(2, .int .i64 9)], objs := [] })) (kn ({ env := [(0, strsA l), (4, .int .i64 (IntKind.wrap IntKind.i64 ((↑(1 + i) : Int) + 1)))], objs := [] }))) (none)) (none)) (k (.exit 2) ({ env := [], objs := [] })) := by kernel_rfl
set_option maxRecDepth 100000 in
theorem rlist_m (gv vv : List AV → List AO → Bool) (g1 g2 : St → Bool) (v1 v2 : St → Bool × Unit) (l : List (List UInt8)) {t1 : Bool × Unit} (h_t1 : v1 (Z1 l 0) = t1) {t2 : Bool × Unit} (h_t2 : v2 { env := [(0, strsA l), (4, .int .i64 1)], objs := [] } = t2) : runF (V.run [mkE 68 gv vv φB] 1 [] [([1, 1, 0, 1, 0], mkO g1 v1 (outB (fun _ k => k .ret { env := [(2, .int .i64 2)], objs := [] }) fun k => k (.exit 0) { env := [(0, strsA l)], objs := [] })), ([1, 1, 1, 0, 1, 0], mkO g2 v2 (outB (fun _ k => k .ret { env := [(2, .int .i64 9)], objs := [] }) fun k => k (.exit 2) { env := [], objs := [] }))] [] 136) 9 136 [strsA l] [] =
  cond (decide ((↑(List.length l) : Int) > 20)) (some ((.int .i64 5, []))) (cond (g1 (Z1 l 0)) (cond (Prod.fst t1) (some ((.int .i64 2, []))) (cond (g2 { env := [(0, strsA l), (4, .int .i64 1)], objs := [] }) (cond (Prod.fst t2) (some ((.int .i64 9, []))) (some ((.int .i64 0, [])))) (none))) (none)) := by subst h_t2 h_t1; kernel_rfl
set_option maxRecDepth 100000 in
theorem rchk_m (gv vv gp vp : List AV → List AO → Bool) (gl : List AV → List AO → Bool) (vl : List AV → List AO → Int) (v : VAL) {t1 : Int} (h_t1 : vl [strsA (VAL.list v)] [] = t1) : runF (V.run [mkE 68 gv vv φB, mkE 135 gp vp φP, mkE 136 gl vl φE] 9 [] [] [] 115) 9 115 [.agg v.c] [] =
  cond (bif decide (VAL.kind v < 1) then true else decide (VAL.kind v > 5)) (some ((.int .i64 7, []))) (cond (!bif bif bif bif VAL.kind v == 1 then true else VAL.kind v == 2 then true else VAL.num v == 0 then bif bif VAL.kind v == 3 then true else VAL.kind v == 4 then true else VAL.text v == [] else false then bif VAL.kind v == 5 then true else (↑(List.length (VAL.list v)) : Int) == 0 else false) (some ((.int .i64 15, []))) (cond (VAL.kind v == 1) (cond (bif VAL.num v != 0 then VAL.num v != 1 else false) (some ((.int .i64 3, []))) (some ((.int .i64 0, [])))) (cond (VAL.kind v == 2) (cond (bif decide (VAL.num v < -1099511627776) then true else decide (VAL.num v > 1099511627776)) (some ((.int .i64 3, []))) (some ((.int .i64 0, [])))) (cond (VAL.kind v == 3) (cond (gv [.str (VAL.text v)] []) (cond (!vv [.str (VAL.text v)] []) (some ((.int .i64 2, []))) (some ((.int .i64 0, [])))) (none)) (cond (VAL.kind v == 4) (cond (gp [.str (VAL.text v)] []) (cond (!vp [.str (VAL.text v)] []) (some ((.int .i64 1, []))) (some ((.int .i64 0, [])))) (none)) (cond (VAL.kind v == 5) (cond (gl [strsA (VAL.list v)] []) (some ((.int .i64 t1, []))) (none)) (some ((.int .i64 0, []))))))))) := by subst h_t1; kernel_rfl
end Go.SH

namespace Go.SH
open Go Go.Ab Go.Proofs
set_option linter.unusedVariables false
set_option linter.unusedSimpArgs false
theorem less_or : ∀ (x y : List UInt8), (bytesLt y x || y == x) = !bytesLt x y
  | [], [] => rfl
  | [], b :: y => rfl
  | a :: x, [] => rfl
  | a :: x, b :: y => by
    have ih := less_or x y
    show ((decide (b < a) || (b == a && bytesLt y x)) || b :: y == a :: x) = !(decide (a < b) || (a == b && bytesLt x y))
    have e : (b :: y == a :: x) = (b == a && y == x) := rfl
    rw [e]
    by_cases h1 : a = b
    · subst h1
      have n1 : decide (a < a) = false := decide_eq_false (by simp)
      rw [n1, show (a == a) = true by simp]
      simpa using ih
    · have h2 : (a == b) = false := by simpa using h1
      have h3 : (b == a) = false := by simpa using fun h => h1 h.symm
      rw [h2, h3]
      have hn : a.toNat ≠ b.toNat := fun h => h1 (UInt8.toNat_inj.1 h)
      by_cases h4 : a < b
      · have h5 : ¬ b < a := by rw [UInt8.lt_iff_toNat_lt] at *; omega
        rw [decide_eq_true h4, decide_eq_false h5]; rfl
      · have h5 : b < a := by rw [UInt8.lt_iff_toNat_lt] at *; omega
        rw [decide_eq_false h4, decide_eq_true h5]; rfl
theorem scan_shift (n : Nat) (p q : Nat → Bool) (hpq : ∀ i, q (i + 1) = p i) : ∀ d i, n - i ≤ d →
    (scanAt (n + 1) (· + 1) (fun j => bif q j then some () else none) (i + 1)).1 = (scanAt n (· + 1) (fun j => bif p j then some () else none) i).1 := by
  intro d
  induction d with
  | zero => intro i h; rw [scanAt_end _ _ _ (by omega), scanAt_end _ _ _ (by omega)]
  | succ d ih =>
    intro i h
    by_cases hi : i < n
    · rw [scanAt_step (fun i _ => Nat.lt_succ_self i) (show i + 1 < n + 1 by omega), scanAt_step (fun i _ => Nat.lt_succ_self i) hi, hpq]
      cases p i with
      | true => rfl
      | false => exact ih (i + 1) (by omega)
    · rw [scanAt_end _ _ _ (by omega), scanAt_end _ _ _ (by omega)]
def ordBad' (l : List (List UInt8)) : Bool × Unit := seek (l.length - 1) (· + 1) (fun i => !bytesLt (l.getD i []) (l.getD (1 + i) [])) ()
theorem ordBad_eq (l : List (List UInt8)) : (ordBad l).1 = (ordBad' l).1 := by
  unfold ordBad ordBad' seek
  cases l with
  | nil => rfl
  | cons a r =>
    rw [scanAt_step (fun i _ => Nat.lt_succ_self i) (show 0 < (a :: r).length by simp)]
    refine Eq.trans ?_ (scan_shift r.length (fun i => !bytesLt ((a :: r).getD i []) ((a :: r).getD (1 + i) [])) (fun i => decide (0 < i) && !bytesLt ((a :: r).getD (i - 1) []) ((a :: r).getD i [])) (fun i => ?_) r.length 0 (by omega))
    · rfl
    · simp only [Nat.add_sub_cancel, Nat.add_comm 1 i]
      rw [decide_eq_true (Nat.succ_pos i)]; rfl
theorem Z1_inj (l : List (List UInt8)) (i j : Nat) (h : Z1 l i = Z1 l j) : i = j := by
  simp only [Z1, St.mk.injEq, List.cons.injEq, Prod.mk.injEq, AV.int.injEq, and_true, true_and] at h; omega
theorem Z2_inj (l : List (List UInt8)) (i j : Nat) (h : Z2 l i = Z2 l j) : i = j := by
  simp only [Z2, St.mk.injEq, List.cons.injEq, Prod.mk.injEq, AV.int.injEq, and_true, true_and] at h; omega
theorem rlist_ok (l : List (List UInt8)) (hl : strsOk l) : Ct V.P V.G 136 [strsA l] [] (φE (listE l)) := by
  have hm := hl.1
  obtain ⟨a1, a2⟩ := seek_at (Z1 l) l.length (· + 1) (fun i => !validB (l.getD i [])) () (Z1_inj l)
  obtain ⟨b1, b2⟩ := seek_at (Z2 l) (l.length - 1) (· + 1) (fun i => !bytesLt (l.getD i []) (l.getD (1 + i) [])) () (Z2_inj l)
  have h1 := fun L => loopOk_seek (X := V.run [entF 68 strA lenS validB φB] 1 [] L [] 136) (f := 136) (p := [1, 1, 0, 1, 0]) (b := subC (bodyOf V.P 136) ([1, 1, 0, 1, 0] ++ [0])) (Z1 l) l.length (· + 1) (fun i => !validB (l.getD i [])) () (fun _ k => k .ret { env := [(2, .int .i64 2)], objs := [] }) (fun k => k (.exit 0) { env := [(0, strsA l)], objs := [] }) (by kernel_rfl) 9 (fun i h => ⟨by omega, by omega⟩)
    (fun i h kn k => by
      refine (rlist_1 gS (vS validB) L _ l i kn k).trans ?_
      rw [lt_true h, within_lt h, wrap_next h hm, Int.toNat_natCast, gS_eq (hl.at h), vS_eq _ (hl.at h)]
      rfl) (fun kn k => by refine (rlist_1 gS (vS validB) L _ l _ kn k).trans ?_; rw [lt_false (Nat.lt_irrefl _)]; rfl)
  have h2 := fun T L => loopOk_seek (X := V.run T 1 [] L [] 136) (f := 136) (p := [1, 1, 1, 0, 1, 0]) (b := subC (bodyOf V.P 136) ([1, 1, 1, 0, 1, 0] ++ [0])) (Z2 l) (l.length - 1) (· + 1) (fun i => !bytesLt (l.getD i []) (l.getD (1 + i) [])) () (fun _ k => k .ret { env := [(2, .int .i64 9)], objs := [] }) (fun k => k (.exit 2) { env := [], objs := [] }) (by kernel_rfl) 9 (fun i h => ⟨by omega, by omega⟩)
    (fun i h kn k => by
      refine (rlist_2 T L _ l i kn k).trans ?_
      have h' : 1 + i < l.length := by omega
      have w : IntKind.wrap .i64 (((1 + i : Nat) : Int) - 1) = ((i : Nat) : Int) := by rw [wrap_i64 (by omega) (by omega)]; omega
      rw [lt_true h', within_lt h', w, within_lt (show i < l.length by omega), wrap_next h' hm, Int.toNat_natCast, Int.toNat_natCast, less_or]
      rfl) (fun kn k => by refine (rlist_2 T L _ l _ kn k).trans ?_; rw [lt_false (by omega)]; rfl)
  refine ct_loops (n := 9) (d := 1) (T := [entF 68 strA lenS validB φB]) mixed funcs (tabOk_cons (entF_ok fun s hs => rvalid_ok utfOk s hs) tabOk_nil) (loopsOk_cons (h1 _) (loopsOk_cons (h2 _ _) loopsOk_nil)) ?_
  refine (rlist_m gS (vS validB) _ _ _ _ l a2 b2).trans ?_
  rw [a1, show goodS (Z2 l) (· ≤ l.length - 1) { env := [(0, strsA l), (4, .int .i64 1)], objs := [] } = true from b1]
  rw [show seek l.length (· + 1) (fun i => !validB (l.getD i [])) () = valBad l from rfl, show seek (l.length - 1) (· + 1) (fun i => !bytesLt (l.getD i []) (l.getD (1 + i) [])) () = ordBad' l from rfl, ← ordBad_eq]
  have hl' : decide ((l.length : Int) > 20) = decide (l.length > 20) := by
    by_cases h : l.length > 20
    · rw [decide_eq_true h, decide_eq_true (by omega)]
    · rw [decide_eq_false h, decide_eq_false (by omega)]
  rw [hl']
  unfold listE φE
  cases decide (l.length > 20) <;> cases (valBad l).1 <;> cases (ordBad l).1 <;> rfl
end Go.SH

namespace Go.SH
open Go Go.Ab Go.Proofs
set_option linter.unusedVariables false
set_option linter.unusedSimpArgs false
theorem rcheck_ok (v : VAL) (hv : v.Ok) : Ct V.P V.G 115 [.agg v.c] [] (φE (checkE v)) := by
  have ht : lenS v.text := by have := hv.1; unfold lenS maxS; omega
  refine ct_loops (n := 9) (d := 9) (L := []) (T := [entF 68 strA lenS validB φB, entF 135 strA (fun s => s.length ≤ 1048576) partsB φP, ent1 136 [strsA v.list] (listE v.list) φE]) mixed funcs (tabOk_cons (entF_ok fun s hs => rvalid_ok utfOk s hs) (tabOk_cons (entF_ok fun s hs => rparts_ok s hs) (tabOk_cons (ent1_ok (rlist_ok v.list hv.2)) tabOk_nil))) loopsOk_nil ?_
  refine (rchk_m gS (vS validB) gQ (vQ partsB) (g1 [strsA v.list]) (v1 [strsA v.list] (listE v.list)) v (v1_eq _ _)).trans ?_
  rw [gS_eq ht, vS_eq _ ht, gQ_eq hv.1, vQ_eq _ hv.1, g1_eq]
  have hz : ((v.list.length : Int) == 0) = (v.list.length == 0) := by
    by_cases h : v.list.length = 0
    · rw [h]; rfl
    · rw [beq_eq_false_iff_ne.2 h, beq_eq_false_iff_ne.2 (by omega)]
  rw [hz]
  unfold checkE shapeB φE
  generalize listE v.list = c1
  generalize (v.list.length == 0) = c2
  generalize validB v.text = c5
  generalize partsB v.text = c6
  generalize (v.text == []) = c7
  generalize (v.num == 0) = c8
  generalize (v.num != 0) = c9
  generalize (v.num != 1) = c10
  generalize decide (v.num < -1099511627776) = c11
  generalize decide (v.num > 1099511627776) = c12
  by_cases k0 : v.kind < 1
  · rw [decide_eq_true k0]; rfl
  · by_cases k5 : v.kind > 5
    · rw [decide_eq_false k0, decide_eq_true k5]; rfl
    · have : v.kind = 1 ∨ v.kind = 2 ∨ v.kind = 3 ∨ v.kind = 4 ∨ v.kind = 5 := by omega
      rcases this with h | h | h | h | h
      · rw [h]; cases c2 <;> cases c7 <;> cases c9 <;> cases c10 <;> rfl
      · rw [h]; cases c2 <;> cases c7 <;> cases c11 <;> cases c12 <;> rfl
      · rw [h]; cases c2 <;> cases c8 <;> cases c5 <;> rfl
      · rw [h]; cases c2 <;> cases c8 <;> cases c6 <;> rfl
      · rw [h]; cases c7 <;> cases c8 <;> rfl
end Go.SH

namespace Go.SH
open Go Go.Ab Go.Proofs
set_option linter.unusedVariables false
set_option linter.unusedSimpArgs false
instance : Inhabited VAL := ⟨⟨0, 0, [], []⟩⟩
def valL (l : List VAL) : AV := .sl .no 4 l.length fun j => (l.getD j default).c
def expC (op : Int) (kind name : List UInt8) (vs : List VAL) (n : Nat) (kids : Nat → List AV) : List AV := [.int .i64 op, .str kind, .str name, valL vs, .sl .no 5 n kids]
set_option maxRecDepth 100000 in
theorem none_m (m : Nat) (op : Int) (kind name : List UInt8) (vs : List VAL) (n : Nat) (kids : Nat → List AV)  : runF (V.run [] 1 [] [] [] 17) m 17 [.agg (expC op kind name vs n kids)] [] =
  some ((.bool (bif bif bif bif op == 0 then kind == [] else false then name == [] else false then (↑(List.length vs) : Int) == 0 else false then (↑n : Int) == 0 else false), [])) := by kernel_rfl
set_option maxRecDepth 100000 in
theorem rnone_m (m : Nat) (op : Int) (kind name : List UInt8) (vs : List VAL) (n : Nat) (kids : Nat → List AV)  : runF (V.run [] 1 [] [] [] 18) m 18 [.agg (expC op kind name vs n kids)] [] =
  some ((.bool (bif bif bif bif op == 0 then kind == [] else false then name == [] else false then (↑(List.length vs) : Int) == 0 else false then (↑n : Int) == 0 else false), [])) := by kernel_rfl
end Go.SH

namespace Go.SH
open Go Go.Ab Go.Proofs
inductive EXP where
  | mk (op : Int) (kind name : List UInt8) (vals : List VAL) (kids : List EXP)
instance : Inhabited EXP := ⟨.mk 0 [] [] [] []⟩
def dC : List AV := expC 0 [] [] [] 0 fun _ => []
namespace EXP
def op : EXP → Int | .mk o _ _ _ _ => o
def kind : EXP → List UInt8 | .mk _ k _ _ _ => k
def name : EXP → List UInt8 | .mk _ _ n _ _ => n
def vals : EXP → List VAL | .mk _ _ _ v _ => v
def kids : EXP → List EXP | .mk _ _ _ _ k => k
mutual
def c : EXP → List AV | .mk o k n v ks => expC o k n v ks.length fun j => (cs ks).getD j dC
def cs : List EXP → List (List AV)
  | [] => []
  | e :: r => c e :: cs r
end
theorem cs_eq : ∀ l : List EXP, cs l = l.map c
  | [] => by rw [cs]; rfl
  | e :: r => by rw [cs, cs_eq r]; rfl
def row (l : List EXP) (j : Nat) : List AV := (l.map c).getD j dC
theorem c_eq (e : EXP) : e.c = expC e.op e.kind e.name e.vals e.kids.length (row e.kids) := by
  cases e with
  | mk o k n v ks => rw [c, cs_eq]; rfl
theorem row_at {l : List EXP} {j : Nat} (h : j < l.length) : row l j = (l.getD j default).c := by
  unfold row
  simp [List.getD, h]
end EXP
def noneB (e : EXP) : Bool := e.op == 0 && (e.kind == [] && (e.name == [] && (e.vals.length == 0 && e.kids.length == 0)))
theorem eq_zero (n : Nat) : ((n : Int) == 0) = (n == 0) := by
  by_cases h : n = 0
  · rw [h]; rfl
  · rw [beq_eq_false_iff_ne.2 h, beq_eq_false_iff_ne.2 (by omega)]
theorem none_ok (e : EXP) : Ct V.P V.G 17 [.agg e.c] [] (φB (noneB e)) := by
  rw [e.c_eq]
  refine ct_loops (n := 0) (d := 1) (T := []) (L := []) mixed funcs tabOk_nil loopsOk_nil ((none_m _ _ _ _ _ _ _).trans ?_)
  rw [eq_zero, eq_zero]
  unfold noneB φB
  cases e.op == 0 <;> cases e.kind == [] <;> cases e.name == [] <;> cases e.vals.length == 0 <;> cases e.kids.length == 0 <;> rfl
theorem rnone_ok (e : EXP) : Ct V.P V.G 18 [.agg e.c] [] (φB (noneB e)) := by
  rw [e.c_eq]
  refine ct_loops (n := 0) (d := 1) (T := []) (L := []) mixed funcs tabOk_nil loopsOk_nil ((rnone_m _ _ _ _ _ _ _).trans ?_)
  rw [eq_zero, eq_zero]
  unfold noneB φB
  cases e.op == 0 <;> cases e.kind == [] <;> cases e.name == [] <;> cases e.vals.length == 0 <;> cases e.kids.length == 0 <;> rfl
end Go.SH

namespace Go.SH
open Go Go.Ab Go.Proofs
set_option linter.unusedVariables false
set_option linter.unusedSimpArgs false
structure PART where
  op : Int
  kind : List UInt8
  name : List UInt8
  vals : List VAL
  n : Nat
  ko : Nat → Int
  kk : Nat → List UInt8
  kn : Nat → List UInt8
  kv : Nat → List VAL
  km : Nat → Nat
  kg : Nat → Nat → List AV
def PART.c (p : PART) : List AV := [.int .i64 p.op, .str p.kind, .str p.name, valL p.vals, .sl .no 5 p.n fun j => [.int .i64 (p.ko j), .str (p.kk j), .str (p.kn j), valL (p.kv j), .sl .no 5 (p.km j) (p.kg j)] ]
def X1 (p : PART) (i : Nat) : St := { env := [(2, .ref 2 0), (35, .sl .no 5 p.n fun j => [.int .i64 (p.ko j), .str (p.kk j), .str (p.kn j), valL (p.kv j), .sl .no 5 (p.km j) (p.kg j)]), (36, .int .i64 p.n), (37, .int .i64 i)], objs := [(2, .cells p.c)] }
def X2 (p : PART) (i : Nat) : St := { env := [(2, .ref 2 0), (83, valL p.vals), (84, .int .i64 p.vals.length), (85, .int .i64 i)], objs := [(2, .cells p.c)] }
def W1 (p : PART) (i : Nat) : St := { env := [(1, .ref 1 0), (3, .int .i64 i)], objs := [(1, .cells p.c)] }
def W2 (p : PART) (i : Nat) : St := { env := [(1, .ref 1 0), (4, .int .i64 i)], objs := [(1, .cells p.c)] }
set_option maxRecDepth 100000 in
theorem part_1 (T : List Ent) (L : List (List Nat × Orc)) (m : Nat) (p : PART) (i : Nat) (kn : St → Res) (k : Ex → St → Res)  : roundR (V.run T 9 [] L [] 106) 106 m [1, 1, 1, 1, 1, 0, 1, 0] (X1 p i) kn k =
  cond (decide ((↑i : Int) < (↑(PART.n p) : Int))) (cond (within (↑i : Int) (PART.n p)) (cond (bif PART.ko p (Int.toNat (↑i : Int)) == PART.op p then bif PART.op p == 2 then true else PART.op p == 3 else false) (k (.ret) ({ env := [(4, .int .i64 15)], objs := [] })) (kn ({ env := [(2, .ref 2 0), (35, .sl .no 5 (PART.n p) fun j => [.int .i64 (PART.ko p j), .str (PART.kk p j), .str (PART.kn p j), valL (PART.kv p j), .sl .no 5 (PART.km p j) (PART.kg p j)]), (36, .int .i64 (↑(PART.n p) : Int)), (37, .int .i64 (IntKind.wrap IntKind.i64 ((↑i : Int) + 1)))], objs := [(2, .cells (PART.c p))] }))) (none)) (k (.exit 0) ({ env := [(2, .ref 2 0)], objs := [(2, .cells (PART.c p))] })) := by kernel_rfl
set_option maxRecDepth 100000 in
theorem part_2 (gv : List AV → List AO → Bool) (vv : List AV → List AO → Int) (gk vk : List AV → List AO → Bool) (L : List (List Nat × Orc)) (m : Nat) (p : PART) (i : Nat) (kn : St → Res) (k : Ex → St → Res) {t1 : Int} (h_t1 : vv [.agg (VAL.c (List.getD (PART.vals p) (Int.toNat (↑i : Int)) default))] [] = t1) : roundR (V.run [mkE 69 gv vv φE, mkE 65 gk vk φB] 9 [] L [] 106) 106 m [1, 1, 1, 1, 1, 1, 1, 0, 1, 0] (X2 p i) kn k =
  cond (decide ((↑i : Int) < (↑(List.length (PART.vals p)) : Int))) (cond (within (↑i : Int) (List.length (PART.vals p))) (cond (gv [.agg (VAL.c (List.getD (PART.vals p) (Int.toNat (↑i : Int)) default))] []) (cond (t1 != 0) (k (.ret) ({ env := [(4, .int .i64 t1)], objs := [] })) (kn ({ env := [(2, .ref 2 0), (83, valL (PART.vals p)), (84, .int .i64 (↑(List.length (PART.vals p)) : Int)), (85, .int .i64 (IntKind.wrap IntKind.i64 ((↑i : Int) + 1)))], objs := [(2, .cells (PART.c p))] }))) (none)) (none)) (k (.exit 2) ({ env := [(2, .ref 2 0)], objs := [(2, .cells (PART.c p))] })) := by subst h_t1; kernel_rfl
set_option maxRecDepth 100000 in
theorem rpart_1 (T : List Ent) (L : List (List Nat × Orc)) (m : Nat) (p : PART) (i : Nat) (kn : St → Res) (k : Ex → St → Res)  : roundR (V.run T 9 [] L [] 107) 107 m [1, 1, 1, 1, 0, 1, 0] (W1 p i) kn k =
  cond (decide ((↑i : Int) < (↑(PART.n p) : Int))) (cond (within (↑i : Int) (PART.n p)) (cond (bif PART.ko p (Int.toNat (↑i : Int)) == PART.op p then PART.op p != 4 else false) (k (.ret) ({ env := [(2, .int .i64 15)], objs := [] })) (kn ({ env := [(1, .ref 1 0), (3, .int .i64 (IntKind.wrap IntKind.i64 ((↑i : Int) + 1)))], objs := [(1, .cells (PART.c p))] }))) (none)) (k (.exit 0) ({ env := [(1, .ref 1 0)], objs := [(1, .cells (PART.c p))] })) := by kernel_rfl
set_option maxRecDepth 100000 in
theorem rpart_2 (gv : List AV → List AO → Bool) (vv : List AV → List AO → Int) (gk vk : List AV → List AO → Bool) (L : List (List Nat × Orc)) (m : Nat) (p : PART) (i : Nat) (kn : St → Res) (k : Ex → St → Res) {t1 : Int} (h_t1 : vv [.agg (VAL.c (List.getD (PART.vals p) (Int.toNat (↑i : Int)) default))] [] = t1) : roundR (V.run [mkE 115 gv vv φE, mkE 67 gk vk φB] 9 [] L [] 107) 107 m [1, 1, 1, 1, 1, 1, 0, 1, 0] (W2 p i) kn k =
  cond (decide ((↑i : Int) < (↑(List.length (PART.vals p)) : Int))) (cond (within (↑i : Int) (List.length (PART.vals p))) (cond (gv [.agg (VAL.c (List.getD (PART.vals p) (Int.toNat (↑i : Int)) default))] []) (cond (t1 != 0) (k (.ret) ({ env := [(2, .int .i64 t1)], objs := [] })) (kn ({ env := [(1, .ref 1 0), (4, .int .i64 (IntKind.wrap IntKind.i64 ((↑i : Int) + 1)))], objs := [(1, .cells (PART.c p))] }))) (none)) (none)) (k (.exit 2) ({ env := [(1, .ref 1 0)], objs := [(1, .cells (PART.c p))] })) := by subst h_t1; kernel_rfl
set_option maxRecDepth 100000 in
theorem part_m (gv : List AV → List AO → Bool) (vv : List AV → List AO → Int) (gk vk : List AV → List AO → Bool) (g1 : St → Bool) (v1 : St → Bool × Unit) (g2 : St → Bool) (v2 : St → Bool × Int) (p : PART) (depth : Int) {t1 : Bool × Unit} (h_t1 : v1 (X1 p 0) = t1) {t2 : Bool × Int} (h_t2 : v2 (X2 p 0) = t2) : runF (V.run [mkE 69 gv vv φE, mkE 65 gk vk φB] 9 [] [([1, 1, 1, 1, 1, 0, 1, 0], mkO g1 v1 (outB (fun _ k => k .ret { env := [(4, .int .i64 15)], objs := [] }) fun k => k (.exit 0) { env := [(2, .ref 2 0)], objs := [(2, .cells p.c)] })), ([1, 1, 1, 1, 1, 1, 1, 0, 1, 0], mkO g2 v2 (outB (retI 4) fun k => k (.exit 2) { env := [(2, .ref 2 0)], objs := [(2, .cells p.c)] }))] [] 106) 9 106 [.agg p.c, .int .i64 depth] [] =
  cond (decide (depth ≥ 10)) (some ((.int .i64 18, []))) (cond (bif decide (PART.op p < 1) then true else decide (PART.op p > 15)) (some ((.int .i64 7, []))) (cond (bif PART.op p == 2 then true else PART.op p == 3) (cond (decide ((↑(PART.n p) : Int) < 2)) (some ((.int .i64 15, []))) (cond (bif !bif decide (PART.op p ≥ 6) then decide (PART.op p ≤ 15) else false then bif !PART.kind p == [] then true else bif !PART.name p == [] then PART.op p != 5 else false else false) (some ((.int .i64 15, []))) (cond (PART.op p == 8) (cond (!decide ((↑(List.length (PART.vals p)) : Int) > 0)) (some ((.int .i64 15, []))) (cond (bif decide ((↑(PART.n p) : Int) > 12) then true else decide ((↑(List.length (PART.vals p)) : Int) > 20)) (some ((.int .i64 5, []))) (cond (g1 (X1 p 0)) (cond (Prod.fst t1) (some ((.int .i64 15, []))) (cond (gk [.str (PART.kind p)] []) (cond (gk [.str (PART.name p)] []) (cond (bif bif bif decide (PART.op p ≥ 6) then decide (PART.op p ≤ 15) else false then !vk [.str (PART.kind p)] [] else false then true else bif bif bif decide (PART.op p ≥ 6) then decide (PART.op p ≤ 15) else false then true else PART.op p == 5 then !vk [.str (PART.name p)] [] else false) (some ((.int .i64 6, []))) (cond (g2 (X2 p 0)) (cond (Prod.fst t2) (some ((.int .i64 (Prod.snd t2), []))) (cond (bif within 0 (List.length (PART.vals p)) then true else !bif (bif bif PART.op p == 9 then true else PART.op p == 10 then true else PART.op p == 11) == true then true else false) (cond (bif bif bif PART.op p == 9 then true else PART.op p == 10 then true else PART.op p == 11 then VAL.kind (List.getD (PART.vals p) (Int.toNat 0) default) != 3 else false) (some ((.int .i64 8, []))) (some ((.int .i64 0, [])))) (none))) (none))) (none)) (none))) (none)))) (cond (bif bif decide (PART.op p ≥ 6) then decide (PART.op p ≤ 15) else false then PART.op p != 6 else false) (cond (!(↑(List.length (PART.vals p)) : Int) == 1) (some ((.int .i64 15, []))) (cond (bif decide ((↑(PART.n p) : Int) > 12) then true else decide ((↑(List.length (PART.vals p)) : Int) > 20)) (some ((.int .i64 5, []))) (cond (g1 (X1 p 0)) (cond (Prod.fst t1) (some ((.int .i64 15, []))) (cond (gk [.str (PART.kind p)] []) (cond (gk [.str (PART.name p)] []) (cond (bif bif bif decide (PART.op p ≥ 6) then decide (PART.op p ≤ 15) else false then !vk [.str (PART.kind p)] [] else false then true else bif bif bif decide (PART.op p ≥ 6) then decide (PART.op p ≤ 15) else false then true else PART.op p == 5 then !vk [.str (PART.name p)] [] else false) (some ((.int .i64 6, []))) (cond (g2 (X2 p 0)) (cond (Prod.fst t2) (some ((.int .i64 (Prod.snd t2), []))) (cond (bif within 0 (List.length (PART.vals p)) then true else !bif (bif bif PART.op p == 9 then true else PART.op p == 10 then true else PART.op p == 11) == true then true else false) (cond (bif bif bif PART.op p == 9 then true else PART.op p == 10 then true else PART.op p == 11 then VAL.kind (List.getD (PART.vals p) (Int.toNat 0) default) != 3 else false) (some ((.int .i64 8, []))) (some ((.int .i64 0, [])))) (none))) (none))) (none)) (none))) (none)))) (cond (!(↑(List.length (PART.vals p)) : Int) == 0) (some ((.int .i64 15, []))) (cond (bif decide ((↑(PART.n p) : Int) > 12) then true else decide ((↑(List.length (PART.vals p)) : Int) > 20)) (some ((.int .i64 5, []))) (cond (g1 (X1 p 0)) (cond (Prod.fst t1) (some ((.int .i64 15, []))) (cond (gk [.str (PART.kind p)] []) (cond (gk [.str (PART.name p)] []) (cond (bif bif bif decide (PART.op p ≥ 6) then decide (PART.op p ≤ 15) else false then !vk [.str (PART.kind p)] [] else false then true else bif bif bif decide (PART.op p ≥ 6) then decide (PART.op p ≤ 15) else false then true else PART.op p == 5 then !vk [.str (PART.name p)] [] else false) (some ((.int .i64 6, []))) (cond (g2 (X2 p 0)) (cond (Prod.fst t2) (some ((.int .i64 (Prod.snd t2), []))) (cond (bif within 0 (List.length (PART.vals p)) then true else !bif (bif bif PART.op p == 9 then true else PART.op p == 10 then true else PART.op p == 11) == true then true else false) (cond (bif bif bif PART.op p == 9 then true else PART.op p == 10 then true else PART.op p == 11 then VAL.kind (List.getD (PART.vals p) (Int.toNat 0) default) != 3 else false) (some ((.int .i64 8, []))) (some ((.int .i64 0, [])))) (none))) (none))) (none)) (none))) (none)))))))) (cond (PART.op p == 4) (cond ((↑(PART.n p) : Int) != 1) (some ((.int .i64 15, []))) (cond (bif !bif decide (PART.op p ≥ 6) then decide (PART.op p ≤ 15) else false then bif !PART.kind p == [] then true else bif !PART.name p == [] then PART.op p != 5 else false else false) (some ((.int .i64 15, []))) (cond (PART.op p == 8) (cond (!decide ((↑(List.length (PART.vals p)) : Int) > 0)) (some ((.int .i64 15, []))) (cond (bif decide ((↑(PART.n p) : Int) > 12) then true else decide ((↑(List.length (PART.vals p)) : Int) > 20)) (some ((.int .i64 5, []))) (cond (g1 (X1 p 0)) (cond (Prod.fst t1) (some ((.int .i64 15, []))) (cond (gk [.str (PART.kind p)] []) (cond (gk [.str (PART.name p)] []) (cond (bif bif bif decide (PART.op p ≥ 6) then decide (PART.op p ≤ 15) else false then !vk [.str (PART.kind p)] [] else false then true else bif bif bif decide (PART.op p ≥ 6) then decide (PART.op p ≤ 15) else false then true else PART.op p == 5 then !vk [.str (PART.name p)] [] else false) (some ((.int .i64 6, []))) (cond (g2 (X2 p 0)) (cond (Prod.fst t2) (some ((.int .i64 (Prod.snd t2), []))) (cond (bif within 0 (List.length (PART.vals p)) then true else !bif (bif bif PART.op p == 9 then true else PART.op p == 10 then true else PART.op p == 11) == true then true else false) (cond (bif bif bif PART.op p == 9 then true else PART.op p == 10 then true else PART.op p == 11 then VAL.kind (List.getD (PART.vals p) (Int.toNat 0) default) != 3 else false) (some ((.int .i64 8, []))) (some ((.int .i64 0, [])))) (none))) (none))) (none)) (none))) (none)))) (cond (bif bif decide (PART.op p ≥ 6) then decide (PART.op p ≤ 15) else false then PART.op p != 6 else false) (cond (!(↑(List.length (PART.vals p)) : Int) == 1) (some ((.int .i64 15, []))) (cond (bif decide ((↑(PART.n p) : Int) > 12) then true else decide ((↑(List.length (PART.vals p)) : Int) > 20)) (some ((.int .i64 5, []))) (cond (g1 (X1 p 0)) (cond (Prod.fst t1) (some ((.int .i64 15, []))) (cond (gk [.str (PART.kind p)] []) (cond (gk [.str (PART.name p)] []) (cond (bif bif bif decide (PART.op p ≥ 6) then decide (PART.op p ≤ 15) else false then !vk [.str (PART.kind p)] [] else false then true else bif bif bif decide (PART.op p ≥ 6) then decide (PART.op p ≤ 15) else false then true else PART.op p == 5 then !vk [.str (PART.name p)] [] else false) (some ((.int .i64 6, []))) (cond (g2 (X2 p 0)) (cond (Prod.fst t2) (some ((.int .i64 (Prod.snd t2), []))) (cond (bif within 0 (List.length (PART.vals p)) then true else !bif (bif bif PART.op p == 9 then true else PART.op p == 10 then true else PART.op p == 11) == true then true else false) (cond (bif bif bif PART.op p == 9 then true else PART.op p == 10 then true else PART.op p == 11 then VAL.kind (List.getD (PART.vals p) (Int.toNat 0) default) != 3 else false) (some ((.int .i64 8, []))) (some ((.int .i64 0, [])))) (none))) (none))) (none)) (none))) (none)))) (cond (!(↑(List.length (PART.vals p)) : Int) == 0) (some ((.int .i64 15, []))) (cond (bif decide ((↑(PART.n p) : Int) > 12) then true else decide ((↑(List.length (PART.vals p)) : Int) > 20)) (some ((.int .i64 5, []))) (cond (g1 (X1 p 0)) (cond (Prod.fst t1) (some ((.int .i64 15, []))) (cond (gk [.str (PART.kind p)] []) (cond (gk [.str (PART.name p)] []) (cond (bif bif bif decide (PART.op p ≥ 6) then decide (PART.op p ≤ 15) else false then !vk [.str (PART.kind p)] [] else false then true else bif bif bif decide (PART.op p ≥ 6) then decide (PART.op p ≤ 15) else false then true else PART.op p == 5 then !vk [.str (PART.name p)] [] else false) (some ((.int .i64 6, []))) (cond (g2 (X2 p 0)) (cond (Prod.fst t2) (some ((.int .i64 (Prod.snd t2), []))) (cond (bif within 0 (List.length (PART.vals p)) then true else !bif (bif bif PART.op p == 9 then true else PART.op p == 10 then true else PART.op p == 11) == true then true else false) (cond (bif bif bif PART.op p == 9 then true else PART.op p == 10 then true else PART.op p == 11 then VAL.kind (List.getD (PART.vals p) (Int.toNat 0) default) != 3 else false) (some ((.int .i64 8, []))) (some ((.int .i64 0, [])))) (none))) (none))) (none)) (none))) (none)))))))) (cond (decide ((↑(PART.n p) : Int) > 0)) (some ((.int .i64 15, []))) (cond (bif !bif decide (PART.op p ≥ 6) then decide (PART.op p ≤ 15) else false then bif !PART.kind p == [] then true else bif !PART.name p == [] then PART.op p != 5 else false else false) (some ((.int .i64 15, []))) (cond (PART.op p == 8) (cond (!decide ((↑(List.length (PART.vals p)) : Int) > 0)) (some ((.int .i64 15, []))) (cond (bif decide ((↑(PART.n p) : Int) > 12) then true else decide ((↑(List.length (PART.vals p)) : Int) > 20)) (some ((.int .i64 5, []))) (cond (g1 (X1 p 0)) (cond (Prod.fst t1) (some ((.int .i64 15, []))) (cond (gk [.str (PART.kind p)] []) (cond (gk [.str (PART.name p)] []) (cond (bif bif bif decide (PART.op p ≥ 6) then decide (PART.op p ≤ 15) else false then !vk [.str (PART.kind p)] [] else false then true else bif bif bif decide (PART.op p ≥ 6) then decide (PART.op p ≤ 15) else false then true else PART.op p == 5 then !vk [.str (PART.name p)] [] else false) (some ((.int .i64 6, []))) (cond (g2 (X2 p 0)) (cond (Prod.fst t2) (some ((.int .i64 (Prod.snd t2), []))) (cond (bif within 0 (List.length (PART.vals p)) then true else !bif (bif bif PART.op p == 9 then true else PART.op p == 10 then true else PART.op p == 11) == true then true else false) (cond (bif bif bif PART.op p == 9 then true else PART.op p == 10 then true else PART.op p == 11 then VAL.kind (List.getD (PART.vals p) (Int.toNat 0) default) != 3 else false) (some ((.int .i64 8, []))) (some ((.int .i64 0, [])))) (none))) (none))) (none)) (none))) (none)))) (cond (bif bif decide (PART.op p ≥ 6) then decide (PART.op p ≤ 15) else false then PART.op p != 6 else false) (cond (!(↑(List.length (PART.vals p)) : Int) == 1) (some ((.int .i64 15, []))) (cond (bif decide ((↑(PART.n p) : Int) > 12) then true else decide ((↑(List.length (PART.vals p)) : Int) > 20)) (some ((.int .i64 5, []))) (cond (g1 (X1 p 0)) (cond (Prod.fst t1) (some ((.int .i64 15, []))) (cond (gk [.str (PART.kind p)] []) (cond (gk [.str (PART.name p)] []) (cond (bif bif bif decide (PART.op p ≥ 6) then decide (PART.op p ≤ 15) else false then !vk [.str (PART.kind p)] [] else false then true else bif bif bif decide (PART.op p ≥ 6) then decide (PART.op p ≤ 15) else false then true else PART.op p == 5 then !vk [.str (PART.name p)] [] else false) (some ((.int .i64 6, []))) (cond (g2 (X2 p 0)) (cond (Prod.fst t2) (some ((.int .i64 (Prod.snd t2), []))) (cond (bif within 0 (List.length (PART.vals p)) then true else !bif (bif bif PART.op p == 9 then true else PART.op p == 10 then true else PART.op p == 11) == true then true else false) (cond (bif bif bif PART.op p == 9 then true else PART.op p == 10 then true else PART.op p == 11 then VAL.kind (List.getD (PART.vals p) (Int.toNat 0) default) != 3 else false) (some ((.int .i64 8, []))) (some ((.int .i64 0, [])))) (none))) (none))) (none)) (none))) (none)))) (cond (!(↑(List.length (PART.vals p)) : Int) == 0) (some ((.int .i64 15, []))) (cond (bif decide ((↑(PART.n p) : Int) > 12) then true else decide ((↑(List.length (PART.vals p)) : Int) > 20)) (some ((.int .i64 5, []))) (cond (g1 (X1 p 0)) (cond (Prod.fst t1) (some ((.int .i64 15, []))) (cond (gk [.str (PART.kind p)] []) (cond (gk [.str (PART.name p)] []) (cond (bif bif bif decide (PART.op p ≥ 6) then decide (PART.op p ≤ 15) else false then !vk [.str (PART.kind p)] [] else false then true else bif bif bif decide (PART.op p ≥ 6) then decide (PART.op p ≤ 15) else false then true else PART.op p == 5 then !vk [.str (PART.name p)] [] else false) (some ((.int .i64 6, []))) (cond (g2 (X2 p 0)) (cond (Prod.fst t2) (some ((.int .i64 (Prod.snd t2), []))) (cond (bif within 0 (List.length (PART.vals p)) then true else !bif (bif bif PART.op p == 9 then true else PART.op p == 10 then true else PART.op p == 11) == true then true else false) (cond (bif bif bif PART.op p == 9 then true else PART.op p == 10 then true else PART.op p == 11 then VAL.kind (List.getD (PART.vals p) (Int.toNat 0) default) != 3 else false) (some ((.int .i64 8, []))) (some ((.int .i64 0, [])))) (none))) (none))) (none)) (none))) (none))))))))))) := by subst h_t2 h_t1; kernel_rfl
set_option maxRecDepth 100000 in
theorem rpart_m (gv : List AV → List AO → Bool) (vv : List AV → List AO → Int) (gk vk : List AV → List AO → Bool) (g1 : St → Bool) (v1 : St → Bool × Unit) (g2 : St → Bool) (v2 : St → Bool × Int) (p : PART) {t1 : Bool × Unit} (h_t1 : v1 (W1 p 0) = t1) {t2 : Bool × Int} (h_t2 : v2 (W2 p 0) = t2) : runF (V.run [mkE 115 gv vv φE, mkE 67 gk vk φB] 9 [] [([1, 1, 1, 1, 0, 1, 0], mkO g1 v1 (outB (fun _ k => k .ret { env := [(2, .int .i64 15)], objs := [] }) fun k => k (.exit 0) { env := [(1, .ref 1 0)], objs := [(1, .cells p.c)] })), ([1, 1, 1, 1, 1, 1, 0, 1, 0], mkO g2 v2 (outB (retI 2) fun k => k (.exit 2) { env := [(1, .ref 1 0)], objs := [(1, .cells p.c)] }))] [] 107) 9 107 [.agg p.c] [] =
  cond (bif decide (PART.op p < 1) then true else decide (PART.op p > 15)) (some ((.int .i64 7, []))) (cond (bif PART.op p == 2 then true else PART.op p == 3) (cond (!bif bif bif decide ((↑(PART.n p) : Int) ≥ 2) then (↑(List.length (PART.vals p)) : Int) == 0 else false then bif bif decide (PART.op p ≥ 6) then decide (PART.op p ≤ 15) else false then true else PART.kind p == [] else false then bif bif bif decide (PART.op p ≥ 6) then decide (PART.op p ≤ 15) else false then true else PART.op p == 5 then true else PART.name p == [] else false) (some ((.int .i64 15, []))) (cond (bif decide ((↑(PART.n p) : Int) > 12) then true else decide ((↑(List.length (PART.vals p)) : Int) > 20)) (some ((.int .i64 5, []))) (cond (g1 (W1 p 0)) (cond (Prod.fst t1) (some ((.int .i64 15, []))) (cond (gk [.str (PART.kind p)] []) (cond (gk [.str (PART.name p)] []) (cond (bif bif bif decide (PART.op p ≥ 6) then decide (PART.op p ≤ 15) else false then !vk [.str (PART.kind p)] [] else false then true else bif bif bif decide (PART.op p ≥ 6) then decide (PART.op p ≤ 15) else false then true else PART.op p == 5 then !vk [.str (PART.name p)] [] else false) (some ((.int .i64 6, []))) (cond (g2 (W2 p 0)) (cond (Prod.fst t2) (some ((.int .i64 (Prod.snd t2), []))) (cond (bif within 0 (List.length (PART.vals p)) then true else !bif (bif bif PART.op p == 9 then true else PART.op p == 10 then true else PART.op p == 11) == true then true else false) (cond (bif bif bif PART.op p == 9 then true else PART.op p == 10 then true else PART.op p == 11 then VAL.kind (List.getD (PART.vals p) (Int.toNat 0) default) != 3 else false) (some ((.int .i64 8, []))) (some ((.int .i64 0, [])))) (none))) (none))) (none)) (none))) (none)))) (cond (PART.op p == 4) (cond (!bif bif bif (↑(PART.n p) : Int) == 1 then (↑(List.length (PART.vals p)) : Int) == 0 else false then bif bif decide (PART.op p ≥ 6) then decide (PART.op p ≤ 15) else false then true else PART.kind p == [] else false then bif bif bif decide (PART.op p ≥ 6) then decide (PART.op p ≤ 15) else false then true else PART.op p == 5 then true else PART.name p == [] else false) (some ((.int .i64 15, []))) (cond (bif decide ((↑(PART.n p) : Int) > 12) then true else decide ((↑(List.length (PART.vals p)) : Int) > 20)) (some ((.int .i64 5, []))) (cond (g1 (W1 p 0)) (cond (Prod.fst t1) (some ((.int .i64 15, []))) (cond (gk [.str (PART.kind p)] []) (cond (gk [.str (PART.name p)] []) (cond (bif bif bif decide (PART.op p ≥ 6) then decide (PART.op p ≤ 15) else false then !vk [.str (PART.kind p)] [] else false then true else bif bif bif decide (PART.op p ≥ 6) then decide (PART.op p ≤ 15) else false then true else PART.op p == 5 then !vk [.str (PART.name p)] [] else false) (some ((.int .i64 6, []))) (cond (g2 (W2 p 0)) (cond (Prod.fst t2) (some ((.int .i64 (Prod.snd t2), []))) (cond (bif within 0 (List.length (PART.vals p)) then true else !bif (bif bif PART.op p == 9 then true else PART.op p == 10 then true else PART.op p == 11) == true then true else false) (cond (bif bif bif PART.op p == 9 then true else PART.op p == 10 then true else PART.op p == 11 then VAL.kind (List.getD (PART.vals p) (Int.toNat 0) default) != 3 else false) (some ((.int .i64 8, []))) (some ((.int .i64 0, [])))) (none))) (none))) (none)) (none))) (none)))) (cond (PART.op p == 8) (cond (!bif bif bif (↑(PART.n p) : Int) == 0 then decide ((↑(List.length (PART.vals p)) : Int) > 0) else false then bif bif decide (PART.op p ≥ 6) then decide (PART.op p ≤ 15) else false then true else PART.kind p == [] else false then bif bif bif decide (PART.op p ≥ 6) then decide (PART.op p ≤ 15) else false then true else PART.op p == 5 then true else PART.name p == [] else false) (some ((.int .i64 15, []))) (cond (bif decide ((↑(PART.n p) : Int) > 12) then true else decide ((↑(List.length (PART.vals p)) : Int) > 20)) (some ((.int .i64 5, []))) (cond (g1 (W1 p 0)) (cond (Prod.fst t1) (some ((.int .i64 15, []))) (cond (gk [.str (PART.kind p)] []) (cond (gk [.str (PART.name p)] []) (cond (bif bif bif decide (PART.op p ≥ 6) then decide (PART.op p ≤ 15) else false then !vk [.str (PART.kind p)] [] else false then true else bif bif bif decide (PART.op p ≥ 6) then decide (PART.op p ≤ 15) else false then true else PART.op p == 5 then !vk [.str (PART.name p)] [] else false) (some ((.int .i64 6, []))) (cond (g2 (W2 p 0)) (cond (Prod.fst t2) (some ((.int .i64 (Prod.snd t2), []))) (cond (bif within 0 (List.length (PART.vals p)) then true else !bif (bif bif PART.op p == 9 then true else PART.op p == 10 then true else PART.op p == 11) == true then true else false) (cond (bif bif bif PART.op p == 9 then true else PART.op p == 10 then true else PART.op p == 11 then VAL.kind (List.getD (PART.vals p) (Int.toNat 0) default) != 3 else false) (some ((.int .i64 8, []))) (some ((.int .i64 0, [])))) (none))) (none))) (none)) (none))) (none)))) (cond (bif bif decide (PART.op p ≥ 6) then decide (PART.op p ≤ 15) else false then PART.op p != 6 else false) (cond (!bif bif bif (↑(PART.n p) : Int) == 0 then (↑(List.length (PART.vals p)) : Int) == 1 else false then bif bif decide (PART.op p ≥ 6) then decide (PART.op p ≤ 15) else false then true else PART.kind p == [] else false then bif bif bif decide (PART.op p ≥ 6) then decide (PART.op p ≤ 15) else false then true else PART.op p == 5 then true else PART.name p == [] else false) (some ((.int .i64 15, []))) (cond (bif decide ((↑(PART.n p) : Int) > 12) then true else decide ((↑(List.length (PART.vals p)) : Int) > 20)) (some ((.int .i64 5, []))) (cond (g1 (W1 p 0)) (cond (Prod.fst t1) (some ((.int .i64 15, []))) (cond (gk [.str (PART.kind p)] []) (cond (gk [.str (PART.name p)] []) (cond (bif bif bif decide (PART.op p ≥ 6) then decide (PART.op p ≤ 15) else false then !vk [.str (PART.kind p)] [] else false then true else bif bif bif decide (PART.op p ≥ 6) then decide (PART.op p ≤ 15) else false then true else PART.op p == 5 then !vk [.str (PART.name p)] [] else false) (some ((.int .i64 6, []))) (cond (g2 (W2 p 0)) (cond (Prod.fst t2) (some ((.int .i64 (Prod.snd t2), []))) (cond (bif within 0 (List.length (PART.vals p)) then true else !bif (bif bif PART.op p == 9 then true else PART.op p == 10 then true else PART.op p == 11) == true then true else false) (cond (bif bif bif PART.op p == 9 then true else PART.op p == 10 then true else PART.op p == 11 then VAL.kind (List.getD (PART.vals p) (Int.toNat 0) default) != 3 else false) (some ((.int .i64 8, []))) (some ((.int .i64 0, [])))) (none))) (none))) (none)) (none))) (none)))) (cond (!bif bif bif (↑(PART.n p) : Int) == 0 then (↑(List.length (PART.vals p)) : Int) == 0 else false then bif bif decide (PART.op p ≥ 6) then decide (PART.op p ≤ 15) else false then true else PART.kind p == [] else false then bif bif bif decide (PART.op p ≥ 6) then decide (PART.op p ≤ 15) else false then true else PART.op p == 5 then true else PART.name p == [] else false) (some ((.int .i64 15, []))) (cond (bif decide ((↑(PART.n p) : Int) > 12) then true else decide ((↑(List.length (PART.vals p)) : Int) > 20)) (some ((.int .i64 5, []))) (cond (g1 (W1 p 0)) (cond (Prod.fst t1) (some ((.int .i64 15, []))) (cond (gk [.str (PART.kind p)] []) (cond (gk [.str (PART.name p)] []) (cond (bif bif bif decide (PART.op p ≥ 6) then decide (PART.op p ≤ 15) else false then !vk [.str (PART.kind p)] [] else false then true else bif bif bif decide (PART.op p ≥ 6) then decide (PART.op p ≤ 15) else false then true else PART.op p == 5 then !vk [.str (PART.name p)] [] else false) (some ((.int .i64 6, []))) (cond (g2 (W2 p 0)) (cond (Prod.fst t2) (some ((.int .i64 (Prod.snd t2), []))) (cond (bif within 0 (List.length (PART.vals p)) then true else !bif (bif bif PART.op p == 9 then true else PART.op p == 10 then true else PART.op p == 11) == true then true else false) (cond (bif bif bif PART.op p == 9 then true else PART.op p == 10 then true else PART.op p == 11 then VAL.kind (List.getD (PART.vals p) (Int.toNat 0) default) != 3 else false) (some ((.int .i64 8, []))) (some ((.int .i64 0, [])))) (none))) (none))) (none)) (none))) (none)))))))) := by subst h_t2 h_t1; kernel_rfl
end Go.SH

namespace Go.SH
open Go Go.Ab Go.Proofs
set_option linter.unusedVariables false
set_option linter.unusedSimpArgs false
theorem strsA_inj {a b : List (List UInt8)} (h : strsA a = strsA b) : a = b := by
  unfold strsA at h
  simp only [AV.sl.injEq, true_and] at h
  obtain ⟨h1, h2⟩ := h
  apply List.ext_getElem h1
  intro i hi hj
  have := congrFun h2 i
  simpa [List.getD, hi, hj] using this
theorem VAL.c_inj {a b : VAL} (h : a.c = b.c) : a = b := by
  obtain ⟨k, n, t, l⟩ := a
  obtain ⟨k', n', t', l'⟩ := b
  simp only [VAL.c, List.cons.injEq, AV.int.injEq, AV.str.injEq, true_and, and_true] at h
  obtain ⟨rfl, rfl, rfl, h⟩ := h
  rw [strsA_inj h]
def valA1 (v : VAL) : List AV := [.agg v.c]
theorem valA1_inj {τ : Type} (w : VAL → τ) (a b : VAL) (h : valA1 a = valA1 b) : w a = w b := by
  simp only [valA1, List.cons.injEq, AV.agg.injEq, and_true] at h
  rw [VAL.c_inj h]
noncomputable abbrev gV : List AV → List AO → Bool := gF valA1 VAL.Ok
noncomputable abbrev vV : List AV → List AO → Int := vF valA1 VAL.Ok checkE
theorem gV_eq {v : VAL} (h : v.Ok) : gV [.agg v.c] [] = true := gF_eq (A := valA1) h
theorem vV_eq {v : VAL} (h : v.Ok) : vV [.agg v.c] [] = checkE v := vF_eq (A := valA1) (valA1_inj checkE) h
def valsOk (l : List VAL) : Prop := l.length ≤ 4611686018427387904 ∧ ∀ v ∈ l, v.Ok
theorem valsOk.at {l : List VAL} (h : valsOk l) {i : Nat} (hi : i < l.length) : (l.getD i default).Ok := by
  rw [List.getD_eq_getElem?_getD, List.getElem?_eq_getElem hi]
  exact h.2 _ (List.getElem_mem hi)
def valsStop (l : List VAL) (i : Nat) : Option Int := bif checkE (l.getD i default) != 0 then some (checkE (l.getD i default)) else none
def valsSeek (l : List VAL) : Bool × Int := scanAt l.length (· + 1) (valsStop l) 0
def kidSeek (p : PART) (b : Bool) : Bool × Unit := seek p.n (· + 1) (fun i => bif p.ko i == p.op then b else false) ()
def testB (op : Int) : Bool := bif decide (op ≥ 6) then decide (op ≤ 15) else false
def isPair (op : Int) : Bool := bif op == 2 then true else op == 3
def needsText (op : Int) : Bool := bif bif op == 9 then true else op == 10 then true else op == 11
def countB (p : PART) : Bool :=
  (bif isPair p.op then decide (p.n ≥ 2) else bif p.op == 4 then p.n == 1 else p.n == 0) &&
  ((testB p.op || (p.kind == [] && (p.name == [] || p.op == 5))) &&
  (bif p.op == 8 then decide (p.vals.length > 0) else bif testB p.op && p.op != 6 then p.vals.length == 1 else p.vals.length == 0))
def partE (p : PART) : Int :=
  bif decide (p.op < 1) || decide (p.op > 15) then 7 else bif !countB p then 15 else
  bif decide (p.n > 12) || decide (p.vals.length > 20) then 5 else
  bif (kidSeek p (isPair p.op)).1 then 15 else
  bif (testB p.op && !keyB p.kind) || ((testB p.op || p.op == 5) && !keyB p.name) then 6 else
  bif (valsSeek p.vals).1 then (valsSeek p.vals).2 else
  bif needsText p.op && (p.vals.getD 0 default).kind != 3 then 8 else 0
def PART.Ok (p : PART) : Prop := lenS p.kind ∧ lenS p.name ∧ valsOk p.vals ∧ p.n ≤ 4611686018427387904
theorem X1_inj (p : PART) (i j : Nat) (h : X1 p i = X1 p j) : i = j := by
  simp only [X1, St.mk.injEq, List.cons.injEq, Prod.mk.injEq, AV.int.injEq, and_true, true_and] at h; omega
theorem X2_inj (p : PART) (i j : Nat) (h : X2 p i = X2 p j) : i = j := by
  simp only [X2, St.mk.injEq, List.cons.injEq, Prod.mk.injEq, AV.int.injEq, and_true, true_and] at h; omega
theorem W1_inj (p : PART) (i j : Nat) (h : W1 p i = W1 p j) : i = j := by
  simp only [W1, St.mk.injEq, List.cons.injEq, Prod.mk.injEq, AV.int.injEq, and_true, true_and] at h; omega
theorem W2_inj (p : PART) (i j : Nat) (h : W2 p i = W2 p j) : i = j := by
  simp only [W2, St.mk.injEq, List.cons.injEq, Prod.mk.injEq, AV.int.injEq, and_true, true_and] at h; omega
end Go.SH
