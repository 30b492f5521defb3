/- What lives on at the heads of the code, by function: for the evaluator. strings.Fields at the reserved words, run by the kernel. Contracts for one list of arguments. text.Key, flagstoneref1.Key, Word. Runes of a string: what decoding says of the bytes. text.Key: the same answer as flagstoneref1.Key. Contracts out of the kit's own: calls that lay new memory at most. text.Valid, flagstoneref1.Valid: one answer. Splits and spans. Lists of keys of contexts. utf8.ValidString: the kit's contract at this program (laid by the kit's tools lay-shelf, lay-plain). utf8.ValidString: its contract, out of the kit's. strconv.Atoi, strings.Split: the kit's contracts at this program (laid by the kit's tools lay-shelf, lay-plain). Contracts out of the kit's own: calls that hand back new memory. strconv.Atoi, strings.Split at the dot: their contracts, out of the kit's. text.ParseNumber, flagstoneref1.ParseNumber: one answer. text.ParseNumber, flagstoneref1.ParseNumber: what they answer. text.ParseNumber, flagstoneref1.ParseNumber: one answer, their contracts. flagstoneref1.ParseNumber: its contract. value.parts: is a text a version? flagstoneref3.parts: is a text a version? flagstoneref3.parts: its co -/
import Derived.Test.YtnldpiohcmgkdaaGreatDoorX3
import Derived.Test.YtnldpiohcmgkdaaGreatDoorProg
import Derived.Test.YtnldpiohcmgkdaaGreatDoorRows
import Derived.KernelRfl
import Derived.Laws.RangeString
import Derived.Lib.ValidU
import Derived.Shelf.Unicode.ValidAny
import Derived.Shelf.LaysC
import Derived.Shelf.Strconv.AtoiAll
import Derived.Shelf.Strings.Split
import Derived.Lib.SplitLaws
import Derived.Lib.CountLaws
namespace Go.SH
open Go Go.Ab Go.Proofs
mutual
def dcells : DataW Unit → List AV
  | .lit (.int k n) => [.int k n]
  | .agg ps => dcellsL ps
  | _ => []
def dcellsL : List (DataW Unit) → List AV
  | [] => []
  | d :: r => dcells d ++ dcellsL r
end
noncomputable def globs (g : Nat) : Option (List AV) := cond (Nat.beq g 3) (some (dcells Go.Proofs.YtnldpiohcmgkdaaGreatDoor.Rows.laid_strings_asciiSpace)) (cond (Nat.beq g 4) (some (dcells Go.Proofs.YtnldpiohcmgkdaaGreatDoor.Rows.laid_unicode_utf8_first)) (cond (Nat.beq g 5) (some (dcells Go.Proofs.YtnldpiohcmgkdaaGreatDoor.Rows.laid_unicode_utf8_acceptRanges)) (cond (Nat.beq g 7) (some [.num .i64]) (cond (Nat.beq g 8) (some [.nni]) (cond (Nat.beq g 9) (some [.nni]) (none))))))
noncomputable def hints : List (Nat × List (Nat × Hint)) := [
  (6, [(6, hn [4, 5, 6, 7, 9] [4, 5, 6, 7] [] [])]),
  (66, [(4, hn [14] [14] [] [])]),
  (65, [(10, hn [0, 50, 51, 52] [] [] []), (4, hn [0, 17] [17] [] [])]),
  (88, [(4, hn [0, 8, 9, 10] [] [] [])]),
  (89, [(4, hn [0, 2, 3, 16, 17, 18] [] [] [])]),
  (77, [(4, hn [0, 8, 9, 10] [] [] [])]),
  (52, [(8, hn [1, 2, 27, 28, 29] [] [] [])]),
  (106, [(18, hn [2, 83, 84, 85] [2] [] []), (10, hn [2, 35, 36, 37] [2] [] [])]),
  (69, [(29, hn [1, 76, 77] [1] [] []), (23, hn [1, 64, 65, 66] [1] [] [])]),
  (114, [(6, hn [2, 4, 16, 17, 18] [2, 4] [] [])]),
  (133, [(5, hn [0, 31] [31] [] [])]),
  (91, [(4, hn [0, 2, 3, 16, 17, 18] [] [] [])]),
  (34, [(6, hn [1, 3, 38, 39, 40] [1] [] [])]),
  (70, [(4, hn [0, 9, 10, 11] [] [] [])]),
  (71, [(4, hn [1, 11, 12, 13] [] [] [])]),
  (72, [(9, hn [0, 1, 6, 13, 14, 15, 26, 27, 28] [6] [] []), (4, hn [0, 1, 13, 14, 15] [] [] [])]),
  (23, [(5, hn [1, 5, 12, 13, 14] [5] [] [])]),
  (93, [(4, hn [0, 2, 3, 16, 17, 18] [] [] [])]),
  (38, [(5, hn [1, 52, 53, 54] [1] [] [])]),
  (95, [(4, hn [0, 2, 3, 16, 17, 18] [] [] [])]),
  (25, [(4, hn [0, 8, 9, 10] [] [] [])]),
  (11, [(3, hn [1, 3, 4] [1] [] [])]),
  (67, [(5, hn [0, 3, 4] [] [] [])]),
  (111, [(2, hn [0, 3] [] [] [])]),
  (73, [(7, hn [1, 3, 4] [1] [] [])]),
  (68, [(4, hn [0, 3] [] [] [])]),
  (135, [(7, hn [0, 2, 4, 5, 6, 7] [2, 4] [] []), (4, hn [0, 2, 4, 5, 6] [2, 4] [] [])]),
  (157, [(15, hn [0, 4, 6, 7] [] [] []), (5, hn [0, 4, 5] [] [] [])]),
  (136, [(9, hn [0, 4] [] [] []), (4, hn [0, 3] [] [] [])]),
  (74, [(4, hn [0, 3] [] [] [])]),
  (75, [(4, hn [0, 1, 5] [] [] [])]),
  (78, [(4, hn [0, 3] [] [] [])]),
  (76, [(9, hn [0, 1, 5, 6] [] [] []), (4, hn [0, 1, 5] [] [] [])]),
  (53, [(10, hn [1, 2, 3, 8] [3] [] [])]),
  (107, [(15, hn [1, 4] [1] [] []), (8, hn [1, 3] [1] [] [])]),
  (24, [(5, hn [0, 1, 5, 6] [] [] [])]),
  (39, [(10, hn [1, 3] [1] [] [])]),
  (26, [(4, hn [0, 3] [] [] [])]),
  (108, [(3, hn [3, 6, 7, 8] [] [] [])]),
  (121, [(3, hn [3, 6, 7, 8] [] [] [])]),
  (109, [(27, hn [0, 9, 10, 12] [41] [] []), (21, hn [0, 9, 10, 11, 12] [41] [] []), (18, hn [0, 9, 10, 12] [41] [] []), (5, hn [0, 3, 4, 5, 6] [] [] [])])]
noncomputable def trims : List (Nat × List (List Nat × Hint)) := [
  (6, [tr [1, 1] [4, 5, 6, 7] [4, 5, 6, 7], tr [1, 1, 1] [4, 5, 6, 7] [4, 5, 6, 7], tr [1, 1, 1, 0, 1, 0, 0, 0, 1, 1] [4, 5, 6, 7] [4, 5, 6, 7], tr [1, 1, 1, 0, 1, 0, 0, 1] [4, 5, 6, 7, 9] [4, 5, 6, 7], tr [1, 1, 1, 0, 1, 0, 0, 1, 0, 0, 1, 0, 1] [8] [], tr [1, 1, 1, 0, 1, 0, 0, 1, 1] [4, 5, 6, 7, 9] [4, 5, 6, 7], tr [1, 1, 1, 1] [4, 5, 6, 7] [4, 5, 6, 7]]),
  (11, [tr [1, 1, 0, 1, 0, 0, 0, 1, 1] [3] [], tr [1, 1, 0, 1, 0, 0, 1] [1, 3, 4] [1], tr [1, 1, 0, 1, 0, 0, 1, 0, 0, 1, 0, 1] [2] [], tr [1, 1, 0, 1, 0, 0, 1, 1] [1, 3, 4] [1], tr [1, 1, 1] [3] []]),
  (23, [tr [1, 1] [0, 1] [], tr [1, 1, 1, 0, 1, 0, 0, 1, 0, 1] [5] [5], tr [1, 1, 1, 0, 1, 0, 0, 1, 1] [1, 5, 12, 13, 14] [5], tr [1, 1, 1, 0, 1, 0, 0, 1, 1, 0, 0, 1, 0, 1, 0, 1] [4] [], tr [1, 1, 1, 0, 1, 0, 0, 1, 1, 0, 0, 1, 1] [1, 5, 7, 12, 13, 14] [5, 7], tr [1, 1, 1, 0, 1, 0, 0, 1, 1, 0, 0, 1, 1, 0, 1, 0, 1] [4] [], tr [1, 1, 1, 0, 1, 0, 0, 1, 1, 0, 0, 1, 1, 1] [1, 5, 7, 12, 13, 14] [5, 7], tr [1, 1, 1, 0, 1, 0, 0, 1, 1, 1] [1, 5, 12, 13, 14] [5], tr [1, 1, 1, 1] [5] [5]]),
  (24, [tr [1, 1] [0, 1] [], tr [1, 1, 1, 0, 1, 0, 0, 0, 1, 1] [5] [], tr [1, 1, 1, 0, 1, 0, 0, 1] [0, 1, 5, 6] [], tr [1, 1, 1, 0, 1, 0, 0, 1, 0, 0, 0, 1, 0, 1] [4] [], tr [1, 1, 1, 0, 1, 0, 0, 1, 0, 0, 1] [0, 1, 5, 6] [], tr [1, 1, 1, 0, 1, 0, 0, 1, 0, 0, 1, 0, 1, 0, 1] [4] [], tr [1, 1, 1, 0, 1, 0, 0, 1, 0, 0, 1, 1] [0, 1, 6] [], tr [1, 1, 1, 0, 1, 0, 0, 1, 1] [0, 1, 5, 6] [], tr [1, 1, 1, 1] [5] [], tr [1, 1, 1, 1, 1] [] []]),
  (25, [tr [1, 1] [0] [], tr [1, 1, 0, 1, 0, 0, 1, 0, 1] [] [], tr [1, 1, 0, 1, 0, 0, 1, 1] [0, 8, 9, 10] [], tr [1, 1, 0, 1, 0, 0, 1, 1, 0, 0, 1, 0, 1, 0, 1] [2] [], tr [1, 1, 0, 1, 0, 0, 1, 1, 0, 0, 1, 1] [0, 3, 4, 8, 9, 10] [4], tr [1, 1, 0, 1, 0, 0, 1, 1, 0, 0, 1, 1, 1, 0, 1] [2] [], tr [1, 1, 0, 1, 0, 0, 1, 1, 1] [0, 8, 9, 10] [], tr [1, 1, 1] [] []]),
  (26, [tr [1, 1] [0] [], tr [1, 1, 0, 1, 0, 0, 0, 1, 1] [] [], tr [1, 1, 0, 1, 0, 0, 1] [0, 3] [], tr [1, 1, 0, 1, 0, 0, 1, 0, 0, 0, 1, 0, 1] [2] [], tr [1, 1, 0, 1, 0, 0, 1, 0, 0, 1] [0, 3] [], tr [1, 1, 0, 1, 0, 0, 1, 0, 0, 1, 1, 0, 1] [2] [], tr [1, 1, 0, 1, 0, 0, 1, 1] [0, 3] [], tr [1, 1, 1] [] []]),
  (32, [tr [1, 1] [1, 2] [2]]),
  (33, [tr [1, 0, 1, 0, 1] [2] [2], tr [1, 0, 1, 0, 1, 1] [] [], tr [1, 1] [1, 2] [2], tr [1, 1, 1] [1, 2] [2], tr [1, 1, 1, 1] [1, 2] [2]]),
  (34, [tr [1, 1, 1] [1, 3] [1], tr [1, 1, 1, 0, 1, 0, 0, 1, 0, 1] [1, 3] [1], tr [1, 1, 1, 0, 1, 0, 0, 1, 1] [1, 3, 38, 39, 40] [1], tr [1, 1, 1, 0, 1, 0, 0, 1, 1, 0, 0, 1, 1, 1, 0, 1] [2] [], tr [1, 1, 1, 0, 1, 0, 0, 1, 1, 1] [1, 3, 38, 39, 40] [1], tr [1, 1, 1, 1] [1, 3] [1], tr [1, 1, 1, 1, 1] [1, 3] [1]]),
  (35, [tr [1, 1, 1] [1, 3] [1], tr [1, 1, 1, 1] [1, 3] [1], tr [1, 1, 1, 1, 1] [1, 3] [1], tr [1, 1, 1, 1, 1, 1] [1, 3] [1], tr [1, 1, 1, 1, 1, 1, 1] [1, 3] [1], tr [1, 1, 1, 1, 1, 1, 1, 1] [1, 3] [1]]),
  (36, [tr [1, 1] [1] [1]]),
  (37, [tr [1, 1] [1] [1], tr [1, 1, 1] [1] [1], tr [1, 1, 1, 1] [1] [1], tr [1, 1, 1, 1, 1] [1] [1]]),
  (38, [tr [1, 1] [1] [1], tr [1, 1, 0, 1, 0, 0, 1, 0, 1] [] [], tr [1, 1, 0, 1, 0, 0, 1, 1] [1, 52, 53, 54] [1], tr [1, 1, 0, 1, 0, 0, 1, 1, 0, 0, 1, 0, 1, 0, 1] [2] [], tr [1, 1, 0, 1, 0, 0, 1, 1, 0, 0, 1, 1] [1, 4, 5, 52, 53, 54] [1, 5], tr [1, 1, 0, 1, 0, 0, 1, 1, 0, 0, 1, 1, 1, 0, 1] [2] [], tr [1, 1, 0, 1, 0, 0, 1, 1, 1] [1, 52, 53, 54] [1], tr [1, 1, 1] [] []]),
  (39, [tr [1, 1] [1] [1], tr [1, 1, 1] [1] [1], tr [1, 1, 1, 1] [1] [1], tr [1, 1, 1, 1, 1] [1] [1], tr [1, 1, 1, 1, 1, 0, 1, 0, 0, 0, 1, 1] [] [], tr [1, 1, 1, 1, 1, 0, 1, 0, 0, 1] [1, 3] [1], tr [1, 1, 1, 1, 1, 0, 1, 0, 0, 1, 0, 0, 1, 0, 1, 0, 1] [2] [], tr [1, 1, 1, 1, 1, 0, 1, 0, 0, 1, 0, 0, 1, 1] [1, 3, 4] [1, 4], tr [1, 1, 1, 1, 1, 0, 1, 0, 0, 1, 0, 0, 1, 1, 1, 0, 1] [2] [], tr [1, 1, 1, 1, 1, 0, 1, 0, 0, 1, 1] [1, 3] [1], tr [1, 1, 1, 1, 1, 1] [] []]),
  (41, [tr [1, 1] [1] [1], tr [1, 1, 1] [1] [1], tr [1, 1, 1, 1] [1] [1], tr [1, 1, 1, 1, 1] [1] [1], tr [1, 1, 1, 1, 1, 1] [1] [1]]),
  (44, [tr [1, 1, 1] [1] [1], tr [1, 1, 1, 1] [1] [1], tr [1, 1, 1, 1, 1] [1] [1], tr [1, 1, 1, 1, 1, 1] [1] [1]]),
  (52, [tr [1, 1] [1, 2, 3] [3], tr [1, 1, 1, 1] [1, 2, 3] [3], tr [1, 1, 1, 1, 0, 1, 0, 0, 1, 0, 1] [] [], tr [1, 1, 1, 1, 0, 1, 0, 0, 1, 1] [1, 2, 27, 28, 29] [], tr [1, 1, 1, 1, 0, 1, 0, 0, 1, 1, 0, 0, 1, 1, 1, 0, 1] [6] [], tr [1, 1, 1, 1, 0, 1, 0, 0, 1, 1, 1] [1, 2, 27, 28, 29] [], tr [1, 1, 1, 1, 1] [] []]),
  (53, [tr [1, 1] [1, 2, 3] [3], tr [1, 1, 1, 1] [1, 2, 3] [3], tr [1, 1, 1, 1, 1] [1, 2, 3] [3], tr [1, 1, 1, 1, 1, 0, 1, 0, 0, 0, 1, 1] [] [], tr [1, 1, 1, 1, 1, 0, 1, 0, 0, 1] [1, 2, 3, 8] [3], tr [1, 1, 1, 1, 1, 0, 1, 0, 0, 1, 0, 0, 1, 1, 0, 1] [6] [], tr [1, 1, 1, 1, 1, 0, 1, 0, 0, 1, 1] [1, 2, 3, 8] [3], tr [1, 1, 1, 1, 1, 1] [] []]),
  (56, [tr [1, 1] [] []]),
  (65, [tr [1, 1] [0] [], tr [1, 1, 0, 1, 0, 0, 1, 0, 1] [0] [], tr [1, 1, 0, 1, 0, 0, 1, 1] [0, 17, 18] [17], tr [1, 1, 0, 1, 0, 0, 1, 1, 0, 1, 1, 1, 0, 1] [2] [], tr [1, 1, 1] [0] [], tr [1, 1, 1, 0, 1, 0, 0, 1, 0, 1] [] [], tr [1, 1, 1, 0, 1, 0, 0, 1, 1] [0, 50, 51, 52] [], tr [1, 1, 1, 0, 1, 0, 0, 1, 1, 0, 0, 1, 1, 0, 1] [2] [], tr [1, 1, 1, 0, 1, 0, 0, 1, 1, 1] [0, 50, 51, 52] [], tr [1, 1, 1, 1] [] []]),
  (66, [tr [1, 1] [0] [], tr [1, 1, 0, 1, 0, 0, 1, 0, 1] [] [], tr [1, 1, 0, 1, 0, 0, 1, 1] [14, 15] [14], tr [1, 1, 0, 1, 0, 0, 1, 1, 0, 1, 1, 0, 1] [2] [], tr [1, 1, 1] [] []]),
  (67, [tr [1, 1] [0] [], tr [1, 1, 1, 0, 1, 0, 0, 0, 1, 1] [] [], tr [1, 1, 1, 0, 1, 0, 0, 1] [0, 3, 4] [], tr [1, 1, 1, 0, 1, 0, 0, 1, 0, 0, 1, 0, 1] [2] [], tr [1, 1, 1, 0, 1, 0, 0, 1, 1] [0, 3, 4] [], tr [1, 1, 1, 1] [] []]),
  (68, [tr [1, 1] [0] [], tr [1, 1, 0, 1, 0, 0, 0, 1, 1] [] [], tr [1, 1, 0, 1, 0, 0, 1] [0, 3] [], tr [1, 1, 0, 1, 0, 0, 1, 0, 0, 1, 0, 1] [2] [], tr [1, 1, 0, 1, 0, 0, 1, 1] [0, 3] [], tr [1, 1, 1] [] []]),
  (69, [tr [1, 1] [1] [1], tr [1, 1, 1] [1] [1], tr [1, 1, 1, 0, 1, 0, 1, 1, 1, 1, 1, 1, 1, 1, 1, 0, 1] [1] [1], tr [1, 1, 1, 0, 1, 0, 1, 1, 1, 1, 1, 1, 1, 1, 1, 0, 1, 0, 1, 0, 0, 1, 0, 1] [1] [1], tr [1, 1, 1, 0, 1, 0, 1, 1, 1, 1, 1, 1, 1, 1, 1, 0, 1, 0, 1, 0, 0, 1, 1] [1, 64, 65, 66] [1], tr [1, 1, 1, 0, 1, 0, 1, 1, 1, 1, 1, 1, 1, 1, 1, 0, 1, 0, 1, 0, 0, 1, 1, 0, 0, 1, 1, 0, 1] [2] [], tr [1, 1, 1, 0, 1, 0, 1, 1, 1, 1, 1, 1, 1, 1, 1, 0, 1, 0, 1, 0, 0, 1, 1, 1] [1, 64, 65, 66] [1], tr [1, 1, 1, 0, 1, 0, 1, 1, 1, 1, 1, 1, 1, 1, 1, 0, 1, 1] [1] [1], tr [1, 1, 1, 0, 1, 0, 1, 1, 1, 1, 1, 1, 1, 1, 1, 0, 1, 1, 1, 0, 0, 1, 0, 1] [] [], tr [1, 1, 1, 0, 1, 0, 1, 1, 1, 1, 1, 1, 1, 1, 1, 0, 1, 1, 1, 0, 0, 1, 1] [1, 76, 77] [1], tr [1, 1, 1, 0, 1, 0, 1, 1, 1, 1, 1, 1, 1, 1, 1, 0, 1, 1, 1, 0, 0, 1, 1, 0, 0, 1, 1, 0, 1] [2] [], tr [1, 1, 1, 0, 1, 0, 1, 1, 1, 1, 1, 1, 1, 1, 1, 0, 1, 1, 1, 0, 0, 1, 1, 1] [1, 76, 77] [1], tr [1, 1, 1, 1] [] []]),
  (70, [tr [1, 1] [0] [], tr [1, 1, 0, 1, 0, 0, 1, 0, 1] [] [], tr [1, 1, 0, 1, 0, 0, 1, 1] [0, 9, 10, 11] [], tr [1, 1, 0, 1, 0, 0, 1, 1, 0, 0, 1, 1, 1, 0, 1] [2] [], tr [1, 1, 0, 1, 0, 0, 1, 1, 1] [0, 9, 10, 11] [], tr [1, 1, 1] [] []]),
  (71, [tr [1, 1] [0, 1] [], tr [1, 1, 0, 1, 0, 0, 1, 0, 1] [] [], tr [1, 1, 0, 1, 0, 0, 1, 1] [1, 11, 12, 13] [], tr [1, 1, 0, 1, 0, 0, 1, 1, 0, 0, 1, 1, 1, 0, 1] [4] [], tr [1, 1, 0, 1, 0, 0, 1, 1, 1] [1, 11, 12, 13] [], tr [1, 1, 1] [] []]),
  (72, [tr [1, 0, 1] [0, 1] [], tr [1, 0, 1, 1] [0, 1] [], tr [1, 0, 1, 1, 0, 1, 0, 0, 1, 0, 1] [] [], tr [1, 0, 1, 1, 0, 1, 0, 0, 1, 1] [0, 1, 13, 14, 15] [], tr [1, 0, 1, 1, 0, 1, 0, 0, 1, 1, 0, 0, 1, 0, 1, 0, 1] [4] [], tr [1, 0, 1, 1, 0, 1, 0, 0, 1, 1, 0, 0, 1, 1] [0, 1, 5, 6, 13, 14, 15] [6], tr [1, 0, 1, 1, 0, 1, 0, 0, 1, 1, 0, 0, 1, 1, 0, 1, 0, 0, 1, 0, 1] [0, 1, 6, 13, 14, 15] [6], tr [1, 0, 1, 1, 0, 1, 0, 0, 1, 1, 0, 0, 1, 1, 0, 1, 0, 0, 1, 1] [0, 1, 6, 13, 14, 15, 26, 27, 28] [6], tr [1, 0, 1, 1, 0, 1, 0, 0, 1, 1, 0, 0, 1, 1, 0, 1, 0, 0, 1, 1, 0, 0, 1, 1, 0, 1] [4] [], tr [1, 0, 1, 1, 0, 1, 0, 0, 1, 1, 0, 0, 1, 1, 0, 1, 0, 0, 1, 1, 1] [0, 1, 6, 13, 14, 15, 26, 27, 28] [6], tr [1, 0, 1, 1, 0, 1, 0, 0, 1, 1, 0, 0, 1, 1, 1] [0, 1, 6, 13, 14, 15] [6], tr [1, 0, 1, 1, 0, 1, 0, 0, 1, 1, 0, 0, 1, 1, 1, 1, 0, 1, 0] [0, 1, 13, 14, 15] [], tr [1, 0, 1, 1, 0, 1, 0, 0, 1, 1, 0, 0, 1, 1, 1, 1, 0, 1, 1, 1] [4] [], tr [1, 0, 1, 1, 0, 1, 0, 0, 1, 1, 1] [0, 1, 13, 14, 15] [], tr [1, 0, 1, 1, 1] [] []]),
  (73, [tr [1, 1, 1] [1, 3] [1], tr [1, 1, 1, 1] [1, 3] [1], tr [1, 1, 1, 1, 0, 1, 0, 0, 0, 1, 1] [1, 3] [1], tr [1, 1, 1, 1, 0, 1, 0, 0, 1] [1, 3, 4] [1], tr [1, 1, 1, 1, 0, 1, 0, 0, 1, 0, 0, 0, 1, 1, 0, 1] [2] [], tr [1, 1, 1, 1, 0, 1, 0, 0, 1, 0, 0, 1] [1, 3, 4] [1], tr [1, 1, 1, 1, 0, 1, 0, 0, 1, 0, 0, 1, 1, 0, 1] [2] [], tr [1, 1, 1, 1, 0, 1, 0, 0, 1, 1] [1, 3, 4] [1], tr [1, 1, 1, 1, 1] [1, 3] [1], tr [1, 1, 1, 1, 1, 1] [] []]),
  (74, [tr [1, 1] [0] [], tr [1, 1, 0, 1, 0, 0, 0, 1, 1] [] [], tr [1, 1, 0, 1, 0, 0, 1] [0, 3] [], tr [1, 1, 0, 1, 0, 0, 1, 0, 0, 0, 1, 0, 1] [2] [], tr [1, 1, 0, 1, 0, 0, 1, 0, 0, 1] [0, 3] [], tr [1, 1, 0, 1, 0, 0, 1, 0, 0, 1, 0, 1, 0, 1] [2] [], tr [1, 1, 0, 1, 0, 0, 1, 0, 0, 1, 1] [0, 3] [], tr [1, 1, 0, 1, 0, 0, 1, 0, 0, 1, 1, 1, 0, 1] [2] [], tr [1, 1, 0, 1, 0, 0, 1, 1] [0, 3] [], tr [1, 1, 1] [] []]),
  (75, [tr [1, 1] [0, 1] [], tr [1, 1, 0, 1, 0, 0, 0, 1, 1] [] [], tr [1, 1, 0, 1, 0, 0, 1] [0, 1, 5] [], tr [1, 1, 0, 1, 0, 0, 1, 0, 0, 0, 1, 0, 1] [4] [], tr [1, 1, 0, 1, 0, 0, 1, 0, 0, 1] [0, 1, 5] [], tr [1, 1, 0, 1, 0, 0, 1, 0, 0, 1, 0, 1, 0, 1] [4] [], tr [1, 1, 0, 1, 0, 0, 1, 0, 0, 1, 1] [0, 1, 5] [], tr [1, 1, 0, 1, 0, 0, 1, 0, 0, 1, 1, 1, 1, 0, 1] [4] [], tr [1, 1, 0, 1, 0, 0, 1, 1] [0, 1, 5] [], tr [1, 1, 1] [] []]),
  (76, [tr [1, 1] [0, 1] [], tr [1, 1, 0, 1, 0, 0, 0, 1, 1] [] [], tr [1, 1, 0, 1, 0, 0, 1] [0, 1, 5] [], tr [1, 1, 0, 1, 0, 0, 1, 0, 0, 0, 1, 0, 1] [4] [], tr [1, 1, 0, 1, 0, 0, 1, 0, 0, 1] [0, 1, 5] [], tr [1, 1, 0, 1, 0, 0, 1, 0, 0, 1, 0, 1, 0, 0, 0, 1, 1] [0, 1, 5] [], tr [1, 1, 0, 1, 0, 0, 1, 0, 0, 1, 0, 1, 0, 0, 1] [0, 1, 5, 6] [], tr [1, 1, 0, 1, 0, 0, 1, 0, 0, 1, 0, 1, 0, 0, 1, 0, 0, 1, 0, 1] [4] [], tr [1, 1, 0, 1, 0, 0, 1, 0, 0, 1, 0, 1, 0, 0, 1, 1] [0, 1, 5, 6] [], tr [1, 1, 0, 1, 0, 0, 1, 0, 0, 1, 1] [0, 1, 5] [], tr [1, 1, 0, 1, 0, 0, 1, 0, 0, 1, 1, 0, 1, 1, 0, 1] [4] [], tr [1, 1, 0, 1, 0, 0, 1, 0, 0, 1, 1, 1] [0, 1, 5] [], tr [1, 1, 0, 1, 0, 0, 1, 0, 0, 1, 1, 1, 1, 1, 0, 1] [4] [], tr [1, 1, 0, 1, 0, 0, 1, 1] [0, 1, 5] [], tr [1, 1, 1] [] []]),
  (77, [tr [1, 1] [0] [], tr [1, 1, 0, 1, 0, 0, 1, 0, 1] [] [], tr [1, 1, 0, 1, 0, 0, 1, 1] [0, 8, 9, 10] [], tr [1, 1, 0, 1, 0, 0, 1, 1, 0, 0, 1, 0, 1, 0, 1] [2] [], tr [1, 1, 0, 1, 0, 0, 1, 1, 0, 0, 1, 1] [0, 3, 4, 8, 9, 10] [], tr [1, 1, 0, 1, 0, 0, 1, 1, 0, 0, 1, 1, 1, 0, 1] [2] [], tr [1, 1, 0, 1, 0, 0, 1, 1, 1] [0, 8, 9, 10] [], tr [1, 1, 1] [] []]),
  (78, [tr [1, 1] [0] [], tr [1, 1, 0, 1, 0, 0, 0, 1, 1] [] [], tr [1, 1, 0, 1, 0, 0, 1] [0, 3] [], tr [1, 1, 0, 1, 0, 0, 1, 0, 0, 0, 1, 0, 1] [2] [], tr [1, 1, 0, 1, 0, 0, 1, 0, 0, 1] [0, 3] [], tr [1, 1, 0, 1, 0, 0, 1, 0, 0, 1, 1, 0, 1] [2] [], tr [1, 1, 0, 1, 0, 0, 1, 1] [0, 3] [], tr [1, 1, 1] [] []]),
  (88, [tr [1, 1] [0] [], tr [1, 1, 0, 1, 0, 0, 1, 0, 1] [] [], tr [1, 1, 0, 1, 0, 0, 1, 1] [0, 8, 9, 10] [], tr [1, 1, 0, 1, 0, 0, 1, 1, 0, 0, 1, 0, 1, 0, 1] [2] [], tr [1, 1, 0, 1, 0, 0, 1, 1, 0, 0, 1, 1] [0, 3, 4, 8, 9, 10] [4], tr [1, 1, 0, 1, 0, 0, 1, 1, 0, 0, 1, 1, 0, 1, 0, 1] [2] [], tr [1, 1, 0, 1, 0, 0, 1, 1, 0, 0, 1, 1, 1] [0, 3, 4, 8, 9, 10] [4], tr [1, 1, 0, 1, 0, 0, 1, 1, 0, 0, 1, 1, 1, 1, 0, 1] [2] [], tr [1, 1, 0, 1, 0, 0, 1, 1, 1] [0, 8, 9, 10] [], tr [1, 1, 1] [] []]),
  (89, [tr [1, 1] [0, 2, 3] [], tr [1, 1, 0, 1, 0, 0, 1, 0, 1] [] [], tr [1, 1, 0, 1, 0, 0, 1, 1] [0, 2, 3, 16, 17, 18] [], tr [1, 1, 0, 1, 0, 0, 1, 1, 0, 0, 1, 0, 1, 1, 0, 1] [8] [], tr [1, 1, 0, 1, 0, 0, 1, 1, 0, 0, 1, 1] [0, 2, 3, 9, 10, 16, 17, 18] [10], tr [1, 1, 0, 1, 0, 0, 1, 1, 0, 0, 1, 1, 1, 0, 1] [8] [], tr [1, 1, 0, 1, 0, 0, 1, 1, 1] [0, 2, 3, 16, 17, 18] [], tr [1, 1, 1] [] []]),
  (91, [tr [1, 1] [0, 2, 3] [], tr [1, 1, 0, 1, 0, 0, 1, 0, 1] [] [], tr [1, 1, 0, 1, 0, 0, 1, 1] [0, 2, 3, 16, 17, 18] [], tr [1, 1, 0, 1, 0, 0, 1, 1, 0, 0, 1, 0, 1, 1, 0, 1] [8] [], tr [1, 1, 0, 1, 0, 0, 1, 1, 0, 0, 1, 1] [0, 2, 3, 9, 10, 16, 17, 18] [10], tr [1, 1, 0, 1, 0, 0, 1, 1, 0, 0, 1, 1, 1, 0, 1] [8] [], tr [1, 1, 0, 1, 0, 0, 1, 1, 1] [0, 2, 3, 16, 17, 18] [], tr [1, 1, 1] [] []]),
  (93, [tr [1, 1] [0, 2, 3] [], tr [1, 1, 0, 1, 0, 0, 1, 0, 1] [] [], tr [1, 1, 0, 1, 0, 0, 1, 1] [0, 2, 3, 16, 17, 18] [], tr [1, 1, 0, 1, 0, 0, 1, 1, 0, 0, 1, 0, 1, 1, 0, 1] [8] [], tr [1, 1, 0, 1, 0, 0, 1, 1, 0, 0, 1, 1] [0, 2, 3, 9, 10, 16, 17, 18] [10], tr [1, 1, 0, 1, 0, 0, 1, 1, 0, 0, 1, 1, 1, 0, 1] [8] [], tr [1, 1, 0, 1, 0, 0, 1, 1, 1] [0, 2, 3, 16, 17, 18] [], tr [1, 1, 1] [] []]),
  (95, [tr [1, 1] [0, 2, 3] [], tr [1, 1, 0, 1, 0, 0, 1, 0, 1] [] [], tr [1, 1, 0, 1, 0, 0, 1, 1] [0, 2, 3, 16, 17, 18] [], tr [1, 1, 0, 1, 0, 0, 1, 1, 0, 0, 1, 0, 1, 1, 0, 1] [8] [], tr [1, 1, 0, 1, 0, 0, 1, 1, 0, 0, 1, 1] [0, 2, 3, 9, 10, 16, 17, 18] [10], tr [1, 1, 0, 1, 0, 0, 1, 1, 0, 0, 1, 1, 1, 0, 1] [8] [], tr [1, 1, 0, 1, 0, 0, 1, 1, 1] [0, 2, 3, 16, 17, 18] [], tr [1, 1, 1] [] []]),
  (106, [tr [1, 1] [2] [2], tr [1, 1, 1] [2] [2], tr [1, 1, 1, 1] [2] [2], tr [1, 1, 1, 1, 1] [2] [2], tr [1, 1, 1, 1, 1, 0, 1, 0, 0, 1, 0, 1] [2] [2], tr [1, 1, 1, 1, 1, 0, 1, 0, 0, 1, 1] [2, 35, 36, 37] [2], tr [1, 1, 1, 1, 1, 0, 1, 0, 0, 1, 1, 0, 0, 1, 1, 0, 1] [4] [], tr [1, 1, 1, 1, 1, 0, 1, 0, 0, 1, 1, 1] [2, 35, 36, 37] [2], tr [1, 1, 1, 1, 1, 1] [2] [2], tr [1, 1, 1, 1, 1, 1, 1] [2] [2], tr [1, 1, 1, 1, 1, 1, 1, 0, 1, 0, 0, 1, 0, 1] [2] [2], tr [1, 1, 1, 1, 1, 1, 1, 0, 1, 0, 0, 1, 1] [2, 83, 84, 85] [2], tr [1, 1, 1, 1, 1, 1, 1, 0, 1, 0, 0, 1, 1, 0, 0, 1, 1, 1, 0, 1] [4] [], tr [1, 1, 1, 1, 1, 1, 1, 0, 1, 0, 0, 1, 1, 1] [2, 83, 84, 85] [2], tr [1, 1, 1, 1, 1, 1, 1, 1] [2] [2]]),
  (107, [tr [1, 1] [1] [1], tr [1, 1, 1] [1] [1], tr [1, 1, 1, 1] [1] [1], tr [1, 1, 1, 1, 0, 1, 0, 0, 0, 1, 1] [1] [1], tr [1, 1, 1, 1, 0, 1, 0, 0, 1] [1, 3] [1], tr [1, 1, 1, 1, 0, 1, 0, 0, 1, 0, 0, 1, 0, 1] [2] [], tr [1, 1, 1, 1, 0, 1, 0, 0, 1, 1] [1, 3] [1], tr [1, 1, 1, 1, 1] [1] [1], tr [1, 1, 1, 1, 1, 1] [1] [1], tr [1, 1, 1, 1, 1, 1, 0, 1, 0, 0, 0, 1, 1] [1] [1], tr [1, 1, 1, 1, 1, 1, 0, 1, 0, 0, 1] [1, 4] [1], tr [1, 1, 1, 1, 1, 1, 0, 1, 0, 0, 1, 0, 0, 1, 1, 0, 1] [2] [], tr [1, 1, 1, 1, 1, 1, 0, 1, 0, 0, 1, 1] [1, 4] [1], tr [1, 1, 1, 1, 1, 1, 1] [1] [1], tr [1, 1, 1, 1, 1, 1, 1, 1] [] []]),
  (108, [tr [1, 1, 0, 1, 0, 0, 1, 0, 1] [3] [], tr [1, 1, 0, 1, 0, 0, 1, 1] [3, 6, 7, 8] [], tr [1, 1, 0, 1, 0, 0, 1, 1, 0, 0, 1, 1, 0, 1] [2] [], tr [1, 1, 0, 1, 0, 0, 1, 1, 1] [3, 6, 7, 8] [], tr [1, 1, 1] [3] []]),
  (109, [tr [1, 1, 1, 1, 0, 1, 0, 0, 0, 1, 1] [0, 3, 5] [], tr [1, 1, 1, 1, 0, 1, 0, 0, 1] [0, 3, 4, 5, 6] [], tr [1, 1, 1, 1, 0, 1, 0, 0, 1, 1] [0, 3, 4, 5, 6] [], tr [1, 1, 1, 1, 1] [0, 3, 5] [], tr [1, 1, 1, 1, 1, 1] [0, 3] [], tr [1, 1, 1, 1, 1, 1, 1, 1, 1, 1, 0, 0, 0, 0, 1, 1] [0, 9, 10, 12] [41], tr [1, 1, 1, 1, 1, 1, 1, 1, 1, 1, 0, 0, 0, 1] [0, 9, 10, 12] [41], tr [1, 1, 1, 1, 1, 1, 1, 1, 1, 1, 1] [0, 9, 10, 12] [41], tr [1, 1, 1, 1, 1, 1, 1, 1, 1, 1, 1, 1, 0, 0, 0, 0, 1, 1] [0, 9, 10, 11] [41], tr [1, 1, 1, 1, 1, 1, 1, 1, 1, 1, 1, 1, 0, 0, 0, 1] [0, 9, 10, 11, 12] [41], tr [1, 1, 1, 1, 1, 1, 1, 1, 1, 1, 1, 1, 0, 0, 0, 1, 0, 0, 1, 0, 1] [0, 9, 10, 11, 12] [41], tr [1, 1, 1, 1, 1, 1, 1, 1, 1, 1, 1, 1, 0, 0, 0, 1, 0, 1] [0, 9, 10, 11, 12] [41], tr [1, 1, 1, 1, 1, 1, 1, 1, 1, 1, 1, 1, 0, 0, 0, 1, 0, 1, 1, 1, 1, 0, 0, 0, 0, 1, 1] [0, 9, 10, 12] [41], tr [1, 1, 1, 1, 1, 1, 1, 1, 1, 1, 1, 1, 0, 0, 0, 1, 0, 1, 1, 1, 1, 0, 0, 0, 1] [0, 9, 10, 12] [41], tr [1, 1, 1, 1, 1, 1, 1, 1, 1, 1, 1, 1, 0, 0, 0, 1, 0, 1, 1, 1, 1, 1] [0, 9, 10, 12] [41], tr [1, 1, 1, 1, 1, 1, 1, 1, 1, 1, 1, 1, 1] [0, 9, 10, 11] [41], tr [1, 1, 1, 1, 1, 1, 1, 1, 1, 1, 1, 1, 1, 1] [9] [41]]),
  (111, [tr [1, 0, 1, 0, 0, 0, 1, 1] [0] [], tr [1, 0, 1, 0, 0, 1] [0, 3] [], tr [1, 0, 1, 0, 0, 1, 0, 0, 1, 1, 1, 0, 1] [2] [], tr [1, 0, 1, 0, 0, 1, 1] [0, 3] [], tr [1, 1] [0] []]),
  (113, [tr [1, 0, 1, 0, 1] [1, 4, 5] [1], tr [1, 0, 1, 0, 1, 1, 1] [1, 17] [1], tr [1, 1] [1] [1]]),
  (114, [tr [1, 1, 1, 1] [2, 4, 5] [2, 4], tr [1, 1, 1, 1, 0, 1, 0, 0, 1, 0, 1] [2, 4] [2, 4], tr [1, 1, 1, 1, 0, 1, 0, 0, 1, 1] [2, 4, 16, 17, 18] [2, 4], tr [1, 1, 1, 1, 0, 1, 0, 0, 1, 1, 0, 0, 1, 1, 0, 1, 0, 1] [2, 3] [2], tr [1, 1, 1, 1, 0, 1, 0, 0, 1, 1, 0, 0, 1, 1, 1] [2, 4, 6, 8, 16, 17, 18] [2, 4], tr [1, 1, 1, 1, 0, 1, 0, 0, 1, 1, 1] [2, 4, 16, 17, 18] [2, 4], tr [1, 1, 1, 1, 1] [2, 4] [2, 4]]),
  (115, [tr [1, 1] [1] [1], tr [1, 1, 1] [1] [1], tr [1, 1, 1, 1] [] []]),
  (121, [tr [1, 1, 0, 1, 0, 0, 1, 0, 1] [3] [], tr [1, 1, 0, 1, 0, 0, 1, 1] [3, 6, 7, 8] [], tr [1, 1, 0, 1, 0, 0, 1, 1, 0, 0, 1, 1, 0, 1] [2] [], tr [1, 1, 0, 1, 0, 0, 1, 1, 1] [3, 6, 7, 8] [], tr [1, 1, 1] [3] []]),
  (125, [tr [1, 1, 1] [1, 4] [1], tr [1, 1, 1, 1] [1, 4] [1], tr [1, 1, 1, 1, 1] [4] []]),
  (127, [tr [1, 1, 1] [1, 3, 4] [1]]),
  (133, [tr [1, 1, 1] [0, 4] [], tr [1, 1, 1, 0, 1, 0, 0, 1, 0, 1] [0] [], tr [1, 1, 1, 0, 1, 0, 0, 1, 1] [0, 31, 32] [31], tr [1, 1, 1, 0, 1, 0, 0, 1, 1, 0, 1, 1, 0, 1] [2, 3] [], tr [1, 1, 1, 1] [0] [], tr [1, 1, 1, 1, 1, 1] [8] []]),
  (135, [tr [1, 1, 1, 0, 1, 0, 0, 0, 1, 1] [2, 4] [2, 4], tr [1, 1, 1, 0, 1, 0, 0, 1] [0, 2, 4, 5, 6] [2, 4], tr [1, 1, 1, 0, 1, 0, 0, 1, 0, 0, 1, 0, 0, 0, 0, 1, 1] [0, 2, 4, 5, 6, 7] [2, 4], tr [1, 1, 1, 0, 1, 0, 0, 1, 0, 0, 1, 0, 0, 0, 1] [0, 2, 4, 5, 6, 7] [2, 4], tr [1, 1, 1, 0, 1, 0, 0, 1, 0, 0, 1, 1] [0, 2, 4, 5, 6, 7] [2, 4], tr [1, 1, 1, 0, 1, 0, 0, 1, 0, 0, 1, 1, 1, 0, 1, 0, 1] [2, 3] [2], tr [1, 1, 1, 0, 1, 0, 0, 1, 0, 0, 1, 1, 1, 1] [0, 2, 4, 5, 6, 8] [2, 4], tr [1, 1, 1, 0, 1, 0, 0, 1, 1] [0, 2, 4, 5, 6] [2, 4], tr [1, 1, 1, 1] [2, 4] [2, 4]]),
  (136, [tr [1, 1] [0] [], tr [1, 1, 0, 1, 0, 0, 0, 1, 1] [0] [], tr [1, 1, 0, 1, 0, 0, 1] [0, 3] [], tr [1, 1, 0, 1, 0, 0, 1, 0, 0, 1, 0, 1] [2] [], tr [1, 1, 0, 1, 0, 0, 1, 1] [0, 3] [], tr [1, 1, 1] [0] [], tr [1, 1, 1, 0, 1, 0, 0, 0, 1, 1] [] [], tr [1, 1, 1, 0, 1, 0, 0, 1] [0, 4] [], tr [1, 1, 1, 0, 1, 0, 0, 1, 0, 0, 1, 0, 1] [2] [], tr [1, 1, 1, 0, 1, 0, 0, 1, 1] [0, 4] [], tr [1, 1, 1, 1] [] []]),
  (157, [tr [1, 1, 1] [0, 4] [], tr [1, 1, 1, 0, 1, 0, 0, 0, 1, 1] [0, 4] [], tr [1, 1, 1, 0, 1, 0, 0, 1] [0, 4, 5] [], tr [1, 1, 1, 0, 1, 0, 0, 1, 0, 0, 1, 0, 1] [2, 3] [], tr [1, 1, 1, 0, 1, 0, 0, 1, 1] [0, 4, 5] [], tr [1, 1, 1, 1] [0, 4] [], tr [1, 1, 1, 1, 1] [0, 4] [], tr [1, 1, 1, 1, 1, 1] [0, 4] [], tr [1, 1, 1, 1, 1, 1, 1, 0, 1, 0, 0, 0, 1, 1] [0, 4, 6] [], tr [1, 1, 1, 1, 1, 1, 1, 0, 1, 0, 0, 1] [0, 4, 6, 7] [], tr [1, 1, 1, 1, 1, 1, 1, 0, 1, 0, 0, 1, 1] [0, 4, 6, 7] [], tr [1, 1, 1, 1, 1, 1, 1, 1] [0, 4, 6] [], tr [1, 1, 1, 1, 1, 1, 1, 1, 1] [0, 4, 6] [], tr [1, 1, 1, 1, 1, 1, 1, 1, 1, 1] [6] []]),
  (182, [tr [1, 1] [0, 1] []])]
noncomputable def V : Env := { P := Tryz.prog, G := globs, hint := fun f t => ((alook hints f).bind fun l => alook l t).getD {}, trim := fun f p => (alook trims f).bind fun l => trGet l p }
theorem mixed : V.P.follows .mixedOrders = true := by kernel_rfl
theorem funcs : FuncsOk V.P := funcsOk_of (by kernel_rfl)
end Go.SH

namespace Go.SH
open Go Go.Ab Go.Proofs
set_option linter.unusedVariables false
def wordsS : List UInt8 := [97, 110, 100, 32, 97, 114, 109, 115, 32, 97, 116, 116, 114, 105, 98, 117, 116, 101, 32, 98, 111, 111, 108, 32, 99, 108, 97, 105, 109, 115, 32, 99, 111, 110, 116, 97, 105, 110, 115, 32, 99, 111, 111, 108, 32, 99, 111, 111, 108, 105, 110, 103, 32, 100, 101, 102, 97, 117, 108, 116, 32, 100, 114, 97, 102, 116, 32, 101, 110, 100, 115, 32, 101, 120, 99, 108, 117, 100, 101, 32, 101, 120, 105, 115, 116, 115, 32, 101, 120, 112, 101, 114, 105, 109, 101, 110, 116, 32, 102, 97, 108, 115, 101, 32, 102, 108, 97, 103, 32, 104, 111, 108, 100, 111, 117, 116, 32, 105, 110, 32, 105, 110, 99, 108, 117, 100, 101, 32, 105, 115, 32, 108, 97, 121, 101, 114, 32, 108, 105, 115, 116, 32, 109, 101, 109, 98, 101, 114, 32, 110, 101, 101, 100, 115, 32, 110, 111, 116, 32, 110, 117, 109, 98, 101, 114, 32, 111, 102, 102, 32, 111, 110, 32, 111, 114, 32, 114, 117, 108, 101, 32, 114, 117, 110, 110, 105, 110, 103, 32, 115, 97, 108, 116, 32, 115, 101, 103, 109, 101, 110, 116, 32, 115, 101, 114, 118, 101, 32, 115, 101, 116, 116, 105, 110, 103, 115, 32, 115, 112, 108, 105, 116, 32, 115, 116, 97, 114, 116, 115, 32, 115, 116, 111, 112, 112, 101, 100, 32, 116, 97, 114, 103, 101, 116, 32, 116, 101, 120, 116, 32, 116, 111, 32, 116, 114, 117, 101, 32, 117, 110, 116, 105, 108, 32, 118, 97, 114, 105, 97, 116, 105, 111, 110, 115, 32, 118, 101, 114, 115, 105, 111, 110, 32, 119, 104, 101, 110]
def cutW : List UInt8 → List UInt8 → List (List UInt8)
  | [], w => [w]
  | c :: r, w => if c = 32 then w :: cutW r [] else cutW r (w ++ [c])
def resW : List (List UInt8) := cutW wordsS []
def isWords : Option (AV × List AO) → Bool
  | some (.sl _ 1 46 get, []) => rowsEq 46 (fun j => [.str (resW.getD j [])]) get
  | _ => false
set_option maxRecDepth 100000 in
theorem fields_run : isWords (E V 400 109 [.str wordsS] []) = true := by kernel_rfl
theorem isWords_inv {x : Option (AV × List AO)} (h : isWords x = true) : ∃ o get, x = some (.sl o 1 46 get, []) ∧ rowsEq 46 (fun j => [.str (resW.getD j [])]) get = true := by
  unfold isWords at h
  split at h
  · exact ⟨_, _, rfl, h⟩
  · cases h
def strsA (l : List (List UInt8)) : AV := .sl .no 1 l.length fun j => [.str (l.getD j [])]
theorem resW_len : resW.length = 46 := by kernel_rfl
theorem fields_ok : Ct V.P V.G 109 [.str wordsS] [] (strsA resW, []) := by
  obtain ⟨o, get, h1, h2⟩ := isWords_inv fields_run
  refine (ct_of_E mixed funcs (fun _ => rfl) h1).res rfl fun c v hr => ?_
  unfold strsA
  rw [resW_len]
  exact Rep.slWeak (rowsEq_eq h2) hr
end Go.SH

namespace Go.Ab
open Go
section
variable {τ : Type} [Inhabited τ]
noncomputable def g1 (A : List AV) : List AV → List AO → Bool := goodA (fun _ : Unit => A) (fun _ => []) (fun _ => True)
noncomputable def v1 (A : List AV) (w : τ) : List AV → List AO → τ := valA (fun _ : Unit => A) (fun _ => []) (fun _ => True) (fun _ => w)
noncomputable def ent1 (f : FuncId) (A : List AV) (w : τ) (φ : τ → AV × List AO) : Ent := mkE f (g1 A) (v1 A w) φ
theorem g1_eq (A : List AV) : g1 A A [] = true := goodA_eq (A := fun _ : Unit => A) (v := ()) trivial
theorem v1_eq (A : List AV) (w : τ) : v1 A w A [] = w := valA_eq (A := fun _ : Unit => A) (v := ()) (fun _ _ _ _ _ _ => rfl) trivial
theorem ent1_ok {V : Env} {f : FuncId} {A : List AV} {w : τ} {φ : τ → AV × List AO} (h : Ct V.P V.G f A [] (φ w)) : ∀ l os, (ent1 f A w φ).pre l os = true → Ct V.P V.G (ent1 f A w φ).f l os ((ent1 f A w φ).ans l os) :=
  entC_ok (w := fun _ : Unit => w) (φ := φ) fun _ _ => h
noncomputable def gF {α : Type} (A : α → List AV) (Pre : α → Prop) : List AV → List AO → Bool := goodA A (fun _ => []) Pre
noncomputable def vF {α : Type} (A : α → List AV) (Pre : α → Prop) (w : α → τ) : List AV → List AO → τ := valA A (fun _ => []) Pre w
noncomputable def entF {α : Type} (f : FuncId) (A : α → List AV) (Pre : α → Prop) (w : α → τ) (φ : τ → AV × List AO) : Ent := mkE f (gF A Pre) (vF A Pre w) φ
theorem gF_eq {α : Type} {A : α → List AV} {Pre : α → Prop} {a : α} (h : Pre a) : gF A Pre (A a) [] = true := goodA_eq (A := A) h
theorem vF_eq {α : Type} {A : α → List AV} {Pre : α → Prop} {w : α → τ} (hi : ∀ a b, A a = A b → w a = w b) {a : α} (h : Pre a) : vF A Pre w (A a) [] = w a := valA_eq (A := A) (fun a b _ _ h _ => hi a b h) h
theorem entF_ok {V : Env} {α : Type} {f : FuncId} {A : α → List AV} {Pre : α → Prop} {w : α → τ} {φ : τ → AV × List AO} (h : ∀ a, Pre a → Ct V.P V.G f (A a) [] (φ (w a))) : ∀ l os, (entF f A Pre w φ).pre l os = true → Ct V.P V.G (entF f A Pre w φ).f l os ((entF f A Pre w φ).ans l os) :=
  entC_ok (w := w) (φ := φ) h
end
end Go.Ab

namespace Go.SH
open Go Go.Ab Go.Proofs
set_option linter.unusedVariables false
set_option linter.unusedSimpArgs false
def Sw (s : List UInt8) (i : Nat) : St := { env := [(0, .str s), (3, .int .i64 i)], objs := [] }
def Sr (s : List UInt8) (l : List (List UInt8)) (i : Nat) : St := { env := [(0, .str s), (3, strsA l), (4, .int .i64 i)], objs := [] }
def Sa (s : List UInt8) (i : Nat) : St := { env := [(0, .str s), (17, .ref 17 0)], objs := [(17, .iter s i)] }
def Sb (s : List UInt8) (l : List (List UInt8)) (i : Nat) : St := { env := [(0, .str s), (50, strsA l), (51, .int .i64 l.length), (52, .int .i64 i)], objs := [] }
def φB (b : Bool) : AV × List AO := (.bool b, [])
def φS (l : List (List UInt8)) : AV × List AO := (strsA l, [])
set_option maxRecDepth 100000 in
theorem word_r (L : List (List Nat × Orc)) (m : Nat) (s : List UInt8) (i : Nat) (kn : St → Res) (k : Ex → St → Res)  : roundR (V.run [] 0 [] L [] 111) 111 m [1, 0, 1, 0] (Sw s i) kn k =
  cond (decide ((↑i : Int) < (↑(List.length s) : Int))) (cond (within (↑i : Int) (List.length s)) (cond (bif !bif decide ((↑(UInt8.toNat (List.getD s (Int.toNat (↑i : Int)) 0)) : Int) ≥ 97) then decide ((↑(UInt8.toNat (List.getD s (Int.toNat (↑i : Int)) 0)) : Int) ≤ 122) else false then bif (↑i : Int) == 0 then true else bif bif !bif decide ((↑(UInt8.toNat (List.getD s (Int.toNat (↑i : Int)) 0)) : Int) ≥ 48) then decide ((↑(UInt8.toNat (List.getD s (Int.toNat (↑i : Int)) 0)) : Int) ≤ 57) else false then (↑(UInt8.toNat (List.getD s (Int.toNat (↑i : Int)) 0)) : Int) != 45 else false then (↑(UInt8.toNat (List.getD s (Int.toNat (↑i : Int)) 0)) : Int) != 95 else false else false) (k (.ret) ({ env := [(2, .bool false)], objs := [] })) (kn ({ env := [(0, .str s), (3, .int .i64 (IntKind.wrap IntKind.i64 ((↑i : Int) + 1)))], objs := [] }))) (none)) (k (.exit 0) ({ env := [(0, .str s)], objs := [] })) := by kernel_rfl
set_option maxRecDepth 100000 in
theorem word_m (g : St → Bool) (v : St → Bool × Bool) (m : Nat) (s : List UInt8) {t1 : Bool × Bool} (h_t1 : v (Sw s 0) = t1) : runF (V.run [] 0 [] [([1, 0, 1, 0], mkO g v (outB (retB 2) fun k => k (.exit 0) { env := [(0, .str s)], objs := [] }))] [] 111) m 111 [.str s] [] =
  cond (g (Sw s 0)) (cond (Prod.fst t1) (some ((.bool (Prod.snd t1), []))) (some ((.bool (decide ((↑(List.length s) : Int) > 0)), [])))) (none) := by subst h_t1; kernel_rfl
set_option maxRecDepth 100000 in
theorem rkey_r (T : List Ent) (L : List (List Nat × Orc)) (m : Nat) (s : List UInt8) (l : List (List UInt8)) (i : Nat) (kn : St → Res) (k : Ex → St → Res)  : roundR (V.run T 1 [] L [] 67) 67 m [1, 1, 1, 0, 1, 0] (Sr s l i) kn k =
  cond (decide ((↑i : Int) < (↑(List.length l) : Int))) (cond (within (↑i : Int) (List.length l)) (cond (List.getD l (Int.toNat (↑i : Int)) [] == s) (k (.ret) ({ env := [(2, .bool false)], objs := [] })) (kn ({ env := [(0, .str s), (3, strsA l), (4, .int .i64 (IntKind.wrap IntKind.i64 ((↑i : Int) + 1)))], objs := [] }))) (none)) (k (.exit 0) ({ env := [], objs := [] })) := by kernel_rfl
set_option maxRecDepth 100000 in
theorem rkey_m (gw : List AV → List AO → Bool) (vw : List AV → List AO → Bool) (gr : List AV → List AO → Bool) (vr : List AV → List AO → List (List UInt8)) (g : St → Bool) (v : St → Bool × Bool) (m : Nat) (s : List UInt8) {t1 : List (List UInt8)} (h_t1 : vr [] [] = t1) {t2 : Bool × Bool} (h_t2 : v { env := [(0, .str s), (3, .sl .no 1 (List.length t1) fun j => [.str (List.getD t1 j [])]), (4, .int .i64 0)], objs := [] } = t2) : runF (V.run [mkE 111 gw vw φB, mkE 112 gr vr φS] 1 [] [([1, 1, 1, 0, 1, 0], mkO g v (outB (retB 2) fun k => k (.exit 0) { env := [], objs := [] }))] [] 67) m 67 [.str s] [] =
  cond (gw [.str s] []) (cond (bif !vw [.str s] [] then true else decide ((↑(List.length s) : Int) > 32)) (some ((.bool false, []))) (cond (gr [] []) (cond (g { env := [(0, .str s), (3, .sl .no 1 (List.length t1) fun j => [.str (List.getD t1 j [])]), (4, .int .i64 0)], objs := [] }) (cond (Prod.fst t2) (some ((.bool (Prod.snd t2), []))) (some ((.bool true, [])))) (none)) (none))) (none) := by subst h_t2 h_t1; kernel_rfl
set_option maxRecDepth 100000 in
theorem key_ra (T : List Ent) (L : List (List Nat × Orc)) (m : Nat) (s : List UInt8) (i : Nat) (kn : St → Res) (k : Ex → St → Res)  : roundR (V.run T 1 [] L [] 65) 65 m [1, 1, 0, 1, 0] (Sa s i) kn k =
  cond (Nat.blt i (List.length s)) (cond (bif !bif decide ((↑(Prod.fst (Utf8.decode { data := List.toArray s } i)) : Int) ≥ 97) then decide ((↑(Prod.fst (Utf8.decode { data := List.toArray s } i)) : Int) ≤ 122) else false then bif (↑i : Int) == 0 then true else bif bif bif decide ((↑(Prod.fst (Utf8.decode { data := List.toArray s } i)) : Int) < 48) then true else decide ((↑(Prod.fst (Utf8.decode { data := List.toArray s } i)) : Int) > 57) then (↑(Prod.fst (Utf8.decode { data := List.toArray s } i)) : Int) != 45 else false then (↑(Prod.fst (Utf8.decode { data := List.toArray s } i)) : Int) != 95 else false else false) (k (.ret) ({ env := [(2, .bool false)], objs := [] })) (kn (Sa s (nextP s i)))) (k (.exit 0) ({ env := [(0, .str s)], objs := [] })) := by kernel_rfl
set_option maxRecDepth 100000 in
theorem key_rb (T : List Ent) (L : List (List Nat × Orc)) (m : Nat) (s : List UInt8) (l : List (List UInt8)) (i : Nat) (kn : St → Res) (k : Ex → St → Res)  : roundR (V.run T 1 [] L [] 65) 65 m [1, 1, 1, 0, 1, 0] (Sb s l i) kn k =
  cond (decide ((↑i : Int) < (↑(List.length l) : Int))) (cond (within (↑i : Int) (List.length l)) (cond (List.getD l (Int.toNat (↑i : Int)) [] == s) (k (.ret) ({ env := [(2, .bool false)], objs := [] })) (kn ({ env := [(0, .str s), (50, strsA l), (51, .int .i64 (↑(List.length l) : Int)), (52, .int .i64 (IntKind.wrap IntKind.i64 ((↑i : Int) + 1)))], objs := [] }))) (none)) (k (.exit 2) ({ env := [], objs := [] })) := by kernel_rfl
set_option maxRecDepth 100000 in
theorem key_m (gf : List AV → List AO → Bool) (vf : List AV → List AO → List (List UInt8)) (ga gb : St → Bool) (va vb : St → Bool × Bool) (m : Nat) (s : List UInt8) {t1 : Bool × Bool} (h_t1 : va (Sa s 0) = t1) {t2 : List (List UInt8)} (h_t2 : vf [.str wordsS] [] = t2) {t3 : Bool × Bool} (h_t3 : vb { env := [(0, .str s), (50, .sl .no 1 (List.length t2) fun j => [.str (List.getD t2 j [])]), (51, .int .i64 (↑(List.length t2) : Int)), (52, .int .i64 0)], objs := [] } = t3) : runF (V.run [mkE 109 gf vf φS] 1 [] [([1, 1, 0, 1, 0], mkO ga va (outB (retB 2) fun k => k (.exit 0) { env := [(0, .str s)], objs := [] })), ([1, 1, 1, 0, 1, 0], mkO gb vb (outB (retB 2) fun k => k (.exit 2) { env := [], objs := [] }))] [] 65) m 65 [.str s] [] =
  cond (bif decide ((↑(List.length s) : Int) < 1) then true else decide ((↑(List.length s) : Int) > 32)) (some ((.bool false, []))) (cond (ga (Sa s 0)) (cond (Prod.fst t1) (some ((.bool (Prod.snd t1), []))) (cond (gf [.str wordsS] []) (cond (gb { env := [(0, .str s), (50, .sl .no 1 (List.length t2) fun j => [.str (List.getD t2 j [])]), (51, .int .i64 (↑(List.length t2) : Int)), (52, .int .i64 0)], objs := [] }) (cond (Prod.fst t3) (some ((.bool (Prod.snd t3), []))) (some ((.bool true, [])))) (none)) (none))) (none)) := by subst h_t3 h_t2 h_t1; kernel_rfl
def maxS : Nat := 4611686018427387904
def wordBad (i : Nat) (c : Nat) : Bool := bif !bif decide ((c : Int) ≥ 97) then decide ((c : Int) ≤ 122) else false then bif (i : Int) == 0 then true else bif bif !bif decide ((c : Int) ≥ 48) then decide ((c : Int) ≤ 57) else false then (c : Int) != 45 else false then (c : Int) != 95 else false else false
def wordSeek (s : List UInt8) : Bool × Bool := seek s.length (· + 1) (fun i => wordBad i (s.getD i 0).toNat) false
def wordB (s : List UInt8) : Bool := !(wordSeek s).1 && decide (0 < s.length)
theorem Sw_inj (s : List UInt8) (i j : Nat) (h : Sw s i = Sw s j) : i = j := by
  simp only [Sw, St.mk.injEq, List.cons.injEq, Prod.mk.injEq, AV.int.injEq, and_true, true_and] at h; omega
theorem word_ok (s : List UInt8) (hs : s.length ≤ maxS) : Ct V.P V.G 111 [.str s] [] (φB (wordB s)) := by
  unfold maxS at hs
  have hl := loopOk_seek (X := V.run [] 0 [] [([1, 0, 1, 0], mkO (goodS (Sw s) (· ≤ s.length)) (valS (Sw s) (· ≤ s.length) (scanAt s.length (· + 1) (fun i => bif wordBad i (s.getD i 0).toNat then some false else none))) (outB (retB 2) fun k => k (.exit 0) { env := [(0, .str s)], objs := [] }))] [] 111)
    (f := 111) (p := [1, 0, 1, 0]) (b := subC (bodyOf V.P 111) ([1, 0, 1, 0] ++ [0])) (Sw s) s.length (· + 1) (fun i => wordBad i (s.getD i 0).toNat) false (retB 2) (fun k => k (.exit 0) { env := [(0, .str s)], objs := [] }) (by kernel_rfl) 0 (fun i h => ⟨by omega, by omega⟩)
    (fun i h kn k => by rw [word_r, lt_true h, within_lt h, wrap_next h hs, Int.toNat_natCast]; rfl) (fun kn k => by rw [word_r, lt_false (Nat.lt_irrefl _)]; rfl)
  obtain ⟨h1, h2⟩ := seek_at (Sw s) s.length (· + 1) (fun i => wordBad i (s.getD i 0).toNat) false (Sw_inj s)
  refine ct_loops (n := 0) mixed funcs tabOk_nil (loopsOk_cons hl loopsOk_nil) ?_
  refine (word_m _ _ 0 s h2).trans ?_
  rw [h1]
  unfold wordB wordSeek φB
  cases hb : (seek s.length (· + 1) (fun i => wordBad i (s.getD i 0).toNat) false).1 with
  | true => rw [seek_val hb]; rfl
  | false => simp
set_option maxRecDepth 100000 in
theorem reserved_run : isWords (E V 5 112 [] []) = true := by kernel_rfl
theorem reserved_ok : Ct V.P V.G 112 [] [] (φS resW) := by
  obtain ⟨o, get, h1, h2⟩ := isWords_inv reserved_run
  refine (ct_of_E mixed funcs (fun _ => rfl) h1).res rfl fun c v hr => ?_
  unfold strsA
  rw [resW_len]
  exact Rep.slWeak (rowsEq_eq h2) hr
def resSeek (s : List UInt8) : Bool × Bool := seek resW.length (· + 1) (fun i => resW.getD i [] == s) false
def keyB (s : List UInt8) : Bool := wordB s && (decide (s.length ≤ 32) && !(resSeek s).1)
theorem Sr_inj (s : List UInt8) (l : List (List UInt8)) (i j : Nat) (h : Sr s l i = Sr s l j) : i = j := by
  simp only [Sr, St.mk.injEq, List.cons.injEq, Prod.mk.injEq, AV.int.injEq, and_true, true_and] at h; omega
theorem Sb_inj (s : List UInt8) (l : List (List UInt8)) (i j : Nat) (h : Sb s l i = Sb s l j) : i = j := by
  simp only [Sb, St.mk.injEq, List.cons.injEq, Prod.mk.injEq, AV.int.injEq, and_true, true_and] at h; omega
theorem Sa_inj (s : List UInt8) (i j : Nat) (h : Sa s i = Sa s j) : i = j := by
  simp only [Sa, St.mk.injEq, List.cons.injEq, Prod.mk.injEq, AO.iter.injEq, and_true, true_and] at h; exact h
theorem rkey_ok (s : List UInt8) (hs : s.length ≤ maxS) : Ct V.P V.G 67 [.str s] [] (φB (keyB s)) := by
  have hl := fun T L => loopOk_seek (X := V.run T 1 [] L [] 67)
    (f := 67) (p := [1, 1, 1, 0, 1, 0]) (b := subC (bodyOf V.P 67) ([1, 1, 1, 0, 1, 0] ++ [0])) (Sr s resW) resW.length (· + 1) (fun i => resW.getD i [] == s) false (retB 2) (fun k => k (.exit 0) { env := [], objs := [] }) (by kernel_rfl) 0 (fun i h => ⟨by omega, by omega⟩)
    (fun i h kn k => by rw [rkey_r, lt_true h, within_lt h, wrap_next h (by rw [resW_len]; omega), Int.toNat_natCast]; rfl) (fun kn k => by rw [rkey_r, lt_false (Nat.lt_irrefl _)]; rfl)
  obtain ⟨h1, h2⟩ := seek_at (Sr s resW) resW.length (· + 1) (fun i => resW.getD i [] == s) false (Sr_inj s resW)
  refine ct_loops (n := 0) (T := [ent1 111 [.str s] (wordB s) φB, ent1 112 [] resW φS]) mixed funcs (tabOk_cons (ent1_ok (word_ok s hs)) (tabOk_cons (ent1_ok reserved_ok) tabOk_nil)) (loopsOk_cons (hl _ _) loopsOk_nil) ?_
  refine (rkey_m (g1 [.str s]) (v1 [.str s] (wordB s)) (g1 []) (v1 [] resW) _ _ 0 s (v1_eq _ _) h2).trans ?_
  rw [g1_eq, g1_eq, v1_eq]
  rw [show goodS (Sr s resW) (· ≤ resW.length) { env := [(0, .str s), (3, .sl .no 1 (List.length resW) fun j => [.str (List.getD resW j [])]), (4, .int .i64 0)], objs := [] } = true from h1]
  unfold keyB φB
  rw [show seek resW.length (· + 1) (fun i => resW.getD i [] == s) false = resSeek s from rfl]
  have hv : (resSeek s).1 = true → (resSeek s).2 = false := seek_val
  have hd : decide ((s.length : Int) > 32) = !decide (s.length ≤ 32) := by
    by_cases h : s.length ≤ 32
    · rw [decide_eq_true h, decide_eq_false (by omega)]; rfl
    · rw [decide_eq_false h, decide_eq_true (by omega)]; rfl
  rw [hd]
  cases wordB s <;> cases decide (s.length ≤ 32) <;> cases hr : (resSeek s).1 <;> simp [hr, hv]
end Go.SH

namespace Go.Ab
open Go
theorem get_bytes (s : List UInt8) (i : Nat) : (ByteArray.mk s.toArray).get! i = s.getD i 0 := by
  show s.toArray[i]! = _
  simp only [List.getElem!_toArray, List.getD_eq_getElem?_getD, List.getElem!_eq_getElem?_getD]
  rfl
theorem dec_low {s : List UInt8} {i : Nat} (ha : (s.getD i 0).toNat < 128) : Utf8.decode ⟨s.toArray⟩ i = ((s.getD i 0).toNat, 1) := by
  have e : (ByteArray.mk s.toArray).get! (i + 0) = s.getD i 0 := get_bytes s i
  simp only [Utf8.decode, e, ha, if_true]
theorem size_bytes (s : List UInt8) : (ByteArray.mk s.toArray).size = s.length := by simp [ByteArray.size]
theorem dec_high {s : List UInt8} {i : Nat} (_ : i < s.length) (ha : 128 ≤ (s.getD i 0).toNat) :
    128 ≤ (Utf8.decode ⟨s.toArray⟩ i).1 ∧ 1 ≤ (Utf8.decode ⟨s.toArray⟩ i).2 ∧ ∀ k, 1 ≤ k → k < (Utf8.decode ⟨s.toArray⟩ i).2 → i + k < s.length ∧ 128 ≤ (s.getD (i + k) 0).toNat := by
  have e0 : (ByteArray.mk s.toArray).get! (i + 0) = s.getD i 0 := get_bytes s i
  have hone : ∀ {c : Nat}, 128 ≤ c → (128 ≤ ((c, 1) : Nat × Nat).1 ∧ 1 ≤ ((c, 1) : Nat × Nat).2 ∧ ∀ k, 1 ≤ k → k < ((c, 1) : Nat × Nat).2 → i + k < s.length ∧ 128 ≤ (s.getD (i + k) 0).toNat) := by
    intro c hc; exact ⟨hc, Nat.le_refl _, fun k h1 h2 => by simp at h2; omega⟩
  have herr : 128 ≤ Utf8.runeError := by decide
  have hcont : ∀ k, (decide (i + k < (ByteArray.mk s.toArray).size) && ((ByteArray.mk s.toArray).get! (i + k)).toNat / 64 == 2) = true → i + k < s.length ∧ 128 ≤ (s.getD (i + k) 0).toNat := by
    intro k h
    simp only [Bool.and_eq_true, decide_eq_true_eq, beq_iff_eq, size_bytes, get_bytes] at h
    exact ⟨h.1, by omega⟩
  unfold Utf8.decode
  simp only [e0]
  rw [if_neg (by omega)]
  split
  · rename_i h
    simp only [Bool.and_eq_true] at h
    split
    · rename_i hc
      refine ⟨hc, by omega, fun k h1 h2 => ?_⟩
      simp only at h2
      obtain rfl : k = 1 := by omega
      exact hcont 1 (by simpa using h.2)
    · exact hone herr
  · split
    · rename_i h
      simp only [Bool.and_eq_true] at h
      split
      · rename_i hc
        simp only [Bool.and_eq_true, decide_eq_true_eq] at hc
        refine ⟨by simp only; omega, by omega, fun k h1 h2 => ?_⟩
        simp only at h2
        rcases (show k = 1 ∨ k = 2 by omega) with rfl | rfl
        · exact hcont 1 (by simpa using h.1.2)
        · exact hcont 2 (by simpa using h.2)
      · exact hone herr
    · split
      · rename_i h
        simp only [Bool.and_eq_true] at h
        split
        · rename_i hc
          simp only [Bool.and_eq_true, decide_eq_true_eq] at hc
          refine ⟨by simp only; omega, by omega, fun k h1 h2 => ?_⟩
          simp only at h2
          rcases (show k = 1 ∨ k = 2 ∨ k = 3 by omega) with rfl | rfl | rfl
          · exact hcont 1 (by simpa using h.1.1.2)
          · exact hcont 2 (by simpa using h.1.2)
          · exact hcont 3 (by simpa using h.2)
        · exact hone herr
      · exact hone herr
theorem next_bd {s : List UInt8} {i : Nat} (hi : i < s.length) : i < nextP s i ∧ nextP s i ≤ s.length := by
  unfold nextP
  by_cases h : (s.getD i 0).toNat < 128
  · rw [dec_low h]; exact ⟨by simp, by simp; omega⟩
  · obtain ⟨_, h2, h3⟩ := dec_high hi (by omega)
    refine ⟨by omega, ?_⟩
    by_cases h4 : (Utf8.decode ⟨s.toArray⟩ i).2 = 1
    · omega
    · have := (h3 ((Utf8.decode ⟨s.toArray⟩ i).2 - 1) (by omega) (by omega)).1
      omega
theorem seek_step {τ : Type} [Inhabited τ] {n : Nat} {nxt : Nat → Nat} {bad : Nat → Bool} {t : τ} (hn : ∀ i, i < n → i < nxt i) {i : Nat} (h : i < n) :
    scanAt n nxt (fun i => bif bad i then some t else none) i = cond (bad i) (true, t) (scanAt n nxt (fun i => bif bad i then some t else none) (nxt i)) := by
  rw [scanAt_step hn h]; cases bad i <;> rfl
theorem seek_runes_bad {τ : Type} [Inhabited τ] (s : List UInt8) (badR badB : Nat → Bool) (t : τ) (hlow : ∀ i, i < s.length → (s.getD i 0).toNat < 128 → badR i = badB i) (hhigh : ∀ i, i < s.length → 128 ≤ (s.getD i 0).toNat → badR i = true ∧ badB i = true) :
    seek s.length (nextP s) badR t = seek s.length (· + 1) badB t := by
  have key : ∀ d i, s.length - i ≤ d → scanAt s.length (nextP s) (fun i => bif badR i then some t else none) i = scanAt s.length (· + 1) (fun i => bif badB i then some t else none) i := by
    intro d
    induction d with
    | zero => intro i hd; rw [scanAt_end _ _ _ (by omega), scanAt_end _ _ _ (by omega)]
    | succ d ih =>
      intro i hd
      by_cases h : i < s.length
      · rw [seek_step (fun i h => (next_bd h).1) h, seek_step (fun i _ => Nat.lt_succ_self i) h]
        by_cases hl : (s.getD i 0).toNat < 128
        · rw [hlow i h hl]
          have : nextP s i = i + 1 := by unfold nextP; rw [dec_low hl]
          rw [this, ih (i + 1) (by omega)]
        · obtain ⟨h1, h2⟩ := hhigh i h (by omega)
          rw [h1, h2]; rfl
      · rw [scanAt_end _ _ _ h, scanAt_end _ _ _ h]
  exact key s.length 0 (by omega)
theorem seek_runes_good {τ : Type} [Inhabited τ] (s : List UInt8) (badR badB : Nat → Bool) (t : τ) (hlow : ∀ i, i < s.length → (s.getD i 0).toNat < 128 → badR i = badB i) (hhigh : ∀ i, i < s.length → 128 ≤ (s.getD i 0).toNat → badR i = false ∧ badB i = false) :
    seek s.length (nextP s) badR t = seek s.length (· + 1) badB t := by
  have skip : ∀ k i, i + k ≤ s.length → (∀ j, j < k → 128 ≤ (s.getD (i + j) 0).toNat) → scanAt s.length (· + 1) (fun i => bif badB i then some t else none) i = scanAt s.length (· + 1) (fun i => bif badB i then some t else none) (i + k) := by
    intro k
    induction k with
    | zero => intro i _ _; rfl
    | succ k ih =>
      intro i hk hj
      have h : i < s.length := by omega
      rw [seek_step (fun i _ => Nat.lt_succ_self i) h, (hhigh i h (by have := hj 0 (by omega); simpa using this)).2]
      simp only [cond_false]
      rw [ih (i + 1) (by omega) (fun j hj' => by have := hj (j + 1) (by omega); rwa [show i + 1 + j = i + (j + 1) by omega])]
      congr 1; omega
  have key : ∀ d i, s.length - i ≤ d → scanAt s.length (nextP s) (fun i => bif badR i then some t else none) i = scanAt s.length (· + 1) (fun i => bif badB i then some t else none) i := by
    intro d
    induction d with
    | zero => intro i hd; rw [scanAt_end _ _ _ (by omega), scanAt_end _ _ _ (by omega)]
    | succ d ih =>
      intro i hd
      by_cases h : i < s.length
      · have hb := next_bd h
        rw [seek_step (fun i h => (next_bd h).1) h]
        by_cases hl : (s.getD i 0).toNat < 128
        · rw [seek_step (fun i _ => Nat.lt_succ_self i) h, hlow i h hl]
          have : nextP s i = i + 1 := by unfold nextP; rw [dec_low hl]
          rw [this, ih (i + 1) (by omega)]
        · obtain ⟨_, h2, h3⟩ := dec_high h (by omega)
          rw [(hhigh i h (by omega)).1]
          simp only [cond_false]
          rw [ih _ (by omega), skip (nextP s i - i) i (by omega) (fun j hj => by
            by_cases hz : j = 0
            · subst hz; rw [Nat.add_zero]; omega
            · exact (h3 j (by omega) (by unfold nextP at hj; omega)).2)]
          congr 1; omega
      · rw [scanAt_end _ _ _ h, scanAt_end _ _ _ h]
  exact key s.length 0 (by omega)
end Go.Ab

namespace Go.SH
open Go Go.Ab Go.Proofs
set_option linter.unusedVariables false
set_option linter.unusedSimpArgs false
theorem wordBad_high {i c : Nat} (h : 128 ≤ c) : wordBad i c = true := by
  unfold wordBad
  rw [decide_eq_true (show (c : Int) ≥ 97 by omega), decide_eq_false (show ¬ (c : Int) ≤ 122 by omega), decide_eq_true (show (c : Int) ≥ 48 by omega), decide_eq_false (show ¬ (c : Int) ≤ 57 by omega)]
  rw [show ((c : Int) != 45) = true by simp; omega, show ((c : Int) != 95) = true by simp; omega]
  cases ((i : Int) == 0) <;> rfl
theorem wordBad_prog (i c : Nat) : (bif !bif decide ((c : Int) ≥ 97) then decide ((c : Int) ≤ 122) else false then bif (i : Int) == 0 then true else bif bif bif decide ((c : Int) < 48) then true else decide ((c : Int) > 57) then (c : Int) != 45 else false then (c : Int) != 95 else false else false) = wordBad i c := by
  unfold wordBad
  have e1 : decide ((c : Int) < 48) = !decide ((c : Int) ≥ 48) := by
    by_cases h : (c : Int) ≥ 48
    · rw [decide_eq_true h, decide_eq_false (by omega)]; rfl
    · rw [decide_eq_false h, decide_eq_true (by omega)]; rfl
  have e2 : decide ((c : Int) > 57) = !decide ((c : Int) ≤ 57) := by
    by_cases h : (c : Int) ≤ 57
    · rw [decide_eq_true h, decide_eq_false (by omega)]; rfl
    · rw [decide_eq_false h, decide_eq_true (by omega)]; rfl
  rw [e1, e2]
  cases decide ((c : Int) ≥ 48) <;> cases decide ((c : Int) ≤ 57) <;> rfl
def keyBad (s : List UInt8) (i : Nat) : Bool := wordBad i (Utf8.decode ⟨s.toArray⟩ i).1
theorem keySeek_eq (s : List UInt8) : seek s.length (nextP s) (keyBad s) false = wordSeek s :=
  seek_runes_bad s (keyBad s) _ false (fun i hi hl => by unfold keyBad; rw [dec_low hl]) (fun i hi hh => ⟨wordBad_high (dec_high hi hh).1, wordBad_high hh⟩)
theorem key_ok (s : List UInt8) : Ct V.P V.G 65 [.str s] [] (φB (keyB s)) := by
  have ha := fun T L => loopOk_seek (X := V.run T 1 [] L [] 65)
    (f := 65) (p := [1, 1, 0, 1, 0]) (b := subC (bodyOf V.P 65) ([1, 1, 0, 1, 0] ++ [0])) (Sa s) s.length (nextP s) (keyBad s) false (retB 2) (fun k => k (.exit 0) { env := [(0, .str s)], objs := [] }) (by kernel_rfl) 0 (fun i h => next_bd h)
    (fun i h kn k => by rw [key_ra, bltT h, wordBad_prog]; rfl) (fun kn k => by
      have : Nat.blt s.length s.length = false := by
        cases e : Nat.blt s.length s.length with
        | false => rfl
        | true => exact absurd (ltB e) (Nat.lt_irrefl _)
      rw [key_ra, this]; rfl)
  have hb := fun T L => loopOk_seek (X := V.run T 1 [] L [] 65)
    (f := 65) (p := [1, 1, 1, 0, 1, 0]) (b := subC (bodyOf V.P 65) ([1, 1, 1, 0, 1, 0] ++ [0])) (Sb s resW) resW.length (· + 1) (fun i => resW.getD i [] == s) false (retB 2) (fun k => k (.exit 2) { env := [], objs := [] }) (by kernel_rfl) 0 (fun i h => ⟨by omega, by omega⟩)
    (fun i h kn k => by rw [key_rb, lt_true h, within_lt h, wrap_next h (by rw [resW_len]; omega), Int.toNat_natCast]; rfl) (fun kn k => by rw [key_rb, lt_false (Nat.lt_irrefl _)]; rfl)
  obtain ⟨h1, h2⟩ := seek_at (Sa s) s.length (nextP s) (keyBad s) false (Sa_inj s)
  obtain ⟨h3, h4⟩ := seek_at (Sb s resW) resW.length (· + 1) (fun i => resW.getD i [] == s) false (Sb_inj s resW)
  refine ct_loops (n := 0) (T := [ent1 109 [.str wordsS] resW φS]) mixed funcs (tabOk_cons (ent1_ok fields_ok) tabOk_nil) (loopsOk_cons (ha _ _) (loopsOk_cons (hb _ _) loopsOk_nil)) ?_
  refine (key_m (g1 [.str wordsS]) (v1 [.str wordsS] resW) _ _ _ _ 0 s h2 (t2 := resW) ?_ h4).trans ?_
  · exact v1_eq _ _
  · rw [keySeek_eq, h1]
    rw [show goodS (Sb s resW) (· ≤ resW.length) { env := [(0, .str s), (50, .sl .no 1 (List.length resW) fun j => [.str (List.getD resW j [])]), (51, .int .i64 (List.length resW : Nat)), (52, .int .i64 0)], objs := [] } = true from h3, g1_eq]
    unfold keyB φB wordB
    have hv : (resSeek s).1 = true → (resSeek s).2 = false := seek_val
    have hw : (wordSeek s).1 = true → (wordSeek s).2 = false := seek_val
    have e1 : decide ((s.length : Int) > 32) = !decide (s.length ≤ 32) := by
      by_cases h : s.length ≤ 32
      · rw [decide_eq_true h, decide_eq_false (by omega)]; rfl
      · rw [decide_eq_false h, decide_eq_true (by omega)]; rfl
    have e2 : decide ((s.length : Int) < 1) = !decide (0 < s.length) := by
      by_cases h : 0 < s.length
      · rw [decide_eq_true h, decide_eq_false (by omega)]; rfl
      · rw [decide_eq_false h, decide_eq_true (by omega)]; rfl
    rw [e1, e2, show seek resW.length (· + 1) (fun i => resW.getD i [] == s) false = resSeek s from rfl]
    cases decide (0 < s.length) <;> cases decide (s.length ≤ 32) <;> cases hr : (resSeek s).1 <;> cases hx : (wordSeek s).1 <;> simp [hr, hv, hx, hw]
end Go.SH

namespace Go.Ab
open Go Go.RowKit
theorem good_below {G : Nat → Option (List AV)} {c : Cx} {w' : World} (hg : Good G c) (hb : Below c.w.heap.size c.w w') : Good G { c with w := w' } := by
  have hcell : ∀ b o v, c.I b o → c.w.cell? ⟨b, o, none⟩ = some v → w'.cell? ⟨b, o, none⟩ = some v := fun b o v _ hv => by
    rw [World.cell?_block (hb.block b (lt_of_cell hv))]; exact hv
  refine ⟨fun b o hi => ?_, fun g cs h => (hg.globs g cs h).ext (ks := fun _ => False) ⟨hcell, fun _ _ h => h, fun _ h => h.elim, fun _ h => h.elim⟩ (by simp [AV.keys])⟩
  obtain ⟨v, hv⟩ := hg.there b o hi
  exact ⟨v, hcell b o v hi hv⟩
theorem ct_of_below {P : Program} {G : Nat → Option (List AV)} {f : FuncId} {l : List AV} {r : AV} {x : Value} (hx : ∀ c, Rep c r x) (hk : r.keys = [])
    (hfn : ∃ fn, P.funcs[f]? = some fn ∧ (fn.name == "runtime.NumGoroutine") = false ∧ fn.body.isSome = true)
    (h : ∀ (c : Cx) (vs : Array Value), Good G c → vs.size = l.length → (∀ (i : Nat) (u : AV), l[i]? = some u → Rep c u (vs.getD i undef)) → Calls P f vs c.w fun e w' => e = .returned x ∧ Below c.w.heap.size c.w w') :
    Ct P G f l [] (r, []) := by
  refine ⟨fun c0 vs hg ho hs hr _ => (h c0 vs hg hs hr).mono ?_, hfn⟩
  rintro e w' ⟨rfl, hb⟩
  refine ⟨{ c0 with w := w' }, x, rfl, rfl, good_below hg hb, ⟨hb.os, hb.output, hb.tape, hb.size, fun b hb' _ => hb.block b hb', ?_, fun _ _ _ _ hi => hi⟩, ?_, hx _, fun k hk' => by rw [hk] at hk'; simp at hk', fun k o b ho' => by simp [enterObjs, alook] at ho'⟩
  · exact ⟨fun b o v _ hv => by show w'.cell? _ = _; rw [World.cell?_block (hb.block b (lt_of_cell hv))]; exact hv, fun _ _ h => h, fun _ _ => rfl, fun _ _ _ _ h => h⟩
  · exact ⟨fun k o h => by simp [enterObjs, alook] at h, fun k o k' o' b h => by simp [enterObjs, alook] at h, fun k o h => by simp [enterObjs, alook] at h⟩
end Go.Ab

namespace Go.SH
open Go Go.Ab Go.Proofs
set_option linter.unusedVariables false
set_option linter.unusedSimpArgs false
def Sv (s : List UInt8) (i : Nat) : St := { env := [(14, .ref 14 0)], objs := [(14, .iter s i)] }
set_option maxRecDepth 100000 in
theorem valid_r (T : List Ent) (L : List (List Nat × Orc)) (m : Nat) (s : List UInt8) (i : Nat) (kn : St → Res) (k : Ex → St → Res)  : roundR (V.run T 1 [] L [] 66) 66 m [1, 1, 0, 1, 0] (Sv s i) kn k =
  cond (Nat.blt i (List.length s)) (cond (bif decide ((↑(Prod.fst (Utf8.decode { data := List.toArray s } i)) : Int) < 32) then true else (↑(Prod.fst (Utf8.decode { data := List.toArray s } i)) : Int) == 127) (k (.ret) ({ env := [(2, .bool false)], objs := [] })) (kn (Sv s (nextP s i)))) (k (.exit 0) ({ env := [], objs := [] })) := by kernel_rfl
set_option maxRecDepth 100000 in
theorem valid_m (gu : List AV → List AO → Bool) (vu : List AV → List AO → Bool) (g : St → Bool) (v : St → Bool × Bool) (m : Nat) (s : List UInt8) {t1 : Bool × Bool} (h_t1 : v (Sv s 0) = t1) : runF (V.run [mkE 110 gu vu φB] 1 [] [([1, 1, 0, 1, 0], mkO g v (outB (retB 2) fun k => k (.exit 0) { env := [], objs := [] }))] [] 66) m 66 [.str s] [] =
  cond (gu [.str s] []) (cond (bif decide ((↑(List.length s) : Int) > 200) then true else !vu [.str s] []) (some ((.bool false, []))) (cond (g (Sv s 0)) (cond (Prod.fst t1) (some ((.bool (Prod.snd t1), []))) (some ((.bool true, [])))) (none))) (none) := by subst h_t1; kernel_rfl
set_option maxRecDepth 100000 in
theorem rvalid_r (T : List Ent) (L : List (List Nat × Orc)) (m : Nat) (s : List UInt8) (i : Nat) (kn : St → Res) (k : Ex → St → Res)  : roundR (V.run T 1 [] L [] 68) 68 m [1, 1, 0, 1, 0] (Sw s i) kn k =
  cond (decide ((↑i : Int) < (↑(List.length s) : Int))) (cond (within (↑i : Int) (List.length s)) (cond (bif within (↑i : Int) (List.length s) then true else !bif decide ((↑(UInt8.toNat (List.getD s (Int.toNat (↑i : Int)) 0)) : Int) < 32) == false then true else false) (cond (bif decide ((↑(UInt8.toNat (List.getD s (Int.toNat (↑i : Int)) 0)) : Int) < 32) then true else (↑(UInt8.toNat (List.getD s (Int.toNat (↑i : Int)) 0)) : Int) == 127) (k (.ret) ({ env := [(2, .bool false)], objs := [] })) (kn ({ env := [(0, .str s), (3, .int .i64 (IntKind.wrap IntKind.i64 ((↑i : Int) + 1)))], objs := [] }))) (none)) (none)) (k (.exit 0) ({ env := [], objs := [] })) := by kernel_rfl
set_option maxRecDepth 100000 in
theorem rvalid_m (gu : List AV → List AO → Bool) (vu : List AV → List AO → Bool) (g : St → Bool) (v : St → Bool × Bool) (m : Nat) (s : List UInt8) {t1 : Bool × Bool} (h_t1 : v (Sw s 0) = t1) : runF (V.run [mkE 110 gu vu φB] 1 [] [([1, 1, 0, 1, 0], mkO g v (outB (retB 2) fun k => k (.exit 0) { env := [], objs := [] }))] [] 68) m 68 [.str s] [] =
  cond (gu [.str s] []) (cond (bif decide ((↑(List.length s) : Int) > 200) then true else !vu [.str s] []) (some ((.bool false, []))) (cond (g (Sw s 0)) (cond (Prod.fst t1) (some ((.bool (Prod.snd t1), []))) (some ((.bool true, [])))) (none))) (none) := by subst h_t1; kernel_rfl
def utfB (s : List UInt8) : Bool := Lib.validD s
def ctrl (c : Nat) : Bool := bif decide ((c : Int) < 32) then true else (c : Int) == 127
def ctrlSeek (s : List UInt8) : Bool × Bool := seek s.length (· + 1) (fun i => ctrl (s.getD i 0).toNat) false
def validB (s : List UInt8) : Bool := decide (s.length ≤ 200) && (utfB s && !(ctrlSeek s).1)
theorem ctrl_high {c : Nat} (h : 128 ≤ c) : ctrl c = false := by
  unfold ctrl
  rw [decide_eq_false (show ¬ (c : Int) < 32 by omega)]
  simp; omega
def ctrlR (s : List UInt8) (i : Nat) : Bool := ctrl (Utf8.decode ⟨s.toArray⟩ i).1
theorem ctrlSeek_eq (s : List UInt8) : seek s.length (nextP s) (ctrlR s) false = ctrlSeek s :=
  seek_runes_good s (ctrlR s) _ false (fun i hi hl => by unfold ctrlR; rw [dec_low hl]) (fun i hi hh => ⟨ctrl_high (dec_high hi hh).1, ctrl_high hh⟩)
theorem Sv_inj (s : List UInt8) (i j : Nat) (h : Sv s i = Sv s j) : i = j := by
  simp only [Sv, St.mk.injEq, List.cons.injEq, Prod.mk.injEq, AO.iter.injEq, and_true, true_and] at h; exact h
theorem len200 (s : List UInt8) : decide ((s.length : Int) > 200) = !decide (s.length ≤ 200) := by
  by_cases h : s.length ≤ 200
  · rw [decide_eq_true h, decide_eq_false (by omega)]; rfl
  · rw [decide_eq_false h, decide_eq_true (by omega)]; rfl
theorem blt_irrefl (n : Nat) : Nat.blt n n = false := by
  cases e : Nat.blt n n with
  | false => rfl
  | true => exact absurd (ltB e) (Nat.lt_irrefl _)
section
variable (hu : ∀ s : List UInt8, s.length ≤ maxS → Ct V.P V.G 110 [.str s] [] (φB (utfB s)))
include hu
theorem valid_ok (s : List UInt8) (hs : s.length ≤ maxS) : Ct V.P V.G 66 [.str s] [] (φB (validB s)) := by
  have hl := fun T L => loopOk_seek (X := V.run T 1 [] L [] 66)
    (f := 66) (p := [1, 1, 0, 1, 0]) (b := subC (bodyOf V.P 66) ([1, 1, 0, 1, 0] ++ [0])) (Sv s) s.length (nextP s) (ctrlR s) false (retB 2) (fun k => k (.exit 0) { env := [], objs := [] }) (by kernel_rfl) 0 (fun i h => next_bd h)
    (fun i h kn k => by rw [valid_r, bltT h]; rfl) (fun kn k => by rw [valid_r, blt_irrefl]; rfl)
  obtain ⟨h1, h2⟩ := seek_at (Sv s) s.length (nextP s) (ctrlR s) false (Sv_inj s)
  refine ct_loops (n := 0) (T := [ent1 110 [.str s] (utfB s) φB]) mixed funcs (tabOk_cons (ent1_ok (hu s hs)) tabOk_nil) (loopsOk_cons (hl _ _) loopsOk_nil) ?_
  refine (valid_m (g1 [.str s]) (v1 [.str s] (utfB s)) _ _ 0 s h2).trans ?_
  rw [g1_eq, v1_eq, h1, ctrlSeek_eq, len200]
  unfold validB φB
  have hv : (ctrlSeek s).1 = true → (ctrlSeek s).2 = false := seek_val
  cases decide (s.length ≤ 200) <;> cases utfB s <;> cases hr : (ctrlSeek s).1 <;> simp [hr, hv]
theorem rvalid_ok (s : List UInt8) (hs : s.length ≤ maxS) : Ct V.P V.G 68 [.str s] [] (φB (validB s)) := by
  have hm : s.length ≤ 4611686018427387904 := hs
  have hl := fun T L => loopOk_seek (X := V.run T 1 [] L [] 68)
    (f := 68) (p := [1, 1, 0, 1, 0]) (b := subC (bodyOf V.P 68) ([1, 1, 0, 1, 0] ++ [0])) (Sw s) s.length (· + 1) (fun i => ctrl (s.getD i 0).toNat) false (retB 2) (fun k => k (.exit 0) { env := [], objs := [] }) (by kernel_rfl) 0 (fun i h => ⟨by omega, by omega⟩)
    (fun i h kn k => by rw [rvalid_r, lt_true h, within_lt h, wrap_next h hm, Int.toNat_natCast]; rfl) (fun kn k => by rw [rvalid_r, lt_false (Nat.lt_irrefl _)]; rfl)
  obtain ⟨h1, h2⟩ := seek_at (Sw s) s.length (· + 1) (fun i => ctrl (s.getD i 0).toNat) false (Sw_inj s)
  refine ct_loops (n := 0) (T := [ent1 110 [.str s] (utfB s) φB]) mixed funcs (tabOk_cons (ent1_ok (hu s hs)) tabOk_nil) (loopsOk_cons (hl _ _) loopsOk_nil) ?_
  refine (rvalid_m (g1 [.str s]) (v1 [.str s] (utfB s)) _ _ 0 s h2).trans ?_
  rw [g1_eq, v1_eq, show goodS (Sw s) (· ≤ s.length) (Sw s 0) = true from h1, len200]
  rw [show seek s.length (· + 1) (fun i => ctrl (s.getD i 0).toNat) false = ctrlSeek s from rfl]
  unfold validB φB
  have hv : (ctrlSeek s).1 = true → (ctrlSeek s).2 = false := seek_val
  cases decide (s.length ≤ 200) <;> cases utfB s <;> cases hr : (ctrlSeek s).1 <;> simp [hr, hv]
end
end Go.SH

namespace Go.SH
open Go Go.Ab Go.Proofs
set_option linter.unusedVariables false
set_option linter.unusedSimpArgs false
def rngC (r : Int × Int × Int) : List AV := [.int .i64 r.1, .int .i64 r.2.1, .int .i64 r.2.2]
def rngL (l : List (Int × Int × Int)) : AV := .sl .no 3 l.length fun j => rngC (l.getD j (0, 0, 0))
def spnC (r : Int × Int) : List AV := [.int .i64 r.1, .int .i64 r.2]
def spnL (l : List (Int × Int)) : AV := .sl .no 2 l.length fun j => spnC (l.getD j (0, 0))
def φE (e : Int) : AV × List AO := (.int .i64 e, [])
def Ss (l : List (Int × Int × Int)) (n : Int) (r : Int × Int × Int) (i : Nat) : St := { env := [(1, .int .i64 n), (5, .ref 5 0), (12, rngL l), (13, .int .i64 l.length), (14, .int .i64 i)], objs := [(5, .cells (rngC r))] }
def Sq (l : List (Int × Int × Int)) (n : Int) (at' : Int) (i : Nat) : St := { env := [(0, rngL l), (1, .int .i64 n), (5, .int .i64 at'), (6, .int .i64 i)], objs := [] }
def Sp (l : List (Int × Int)) (i : Nat) : St := { env := [(0, spnL l), (8, spnL l), (9, .int .i64 l.length), (10, .int .i64 i)], objs := [] }
def Sp' (l : List (Int × Int)) (i : Nat) : St := { env := [(0, spnL l), (3, .int .i64 i)], objs := [] }
set_option maxRecDepth 100000 in
theorem split_r (T : List Ent) (L : List (List Nat × Orc)) (l : List (Int × Int × Int)) (n : Int) (r : Int × Int × Int) (i : Nat) (kn : St → Res) (k : Ex → St → Res)  : roundR (V.run T 3 [] L [] 23) 23 9 [1, 1, 1, 0, 1, 0] (Ss l n r i) kn k =
  cond (decide ((↑i : Int) < (↑(List.length l) : Int))) (cond (within (↑i : Int) (List.length l)) (cond (bif decide (Prod.snd (Prod.snd (List.getD l (Int.toNat (↑i : Int)) (0, 0, 0))) < 1) then true else decide (Prod.snd (Prod.snd (List.getD l (Int.toNat (↑i : Int)) (0, 0, 0))) > n)) (k (.ret) ({ env := [(4, .int .i64 3)], objs := [] })) (cond (bif bif Prod.fst (List.getD l (Int.toNat (↑i : Int)) (0, 0, 0)) != Prod.fst (Prod.snd r) then true else decide (Prod.fst (Prod.snd (List.getD l (Int.toNat (↑i : Int)) (0, 0, 0))) ≤ Prod.fst (List.getD l (Int.toNat (↑i : Int)) (0, 0, 0))) then true else Prod.snd (Prod.snd (List.getD l (Int.toNat (↑i : Int)) (0, 0, 0))) == Prod.snd (Prod.snd r)) (k (.ret) ({ env := [(4, .int .i64 9)], objs := [] })) (kn ({ env := [(1, .int .i64 n), (5, .ref 5 0), (12, rngL l), (13, .int .i64 (↑(List.length l) : Int)), (14, .int .i64 (IntKind.wrap IntKind.i64 ((↑i : Int) + 1)))], objs := [(5, .cells [.int .i64 (Prod.fst (List.getD l (Int.toNat (↑i : Int)) (0, 0, 0))), .int .i64 (Prod.fst (Prod.snd (List.getD l (Int.toNat (↑i : Int)) (0, 0, 0)))), .int .i64 (Prod.snd (Prod.snd (List.getD l (Int.toNat (↑i : Int)) (0, 0, 0))))])] })))) (none)) (k (.exit 0) ({ env := [(5, .ref 5 0)], objs := [(5, .cells [.int .i64 (Prod.fst r), .int .i64 (Prod.fst (Prod.snd r)), .int .i64 (Prod.snd (Prod.snd r))])] })) := by kernel_rfl
set_option maxRecDepth 100000 in
theorem split_m (g : St → Bool) (v : St → Bool × Int) (r : Int × Int × Int) (l : List (Int × Int × Int)) (n : Int) {t1 : Bool × Int} (h_t1 : v { env := [(1, .int .i64 n), (5, .ref 5 0), (12, rngL l), (13, .int .i64 (↑(List.length l) : Int)), (14, .int .i64 0)], objs := [(5, .cells [.int .i64 0, .int .i64 0, .int .i64 0])] } = t1) : runF (V.run [] 3 [] [([1, 1, 1, 0, 1, 0], mkO g v (outB (retI 4) fun k => k (.exit 0) { env := [(5, .ref 5 0)], objs := [(5, .cells (rngC r))] }))] [] 23) 9 23 [rngL l, .int .i64 n] [] =
  cond (decide ((↑(List.length l) : Int) > 16)) (some ((.int .i64 5, []))) (cond (g { env := [(1, .int .i64 n), (5, .ref 5 0), (12, rngL l), (13, .int .i64 (↑(List.length l) : Int)), (14, .int .i64 0)], objs := [(5, .cells [.int .i64 0, .int .i64 0, .int .i64 0])] }) (cond (Prod.fst t1) (some ((.int .i64 (Prod.snd t1), []))) (cond (Prod.fst (Prod.snd r) != 10000) (some ((.int .i64 3, []))) (some ((.int .i64 0, []))))) (none)) := by subst h_t1; kernel_rfl
set_option maxRecDepth 100000 in
theorem rsplit_r (T : List Ent) (L : List (List Nat × Orc)) (l : List (Int × Int × Int)) (n : Int) (at' : Int) (i : Nat) (kn : St → Res) (k : Ex → St → Res)  : roundR (V.run T 3 [] L [] 24) 24 9 [1, 1, 1, 0, 1, 0] (Sq l n at' i) kn k =
  cond (decide ((↑i : Int) < (↑(List.length l) : Int))) (cond (within (↑i : Int) (List.length l)) (cond (bif within (↑i : Int) (List.length l) then true else !bif decide (Prod.snd (Prod.snd (List.getD l (Int.toNat (↑i : Int)) (0, 0, 0))) < 1) == false then true else false) (cond (bif decide (Prod.snd (Prod.snd (List.getD l (Int.toNat (↑i : Int)) (0, 0, 0))) < 1) then true else decide (Prod.snd (Prod.snd (List.getD l (Int.toNat (↑i : Int)) (0, 0, 0))) > n)) (k (.ret) ({ env := [(4, .int .i64 3)], objs := [] })) (cond (within (↑i : Int) (List.length l)) (cond (bif within (↑i : Int) (List.length l) then true else !bif (Prod.fst (List.getD l (Int.toNat (↑i : Int)) (0, 0, 0)) != at') == false then true else false) (cond (bif within (↑i : Int) (List.length l) then true else !bif decide ((↑i : Int) > 0) == true then bif (bif Prod.fst (List.getD l (Int.toNat (↑i : Int)) (0, 0, 0)) != at' then true else decide (Prod.fst (Prod.snd (List.getD l (Int.toNat (↑i : Int)) (0, 0, 0))) ≤ at')) == false then true else false else false) (cond (bif within (IntKind.wrap IntKind.i64 ((↑i : Int) - 1)) (List.length l) then true else !bif decide ((↑i : Int) > 0) == true then bif (bif Prod.fst (List.getD l (Int.toNat (↑i : Int)) (0, 0, 0)) != at' then true else decide (Prod.fst (Prod.snd (List.getD l (Int.toNat (↑i : Int)) (0, 0, 0))) ≤ at')) == false then true else false else false) (cond (bif bif Prod.fst (List.getD l (Int.toNat (↑i : Int)) (0, 0, 0)) != at' then true else decide (Prod.fst (Prod.snd (List.getD l (Int.toNat (↑i : Int)) (0, 0, 0))) ≤ at') then true else bif decide ((↑i : Int) > 0) then Prod.snd (Prod.snd (List.getD l (Int.toNat (↑i : Int)) (0, 0, 0))) == Prod.snd (Prod.snd (List.getD l (Int.toNat (IntKind.wrap IntKind.i64 ((↑i : Int) - 1))) (0, 0, 0))) else false) (k (.ret) ({ env := [(4, .int .i64 9)], objs := [] })) (cond (within (↑i : Int) (List.length l)) (kn ({ env := [(0, rngL l), (1, .int .i64 n), (5, .int .i64 (Prod.fst (Prod.snd (List.getD l (Int.toNat (↑i : Int)) (0, 0, 0))))), (6, .int .i64 (IntKind.wrap IntKind.i64 ((↑i : Int) + 1)))], objs := [] })) (none))) (none)) (none)) (none)) (none))) (none)) (none)) (k (.exit 0) ({ env := [(5, .int .i64 at')], objs := [] })) := by kernel_rfl
set_option maxRecDepth 100000 in
theorem rsplit_m (g : St → Bool) (v : St → Bool × Int) (at' : Int) (l : List (Int × Int × Int)) (n : Int) {t1 : Bool × Int} (h_t1 : v (Sq l n 0 0) = t1) : runF (V.run [] 3 [] [([1, 1, 1, 0, 1, 0], mkO g v (outB (retI 4) fun k => k (.exit 0) { env := [(5, .int .i64 at')], objs := [] }))] [] 24) 9 24 [rngL l, .int .i64 n] [] =
  cond (decide ((↑(List.length l) : Int) > 16)) (some ((.int .i64 5, []))) (cond (g (Sq l n 0 0)) (cond (Prod.fst t1) (some ((.int .i64 (Prod.snd t1), []))) (cond (at' != 10000) (some ((.int .i64 3, []))) (some ((.int .i64 0, []))))) (none)) := by subst h_t1; kernel_rfl
def prevR (l : List (Int × Int × Int)) (i : Nat) : Int × Int × Int := if i = 0 then (0, 0, 0) else l.getD (i - 1) (0, 0, 0)
theorem prevR_succ (l : List (Int × Int × Int)) (i : Nat) : prevR l (i + 1) = l.getD i (0, 0, 0) := by unfold prevR; rw [if_neg (by omega)]; rfl
def splitStop (l : List (Int × Int × Int)) (n : Int) (i : Nat) : Option Int :=
  bif decide ((l.getD i (0, 0, 0)).2.2 < 1) || decide ((l.getD i (0, 0, 0)).2.2 > n) then some 3 else
  bif (l.getD i (0, 0, 0)).1 != (prevR l i).2.1 || (decide ((l.getD i (0, 0, 0)).2.1 ≤ (l.getD i (0, 0, 0)).1) || (l.getD i (0, 0, 0)).2.2 == (prevR l i).2.2) then some 9 else none
def splitSeek (l : List (Int × Int × Int)) (n : Int) : Bool × Int := scanAt l.length (· + 1) (splitStop l n) 0
def splitE (l : List (Int × Int × Int)) (n : Int) : Int :=
  bif decide (l.length > 16) then 5 else bif (splitSeek l n).1 then (splitSeek l n).2 else bif (prevR l l.length).2.1 != 10000 then 3 else 0
theorem Ss_inj (l : List (Int × Int × Int)) (n : Int) (i j : Nat) (h : Ss l n (prevR l i) i = Ss l n (prevR l j) j) : i = j := by
  simp only [Ss, St.mk.injEq, List.cons.injEq, Prod.mk.injEq, AV.int.injEq, and_true, true_and] at h; omega
theorem Sq_inj (l : List (Int × Int × Int)) (n : Int) (i j : Nat) (h : Sq l n (prevR l i).2.1 i = Sq l n (prevR l j).2.1 j) : i = j := by
  simp only [Sq, St.mk.injEq, List.cons.injEq, Prod.mk.injEq, AV.int.injEq, and_true, true_and] at h; omega
theorem scan_start {τ : Type} [Inhabited τ] (S : Nat → St) (n : Nat) (nxt : Nat → Nat) (stop : Nat → Option τ) (hi : ∀ i j, S i = S j → i = j) :
    goodS S (· ≤ n) (S 0) = true ∧ valS S (· ≤ n) (scanAt n nxt stop) (S 0) = scanAt n nxt stop 0 :=
  ⟨goodS_eq (Nat.zero_le _), valS_eq (fun a b _ _ h => by rw [hi a b h]) (Nat.zero_le _)⟩
theorem gt_cast (n k : Nat) : decide ((n : Int) > (k : Int)) = decide (n > k) := by
  by_cases h : n > k
  · rw [decide_eq_true h, decide_eq_true (by omega)]
  · rw [decide_eq_false h, decide_eq_false (by omega)]
theorem split_ok (l : List (Int × Int × Int)) (n : Int) (hm : l.length ≤ 4611686018427387904) : Ct V.P V.G 23 [rngL l, .int .i64 n] [] (φE (splitE l n)) := by
  have hl := fun T L => loopOk_scan (X := V.run T 3 [] L [] 23)
    (f := 23) (p := [1, 1, 1, 0, 1, 0]) (b := subC (bodyOf V.P 23) ([1, 1, 1, 0, 1, 0] ++ [0])) (fun i => Ss l n (prevR l i) i) l.length (· + 1) (splitStop l n) (retI 4) (fun k => k (.exit 0) { env := [(5, .ref 5 0)], objs := [(5, .cells (rngC (prevR l l.length)))] }) (by kernel_rfl) 9 (fun i h => ⟨by omega, by omega⟩)
    (fun i h kn k => by
      rw [split_r, lt_true h, within_lt h, wrap_next h hm, Int.toNat_natCast, prevR_succ]
      unfold splitStop
      cases decide ((l.getD i (0, 0, 0)).2.2 < 1) <;> cases decide ((l.getD i (0, 0, 0)).2.2 > n) <;> cases (l.getD i (0, 0, 0)).1 != (prevR l i).2.1 <;> cases decide ((l.getD i (0, 0, 0)).2.1 ≤ (l.getD i (0, 0, 0)).1) <;> cases (l.getD i (0, 0, 0)).2.2 == (prevR l i).2.2 <;> rfl) (fun kn k => by rw [split_r, lt_false (Nat.lt_irrefl _)]; rfl)
  obtain ⟨h1, h2⟩ := scan_start (fun i => Ss l n (prevR l i) i) l.length (· + 1) (splitStop l n) (Ss_inj l n)
  refine ct_loops (n := 9) (T := []) mixed funcs tabOk_nil (loopsOk_cons (hl _ _) loopsOk_nil) ?_
  refine (split_m _ _ _ l n h2).trans ?_
  rw [show goodS (fun i => Ss l n (prevR l i) i) (· ≤ l.length) { env := [(1, .int .i64 n), (5, .ref 5 0), (12, rngL l), (13, .int .i64 (List.length l : Nat)), (14, .int .i64 0)], objs := [(5, .cells [.int .i64 0, .int .i64 0, .int .i64 0])] } = true from h1]
  rw [show ((16 : Int)) = ((16 : Nat) : Int) from rfl, gt_cast]
  unfold splitE φE
  rw [show scanAt l.length (· + 1) (splitStop l n) 0 = splitSeek l n from rfl]
  cases decide (l.length > 16) <;> cases (splitSeek l n).1 <;> cases (prevR l l.length).2.1 != 10000 <;> rfl
theorem prev_in {i n : Nat} (h : i < n) (hm : n ≤ 4611686018427387904) (h0 : i ≠ 0) : within (IntKind.wrap .i64 ((i : Int) - 1)) n = true ∧ Int.toNat (IntKind.wrap .i64 ((i : Int) - 1)) = i - 1 ∧ decide ((i : Int) > 0) = true := by
  rw [wrap_i64 (by omega) (by omega)]
  exact ⟨within_of (by omega) (by omega), by omega, decide_eq_true (by omega)⟩
theorem zero_gt : decide (((0 : Nat) : Int) > 0) = false := rfl
theorem rsplit_ok (l : List (Int × Int × Int)) (n : Int) (hm : l.length ≤ 4611686018427387904) : Ct V.P V.G 24 [rngL l, .int .i64 n] [] (φE (splitE l n)) := by
  have hl := fun T L => loopOk_scan (X := V.run T 3 [] L [] 24)
    (f := 24) (p := [1, 1, 1, 0, 1, 0]) (b := subC (bodyOf V.P 24) ([1, 1, 1, 0, 1, 0] ++ [0])) (fun i => Sq l n (prevR l i).2.1 i) l.length (· + 1) (splitStop l n) (retI 4) (fun k => k (.exit 0) { env := [(5, .int .i64 (prevR l l.length).2.1)], objs := [] }) (by kernel_rfl) 9 (fun i h => ⟨by omega, by omega⟩)
    (fun i h kn k => by
      rw [rsplit_r, lt_true h, wrap_next h hm, Int.toNat_natCast, prevR_succ]
      simp only [within_lt h, cond_true]
      unfold splitStop
      obtain ⟨r, hr⟩ : ∃ r, l.getD i (0, 0, 0) = r := ⟨_, rfl⟩
      rw [hr]
      by_cases c1 : r.2.2 < 1
      · rw [decide_eq_true c1]; rfl
      · rw [decide_eq_false c1]
        by_cases c2 : r.2.2 > n
        · rw [decide_eq_true c2]; rfl
        · rw [decide_eq_false c2]
          simp only [cond_false, Bool.or_false]
          by_cases h0 : i = 0
          · subst h0
            rw [zero_gt]
            have e0 : (r.2.2 == (prevR l 0).2.2) = false := by simp [prevR]; omega
            rw [e0]
            by_cases c3 : r.1 = (prevR l 0).2.1
            · rw [show (r.1 != (prevR l 0).2.1) = false by simp [c3], ← c3]
              cases decide (r.2.1 ≤ r.1) <;> simp <;> rfl
            · rw [show (r.1 != (prevR l 0).2.1) = true by simp [c3]]
              simp; rfl
          · obtain ⟨p1, p2, p3⟩ := prev_in h hm h0
            rw [p1, p2, p3]
            have e0 : (prevR l i).2.2 = (l.getD (i - 1) (0, 0, 0)).2.2 := by unfold prevR; rw [if_neg h0]
            rw [← e0]
            by_cases c3 : r.1 = (prevR l i).2.1
            · rw [show (r.1 != (prevR l i).2.1) = false by simp [c3], ← c3]
              cases decide (r.2.1 ≤ r.1) <;> cases (r.2.2 == (prevR l i).2.2) <;> rfl
            · rw [show (r.1 != (prevR l i).2.1) = true by simp [c3]]
              rfl) (fun kn k => by rw [rsplit_r, lt_false (Nat.lt_irrefl _)]; rfl)
  obtain ⟨h1, h2⟩ := scan_start (fun i => Sq l n (prevR l i).2.1 i) l.length (· + 1) (splitStop l n) (Sq_inj l n)
  refine ct_loops (n := 9) (T := []) mixed funcs tabOk_nil (loopsOk_cons (hl _ _) loopsOk_nil) ?_
  refine (rsplit_m _ _ _ l n h2).trans ?_
  rw [show goodS (fun i => Sq l n (prevR l i).2.1 i) (· ≤ l.length) (Sq l n 0 0) = true from h1]
  rw [show ((16 : Int)) = ((16 : Nat) : Int) from rfl, gt_cast]
  unfold splitE φE
  rw [show scanAt l.length (· + 1) (splitStop l n) 0 = splitSeek l n from rfl]
  cases decide (l.length > 16) <;> cases (splitSeek l n).1 <;> cases (prevR l l.length).2.1 != 10000 <;> rfl
def spanStop (l : List (Int × Int)) (i : Nat) : Option Int :=
  bif decide ((l.getD i (0, 0)).1 < 0) || (decide ((l.getD i (0, 0)).1 ≥ (l.getD i (0, 0)).2) || decide ((l.getD i (0, 0)).2 > 10000)) then some 3 else
  bif decide (i > 0) && decide ((l.getD i (0, 0)).1 ≤ (l.getD (i - 1) (0, 0)).2) then some 9 else none
def spanSeek (l : List (Int × Int)) : Bool × Int := scanAt l.length (· + 1) (spanStop l) 0
def spansE (l : List (Int × Int)) : Int := bif decide (l.length > 16) then 5 else bif (spanSeek l).1 then (spanSeek l).2 else 0
end Go.SH

namespace Go.SH
open Go Go.Ab Go.Proofs
set_option linter.unusedVariables false
set_option linter.unusedSimpArgs false
def Sm (l : List (List UInt8)) (i : Nat) : St := { env := [(0, strsA l), (8, strsA l), (9, .int .i64 l.length), (10, .int .i64 i)], objs := [] }
def Sm' (l : List (List UInt8)) (i : Nat) : St := { env := [(0, strsA l), (3, .int .i64 i)], objs := [] }
abbrev UtfOk : Prop := ∀ s : List UInt8, s.length ≤ maxS → Ct V.P V.G 110 [.str s] [] (φB (utfB s))
def strA (s : List UInt8) : List AV := [.str s]
def lenS (s : List UInt8) : Prop := s.length ≤ maxS
theorem strA_inj {τ : Type} (w : List UInt8 → τ) (a b : List UInt8) (h : strA a = strA b) : w a = w b := by
  simp only [strA, List.cons.injEq, AV.str.injEq, and_true] at h; rw [h]
noncomputable abbrev gS : List AV → List AO → Bool := gF strA lenS
noncomputable abbrev vS (w : List UInt8 → Bool) : List AV → List AO → Bool := vF strA lenS w
theorem gS_eq {s : List UInt8} (h : lenS s) : gS [.str s] [] = true := gF_eq (A := strA) h
theorem vS_eq (w : List UInt8 → Bool) {s : List UInt8} (h : lenS s) : vS w [.str s] [] = w s := vF_eq (A := strA) (strA_inj w) h
def strsOk (l : List (List UInt8)) : Prop := l.length ≤ 4611686018427387904 ∧ ∀ s ∈ l, lenS s
theorem strsOk.at {l : List (List UInt8)} (h : strsOk l) {i : Nat} (hi : i < l.length) : lenS (l.getD i []) := by
  rw [List.getD_eq_getElem?_getD, List.getElem?_eq_getElem hi]
  exact h.2 _ (List.getElem_mem hi)
def memStop (l : List (List UInt8)) (i : Nat) : Option Int :=
  bif (l.getD i [] == []) || !validB (l.getD i []) then some 2 else
  bif decide (i > 0) && (bytesLt (l.getD i []) (l.getD (i - 1) []) || l.getD i [] == l.getD (i - 1) []) then some 9 else none
def memSeek (l : List (List UInt8)) : Bool × Int := scanAt l.length (· + 1) (memStop l) 0
def memE (l : List (List UInt8)) : Int := bif decide (l.length > 40) then 5 else bif (memSeek l).1 then (memSeek l).2 else 0
section
variable (hu : UtfOk)
include hu
end
end Go.SH

namespace Go.Proofs
open Go.Shelf
def Tryz.lays196_ren : Go.Shelf.Ren := ⟨fun | 196 => 110 | 259 => 131 | n => n, fun | 9 => 9 | 4 => 4 | 3 => 3 | 5 => 5 | 12 => 12 | 119 => 179 | 0 => 0 | 46 => 186 | 139 => 185 | 138 => 184 | 53 => 215 | n => n, fun | 3 => 4 | 4 => 5 | n => n⟩
theorem Tryz.lays196 : Go.Proofs.Lays.n196 Tryz.prog Tryz.lays196_ren := {
  mixed := by kernel_rfl
  f196 := Tryz.func110.trans (congrArg some (by kernel_rfl))
  f259 := Tryz.func131.trans (congrArg some (by kernel_rfl))
  t0 := Tryz.underlying0
  a0 := Tryz.isAgg0
  z0 := Tryz.sizeOf0
  v0 := Tryz.zeroValue0
  t3 := Tryz.underlying3
  a3 := Tryz.isAgg3
  z3 := Tryz.sizeOf3
  v3 := Tryz.zeroValue3
  t4 := Tryz.underlying4
  a4 := Tryz.isAgg4
  z4 := Tryz.sizeOf4
  v4 := Tryz.zeroValue4
  t5 := Tryz.underlying5
  a5 := Tryz.isAgg5
  z5 := Tryz.sizeOf5
  v5 := Tryz.zeroValue5
  t9 := Tryz.underlying9
  a9 := Tryz.isAgg9
  z9 := Tryz.sizeOf9
  v9 := Tryz.zeroValue9
  t12 := Tryz.underlying12
  a12 := Tryz.isAgg12
  z12 := Tryz.sizeOf12
  v12 := Tryz.zeroValue12
  t46 := Tryz.underlying186
  a46 := Tryz.isAgg186
  z46 := Tryz.sizeOf186
  v46 := Tryz.zeroValue186
  t53 := Tryz.underlying215
  a53 := Tryz.isAgg215
  z53 := Tryz.sizeOf215
  v53 := Tryz.zeroValue215
  t119 := Tryz.underlying179
  a119 := Tryz.isAgg179
  z119 := Tryz.sizeOf179
  t138 := Tryz.underlying184
  a138 := Tryz.isAgg184
  z138 := Tryz.sizeOf184
  v138 := Tryz.zeroValue184
  t139 := Tryz.underlying185
  a139 := Tryz.isAgg185
  z139 := Tryz.sizeOf185
  v139 := Tryz.zeroValue185
  g3 := by kernel_rfl
  g4 := by kernel_rfl }
open Go.RowKit in
theorem Tryz.utf8_ValidString (s : ByteArray) (w : World) (hs : s.size ≤ 9223372036854775807) (hT : Lib.Utf8Tabs 4 5 w) :
    Calls Tryz.prog 110 #[.string s] w fun e w' => e = .returned (.bool (Lib.validD s.data.toList)) ∧ Below w.heap.size w w' := Any.utf8_ValidString Tryz.lays196 s w hs hT
end Go.Proofs

namespace Go.SH
open Go Go.Ab Go.Proofs Go.RowKit
theorem firstCells : globs 4 = some ((List.range 256).map fun c => AV.int .u8 (Lib.firstT c)) := by kernel_rfl
theorem acceptCells : globs 5 = some ((List.range 32).map fun j => AV.int .u8 (if j % 2 = 0 then (Lib.accLo (j / 2) : Int) else Lib.accHi (j / 2))) := by kernel_rfl
theorem glob_cell {c : Cx} (hg : Ab.Good V.G c) {g : Nat} {cs : List AV} (h : globs g = some cs) {i : Nat} {k : IntKind} {z : Int} (hi : cs[i]? = some (.int k z)) :
    c.w.cell? ⟨g, i, none⟩ = some (.int k z) := by
  have h1 := hg.globs g cs h
  generalize hp : Value.pointer (some ⟨g, 0, none⟩) = p at h1
  cases h1 with
  | elt cs off b o vals hl hc hr =>
    simp only [Value.pointer.injEq, Option.some.injEq, Addr.mk.injEq, and_true] at hp
    obtain ⟨rfl, h0⟩ := hp
    have h2 := (hc i _ hi).2.1
    have h3 : vals i = .int k z := by
      have h4 := hr i _ hi
      generalize vals i = w at h4 ⊢
      cases h4; rfl
    have h0' : o = 0 := by omega
    rw [h3, h0', Nat.zero_add] at h2
    exact h2
theorem utf8Tabs {c : Cx} (hg : Ab.Good V.G c) : Lib.Utf8Tabs 4 5 c.w := by
  refine ⟨fun i hi => ?_, fun i hi => ⟨?_, ?_⟩⟩
  · exact glob_cell hg firstCells (by rw [List.getElem?_map, List.getElem?_range hi]; rfl)
  · refine glob_cell hg acceptCells ?_
    rw [List.getElem?_map, List.getElem?_range (by omega)]
    simp only [Option.map_some, Nat.mul_mod_right, if_true, Nat.mul_div_cancel_left i (show 0 < 2 by omega)]
  · refine glob_cell hg acceptCells ?_
    rw [List.getElem?_map, List.getElem?_range (by omega)]
    simp only [Option.map_some]
    rw [if_neg (by omega), show (2 * i + 1) / 2 = i by omega]
theorem rep_str {c : Cx} {s : List UInt8} {v : Value} (h : Rep c (.str s) v) : v = .string ⟨s.toArray⟩ := by cases h; rfl
theorem arr1 {vs : Array Value} {v : Value} (hs : vs.size = 1) (h : vs.getD 0 undef = v) : vs = #[v] := by
  apply Array.ext
  · simpa using hs
  · intro i h1 h2
    have : i = 0 := by omega
    subst this
    rw [← h]; simp [Array.getD, h1]
theorem utfOk : UtfOk := fun s hs => by
  refine ct_of_below (x := .bool (utfB s)) (fun c => .bool _) rfl ?_ fun c vs hg hsz hr => ?_
  · exact ⟨_, Tryz.func110, by kernel_rfl, by kernel_rfl⟩
  · have h1 := arr1 hsz (rep_str (hr 0 _ rfl))
    subst h1
    exact (Tryz.utf8_ValidString ⟨s.toArray⟩ c.w (by have h2 := hs; unfold maxS at h2; show s.toArray.size ≤ _; rw [List.size_toArray]; omega) (utf8Tabs hg)).mono fun e w' h => by
      simpa [utfB] using h
end Go.SH

namespace Go.Proofs
open Go.Shelf
def Tryz.laysC172_ren : Go.Shelf.Ren := ⟨fun | 172 => 156 | 244 => 183 | 245 => 184 | 247 => 198 | 279 => 199 | 280 => 200 | 281 => 201 | 282 => 202 | 287 => 212 | 316 => 213 | 171 => 215 | 205 => 214 | 321 => 219 | 322 => 220 | 243 => 221 | 246 => 223 | 283 => 224 | 284 => 225 | 285 => 226 | 286 => 227 | 129 => 229 | 317 => 228 | 318 => 230 | 319 => 231 | 320 => 232 | 337 => 233 | 338 => 234 | n => n, fun | 9 => 9 | 3 => 3 | 75 => 219 | 76 => 220 | 4 => 4 | 5 => 5 | 167 => 265 | 37 => 26 | 0 => 0 | 85 => 266 | 2 => 2 | 168 => 268 | 53 => 215 | 175 => 277 | 46 => 186 | 210 => 281 | 127 => 288 | 145 => 291 | 143 => 289 | 21 => 21 | 171 => 294 | 173 => 297 | 212 => 300 | 51 => 212 | 20 => 20 | 213 => 301 | 232 => 304 | 233 => 305 | 80 => 102 | n => n, fun | 15 => 8 | 16 => 9 | 17 => 10 | 18 => 11 | 19 => 12 | n => n⟩
def Tryz.lays146_ren : Go.Shelf.Ren := ⟨fun | 146 => 132 | 221 => 154 | 268 => 179 | 138 => 180 | 143 => 181 | 195 => 193 | 197 => 194 | 218 => 195 | 219 => 196 | 260 => 207 | 217 => 208 | 225 => 209 | 224 => 210 | 267 => 211 | 266 => 217 | 314 => 218 | n => n, fun | 9 => 9 | 31 => 32 | 3 => 3 | 4 => 4 | 0 => 0 | 105 => 261 | 21 => 21 | 5 => 5 | 46 => 186 | 119 => 179 | 139 => 185 | 138 => 184 | 146 => 285 | 51 => 212 | n => n, fun | 1 => 7 | 3 => 4 | 4 => 5 | n => n⟩
end Go.Proofs

namespace Go.Ab
open Go Go.RowKit
def rowA (L : List (List UInt8)) : AV := .sl .no 1 L.length fun j => [.str (L.getD j [])]
end Go.Ab

namespace Go.SH
open Go Go.Ab Go.Proofs Go.RowKit
def atoiA (s : List UInt8) : List AV := match Lib.atoiAll s with
  | .ok v => [.int .i64 v, .nili]
  | _ => [.int .i64 (Lib.atoiSat s), .nni]
def isNum (s : List UInt8) : Prop := (∃ v, Lib.atoiAll s = .ok v) ∨ Lib.atoiAll s = .range
end Go.SH

namespace Go.SH
open Go Go.Ab Go.Proofs
set_option linter.unusedVariables false
set_option linter.unusedSimpArgs false
def φD (x : List UInt8 × Bool) : AV × List AO := (.tup [.str x.1, .bool x.2], [])
def φI (n : Int) : AV × List AO := (.tup [.int .i64 n, .nili], [])
def φJ (n : Int) : AV × List AO := (.tup [.int .i64 n, .nni], [])
def φN (x : Int × Int) : AV × List AO := (.tup [.int .i64 x.1, .int .i64 x.2], [])
def Yp (s d : List UInt8) (i : Nat) : St := { env := [(0, .str s), (31, .ref 31 0)], objs := [(31, .iter d i)] }
def Yr (s d : List UInt8) (i : Nat) : St := { env := [(0, .str s), (4, .str d), (5, .int .i64 i)], objs := [] }
def Yn (s d : List UInt8) (n : Int) (i : Nat) : St := { env := [(0, .str s), (4, .str d), (6, .int .i64 n), (7, .int .i64 i)], objs := [] }
def retY (_ : Unit) (k : Ex → St → Res) : Res := k .ret { env := [(2, .int .i64 0), (3, .int .i64 1)], objs := [] }
end Go.SH

namespace Go.SH
open Go Go.Ab Go.Proofs
def badD (c : Nat) : Bool := bif decide ((c : Int) < 48) then true else decide ((c : Int) > 57)
def put (a : Nat) (c : UInt8) : Nat := a * 10 + (c.toNat - 48)
def val (a : Nat) (l : List UInt8) : Nat := l.foldl put a
def digs (l : List UInt8) : Prop := ∀ c ∈ l, 48 ≤ c.toNat ∧ c.toNat ≤ 57
def cutB (s : List UInt8) : List UInt8 × Bool := bif s.head? == some 45 then (s.tail, true) else (s, false)
def badN (s : List UInt8) : Bool := (cutB s).1 == [] || ((cutB s).1.getD 0 0).toNat == 48 && (decide ((cutB s).1.length > 1) || (cutB s).2) || (cutB s).1.any fun c => badD c.toNat
def maxN : Nat := 1099511627776
def numB (s : List UInt8) : Int × Int :=
  bif badN s then (0, 1) else bif decide (val 0 (cutB s).1 > maxN) then (0, 3) else (bif (cutB s).2 then -(val 0 (cutB s).1 : Int) else (val 0 (cutB s).1 : Int), 0)
end Go.SH

namespace Go.SH
open Go Go.Ab Go.Proofs
set_option linter.unusedVariables false
set_option linter.unusedSimpArgs false
def badS (d : List UInt8) : Bool × Unit := seek d.length (· + 1) (fun i => badD (d.getD i 0).toNat) ()
end Go.SH

namespace Go.SH
open Go Go.Ab Go.Proofs
set_option linter.unusedVariables false
set_option linter.unusedSimpArgs false
def InvV (d : List UInt8) (i : Nat) : Prop := i ≤ d.length ∧ digs d ∧ d.length ≤ 13
end Go.SH

namespace Go.SH
open Go Go.Ab Go.Proofs
set_option linter.unusedVariables false
set_option linter.unusedSimpArgs false
def φR (L : List (List UInt8)) : AV × List AO := (rowA L, [])
def φ3 (x : List UInt8 × List UInt8 × List UInt8) : AV × List AO := (rowA [x.1, x.2.1, x.2.2], [])
def φP (b : Bool) : AV × List AO := (.tup [.arr 1 3 fun _ => [.num .i64], .bool b], [])
def badP (p : List UInt8) : Bool := bif bif (numB p).2 != 0 then true else decide ((numB p).1 < 0) then true else decide ((numB p).1 > 999999)
def partsB (s : List UInt8) : Bool := match Lib.split s [46] with
  | [a, b, c] => !badP a && (!badP b && !badP c)
  | _ => false
end Go.SH

namespace Go.SH
open Go Go.Ab Go.Proofs
set_option linter.unusedVariables false
set_option linter.unusedSimpArgs false
def mkU (g : St → Bool) (v : St → Nat) (slot ex : Nat) : Orc := fun s k => cond (g s) (k (.exit ex) { env := aput s.env slot (.int .i64 (v s)), objs := s.objs }) none
instance : Inhabited St := ⟨{ env := [], objs := [] }⟩
def Yq (s : List UInt8) (g2 g4 : Nat → List AV) (at' : Nat) (i from' : Int) : St := { env := [(0, .str s), (2, .ref 2 0), (4, .ref 4 0), (5, .int .i64 at'), (6, .int .i64 i), (7, .int .i64 from')], objs := [(2, .arr 1 3 g2), (4, .arr 1 3 g4)] }
end Go.SH

namespace Go.SH
open Go Go.Ab Go.Proofs
set_option linter.unusedVariables false
set_option linter.unusedSimpArgs false
def nx (l : List UInt8) : Nat := (l.takeWhile (· != 46)).length
abbrev QA : Type := (Nat → List AV) × (Nat → List AV) × Nat × Int × Int
def QS (s : List UInt8) (a : QA) : St := Yq s a.1 a.2.1 a.2.2.1 a.2.2.2.1 a.2.2.2.2
def QI (s : List UInt8) (a : QA) : Prop := a.2.2.1 ≤ s.length
def QW (s : List UInt8) (a : QA) : Nat := a.2.2.1 + nx (s.drop a.2.2.1)
end Go.SH

namespace Go.SH
open Go Go.Ab Go.Proofs
set_option linter.unusedVariables false
set_option linter.unusedSimpArgs false
def F0 : AV × List AO := (.tup [.arr 1 3 fun _ => [.int .i64 0], .bool false], [])
end Go.SH

namespace Go.SH
open Go Go.Ab Go.Proofs
set_option linter.unusedVariables false
set_option linter.unusedSimpArgs false
structure VAL where
  kind : Int
  num : Int
  text : List UInt8
  list : List (List UInt8)
def VAL.c (v : VAL) : List AV := [.int .i64 v.kind, .int .i64 v.num, .str v.text, strsA v.list]
def Y1 (v : VAL) (i : Nat) : St := { env := [(1, .ref 1 0), (64, strsA v.list), (65, .int .i64 v.list.length), (66, .int .i64 i)], objs := [(1, .cells v.c)] }
def Y2 (v : VAL) (i : Nat) : St := { env := [(1, .ref 1 0), (76, .int .i64 v.list.length), (77, .int .i64 i)], objs := [(1, .cells v.c)] }
def valBad (l : List (List UInt8)) : Bool × Unit := seek l.length (· + 1) (fun i => !validB (l.getD i [])) ()
def ordBad (l : List (List UInt8)) : Bool × Unit := seek l.length (· + 1) (fun i => decide (0 < i) && !bytesLt (l.getD (i - 1) []) (l.getD i [])) ()
def listE (l : List (List UInt8)) : Int := bif decide (l.length > 20) then 5 else bif (valBad l).1 then 2 else bif (ordBad l).1 then 9 else 0
def shapeB (v : VAL) : Bool := bif decide (v.kind ≤ 2) then v.text == [] && v.list.length == 0 else bif decide (v.kind ≤ 4) then v.num == 0 && v.list.length == 0 else v.num == 0 && v.text == []
def checkE (v : VAL) : Int :=
  bif decide (v.kind < 1) || decide (v.kind > 5) then 7 else bif !shapeB v then 15 else
  bif v.kind == 1 then (bif v.num != 0 && v.num != 1 then 3 else 0) else
  bif v.kind == 2 then (bif decide (v.num < -1099511627776) || decide (v.num > 1099511627776) then 3 else 0) else
  bif v.kind == 3 then (bif !validB v.text then 2 else 0) else
  bif v.kind == 4 then (bif !partsB v.text then 1 else 0) else listE v.list
def VAL.Ok (v : VAL) : Prop := v.text.length ≤ 1048576 ∧ strsOk v.list
noncomputable abbrev gQ : List AV → List AO → Bool := gF strA (fun s => s.length ≤ 1048576)
noncomputable abbrev vQ (w : List UInt8 → Bool) : List AV → List AO → Bool := vF strA (fun s => s.length ≤ 1048576) w
end Go.SH

namespace Go.SH
open Go Go.Ab Go.Proofs
set_option linter.unusedVariables false
set_option linter.unusedSimpArgs false
end Go.SH

namespace Go.SH
open Go Go.Ab Go.Proofs
set_option linter.unusedVariables false
set_option linter.unusedSimpArgs false
def Z1 (l : List (List UInt8)) (i : Nat) : St := { env := [(0, strsA l), (3, .int .i64 i)], objs := [] }
def Z2 (l : List (List UInt8)) (i : Nat) : St := { env := [(0, strsA l), (4, .int .i64 (1 + i : Nat))], objs := [] }
end Go.SH

namespace Go.SH
open Go Go.Ab Go.Proofs
set_option linter.unusedVariables false
set_option linter.unusedSimpArgs false
def ordBad' (l : List (List UInt8)) : Bool × Unit := seek (l.length - 1) (· + 1) (fun i => !bytesLt (l.getD i []) (l.getD (1 + i) [])) ()
end Go.SH

namespace Go.SH
open Go Go.Ab Go.Proofs
set_option linter.unusedVariables false
set_option linter.unusedSimpArgs false
end Go.SH

namespace Go.SH
open Go Go.Ab Go.Proofs
set_option linter.unusedVariables false
set_option linter.unusedSimpArgs false
instance : Inhabited VAL := ⟨⟨0, 0, [], []⟩⟩
def valL (l : List VAL) : AV := .sl .no 4 l.length fun j => (l.getD j default).c
def expC (op : Int) (kind name : List UInt8) (vs : List VAL) (n : Nat) (kids : Nat → List AV) : List AV := [.int .i64 op, .str kind, .str name, valL vs, .sl .no 5 n kids]
end Go.SH

namespace Go.SH
open Go Go.Ab Go.Proofs
inductive EXP where
  | mk (op : Int) (kind name : List UInt8) (vals : List VAL) (kids : List EXP)
instance : Inhabited EXP := ⟨.mk 0 [] [] [] []⟩
def dC : List AV := expC 0 [] [] [] 0 fun _ => []
namespace EXP
def op : EXP → Int | .mk o _ _ _ _ => o
def kind : EXP → List UInt8 | .mk _ k _ _ _ => k
def name : EXP → List UInt8 | .mk _ _ n _ _ => n
def vals : EXP → List VAL | .mk _ _ _ v _ => v
def kids : EXP → List EXP | .mk _ _ _ _ k => k
mutual
def c : EXP → List AV | .mk o k n v ks => expC o k n v ks.length fun j => (cs ks).getD j dC
def cs : List EXP → List (List AV)
  | [] => []
  | e :: r => c e :: cs r
end
theorem cs_eq : ∀ l : List EXP, cs l = l.map c
  | [] => by rw [cs]; rfl
  | e :: r => by rw [cs, cs_eq r]; rfl
def row (l : List EXP) (j : Nat) : List AV := (l.map c).getD j dC
theorem c_eq (e : EXP) : e.c = expC e.op e.kind e.name e.vals e.kids.length (row e.kids) := by
  cases e with
  | mk o k n v ks => rw [c, cs_eq]; rfl
theorem row_at {l : List EXP} {j : Nat} (h : j < l.length) : row l j = (l.getD j default).c := by
  unfold row
  simp [List.getD, h]
end EXP
def noneB (e : EXP) : Bool := e.op == 0 && (e.kind == [] && (e.name == [] && (e.vals.length == 0 && e.kids.length == 0)))
end Go.SH

namespace Go.SH
open Go Go.Ab Go.Proofs
set_option linter.unusedVariables false
set_option linter.unusedSimpArgs false
structure PART where
  op : Int
  kind : List UInt8
  name : List UInt8
  vals : List VAL
  n : Nat
  ko : Nat → Int
  kk : Nat → List UInt8
  kn : Nat → List UInt8
  kv : Nat → List VAL
  km : Nat → Nat
  kg : Nat → Nat → List AV
def PART.c (p : PART) : List AV := [.int .i64 p.op, .str p.kind, .str p.name, valL p.vals, .sl .no 5 p.n fun j => [.int .i64 (p.ko j), .str (p.kk j), .str (p.kn j), valL (p.kv j), .sl .no 5 (p.km j) (p.kg j)] ]
def X1 (p : PART) (i : Nat) : St := { env := [(2, .ref 2 0), (35, .sl .no 5 p.n fun j => [.int .i64 (p.ko j), .str (p.kk j), .str (p.kn j), valL (p.kv j), .sl .no 5 (p.km j) (p.kg j)]), (36, .int .i64 p.n), (37, .int .i64 i)], objs := [(2, .cells p.c)] }
def X2 (p : PART) (i : Nat) : St := { env := [(2, .ref 2 0), (83, valL p.vals), (84, .int .i64 p.vals.length), (85, .int .i64 i)], objs := [(2, .cells p.c)] }
def W1 (p : PART) (i : Nat) : St := { env := [(1, .ref 1 0), (3, .int .i64 i)], objs := [(1, .cells p.c)] }
def W2 (p : PART) (i : Nat) : St := { env := [(1, .ref 1 0), (4, .int .i64 i)], objs := [(1, .cells p.c)] }
end Go.SH

namespace Go.SH
open Go Go.Ab Go.Proofs
set_option linter.unusedVariables false
set_option linter.unusedSimpArgs false
theorem strsA_inj {a b : List (List UInt8)} (h : strsA a = strsA b) : a = b := by
  unfold strsA at h
  simp only [AV.sl.injEq, true_and] at h
  obtain ⟨h1, h2⟩ := h
  apply List.ext_getElem h1
  intro i hi hj
  have := congrFun h2 i
  simpa [List.getD, hi, hj] using this
theorem VAL.c_inj {a b : VAL} (h : a.c = b.c) : a = b := by
  obtain ⟨k, n, t, l⟩ := a
  obtain ⟨k', n', t', l'⟩ := b
  simp only [VAL.c, List.cons.injEq, AV.int.injEq, AV.str.injEq, true_and, and_true] at h
  obtain ⟨rfl, rfl, rfl, h⟩ := h
  rw [strsA_inj h]
def valA1 (v : VAL) : List AV := [.agg v.c]
noncomputable abbrev gV : List AV → List AO → Bool := gF valA1 VAL.Ok
noncomputable abbrev vV : List AV → List AO → Int := vF valA1 VAL.Ok checkE
def valsOk (l : List VAL) : Prop := l.length ≤ 4611686018427387904 ∧ ∀ v ∈ l, v.Ok
theorem valsOk.at {l : List VAL} (h : valsOk l) {i : Nat} (hi : i < l.length) : (l.getD i default).Ok := by
  rw [List.getD_eq_getElem?_getD, List.getElem?_eq_getElem hi]
  exact h.2 _ (List.getElem_mem hi)
def valsStop (l : List VAL) (i : Nat) : Option Int := bif checkE (l.getD i default) != 0 then some (checkE (l.getD i default)) else none
def valsSeek (l : List VAL) : Bool × Int := scanAt l.length (· + 1) (valsStop l) 0
def kidSeek (p : PART) (b : Bool) : Bool × Unit := seek p.n (· + 1) (fun i => bif p.ko i == p.op then b else false) ()
def testB (op : Int) : Bool := bif decide (op ≥ 6) then decide (op ≤ 15) else false
def isPair (op : Int) : Bool := bif op == 2 then true else op == 3
def needsText (op : Int) : Bool := bif bif op == 9 then true else op == 10 then true else op == 11
def countB (p : PART) : Bool :=
  (bif isPair p.op then decide (p.n ≥ 2) else bif p.op == 4 then p.n == 1 else p.n == 0) &&
  ((testB p.op || (p.kind == [] && (p.name == [] || p.op == 5))) &&
  (bif p.op == 8 then decide (p.vals.length > 0) else bif testB p.op && p.op != 6 then p.vals.length == 1 else p.vals.length == 0))
def partE (p : PART) : Int :=
  bif decide (p.op < 1) || decide (p.op > 15) then 7 else bif !countB p then 15 else
  bif decide (p.n > 12) || decide (p.vals.length > 20) then 5 else
  bif (kidSeek p (isPair p.op)).1 then 15 else
  bif (testB p.op && !keyB p.kind) || ((testB p.op || p.op == 5) && !keyB p.name) then 6 else
  bif (valsSeek p.vals).1 then (valsSeek p.vals).2 else
  bif needsText p.op && (p.vals.getD 0 default).kind != 3 then 8 else 0
def PART.Ok (p : PART) : Prop := lenS p.kind ∧ lenS p.name ∧ valsOk p.vals ∧ p.n ≤ 4611686018427387904
end Go.SH

namespace Go.SH
open Go Go.Ab Go.Proofs
set_option linter.unusedVariables false
set_option linter.unusedSimpArgs false
end Go.SH

namespace Go.SH
open Go Go.Ab Go.Proofs
set_option linter.unusedVariables false
set_option linter.unusedSimpArgs false
namespace EXP
def x (e : EXP) : List AV := expC e.op e.kind e.name e.vals e.kids.length (row e.kids)
def kid (e : EXP) (j : Nat) : EXP := e.kids.getD j default
def part (e : EXP) : PART := ⟨e.op, e.kind, e.name, e.vals, e.kids.length, fun j => (e.kid j).op, fun j => (e.kid j).kind, fun j => (e.kid j).name, fun j => (e.kid j).vals, fun j => (e.kid j).kids.length, fun j => bif Nat.blt j e.kids.length then row (e.kid j).kids else fun _ => []⟩
theorem valL_inj {a b : List VAL} (h : valL a = valL b) : a = b := by
  unfold valL at h
  simp only [AV.sl.injEq, true_and] at h
  obtain ⟨h1, h2⟩ := h
  apply List.ext_getElem h1
  intro i hi hj
  have := congrFun h2 i
  simp only [List.getD, List.getElem?_eq_getElem hi, List.getElem?_eq_getElem hj, Option.getD_some] at this
  exact VAL.c_inj this
theorem c_inj : ∀ (a b : EXP), a.c = b.c → a = b
  | .mk o k n v ks, .mk o' k' n' v' ks', h => by
    rw [c_eq, c_eq] at h
    unfold expC at h
    simp only [List.cons.injEq, AV.int.injEq, AV.str.injEq, AV.sl.injEq, true_and, and_true] at h
    obtain ⟨h1, h2, h3, h4, h5, h6⟩ := h
    replace h4 := valL_inj h4
    simp only [op, kind, name, vals, kids] at h1 h2 h3 h4 h5 h6
    subst h1 h2 h3 h4
    have hk : ks = ks' := List.ext_getElem h5 fun j j1 j2 => by
      have hm := List.sizeOf_lt_of_mem (List.getElem_mem j1)
      have := congrFun h6 j
      rw [row_at j1, row_at j2] at this
      simp only [List.getD, List.getElem?_eq_getElem j1, List.getElem?_eq_getElem j2, Option.getD_some] at this
      exact c_inj _ _ this
    rw [hk]
  termination_by a => SizeOf.sizeOf a
  decreasing_by simp_wf; omega
inductive Ok : EXP → Prop
  | mk (e : EXP) : lenS e.kind → lenS e.name → valsOk e.vals → e.kids.length ≤ 1048576 → (∀ k ∈ e.kids, Ok k) → Ok e
theorem Ok.part {e : EXP} (h : e.Ok) : e.part.Ok := by
  cases h with
  | mk _ h1 h2 h3 h4 _ => exact ⟨h1, h2, h3, by show e.kids.length ≤ _; omega⟩
theorem Ok.kid {e : EXP} (h : e.Ok) {j : Nat} (hj : j < e.kids.length) : (e.kid j).Ok := by
  cases h with
  | mk _ h1 h2 h3 h4 h5 =>
    unfold EXP.kid
    rw [List.getD_eq_getElem?_getD, List.getElem?_eq_getElem hj]
    exact h5 _ (List.getElem_mem hj)
end EXP
def levelE (e : EXP) (d : Nat) : Int := bif decide (d ≥ 10) then 18 else partE e.part
mutual
def walkE : EXP → Nat → Nat → Int × Nat
  | .mk o k nm v ks, d, n => bif decide (n ≥ 60) then (5, n) else bif levelE (.mk o k nm v ks) d != 0 then (levelE (.mk o k nm v ks) d, n + 1) else walkL ks (d + 1) (n + 1)
def walkL : List EXP → Nat → Nat → Int × Nat
  | [], _, n => (0, n)
  | e :: r, d, n => bif (walkE e d n).1 != 0 then walkE e d n else walkL r d (walkE e d n).2
end
def walkI (l : List EXP) (d i n : Nat) : Int × Nat := walkL (l.drop i) d n
def exprE (e : EXP) : Int := (walkE e 0 0).1
def sizeI (e : EXP) : Int := ((e.kids.length + e.vals.length : Nat) : Int)
mutual
def bigB : EXP → Bool
  | .mk o k nm v ks => (bif decide (ks.length + v.length < 200) then bigL ks else false) || decide (ks.length + v.length ≥ 200)
def bigL : List EXP → Bool
  | [] => false
  | e :: r => bigB e || bigL r
end
def bigI (l : List EXP) (i : Nat) : Bool := bigL (l.drop i)
end Go.SH

namespace Go.SH
open Go Go.Ab Go.Proofs
set_option linter.unusedVariables false
set_option linter.unusedSimpArgs false
structure SERVE where
  var : Int
  kind : List UInt8
  by' : List UInt8
  salt : List UInt8
  split : List (Int × Int × Int)
def SERVE.c (v : SERVE) : List AV := [.int .i64 v.var, .str v.kind, .str v.by', .str v.salt, rngL v.split]
set_option maxRecDepth 100000 in
theorem serve_m (gk vk gv vv : List AV → List AO → Bool) (gs : List AV → List AO → Bool) (vs : List AV → List AO → Int) (v : SERVE) (n : Int) {t1 : Int} (h_t1 : vs [rngL (SERVE.split v), .int .i64 n] [] = t1) : runF (V.run [mkE 65 gk vk φB, mkE 66 gv vv φB, mkE 23 gs vs φE] 9 [] [] [] 32) 9 32 [.agg v.c, .int .i64 n] [] =
  cond (SERVE.var v != 0) (cond (bif decide (SERVE.var v < 1) then true else decide (SERVE.var v > n)) (cond (bif bif bif !SERVE.kind v == [] then true else !SERVE.by' v == [] then true else !SERVE.salt v == [] then true else decide ((↑(List.length (SERVE.split v)) : Int) > 0)) (some ((.int .i64 3, []))) (some ((.int .i64 3, [])))) (cond (bif bif bif !SERVE.kind v == [] then true else !SERVE.by' v == [] then true else !SERVE.salt v == [] then true else decide ((↑(List.length (SERVE.split v)) : Int) > 0)) (some ((.int .i64 15, []))) (some ((.int .i64 0, []))))) (cond (gk [.str (SERVE.kind v)] []) (cond (gk [.str (SERVE.by' v)] []) (cond (bif !vk [.str (SERVE.kind v)] [] then true else !vk [.str (SERVE.by' v)] []) (cond (gv [.str (SERVE.salt v)] []) (cond (!vv [.str (SERVE.salt v)] []) (cond (gs [rngL (SERVE.split v), .int .i64 n] []) (some ((.int .i64 6, []))) (none)) (cond (gs [rngL (SERVE.split v), .int .i64 n] []) (some ((.int .i64 6, []))) (none))) (none)) (cond (gv [.str (SERVE.salt v)] []) (cond (!vv [.str (SERVE.salt v)] []) (cond (gs [rngL (SERVE.split v), .int .i64 n] []) (some ((.int .i64 2, []))) (none)) (cond (gs [rngL (SERVE.split v), .int .i64 n] []) (cond (t1 != 0) (some ((.int .i64 t1, []))) (some ((.int .i64 0, [])))) (none))) (none))) (none)) (none)) := by subst h_t1; kernel_rfl
set_option maxRecDepth 100000 in
theorem rserve_m (gk vk gv vv : List AV → List AO → Bool) (gs : List AV → List AO → Bool) (vs : List AV → List AO → Int) (v : SERVE) (n : Int) {t1 : Int} (h_t1 : vs [rngL (SERVE.split v), .int .i64 n] [] = t1) : runF (V.run [mkE 67 gk vk φB, mkE 68 gv vv φB, mkE 24 gs vs φE] 9 [] [] [] 33) 9 33 [.agg v.c, .int .i64 n] [] =
  cond (SERVE.var v != 0) (cond (bif decide (SERVE.var v < 1) then true else decide (SERVE.var v > n)) (some ((.int .i64 3, []))) (cond (bif bif bif !SERVE.kind v == [] then true else !SERVE.by' v == [] then true else !SERVE.salt v == [] then true else decide ((↑(List.length (SERVE.split v)) : Int) > 0)) (some ((.int .i64 15, []))) (some ((.int .i64 0, []))))) (cond (gk [.str (SERVE.kind v)] []) (cond (gk [.str (SERVE.by' v)] []) (cond (bif !vk [.str (SERVE.kind v)] [] then true else !vk [.str (SERVE.by' v)] []) (some ((.int .i64 6, []))) (cond (gv [.str (SERVE.salt v)] []) (cond (!vv [.str (SERVE.salt v)] []) (some ((.int .i64 2, []))) (cond (gs [rngL (SERVE.split v), .int .i64 n] []) (some ((.int .i64 t1, []))) (none))) (none))) (none)) (none)) := by subst h_t1; kernel_rfl
def SERVE.Ok (v : SERVE) : Prop := lenS v.kind ∧ lenS v.by' ∧ lenS v.salt ∧ v.split.length ≤ 4611686018427387904
def serveE (v : SERVE) (n : Int) : Int :=
  bif v.var != 0 then (bif decide (v.var < 1) || decide (v.var > n) then 3 else
    bif !(v.kind == []) || (!(v.by' == []) || (!(v.salt == []) || decide ((v.split.length : Int) > 0))) then 15 else 0)
  else bif !keyB v.kind || !keyB v.by' then 6 else bif !validB v.salt then 2 else splitE v.split n
theorem ne_zero_id (e : Int) : (cond (e != 0) (some ((AV.int .i64 e, ([] : List AO)))) (some ((.int .i64 0, [])))) = some (.int .i64 e, []) := by
  by_cases h : e = 0
  · subst h; rfl
  · rw [show (e != 0) = true by simp [h]]; rfl
section
variable (hu : UtfOk)
include hu
theorem serve_ok (v : SERVE) (n : Int) (hv : v.Ok) : Ct V.P V.G 32 [.agg v.c, .int .i64 n] [] (φE (serveE v n)) := by
  obtain ⟨h1, h2, h3, h4⟩ := hv
  refine ct_loops (d := 9) (n := 9) (T := [entF 65 strA lenS keyB φB, entF 66 strA lenS validB φB, ent1 23 [rngL v.split, .int .i64 n] (splitE v.split n) φE]) mixed funcs
    (tabOk_cons (entF_ok fun s _ => key_ok s) (tabOk_cons (entF_ok fun s hs => valid_ok hu s hs) (tabOk_cons (ent1_ok (split_ok _ _ h4)) tabOk_nil))) loopsOk_nil ?_
  refine (serve_m gS (vS keyB) gS (vS validB) (g1 [rngL v.split, .int .i64 n]) (v1 [rngL v.split, .int .i64 n] (splitE v.split n)) v n (v1_eq _ _)).trans ?_
  rw [gS_eq h1, gS_eq h2, gS_eq h3, vS_eq _ h1, vS_eq _ h2, vS_eq _ h3, g1_eq, ne_zero_id]
  unfold serveE φE
  cases (v.var != 0)
  · cases keyB v.kind <;> cases keyB v.by' <;> cases validB v.salt <;> rfl
  · cases decide (v.var < 1) <;> cases decide (v.var > n) <;> cases (v.kind == []) <;> cases (v.by' == []) <;> cases (v.salt == []) <;> cases decide ((v.split.length : Int) > 0) <;> rfl
theorem rserve_ok (v : SERVE) (n : Int) (hv : v.Ok) : Ct V.P V.G 33 [.agg v.c, .int .i64 n] [] (φE (serveE v n)) := by
  obtain ⟨h1, h2, h3, h4⟩ := hv
  refine ct_loops (d := 9) (n := 9) (T := [entF 67 strA lenS keyB φB, entF 68 strA lenS validB φB, ent1 24 [rngL v.split, .int .i64 n] (splitE v.split n) φE]) mixed funcs
    (tabOk_cons (entF_ok fun s hs => rkey_ok s hs) (tabOk_cons (entF_ok fun s hs => rvalid_ok hu s hs) (tabOk_cons (ent1_ok (rsplit_ok _ _ h4)) tabOk_nil))) loopsOk_nil ?_
  refine (rserve_m gS (vS keyB) gS (vS validB) (g1 [rngL v.split, .int .i64 n]) (v1 [rngL v.split, .int .i64 n] (splitE v.split n)) v n (v1_eq _ _)).trans ?_
  rw [gS_eq h1, gS_eq h2, gS_eq h3, vS_eq _ h1, vS_eq _ h2, vS_eq _ h3, g1_eq]
  unfold serveE φE
  cases (v.var != 0)
  · cases keyB v.kind <;> cases keyB v.by' <;> cases validB v.salt <;> rfl
  · cases decide (v.var < 1) <;> cases decide (v.var > n) <;> cases (v.kind == []) <;> cases (v.by' == []) <;> cases (v.salt == []) <;> cases decide ((v.split.length : Int) > 0) <;> rfl
end
end Go.SH

namespace Go.SH
open Go Go.Ab Go.Proofs
set_option linter.unusedVariables false
set_option linter.unusedSimpArgs false
structure PRQ where
  flag : List UInt8
  var : Int
instance : Inhabited PRQ := ⟨⟨[], 0⟩⟩
def PRQ.c (p : PRQ) : List AV := [.str p.flag, .int .i64 p.var]
def prqL (l : List PRQ) : AV := .sl .no 2 l.length fun j => (l.getD j default).c
structure TGT where
  kind : List UInt8
  var : Int
  keys : List (List UInt8)
instance : Inhabited TGT := ⟨⟨[], 0, []⟩⟩
def TGT.c (p : TGT) : List AV := [.str p.kind, .int .i64 p.var, strsA p.keys]
def tgtL (l : List TGT) : AV := .sl .no 3 l.length fun j => (l.getD j default).c
instance : Inhabited SERVE := ⟨⟨0, [], [], [], []⟩⟩
structure RULE where
  name : List UInt8
  when : EXP
  serve : SERVE
instance : Inhabited RULE := ⟨⟨[], default, default⟩⟩
def RULE.c (p : RULE) : List AV := [.str p.name, .int .i64 p.when.op, .str p.when.kind, .str p.when.name, valL p.when.vals, .sl .no 5 p.when.kids.length (EXP.row p.when.kids), .int .i64 p.serve.var, .str p.serve.kind, .str p.serve.by', .str p.serve.salt, rngL p.serve.split]
def rulL (l : List RULE) : AV := .sl .no 11 l.length fun j => (l.getD j default).c
structure FLAG where
  key : List UInt8
  kind : Int
  vars : List VAL
  on : Bool
  off : Int
  prqs : List PRQ
  tgts : List TGT
  rules : List RULE
  dflt : SERVE
def FLAG.c (f : FLAG) : List AV := [.str f.key, .int .i64 f.kind, valL f.vars, .bool f.on, .int .i64 f.off, prqL f.prqs, tgtL f.tgts, rulL f.rules, .int .i64 f.dflt.var, .str f.dflt.kind, .str f.dflt.by', .str f.dflt.salt, rngL f.dflt.split]
structure SEG where
  key : List UInt8
  kind : List UInt8
  incl : List (List UInt8)
  excl : List (List UInt8)
  when : EXP
def SEG.c (g : SEG) : List AV := [.str g.key, .str g.kind, strsA g.incl, strsA g.excl, .int .i64 g.when.op, .str g.when.kind, .str g.when.name, valL g.when.vals, .sl .no 5 g.when.kids.length (EXP.row g.when.kids)]
structure LAYER where
  key : List UInt8
  kind : List UInt8
  salt : List UInt8
  hold : Int
  cool : Int
  cooling : List (Int × Int × Int)
def LAYER.c (l : LAYER) : List AV := [.str l.key, .str l.kind, .str l.salt, .int .i64 l.hold, .int .i64 l.cool, rngL l.cooling]
structure EXPT where
  key : List UInt8
  layer : List UInt8
  flag : List UInt8
  salt : List UInt8
  status : Int
  claims : List (Int × Int)
  arms : List (Int × Int × Int)
  when : EXP
def EXPT.c (x : EXPT) : List AV := [.str x.key, .str x.layer, .str x.flag, .str x.salt, .int .i64 x.status, spnL x.claims, rngL x.arms, .int .i64 x.when.op, .str x.when.kind, .str x.when.name, valL x.when.vals, .sl .no 5 x.when.kids.length (EXP.row x.when.kids)]
def okL {α : Type} (P : α → Prop) (l : List α) : Prop := l.length ≤ 1048576 ∧ ∀ v ∈ l, P v
theorem okL.at {α : Type} [Inhabited α] {P : α → Prop} {l : List α} (h : okL P l) {i : Nat} (hi : i < l.length) : P (l.getD i default) := by
  rw [List.getD_eq_getElem?_getD, List.getElem?_eq_getElem hi]
  exact h.2 _ (List.getElem_mem hi)
def TGT.Ok (t : TGT) : Prop := lenS t.kind ∧ strsOk t.keys
def RULE.Ok (r : RULE) : Prop := lenS r.name ∧ r.when.Ok ∧ r.serve.Ok
def FLAG.Ok (f : FLAG) : Prop := lenS f.key ∧ okL VAL.Ok f.vars ∧ okL (fun p : PRQ => lenS p.flag) f.prqs ∧ okL TGT.Ok f.tgts ∧ okL RULE.Ok f.rules ∧ f.dflt.Ok
def SEG.Ok (g : SEG) : Prop := lenS g.key ∧ lenS g.kind ∧ strsOk g.incl ∧ strsOk g.excl ∧ g.when.Ok
def LAYER.Ok (l : LAYER) : Prop := lenS l.key ∧ lenS l.kind ∧ lenS l.salt ∧ l.cooling.length ≤ 1048576
def EXPT.Ok (x : EXPT) : Prop := lenS x.key ∧ lenS x.layer ∧ lenS x.flag ∧ lenS x.salt ∧ x.claims.length ≤ 1048576 ∧ x.arms.length ≤ 1048576 ∧ x.when.Ok
end Go.SH

namespace Go.SH
open Go Go.Ab Go.Proofs
set_option linter.unusedVariables false
set_option linter.unusedSimpArgs false
def R0 : (Ex → St → Res) → Res := fun k => k (.exit 0) { env := [], objs := [] }
def B70 (l : List PRQ) (i : Nat) : St := { env := [(0, prqL l), (9, prqL l), (10, .int .i64 l.length), (11, .int .i64 i)], objs := [] }
def B74 (l : List PRQ) (i : Nat) : St := { env := [(0, prqL l), (3, .int .i64 i)], objs := [] }
def B71 (l : List TGT) (n : Nat) (i : Nat) : St := { env := [(1, .int .i64 n), (11, tgtL l), (12, .int .i64 l.length), (13, .int .i64 i)], objs := [] }
def B75 (l : List TGT) (n : Nat) (i : Nat) : St := { env := [(0, tgtL l), (1, .int .i64 n), (5, .int .i64 i)], objs := [] }
def B72 (l : List RULE) (n : Nat) (i : Nat) : St := { env := [(0, rulL l), (1, .int .i64 n), (13, rulL l), (14, .int .i64 l.length), (15, .int .i64 i)], objs := [] }
def B72e (l : List RULE) (n : Nat) (i : Nat) : St := { env := [(0, rulL l), (1, .int .i64 n), (6, .ref 6 0), (13, rulL l), (14, .int .i64 l.length), (15, .int .i64 i)], objs := [(6, .cells (l.getD i default).c)] }
def subA (l : List RULE) (i : Nat) : AV := .sl .no 11 i fun j => (l.getD (0 + j) default).c
def B72i (l : List RULE) (n : Nat) (i k : Nat) : St := { env := [(0, rulL l), (1, .int .i64 n), (6, .ref 6 0), (13, rulL l), (14, .int .i64 l.length), (15, .int .i64 i), (26, subA l i), (27, .int .i64 i), (28, .int .i64 k)], objs := [(6, .cells (l.getD i default).c)] }
def B76 (l : List RULE) (n : Nat) (i : Nat) : St := { env := [(0, rulL l), (1, .int .i64 n), (5, .int .i64 i)], objs := [] }
def B76i (l : List RULE) (n : Nat) (i k : Nat) : St := { env := [(0, rulL l), (1, .int .i64 n), (5, .int .i64 i), (6, .int .i64 k)], objs := [] }
def B34 (f : FLAG) (i : Nat) : St := { env := [(1, .ref 1 0), (3, .int .i64 f.vars.length), (38, valL f.vars), (39, .int .i64 f.vars.length), (40, .int .i64 i)], objs := [(1, .cells f.c)] }
def B34e (f : FLAG) : St := { env := [(1, .ref 1 0), (3, .int .i64 f.vars.length)], objs := [(1, .cells f.c)] }
def B73 (f : FLAG) (i : Nat) : St := { env := [(1, .ref 1 0), (3, .int .i64 f.vars.length), (4, .int .i64 i)], objs := [(1, .cells f.c)] }
def B38 (l : LAYER) (i : Nat) : St := { env := [(1, .ref 1 0), (52, rngL l.cooling), (53, .int .i64 l.cooling.length), (54, .int .i64 i)], objs := [(1, .cells l.c)] }
def B39 (l : LAYER) (i : Nat) : St := { env := [(1, .ref 1 0), (3, .int .i64 i)], objs := [(1, .cells l.c)] }
def out72 (l : List RULE) (n : Nat) (x : Nat × Bool) (k : Ex → St → Res) : Res := cond x.2 (k .ret { env := [(4, .int .i64 10)], objs := [] }) (k (.exit 2) (B72e l n x.1))
def out76 (l : List RULE) (n : Nat) (x : Nat × Bool) (k : Ex → St → Res) : Res := cond x.2 (k .ret { env := [(4, .int .i64 10)], objs := [] }) (k (.exit 2) (B76 l n x.1))
end Go.SH

namespace Go.SH
open Go Go.Ab Go.Proofs
set_option linter.unusedVariables false
set_option linter.unusedSimpArgs false
def φW (x : Int × Nat) : AV × List AO := (.int .i64 x.1, [.cells [.int .i64 x.2] ])
def kidsA (p : PART) : AV := .sl .no 5 p.n fun j => [.int .i64 (p.ko j), .str (p.kk j), .str (p.kn j), valL (p.kv j), .sl .no 5 (p.km j) (p.kg j)]
def kidC (p : PART) (j : Nat) : List AV := [.int .i64 (p.ko j), .str (p.kk j), .str (p.kn j), valL (p.kv j), .sl .no 5 (p.km j) (p.kg j)]
def cntO (n : Int) : AO := .cells [.int .i64 n]
def E1 (p : PART) (d i n : Nat) : St := { env := [(1, .int .i64 d), (2, .ref keyBase 0), (27, kidsA p), (28, .int .i64 p.n), (29, .int .i64 i)], objs := [(keyBase, cntO n)] }
def E2 (p : PART) (d i n : Nat) : St := { env := [(1, .int .i64 (d + 1 : Nat)), (2, .ref keyBase 0), (3, .ref 3 0), (8, .int .i64 i)], objs := [(3, .cells p.c), (keyBase, cntO n)] }
def E3 (p : PART) (i : Nat) : St := { env := [(1, .ref 1 0), (3, .int .i64 (p.n + p.vals.length : Nat)), (4, .int .i64 i)], objs := [(1, .cells p.c)] }
def outW (x : Int × Nat) (k : Ex → St → Res) : Res := cond (x.1 != 0) (k .ret { env := [(6, .int .i64 x.1)], objs := [(keyBase, cntO x.2)] }) (k (.exit 0) { env := [], objs := [(keyBase, cntO x.2)] })
def outG (p : PART) (b : Bool) (k : Ex → St → Res) : Res := cond b (k .ret { env := [(2, .bool true)], objs := [] }) (k (.exit 0) { env := [(3, .int .i64 (p.n + p.vals.length : Nat))], objs := [] })
end Go.SH

namespace Go.SH
open Go Go.Ab Go.Proofs
set_option linter.unusedVariables false
set_option linter.unusedSimpArgs false
instance : Inhabited (Int × Nat) := ⟨(0, 0)⟩
section
variable (z : Nat)
def wA (x : EXP × Nat × Nat) : List AV := [.agg x.1.c, .int .i64 (x.2.1 + z : Nat), .ref keyBase 0]
def wO (x : EXP × Nat × Nat) : List AO := [cntO x.2.2]
def wW (x : EXP × Nat × Nat) : Int × Nat := walkE x.1 x.2.1 x.2.2
def wP (e : EXP) (x : EXP × Nat × Nat) : Prop := x.1 ∈ e.kids ∧ x.2.1 ≤ 10
noncomputable abbrev gW (e : EXP) : List AV → List AO → Bool := goodA (wA z) wO (wP e)
noncomputable abbrev vW (e : EXP) : List AV → List AO → Int × Nat := valA (wA z) wO (wP e) wW
end
theorem Ok.len {e : EXP} (h : e.Ok) : e.kids.length ≤ 1048576 := by cases h with | mk _ h1 h2 h3 h4 h5 => exact h4
theorem Ok.vals {e : EXP} (h : e.Ok) : valsOk e.vals := by cases h with | mk _ h1 h2 h3 h4 h5 => exact h3
end Go.SH

namespace Go.SH
open Go Go.Ab Go.Proofs
set_option linter.unusedVariables false
set_option linter.unusedSimpArgs false
end Go.SH

namespace Go.SH
open Go Go.Ab Go.Proofs
set_option linter.unusedVariables false
set_option linter.unusedSimpArgs false
def w0 (e : EXP) (x : EXP × Nat × Nat) : Prop := x = (e, 0, 0)
def expA (e : EXP) : List AV := [.agg e.c]
def outG' (e : EXP) (b : Bool) (k : Ex → St → Res) : Res := outG e.part b k
end Go.SH

namespace Go.SH
open Go Go.Ab Go.Proofs
set_option linter.unusedVariables false
set_option linter.unusedSimpArgs false
def prqStop (l : List PRQ) (i : Nat) : Option Int :=
  bif !keyB (l.getD i default).flag then some 6 else
  bif decide (i > 0) && (bytesLt (l.getD i default).flag (l.getD (i - 1) default).flag || (l.getD i default).flag == (l.getD (i - 1) default).flag) then some 9 else
  bif decide ((l.getD i default).var < 1) || decide ((l.getD i default).var > 8) then some 3 else none
def prqSeek (l : List PRQ) : Bool × Int := scanAt l.length (· + 1) (prqStop l) 0
def prqE (l : List PRQ) : Int := bif decide (l.length > 4) then 5 else bif (prqSeek l).1 then (prqSeek l).2 else 0
abbrev prqOk : List PRQ → Prop := okL (fun p : PRQ => lenS p.flag)
def memA (l : List (List UInt8)) : List AV := [strsA l]
noncomputable abbrev gM : List AV → List AO → Bool := gF memA strsOk
noncomputable abbrev vM : List AV → List AO → Int := vF memA strsOk memE
def tgtStop (l : List TGT) (n : Nat) (i : Nat) : Option Int :=
  bif !keyB (l.getD i default).kind then some 6 else
  bif decide ((l.getD i default).var < 1) || (decide ((l.getD i default).var > n) || (l.getD i default).keys.length == 0) then some 3 else
  bif memE (l.getD i default).keys != 0 then some (memE (l.getD i default).keys) else none
def tgtSeek (l : List TGT) (n : Nat) : Bool × Int := scanAt l.length (· + 1) (tgtStop l n) 0
def tgtE (l : List TGT) (n : Nat) : Int := bif decide (l.length > 8) then 5 else bif (tgtSeek l n).1 then (tgtSeek l n).2 else 0
end Go.SH

namespace Go.SH
open Go Go.Ab Go.Proofs
set_option linter.unusedVariables false
set_option linter.unusedSimpArgs false
theorem rngL_inj {a b : List (Int × Int × Int)} (h : rngL a = rngL b) : a = b := by
  unfold rngL at h
  simp only [AV.sl.injEq, true_and] at h
  obtain ⟨h1, h2⟩ := h
  apply List.ext_getElem h1
  intro i hi hj
  have := congrFun h2 i
  simp only [List.getD, List.getElem?_eq_getElem hi, List.getElem?_eq_getElem hj, Option.getD_some, rngC, List.cons.injEq, AV.int.injEq, true_and, and_true] at this
  obtain ⟨h3, h4, h5⟩ := this
  exact Prod.ext h3 (Prod.ext h4 h5)
theorem SERVE.c_inj {a b : SERVE} (h : a.c = b.c) : a = b := by
  obtain ⟨k, n, t, l, m⟩ := a
  obtain ⟨k', n', t', l', m'⟩ := b
  simp only [SERVE.c, List.cons.injEq, AV.int.injEq, AV.str.injEq, true_and, and_true] at h
  obtain ⟨rfl, rfl, rfl, rfl, h⟩ := h
  rw [rngL_inj h]
def exA (e : EXP) : List AV := [.agg e.x]
noncomputable abbrev gX : List AV → List AO → Bool := gF exA EXP.Ok
noncomputable abbrev vX : List AV → List AO → Int := vF exA EXP.Ok exprE
def svA (n : Nat) (v : SERVE) : List AV := [.agg v.c, .int .i64 n]
noncomputable abbrev gY (n : Nat) : List AV → List AO → Bool := gF (svA n) SERVE.Ok
noncomputable abbrev vY (n : Nat) : List AV → List AO → Int := vF (svA n) SERVE.Ok (fun v => serveE v n)
def dupStop (l : List RULE) (i : Nat) (k : Nat) : Option Unit := bif (l.getD k default).name == (l.getD i default).name then some () else none
def dupI (l : List RULE) (i k : Nat) : Bool := (scanAt i (· + 1) (dupStop l i) k).1
def rulStop (l : List RULE) (n : Nat) (i : Nat) : Option Int :=
  bif !keyB (l.getD i default).name then some 6 else
  bif dupI l i 0 then some 10 else
  bif exprE (l.getD i default).when != 0 then some (exprE (l.getD i default).when) else
  bif serveE (l.getD i default).serve n != 0 then some (serveE (l.getD i default).serve n) else none
def rulSeek (l : List RULE) (n : Nat) : Bool × Int := scanAt l.length (· + 1) (rulStop l n) 0
def rulE (l : List RULE) (n : Nat) : Int := bif decide (l.length > 12) then 5 else bif (rulSeek l n).1 then (rulSeek l n).2 else 0
def dupW (l : List RULE) (x : Nat × Nat) : Nat × Bool := (x.1, dupI l x.1 x.2)
instance : Inhabited (Nat × Bool) := ⟨(0, false)⟩
def S72i (l : List RULE) (n : Nat) (x : Nat × Nat) : St := B72i l n x.1 x.2
def S76i (l : List RULE) (n : Nat) (x : Nat × Nat) : St := B76i l n x.1 x.2
def inI (l : List RULE) (x : Nat × Nat) : Prop := x.2 ≤ x.1 ∧ x.1 < l.length
end Go.SH

namespace Go.SH
open Go Go.Ab Go.Proofs
set_option linter.unusedVariables false
set_option linter.unusedSimpArgs false
def varStop (f : FLAG) (i : Nat) : Option Int :=
  bif checkE (f.vars.getD i default) != 0 then some (checkE (f.vars.getD i default)) else
  bif (f.vars.getD i default).kind != f.kind then some 8 else none
def varSeek (f : FLAG) : Bool × Int := scanAt f.vars.length (· + 1) (varStop f) 0
def varE (f : FLAG) : Int :=
  bif decide (f.vars.length > 8) then 5 else bif f.vars.length == 0 then 3 else bif (varSeek f).1 then (varSeek f).2 else
  bif decide (f.off < 1) || decide (f.off > f.vars.length) then 3 else 0
def flagE (f : FLAG) : Int :=
  bif !keyB f.key then 6 else bif decide (f.kind < 1) || decide (f.kind > 5) then 7 else
  bif varE f != 0 then varE f else bif prqE f.prqs != 0 then prqE f.prqs else
  bif tgtE f.tgts f.vars.length != 0 then tgtE f.tgts f.vars.length else
  bif rulE f.rules f.vars.length != 0 then rulE f.rules f.vars.length else serveE f.dflt f.vars.length
def spanBad (a b c : Int) : Bool := bif !(decide (0 ≤ a) && (decide (a < b) && decide (b ≤ 10000))) then true else bif decide (c < 0) then true else decide (c > 1099511627776)
def coolStop (l : List (Int × Int × Int)) (i : Nat) : Option Int :=
  bif spanBad (l.getD i (0, 0, 0)).1 (l.getD i (0, 0, 0)).2.1 (l.getD i (0, 0, 0)).2.2 then some 3 else
  bif decide (i > 0) && decide ((l.getD i (0, 0, 0)).1 < (l.getD (i - 1) (0, 0, 0)).2.1) then some 9 else none
def coolSeek (l : List (Int × Int × Int)) : Bool × Int := scanAt l.length (· + 1) (coolStop l) 0
def layerE (f : LAYER) : Int :=
  bif !keyB f.key || !keyB f.kind then 6 else bif !validB f.salt then 2 else
  bif decide (f.hold < 0) || (decide (f.hold > 10000) || (decide (f.cool < 0) || decide (f.cool > 1099511627776))) then 3 else
  bif decide (f.cooling.length > 32) then 5 else bif (coolSeek f.cooling).1 then (coolSeek f.cooling).2 else 0
def segE (g : SEG) : Int :=
  bif !keyB g.key || !keyB g.kind then 6 else bif memE g.incl != 0 then memE g.incl else bif memE g.excl != 0 then memE g.excl else bif noneB g.when then 0 else exprE g.when
def exptE (x : EXPT) : Int :=
  bif !keyB x.key || (!keyB x.layer || !keyB x.flag) then 6 else bif !validB x.salt then 2 else
  bif decide (x.status < 1) || decide (x.status > 3) then 7 else bif spansE x.claims != 0 then spansE x.claims else
  bif splitE x.arms 8 != 0 then splitE x.arms 8 else exprE x.when
end Go.SH

namespace Go.SH
open Go Go.Ab Go.Proofs
set_option linter.unusedVariables false
set_option linter.unusedSimpArgs false
def K6 (f : FLAG) (g : SEG) (l : LAYER) (x : EXPT) (i : Nat) : St := { env := [(4, .ref 4 0), (5, .ref 5 0), (6, .ref 6 0), (7, .ref 7 0), (9, .int .i64 i)], objs := [(4, .cells f.c), (5, .cells g.c), (6, .cells l.c), (7, .cells x.c)] }
def K6e (f : FLAG) (g : SEG) (l : LAYER) (x : EXPT) : St := { env := [(4, .ref 4 0), (5, .ref 5 0), (6, .ref 6 0), (7, .ref 7 0)], objs := [(4, .cells f.c), (5, .cells g.c), (6, .cells l.c), (7, .cells x.c)] }
set_option maxRecDepth 100000 in
theorem awake_m (gk vk gv vv : List AV → List AO → Bool)  : runF (V.run [mkE 65 gk vk φB, mkE 66 gv vv φB] 9 [] [] [] 10) 9 10 [] [] =
  cond (gv [.str []] []) (cond (!vv [.str []] []) (cond (gk [.str []] []) (cond (bif !vk [.str []] [] then bif !([] : List UInt8) == [] then true else 0 != 0 else false) (some ((.bool (bif bif 2 == 0 then 0 == 0 else false then 3 == 3 else false), []))) (some ((.bool (bif bif 2 == 0 then 0 == 0 else false then 3 == 3 else false), [])))) (none)) (cond (gk [.str []] []) (cond (bif !vk [.str []] [] then bif !([] : List UInt8) == [] then true else 0 != 0 else false) (some ((.bool (bif bif 6 == 0 then 0 == 0 else false then 3 == 3 else false), []))) (some ((.bool (bif bif 0 == 0 then 0 == 0 else false then 3 == 3 else false), [])))) (none))) (none) := by kernel_rfl
end Go.SH

namespace Go.SH
open Go Go.Ab Go.Proofs
set_option linter.unusedVariables false
set_option linter.unusedSimpArgs false
theorem validB_nil : validB [] = true := by decide
theorem awake_ok : Ct V.P V.G 10 [] [] (φB true) := by
  have h0 : lenS [] := by unfold lenS; simp
  refine ct_loops (n := 9) (d := 9) (L := []) (T := [entF 65 strA lenS keyB φB, entF 66 strA lenS validB φB]) mixed funcs
    (tabOk_cons (entF_ok fun s _ => key_ok s) (tabOk_cons (entF_ok fun s hs => valid_ok utfOk s hs) tabOk_nil)) loopsOk_nil ?_
  refine (awake_m gS (vS keyB) gS (vS validB)).trans ?_
  rw [gS_eq h0, vS_eq _ h0, vS_eq _ h0, validB_nil]
  cases keyB [] <;> rfl
noncomputable abbrev vBig : List AV → List AO → Bool := vF exA EXP.Ok bigB
end Go.SH

namespace Go.SH
open Go Go.Ab Go.Proofs
def tcells : DataW Unit → List AV
  | .lit (.string s) => [.str s]
  | .slice es _ => [strsA (tstrs es)]
  | .agg ps => tcellsL ps
  | _ => []
where
  tstrs : List (DataW Unit) → List (List UInt8)
    | .lit (.string s) :: r => s :: tstrs r
    | _ => []
  tcellsL : List (DataW Unit) → List AV
    | [] => []
    | .lit (.string s) :: r => .str s :: tcellsL r
    | .slice es _ :: r => strsA (tstrs es) :: tcellsL r
    | _ :: r => tcellsL r
noncomputable def globs2 (g : Nat) : Option (List AV) := cond (Nat.beq g 0) (some (tcells Go.Proofs.YtnldpiohcmgkdaaGreatDoor.Rows.laid_flagstone_flagstonedraw_versions)) (cond (Nat.beq g 1) (some (tcells Go.Proofs.YtnldpiohcmgkdaaGreatDoor.Rows.laid_flagstone_flagstonedraw_lists)) (cond (Nat.beq g 2) (some (tcells Go.Proofs.YtnldpiohcmgkdaaGreatDoor.Rows.laid_flagstone_flagstonedraw_texts)) (globs g)))
noncomputable def hints2 : List (Nat × List (Nat × Hint)) := [
  (9, [(20, hn [1, 2, 9, 12, 59, 60, 61] [9, 12, 44] [] []), (16, hn [1, 2, 8, 9, 12, 13] [8, 9, 12, 44] [] []), (8, hn [1, 2, 7, 8, 9, 10] [8, 9, 12, 15, 19, 44] [] [(9, 4, 44, 25)])]),
  (13, [(18, hn [0, 1, 2, 6, 8, 9, 10, 11] [6, 9, 81] [] [(9, 4, 81, 25)])]),
  (47, [(18, hn [0, 2, 5, 6, 7] [2, 5, 6, 63] [] [(6, 3, 63, 58)])]),
  (49, [(3, hn [1, 3, 4] [1] [] [])]),
  (105, [(3, hn [1, 10, 11, 12] [] [] [])]),
  (3, [(12, hn [32, 33, 34] [] [] [])]),
  (4, [(25, hn [13, 19, 20, 21] [] [] []), (16, hn [4, 12, 13, 81, 82, 83] [] [] []), (10, hn [1, 3, 4, 12, 13, 14, 55, 56, 57] [14] [] [])]),
  (5, [(10, hn [2, 8, 9, 39, 40, 41] [9] [] [])]),
  (14, [(23, hn [0, 3, 4, 6] [3, 4, 20, 61, 65, 83, 87, 110, 114] [] []), (29, hn [0, 3, 4, 7, 8] [3, 4, 7, 20, 61, 65, 83, 87, 110] [] [(7, 4, 110, 25)])]),
  (20, [(4, hn [0, 1, 5, 6, 7, 8] [46, 65] [(5, 46, 52)] [])]),
  (21, [(16, hn [0, 3, 4, 5] [3, 4, 8, 43, 64] [] [(3, 5, 64, 45)])]),
  (28, [(2, hn [0, 1, 5] [] [] [])]),
  (31, [(36, hn [0, 3, 4] [3, 4, 9, 13, 17, 21, 42, 71, 83, 97, 110, 191] [] [(3, 7, 191, 76)])]),
  (55, [(19, hn [0, 1, 6] [8, 56, 75] [(1, 75, 52)] [])]),
  (61, [(8, hn [4, 6] [25] [] []), (4, hn [0, 3, 4, 5] [25] [(4, 25, 9)] [])]),
  (62, [(3, hn [0, 3, 4] [24] [(3, 24, 9)] [])])]
noncomputable def trims2 : List (Nat × List (List Nat × Hint)) := [
  (3, [tr [1, 1] [1, 2] [2], tr [1, 1, 1] [1, 2] [2], tr [1, 1, 1, 1, 1, 1, 1, 1] [2, 7, 8] [2, 7, 8], tr [1, 1, 1, 1, 1, 1, 1, 1, 0, 1, 0, 0, 1, 0, 1] [] [], tr [1, 1, 1, 1, 1, 1, 1, 1, 0, 1, 0, 0, 1, 1] [32, 33, 34] [], tr [1, 1, 1, 1, 1, 1, 1, 1, 0, 1, 0, 0, 1, 1, 0, 0, 1, 1, 0, 1] [4] [], tr [1, 1, 1, 1, 1, 1, 1, 1, 0, 1, 0, 0, 1, 1, 1] [32, 33, 34] [], tr [1, 1, 1, 1, 1, 1, 1, 1, 1] [] []]),
  (4, [tr [1, 1] [0, 1, 2, 3, 4] [], tr [1, 1, 1] [0, 1, 2, 3, 4] [], tr [1, 1, 1, 1, 1, 1, 1, 0, 1, 0, 0, 1, 0, 1] [1, 4, 12, 13, 14] [14], tr [1, 1, 1, 1, 1, 1, 1, 0, 1, 0, 0, 1, 1] [1, 3, 4, 12, 13, 14, 55, 56, 57] [14], tr [1, 1, 1, 1, 1, 1, 1, 0, 1, 0, 0, 1, 1, 0, 0, 1, 1, 0, 1] [10] [], tr [1, 1, 1, 1, 1, 1, 1, 0, 1, 0, 0, 1, 1, 1] [1, 3, 4, 12, 13, 14, 55, 56, 57] [14], tr [1, 1, 1, 1, 1, 1, 1, 1] [1, 4, 12, 13, 14] [14], tr [1, 1, 1, 1, 1, 1, 1, 1, 0, 1, 0, 0, 1, 0, 1] [4, 12, 13] [], tr [1, 1, 1, 1, 1, 1, 1, 1, 0, 1, 0, 0, 1, 1] [4, 12, 13, 81, 82, 83] [], tr [1, 1, 1, 1, 1, 1, 1, 1, 0, 1, 0, 0, 1, 1, 0, 0, 1, 1, 0, 1] [10] [], tr [1, 1, 1, 1, 1, 1, 1, 1, 0, 1, 0, 0, 1, 1, 1] [4, 12, 13, 81, 82, 83] [], tr [1, 1, 1, 1, 1, 1, 1, 1, 1] [4, 12, 13] [], tr [1, 1, 1, 1, 1, 1, 1, 1, 1, 1] [4, 13] [], tr [1, 1, 1, 1, 1, 1, 1, 1, 1, 1, 1, 0, 1, 0, 0, 0, 1, 1] [13, 19, 20] [], tr [1, 1, 1, 1, 1, 1, 1, 1, 1, 1, 1, 0, 1, 0, 0, 1] [13, 19, 20, 21] [], tr [1, 1, 1, 1, 1, 1, 1, 1, 1, 1, 1, 0, 1, 0, 0, 1, 1] [13, 19, 20, 21] [], tr [1, 1, 1, 1, 1, 1, 1, 1, 1, 1, 1, 1] [13, 19, 20] []]),
  (5, [tr [1, 1] [1, 2, 3] [3], tr [1, 1, 1] [1, 2, 3] [3], tr [1, 1, 1, 1, 1, 1, 1, 0, 1, 0, 0, 1, 0, 1] [8, 9] [9], tr [1, 1, 1, 1, 1, 1, 1, 0, 1, 0, 0, 1, 1] [2, 8, 9, 39, 40, 41] [9], tr [1, 1, 1, 1, 1, 1, 1, 0, 1, 0, 0, 1, 1, 0, 0, 1, 1, 0, 1] [6] [], tr [1, 1, 1, 1, 1, 1, 1, 0, 1, 0, 0, 1, 1, 1] [2, 8, 9, 39, 40, 41] [9], tr [1, 1, 1, 1, 1, 1, 1, 1] [8, 9] [9]]),
  (9, [tr [1, 1] [0, 1, 2] [], tr [1, 1, 1, 1, 1, 1, 0, 1, 0, 0, 0, 1, 1] [1, 2, 7, 8, 9] [8, 9, 19, 44], tr [1, 1, 1, 1, 1, 1, 0, 1, 0, 0, 1] [1, 2, 7, 8, 9, 10] [8, 9, 19, 44], tr [1, 1, 1, 1, 1, 1, 0, 1, 0, 0, 1, 0, 0, 1, 1] [1, 2, 7, 8, 9, 10, 11] [8, 9, 11, 19, 44], tr [1, 1, 1, 1, 1, 1, 0, 1, 0, 0, 1, 1] [1, 2, 7, 8, 9, 10] [8, 9, 19, 44], tr [1, 1, 1, 1, 1, 1, 1] [1, 2, 7, 8, 9] [8, 9, 19, 44], tr [1, 1, 1, 1, 1, 1, 1, 1, 0, 1, 0, 0, 0, 1, 1] [1, 2, 8, 9, 12] [8, 9, 12, 44], tr [1, 1, 1, 1, 1, 1, 1, 1, 0, 1, 0, 0, 1] [1, 2, 8, 9, 12, 13] [8, 9, 12, 44], tr [1, 1, 1, 1, 1, 1, 1, 1, 0, 1, 0, 0, 1, 1] [1, 2, 8, 9, 12, 13] [8, 9, 12, 44], tr [1, 1, 1, 1, 1, 1, 1, 1, 1] [1, 2, 8, 9, 12] [8, 9, 12, 44], tr [1, 1, 1, 1, 1, 1, 1, 1, 1, 0, 1, 0, 0, 1, 0, 1] [1, 2, 9, 12] [9, 12, 44], tr [1, 1, 1, 1, 1, 1, 1, 1, 1, 0, 1, 0, 0, 1, 1] [1, 2, 9, 12, 59, 60, 61] [9, 12, 44], tr [1, 1, 1, 1, 1, 1, 1, 1, 1, 0, 1, 0, 0, 1, 1, 0, 0, 1, 1, 0, 1] [6] [], tr [1, 1, 1, 1, 1, 1, 1, 1, 1, 0, 1, 0, 0, 1, 1, 1] [1, 2, 9, 12, 59, 60, 61] [9, 12, 44], tr [1, 1, 1, 1, 1, 1, 1, 1, 1, 1] [1, 2, 9, 12] [9, 12, 44]]),
  (12, [tr [1, 1] [0] []]),
  (13, [tr [1, 1, 1] [0, 1, 2, 6, 7] [6, 81], tr [1, 1, 1, 0, 1, 0, 1, 1, 1, 1, 1, 1, 1] [0, 1, 2, 6, 49] [6, 81], tr [1, 1, 1, 0, 1, 0, 1, 1, 1, 1, 1, 1, 1, 0, 1, 1, 1, 0, 1, 0, 0, 0, 1, 1] [6, 9] [6, 9, 81], tr [1, 1, 1, 0, 1, 0, 1, 1, 1, 1, 1, 1, 1, 0, 1, 1, 1, 0, 1, 0, 0, 1] [0, 1, 2, 6, 8, 9, 10, 11] [6, 9, 81], tr [1, 1, 1, 0, 1, 0, 1, 1, 1, 1, 1, 1, 1, 0, 1, 1, 1, 0, 1, 0, 0, 1, 0, 0, 1, 1] [0, 1, 2, 6, 8, 9, 10, 11, 12] [6, 9, 12, 81], tr [1, 1, 1, 0, 1, 0, 1, 1, 1, 1, 1, 1, 1, 0, 1, 1, 1, 0, 1, 0, 0, 1, 1] [0, 1, 2, 6, 8, 9, 10, 11] [6, 9, 81], tr [1, 1, 1, 0, 1, 0, 1, 1, 1, 1, 1, 1, 1, 0, 1, 1, 1, 1] [6, 9] [6, 9, 81], tr [1, 1, 1, 1] [0, 6] [6, 81]]),
  (14, [tr [1, 1] [0, 3, 4] [3, 4, 20, 61, 65, 83, 87, 110, 114], tr [1, 1, 0, 1, 0, 1, 1, 1, 1, 1, 1, 1, 1, 1, 1, 1, 1, 1, 1, 1, 0, 1, 0, 0, 0, 1, 1] [3, 4] [3, 4, 20, 61, 65, 83, 87, 110, 114], tr [1, 1, 0, 1, 0, 1, 1, 1, 1, 1, 1, 1, 1, 1, 1, 1, 1, 1, 1, 1, 0, 1, 0, 0, 1] [0, 3, 4, 6] [3, 4, 20, 61, 65, 83, 87, 110, 114], tr [1, 1, 0, 1, 0, 1, 1, 1, 1, 1, 1, 1, 1, 1, 1, 1, 1, 1, 1, 1, 0, 1, 0, 0, 1, 1] [0, 3, 4, 6] [3, 4, 20, 61, 65, 83, 87, 110, 114], tr [1, 1, 0, 1, 0, 1, 1, 1, 1, 1, 1, 1, 1, 1, 1, 1, 1, 1, 1, 1, 1, 1, 0, 1, 0, 1, 0, 0, 0, 1, 1] [3, 4, 7] [3, 4, 7, 20, 61, 65, 83, 87, 110, 114], tr [1, 1, 0, 1, 0, 1, 1, 1, 1, 1, 1, 1, 1, 1, 1, 1, 1, 1, 1, 1, 1, 1, 0, 1, 0, 1, 0, 0, 1] [0, 3, 4, 7, 8] [3, 4, 7, 20, 61, 65, 83, 87, 110, 114], tr [1, 1, 0, 1, 0, 1, 1, 1, 1, 1, 1, 1, 1, 1, 1, 1, 1, 1, 1, 1, 1, 1, 0, 1, 0, 1, 0, 0, 1, 1] [0, 3, 4, 7, 8] [3, 4, 7, 20, 61, 65, 83, 87, 110, 114], tr [1, 1, 0, 1, 0, 1, 1, 1, 1, 1, 1, 1, 1, 1, 1, 1, 1, 1, 1, 1, 1, 1, 0, 1, 1] [3, 4, 7] [3, 4, 7, 20, 61, 65, 83, 87, 110, 114], tr [1, 1, 1] [3, 4] [3, 4, 20, 61, 65, 83, 87, 110, 114]]),
  (19, [tr [1, 1] [0, 1] []]),
  (20, [tr [1, 1, 1, 0, 1, 0, 0, 0, 1, 1] [0, 1, 5, 6, 7] [46], tr [1, 1, 1, 0, 1, 0, 0, 1] [0, 1, 5, 6, 7, 8] [46], tr [1, 1, 1, 0, 1, 0, 0, 1, 0, 0, 1, 1, 1] [0, 1, 5, 6, 7, 8, 9, 10] [46], tr [1, 1, 1, 0, 1, 0, 0, 1, 0, 0, 1, 1, 1, 0, 1, 0] [0, 1, 5, 6, 7] [46], tr [1, 1, 1, 0, 1, 0, 0, 1, 0, 0, 1, 1, 1, 1] [0, 1, 5, 6, 8, 9, 10] [46], tr [1, 1, 1, 0, 1, 0, 0, 1, 1] [0, 1, 5, 6, 7, 8] [46], tr [1, 1, 1, 1] [0, 1, 5, 6, 7] [46], tr [1, 1, 1, 1, 1, 1] [5, 6, 11] [46]]),
  (21, [tr [1, 1, 0, 1, 0, 1, 1, 1, 1, 1, 1, 1, 1, 1, 1, 1, 0, 1, 1, 0, 0, 0, 1, 1] [3, 4] [3, 4, 8, 43, 64], tr [1, 1, 0, 1, 0, 1, 1, 1, 1, 1, 1, 1, 1, 1, 1, 1, 0, 1, 1, 0, 0, 1] [0, 3, 4, 5] [3, 4, 8, 43, 64], tr [1, 1, 0, 1, 0, 1, 1, 1, 1, 1, 1, 1, 1, 1, 1, 1, 0, 1, 1, 0, 0, 1, 1] [0, 3, 4, 5] [3, 4, 8, 43, 64], tr [1, 1, 0, 1, 0, 1, 1, 1, 1, 1, 1, 1, 1, 1, 1, 1, 1, 1] [0, 3, 4, 11, 66] [3, 4, 8, 43, 64], tr [1, 1, 1] [3, 4] [3, 4, 8, 43, 64]]),
  (27, [tr [1, 1, 1] [0] []]),
  (28, [tr [1, 0, 1, 0, 0, 0, 1, 1] [] [], tr [1, 0, 1, 0, 0, 1] [0, 1, 5] [], tr [1, 0, 1, 0, 0, 1, 0, 0, 1, 0, 1] [4] [], tr [1, 0, 1, 0, 0, 1, 1] [0, 1, 5] [], tr [1, 1] [] []]),
  (30, [tr [1, 1] [0, 1, 4] [4], tr [1, 1, 1, 1, 1] [4, 5] [4, 5]]),
  (31, [tr [1, 1, 1, 1, 1, 0, 1, 0, 1, 1, 1, 1, 1, 1, 1, 1, 1, 1, 1, 1, 1, 1, 1, 1, 1, 1, 1] [0, 3, 4, 24, 112] [3, 4, 9, 13, 17, 21, 42, 71, 83, 97, 110, 191], tr [1, 1, 1, 1, 1, 0, 1, 0, 1, 1, 1, 1, 1, 1, 1, 1, 1, 1, 1, 1, 1, 1, 1, 1, 1, 1, 1, 1, 1, 1, 1, 1, 1, 0, 0, 0, 0, 1, 1] [3, 4] [3, 4, 9, 13, 17, 21, 42, 71, 83, 97, 110, 191], tr [1, 1, 1, 1, 1, 0, 1, 0, 1, 1, 1, 1, 1, 1, 1, 1, 1, 1, 1, 1, 1, 1, 1, 1, 1, 1, 1, 1, 1, 1, 1, 1, 1, 0, 0, 0, 1] [0, 3, 4] [3, 4, 9, 13, 17, 21, 42, 71, 83, 97, 110, 191], tr [1, 1, 1, 1, 1, 1] [3, 4] [3, 4, 9, 13, 17, 21, 42, 71, 83, 97, 110, 191]]),
  (47, [tr [1, 1, 1, 1] [0, 2, 3, 4] [2, 63], tr [1, 1, 1, 1, 1, 1, 0, 1, 0, 0, 0, 0, 0, 0, 0, 0, 0, 0, 0, 0, 0, 1, 0] [2, 6] [2, 6, 63], tr [1, 1, 1, 1, 1, 1, 0, 1, 0, 0, 0, 0, 0, 0, 0, 0, 0, 0, 0, 0, 1] [0, 2, 5, 6, 33] [2, 5, 6, 63], tr [1, 1, 1, 1, 1, 1, 0, 1, 0, 0, 0, 0, 0, 0, 0, 0, 0, 0, 0, 0, 1, 0, 1, 0] [0, 2, 5, 6] [2, 5, 6, 63], tr [1, 1, 1, 1, 1, 1, 0, 1, 0, 0, 0, 0, 0, 0, 0, 0, 0, 0, 0, 0, 1, 1] [0, 2, 5, 6, 33] [2, 5, 6, 63], tr [1, 1, 1, 1, 1, 1, 0, 1, 0, 0, 0, 0, 0, 0, 0, 0, 0, 0, 0, 0, 1, 1, 0, 1, 0] [0, 2, 5, 6] [2, 5, 6, 63], tr [1, 1, 1, 1, 1, 1, 0, 1, 0, 0, 0, 0, 0, 0, 0, 0, 0, 0, 0, 0, 1, 1, 1] [0, 2, 5, 6, 33] [2, 5, 6, 63], tr [1, 1, 1, 1, 1, 1, 0, 1, 0, 0, 0, 0, 0, 0, 0, 0, 0, 0, 0, 0, 1, 1, 1, 0, 1, 0] [0, 2, 5, 6] [2, 5, 6, 63], tr [1, 1, 1, 1, 1, 1, 0, 1, 0, 0, 0, 0, 0, 0, 0, 0, 0, 0, 0, 0, 1, 1, 1, 1] [0, 2, 5, 6, 33] [2, 5, 6, 63], tr [1, 1, 1, 1, 1, 1, 0, 1, 0, 0, 0, 0, 0, 0, 0, 0, 0, 0, 0, 0, 1, 1, 1, 1, 1, 0] [0, 2, 5, 6] [2, 5, 6, 63], tr [1, 1, 1, 1, 1, 1, 0, 1, 0, 0, 0, 0, 0, 0, 0, 0, 0, 0, 0, 1] [0, 2, 5, 6] [2, 5, 6, 63], tr [1, 1, 1, 1, 1, 1, 0, 1, 0, 0, 0, 0, 0, 0, 0, 0, 0, 0, 0, 1] [0, 2, 5, 6] [2, 5, 6, 63], tr [1, 1, 1, 1, 1, 1, 0, 1, 0, 0, 0, 0, 0, 0, 0, 0, 0, 1] [2, 6] [2, 6, 63], tr [1, 1, 1, 1, 1, 1, 0, 1, 0, 0, 0, 0, 0, 0, 0, 0, 0, 1, 1] [0, 2, 5, 6] [2, 5, 6, 63], tr [1, 1, 1, 1, 1, 1, 0, 1, 0, 0, 0, 0, 0, 0, 0, 0, 0, 1, 1] [0, 2, 5, 6] [2, 5, 6, 63], tr [1, 1, 1, 1, 1, 1, 0, 1, 0, 0, 0, 0, 0, 0, 0, 1] [0, 2, 5, 6] [2, 5, 6, 63], tr [1, 1, 1, 1, 1, 1, 0, 1, 0, 0, 0, 0, 0, 0, 0, 1, 0, 1, 0, 1, 0, 1, 0, 0, 0, 1, 1] [2, 6] [2, 6, 63], tr [1, 1, 1, 1, 1, 1, 0, 1, 0, 0, 0, 0, 0, 0, 0, 1, 0, 1, 0, 1, 0, 1, 0, 0, 1] [0, 2, 5, 6, 7] [2, 5, 6, 63], tr [1, 1, 1, 1, 1, 1, 0, 1, 0, 0, 0, 0, 0, 0, 0, 1, 0, 1, 0, 1, 0, 1, 0, 0, 1, 1] [0, 2, 5, 6, 7] [2, 5, 6, 63], tr [1, 1, 1, 1, 1, 1, 0, 1, 0, 0, 0, 0, 0, 0, 0, 1, 0, 1, 0, 1, 1] [2, 6] [2, 6, 63], tr [1, 1, 1, 1, 1, 1, 0, 1, 0, 0, 0, 0, 0, 0, 0, 1, 1] [0, 2, 5, 6] [2, 5, 6, 63], tr [1, 1, 1, 1, 1, 1, 0, 1, 0, 0, 0, 0, 0, 0, 0, 1, 1] [0, 2, 5, 6] [2, 5, 6, 63], tr [1, 1, 1, 1, 1, 1, 0, 1, 0, 0, 0, 0, 0, 1] [0, 2, 5, 6] [2, 5, 6, 63], tr [1, 1, 1, 1, 1, 1, 0, 1, 0, 0, 0, 0, 0, 1, 1] [0, 2, 5, 6] [2, 5, 6, 63], tr [1, 1, 1, 1, 1, 1, 0, 1, 0, 0, 0, 0, 0, 1, 1] [0, 2, 5, 6] [2, 5, 6, 63], tr [1, 1, 1, 1, 1, 1, 0, 1, 0, 0, 0, 1] [0, 2, 5, 6] [2, 5, 6, 63], tr [1, 1, 1, 1, 1, 1, 0, 1, 0, 1] [0, 2, 5, 6] [2, 5, 6, 63], tr [1, 1, 1, 1, 1, 1, 0, 1, 0, 1, 1] [0, 2, 5, 6] [2, 5, 6, 63], tr [1, 1, 1, 1, 1, 1, 0, 1, 0, 1, 1] [0, 2, 5, 6] [2, 5, 6, 63], tr [1, 1, 1, 1, 1, 1, 1] [0, 2, 5, 6] [2, 5, 6, 63]]),
  (49, [tr [1, 1, 0, 1, 0, 0, 0, 1, 1] [3] [], tr [1, 1, 0, 1, 0, 0, 1] [1, 3, 4] [1], tr [1, 1, 0, 1, 0, 0, 1, 1] [1, 3, 4] [1], tr [1, 1, 1] [3] []]),
  (55, [tr [1, 1, 1] [0, 1] [8, 56, 75], tr [1, 1, 1, 1, 0, 1, 0, 1, 1, 1, 1, 1, 1, 1, 1, 1, 1, 1, 0, 1, 0, 1, 0, 0, 0, 1, 1] [1] [8, 56, 75], tr [1, 1, 1, 1, 0, 1, 0, 1, 1, 1, 1, 1, 1, 1, 1, 1, 1, 1, 0, 1, 0, 1, 0, 0, 1] [0, 1, 6] [8, 56, 75], tr [1, 1, 1, 1, 0, 1, 0, 1, 1, 1, 1, 1, 1, 1, 1, 1, 1, 1, 0, 1, 0, 1, 0, 0, 1, 1] [0, 1, 6] [8, 56, 75], tr [1, 1, 1, 1, 0, 1, 0, 1, 1, 1, 1, 1, 1, 1, 1, 1, 1, 1, 0, 1, 1] [1] [8, 56, 75], tr [1, 1, 1, 1, 1] [1] [8, 56, 75]]),
  (58, [tr [1, 1] [0, 4] [4, 43]]),
  (61, [tr [1, 1, 1, 0, 1, 0, 0, 0, 1, 1] [4] [25], tr [1, 1, 1, 0, 1, 0, 0, 1] [0, 3, 4, 5] [25], tr [1, 1, 1, 0, 1, 0, 0, 1, 1] [0, 3, 4, 5] [25], tr [1, 1, 1, 1] [4] [25], tr [1, 1, 1, 1, 0, 1, 0, 0, 0, 1, 1] [4] [25], tr [1, 1, 1, 1, 0, 1, 0, 0, 1] [4, 6] [25], tr [1, 1, 1, 1, 0, 1, 0, 0, 1, 0, 0, 1, 0, 1] [2] [25], tr [1, 1, 1, 1, 0, 1, 0, 0, 1, 1] [4, 6] [25], tr [1, 1, 1, 1, 1] [4] [25]]),
  (62, [tr [1, 1, 0, 1, 0, 0, 0, 1, 1] [3] [24], tr [1, 1, 0, 1, 0, 0, 1] [0, 3, 4] [24], tr [1, 1, 0, 1, 0, 0, 1, 1] [0, 3, 4] [24], tr [1, 1, 1] [3] [24]]),
  (63, [tr [1, 1] [3, 4] [3, 4]]),
  (105, [tr [1, 1, 0, 1, 0, 0, 1, 0, 1] [1] [], tr [1, 1, 0, 1, 0, 0, 1, 1] [1, 10, 11, 12] [], tr [1, 1, 0, 1, 0, 0, 1, 1, 0, 0, 1, 0, 1, 0] [1] [], tr [1, 1, 0, 1, 0, 0, 1, 1, 0, 0, 1, 1] [1, 6, 10, 11, 12] [6], tr [1, 1, 0, 1, 0, 0, 1, 1, 1] [1, 10, 11, 12] [], tr [1, 1, 1] [1] []])]
noncomputable def V2 : Env := { P := Tryz.prog, G := globs2, hint := fun f t => ((alook hints2 f).bind fun l => alook l t).getD {}, trim := fun f p => (alook trims2 f).bind fun l => trGet l p }
theorem globs_sub : ∀ g cs, globs g = some cs → globs2 g = some cs := by
  intro g cs h
  have h0 : ∀ g, g = 0 ∨ g = 1 ∨ g = 2 → globs g = none := fun g hg => by rcases hg with rfl | rfl | rfl <;> rfl
  unfold globs2
  by_cases e0 : g = 0
  · rw [h0 g (.inl e0)] at h; cases h
  by_cases e1 : g = 1
  · rw [h0 g (.inr (.inl e1))] at h; cases h
  by_cases e2 : g = 2
  · rw [h0 g (.inr (.inr e2))] at h; cases h
  rw [beqF e0, beqF e1, beqF e2]; exact h
theorem Ct.more {P : Program} {G G' : Nat → Option (List AV)} (hs : ∀ g cs, G g = some cs → G' g = some cs) {f : FuncId} {l : List AV} {os : List AO} {r : AV × List AO} (h : Ct P G f l os r) : Ct P G' f l os r := by
  refine ⟨fun c0 vs hg ho h1 h2 h3 => (h.1 c0 vs ⟨hg.there, fun g cs e => hg.globs g cs (hs g cs e)⟩ ho h1 h2 h3).mono ?_, h.2⟩
  rintro e w' ⟨c', x, e1, e2, e3, e4, e5, e6, e7, e8⟩
  exact ⟨c', x, e1, e2, ⟨e3.there, fun g cs e => (hg.globs g cs e).ext e4.ext (by simp [AV.keys])⟩, ⟨e4.os, e4.output, e4.tape, e4.size, e4.block, e4.ext, e4.new⟩, e5, e6, e7, e8⟩
theorem Ct.v2 {f : FuncId} {l : List AV} {os : List AO} {r : AV × List AO} (h : Ct V.P V.G f l os r) : Ct V2.P V2.G f l os r := Ct.more globs_sub h
theorem mixed2 : V2.P.follows .mixedOrders = true := mixed
theorem funcs2 : FuncsOk V2.P := funcs
end Go.SH

namespace Go.Ab
open Go
section
variable {α τ : Type} [Inhabited τ]
open Classical in
theorem ent_ex {V : Env} {f : FuncId} {A : α → List AV} {O : α → List AO} {Pre : α → Prop} {φ : τ → AV × List AO} {Post : α → τ → Prop} (h : ∀ a, Pre a → ∃ x, Post a x ∧ Ct V.P V.G f (A a) (O a) (φ x)) :
    ∃ w : α → τ, (∀ a, Pre a → Post a (w a)) ∧ ∀ l os, (entC f A O Pre w φ).pre l os = true → Ct V.P V.G (entC f A O Pre w φ).f l os ((entC f A O Pre w φ).ans l os) := by
  refine ⟨fun a => if ha : Pre a then (h a ha).choose else default, fun a ha => ?_, entC_ok fun a ha => ?_⟩
  · simp only [ha, dif_pos]; exact (h a ha).choose_spec.1
  · simp only [ha, dif_pos]; exact (h a ha).choose_spec.2
theorem valA_post {A : α → List AV} {O : α → List AO} {Pre : α → Prop} {w : α → τ} {Post : α → τ → Prop} (hw : ∀ a, Pre a → Post a (w a)) (hi : ∀ a b x, A a = A b → O a = O b → Post a x → Post b x) {a : α} (h : Pre a) : Post a (valA A O Pre w (A a) (O a)) := by
  have hx : ∃ u, Pre u ∧ A u = A a ∧ O u = O a := ⟨a, h, rfl, rfl⟩
  unfold valA
  rw [dif_pos hx]
  exact hi _ _ _ hx.choose_spec.2.1 hx.choose_spec.2.2 (hw _ hx.choose_spec.1)
theorem valS_post {S : α → St} {Inv : α → Prop} {w : α → τ} {Post : α → τ → Prop} (hw : ∀ a, Inv a → Post a (w a)) (hi : ∀ a b x, S a = S b → Post a x → Post b x) {a : α} (h : Inv a) : Post a (valS S Inv w (S a)) := by
  have hx : ∃ u, Inv u ∧ S u = S a := ⟨a, h, rfl⟩
  unfold valS
  rw [dif_pos hx]
  exact hi _ _ _ hx.choose_spec.2 (hw _ hx.choose_spec.1)
open Classical in
theorem loop_ex {ι : Type} {Xf : ι → Cfg} {f : FuncId} {p : List Nat} {b : Code} (S : α → St) (Inv : α → Prop) (μ : α → Nat) (out : τ → (Ex → St → Res) → Res) (Post : α → τ → Prop) (hb : ∀ i, subC (bodyOf (Xf i).P f) p = .loop b) (n : Nat)
    (round : ∀ v, Inv v → (∃ o, Post v o ∧ ∀ (i : ι) (k : Ex → St → Res) (kn : St → Res), roundR (Xf i) f n p (S v) kn k = out o k) ∨
      ∃ v', Inv v' ∧ μ v' < μ v ∧ (∀ o, Post v' o → Post v o) ∧ ∀ (i : ι) (k : Ex → St → Res) (kn : St → Res), roundR (Xf i) f n p (S v) kn k = kn (S v')) :
    ∃ w : α → τ, (∀ v, Inv v → Post v (w v)) ∧ ∀ i, LoopOk (Xf i) f p (mkO (goodS S Inv) (valS S Inv w) out) := by
  let F : (v : α) → ((v' : α) → μ v' < μ v → τ) → τ := fun v rec =>
    if hi : Inv v then
      if h1 : ∃ o, Post v o ∧ ∀ (i : ι) (k : Ex → St → Res) (kn : St → Res), roundR (Xf i) f n p (S v) kn k = out o k then h1.choose
      else if h2 : ∃ v', Inv v' ∧ μ v' < μ v ∧ (∀ o, Post v' o → Post v o) ∧ ∀ (i : ι) (k : Ex → St → Res) (kn : St → Res), roundR (Xf i) f n p (S v) kn k = kn (S v') then rec h2.choose h2.choose_spec.2.1
      else default
    else default
  let w : α → τ := WellFounded.fix (measure μ).wf F
  have hw : ∀ v, w v = F v fun v' _ => w v' := fun v => WellFounded.fix_eq (measure μ).wf F v
  have hpost : ∀ (m : Nat) (v : α), μ v ≤ m → Inv v → Post v (w v) := by
    intro m
    induction m with
    | zero =>
      intro v hm hi
      rw [hw]
      simp only [F]
      rw [dif_pos hi]
      by_cases h1 : ∃ o, Post v o ∧ ∀ (i : ι) (k : Ex → St → Res) (kn : St → Res), roundR (Xf i) f n p (S v) kn k = out o k
      · rw [dif_pos h1]; exact h1.choose_spec.1
      · obtain ⟨v', _, h, _⟩ := (round v hi).resolve_left h1
        omega
    | succ m ih =>
      intro v hm hi
      rw [hw]
      simp only [F]
      rw [dif_pos hi]
      by_cases h1 : ∃ o, Post v o ∧ ∀ (i : ι) (k : Ex → St → Res) (kn : St → Res), roundR (Xf i) f n p (S v) kn k = out o k
      · rw [dif_pos h1]; exact h1.choose_spec.1
      · have h2 := (round v hi).resolve_left h1
        rw [dif_neg h1, dif_pos h2]
        have := h2.choose_spec
        exact this.2.2.1 _ (ih _ (by omega) this.1)
  refine ⟨w, fun v hi => hpost _ v (Nat.le_refl _) hi, fun i => ?_⟩
  refine loopOk_of S Inv μ w out (hb i) n fun v hi k kn hk => ?_
  rw [hw]
  simp only [F]
  rw [dif_pos hi]
  by_cases h1 : ∃ o, Post v o ∧ ∀ (i : ι) (k : Ex → St → Res) (kn : St → Res), roundR (Xf i) f n p (S v) kn k = out o k
  · rw [dif_pos h1]; exact h1.choose_spec.2 i k kn
  · have h2 := (round v hi).resolve_left h1
    rw [dif_neg h1, dif_pos h2]
    have := h2.choose_spec
    rw [this.2.2.2 i k kn]
    exact hk _ this.1 this.2.1
end
section
variable {τ : Type}
noncomputable def entK (f : FuncId) (A : List AV) (O : List AO) (x : τ) (φ : τ → AV × List AO) : Ent := mkE f (goodA (fun _ : Unit => A) (fun _ => O) (fun _ => True)) (fun _ _ => x) φ
open Classical in
theorem entK_ok {V : Env} {f : FuncId} {A : List AV} {O : List AO} {x : τ} {φ : τ → AV × List AO} (h : Ct V.P V.G f A O (φ x)) : ∀ l os, (entK f A O x φ).pre l os = true → Ct V.P V.G (entK f A O x φ).f l os ((entK f A O x φ).ans l os) := by
  intro l os hp
  obtain ⟨_, _, h1, h2⟩ : ∃ v : Unit, True ∧ A = l ∧ O = os := of_decide_eq_true hp
  subst h1 h2
  exact h
theorem gK_eq (A : List AV) (O : List AO) : goodA (fun _ : Unit => A) (fun _ => O) (fun _ => True) A O = true := goodA_eq (A := fun _ : Unit => A) (O := fun _ => O) (v := ()) trivial
end
end Go.Ab

namespace Go.SH
open Go Go.Ab Go.Proofs
set_option linter.unusedVariables false
set_option linter.unusedSimpArgs false
structure CODES where
  n : Nat
  g : Nat → Int
  at' : Nat
def CODES.c (C : CODES) : List AV := [.sl .no 1 C.n fun j => [.int .u8 (C.g j)], .int .i64 C.at']
def codO (C : CODES) : AO := .cells C.c
def φX (x : Int × CODES) : AV × List AO := (.int .i64 x.1, [codO x.2])
def φT (x : List UInt8 × CODES) : AV × List AO := (.str x.1, [codO x.2])
def φV (x : VAL × CODES) : AV × List AO := (.agg x.1.c, [codO x.2])
set_option maxRecDepth 100000 in
theorem next_m (C : CODES) (m : Int)  : runF (V2.run [] 3 [] [] [] 19) 9 19 [.ref keyBase 0, .int .i64 m] [codO C] =
  cond (!decide ((↑(CODES.at' C) : Int) < (↑(CODES.n C) : Int))) (some ((.int .i64 0, [codO C]))) (cond (within (IntKind.wrap IntKind.i64 (IntKind.wrap IntKind.i64 ((↑(CODES.at' C) : Int) + 1) - 1)) (CODES.n C)) (cond (m != 0) (some ((.int .i64 (Int.tmod (IntKind.wrap IntKind.i64 (CODES.g C (Int.toNat (IntKind.wrap IntKind.i64 (IntKind.wrap IntKind.i64 ((↑(CODES.at' C) : Int) + 1) - 1))))) m), [.cells [.sl .no 1 (CODES.n C) fun j => [.int .u8 (CODES.g C j)], .int .i64 (IntKind.wrap IntKind.i64 ((↑(CODES.at' C) : Int) + 1))] ]))) (none)) (none)) := by kernel_rfl
set_option maxRecDepth 100000 in
theorem text_0 (ge : List AV → List AO → Bool) (C D : CODES)  : runF (V2.run [mkE 19 ge (fun _ _ => (0, D)) φX] 3 [] [] [] 59) 9 59 [.ref keyBase 0] [codO C] =
  cond (ge [.ref 1000000 0, .int .i64 11] [codO C]) (some ((.str [115, 101], [codO D]))) (none) := by kernel_rfl
set_option maxRecDepth 100000 in
theorem text_1 (ge : List AV → List AO → Bool) (C D : CODES)  : runF (V2.run [mkE 19 ge (fun _ _ => (1, D)) φX] 3 [] [] [] 59) 9 59 [.ref keyBase 0] [codO C] =
  cond (ge [.ref 1000000 0, .int .i64 11] [codO C]) (some ((.str [100, 101], [codO D]))) (none) := by kernel_rfl
set_option maxRecDepth 100000 in
theorem text_2 (ge : List AV → List AO → Bool) (C D : CODES)  : runF (V2.run [mkE 19 ge (fun _ _ => (2, D)) φX] 3 [] [] [] 59) 9 59 [.ref keyBase 0] [codO C] =
  cond (ge [.ref 1000000 0, .int .i64 11] [codO C]) (some ((.str [117, 115], [codO D]))) (none) := by kernel_rfl
set_option maxRecDepth 100000 in
theorem text_3 (ge : List AV → List AO → Bool) (C D : CODES)  : runF (V2.run [mkE 19 ge (fun _ _ => (3, D)) φX] 3 [] [] [] 59) 9 59 [.ref keyBase 0] [codO C] =
  cond (ge [.ref 1000000 0, .int .i64 11] [codO C]) (some ((.str [112, 114, 111], [codO D]))) (none) := by kernel_rfl
set_option maxRecDepth 100000 in
theorem text_4 (ge : List AV → List AO → Bool) (C D : CODES)  : runF (V2.run [mkE 19 ge (fun _ _ => (4, D)) φX] 3 [] [] [] 59) 9 59 [.ref keyBase 0] [codO C] =
  cond (ge [.ref 1000000 0, .int .i64 11] [codO C]) (some ((.str [102, 114, 101, 101], [codO D]))) (none) := by kernel_rfl
set_option maxRecDepth 100000 in
theorem text_5 (ge : List AV → List AO → Bool) (C D : CODES)  : runF (V2.run [mkE 19 ge (fun _ _ => (5, D)) φX] 3 [] [] [] 59) 9 59 [.ref keyBase 0] [codO C] =
  cond (ge [.ref 1000000 0, .int .i64 11] [codO C]) (some ((.str [], [codO D]))) (none) := by kernel_rfl
set_option maxRecDepth 100000 in
theorem text_6 (ge : List AV → List AO → Bool) (C D : CODES)  : runF (V2.run [mkE 19 ge (fun _ _ => (6, D)) φX] 3 [] [] [] 59) 9 59 [.ref keyBase 0] [codO C] =
  cond (ge [.ref 1000000 0, .int .i64 11] [codO C]) (some ((.str [97, 34, 98], [codO D]))) (none) := by kernel_rfl
set_option maxRecDepth 100000 in
theorem text_7 (ge : List AV → List AO → Bool) (C D : CODES)  : runF (V2.run [mkE 19 ge (fun _ _ => (7, D)) φX] 3 [] [] [] 59) 9 59 [.ref keyBase 0] [codO C] =
  cond (ge [.ref 1000000 0, .int .i64 11] [codO C]) (some ((.str [99, 92], [codO D]))) (none) := by kernel_rfl
set_option maxRecDepth 100000 in
theorem text_8 (ge : List AV → List AO → Bool) (C D : CODES)  : runF (V2.run [mkE 19 ge (fun _ _ => (8, D)) φX] 3 [] [] [] 59) 9 59 [.ref keyBase 0] [codO C] =
  cond (ge [.ref 1000000 0, .int .i64 11] [codO C]) (some ((.str [195, 169], [codO D]))) (none) := by kernel_rfl
set_option maxRecDepth 100000 in
theorem text_9 (ge : List AV → List AO → Bool) (C D : CODES)  : runF (V2.run [mkE 19 ge (fun _ _ => (9, D)) φX] 3 [] [] [] 59) 9 59 [.ref keyBase 0] [codO C] =
  cond (ge [.ref 1000000 0, .int .i64 11] [codO C]) (some ((.str [112, 114, 111, 115, 101], [codO D]))) (none) := by kernel_rfl
set_option maxRecDepth 100000 in
theorem text_10 (ge : List AV → List AO → Bool) (C D : CODES)  : runF (V2.run [mkE 19 ge (fun _ _ => (10, D)) φX] 3 [] [] [] 59) 9 59 [.ref keyBase 0] [codO C] =
  cond (ge [.ref 1000000 0, .int .i64 11] [codO C]) (some ((.str [120, 32, 121], [codO D]))) (none) := by kernel_rfl
set_option maxRecDepth 100000 in
theorem value_1 (ge : List AV → List AO → Bool) (ve : List AV → List AO → Int × CODES) (gt : List AV → List AO → Bool) (vt : List AV → List AO → List UInt8 × CODES) (C : CODES) {t1 : Int × CODES} (h_t1 : ve [.ref 1000000 0, .int .i64 2] [codO C] = t1) : runF (V2.run [mkE 19 ge ve φX, mkE 59 gt vt φT] 3 [] [] [] 58) 9 58 [.ref keyBase 0, .int .i64 1] [codO C] =
  cond (ge [.ref 1000000 0, .int .i64 2] [codO C]) (some ((.agg [.int .i64 1, .int .i64 (Prod.fst t1), .str [], .sl .fit 0 0 fun x => [] ], [codO (Prod.snd t1)]))) (none) := by subst h_t1; kernel_rfl
set_option maxRecDepth 100000 in
theorem value_3 (ge : List AV → List AO → Bool) (ve : List AV → List AO → Int × CODES) (gt : List AV → List AO → Bool) (vt : List AV → List AO → List UInt8 × CODES) (C : CODES) {t1 : List UInt8 × CODES} (h_t1 : vt [.ref 1000000 0] [codO C] = t1) : runF (V2.run [mkE 19 ge ve φX, mkE 59 gt vt φT] 3 [] [] [] 58) 9 58 [.ref keyBase 0, .int .i64 3] [codO C] =
  cond (gt [.ref 1000000 0] [codO C]) (some ((.agg [.int .i64 3, .int .i64 0, .str (Prod.fst t1), .sl .fit 0 0 fun x => [] ], [codO (Prod.snd t1)]))) (none) := by subst h_t1; kernel_rfl
set_option maxRecDepth 100000 in
theorem value_2_0 (ge : List AV → List AO → Bool) (gt : List AV → List AO → Bool) (vt : List AV → List AO → List UInt8 × CODES) (C D : CODES)  : runF (V2.run [mkE 19 ge (fun _ _ => (0, D)) φX, mkE 59 gt vt φT] 3 [] [] [] 58) 9 58 [.ref keyBase 0, .int .i64 2] [codO C] =
  cond (ge [.ref 1000000 0, .int .i64 (↑9 : Int)] [codO C]) (some ((.agg [.int .i64 2, .int .i64 0, .str [], .sl .fit 0 0 fun x => [] ], [codO D]))) (none) := by kernel_rfl
set_option maxRecDepth 100000 in
theorem value_2_1 (ge : List AV → List AO → Bool) (gt : List AV → List AO → Bool) (vt : List AV → List AO → List UInt8 × CODES) (C D : CODES)  : runF (V2.run [mkE 19 ge (fun _ _ => (1, D)) φX, mkE 59 gt vt φT] 3 [] [] [] 58) 9 58 [.ref keyBase 0, .int .i64 2] [codO C] =
  cond (ge [.ref 1000000 0, .int .i64 (↑9 : Int)] [codO C]) (some ((.agg [.int .i64 2, .int .i64 1, .str [], .sl .fit 0 0 fun x => [] ], [codO D]))) (none) := by kernel_rfl
set_option maxRecDepth 100000 in
theorem value_2_2 (ge : List AV → List AO → Bool) (gt : List AV → List AO → Bool) (vt : List AV → List AO → List UInt8 × CODES) (C D : CODES)  : runF (V2.run [mkE 19 ge (fun _ _ => (2, D)) φX, mkE 59 gt vt φT] 3 [] [] [] 58) 9 58 [.ref keyBase 0, .int .i64 2] [codO C] =
  cond (ge [.ref 1000000 0, .int .i64 (↑9 : Int)] [codO C]) (some ((.agg [.int .i64 2, .int .i64 17, .str [], .sl .fit 0 0 fun x => [] ], [codO D]))) (none) := by kernel_rfl
set_option maxRecDepth 100000 in
theorem value_2_3 (ge : List AV → List AO → Bool) (gt : List AV → List AO → Bool) (vt : List AV → List AO → List UInt8 × CODES) (C D : CODES)  : runF (V2.run [mkE 19 ge (fun _ _ => (3, D)) φX, mkE 59 gt vt φT] 3 [] [] [] 58) 9 58 [.ref keyBase 0, .int .i64 2] [codO C] =
  cond (ge [.ref 1000000 0, .int .i64 (↑9 : Int)] [codO C]) (some ((.agg [.int .i64 2, .int .i64 18, .str [], .sl .fit 0 0 fun x => [] ], [codO D]))) (none) := by kernel_rfl
set_option maxRecDepth 100000 in
theorem value_2_4 (ge : List AV → List AO → Bool) (gt : List AV → List AO → Bool) (vt : List AV → List AO → List UInt8 × CODES) (C D : CODES)  : runF (V2.run [mkE 19 ge (fun _ _ => (4, D)) φX, mkE 59 gt vt φT] 3 [] [] [] 58) 9 58 [.ref keyBase 0, .int .i64 2] [codO C] =
  cond (ge [.ref 1000000 0, .int .i64 (↑9 : Int)] [codO C]) (some ((.agg [.int .i64 2, .int .i64 19, .str [], .sl .fit 0 0 fun x => [] ], [codO D]))) (none) := by kernel_rfl
set_option maxRecDepth 100000 in
theorem value_2_5 (ge : List AV → List AO → Bool) (gt : List AV → List AO → Bool) (vt : List AV → List AO → List UInt8 × CODES) (C D : CODES)  : runF (V2.run [mkE 19 ge (fun _ _ => (5, D)) φX, mkE 59 gt vt φT] 3 [] [] [] 58) 9 58 [.ref keyBase 0, .int .i64 2] [codO C] =
  cond (ge [.ref 1000000 0, .int .i64 (↑9 : Int)] [codO C]) (some ((.agg [.int .i64 2, .int .i64 (-5), .str [], .sl .fit 0 0 fun x => [] ], [codO D]))) (none) := by kernel_rfl
set_option maxRecDepth 100000 in
theorem value_2_6 (ge : List AV → List AO → Bool) (gt : List AV → List AO → Bool) (vt : List AV → List AO → List UInt8 × CODES) (C D : CODES)  : runF (V2.run [mkE 19 ge (fun _ _ => (6, D)) φX, mkE 59 gt vt φT] 3 [] [] [] 58) 9 58 [.ref keyBase 0, .int .i64 2] [codO C] =
  cond (ge [.ref 1000000 0, .int .i64 (↑9 : Int)] [codO C]) (some ((.agg [.int .i64 2, .int .i64 64, .str [], .sl .fit 0 0 fun x => [] ], [codO D]))) (none) := by kernel_rfl
set_option maxRecDepth 100000 in
theorem value_2_7 (ge : List AV → List AO → Bool) (gt : List AV → List AO → Bool) (vt : List AV → List AO → List UInt8 × CODES) (C D : CODES)  : runF (V2.run [mkE 19 ge (fun _ _ => (7, D)) φX, mkE 59 gt vt φT] 3 [] [] [] 58) 9 58 [.ref keyBase 0, .int .i64 2] [codO C] =
  cond (ge [.ref 1000000 0, .int .i64 (↑9 : Int)] [codO C]) (some ((.agg [.int .i64 2, .int .i64 1099511627776, .str [], .sl .fit 0 0 fun x => [] ], [codO D]))) (none) := by kernel_rfl
set_option maxRecDepth 100000 in
theorem value_2_8 (ge : List AV → List AO → Bool) (gt : List AV → List AO → Bool) (vt : List AV → List AO → List UInt8 × CODES) (C D : CODES)  : runF (V2.run [mkE 19 ge (fun _ _ => (8, D)) φX, mkE 59 gt vt φT] 3 [] [] [] 58) 9 58 [.ref keyBase 0, .int .i64 2] [codO C] =
  cond (ge [.ref 1000000 0, .int .i64 (↑9 : Int)] [codO C]) (some ((.agg [.int .i64 2, .int .i64 (-1099511627776), .str [], .sl .fit 0 0 fun x => [] ], [codO D]))) (none) := by kernel_rfl
set_option maxRecDepth 100000 in
theorem value_4_0 (ge : List AV → List AO → Bool) (gt : List AV → List AO → Bool) (vt : List AV → List AO → List UInt8 × CODES) (C D : CODES)  : runF (V2.run [mkE 19 ge (fun _ _ => (0, D)) φX, mkE 59 gt vt φT] 3 [] [] [] 58) 9 58 [.ref keyBase 0, .int .i64 4] [codO C] =
  cond (ge [.ref 1000000 0, .int .i64 6] [codO C]) (some ((.agg [.int .i64 4, .int .i64 0, .str [49, 46, 48, 46, 48], .sl .fit 0 0 fun x => [] ], [codO D]))) (none) := by kernel_rfl
set_option maxRecDepth 100000 in
theorem value_4_1 (ge : List AV → List AO → Bool) (gt : List AV → List AO → Bool) (vt : List AV → List AO → List UInt8 × CODES) (C D : CODES)  : runF (V2.run [mkE 19 ge (fun _ _ => (1, D)) φX, mkE 59 gt vt φT] 3 [] [] [] 58) 9 58 [.ref keyBase 0, .int .i64 4] [codO C] =
  cond (ge [.ref 1000000 0, .int .i64 6] [codO C]) (some ((.agg [.int .i64 4, .int .i64 0, .str [49, 46, 50, 46, 51], .sl .fit 0 0 fun x => [] ], [codO D]))) (none) := by kernel_rfl
set_option maxRecDepth 100000 in
theorem value_4_2 (ge : List AV → List AO → Bool) (gt : List AV → List AO → Bool) (vt : List AV → List AO → List UInt8 × CODES) (C D : CODES)  : runF (V2.run [mkE 19 ge (fun _ _ => (2, D)) φX, mkE 59 gt vt φT] 3 [] [] [] 58) 9 58 [.ref keyBase 0, .int .i64 4] [codO C] =
  cond (ge [.ref 1000000 0, .int .i64 6] [codO C]) (some ((.agg [.int .i64 4, .int .i64 0, .str [49, 46, 49, 48, 46, 48], .sl .fit 0 0 fun x => [] ], [codO D]))) (none) := by kernel_rfl
set_option maxRecDepth 100000 in
theorem value_4_3 (ge : List AV → List AO → Bool) (gt : List AV → List AO → Bool) (vt : List AV → List AO → List UInt8 × CODES) (C D : CODES)  : runF (V2.run [mkE 19 ge (fun _ _ => (3, D)) φX, mkE 59 gt vt φT] 3 [] [] [] 58) 9 58 [.ref keyBase 0, .int .i64 4] [codO C] =
  cond (ge [.ref 1000000 0, .int .i64 6] [codO C]) (some ((.agg [.int .i64 4, .int .i64 0, .str [50, 46, 48, 46, 49], .sl .fit 0 0 fun x => [] ], [codO D]))) (none) := by kernel_rfl
set_option maxRecDepth 100000 in
theorem value_4_4 (ge : List AV → List AO → Bool) (gt : List AV → List AO → Bool) (vt : List AV → List AO → List UInt8 × CODES) (C D : CODES)  : runF (V2.run [mkE 19 ge (fun _ _ => (4, D)) φX, mkE 59 gt vt φT] 3 [] [] [] 58) 9 58 [.ref keyBase 0, .int .i64 4] [codO C] =
  cond (ge [.ref 1000000 0, .int .i64 6] [codO C]) (some ((.agg [.int .i64 4, .int .i64 0, .str [48, 46, 48, 46, 48], .sl .fit 0 0 fun x => [] ], [codO D]))) (none) := by kernel_rfl
set_option maxRecDepth 100000 in
theorem value_4_5 (ge : List AV → List AO → Bool) (gt : List AV → List AO → Bool) (vt : List AV → List AO → List UInt8 × CODES) (C D : CODES)  : runF (V2.run [mkE 19 ge (fun _ _ => (5, D)) φX, mkE 59 gt vt φT] 3 [] [] [] 58) 9 58 [.ref keyBase 0, .int .i64 4] [codO C] =
  cond (ge [.ref 1000000 0, .int .i64 6] [codO C]) (some ((.agg [.int .i64 4, .int .i64 0, .str [57, 57, 57, 57, 57, 57, 46, 48, 46, 57, 57, 57, 57, 57, 57], .sl .fit 0 0 fun x => [] ], [codO D]))) (none) := by kernel_rfl
set_option maxRecDepth 100000 in
theorem value_5_0 (ge : List AV → List AO → Bool) (gt : List AV → List AO → Bool) (vt : List AV → List AO → List UInt8 × CODES) (C D : CODES)  : runF (V2.run [mkE 19 ge (fun _ _ => (0, D)) φX, mkE 59 gt vt φT] 3 [] [] [] 58) 9 58 [.ref keyBase 0, .int .i64 5] [codO C] =
  cond (ge [.ref 1000000 0, .int .i64 5] [codO C]) (some ((.agg [.int .i64 5, .int .i64 0, .str [], .sl .no 1 0 (appGet 0 (List.length (tcells.tstrs [])) (fun x => []) fun j => [.str (List.getD (tcells.tstrs []) j [])])], [codO D]))) (none) := by kernel_rfl
set_option maxRecDepth 100000 in
theorem value_5_1 (ge : List AV → List AO → Bool) (gt : List AV → List AO → Bool) (vt : List AV → List AO → List UInt8 × CODES) (C D : CODES)  : runF (V2.run [mkE 19 ge (fun _ _ => (1, D)) φX, mkE 59 gt vt φT] 3 [] [] [] 58) 9 58 [.ref keyBase 0, .int .i64 5] [codO C] =
  cond (ge [.ref 1000000 0, .int .i64 5] [codO C]) (some ((.agg [.int .i64 5, .int .i64 0, .str [], .sl .no 1 1 (appGet 0 (List.length (tcells.tstrs [DataW.lit (Lit.string [112, 114, 111])])) (fun x => []) fun j => [.str (List.getD (tcells.tstrs [DataW.lit (Lit.string [112, 114, 111])]) j [])])], [codO D]))) (none) := by kernel_rfl
set_option maxRecDepth 100000 in
theorem value_5_2 (ge : List AV → List AO → Bool) (gt : List AV → List AO → Bool) (vt : List AV → List AO → List UInt8 × CODES) (C D : CODES)  : runF (V2.run [mkE 19 ge (fun _ _ => (2, D)) φX, mkE 59 gt vt φT] 3 [] [] [] 58) 9 58 [.ref keyBase 0, .int .i64 5] [codO C] =
  cond (ge [.ref 1000000 0, .int .i64 5] [codO C]) (some ((.agg [.int .i64 5, .int .i64 0, .str [], .sl .no 1 2 (appGet 0 (List.length (tcells.tstrs [DataW.lit (Lit.string [100, 101]), DataW.lit (Lit.string [115, 101])])) (fun x => []) fun j => [.str (List.getD (tcells.tstrs [DataW.lit (Lit.string [100, 101]), DataW.lit (Lit.string [115, 101])]) j [])])], [codO D]))) (none) := by kernel_rfl
set_option maxRecDepth 100000 in
theorem value_5_3 (ge : List AV → List AO → Bool) (gt : List AV → List AO → Bool) (vt : List AV → List AO → List UInt8 × CODES) (C D : CODES)  : runF (V2.run [mkE 19 ge (fun _ _ => (3, D)) φX, mkE 59 gt vt φT] 3 [] [] [] 58) 9 58 [.ref keyBase 0, .int .i64 5] [codO C] =
  cond (ge [.ref 1000000 0, .int .i64 5] [codO C]) (some ((.agg [.int .i64 5, .int .i64 0, .str [], .sl .no 1 3 (appGet 0 (List.length (tcells.tstrs [DataW.lit (Lit.string []), DataW.lit (Lit.string [102, 114, 101, 101]), DataW.lit (Lit.string [117, 115])])) (fun x => []) fun j => [.str (List.getD (tcells.tstrs [DataW.lit (Lit.string []), DataW.lit (Lit.string [102, 114, 101, 101]), DataW.lit (Lit.string [117, 115])]) j [])])], [codO D]))) (none) := by kernel_rfl
set_option maxRecDepth 100000 in
theorem value_5_4 (ge : List AV → List AO → Bool) (gt : List AV → List AO → Bool) (vt : List AV → List AO → List UInt8 × CODES) (C D : CODES)  : runF (V2.run [mkE 19 ge (fun _ _ => (4, D)) φX, mkE 59 gt vt φT] 3 [] [] [] 58) 9 58 [.ref keyBase 0, .int .i64 5] [codO C] =
  cond (ge [.ref 1000000 0, .int .i64 5] [codO C]) (some ((.agg [.int .i64 5, .int .i64 0, .str [], .sl .no 1 1 (appGet 0 (List.length (tcells.tstrs [DataW.lit (Lit.string [120, 32, 121])])) (fun x => []) fun j => [.str (List.getD (tcells.tstrs [DataW.lit (Lit.string [120, 32, 121])]) j [])])], [codO D]))) (none) := by kernel_rfl
end Go.SH

namespace Go.SH
open Go Go.Ab Go.Proofs
set_option linter.unusedVariables false
set_option linter.unusedSimpArgs false
def CODES.Ok (C : CODES) : Prop := C.at' ≤ C.n ∧ C.n ≤ 4611686018427387904 ∧ ∀ j, j < C.n → 0 ≤ C.g j ∧ C.g j < 256
instance : Inhabited CODES := ⟨⟨0, fun _ => 0, 0⟩⟩
theorem CODES.c_inj {a b : CODES} (h : a.c = b.c) : a = b := by
  obtain ⟨n, g, p⟩ := a
  obtain ⟨n', g', p'⟩ := b
  simp only [CODES.c, List.cons.injEq, AV.sl.injEq, AV.int.injEq, true_and, and_true] at h
  obtain ⟨⟨rfl, h2⟩, h3⟩ := h
  have hg : g = g' := funext fun j => by
    have := congrFun h2 j
    simpa using this
  have hp : p = p' := by omega
  rw [hg, hp]
def nextR (C : CODES) (m : Int) : Int × CODES := bif decide (C.at' < C.n) then (Int.tmod (C.g C.at') m, { C with at' := C.at' + 1 }) else (0, C)
theorem nextR_ok {C : CODES} (h : C.Ok) {m : Int} (hm : 1 ≤ m) : 0 ≤ (nextR C m).1 ∧ (nextR C m).1 < m ∧ (nextR C m).2.Ok := by
  unfold nextR
  by_cases hc : C.at' < C.n
  · rw [decide_eq_true hc]
    have hg := h.2.2 _ hc
    refine ⟨Int.tmod_nonneg _ hg.1, Int.tmod_lt_of_pos _ (by omega), ?_, h.2.1, h.2.2⟩
    show C.at' + 1 ≤ C.n; omega
  · rw [decide_eq_false hc]
    exact ⟨Int.le_refl _, by show (0 : Int) < m; omega, h⟩
theorem next_ok (C : CODES) (h : C.Ok) (m : Int) (hm : 1 ≤ m) : Ct V2.P V2.G 19 [.ref keyBase 0, .int .i64 m] [codO C] (φX (nextR C m)) := by
  have h2 := h.2.1
  refine ct_loops (n := 9) (d := 3) (T := []) (L := []) mixed2 funcs2 tabOk_nil loopsOk_nil ((next_m C m).trans ?_)
  by_cases hc : C.at' < C.n
  · have hg := h.2.2 _ hc
    have w1 : IntKind.wrap .i64 ((C.at' : Int) + 1) = ((C.at' + 1 : Nat) : Int) := by rw [wrap_i64 (by omega) (by omega)]; rfl
    have w2 : IntKind.wrap .i64 (((C.at' + 1 : Nat) : Int) - 1) = (C.at' : Int) := by rw [wrap_i64 (by omega) (by omega)]; omega
    have w3 : IntKind.wrap .i64 (C.g C.at') = C.g C.at' := wrap_i64 (by omega) (by omega)
    rw [lt_true hc, w1, w2, within_lt hc, Int.toNat_natCast, w3, show (m != 0) = true by simp; omega]
    unfold nextR
    rw [decide_eq_true hc]; rfl
  · rw [lt_false hc]
    unfold nextR
    rw [decide_eq_false hc]; rfl
def nA (x : CODES × Int) : List AV := [.ref keyBase 0, .int .i64 x.2]
def nO (x : CODES × Int) : List AO := [codO x.1]
def nP (x : CODES × Int) : Prop := x.1.Ok ∧ 1 ≤ x.2
def nW (x : CODES × Int) : Int × CODES := nextR x.1 x.2
theorem codO_inj {a b : CODES} (h : codO a = codO b) : a = b := by
  unfold codO at h
  simp only [AO.cells.injEq] at h
  exact CODES.c_inj h
theorem nInj (a b : CODES × Int) (h : nA a = nA b) (h' : nO a = nO b) : nW a = nW b := by
  obtain ⟨C, m⟩ := a
  obtain ⟨C', m'⟩ := b
  simp only [nA, nO, List.cons.injEq, AV.int.injEq, true_and, and_true] at h h'
  have h2 := codO_inj h'
  subst h2 h; rfl
noncomputable abbrev gN : List AV → List AO → Bool := goodA nA nO nP
noncomputable abbrev vN : List AV → List AO → Int × CODES := valA nA nO nP nW
theorem gN_eq {C : CODES} (h : C.Ok) {m : Int} (hm : 1 ≤ m) : gN [.ref 1000000 0, .int .i64 m] [codO C] = true := goodA_eq (A := nA) (O := nO) (v := (C, m)) ⟨h, hm⟩
theorem vN_eq {C : CODES} (h : C.Ok) {m : Int} (hm : 1 ≤ m) : vN [.ref 1000000 0, .int .i64 m] [codO C] = nextR C m := valA_eq (A := nA) (O := nO) (v := (C, m)) (fun a b _ _ h1 h2 => nInj a b h1 h2) ⟨h, hm⟩
noncomputable abbrev entN : Ent := entC 19 nA nO nP nW φX
theorem entN_ok : ∀ l os, entN.pre l os = true → Ct V2.P V2.G entN.f l os (entN.ans l os) := entC_ok fun a ha => next_ok a.1 ha.1 a.2 ha.2
def cA (_ : CODES) : List AV := [.ref keyBase 0]
def cO (C : CODES) : List AO := [codO C]
def textsL : List (List UInt8) := [[115, 101], [100, 101], [117, 115], [112, 114, 111], [102, 114, 101, 101], [], [97, 34, 98], [99, 92], [195, 169], [112, 114, 111, 115, 101], [120, 32, 121]]
def numsL : List Int := [0, 1, 17, 18, 19, (-5), 64, 1099511627776, (-1099511627776)]
def versL : List (List UInt8) := [[49, 46, 48, 46, 48], [49, 46, 50, 46, 51], [49, 46, 49, 48, 46, 48], [50, 46, 48, 46, 49], [48, 46, 48, 46, 48], [57, 57, 57, 57, 57, 57, 46, 48, 46, 57, 57, 57, 57, 57, 57]]
def listsL : List (List (List UInt8)) := [[], [[112, 114, 111]], [[100, 101], [115, 101]], [[], [102, 114, 101, 101], [117, 115]], [[120, 32, 121]]]
theorem text_ex (C : CODES) (h : C.Ok) : ∃ x : List UInt8 × CODES, (x.1 ∈ textsL ∧ x.2.Ok) ∧ Ct V2.P V2.G 59 (cA C) (cO C) (φT x) := by
  obtain ⟨h0, h1, h2⟩ := nextR_ok h (m := 11) (by omega)
  have hn := next_ok C h 11 (by omega)
  revert h0 h1 h2 hn
  generalize nextR C 11 = y
  obtain ⟨r, D⟩ := y
  intro h0 h1 h2 hn
  have hr : r = 0 ∨ r = 1 ∨ r = 2 ∨ r = 3 ∨ r = 4 ∨ r = 5 ∨ r = 6 ∨ r = 7 ∨ r = 8 ∨ r = 9 ∨ r = 10 := by have h0 : 0 ≤ r := h0; have h1 : r < 11 := h1; omega
  have hT := entK_ok (φ := φX) hn
  rcases hr with rfl | rfl | rfl | rfl | rfl | rfl | rfl | rfl | rfl | rfl | rfl
  · exact ⟨([115, 101], D), ⟨(show ([115, 101] : List UInt8) ∈ textsL by decide), h2⟩, ct_loops (n := 9) (d := 3) (L := []) (T := [entK 19 [.ref keyBase 0, .int .i64 11] [codO C] (0, D) φX]) mixed2 funcs2 (tabOk_cons hT tabOk_nil) loopsOk_nil ((text_0 _ C D).trans (by rw [show goodA (fun _ : Unit => [.ref keyBase 0, .int .i64 11]) (fun _ => [codO C]) (fun _ => True) [.ref 1000000 0, .int .i64 11] [codO C] = true from gK_eq _ _]; rfl))⟩
  · exact ⟨([100, 101], D), ⟨(show ([100, 101] : List UInt8) ∈ textsL by decide), h2⟩, ct_loops (n := 9) (d := 3) (L := []) (T := [entK 19 [.ref keyBase 0, .int .i64 11] [codO C] (1, D) φX]) mixed2 funcs2 (tabOk_cons hT tabOk_nil) loopsOk_nil ((text_1 _ C D).trans (by rw [show goodA (fun _ : Unit => [.ref keyBase 0, .int .i64 11]) (fun _ => [codO C]) (fun _ => True) [.ref 1000000 0, .int .i64 11] [codO C] = true from gK_eq _ _]; rfl))⟩
  · exact ⟨([117, 115], D), ⟨(show ([117, 115] : List UInt8) ∈ textsL by decide), h2⟩, ct_loops (n := 9) (d := 3) (L := []) (T := [entK 19 [.ref keyBase 0, .int .i64 11] [codO C] (2, D) φX]) mixed2 funcs2 (tabOk_cons hT tabOk_nil) loopsOk_nil ((text_2 _ C D).trans (by rw [show goodA (fun _ : Unit => [.ref keyBase 0, .int .i64 11]) (fun _ => [codO C]) (fun _ => True) [.ref 1000000 0, .int .i64 11] [codO C] = true from gK_eq _ _]; rfl))⟩
  · exact ⟨([112, 114, 111], D), ⟨(show ([112, 114, 111] : List UInt8) ∈ textsL by decide), h2⟩, ct_loops (n := 9) (d := 3) (L := []) (T := [entK 19 [.ref keyBase 0, .int .i64 11] [codO C] (3, D) φX]) mixed2 funcs2 (tabOk_cons hT tabOk_nil) loopsOk_nil ((text_3 _ C D).trans (by rw [show goodA (fun _ : Unit => [.ref keyBase 0, .int .i64 11]) (fun _ => [codO C]) (fun _ => True) [.ref 1000000 0, .int .i64 11] [codO C] = true from gK_eq _ _]; rfl))⟩
  · exact ⟨([102, 114, 101, 101], D), ⟨(show ([102, 114, 101, 101] : List UInt8) ∈ textsL by decide), h2⟩, ct_loops (n := 9) (d := 3) (L := []) (T := [entK 19 [.ref keyBase 0, .int .i64 11] [codO C] (4, D) φX]) mixed2 funcs2 (tabOk_cons hT tabOk_nil) loopsOk_nil ((text_4 _ C D).trans (by rw [show goodA (fun _ : Unit => [.ref keyBase 0, .int .i64 11]) (fun _ => [codO C]) (fun _ => True) [.ref 1000000 0, .int .i64 11] [codO C] = true from gK_eq _ _]; rfl))⟩
  · exact ⟨([], D), ⟨(show ([] : List UInt8) ∈ textsL by decide), h2⟩, ct_loops (n := 9) (d := 3) (L := []) (T := [entK 19 [.ref keyBase 0, .int .i64 11] [codO C] (5, D) φX]) mixed2 funcs2 (tabOk_cons hT tabOk_nil) loopsOk_nil ((text_5 _ C D).trans (by rw [show goodA (fun _ : Unit => [.ref keyBase 0, .int .i64 11]) (fun _ => [codO C]) (fun _ => True) [.ref 1000000 0, .int .i64 11] [codO C] = true from gK_eq _ _]; rfl))⟩
  · exact ⟨([97, 34, 98], D), ⟨(show ([97, 34, 98] : List UInt8) ∈ textsL by decide), h2⟩, ct_loops (n := 9) (d := 3) (L := []) (T := [entK 19 [.ref keyBase 0, .int .i64 11] [codO C] (6, D) φX]) mixed2 funcs2 (tabOk_cons hT tabOk_nil) loopsOk_nil ((text_6 _ C D).trans (by rw [show goodA (fun _ : Unit => [.ref keyBase 0, .int .i64 11]) (fun _ => [codO C]) (fun _ => True) [.ref 1000000 0, .int .i64 11] [codO C] = true from gK_eq _ _]; rfl))⟩
  · exact ⟨([99, 92], D), ⟨(show ([99, 92] : List UInt8) ∈ textsL by decide), h2⟩, ct_loops (n := 9) (d := 3) (L := []) (T := [entK 19 [.ref keyBase 0, .int .i64 11] [codO C] (7, D) φX]) mixed2 funcs2 (tabOk_cons hT tabOk_nil) loopsOk_nil ((text_7 _ C D).trans (by rw [show goodA (fun _ : Unit => [.ref keyBase 0, .int .i64 11]) (fun _ => [codO C]) (fun _ => True) [.ref 1000000 0, .int .i64 11] [codO C] = true from gK_eq _ _]; rfl))⟩
  · exact ⟨([195, 169], D), ⟨(show ([195, 169] : List UInt8) ∈ textsL by decide), h2⟩, ct_loops (n := 9) (d := 3) (L := []) (T := [entK 19 [.ref keyBase 0, .int .i64 11] [codO C] (8, D) φX]) mixed2 funcs2 (tabOk_cons hT tabOk_nil) loopsOk_nil ((text_8 _ C D).trans (by rw [show goodA (fun _ : Unit => [.ref keyBase 0, .int .i64 11]) (fun _ => [codO C]) (fun _ => True) [.ref 1000000 0, .int .i64 11] [codO C] = true from gK_eq _ _]; rfl))⟩
  · exact ⟨([112, 114, 111, 115, 101], D), ⟨(show ([112, 114, 111, 115, 101] : List UInt8) ∈ textsL by decide), h2⟩, ct_loops (n := 9) (d := 3) (L := []) (T := [entK 19 [.ref keyBase 0, .int .i64 11] [codO C] (9, D) φX]) mixed2 funcs2 (tabOk_cons hT tabOk_nil) loopsOk_nil ((text_9 _ C D).trans (by rw [show goodA (fun _ : Unit => [.ref keyBase 0, .int .i64 11]) (fun _ => [codO C]) (fun _ => True) [.ref 1000000 0, .int .i64 11] [codO C] = true from gK_eq _ _]; rfl))⟩
  · exact ⟨([120, 32, 121], D), ⟨(show ([120, 32, 121] : List UInt8) ∈ textsL by decide), h2⟩, ct_loops (n := 9) (d := 3) (L := []) (T := [entK 19 [.ref keyBase 0, .int .i64 11] [codO C] (10, D) φX]) mixed2 funcs2 (tabOk_cons hT tabOk_nil) loopsOk_nil ((text_10 _ C D).trans (by rw [show goodA (fun _ : Unit => [.ref keyBase 0, .int .i64 11]) (fun _ => [codO C]) (fun _ => True) [.ref 1000000 0, .int .i64 11] [codO C] = true from gK_eq _ _]; rfl))⟩
theorem small_strs (l : List (List UInt8)) (h : (decide (l.length ≤ 10) && l.all fun s => decide (s.length ≤ 100)) = true) : strsOk l := by
  simp only [Bool.and_eq_true, decide_eq_true_eq, List.all_eq_true] at h
  exact ⟨by omega, fun s hs => by have := h.2 s hs; unfold lenS maxS; omega⟩
def goodVal (kind : Int) (v : VAL) : Prop := v.kind = kind ∧ checkE v = 0 ∧ v.Ok
theorem texts_good : ∀ s ∈ textsL, goodVal 3 ⟨3, 0, s, []⟩ := by
  intro s hs
  simp only [textsL, List.mem_cons, List.not_mem_nil, or_false] at hs
  rcases hs with rfl | rfl | rfl | rfl | rfl | rfl | rfl | rfl | rfl | rfl | rfl <;> exact ⟨rfl, by kernel_rfl, by decide, by decide, by simp⟩
theorem agg_last {c : Cx} {us : List AV} {o o' : Own} {sz sz' n : Nat} {get get' : Nat → List AV} {v : Value} (h : Rep c (.agg (us ++ [.sl o sz n get])) v) (hw : ∀ x, Rep c (.sl o sz n get) x → Rep c (.sl o' sz' n get') x) : Rep c (.agg (us ++ [.sl o' sz' n get'])) v := by
  cases h with
  | agg _ vs h1 h2 h3 =>
    refine .agg _ vs (by simpa using h1) (fun i u hu => ?_) (fun i u hu => ?_)
    · by_cases hi : i < us.length
      · rw [List.getElem?_append_left hi] at hu
        exact h2 i u (by rw [List.getElem?_append_left hi]; exact hu)
      · rw [List.getElem?_append_right (by omega)] at hu
        cases hj : i - us.length with
        | zero => rw [hj] at hu; simp at hu; subst hu; rfl
        | succ j => rw [hj] at hu; simp at hu
    · by_cases hi : i < us.length
      · rw [List.getElem?_append_left hi] at hu
        exact h3 i u (by rw [List.getElem?_append_left hi]; exact hu)
      · rw [List.getElem?_append_right (by omega)] at hu
        cases hj : i - us.length with
        | zero =>
          rw [hj] at hu; simp at hu; subst hu
          exact hw _ (h3 i _ (by rw [List.getElem?_append_right (by omega), hj]; rfl))
        | succ j => rw [hj] at hu; simp at hu
theorem sl_fit {c : Cx} {sz : Nat} {get get' : Nat → List AV} (x : Value) (h : Rep c (.sl .fit 0 0 get) x) : Rep c (.sl .no sz 0 get') x := by
  cases h with
  | slNil _ _ _ ho => exact .slNil _ _ _ trivial
  | sl _ _ _ _ ad cap vals h1 h2 h3 h4 h5 h6 => exact .sl _ _ _ _ ad cap vals h1 h2 trivial (fun j hj => by omega) (fun j i u hj => by omega) (fun j i u hj => by omega)
theorem val_ct {C D : CODES} {kind : Int} {k n : Int} {s : List UInt8} (h : Ct V2.P V2.G 58 [.ref keyBase 0, .int .i64 kind] [codO C] (.agg [.int .i64 k, .int .i64 n, .str s, .sl .fit 0 0 fun _ => []], [codO D])) :
    Ct V2.P V2.G 58 [.ref keyBase 0, .int .i64 kind] [codO C] (φV (⟨k, n, s, []⟩, D)) :=
  h.res (by simp [VAL.c, AV.keys, keysL, strsA]) fun c v hv => agg_last (us := [.int .i64 k, .int .i64 n, .str s]) hv sl_fit
theorem val_ct5 {C D : CODES} {kind : Int} {k n : Int} {s : List UInt8} {l : List (List UInt8)} {get : Nat → List AV} (hg : ∀ j, j < l.length → get j = [.str (l.getD j [])]) (h : Ct V2.P V2.G 58 [.ref keyBase 0, .int .i64 kind] [codO C] (.agg [.int .i64 k, .int .i64 n, .str s, .sl .no 1 l.length get], [codO D])) :
    Ct V2.P V2.G 58 [.ref keyBase 0, .int .i64 kind] [codO C] (φV (⟨k, n, s, l⟩, D)) :=
  h.res (by simp [VAL.c, AV.keys, keysL, strsA]) fun c v hv => agg_last (us := [.int .i64 k, .int .i64 n, .str s]) hv fun x hx => hx.slWeak fun j hj => (hg j hj).symm
def vA (x : CODES × Int) : List AV := [.ref keyBase 0, .int .i64 x.2]
def vO (x : CODES × Int) : List AO := [codO x.1]
def vP (x : CODES × Int) : Prop := x.1.Ok ∧ 1 ≤ x.2 ∧ x.2 ≤ 5
def vPost (x : CODES × Int) (y : VAL × CODES) : Prop := goodVal x.2 y.1 ∧ y.2.Ok
theorem value_ex (a : CODES × Int) (ha : vP a) : ∃ x : VAL × CODES, vPost a x ∧ Ct V2.P V2.G 58 (vA a) (vO a) (φV x) := by
  obtain ⟨C, kind⟩ := a
  obtain ⟨h, k1, k5⟩ := ha
  have hk : kind = 1 ∨ kind = 2 ∨ kind = 3 ∨ kind = 4 ∨ kind = 5 := by have k1 : 1 ≤ kind := k1; have k5 : kind ≤ 5 := k5; omega
  obtain ⟨wt, hwt, htt⟩ := ent_ex (V := V2) (f := 59) (A := cA) (O := cO) (Pre := CODES.Ok) (φ := φT) (Post := fun (_ : CODES) (x : List UInt8 × CODES) => x.1 ∈ textsL ∧ x.2.Ok) text_ex
  have hgt : goodA cA cO CODES.Ok [.ref 1000000 0] [codO C] = true := goodA_eq (A := cA) (O := cO) (v := C) h
  have hvt := valA_post (A := cA) (O := cO) (Post := fun (_ : CODES) (x : List UInt8 × CODES) => x.1 ∈ textsL ∧ x.2.Ok) hwt (fun a b x _ _ hx => hx) h
  rcases hk with rfl | rfl | rfl | rfl | rfl
  · obtain ⟨h0, h1, h2⟩ := nextR_ok h (m := 2) (by omega)
    have hc := ct_loops (V := V2) (f := 58) (n := 9) (d := 3) (L := []) (T := [entN, entC 59 cA cO CODES.Ok wt φT]) mixed2 funcs2 (tabOk_cons entN_ok (tabOk_cons htt tabOk_nil)) loopsOk_nil ((value_1 gN vN _ _ C (vN_eq h (by omega))).trans (by rw [gN_eq h (by omega)]; rfl))
    revert h0 h1 h2 hc
    generalize nextR C 2 = y
    obtain ⟨r, D⟩ := y
    intro h0 h1 h2 hc
    have hr : r = 0 ∨ r = 1 := by have h0 : 0 ≤ r := h0; have h1 : r < 2 := h1; omega
    rcases hr with rfl | rfl
    · exact ⟨(⟨1, 0, [], []⟩, D), ⟨(show goodVal 1 ⟨1, 0, [], []⟩ from ⟨rfl, by kernel_rfl, by decide, by decide, by simp⟩), h2⟩, val_ct hc⟩
    · exact ⟨(⟨1, 1, [], []⟩, D), ⟨(show goodVal 1 ⟨1, 1, [], []⟩ from ⟨rfl, by kernel_rfl, by decide, by decide, by simp⟩), h2⟩, val_ct hc⟩
  · obtain ⟨h0, h1, h2⟩ := nextR_ok h (m := 9) (by omega)
    have hn := next_ok C h 9 (by omega)
    revert h0 h1 h2 hn
    generalize nextR C 9 = y
    obtain ⟨r, D⟩ := y
    intro h0 h1 h2 hn
    have hr : r = 0 ∨ r = 1 ∨ r = 2 ∨ r = 3 ∨ r = 4 ∨ r = 5 ∨ r = 6 ∨ r = 7 ∨ r = 8 := by have h0 : 0 ≤ r := h0; have h1 : r < 9 := h1; omega
    have hT := entK_ok (φ := φX) hn
    have hg : goodA (fun _ : Unit => [.ref keyBase 0, .int .i64 9]) (fun _ => [codO C]) (fun _ => True) [.ref 1000000 0, .int .i64 9] [codO C] = true := gK_eq _ _
    rcases hr with rfl | rfl | rfl | rfl | rfl | rfl | rfl | rfl | rfl
    · exact ⟨(⟨2, 0, [], []⟩, D), ⟨(show goodVal 2 ⟨2, 0, [], []⟩ from ⟨rfl, by kernel_rfl, by decide, by decide, by simp⟩), h2⟩, val_ct (ct_loops (V := V2) (f := 58) (n := 9) (d := 3) (L := []) (T := [entK 19 [.ref keyBase 0, .int .i64 9] [codO C] (0, D) φX, entC 59 cA cO CODES.Ok wt φT]) mixed2 funcs2 (tabOk_cons hT (tabOk_cons htt tabOk_nil)) loopsOk_nil ((value_2_0 _ _ _ C D).trans (by first | (rw [hg]; rfl) | exact (congrArg (fun b => cond b _ none) hg).trans rfl)))⟩
    · exact ⟨(⟨2, 1, [], []⟩, D), ⟨(show goodVal 2 ⟨2, 1, [], []⟩ from ⟨rfl, by kernel_rfl, by decide, by decide, by simp⟩), h2⟩, val_ct (ct_loops (V := V2) (f := 58) (n := 9) (d := 3) (L := []) (T := [entK 19 [.ref keyBase 0, .int .i64 9] [codO C] (1, D) φX, entC 59 cA cO CODES.Ok wt φT]) mixed2 funcs2 (tabOk_cons hT (tabOk_cons htt tabOk_nil)) loopsOk_nil ((value_2_1 _ _ _ C D).trans (by first | (rw [hg]; rfl) | exact (congrArg (fun b => cond b _ none) hg).trans rfl)))⟩
    · exact ⟨(⟨2, 17, [], []⟩, D), ⟨(show goodVal 2 ⟨2, 17, [], []⟩ from ⟨rfl, by kernel_rfl, by decide, by decide, by simp⟩), h2⟩, val_ct (ct_loops (V := V2) (f := 58) (n := 9) (d := 3) (L := []) (T := [entK 19 [.ref keyBase 0, .int .i64 9] [codO C] (2, D) φX, entC 59 cA cO CODES.Ok wt φT]) mixed2 funcs2 (tabOk_cons hT (tabOk_cons htt tabOk_nil)) loopsOk_nil ((value_2_2 _ _ _ C D).trans (by first | (rw [hg]; rfl) | exact (congrArg (fun b => cond b _ none) hg).trans rfl)))⟩
    · exact ⟨(⟨2, 18, [], []⟩, D), ⟨(show goodVal 2 ⟨2, 18, [], []⟩ from ⟨rfl, by kernel_rfl, by decide, by decide, by simp⟩), h2⟩, val_ct (ct_loops (V := V2) (f := 58) (n := 9) (d := 3) (L := []) (T := [entK 19 [.ref keyBase 0, .int .i64 9] [codO C] (3, D) φX, entC 59 cA cO CODES.Ok wt φT]) mixed2 funcs2 (tabOk_cons hT (tabOk_cons htt tabOk_nil)) loopsOk_nil ((value_2_3 _ _ _ C D).trans (by first | (rw [hg]; rfl) | exact (congrArg (fun b => cond b _ none) hg).trans rfl)))⟩
    · exact ⟨(⟨2, 19, [], []⟩, D), ⟨(show goodVal 2 ⟨2, 19, [], []⟩ from ⟨rfl, by kernel_rfl, by decide, by decide, by simp⟩), h2⟩, val_ct (ct_loops (V := V2) (f := 58) (n := 9) (d := 3) (L := []) (T := [entK 19 [.ref keyBase 0, .int .i64 9] [codO C] (4, D) φX, entC 59 cA cO CODES.Ok wt φT]) mixed2 funcs2 (tabOk_cons hT (tabOk_cons htt tabOk_nil)) loopsOk_nil ((value_2_4 _ _ _ C D).trans (by first | (rw [hg]; rfl) | exact (congrArg (fun b => cond b _ none) hg).trans rfl)))⟩
    · exact ⟨(⟨2, (-5), [], []⟩, D), ⟨(show goodVal 2 ⟨2, (-5), [], []⟩ from ⟨rfl, by kernel_rfl, by decide, by decide, by simp⟩), h2⟩, val_ct (ct_loops (V := V2) (f := 58) (n := 9) (d := 3) (L := []) (T := [entK 19 [.ref keyBase 0, .int .i64 9] [codO C] (5, D) φX, entC 59 cA cO CODES.Ok wt φT]) mixed2 funcs2 (tabOk_cons hT (tabOk_cons htt tabOk_nil)) loopsOk_nil ((value_2_5 _ _ _ C D).trans (by first | (rw [hg]; rfl) | exact (congrArg (fun b => cond b _ none) hg).trans rfl)))⟩
    · exact ⟨(⟨2, 64, [], []⟩, D), ⟨(show goodVal 2 ⟨2, 64, [], []⟩ from ⟨rfl, by kernel_rfl, by decide, by decide, by simp⟩), h2⟩, val_ct (ct_loops (V := V2) (f := 58) (n := 9) (d := 3) (L := []) (T := [entK 19 [.ref keyBase 0, .int .i64 9] [codO C] (6, D) φX, entC 59 cA cO CODES.Ok wt φT]) mixed2 funcs2 (tabOk_cons hT (tabOk_cons htt tabOk_nil)) loopsOk_nil ((value_2_6 _ _ _ C D).trans (by first | (rw [hg]; rfl) | exact (congrArg (fun b => cond b _ none) hg).trans rfl)))⟩
    · exact ⟨(⟨2, 1099511627776, [], []⟩, D), ⟨(show goodVal 2 ⟨2, 1099511627776, [], []⟩ from ⟨rfl, by kernel_rfl, by decide, by decide, by simp⟩), h2⟩, val_ct (ct_loops (V := V2) (f := 58) (n := 9) (d := 3) (L := []) (T := [entK 19 [.ref keyBase 0, .int .i64 9] [codO C] (7, D) φX, entC 59 cA cO CODES.Ok wt φT]) mixed2 funcs2 (tabOk_cons hT (tabOk_cons htt tabOk_nil)) loopsOk_nil ((value_2_7 _ _ _ C D).trans (by first | (rw [hg]; rfl) | exact (congrArg (fun b => cond b _ none) hg).trans rfl)))⟩
    · exact ⟨(⟨2, (-1099511627776), [], []⟩, D), ⟨(show goodVal 2 ⟨2, (-1099511627776), [], []⟩ from ⟨rfl, by kernel_rfl, by decide, by decide, by simp⟩), h2⟩, val_ct (ct_loops (V := V2) (f := 58) (n := 9) (d := 3) (L := []) (T := [entK 19 [.ref keyBase 0, .int .i64 9] [codO C] (8, D) φX, entC 59 cA cO CODES.Ok wt φT]) mixed2 funcs2 (tabOk_cons hT (tabOk_cons htt tabOk_nil)) loopsOk_nil ((value_2_8 _ _ _ C D).trans (by first | (rw [hg]; rfl) | exact (congrArg (fun b => cond b _ none) hg).trans rfl)))⟩
  · obtain ⟨q1, q2⟩ := hvt
    have hc := ct_loops (V := V2) (f := 58) (n := 9) (d := 3) (L := []) (T := [entN, entC 59 cA cO CODES.Ok wt φT]) mixed2 funcs2 (tabOk_cons entN_ok (tabOk_cons htt tabOk_nil)) loopsOk_nil ((value_3 gN vN _ _ C rfl).trans (by rw [hgt]; rfl))
    exact ⟨(⟨3, 0, (valA cA cO CODES.Ok wt (cA C) (cO C)).1, []⟩, (valA cA cO CODES.Ok wt (cA C) (cO C)).2), ⟨texts_good _ q1, q2⟩, val_ct hc⟩
  · obtain ⟨h0, h1, h2⟩ := nextR_ok h (m := 6) (by omega)
    have hn := next_ok C h 6 (by omega)
    revert h0 h1 h2 hn
    generalize nextR C 6 = y
    obtain ⟨r, D⟩ := y
    intro h0 h1 h2 hn
    have hr : r = 0 ∨ r = 1 ∨ r = 2 ∨ r = 3 ∨ r = 4 ∨ r = 5 := by have h0 : 0 ≤ r := h0; have h1 : r < 6 := h1; omega
    have hT := entK_ok (φ := φX) hn
    have hg : goodA (fun _ : Unit => [.ref keyBase 0, .int .i64 6]) (fun _ => [codO C]) (fun _ => True) [.ref 1000000 0, .int .i64 6] [codO C] = true := gK_eq _ _
    rcases hr with rfl | rfl | rfl | rfl | rfl | rfl
    · exact ⟨(⟨4, 0, [49, 46, 48, 46, 48], []⟩, D), ⟨(show goodVal 4 ⟨4, 0, [49, 46, 48, 46, 48], []⟩ from ⟨rfl, by kernel_rfl, by decide, by decide, by simp⟩), h2⟩, val_ct (ct_loops (V := V2) (f := 58) (n := 9) (d := 3) (L := []) (T := [entK 19 [.ref keyBase 0, .int .i64 6] [codO C] (0, D) φX, entC 59 cA cO CODES.Ok wt φT]) mixed2 funcs2 (tabOk_cons hT (tabOk_cons htt tabOk_nil)) loopsOk_nil ((value_4_0 _ _ _ C D).trans (by first | (rw [hg]; rfl) | exact (congrArg (fun b => cond b _ none) hg).trans rfl)))⟩
    · exact ⟨(⟨4, 0, [49, 46, 50, 46, 51], []⟩, D), ⟨(show goodVal 4 ⟨4, 0, [49, 46, 50, 46, 51], []⟩ from ⟨rfl, by kernel_rfl, by decide, by decide, by simp⟩), h2⟩, val_ct (ct_loops (V := V2) (f := 58) (n := 9) (d := 3) (L := []) (T := [entK 19 [.ref keyBase 0, .int .i64 6] [codO C] (1, D) φX, entC 59 cA cO CODES.Ok wt φT]) mixed2 funcs2 (tabOk_cons hT (tabOk_cons htt tabOk_nil)) loopsOk_nil ((value_4_1 _ _ _ C D).trans (by first | (rw [hg]; rfl) | exact (congrArg (fun b => cond b _ none) hg).trans rfl)))⟩
    · exact ⟨(⟨4, 0, [49, 46, 49, 48, 46, 48], []⟩, D), ⟨(show goodVal 4 ⟨4, 0, [49, 46, 49, 48, 46, 48], []⟩ from ⟨rfl, by kernel_rfl, by decide, by decide, by simp⟩), h2⟩, val_ct (ct_loops (V := V2) (f := 58) (n := 9) (d := 3) (L := []) (T := [entK 19 [.ref keyBase 0, .int .i64 6] [codO C] (2, D) φX, entC 59 cA cO CODES.Ok wt φT]) mixed2 funcs2 (tabOk_cons hT (tabOk_cons htt tabOk_nil)) loopsOk_nil ((value_4_2 _ _ _ C D).trans (by first | (rw [hg]; rfl) | exact (congrArg (fun b => cond b _ none) hg).trans rfl)))⟩
    · exact ⟨(⟨4, 0, [50, 46, 48, 46, 49], []⟩, D), ⟨(show goodVal 4 ⟨4, 0, [50, 46, 48, 46, 49], []⟩ from ⟨rfl, by kernel_rfl, by decide, by decide, by simp⟩), h2⟩, val_ct (ct_loops (V := V2) (f := 58) (n := 9) (d := 3) (L := []) (T := [entK 19 [.ref keyBase 0, .int .i64 6] [codO C] (3, D) φX, entC 59 cA cO CODES.Ok wt φT]) mixed2 funcs2 (tabOk_cons hT (tabOk_cons htt tabOk_nil)) loopsOk_nil ((value_4_3 _ _ _ C D).trans (by first | (rw [hg]; rfl) | exact (congrArg (fun b => cond b _ none) hg).trans rfl)))⟩
    · exact ⟨(⟨4, 0, [48, 46, 48, 46, 48], []⟩, D), ⟨(show goodVal 4 ⟨4, 0, [48, 46, 48, 46, 48], []⟩ from ⟨rfl, by kernel_rfl, by decide, by decide, by simp⟩), h2⟩, val_ct (ct_loops (V := V2) (f := 58) (n := 9) (d := 3) (L := []) (T := [entK 19 [.ref keyBase 0, .int .i64 6] [codO C] (4, D) φX, entC 59 cA cO CODES.Ok wt φT]) mixed2 funcs2 (tabOk_cons hT (tabOk_cons htt tabOk_nil)) loopsOk_nil ((value_4_4 _ _ _ C D).trans (by first | (rw [hg]; rfl) | exact (congrArg (fun b => cond b _ none) hg).trans rfl)))⟩
    · exact ⟨(⟨4, 0, [57, 57, 57, 57, 57, 57, 46, 48, 46, 57, 57, 57, 57, 57, 57], []⟩, D), ⟨(show goodVal 4 ⟨4, 0, [57, 57, 57, 57, 57, 57, 46, 48, 46, 57, 57, 57, 57, 57, 57], []⟩ from ⟨rfl, by kernel_rfl, by decide, by decide, by simp⟩), h2⟩, val_ct (ct_loops (V := V2) (f := 58) (n := 9) (d := 3) (L := []) (T := [entK 19 [.ref keyBase 0, .int .i64 6] [codO C] (5, D) φX, entC 59 cA cO CODES.Ok wt φT]) mixed2 funcs2 (tabOk_cons hT (tabOk_cons htt tabOk_nil)) loopsOk_nil ((value_4_5 _ _ _ C D).trans (by first | (rw [hg]; rfl) | exact (congrArg (fun b => cond b _ none) hg).trans rfl)))⟩
  · obtain ⟨h0, h1, h2⟩ := nextR_ok h (m := 5) (by omega)
    have hn := next_ok C h 5 (by omega)
    revert h0 h1 h2 hn
    generalize nextR C 5 = y
    obtain ⟨r, D⟩ := y
    intro h0 h1 h2 hn
    have hr : r = 0 ∨ r = 1 ∨ r = 2 ∨ r = 3 ∨ r = 4 := by have h0 : 0 ≤ r := h0; have h1 : r < 5 := h1; omega
    have hT := entK_ok (φ := φX) hn
    have hg : goodA (fun _ : Unit => [.ref keyBase 0, .int .i64 5]) (fun _ => [codO C]) (fun _ => True) [.ref 1000000 0, .int .i64 5] [codO C] = true := gK_eq _ _
    rcases hr with rfl | rfl | rfl | rfl | rfl
    · refine ⟨(⟨5, 0, [], []⟩, D), ⟨(show goodVal 5 ⟨5, 0, [], []⟩ from ⟨rfl, by kernel_rfl, by decide, small_strs _ (by decide)⟩), h2⟩, val_ct5 (l := []) (fun j hj => ?_) (ct_loops (V := V2) (f := 58) (n := 9) (d := 3) (L := []) (T := [entK 19 [.ref keyBase 0, .int .i64 5] [codO C] (0, D) φX, entC 59 cA cO CODES.Ok wt φT]) mixed2 funcs2 (tabOk_cons hT (tabOk_cons htt tabOk_nil)) loopsOk_nil ((value_5_0 _ _ _ C D).trans (by first | (rw [hg]; rfl) | exact (congrArg (fun b => cond b _ none) hg).trans rfl)))⟩
      simp at hj
    · refine ⟨(⟨5, 0, [], [[112, 114, 111]]⟩, D), ⟨(show goodVal 5 ⟨5, 0, [], [[112, 114, 111]]⟩ from ⟨rfl, by kernel_rfl, by decide, small_strs _ (by decide)⟩), h2⟩, val_ct5 (l := [[112, 114, 111]]) (fun j hj => ?_) (ct_loops (V := V2) (f := 58) (n := 9) (d := 3) (L := []) (T := [entK 19 [.ref keyBase 0, .int .i64 5] [codO C] (1, D) φX, entC 59 cA cO CODES.Ok wt φT]) mixed2 funcs2 (tabOk_cons hT (tabOk_cons htt tabOk_nil)) loopsOk_nil ((value_5_1 _ _ _ C D).trans (by first | (rw [hg]; rfl) | exact (congrArg (fun b => cond b _ none) hg).trans rfl)))⟩
      simp only [List.length_cons, List.length_nil] at hj; match j, hj with
      | 0, _ => rfl
    · refine ⟨(⟨5, 0, [], [[100, 101], [115, 101]]⟩, D), ⟨(show goodVal 5 ⟨5, 0, [], [[100, 101], [115, 101]]⟩ from ⟨rfl, by kernel_rfl, by decide, small_strs _ (by decide)⟩), h2⟩, val_ct5 (l := [[100, 101], [115, 101]]) (fun j hj => ?_) (ct_loops (V := V2) (f := 58) (n := 9) (d := 3) (L := []) (T := [entK 19 [.ref keyBase 0, .int .i64 5] [codO C] (2, D) φX, entC 59 cA cO CODES.Ok wt φT]) mixed2 funcs2 (tabOk_cons hT (tabOk_cons htt tabOk_nil)) loopsOk_nil ((value_5_2 _ _ _ C D).trans (by first | (rw [hg]; rfl) | exact (congrArg (fun b => cond b _ none) hg).trans rfl)))⟩
      simp only [List.length_cons, List.length_nil] at hj; match j, hj with
      | 0, _ => rfl
      | 1, _ => rfl
    · refine ⟨(⟨5, 0, [], [[], [102, 114, 101, 101], [117, 115]]⟩, D), ⟨(show goodVal 5 ⟨5, 0, [], [[], [102, 114, 101, 101], [117, 115]]⟩ from ⟨rfl, by kernel_rfl, by decide, small_strs _ (by decide)⟩), h2⟩, val_ct5 (l := [[], [102, 114, 101, 101], [117, 115]]) (fun j hj => ?_) (ct_loops (V := V2) (f := 58) (n := 9) (d := 3) (L := []) (T := [entK 19 [.ref keyBase 0, .int .i64 5] [codO C] (3, D) φX, entC 59 cA cO CODES.Ok wt φT]) mixed2 funcs2 (tabOk_cons hT (tabOk_cons htt tabOk_nil)) loopsOk_nil ((value_5_3 _ _ _ C D).trans (by first | (rw [hg]; rfl) | exact (congrArg (fun b => cond b _ none) hg).trans rfl)))⟩
      simp only [List.length_cons, List.length_nil] at hj; match j, hj with
      | 0, _ => rfl
      | 1, _ => rfl
      | 2, _ => rfl
    · refine ⟨(⟨5, 0, [], [[120, 32, 121]]⟩, D), ⟨(show goodVal 5 ⟨5, 0, [], [[120, 32, 121]]⟩ from ⟨rfl, by kernel_rfl, by decide, small_strs _ (by decide)⟩), h2⟩, val_ct5 (l := [[120, 32, 121]]) (fun j hj => ?_) (ct_loops (V := V2) (f := 58) (n := 9) (d := 3) (L := []) (T := [entK 19 [.ref keyBase 0, .int .i64 5] [codO C] (4, D) φX, entC 59 cA cO CODES.Ok wt φT]) mixed2 funcs2 (tabOk_cons hT (tabOk_cons htt tabOk_nil)) loopsOk_nil ((value_5_4 _ _ _ C D).trans (by first | (rw [hg]; rfl) | exact (congrArg (fun b => cond b _ none) hg).trans rfl)))⟩
      simp only [List.length_cons, List.length_nil] at hj; match j, hj with
      | 0, _ => rfl
end Go.SH

namespace Go.SH
open Go Go.Ab Go.Proofs
set_option linter.unusedVariables false
set_option linter.unusedSimpArgs false
def argN (m : Int) (l : List AV) : Bool := match l with
  | [_, .int _ n] => n == m
  | _ => false
def zV : List AV := [.int .i64 0, .int .i64 0, .str [], .sl .fit 0 0 fun _ => [] ]
def getV (l : List VAL) (j : Nat) : List AV := (l.map VAL.c).getD j zV
def exC (op : Int) (kind name : List UInt8) (vs : AV) : List AV := [.int .i64 op, .str kind, .str name, vs, .sl .fit 0 0 fun _ => [] ]
def ex0 : List AV := [.int .i64 0, .str [], .str [], .sl .fit 0 0 fun _ => [], .sl .fit 0 0 fun _ => [] ]
def TS0 (dk dn : List UInt8) (dt : Int) (C : CODES) : St := { env := [(0, .ref keyBase 0), (2, .ref 2 0), (5, .ref 5 0), (6, .ref 6 0), (7, .int .i64 0)], objs := [(2, .cells ex0), (5, .cells [.str dk, .str dn, .int .i64 dt]), (6, .cells (exC 8 dk dn (.sl (.key 63) 4 0 fun _ => zV))), (keyBase, codO C), (63, .own 4 0)] }
def TS (dk dn : List UInt8) (dt : Int) (n : Nat) (get : Nat → List AV) (C : CODES) (i : Nat) : St := { env := [(0, .ref keyBase 0), (2, .ref 2 0), (5, .ref 5 0), (6, .ref 6 0), (7, .int .i64 i)], objs := [(2, .cells ex0), (5, .cells [.str dk, .str dn, .int .i64 dt]), (6, .cells (exC 8 dk dn (.sl (.key 63) 4 n get))), (63, .own 4 n), (keyBase, codO C)] }
def TE (dk dn : List UInt8) (n : Nat) (get : Nat → List AV) (C : CODES) : St := { env := [(2, .ref 2 0), (6, .ref 6 0)], objs := [(2, .cells ex0), (6, .cells (exC 8 dk dn (.sl (.key 63) 4 n get))), (63, .own 4 n), (keyBase, codO C)] }
def outT (dk dn : List UInt8) (x : List VAL × CODES) (k : Ex → St → Res) : Res := k (.exit 6) (TE dk dn x.1.length (getV x.1) x.2)
end Go.SH

namespace Go.SH
open Go Go.Ab Go.Proofs
set_option linter.unusedVariables false
set_option linter.unusedSimpArgs false
mutual
def EXP.size : EXP → Nat
  | .mk _ _ _ _ ks => 1 + sizeL ks
def sizeL : List EXP → Nat
  | [] => 0
  | e :: r => e.size + sizeL r
end
inductive VE : Nat → EXP → Prop
  | mk (l : Nat) (e : EXP) : partE e.part = 0 → (∀ k ∈ e.kids, VE l k) → VE (l + 1) e
theorem VE.up {l : Nat} {e : EXP} (h : VE l e) : VE (l + 1) e := by
  induction h with
  | mk l e h1 h2 ih => exact .mk _ _ h1 ih
theorem VE.le {l m : Nat} {e : EXP} (h : VE l e) (hm : l ≤ m) : VE m e := by
  obtain ⟨d, rfl⟩ : ∃ d, m = l + d := ⟨m - l, by omega⟩
  clear hm
  induction d with
  | zero => exact h
  | succ d ih => exact ih.up
mutual
def countE : EXP → Nat → Nat
  | .mk _ _ _ _ ks, n => countL ks (n + 1)
def countL : List EXP → Nat → Nat
  | [], n => n
  | e :: r, n => bif decide (n > 60) then n else countL r (countE e n)
end
mutual
theorem count_min : ∀ (e : EXP) (n : Nat), n ≤ 60 → countE e n = min (n + e.size) 61
  | .mk o k nm v ks, n, h => by
    rw [countE, EXP.size, countL_min ks (n + 1) (by omega)]; congr 1; omega
theorem countL_min : ∀ (ks : List EXP) (n : Nat), n ≤ 61 → countL ks n = min (n + sizeL ks) 61
  | [], n, h => by rw [countL, sizeL]; omega
  | e :: r, n, h => by
    rw [countL, sizeL]
    by_cases hn : n > 60
    · rw [decide_eq_true hn]; show n = _; omega
    · rw [decide_eq_false hn, cond_false, count_min e n (by omega), countL_min r _ (by omega)]; omega
end
mutual
def rpartsE : EXP → Nat
  | .mk _ _ _ _ ks => min (rsumL ks 1) 61
def rsumL : List EXP → Nat → Nat
  | [], n => n
  | e :: r, n => bif decide (n ≤ 60) then rsumL r (n + rpartsE e) else n
end
mutual
theorem rparts_min : ∀ (e : EXP), rpartsE e = min e.size 61
  | .mk o k nm v ks => by rw [rpartsE, EXP.size, rsum_min ks 1]
theorem rsum_min : ∀ (ks : List EXP) (n : Nat), min (rsumL ks n) 61 = min (n + sizeL ks) 61
  | [], n => by rw [rsumL, sizeL]; omega
  | e :: r, n => by
    rw [rsumL, sizeL]
    by_cases hn : n ≤ 60
    · rw [decide_eq_true hn, cond_true, rsum_min r, rparts_min e]; omega
    · rw [decide_eq_false hn, cond_false]; omega
end
theorem scan_none {n : Nat} {stop : Nat → Option Unit} (h : ∀ i, i < n → stop i = none) : ∀ d i, (scan n (· + 1) stop d i).1 = false
  | 0, _ => rfl
  | d + 1, i => by
    simp only [scan]
    by_cases hi : i < n
    · rw [if_pos hi, h i hi]; exact scan_none h d (i + 1)
    · rw [if_neg hi]
theorem kidSeek_none {p : PART} {b : Bool} (h : ∀ i, i < p.n → (bif p.ko i == p.op then b else false) = false) : (kidSeek p b).1 = false := by
  unfold kidSeek seek scanAt
  exact scan_none (fun i hi => by show (bif (bif p.ko i == p.op then b else false) then some () else none) = none; rw [h i hi]; rfl) _ _
theorem vals_none {l : List VAL} (h : ∀ v ∈ l, checkE v = 0) : (valsSeek l).1 = false := by
  unfold valsSeek scanAt
  have : ∀ d i, (scan l.length (· + 1) (valsStop l) d i).1 = false := by
    intro d
    induction d with
    | zero => intro i; rfl
    | succ d ih =>
      intro i
      simp only [scan]
      by_cases hi : i < l.length
      · rw [if_pos hi]
        have hv : checkE (l.getD i default) = 0 := by
          rw [List.getD_eq_getElem?_getD, List.getElem?_eq_getElem hi]; exact h _ (List.getElem_mem hi)
        unfold valsStop
        rw [hv]; exact ih (i + 1)
      · rw [if_neg hi]
  exact this _ _
def notX (e : EXP) : EXP := .mk 4 [] [] [] [e]
theorem part_not (e : EXP) : partE (notX e).part = 0 := by
  have h1 : (kidSeek (notX e).part (isPair (notX e).part.op)).1 = false := kidSeek_none fun i _ => by
    show (bif _ == (4 : Int) then isPair 4 else false) = false
    cases ((notX e).part.ko i == (4 : Int)) <;> rfl
  have h2 : (valsSeek (notX e).part.vals).1 = false := vals_none (by intro v hv; cases hv)
  unfold partE
  rw [h1, h2]; rfl
theorem VE.not {l : Nat} {e : EXP} (h : VE l e) : VE (l + 1) (notX e) := .mk _ _ (part_not e) fun k hk => by
  have : k ∈ [e] := hk
  simp at this; subst this; exact h
def pairX (op : Int) (ks : List EXP) : EXP := .mk op [] [] [] ks
theorem kidSeek_op {op : Int} {ks : List EXP} (h : ∀ k ∈ ks, k.op ≠ op) (b : Bool) : (kidSeek (pairX op ks).part b).1 = false := kidSeek_none fun i hi => by
  have hi : i < ks.length := hi
  have : ((ks.getD i default).op == op) = false := by
    rw [List.getD_eq_getElem?_getD, List.getElem?_eq_getElem hi]
    exact beq_eq_false_iff_ne.2 (h _ (List.getElem_mem hi))
  show (bif (ks.getD i default).op == op then b else false) = false
  rw [this]; rfl
theorem part_pair {op : Int} {ks : List EXP} (hop : op = 2 ∨ op = 3) (h2 : 2 ≤ ks.length) (h12 : ks.length ≤ 12) (h : ∀ k ∈ ks, k.op ≠ op) : partE (pairX op ks).part = 0 := by
  have h1 : (kidSeek (pairX op ks).part (isPair (pairX op ks).part.op)).1 = false := kidSeek_op h _
  have h3 : (valsSeek (pairX op ks).part.vals).1 = false := vals_none (by intro v hv; cases hv)
  have e1 : (pairX op ks).part.n = ks.length := rfl
  have e2 : (pairX op ks).part.op = op := rfl
  have e3 : (pairX op ks).part.vals = [] := rfl
  have e4 : (pairX op ks).part.kind = [] := rfl
  have e5 : (pairX op ks).part.name = [] := rfl
  unfold partE countB
  rw [h1, h3, e1, e2, e3, e4, e5, decide_eq_true (show ks.length ≥ 2 from h2), decide_eq_false (show ¬ ks.length > 12 by omega)]
  rcases hop with rfl | rfl <;> rfl
theorem VE.pair {l : Nat} {op : Int} {ks : List EXP} (hop : op = 2 ∨ op = 3) (h2 : 2 ≤ ks.length) (h12 : ks.length ≤ 12) (h : ∀ k ∈ ks, k.op ≠ op) (hk : ∀ k ∈ ks, VE l k) : VE (l + 1) (pairX op ks) := .mk _ _ (part_pair hop h2 h12 h) hk
def notN : Nat → EXP → EXP
  | 0, e => e
  | k + 1, e => notX (notN k e)
end Go.SH

namespace Go.SH
open Go Go.Ab Go.Proofs
set_option linter.unusedVariables false
set_option linter.unusedSimpArgs false
def keysL10 : List (List UInt8) := (List.range 10).map fun r => [107, UInt8.ofNat (48 + r)]
def testOk (e : EXP) : Prop := partE e.part = 0 ∧ e.kids = [] ∧ e.Ok
theorem testOk.ve {e : EXP} (h : testOk e) : VE 1 e := .mk _ _ h.1 fun k hk => by rw [h.2.1] at hk; cases hk
end Go.SH

namespace Go.SH
open Go Go.Ab Go.Proofs
set_option linter.unusedVariables false
set_option linter.unusedSimpArgs false
section
open Classical
noncomputable def gB (m : Int) (C : CODES) (l : List AV) (os : List AO) : Bool := decide ((∃ a, nP a ∧ nA a = l ∧ nO a = os) ∧ (argN m l = true → os = [codO C]))
noncomputable def entB (m : Int) (C : CODES) (x : Int × CODES) : Ent := mkE 19 (gB m C) (fun l os => cond (argN m l) x (vN l os)) φX
theorem entB_ok {m : Int} {C : CODES} (hm : 1 ≤ m) (hC : C.Ok) {x : Int × CODES} (hx : nextR C m = x) : ∀ l os, (entB m C x).pre l os = true → Ct V2.P V2.G (entB m C x).f l os ((entB m C x).ans l os) := by
  intro l os hp
  obtain ⟨⟨a, h1, h2, h3⟩, h4⟩ : (∃ a, nP a ∧ nA a = l ∧ nO a = os) ∧ (argN m l = true → os = [codO C]) := of_decide_eq_true hp
  show Ct V2.P V2.G 19 l os (φX (cond (argN m l) x (vN l os)))
  cases hb : argN m l with
  | true =>
    have := h4 hb
    subst h2
    have hm2 : a.2 = m := by simpa [argN, nA] using hb
    rw [this]
    have hn := next_ok C hC m hm
    rw [hx] at hn
    show Ct V2.P V2.G 19 [.ref keyBase 0, .int .i64 a.2] _ _
    rw [hm2]; exact hn
  | false =>
    subst h2 h3
    have : vN (nA a) (nO a) = nW a := valA_eq (fun a b _ _ h1 h2 => nInj a b h1 h2) h1
    rw [show cond false x (vN (nA a) (nO a)) = vN (nA a) (nO a) from rfl, this]
    exact next_ok a.1 h1.1 a.2 h1.2
theorem gB_eq {m : Int} {C D : CODES} {n : Int} (h : D.Ok) (hn : 1 ≤ n) (he : n = m → D = C) : gB m C [.ref 1000000 0, .int .i64 n] [codO D] = true := by
  refine decide_eq_true ⟨⟨(D, n), ⟨h, hn⟩, rfl, rfl⟩, fun ha => ?_⟩
  have : n = m := by simpa [argN] using ha
  rw [he this]
end
theorem argN_ne {m n : Int} (h : n ≠ m) : argN m [.ref 1000000 0, .int .i64 n] = false := by simpa [argN] using h
theorem vA_kind (a b : CODES × Int) (x : VAL × CODES) (h : vA a = vA b) (_ : vO a = vO b) (hx : vPost a x) : vPost b x := by
  simp only [vA, List.cons.injEq, AV.int.injEq, true_and, and_true] at h
  unfold vPost at *
  rw [← h]; exact hx
def φQ (x : EXP × CODES) : AV × List AO := (.agg x.1.c, [codO x.2])
def tPost (x : EXP × CODES) : Prop := testOk x.1 ∧ x.2.Ok
def opOk (op kind : Int) : Prop := 6 ≤ op ∧ op ≤ 15 ∧ op ≠ 8 ∧ op ≠ 6 ∧ (needsText op = true → kind = 3)
section
variable {C : CODES} {dk dn : List UInt8} (h1 : keyB dk = true) (h2 : keyB dn = true) (h3 : dk.length ≤ 100) (h4 : dn.length ≤ 100)
include h1 h2 h3 h4
end
abbrev TSt := CODES ⊕ (List VAL × CODES)
def tS (dk dn : List UInt8) (dt : Int) : TSt → St
  | .inl C => TS0 dk dn dt C
  | .inr (l, C) => TS dk dn dt l.length (getV l) C l.length
def tI (dt : Int) : TSt → Prop
  | .inl C => C.Ok
  | .inr (l, C) => C.Ok ∧ 1 ≤ l.length ∧ l.length ≤ 3 ∧ ∀ v ∈ l, goodVal dt v
def tM : TSt → Nat
  | .inl _ => 5
  | .inr (l, _) => 4 - l.length
def tZ (dt : Int) (z : List VAL × CODES) : Prop := 1 ≤ z.1.length ∧ z.1.length ≤ 3 ∧ (∀ v ∈ z.1, goodVal dt v) ∧ z.2.Ok
instance : Inhabited (List VAL × CODES) := ⟨([], default)⟩
end Go.SH

namespace Go.SH
open Go Go.Ab Go.Proofs
set_option linter.unusedVariables false
set_option linter.unusedSimpArgs false
set_option linter.unusedSectionVars false
section
variable {C D : CODES} (hC : C.Ok) (hD : D.Ok) {wv : CODES × Int → VAL × CODES} (hwv : ∀ a, vP a → vPost a (wv a)) (htv : ∀ l os, (entC 58 vA vO vP wv φV).pre l os = true → Ct V2.P V2.G (entC 58 vA vO vP wv φV).f l os ((entC 58 vA vO vP wv φV).ans l os))
  {wk : CODES → List UInt8 × CODES} (hwk : ∀ C, C.Ok → (wk C).1 ∈ keysL10 ∧ (wk C).2.Ok) (htk : ∀ l os, (entC 104 cA cO CODES.Ok wk φT).pre l os = true → Ct V2.P V2.G (entC 104 cA cO CODES.Ok wk φT).f l os ((entC 104 cA cO CODES.Ok wk φT).ans l os))
include hC hD hwv htv hwk htk
end
end Go.SH

namespace Go.SH
open Go Go.Ab Go.Proofs
set_option linter.unusedVariables false
set_option linter.unusedSimpArgs false
section
variable {C D : CODES} (hC : C.Ok) (hD : D.Ok) {wv : CODES × Int → VAL × CODES} (hwv : ∀ a, vP a → vPost a (wv a)) (htv : ∀ l os, (entC 58 vA vO vP wv φV).pre l os = true → Ct V2.P V2.G (entC 58 vA vO vP wv φV).f l os ((entC 58 vA vO vP wv φV).ans l os))
  {wk : CODES → List UInt8 × CODES} (hwk : ∀ C, C.Ok → (wk C).1 ∈ keysL10 ∧ (wk C).2.Ok) (htk : ∀ l os, (entC 104 cA cO CODES.Ok wk φT).pre l os = true → Ct V2.P V2.G (entC 104 cA cO CODES.Ok wk φT).f l os ((entC 104 cA cO CODES.Ok wk φT).ans l os))
include hC hD hwv htv hwk htk
end
end Go.SH

namespace Go.SH
open Go Go.Ab Go.Proofs
set_option linter.unusedVariables false
set_option linter.unusedSimpArgs false
def getR (l : List (Int × Int × Int)) (j : Nat) : List AV := rngC (l.getD j (0, 0, 0))
def SS0 (k : Int) (C : CODES) : St := { env := [(0, .ref keyBase 0), (1, .int .i64 k), (5, .sl (.key 46) 3 0 fun _ => rngC (0, 0, 0)), (6, .int .i64 0), (7, .int .i64 0), (8, .int .i64 0)], objs := [(keyBase, codO C), (46, .own 3 0)] }
def SS (k at' last : Int) (m : Nat) (get : Nat → List AV) (C : CODES) (i : Int) : St := { env := [(0, .ref keyBase 0), (1, .int .i64 k), (5, .sl (.key 46) 3 m get), (6, .int .i64 at'), (7, .int .i64 last), (8, .int .i64 i)], objs := [(46, .own 3 m), (keyBase, codO C)] }
def SE (k at' last : Int) (m : Nat) (get : Nat → List AV) (C : CODES) : St := { env := [(0, .ref keyBase 0), (1, .int .i64 k), (5, .sl (.key 46) 3 m get), (6, .int .i64 at'), (7, .int .i64 last)], objs := [(46, .own 3 m), (keyBase, codO C)] }
structure SY where
  b : Bool
  l : List (Int × Int × Int)
  q : Nat
  a : Int
  v : Int
  C : CODES
instance : Inhabited SY := ⟨⟨true, [], 0, 0, 0, default⟩⟩
def outS (n : Int) (y : SY) (k : Ex → St → Res) : Res := cond y.b (k (.exit 0) (SE n 0 0 0 (fun _ => rngC (0, 0, 0)) y.C)) (k (.exit 0) (SE n y.a y.v (y.q + 1) (getR y.l) y.C))
def φRg (x : List (Int × Int × Int) × CODES) : AV × List AO := (rngL x.1, [codO x.2])
def K28 (l : List (Int × Int × Int)) (b : Int) (i : Nat) : St := { env := [(0, rngL l), (1, .int .i64 b), (5, .int .i64 i)], objs := [] }
set_option maxRecDepth 100000 in
theorem wide_m (ge : List AV → List AO → Bool) (ve : List AV → List AO → Int × CODES) (C : CODES) (m : Int) {t1 : Int × CODES} (h_t1 : ve [.ref 1000000 0, .int .i64 256] [codO C] = t1) {t2 : Int × CODES} (h_t2 : ve [.ref 1000000 0, .int .i64 256] [codO (Prod.snd t1)] = t2) : runF (V2.run [mkE 19 ge ve φX] 3 [] [] [] 22) 9 22 [.ref keyBase 0, .int .i64 m] [codO C] =
  cond (ge [.ref 1000000 0, .int .i64 256] [codO C]) (cond (ge [.ref 1000000 0, .int .i64 256] [codO (Prod.snd t1)]) (cond (m != 0) (some ((.int .i64 (Int.tmod (IntKind.wrap IntKind.i64 (IntKind.wrap IntKind.i64 (256 * Prod.fst t1) + Prod.fst t2)) m), [codO (Prod.snd t2)]))) (none)) (none)) (none) := by subst h_t2 h_t1; kernel_rfl
set_option maxRecDepth 100000 in
theorem number_0 (ge : List AV → List AO → Bool) (C D : CODES)  : runF (V2.run [mkE 19 ge (fun _ _ => (0, D)) φX] 3 [] [] [] 51) 9 51 [.ref keyBase 0] [codO C] =
  cond (ge [.ref 1000000 0, .int .i64 (↑15 : Int)] [codO C]) (some ((.int .i64 0, [codO D]))) (none) := by kernel_rfl
set_option maxRecDepth 100000 in
theorem number_1 (ge : List AV → List AO → Bool) (C D : CODES)  : runF (V2.run [mkE 19 ge (fun _ _ => (1, D)) φX] 3 [] [] [] 51) 9 51 [.ref keyBase 0] [codO C] =
  cond (ge [.ref 1000000 0, .int .i64 (↑15 : Int)] [codO C]) (some ((.int .i64 (-1), [codO D]))) (none) := by kernel_rfl
set_option maxRecDepth 100000 in
theorem number_2 (ge : List AV → List AO → Bool) (C D : CODES)  : runF (V2.run [mkE 19 ge (fun _ _ => (2, D)) φX] 3 [] [] [] 51) 9 51 [.ref keyBase 0] [codO C] =
  cond (ge [.ref 1000000 0, .int .i64 (↑15 : Int)] [codO C]) (some ((.int .i64 1, [codO D]))) (none) := by kernel_rfl
set_option maxRecDepth 100000 in
theorem number_3 (ge : List AV → List AO → Bool) (C D : CODES)  : runF (V2.run [mkE 19 ge (fun _ _ => (3, D)) φX] 3 [] [] [] 51) 9 51 [.ref keyBase 0] [codO C] =
  cond (ge [.ref 1000000 0, .int .i64 (↑15 : Int)] [codO C]) (some ((.int .i64 2, [codO D]))) (none) := by kernel_rfl
set_option maxRecDepth 100000 in
theorem number_4 (ge : List AV → List AO → Bool) (C D : CODES)  : runF (V2.run [mkE 19 ge (fun _ _ => (4, D)) φX] 3 [] [] [] 51) 9 51 [.ref keyBase 0] [codO C] =
  cond (ge [.ref 1000000 0, .int .i64 (↑15 : Int)] [codO C]) (some ((.int .i64 8, [codO D]))) (none) := by kernel_rfl
set_option maxRecDepth 100000 in
theorem number_5 (ge : List AV → List AO → Bool) (C D : CODES)  : runF (V2.run [mkE 19 ge (fun _ _ => (5, D)) φX] 3 [] [] [] 51) 9 51 [.ref keyBase 0] [codO C] =
  cond (ge [.ref 1000000 0, .int .i64 (↑15 : Int)] [codO C]) (some ((.int .i64 9, [codO D]))) (none) := by kernel_rfl
set_option maxRecDepth 100000 in
theorem number_6 (ge : List AV → List AO → Bool) (C D : CODES)  : runF (V2.run [mkE 19 ge (fun _ _ => (6, D)) φX] 3 [] [] [] 51) 9 51 [.ref keyBase 0] [codO C] =
  cond (ge [.ref 1000000 0, .int .i64 (↑15 : Int)] [codO C]) (some ((.int .i64 10000, [codO D]))) (none) := by kernel_rfl
set_option maxRecDepth 100000 in
theorem number_7 (ge : List AV → List AO → Bool) (C D : CODES)  : runF (V2.run [mkE 19 ge (fun _ _ => (7, D)) φX] 3 [] [] [] 51) 9 51 [.ref keyBase 0] [codO C] =
  cond (ge [.ref 1000000 0, .int .i64 (↑15 : Int)] [codO C]) (some ((.int .i64 10001, [codO D]))) (none) := by kernel_rfl
set_option maxRecDepth 100000 in
theorem number_8 (ge : List AV → List AO → Bool) (C D : CODES)  : runF (V2.run [mkE 19 ge (fun _ _ => (8, D)) φX] 3 [] [] [] 51) 9 51 [.ref keyBase 0] [codO C] =
  cond (ge [.ref 1000000 0, .int .i64 (↑15 : Int)] [codO C]) (some ((.int .i64 1099511627776, [codO D]))) (none) := by kernel_rfl
set_option maxRecDepth 100000 in
theorem number_9 (ge : List AV → List AO → Bool) (C D : CODES)  : runF (V2.run [mkE 19 ge (fun _ _ => (9, D)) φX] 3 [] [] [] 51) 9 51 [.ref keyBase 0] [codO C] =
  cond (ge [.ref 1000000 0, .int .i64 (↑15 : Int)] [codO C]) (some ((.int .i64 1099511627777, [codO D]))) (none) := by kernel_rfl
set_option maxRecDepth 100000 in
theorem number_10 (ge : List AV → List AO → Bool) (C D : CODES)  : runF (V2.run [mkE 19 ge (fun _ _ => (10, D)) φX] 3 [] [] [] 51) 9 51 [.ref keyBase 0] [codO C] =
  cond (ge [.ref 1000000 0, .int .i64 (↑15 : Int)] [codO C]) (some ((.int .i64 (-1099511627777), [codO D]))) (none) := by kernel_rfl
set_option maxRecDepth 100000 in
theorem number_11 (ge : List AV → List AO → Bool) (C D : CODES)  : runF (V2.run [mkE 19 ge (fun _ _ => (11, D)) φX] 3 [] [] [] 51) 9 51 [.ref keyBase 0] [codO C] =
  cond (ge [.ref 1000000 0, .int .i64 (↑15 : Int)] [codO C]) (some ((.int .i64 1099511627777, [codO D]))) (none) := by kernel_rfl
set_option maxRecDepth 100000 in
theorem number_12 (ge : List AV → List AO → Bool) (C D : CODES)  : runF (V2.run [mkE 19 ge (fun _ _ => (12, D)) φX] 3 [] [] [] 51) 9 51 [.ref keyBase 0] [codO C] =
  cond (ge [.ref 1000000 0, .int .i64 (↑15 : Int)] [codO C]) (some ((.int .i64 4, [codO D]))) (none) := by kernel_rfl
set_option maxRecDepth 100000 in
theorem number_13 (ge : List AV → List AO → Bool) (C D : CODES)  : runF (V2.run [mkE 19 ge (fun _ _ => (13, D)) φX] 3 [] [] [] 51) 9 51 [.ref keyBase 0] [codO C] =
  cond (ge [.ref 1000000 0, .int .i64 (↑15 : Int)] [codO C]) (some ((.int .i64 5, [codO D]))) (none) := by kernel_rfl
set_option maxRecDepth 100000 in
theorem number_14 (ge : List AV → List AO → Bool) (C D : CODES)  : runF (V2.run [mkE 19 ge (fun _ _ => (14, D)) φX] 3 [] [] [] 51) 9 51 [.ref keyBase 0] [codO C] =
  cond (ge [.ref 1000000 0, .int .i64 (↑15 : Int)] [codO C]) (some ((.int .i64 6, [codO D]))) (none) := by kernel_rfl
set_option maxRecDepth 100000 in
theorem name_0 (ge : List AV → List AO → Bool) (C D : CODES)  : runF (V2.run [mkE 19 ge (fun _ _ => (0, D)) φX] 3 [] [] [] 50) 9 50 [.ref keyBase 0] [codO C] =
  cond (ge [.ref 1000000 0, .int .i64 (↑15 : Int)] [codO C]) (some ((.str [], [codO D]))) (none) := by kernel_rfl
set_option maxRecDepth 100000 in
theorem name_1 (ge : List AV → List AO → Bool) (C D : CODES)  : runF (V2.run [mkE 19 ge (fun _ _ => (1, D)) φX] 3 [] [] [] 50) 9 50 [.ref keyBase 0] [codO C] =
  cond (ge [.ref 1000000 0, .int .i64 (↑15 : Int)] [codO C]) (some ((.str [66, 97, 100], [codO D]))) (none) := by kernel_rfl
set_option maxRecDepth 100000 in
theorem name_2 (ge : List AV → List AO → Bool) (C D : CODES)  : runF (V2.run [mkE 19 ge (fun _ _ => (2, D)) φX] 3 [] [] [] 50) 9 50 [.ref keyBase 0] [codO C] =
  cond (ge [.ref 1000000 0, .int .i64 (↑15 : Int)] [codO C]) (some ((.str [57, 97], [codO D]))) (none) := by kernel_rfl
set_option maxRecDepth 100000 in
theorem name_3 (ge : List AV → List AO → Bool) (C D : CODES)  : runF (V2.run [mkE 19 ge (fun _ _ => (3, D)) φX] 3 [] [] [] 50) 9 50 [.ref keyBase 0] [codO C] =
  cond (ge [.ref 1000000 0, .int .i64 (↑15 : Int)] [codO C]) (some ((.str [111, 110], [codO D]))) (none) := by kernel_rfl
set_option maxRecDepth 100000 in
theorem name_4 (ge : List AV → List AO → Bool) (C D : CODES)  : runF (V2.run [mkE 19 ge (fun _ _ => (4, D)) φX] 3 [] [] [] 50) 9 50 [.ref keyBase 0] [codO C] =
  cond (ge [.ref 1000000 0, .int .i64 (↑15 : Int)] [codO C]) (some ((.str [107, 101, 121], [codO D]))) (none) := by kernel_rfl
set_option maxRecDepth 100000 in
theorem name_5 (ge : List AV → List AO → Bool) (C D : CODES)  : runF (V2.run [mkE 19 ge (fun _ _ => (5, D)) φX] 3 [] [] [] 50) 9 50 [.ref keyBase 0] [codO C] =
  cond (ge [.ref 1000000 0, .int .i64 (↑15 : Int)] [codO C]) (some ((.str [122, 122], [codO D]))) (none) := by kernel_rfl
set_option maxRecDepth 100000 in
theorem name_6 (ge : List AV → List AO → Bool) (C D : CODES)  : runF (V2.run [mkE 19 ge (fun _ _ => (6, D)) φX] 3 [] [] [] 50) 9 50 [.ref keyBase 0] [codO C] =
  cond (ge [.ref 1000000 0, .int .i64 (↑15 : Int)] [codO C]) (some ((.str [97], [codO D]))) (none) := by kernel_rfl
set_option maxRecDepth 100000 in
theorem name_7 (ge : List AV → List AO → Bool) (C D : CODES)  : runF (V2.run [mkE 19 ge (fun _ _ => (7, D)) φX] 3 [] [] [] 50) 9 50 [.ref keyBase 0] [codO C] =
  cond (ge [.ref 1000000 0, .int .i64 (↑15 : Int)] [codO C]) (some ((.str [97, 108, 112, 104, 97], [codO D]))) (none) := by kernel_rfl
set_option maxRecDepth 100000 in
theorem name_8 (ge : List AV → List AO → Bool) (C D : CODES)  : runF (V2.run [mkE 19 ge (fun _ _ => (8, D)) φX] 3 [] [] [] 50) 9 50 [.ref keyBase 0] [codO C] =
  cond (ge [.ref 1000000 0, .int .i64 (↑15 : Int)] [codO C]) (some ((.str [102, 97], [codO D]))) (none) := by kernel_rfl
set_option maxRecDepth 100000 in
theorem name_9 (ge : List AV → List AO → Bool) (C D : CODES)  : runF (V2.run [mkE 19 ge (fun _ _ => (9, D)) φX] 3 [] [] [] 50) 9 50 [.ref keyBase 0] [codO C] =
  cond (ge [.ref 1000000 0, .int .i64 (↑15 : Int)] [codO C]) (some ((.str [102, 98], [codO D]))) (none) := by kernel_rfl
set_option maxRecDepth 100000 in
theorem name_10 (ge : List AV → List AO → Bool) (C D : CODES)  : runF (V2.run [mkE 19 ge (fun _ _ => (10, D)) φX] 3 [] [] [] 50) 9 50 [.ref keyBase 0] [codO C] =
  cond (ge [.ref 1000000 0, .int .i64 (↑15 : Int)] [codO C]) (some ((.str [108, 97], [codO D]))) (none) := by kernel_rfl
set_option maxRecDepth 100000 in
theorem name_11 (ge : List AV → List AO → Bool) (C D : CODES)  : runF (V2.run [mkE 19 ge (fun _ _ => (11, D)) φX] 3 [] [] [] 50) 9 50 [.ref keyBase 0] [codO C] =
  cond (ge [.ref 1000000 0, .int .i64 (↑15 : Int)] [codO C]) (some ((.str [120, 97], [codO D]))) (none) := by kernel_rfl
set_option maxRecDepth 100000 in
theorem name_12 (ge : List AV → List AO → Bool) (C D : CODES)  : runF (V2.run [mkE 19 ge (fun _ _ => (12, D)) φX] 3 [] [] [] 50) 9 50 [.ref keyBase 0] [codO C] =
  cond (ge [.ref 1000000 0, .int .i64 (↑15 : Int)] [codO C]) (some ((.str [97, 98, 99, 100, 101, 102, 103, 104, 105, 106, 107, 108, 109, 110, 111, 112, 113, 114, 115, 116, 117, 118, 119, 120, 121, 122, 48, 49, 50, 51, 52, 53, 54], [codO D]))) (none) := by kernel_rfl
set_option maxRecDepth 100000 in
theorem name_13 (ge : List AV → List AO → Bool) (C D : CODES)  : runF (V2.run [mkE 19 ge (fun _ _ => (13, D)) φX] 3 [] [] [] 50) 9 50 [.ref keyBase 0] [codO C] =
  cond (ge [.ref 1000000 0, .int .i64 (↑15 : Int)] [codO C]) (some ((.str [117, 115, 101, 114], [codO D]))) (none) := by kernel_rfl
set_option maxRecDepth 100000 in
theorem name_14 (ge : List AV → List AO → Bool) (C D : CODES)  : runF (V2.run [mkE 19 ge (fun _ _ => (14, D)) φX] 3 [] [] [] 50) 9 50 [.ref keyBase 0] [codO C] =
  cond (ge [.ref 1000000 0, .int .i64 (↑15 : Int)] [codO C]) (some ((.str [97, 46, 98], [codO D]))) (none) := by kernel_rfl
set_option maxRecDepth 100000 in
theorem dsp_r0 (ge gw : List AV → List AO → Bool) (ve vw : List AV → List AO → Int × CODES) (L : List (List Nat × Orc)) (m : Nat) (n : Int) (C : CODES) (kn : St → Res) (k : Ex → St → Res) {t1 : Int × CODES} (h_t1 : ve [.ref 1000000 0, .int .i64 4] [codO C] = t1) {t2 : Int × CODES} (h_t2 : vw [.ref 1000000 0, .int .i64 5000] [codO (Prod.snd t1)] = t2) {t3 : Int × CODES} (h_t3 : ve [.ref 1000000 0, .int .i64 n] [codO (Prod.snd t2)] = t3) : roundR (V2.run [mkE 19 ge ve φX, mkE 22 gw vw φX] 3 [] L [] 20) 20 m [1, 1, 1, 0, 1, 0] (SS0 n C) kn k =
  cond (ge [.ref 1000000 0, .int .i64 4] [codO C]) (cond (bif decide (0 < Prod.fst t1) then decide (n > 1) else false) (cond (gw [.ref 1000000 0, .int .i64 5000] [codO (Prod.snd t1)]) (cond (ge [.ref 1000000 0, .int .i64 n] [codO (Prod.snd t2)]) (cond (IntKind.wrap IntKind.i64 (1 + Prod.fst t3) == 0) (cond (n != 0) (cond (decide (IntKind.wrap IntKind.i64 (IntKind.wrap IntKind.i64 (0 + 1) + Prod.fst t2) ≥ 10000)) (k (.exit 0) (SE n 0 0 0 (fun x => [.int .i64 0, .int .i64 0, .int .i64 0]) (Prod.snd t3))) (kn (SS n (IntKind.wrap IntKind.i64 (IntKind.wrap IntKind.i64 (0 + 1) + Prod.fst t2)) (IntKind.wrap IntKind.i64 (1 + Int.tmod (IntKind.wrap IntKind.i64 (1 + Prod.fst t3)) n)) 1 (appGet 0 1 (fun x => [.int .i64 0, .int .i64 0, .int .i64 0]) (fillGet [.int .i64 0, .int .i64 0, .int .i64 0] [(0, .agg [.int .i64 0, .int .i64 (IntKind.wrap IntKind.i64 (IntKind.wrap IntKind.i64 (0 + 1) + Prod.fst t2)), .int .i64 (IntKind.wrap IntKind.i64 (1 + Int.tmod (IntKind.wrap IntKind.i64 (1 + Prod.fst t3)) n))])])) (Prod.snd t3) (IntKind.wrap IntKind.i64 (0 + 1))))) (none)) (cond (decide (IntKind.wrap IntKind.i64 (IntKind.wrap IntKind.i64 (0 + 1) + Prod.fst t2) ≥ 10000)) (k (.exit 0) (SE n 0 0 0 (fun x => [.int .i64 0, .int .i64 0, .int .i64 0]) (Prod.snd t3))) (kn (SS n (IntKind.wrap IntKind.i64 (IntKind.wrap IntKind.i64 (0 + 1) + Prod.fst t2)) (IntKind.wrap IntKind.i64 (1 + Prod.fst t3)) 1 (appGet 0 1 (fun x => [.int .i64 0, .int .i64 0, .int .i64 0]) (fillGet [.int .i64 0, .int .i64 0, .int .i64 0] [(0, .agg [.int .i64 0, .int .i64 (IntKind.wrap IntKind.i64 (IntKind.wrap IntKind.i64 (0 + 1) + Prod.fst t2)), .int .i64 (IntKind.wrap IntKind.i64 (1 + Prod.fst t3))])])) (Prod.snd t3) (IntKind.wrap IntKind.i64 (0 + 1)))))) (none)) (none)) (k (.exit 0) (SE n 0 0 0 (fun x => [.int .i64 0, .int .i64 0, .int .i64 0]) (Prod.snd t1)))) (none) := by subst h_t3 h_t2 h_t1; kernel_rfl
set_option maxRecDepth 100000 in
theorem dsp_r (ge gw : List AV → List AO → Bool) (ve vw : List AV → List AO → Int × CODES) (L : List (List Nat × Orc)) (m : Nat) (n at' last : Int) (q : Nat) (get : Nat → List AV) (C : CODES) (i : Int) (kn : St → Res) (k : Ex → St → Res) {t1 : Int × CODES} (h_t1 : ve [.ref 1000000 0, .int .i64 4] [codO C] = t1) {t2 : Int × CODES} (h_t2 : vw [.ref 1000000 0, .int .i64 5000] [codO (Prod.snd t1)] = t2) {t3 : Int × CODES} (h_t3 : ve [.ref 1000000 0, .int .i64 n] [codO (Prod.snd t2)] = t3) : roundR (V2.run [mkE 19 ge ve φX, mkE 22 gw vw φX] 3 [] L [] 20) 20 m [1, 1, 1, 0, 1, 0] (SS n at' last (q + 1) get C i) kn k =
  cond (ge [.ref 1000000 0, .int .i64 4] [codO C]) (cond (bif decide (i < Prod.fst t1) then decide (n > 1) else false) (cond (gw [.ref 1000000 0, .int .i64 5000] [codO (Prod.snd t1)]) (cond (ge [.ref 1000000 0, .int .i64 n] [codO (Prod.snd t2)]) (cond (IntKind.wrap IntKind.i64 (1 + Prod.fst t3) == last) (cond (n != 0) (cond (decide (IntKind.wrap IntKind.i64 (IntKind.wrap IntKind.i64 (at' + 1) + Prod.fst t2) ≥ 10000)) (k (.exit 0) (SE n at' last (q + 1) get (Prod.snd t3))) (cond (roomy (24) (q + 1 + 1) && Nat.beq (q + 1) (q + 1)) (kn (SS n (IntKind.wrap IntKind.i64 (IntKind.wrap IntKind.i64 (at' + 1) + Prod.fst t2)) (IntKind.wrap IntKind.i64 (1 + Int.tmod (IntKind.wrap IntKind.i64 (1 + Prod.fst t3)) n)) (q + 1 + 1) (appGet (q + 1) 1 get (fillGet [.int .i64 0, .int .i64 0, .int .i64 0] [(0, .agg [.int .i64 at', .int .i64 (IntKind.wrap IntKind.i64 (IntKind.wrap IntKind.i64 (at' + 1) + Prod.fst t2)), .int .i64 (IntKind.wrap IntKind.i64 (1 + Int.tmod (IntKind.wrap IntKind.i64 (1 + Prod.fst t3)) n))])])) (Prod.snd t3) (IntKind.wrap IntKind.i64 (i + 1)))) (none))) (none)) (cond (decide (IntKind.wrap IntKind.i64 (IntKind.wrap IntKind.i64 (at' + 1) + Prod.fst t2) ≥ 10000)) (k (.exit 0) (SE n at' last (q + 1) get (Prod.snd t3))) (cond (roomy (24) (q + 1 + 1) && Nat.beq (q + 1) (q + 1)) (kn (SS n (IntKind.wrap IntKind.i64 (IntKind.wrap IntKind.i64 (at' + 1) + Prod.fst t2)) (IntKind.wrap IntKind.i64 (1 + Prod.fst t3)) (q + 1 + 1) (appGet (q + 1) 1 get (fillGet [.int .i64 0, .int .i64 0, .int .i64 0] [(0, .agg [.int .i64 at', .int .i64 (IntKind.wrap IntKind.i64 (IntKind.wrap IntKind.i64 (at' + 1) + Prod.fst t2)), .int .i64 (IntKind.wrap IntKind.i64 (1 + Prod.fst t3))])])) (Prod.snd t3) (IntKind.wrap IntKind.i64 (i + 1)))) (none)))) (none)) (none)) (k (.exit 0) (SE n at' last (q + 1) get (Prod.snd t1)))) (none) := by subst h_t3 h_t2 h_t1; kernel_rfl
set_option maxRecDepth 100000 in
theorem dsp_m (ge gw : List AV → List AO → Bool) (ve vw : List AV → List AO → Int × CODES) (g : St → Bool) (v : St → SY) (n : Int) (C : CODES) {t1 : SY} (h_t1 : v (SS0 n C) = t1) {t2 : Int × CODES} (h_t2 : ve [.ref 1000000 0, .int .i64 n] [codO (SY.C t1)] = t2) : runF (V2.run [mkE 19 ge ve φX, mkE 22 gw vw φX] 3 [] [([1, 1, 1, 0, 1, 0], mkO g v (outS n))] [] 20) 9 20 [.ref keyBase 0, .int .i64 n] [codO C] =
  cond (g (SS0 n C)) (cond (SY.b t1) (cond (ge [.ref 1000000 0, .int .i64 n] [codO (SY.C t1)]) (cond (IntKind.wrap IntKind.i64 (1 + Prod.fst t2) == 0) (cond (n != 0) (some ((.sl .no 3 1 (appGet 0 1 (fun x => [.int .i64 0, .int .i64 0, .int .i64 0]) (fillGet [.int .i64 0, .int .i64 0, .int .i64 0] [(0, .agg [.int .i64 0, .int .i64 10000, .int .i64 (IntKind.wrap IntKind.i64 (1 + Int.tmod (IntKind.wrap IntKind.i64 (1 + Prod.fst t2)) n))])])), [codO (Prod.snd t2)]))) (none)) (some ((.sl .no 3 1 (appGet 0 1 (fun x => [.int .i64 0, .int .i64 0, .int .i64 0]) (fillGet [.int .i64 0, .int .i64 0, .int .i64 0] [(0, .agg [.int .i64 0, .int .i64 10000, .int .i64 (IntKind.wrap IntKind.i64 (1 + Prod.fst t2))])])), [codO (Prod.snd t2)])))) (none)) (cond (ge [.ref 1000000 0, .int .i64 n] [codO (SY.C t1)]) (cond (IntKind.wrap IntKind.i64 (1 + Prod.fst t2) == SY.v t1) (cond (n != 0) (cond (roomy (24) (SY.q t1 + 1 + 1) && Nat.beq (SY.q t1 + 1) (SY.q t1 + 1)) (some ((.sl .no 3 (SY.q t1 + 1 + 1) (appGet (SY.q t1 + 1) 1 (getR (SY.l t1)) (fillGet [.int .i64 0, .int .i64 0, .int .i64 0] [(0, .agg [.int .i64 (SY.a t1), .int .i64 10000, .int .i64 (IntKind.wrap IntKind.i64 (1 + Int.tmod (IntKind.wrap IntKind.i64 (1 + Prod.fst t2)) n))])])), [codO (Prod.snd t2)]))) (none)) (none)) (cond (roomy (24) (SY.q t1 + 1 + 1) && Nat.beq (SY.q t1 + 1) (SY.q t1 + 1)) (some ((.sl .no 3 (SY.q t1 + 1 + 1) (appGet (SY.q t1 + 1) 1 (getR (SY.l t1)) (fillGet [.int .i64 0, .int .i64 0, .int .i64 0] [(0, .agg [.int .i64 (SY.a t1), .int .i64 10000, .int .i64 (IntKind.wrap IntKind.i64 (1 + Prod.fst t2))])])), [codO (Prod.snd t2)]))) (none))) (none))) (none) := by subst h_t2 h_t1; kernel_rfl
end Go.SH
