/- Parts of the proof of a law, in build order: AeT, Ae18, Ae19, Ae20, Ae21, Ae22, Ae23, LexS, TrydShelf. -/
import Derived.Test.YtjdbmjllhmmddaaDoorP8Q1
import Derived.Test.YtjdbmjllhmmddaaDoorProg
import Derived.Defers
import Derived.Recover
import Derived.Laws.RangeString
import Derived.Laws.RangeAny
import Derived.Lib.Bytealg
import Derived.Lib.IndexAny
import Derived.Lib.ItoaNum
import Derived.Lib.IndexMore
import Derived.Shelf.Small.Utf8
import Derived.Shelf.Small.Strs
import Derived.Shelf.Strconv.Itoa0
import Derived.Shelf.Strconv.Itoa1
import Derived.Shelf.LaysM
import Derived.Shelf.Strconv.Itoa2
import Derived.Shelf.Strconv.Itoa3
import Derived.Shelf.Strconv.Clone
import Derived.Shelf.Strconv.SyntaxError
import Derived.Shelf.LaysC
import Derived.Shelf.Strconv.ToError
import Derived.Shelf.Strconv.Lower
import Derived.Shelf.Strconv.RangeError
import Derived.Shelf.Strconv.ToErrorRange
import Derived.Shelf.Strings.Search1
import Derived.Shelf.Strings.Search2
import Derived.Shelf.Strings.Search3
import Derived.Shelf.Strings.Shaped
import Derived.Shelf.Strings.Prefix
import Derived.Shelf.Strings.Runes
import Derived.Shelf.Strings.IndexAny
import Derived.Shelf.Strings.AsciiSet
import Derived.Shelf.Strings.IndexAnyAll
set_option maxRecDepth 2000
set_option linter.unusedVariables false
set_option linter.unusedSimpArgs false
/- The types of this seat's program, as the walk wants them. PRINTED BY gentab.py. -/
set_option maxRecDepth 4000
namespace Go.AE
open Go.Proofs

def L_eqs := ([(2, .int),
  (3, .int),
  (4, .bool),
  (5, .int),
  (6, .int),
  (9, .str),
  (10, .str),
  (20, (.ifc [116])),
  (21, .int),
  (25, .int),
  (30, .int),
  (31, .int),
  (61, .func),
  (64, .ptr),
  (69, .ptr),
  (92, .int),
  (95, (.ifc [116])),
  (113, .int),
  (116, .int),
  (118, .ptr),
  (142, .int),
  (144, .ptr),
  (145, .ptr)] : List (Nat × EqS))
def L_eqf := ([(26, [.int, .int, .int]),
  (27, [.int, .int, .int]),
  (32, [.int, .str, .int, .int, .int]),
  (33, [.int, .str, .int, .int, .int]),
  (50, [.int, .str]),
  (51, [.int, .str]),
  (65, [.str, .int, .int]),
  (66, [.str, .int, .int]),
  (146, [.str]),
  (147, [.str])] : List (Nat × List EqS))
def L_sz := ([(2, (false, 1)),
  (3, (false, 1)),
  (4, (false, 1)),
  (5, (false, 1)),
  (6, (false, 1)),
  (9, (false, 1)),
  (10, (false, 1)),
  (20, (false, 1)),
  (21, (false, 1)),
  (24, (false, 1)),
  (25, (false, 1)),
  (26, (true, 3)),
  (27, (true, 3)),
  (30, (false, 1)),
  (31, (false, 1)),
  (32, (true, 5)),
  (33, (true, 5)),
  (35, (false, 1)),
  (36, (false, 1)),
  (37, (false, 1)),
  (38, (false, 1)),
  (39, (true, 4)),
  (40, (true, 4)),
  (44, (false, 1)),
  (45, (true, 3)),
  (46, (true, 3)),
  (48, (false, 1)),
  (50, (true, 2)),
  (51, (true, 2)),
  (52, (false, 1)),
  (53, (true, 9)),
  (54, (true, 9)),
  (55, (true, 14)),
  (56, (true, 14)),
  (57, (true, 27)),
  (58, (true, 27)),
  (59, (true, 58)),
  (60, (true, 58)),
  (61, (false, 1)),
  (64, (false, 1)),
  (65, (true, 3)),
  (66, (true, 3)),
  (69, (false, 1)),
  (70, (true, 6)),
  (71, (true, 6)),
  (73, (true, 0)),
  (80, (true, 4)),
  (81, (true, 4)),
  (83, (true, 5)),
  (84, (true, 5)),
  (87, (true, 5)),
  (88, (true, 5)),
  (92, (false, 1)),
  (93, (false, 1)),
  (95, (false, 1)),
  (99, (true, 3)),
  (106, (true, 4)),
  (113, (false, 1)),
  (116, (false, 1)),
  (118, (false, 1)),
  (134, (true, 3)),
  (135, (true, 3)),
  (138, (true, 20)),
  (142, (false, 1)),
  (144, (false, 1)),
  (145, (false, 1)),
  (146, (true, 1)),
  (147, (true, 1)),
  (150, (true, 9))] : List (Nat × (Bool × Nat)))
def L_zero := ([(2, [.int .i64 0]),
  (3, [.int .i64 0]),
  (4, [.bool false]),
  (5, [.int .u8 0]),
  (6, [.int .u8 0]),
  (9, [.str []]),
  (10, [.str []]),
  (20, [.nilIface]),
  (21, [.int .i32 0]),
  (24, [.slice [] 0 .exact]),
  (25, [.int .i64 0]),
  (26, [.int .i64 0, .int .i64 0, .int .i64 0]),
  (27, [.int .i64 0, .int .i64 0, .int .i64 0]),
  (30, [.int .i64 0]),
  (31, [.int .u64 0]),
  (32, [.int .i64 0, .str [], .int .u64 0, .int .i64 0, .int .i64 0]),
  (33, [.int .i64 0, .str [], .int .u64 0, .int .i64 0, .int .i64 0]),
  (35, [.slice [] 0 .exact]),
  (36, [.slice [] 0 .exact]),
  (37, [.slice [] 0 .exact]),
  (38, [.slice [] 0 .exact]),
  (39, [.slice [] 0 .exact, .slice [] 0 .exact, .slice [] 0 .exact, .slice [] 0 .exact]),
  (40, [.slice [] 0 .exact, .slice [] 0 .exact, .slice [] 0 .exact, .slice [] 0 .exact]),
  (44, [.slice [] 0 .exact]),
  (45, [.slice [] 0 .exact, .int .i64 0, .int .i64 0]),
  (46, [.slice [] 0 .exact, .int .i64 0, .int .i64 0]),
  (48, [.slice [] 0 .exact]),
  (50, [.int .i64 0, .str []]),
  (51, [.int .i64 0, .str []]),
  (52, [.slice [] 0 .exact]),
  (53, [.int .i64 0, .int .i64 0, .int .u64 0, .int .i64 0, .str [], .str [], .slice [] 0 .exact, .int .i64 0, .int .i64 0]),
  (54, [.int .i64 0, .int .i64 0, .int .u64 0, .int .i64 0, .str [], .str [], .slice [] 0 .exact, .int .i64 0, .int .i64 0]),
  (55, [.int .i64 0, .str [], .str [], .int .i64 0, .int .i64 0, .int .u64 0, .int .i64 0, .str [], .str [], .slice [] 0 .exact, .int .i64 0, .int .i64 0, .int .i64 0, .int .i64 0]),
  (56, [.int .i64 0, .str [], .str [], .int .i64 0, .int .i64 0, .int .u64 0, .int .i64 0, .str [], .str [], .slice [] 0 .exact, .int .i64 0, .int .i64 0, .int .i64 0, .int .i64 0]),
  (57, [.int .i64 0, .int .i64 0, .int .i64 0, .int .u64 0, .int .i64 0, .str [], .str [], .slice [] 0 .exact, .int .i64 0, .int .i64 0, .int .i64 0, .str [], .str [], .int .i64 0, .int .i64 0, .int .u64 0, .int .i64 0, .str [], .str [], .slice [] 0 .exact, .int .i64 0, .int .i64 0, .int .i64 0, .int .i64 0, .str [], .int .i64 0, .int .i64 0]),
  (58, [.int .i64 0, .int .i64 0, .int .i64 0, .int .u64 0, .int .i64 0, .str [], .str [], .slice [] 0 .exact, .int .i64 0, .int .i64 0, .int .i64 0, .str [], .str [], .int .i64 0, .int .i64 0, .int .u64 0, .int .i64 0, .str [], .str [], .slice [] 0 .exact, .int .i64 0, .int .i64 0, .int .i64 0, .int .i64 0, .str [], .int .i64 0, .int .i64 0]),
  (59, [.int .i64 0, .str [], .int .i64 0, .int .i64 0, .int .i64 0, .int .u64 0, .int .i64 0, .str [], .str [], .slice [] 0 .exact, .int .i64 0, .int .i64 0, .int .i64 0, .str [], .str [], .int .i64 0, .int .i64 0, .int .u64 0, .int .i64 0, .str [], .str [], .slice [] 0 .exact, .int .i64 0, .int .i64 0, .int .i64 0, .int .i64 0, .str [], .int .i64 0, .int .i64 0, .int .i64 0, .str [], .str [], .int .i64 0, .int .i64 0, .int .u64 0, .int .i64 0, .str [], .str [], .slice [] 0 .exact, .int .i64 0, .int .i64 0, .int .i64 0, .int .i64 0, .int .i64 0, .int .i64 0, .int .u64 0, .int .i64 0, .str [], .str [], .slice [] 0 .exact, .int .i64 0, .int .i64 0, .int .i64 0, .slice [] 0 .exact, .slice [] 0 .exact, .slice [] 0 .exact, .int .i64 0, .int .i64 0]),
  (60, [.int .i64 0, .str [], .int .i64 0, .int .i64 0, .int .i64 0, .int .u64 0, .int .i64 0, .str [], .str [], .slice [] 0 .exact, .int .i64 0, .int .i64 0, .int .i64 0, .str [], .str [], .int .i64 0, .int .i64 0, .int .u64 0, .int .i64 0, .str [], .str [], .slice [] 0 .exact, .int .i64 0, .int .i64 0, .int .i64 0, .int .i64 0, .str [], .int .i64 0, .int .i64 0, .int .i64 0, .str [], .str [], .int .i64 0, .int .i64 0, .int .u64 0, .int .i64 0, .str [], .str [], .slice [] 0 .exact, .int .i64 0, .int .i64 0, .int .i64 0, .int .i64 0, .int .i64 0, .int .i64 0, .int .u64 0, .int .i64 0, .str [], .str [], .slice [] 0 .exact, .int .i64 0, .int .i64 0, .int .i64 0, .slice [] 0 .exact, .slice [] 0 .exact, .slice [] 0 .exact, .int .i64 0, .int .i64 0]),
  (61, [.nilFunc]),
  (64, [.nilp]),
  (65, [.str [], .int .i64 0, .int .i64 0]),
  (66, [.str [], .int .i64 0, .int .i64 0]),
  (69, [.nilp]),
  (70, [.slice [] 0 .exact, .int .i64 0, .int .i64 0, .int .i64 0, .int .i64 0, .int .i64 0]),
  (71, [.slice [] 0 .exact, .int .i64 0, .int .i64 0, .int .i64 0, .int .i64 0, .int .i64 0]),
  (73, []),
  (80, [.str [], .slice [] 0 .exact, .int .i64 0, .int .i64 0]),
  (81, [.str [], .slice [] 0 .exact, .int .i64 0, .int .i64 0]),
  (83, [.str [], .int .i64 0, .str [], .int .i64 0, .int .i64 0]),
  (84, [.str [], .int .i64 0, .str [], .int .i64 0, .int .i64 0]),
  (87, [.str [], .slice [] 0 .exact, .slice [] 0 .exact, .int .i64 0, .int .i64 0]),
  (88, [.str [], .slice [] 0 .exact, .slice [] 0 .exact, .int .i64 0, .int .i64 0]),
  (92, [.int .u64 0]),
  (93, [.slice [] 0 .exact]),
  (95, [.nilIface]),
  (99, [.str [], .str [], .str []]),
  (106, [.str [], .str [], .str [], .str []]),
  (113, [.int .u32 0]),
  (116, [.int .i64 0]),
  (118, [.nilp]),
  (134, [.str [], .str [], .nilIface]),
  (135, [.str [], .str [], .nilIface]),
  (138, [.int .u64 0, .int .u64 0, .int .u64 0, .int .u64 0, .int .u64 0, .int .u64 0, .int .u64 0, .int .u64 0, .int .u64 0, .int .u64 0, .int .u64 0, .int .u64 0, .int .u64 0, .int .u64 0, .int .u64 0, .int .u64 0, .int .u64 0, .int .u64 0, .int .u64 0, .int .u64 0]),
  (142, [.int .i64 0]),
  (144, [.nilp]),
  (145, [.nilp]),
  (146, [.str []]),
  (147, [.str []]),
  (150, [.str [], .str [], .str [], .str [], .str [], .str [], .str [], .str [], .str []])] : List (Nat × List AV))
def L_fld := ([(26, [(0, false, 1), (1, false, 1), (2, false, 1)]),
  (27, [(0, false, 1), (1, false, 1), (2, false, 1)]),
  (32, [(0, false, 1), (1, false, 1), (2, false, 1), (3, false, 1), (4, false, 1)]),
  (33, [(0, false, 1), (1, false, 1), (2, false, 1), (3, false, 1), (4, false, 1)]),
  (39, [(0, false, 1), (1, false, 1), (2, false, 1), (3, false, 1)]),
  (40, [(0, false, 1), (1, false, 1), (2, false, 1), (3, false, 1)]),
  (45, [(0, false, 1), (1, false, 1), (2, false, 1)]),
  (46, [(0, false, 1), (1, false, 1), (2, false, 1)]),
  (50, [(0, false, 1), (1, false, 1)]),
  (51, [(0, false, 1), (1, false, 1)]),
  (53, [(0, false, 1), (1, false, 1), (2, false, 1), (3, true, 2), (5, false, 1), (6, false, 1), (7, false, 1), (8, false, 1)]),
  (54, [(0, false, 1), (1, false, 1), (2, false, 1), (3, true, 2), (5, false, 1), (6, false, 1), (7, false, 1), (8, false, 1)]),
  (55, [(0, false, 1), (1, false, 1), (2, false, 1), (3, true, 9), (12, false, 1), (13, false, 1)]),
  (56, [(0, false, 1), (1, false, 1), (2, false, 1), (3, true, 9), (12, false, 1), (13, false, 1)]),
  (57, [(0, false, 1), (1, true, 9), (10, true, 14), (24, false, 1), (25, false, 1), (26, false, 1)]),
  (58, [(0, false, 1), (1, true, 9), (10, true, 14), (24, false, 1), (25, false, 1), (26, false, 1)]),
  (59, [(0, false, 1), (1, false, 1), (2, true, 27), (29, true, 14), (43, true, 9), (52, false, 1), (53, false, 1), (54, false, 1), (55, false, 1), (56, false, 1), (57, false, 1)]),
  (60, [(0, false, 1), (1, false, 1), (2, true, 27), (29, true, 14), (43, true, 9), (52, false, 1), (53, false, 1), (54, false, 1), (55, false, 1), (56, false, 1), (57, false, 1)]),
  (65, [(0, false, 1), (1, false, 1), (2, false, 1)]),
  (66, [(0, false, 1), (1, false, 1), (2, false, 1)]),
  (70, [(0, false, 1), (1, false, 1), (2, false, 1), (3, true, 3)]),
  (71, [(0, false, 1), (1, false, 1), (2, false, 1), (3, true, 3)]),
  (73, []),
  (80, [(0, false, 1), (1, false, 1), (2, false, 1), (3, false, 1)]),
  (81, [(0, false, 1), (1, false, 1), (2, false, 1), (3, false, 1)]),
  (83, [(0, false, 1), (1, true, 2), (3, false, 1), (4, false, 1)]),
  (84, [(0, false, 1), (1, true, 2), (3, false, 1), (4, false, 1)]),
  (87, [(0, false, 1), (1, false, 1), (2, false, 1), (3, false, 1), (4, false, 1)]),
  (88, [(0, false, 1), (1, false, 1), (2, false, 1), (3, false, 1), (4, false, 1)]),
  (134, [(0, false, 1), (1, false, 1), (2, false, 1)]),
  (135, [(0, false, 1), (1, false, 1), (2, false, 1)]),
  (146, [(0, false, 1)]),
  (147, [(0, false, 1)])] : List (Nat × List (Nat × Bool × Nat)))
def L_elm := ([(24, (33, 5, true, 48)),
  (35, (81, 4, true, 56)),
  (36, (84, 5, true, 56)),
  (37, (88, 5, true, 80)),
  (38, (46, 3, true, 40)),
  (44, (60, 58, true, 688)),
  (48, (9, 1, false, 16)),
  (52, (54, 9, true, 104)),
  (93, (5, 1, false, 1))] : List (Nat × (Nat × Nat × Bool × Nat)))
def L_arr := ([(99, (3, 1, false)),
  (106, (4, 1, false)),
  (138, (20, 1, false)),
  (150, (9, 1, false))] : List (Nat × (Nat × Nat × Bool)))
def L_str := ([(9, ()),
  (10, ())] : List (Nat × Unit))
def L_int := ([(2, .i64),
  (3, .i64),
  (5, .u8),
  (6, .u8),
  (21, .i32),
  (25, .i64),
  (30, .i64),
  (31, .u64),
  (92, .u64),
  (113, .u32),
  (116, .i64),
  (142, .i64)] : List (Nat × IntKind))
def L_bld := ([(26, (.rows [(0, 1), (1, 1), (2, 1)], [.int .i64 0, .int .i64 0, .int .i64 0])),
  (27, (.rows [(0, 1), (1, 1), (2, 1)], [.int .i64 0, .int .i64 0, .int .i64 0])),
  (32, (.rows [(0, 1), (1, 1), (2, 1), (3, 1), (4, 1)], [.int .i64 0, .str [], .int .u64 0, .int .i64 0, .int .i64 0])),
  (33, (.rows [(0, 1), (1, 1), (2, 1), (3, 1), (4, 1)], [.int .i64 0, .str [], .int .u64 0, .int .i64 0, .int .i64 0])),
  (39, (.rows [(0, 1), (1, 1), (2, 1), (3, 1)], [.slice [] 0 .exact, .slice [] 0 .exact, .slice [] 0 .exact, .slice [] 0 .exact])),
  (40, (.rows [(0, 1), (1, 1), (2, 1), (3, 1)], [.slice [] 0 .exact, .slice [] 0 .exact, .slice [] 0 .exact, .slice [] 0 .exact])),
  (45, (.rows [(0, 1), (1, 1), (2, 1)], [.slice [] 0 .exact, .int .i64 0, .int .i64 0])),
  (46, (.rows [(0, 1), (1, 1), (2, 1)], [.slice [] 0 .exact, .int .i64 0, .int .i64 0])),
  (50, (.rows [(0, 1), (1, 1)], [.int .i64 0, .str []])),
  (51, (.rows [(0, 1), (1, 1)], [.int .i64 0, .str []])),
  (53, (.rows [(0, 1), (1, 1), (2, 1), (3, 2), (5, 1), (6, 1), (7, 1), (8, 1)], [.int .i64 0, .int .i64 0, .int .u64 0, .int .i64 0, .str [], .str [], .slice [] 0 .exact, .int .i64 0, .int .i64 0])),
  (54, (.rows [(0, 1), (1, 1), (2, 1), (3, 2), (5, 1), (6, 1), (7, 1), (8, 1)], [.int .i64 0, .int .i64 0, .int .u64 0, .int .i64 0, .str [], .str [], .slice [] 0 .exact, .int .i64 0, .int .i64 0])),
  (55, (.rows [(0, 1), (1, 1), (2, 1), (3, 9), (12, 1), (13, 1)], [.int .i64 0, .str [], .str [], .int .i64 0, .int .i64 0, .int .u64 0, .int .i64 0, .str [], .str [], .slice [] 0 .exact, .int .i64 0, .int .i64 0, .int .i64 0, .int .i64 0])),
  (56, (.rows [(0, 1), (1, 1), (2, 1), (3, 9), (12, 1), (13, 1)], [.int .i64 0, .str [], .str [], .int .i64 0, .int .i64 0, .int .u64 0, .int .i64 0, .str [], .str [], .slice [] 0 .exact, .int .i64 0, .int .i64 0, .int .i64 0, .int .i64 0])),
  (57, (.rows [(0, 1), (1, 9), (10, 14), (24, 1), (25, 1), (26, 1)], [.int .i64 0, .int .i64 0, .int .i64 0, .int .u64 0, .int .i64 0, .str [], .str [], .slice [] 0 .exact, .int .i64 0, .int .i64 0, .int .i64 0, .str [], .str [], .int .i64 0, .int .i64 0, .int .u64 0, .int .i64 0, .str [], .str [], .slice [] 0 .exact, .int .i64 0, .int .i64 0, .int .i64 0, .int .i64 0, .str [], .int .i64 0, .int .i64 0])),
  (58, (.rows [(0, 1), (1, 9), (10, 14), (24, 1), (25, 1), (26, 1)], [.int .i64 0, .int .i64 0, .int .i64 0, .int .u64 0, .int .i64 0, .str [], .str [], .slice [] 0 .exact, .int .i64 0, .int .i64 0, .int .i64 0, .str [], .str [], .int .i64 0, .int .i64 0, .int .u64 0, .int .i64 0, .str [], .str [], .slice [] 0 .exact, .int .i64 0, .int .i64 0, .int .i64 0, .int .i64 0, .str [], .int .i64 0, .int .i64 0])),
  (59, (.rows [(0, 1), (1, 1), (2, 27), (29, 14), (43, 9), (52, 1), (53, 1), (54, 1), (55, 1), (56, 1), (57, 1)], [.int .i64 0, .str [], .int .i64 0, .int .i64 0, .int .i64 0, .int .u64 0, .int .i64 0, .str [], .str [], .slice [] 0 .exact, .int .i64 0, .int .i64 0, .int .i64 0, .str [], .str [], .int .i64 0, .int .i64 0, .int .u64 0, .int .i64 0, .str [], .str [], .slice [] 0 .exact, .int .i64 0, .int .i64 0, .int .i64 0, .int .i64 0, .str [], .int .i64 0, .int .i64 0, .int .i64 0, .str [], .str [], .int .i64 0, .int .i64 0, .int .u64 0, .int .i64 0, .str [], .str [], .slice [] 0 .exact, .int .i64 0, .int .i64 0, .int .i64 0, .int .i64 0, .int .i64 0, .int .i64 0, .int .u64 0, .int .i64 0, .str [], .str [], .slice [] 0 .exact, .int .i64 0, .int .i64 0, .int .i64 0, .slice [] 0 .exact, .slice [] 0 .exact, .slice [] 0 .exact, .int .i64 0, .int .i64 0])),
  (60, (.rows [(0, 1), (1, 1), (2, 27), (29, 14), (43, 9), (52, 1), (53, 1), (54, 1), (55, 1), (56, 1), (57, 1)], [.int .i64 0, .str [], .int .i64 0, .int .i64 0, .int .i64 0, .int .u64 0, .int .i64 0, .str [], .str [], .slice [] 0 .exact, .int .i64 0, .int .i64 0, .int .i64 0, .str [], .str [], .int .i64 0, .int .i64 0, .int .u64 0, .int .i64 0, .str [], .str [], .slice [] 0 .exact, .int .i64 0, .int .i64 0, .int .i64 0, .int .i64 0, .str [], .int .i64 0, .int .i64 0, .int .i64 0, .str [], .str [], .int .i64 0, .int .i64 0, .int .u64 0, .int .i64 0, .str [], .str [], .slice [] 0 .exact, .int .i64 0, .int .i64 0, .int .i64 0, .int .i64 0, .int .i64 0, .int .i64 0, .int .u64 0, .int .i64 0, .str [], .str [], .slice [] 0 .exact, .int .i64 0, .int .i64 0, .int .i64 0, .slice [] 0 .exact, .slice [] 0 .exact, .slice [] 0 .exact, .int .i64 0, .int .i64 0])),
  (65, (.rows [(0, 1), (1, 1), (2, 1)], [.str [], .int .i64 0, .int .i64 0])),
  (66, (.rows [(0, 1), (1, 1), (2, 1)], [.str [], .int .i64 0, .int .i64 0])),
  (70, (.rows [(0, 1), (1, 1), (2, 1), (3, 3)], [.slice [] 0 .exact, .int .i64 0, .int .i64 0, .int .i64 0, .int .i64 0, .int .i64 0])),
  (71, (.rows [(0, 1), (1, 1), (2, 1), (3, 3)], [.slice [] 0 .exact, .int .i64 0, .int .i64 0, .int .i64 0, .int .i64 0, .int .i64 0])),
  (73, (.rows [], [])),
  (80, (.rows [(0, 1), (1, 1), (2, 1), (3, 1)], [.str [], .slice [] 0 .exact, .int .i64 0, .int .i64 0])),
  (81, (.rows [(0, 1), (1, 1), (2, 1), (3, 1)], [.str [], .slice [] 0 .exact, .int .i64 0, .int .i64 0])),
  (83, (.rows [(0, 1), (1, 2), (3, 1), (4, 1)], [.str [], .int .i64 0, .str [], .int .i64 0, .int .i64 0])),
  (84, (.rows [(0, 1), (1, 2), (3, 1), (4, 1)], [.str [], .int .i64 0, .str [], .int .i64 0, .int .i64 0])),
  (87, (.rows [(0, 1), (1, 1), (2, 1), (3, 1), (4, 1)], [.str [], .slice [] 0 .exact, .slice [] 0 .exact, .int .i64 0, .int .i64 0])),
  (88, (.rows [(0, 1), (1, 1), (2, 1), (3, 1), (4, 1)], [.str [], .slice [] 0 .exact, .slice [] 0 .exact, .int .i64 0, .int .i64 0])),
  (99, (.each 1, [.str [], .str [], .str []])),
  (106, (.each 1, [.str [], .str [], .str [], .str []])),
  (134, (.rows [(0, 1), (1, 1), (2, 1)], [.str [], .str [], .nilIface])),
  (135, (.rows [(0, 1), (1, 1), (2, 1)], [.str [], .str [], .nilIface])),
  (138, (.each 1, [.int .u64 0, .int .u64 0, .int .u64 0, .int .u64 0, .int .u64 0, .int .u64 0, .int .u64 0, .int .u64 0, .int .u64 0, .int .u64 0, .int .u64 0, .int .u64 0, .int .u64 0, .int .u64 0, .int .u64 0, .int .u64 0, .int .u64 0, .int .u64 0, .int .u64 0, .int .u64 0])),
  (146, (.rows [(0, 1)], [.str []])),
  (147, (.rows [(0, 1)], [.str []])),
  (150, (.each 1, [.str [], .str [], .str [], .str [], .str [], .str [], .str [], .str [], .str []]))] : List (Nat × (BP × List AV)))
def L_con := ([(2, ()),
  (3, ()),
  (4, ()),
  (5, ()),
  (6, ()),
  (9, ()),
  (10, ()),
  (21, ()),
  (24, ()),
  (25, ()),
  (26, ()),
  (27, ()),
  (30, ()),
  (31, ()),
  (32, ()),
  (33, ()),
  (35, ()),
  (36, ()),
  (37, ()),
  (38, ()),
  (39, ()),
  (40, ()),
  (44, ()),
  (45, ()),
  (46, ()),
  (48, ()),
  (50, ()),
  (51, ()),
  (52, ()),
  (53, ()),
  (54, ()),
  (55, ()),
  (56, ()),
  (57, ()),
  (58, ()),
  (59, ()),
  (60, ()),
  (61, ()),
  (64, ()),
  (65, ()),
  (66, ()),
  (69, ()),
  (70, ()),
  (71, ()),
  (73, ()),
  (80, ()),
  (81, ()),
  (83, ()),
  (84, ()),
  (87, ()),
  (88, ()),
  (92, ()),
  (93, ()),
  (99, ()),
  (106, ()),
  (113, ()),
  (116, ()),
  (118, ()),
  (134, ()),
  (135, ()),
  (138, ()),
  (142, ()),
  (144, ()),
  (145, ()),
  (146, ()),
  (147, ()),
  (150, ())] : List (Nat × Unit))
def L : Tabs := { eqs := L_eqs, eqf := L_eqf, sz := L_sz, zero := L_zero, fld := L_fld, elm := L_elm, arr := L_arr, str := L_str, int := L_int, bld := L_bld, con := L_con }
def T : Tab := L.tab

theorem info_116 : ∃ i k, Tryd.prog.info? 116 = some i ∧ i.comparable = true ∧ Tryd.prog.underlying 116 = some (.int k) := by
  have h : (Tryd.prog.info? 116).map (·.comparable) = some true := by kernel_rfl
  obtain ⟨i, h1, h2⟩ := Option.map_eq_some_iff.1 h
  exact ⟨i, _, h1, h2, Tryd.underlying116⟩

theorem L_eqs_ok : AllOf (EqsF Tryd.prog) L_eqs :=
  ⟨⟨_, Tryd.underlying2⟩,
  ⟨_, Tryd.underlying3⟩,
  Tryd.underlying4,
  ⟨_, Tryd.underlying5⟩,
  ⟨_, Tryd.underlying6⟩,
  Tryd.underlying9,
  Tryd.underlying10,
  ⟨_, Tryd.underlying20, by intro u hu; simp only [List.mem_cons, List.not_mem_nil, or_false] at hu; rcases hu with rfl; exact info_116⟩,
  ⟨_, Tryd.underlying21⟩,
  ⟨_, Tryd.underlying25⟩,
  ⟨_, Tryd.underlying30⟩,
  ⟨_, Tryd.underlying31⟩,
  ⟨_, _, _, Tryd.underlying61⟩,
  ⟨_, Tryd.underlying64⟩,
  ⟨_, Tryd.underlying69⟩,
  ⟨_, Tryd.underlying92⟩,
  ⟨_, Tryd.underlying95, by intro u hu; simp only [List.mem_cons, List.not_mem_nil, or_false] at hu; rcases hu with rfl; exact info_116⟩,
  ⟨_, Tryd.underlying113⟩,
  ⟨_, Tryd.underlying116⟩,
  ⟨_, Tryd.underlying118⟩,
  ⟨_, Tryd.underlying142⟩,
  ⟨_, Tryd.underlying144⟩,
  ⟨_, Tryd.underlying145⟩, trivial⟩
theorem L_eqf_ok : AllOf (EqfF' Tryd.prog) L_eqf :=
  ⟨⟨_, Tryd.underlying26, Tryd.stoodInHeld26, Tryd.eqGuardType26, ⟨rfl, rfl, ⟨_, Tryd.underlying25⟩, Tryd.isAgg25, ⟨rfl, rfl, ⟨_, Tryd.underlying3⟩, Tryd.isAgg3, ⟨rfl, rfl, ⟨_, Tryd.underlying3⟩, Tryd.isAgg3, trivial⟩⟩⟩⟩,
  ⟨_, Tryd.underlying27, Tryd.stoodInHeld27, Tryd.eqGuardType27, ⟨rfl, rfl, ⟨_, Tryd.underlying25⟩, Tryd.isAgg25, ⟨rfl, rfl, ⟨_, Tryd.underlying3⟩, Tryd.isAgg3, ⟨rfl, rfl, ⟨_, Tryd.underlying3⟩, Tryd.isAgg3, trivial⟩⟩⟩⟩,
  ⟨_, Tryd.underlying32, Tryd.stoodInHeld32, Tryd.eqGuardType32, ⟨rfl, rfl, ⟨_, Tryd.underlying30⟩, Tryd.isAgg30, ⟨rfl, rfl, Tryd.underlying9, Tryd.isAgg9, ⟨rfl, rfl, ⟨_, Tryd.underlying31⟩, Tryd.isAgg31, ⟨rfl, rfl, ⟨_, Tryd.underlying3⟩, Tryd.isAgg3, ⟨rfl, rfl, ⟨_, Tryd.underlying3⟩, Tryd.isAgg3, trivial⟩⟩⟩⟩⟩⟩,
  ⟨_, Tryd.underlying33, Tryd.stoodInHeld33, Tryd.eqGuardType33, ⟨rfl, rfl, ⟨_, Tryd.underlying30⟩, Tryd.isAgg30, ⟨rfl, rfl, Tryd.underlying9, Tryd.isAgg9, ⟨rfl, rfl, ⟨_, Tryd.underlying31⟩, Tryd.isAgg31, ⟨rfl, rfl, ⟨_, Tryd.underlying3⟩, Tryd.isAgg3, ⟨rfl, rfl, ⟨_, Tryd.underlying3⟩, Tryd.isAgg3, trivial⟩⟩⟩⟩⟩⟩,
  ⟨_, Tryd.underlying50, Tryd.stoodInHeld50, Tryd.eqGuardType50, ⟨rfl, rfl, ⟨_, Tryd.underlying3⟩, Tryd.isAgg3, ⟨rfl, rfl, Tryd.underlying9, Tryd.isAgg9, trivial⟩⟩⟩,
  ⟨_, Tryd.underlying51, Tryd.stoodInHeld51, Tryd.eqGuardType51, ⟨rfl, rfl, ⟨_, Tryd.underlying3⟩, Tryd.isAgg3, ⟨rfl, rfl, Tryd.underlying9, Tryd.isAgg9, trivial⟩⟩⟩,
  ⟨_, Tryd.underlying65, Tryd.stoodInHeld65, Tryd.eqGuardType65, ⟨rfl, rfl, Tryd.underlying9, Tryd.isAgg9, ⟨rfl, rfl, ⟨_, Tryd.underlying3⟩, Tryd.isAgg3, ⟨rfl, rfl, ⟨_, Tryd.underlying3⟩, Tryd.isAgg3, trivial⟩⟩⟩⟩,
  ⟨_, Tryd.underlying66, Tryd.stoodInHeld66, Tryd.eqGuardType66, ⟨rfl, rfl, Tryd.underlying9, Tryd.isAgg9, ⟨rfl, rfl, ⟨_, Tryd.underlying3⟩, Tryd.isAgg3, ⟨rfl, rfl, ⟨_, Tryd.underlying3⟩, Tryd.isAgg3, trivial⟩⟩⟩⟩,
  ⟨_, Tryd.underlying146, Tryd.stoodInHeld146, Tryd.eqGuardType146, ⟨rfl, rfl, Tryd.underlying9, Tryd.isAgg9, trivial⟩⟩,
  ⟨_, Tryd.underlying147, Tryd.stoodInHeld147, Tryd.eqGuardType147, ⟨rfl, rfl, Tryd.underlying9, Tryd.isAgg9, trivial⟩⟩, trivial⟩
theorem L_sz_ok : AllOf (SzF Tryd.prog) L_sz :=
  ⟨⟨Tryd.isAgg2, Tryd.sizeOf2, rfl⟩,
  ⟨Tryd.isAgg3, Tryd.sizeOf3, rfl⟩,
  ⟨Tryd.isAgg4, Tryd.sizeOf4, rfl⟩,
  ⟨Tryd.isAgg5, Tryd.sizeOf5, rfl⟩,
  ⟨Tryd.isAgg6, Tryd.sizeOf6, rfl⟩,
  ⟨Tryd.isAgg9, Tryd.sizeOf9, rfl⟩,
  ⟨Tryd.isAgg10, Tryd.sizeOf10, rfl⟩,
  ⟨Tryd.isAgg20, Tryd.sizeOf20, rfl⟩,
  ⟨Tryd.isAgg21, Tryd.sizeOf21, rfl⟩,
  ⟨Tryd.isAgg24, Tryd.sizeOf24, rfl⟩,
  ⟨Tryd.isAgg25, Tryd.sizeOf25, rfl⟩,
  ⟨Tryd.isAgg26, Tryd.sizeOf26, rfl⟩,
  ⟨Tryd.isAgg27, Tryd.sizeOf27, rfl⟩,
  ⟨Tryd.isAgg30, Tryd.sizeOf30, rfl⟩,
  ⟨Tryd.isAgg31, Tryd.sizeOf31, rfl⟩,
  ⟨Tryd.isAgg32, Tryd.sizeOf32, rfl⟩,
  ⟨Tryd.isAgg33, Tryd.sizeOf33, rfl⟩,
  ⟨Tryd.isAgg35, Tryd.sizeOf35, rfl⟩,
  ⟨Tryd.isAgg36, Tryd.sizeOf36, rfl⟩,
  ⟨Tryd.isAgg37, Tryd.sizeOf37, rfl⟩,
  ⟨Tryd.isAgg38, Tryd.sizeOf38, rfl⟩,
  ⟨Tryd.isAgg39, Tryd.sizeOf39, rfl⟩,
  ⟨Tryd.isAgg40, Tryd.sizeOf40, rfl⟩,
  ⟨Tryd.isAgg44, Tryd.sizeOf44, rfl⟩,
  ⟨Tryd.isAgg45, Tryd.sizeOf45, rfl⟩,
  ⟨Tryd.isAgg46, Tryd.sizeOf46, rfl⟩,
  ⟨Tryd.isAgg48, Tryd.sizeOf48, rfl⟩,
  ⟨Tryd.isAgg50, Tryd.sizeOf50, rfl⟩,
  ⟨Tryd.isAgg51, Tryd.sizeOf51, rfl⟩,
  ⟨Tryd.isAgg52, Tryd.sizeOf52, rfl⟩,
  ⟨Tryd.isAgg53, Tryd.sizeOf53, rfl⟩,
  ⟨Tryd.isAgg54, Tryd.sizeOf54, rfl⟩,
  ⟨Tryd.isAgg55, Tryd.sizeOf55, rfl⟩,
  ⟨Tryd.isAgg56, Tryd.sizeOf56, rfl⟩,
  ⟨Tryd.isAgg57, Tryd.sizeOf57, rfl⟩,
  ⟨Tryd.isAgg58, Tryd.sizeOf58, rfl⟩,
  ⟨Tryd.isAgg59, Tryd.sizeOf59, rfl⟩,
  ⟨Tryd.isAgg60, Tryd.sizeOf60, rfl⟩,
  ⟨Tryd.isAgg61, Tryd.sizeOf61, rfl⟩,
  ⟨Tryd.isAgg64, Tryd.sizeOf64, rfl⟩,
  ⟨Tryd.isAgg65, Tryd.sizeOf65, rfl⟩,
  ⟨Tryd.isAgg66, Tryd.sizeOf66, rfl⟩,
  ⟨Tryd.isAgg69, Tryd.sizeOf69, rfl⟩,
  ⟨Tryd.isAgg70, Tryd.sizeOf70, rfl⟩,
  ⟨Tryd.isAgg71, Tryd.sizeOf71, rfl⟩,
  ⟨Tryd.isAgg73, Tryd.sizeOf73, rfl⟩,
  ⟨Tryd.isAgg80, Tryd.sizeOf80, rfl⟩,
  ⟨Tryd.isAgg81, Tryd.sizeOf81, rfl⟩,
  ⟨Tryd.isAgg83, Tryd.sizeOf83, rfl⟩,
  ⟨Tryd.isAgg84, Tryd.sizeOf84, rfl⟩,
  ⟨Tryd.isAgg87, Tryd.sizeOf87, rfl⟩,
  ⟨Tryd.isAgg88, Tryd.sizeOf88, rfl⟩,
  ⟨Tryd.isAgg92, Tryd.sizeOf92, rfl⟩,
  ⟨Tryd.isAgg93, Tryd.sizeOf93, rfl⟩,
  ⟨Tryd.isAgg95, Tryd.sizeOf95, rfl⟩,
  ⟨Tryd.isAgg99, Tryd.sizeOf99, rfl⟩,
  ⟨Tryd.isAgg106, Tryd.sizeOf106, rfl⟩,
  ⟨Tryd.isAgg113, Tryd.sizeOf113, rfl⟩,
  ⟨Tryd.isAgg116, Tryd.sizeOf116, rfl⟩,
  ⟨Tryd.isAgg118, Tryd.sizeOf118, rfl⟩,
  ⟨Tryd.isAgg134, Tryd.sizeOf134, rfl⟩,
  ⟨Tryd.isAgg135, Tryd.sizeOf135, rfl⟩,
  ⟨Tryd.isAgg138, Tryd.sizeOf138, rfl⟩,
  ⟨Tryd.isAgg142, Tryd.sizeOf142, rfl⟩,
  ⟨Tryd.isAgg144, Tryd.sizeOf144, rfl⟩,
  ⟨Tryd.isAgg145, Tryd.sizeOf145, rfl⟩,
  ⟨Tryd.isAgg146, Tryd.sizeOf146, rfl⟩,
  ⟨Tryd.isAgg147, Tryd.sizeOf147, rfl⟩,
  ⟨Tryd.isAgg150, Tryd.sizeOf150, rfl⟩, trivial⟩
theorem L_zero_ok : AllOf (ZeroF Tryd.prog) L_zero :=
  ⟨⟨_, Tryd.zeroValue2, rfl, rfl⟩,
  ⟨_, Tryd.zeroValue3, rfl, rfl⟩,
  ⟨_, Tryd.zeroValue4, rfl, rfl⟩,
  ⟨_, Tryd.zeroValue5, rfl, rfl⟩,
  ⟨_, Tryd.zeroValue6, rfl, rfl⟩,
  ⟨_, Tryd.zeroValue9, rfl, rfl⟩,
  ⟨_, Tryd.zeroValue10, rfl, rfl⟩,
  ⟨_, Tryd.zeroValue20, rfl, rfl⟩,
  ⟨_, Tryd.zeroValue21, rfl, rfl⟩,
  ⟨_, Tryd.zeroValue24, rfl, rfl⟩,
  ⟨_, Tryd.zeroValue25, rfl, rfl⟩,
  ⟨_, Tryd.zeroValue26, rfl, rfl⟩,
  ⟨_, Tryd.zeroValue27, rfl, rfl⟩,
  ⟨_, Tryd.zeroValue30, rfl, rfl⟩,
  ⟨_, Tryd.zeroValue31, rfl, rfl⟩,
  ⟨_, Tryd.zeroValue32, rfl, rfl⟩,
  ⟨_, Tryd.zeroValue33, rfl, rfl⟩,
  ⟨_, Tryd.zeroValue35, rfl, rfl⟩,
  ⟨_, Tryd.zeroValue36, rfl, rfl⟩,
  ⟨_, Tryd.zeroValue37, rfl, rfl⟩,
  ⟨_, Tryd.zeroValue38, rfl, rfl⟩,
  ⟨_, Tryd.zeroValue39, rfl, rfl⟩,
  ⟨_, Tryd.zeroValue40, rfl, rfl⟩,
  ⟨_, Tryd.zeroValue44, rfl, rfl⟩,
  ⟨_, Tryd.zeroValue45, rfl, rfl⟩,
  ⟨_, Tryd.zeroValue46, rfl, rfl⟩,
  ⟨_, Tryd.zeroValue48, rfl, rfl⟩,
  ⟨_, Tryd.zeroValue50, rfl, rfl⟩,
  ⟨_, Tryd.zeroValue51, rfl, rfl⟩,
  ⟨_, Tryd.zeroValue52, rfl, rfl⟩,
  ⟨_, Tryd.zeroValue53, rfl, rfl⟩,
  ⟨_, Tryd.zeroValue54, rfl, rfl⟩,
  ⟨_, Tryd.zeroValue55, rfl, rfl⟩,
  ⟨_, Tryd.zeroValue56, rfl, rfl⟩,
  ⟨_, Tryd.zeroValue57, rfl, rfl⟩,
  ⟨_, Tryd.zeroValue58, rfl, rfl⟩,
  ⟨_, Tryd.zeroValue59, rfl, rfl⟩,
  ⟨_, Tryd.zeroValue60, rfl, rfl⟩,
  ⟨_, Tryd.zeroValue61, rfl, rfl⟩,
  ⟨_, Tryd.zeroValue64, rfl, rfl⟩,
  ⟨_, Tryd.zeroValue65, rfl, rfl⟩,
  ⟨_, Tryd.zeroValue66, rfl, rfl⟩,
  ⟨_, Tryd.zeroValue69, rfl, rfl⟩,
  ⟨_, Tryd.zeroValue70, rfl, rfl⟩,
  ⟨_, Tryd.zeroValue71, rfl, rfl⟩,
  ⟨_, Tryd.zeroValue73, rfl, rfl⟩,
  ⟨_, Tryd.zeroValue80, rfl, rfl⟩,
  ⟨_, Tryd.zeroValue81, rfl, rfl⟩,
  ⟨_, Tryd.zeroValue83, rfl, rfl⟩,
  ⟨_, Tryd.zeroValue84, rfl, rfl⟩,
  ⟨_, Tryd.zeroValue87, rfl, rfl⟩,
  ⟨_, Tryd.zeroValue88, rfl, rfl⟩,
  ⟨_, Tryd.zeroValue92, rfl, rfl⟩,
  ⟨_, Tryd.zeroValue93, rfl, rfl⟩,
  ⟨_, Tryd.zeroValue95, rfl, rfl⟩,
  ⟨_, Tryd.zeroValue99, rfl, rfl⟩,
  ⟨_, Tryd.zeroValue106, rfl, rfl⟩,
  ⟨_, Tryd.zeroValue113, rfl, rfl⟩,
  ⟨_, Tryd.zeroValue116, rfl, rfl⟩,
  ⟨_, Tryd.zeroValue118, rfl, rfl⟩,
  ⟨_, Tryd.zeroValue134, rfl, rfl⟩,
  ⟨_, Tryd.zeroValue135, rfl, rfl⟩,
  ⟨_, Tryd.zeroValue138, rfl, rfl⟩,
  ⟨_, Tryd.zeroValue142, rfl, rfl⟩,
  ⟨_, Tryd.zeroValue144, rfl, rfl⟩,
  ⟨_, Tryd.zeroValue145, rfl, rfl⟩,
  ⟨_, Tryd.zeroValue146, rfl, rfl⟩,
  ⟨_, Tryd.zeroValue147, rfl, rfl⟩,
  ⟨_, Tryd.zeroValue150, rfl, rfl⟩, trivial⟩
theorem L_fld_ok : AllOf (FldF Tryd.prog) L_fld :=
  ⟨⟨_, Tryd.underlying26, ⟨⟨rfl, rfl, Tryd.isAgg25, Tryd.sizeOf25⟩, ⟨⟨rfl, rfl, Tryd.isAgg3, Tryd.sizeOf3⟩, ⟨⟨rfl, rfl, Tryd.isAgg3, Tryd.sizeOf3⟩, trivial⟩⟩⟩⟩,
  ⟨_, Tryd.underlying27, ⟨⟨rfl, rfl, Tryd.isAgg25, Tryd.sizeOf25⟩, ⟨⟨rfl, rfl, Tryd.isAgg3, Tryd.sizeOf3⟩, ⟨⟨rfl, rfl, Tryd.isAgg3, Tryd.sizeOf3⟩, trivial⟩⟩⟩⟩,
  ⟨_, Tryd.underlying32, ⟨⟨rfl, rfl, Tryd.isAgg30, Tryd.sizeOf30⟩, ⟨⟨rfl, rfl, Tryd.isAgg9, Tryd.sizeOf9⟩, ⟨⟨rfl, rfl, Tryd.isAgg31, Tryd.sizeOf31⟩, ⟨⟨rfl, rfl, Tryd.isAgg3, Tryd.sizeOf3⟩, ⟨⟨rfl, rfl, Tryd.isAgg3, Tryd.sizeOf3⟩, trivial⟩⟩⟩⟩⟩⟩,
  ⟨_, Tryd.underlying33, ⟨⟨rfl, rfl, Tryd.isAgg30, Tryd.sizeOf30⟩, ⟨⟨rfl, rfl, Tryd.isAgg9, Tryd.sizeOf9⟩, ⟨⟨rfl, rfl, Tryd.isAgg31, Tryd.sizeOf31⟩, ⟨⟨rfl, rfl, Tryd.isAgg3, Tryd.sizeOf3⟩, ⟨⟨rfl, rfl, Tryd.isAgg3, Tryd.sizeOf3⟩, trivial⟩⟩⟩⟩⟩⟩,
  ⟨_, Tryd.underlying39, ⟨⟨rfl, rfl, Tryd.isAgg35, Tryd.sizeOf35⟩, ⟨⟨rfl, rfl, Tryd.isAgg36, Tryd.sizeOf36⟩, ⟨⟨rfl, rfl, Tryd.isAgg37, Tryd.sizeOf37⟩, ⟨⟨rfl, rfl, Tryd.isAgg38, Tryd.sizeOf38⟩, trivial⟩⟩⟩⟩⟩,
  ⟨_, Tryd.underlying40, ⟨⟨rfl, rfl, Tryd.isAgg35, Tryd.sizeOf35⟩, ⟨⟨rfl, rfl, Tryd.isAgg36, Tryd.sizeOf36⟩, ⟨⟨rfl, rfl, Tryd.isAgg37, Tryd.sizeOf37⟩, ⟨⟨rfl, rfl, Tryd.isAgg38, Tryd.sizeOf38⟩, trivial⟩⟩⟩⟩⟩,
  ⟨_, Tryd.underlying45, ⟨⟨rfl, rfl, Tryd.isAgg44, Tryd.sizeOf44⟩, ⟨⟨rfl, rfl, Tryd.isAgg3, Tryd.sizeOf3⟩, ⟨⟨rfl, rfl, Tryd.isAgg3, Tryd.sizeOf3⟩, trivial⟩⟩⟩⟩,
  ⟨_, Tryd.underlying46, ⟨⟨rfl, rfl, Tryd.isAgg44, Tryd.sizeOf44⟩, ⟨⟨rfl, rfl, Tryd.isAgg3, Tryd.sizeOf3⟩, ⟨⟨rfl, rfl, Tryd.isAgg3, Tryd.sizeOf3⟩, trivial⟩⟩⟩⟩,
  ⟨_, Tryd.underlying50, ⟨⟨rfl, rfl, Tryd.isAgg3, Tryd.sizeOf3⟩, ⟨⟨rfl, rfl, Tryd.isAgg9, Tryd.sizeOf9⟩, trivial⟩⟩⟩,
  ⟨_, Tryd.underlying51, ⟨⟨rfl, rfl, Tryd.isAgg3, Tryd.sizeOf3⟩, ⟨⟨rfl, rfl, Tryd.isAgg9, Tryd.sizeOf9⟩, trivial⟩⟩⟩,
  ⟨_, Tryd.underlying53, ⟨⟨rfl, rfl, Tryd.isAgg3, Tryd.sizeOf3⟩, ⟨⟨rfl, rfl, Tryd.isAgg3, Tryd.sizeOf3⟩, ⟨⟨rfl, rfl, Tryd.isAgg31, Tryd.sizeOf31⟩, ⟨⟨rfl, rfl, Tryd.isAgg51, Tryd.sizeOf51⟩, ⟨⟨rfl, rfl, Tryd.isAgg9, Tryd.sizeOf9⟩, ⟨⟨rfl, rfl, Tryd.isAgg52, Tryd.sizeOf52⟩, ⟨⟨rfl, rfl, Tryd.isAgg3, Tryd.sizeOf3⟩, ⟨⟨rfl, rfl, Tryd.isAgg3, Tryd.sizeOf3⟩, trivial⟩⟩⟩⟩⟩⟩⟩⟩⟩,
  ⟨_, Tryd.underlying54, ⟨⟨rfl, rfl, Tryd.isAgg3, Tryd.sizeOf3⟩, ⟨⟨rfl, rfl, Tryd.isAgg3, Tryd.sizeOf3⟩, ⟨⟨rfl, rfl, Tryd.isAgg31, Tryd.sizeOf31⟩, ⟨⟨rfl, rfl, Tryd.isAgg51, Tryd.sizeOf51⟩, ⟨⟨rfl, rfl, Tryd.isAgg9, Tryd.sizeOf9⟩, ⟨⟨rfl, rfl, Tryd.isAgg52, Tryd.sizeOf52⟩, ⟨⟨rfl, rfl, Tryd.isAgg3, Tryd.sizeOf3⟩, ⟨⟨rfl, rfl, Tryd.isAgg3, Tryd.sizeOf3⟩, trivial⟩⟩⟩⟩⟩⟩⟩⟩⟩,
  ⟨_, Tryd.underlying55, ⟨⟨rfl, rfl, Tryd.isAgg3, Tryd.sizeOf3⟩, ⟨⟨rfl, rfl, Tryd.isAgg9, Tryd.sizeOf9⟩, ⟨⟨rfl, rfl, Tryd.isAgg9, Tryd.sizeOf9⟩, ⟨⟨rfl, rfl, Tryd.isAgg54, Tryd.sizeOf54⟩, ⟨⟨rfl, rfl, Tryd.isAgg3, Tryd.sizeOf3⟩, ⟨⟨rfl, rfl, Tryd.isAgg3, Tryd.sizeOf3⟩, trivial⟩⟩⟩⟩⟩⟩⟩,
  ⟨_, Tryd.underlying56, ⟨⟨rfl, rfl, Tryd.isAgg3, Tryd.sizeOf3⟩, ⟨⟨rfl, rfl, Tryd.isAgg9, Tryd.sizeOf9⟩, ⟨⟨rfl, rfl, Tryd.isAgg9, Tryd.sizeOf9⟩, ⟨⟨rfl, rfl, Tryd.isAgg54, Tryd.sizeOf54⟩, ⟨⟨rfl, rfl, Tryd.isAgg3, Tryd.sizeOf3⟩, ⟨⟨rfl, rfl, Tryd.isAgg3, Tryd.sizeOf3⟩, trivial⟩⟩⟩⟩⟩⟩⟩,
  ⟨_, Tryd.underlying57, ⟨⟨rfl, rfl, Tryd.isAgg3, Tryd.sizeOf3⟩, ⟨⟨rfl, rfl, Tryd.isAgg54, Tryd.sizeOf54⟩, ⟨⟨rfl, rfl, Tryd.isAgg56, Tryd.sizeOf56⟩, ⟨⟨rfl, rfl, Tryd.isAgg9, Tryd.sizeOf9⟩, ⟨⟨rfl, rfl, Tryd.isAgg3, Tryd.sizeOf3⟩, ⟨⟨rfl, rfl, Tryd.isAgg3, Tryd.sizeOf3⟩, trivial⟩⟩⟩⟩⟩⟩⟩,
  ⟨_, Tryd.underlying58, ⟨⟨rfl, rfl, Tryd.isAgg3, Tryd.sizeOf3⟩, ⟨⟨rfl, rfl, Tryd.isAgg54, Tryd.sizeOf54⟩, ⟨⟨rfl, rfl, Tryd.isAgg56, Tryd.sizeOf56⟩, ⟨⟨rfl, rfl, Tryd.isAgg9, Tryd.sizeOf9⟩, ⟨⟨rfl, rfl, Tryd.isAgg3, Tryd.sizeOf3⟩, ⟨⟨rfl, rfl, Tryd.isAgg3, Tryd.sizeOf3⟩, trivial⟩⟩⟩⟩⟩⟩⟩,
  ⟨_, Tryd.underlying59, ⟨⟨rfl, rfl, Tryd.isAgg3, Tryd.sizeOf3⟩, ⟨⟨rfl, rfl, Tryd.isAgg9, Tryd.sizeOf9⟩, ⟨⟨rfl, rfl, Tryd.isAgg58, Tryd.sizeOf58⟩, ⟨⟨rfl, rfl, Tryd.isAgg56, Tryd.sizeOf56⟩, ⟨⟨rfl, rfl, Tryd.isAgg54, Tryd.sizeOf54⟩, ⟨⟨rfl, rfl, Tryd.isAgg3, Tryd.sizeOf3⟩, ⟨⟨rfl, rfl, Tryd.isAgg52, Tryd.sizeOf52⟩, ⟨⟨rfl, rfl, Tryd.isAgg44, Tryd.sizeOf44⟩, ⟨⟨rfl, rfl, Tryd.isAgg44, Tryd.sizeOf44⟩, ⟨⟨rfl, rfl, Tryd.isAgg3, Tryd.sizeOf3⟩, ⟨⟨rfl, rfl, Tryd.isAgg3, Tryd.sizeOf3⟩, trivial⟩⟩⟩⟩⟩⟩⟩⟩⟩⟩⟩⟩,
  ⟨_, Tryd.underlying60, ⟨⟨rfl, rfl, Tryd.isAgg3, Tryd.sizeOf3⟩, ⟨⟨rfl, rfl, Tryd.isAgg9, Tryd.sizeOf9⟩, ⟨⟨rfl, rfl, Tryd.isAgg58, Tryd.sizeOf58⟩, ⟨⟨rfl, rfl, Tryd.isAgg56, Tryd.sizeOf56⟩, ⟨⟨rfl, rfl, Tryd.isAgg54, Tryd.sizeOf54⟩, ⟨⟨rfl, rfl, Tryd.isAgg3, Tryd.sizeOf3⟩, ⟨⟨rfl, rfl, Tryd.isAgg52, Tryd.sizeOf52⟩, ⟨⟨rfl, rfl, Tryd.isAgg44, Tryd.sizeOf44⟩, ⟨⟨rfl, rfl, Tryd.isAgg44, Tryd.sizeOf44⟩, ⟨⟨rfl, rfl, Tryd.isAgg3, Tryd.sizeOf3⟩, ⟨⟨rfl, rfl, Tryd.isAgg3, Tryd.sizeOf3⟩, trivial⟩⟩⟩⟩⟩⟩⟩⟩⟩⟩⟩⟩,
  ⟨_, Tryd.underlying65, ⟨⟨rfl, rfl, Tryd.isAgg9, Tryd.sizeOf9⟩, ⟨⟨rfl, rfl, Tryd.isAgg3, Tryd.sizeOf3⟩, ⟨⟨rfl, rfl, Tryd.isAgg3, Tryd.sizeOf3⟩, trivial⟩⟩⟩⟩,
  ⟨_, Tryd.underlying66, ⟨⟨rfl, rfl, Tryd.isAgg9, Tryd.sizeOf9⟩, ⟨⟨rfl, rfl, Tryd.isAgg3, Tryd.sizeOf3⟩, ⟨⟨rfl, rfl, Tryd.isAgg3, Tryd.sizeOf3⟩, trivial⟩⟩⟩⟩,
  ⟨_, Tryd.underlying70, ⟨⟨rfl, rfl, Tryd.isAgg24, Tryd.sizeOf24⟩, ⟨⟨rfl, rfl, Tryd.isAgg3, Tryd.sizeOf3⟩, ⟨⟨rfl, rfl, Tryd.isAgg3, Tryd.sizeOf3⟩, ⟨⟨rfl, rfl, Tryd.isAgg27, Tryd.sizeOf27⟩, trivial⟩⟩⟩⟩⟩,
  ⟨_, Tryd.underlying71, ⟨⟨rfl, rfl, Tryd.isAgg24, Tryd.sizeOf24⟩, ⟨⟨rfl, rfl, Tryd.isAgg3, Tryd.sizeOf3⟩, ⟨⟨rfl, rfl, Tryd.isAgg3, Tryd.sizeOf3⟩, ⟨⟨rfl, rfl, Tryd.isAgg27, Tryd.sizeOf27⟩, trivial⟩⟩⟩⟩⟩,
  ⟨_, Tryd.underlying73, trivial⟩,
  ⟨_, Tryd.underlying80, ⟨⟨rfl, rfl, Tryd.isAgg9, Tryd.sizeOf9⟩, ⟨⟨rfl, rfl, Tryd.isAgg36, Tryd.sizeOf36⟩, ⟨⟨rfl, rfl, Tryd.isAgg3, Tryd.sizeOf3⟩, ⟨⟨rfl, rfl, Tryd.isAgg3, Tryd.sizeOf3⟩, trivial⟩⟩⟩⟩⟩,
  ⟨_, Tryd.underlying81, ⟨⟨rfl, rfl, Tryd.isAgg9, Tryd.sizeOf9⟩, ⟨⟨rfl, rfl, Tryd.isAgg36, Tryd.sizeOf36⟩, ⟨⟨rfl, rfl, Tryd.isAgg3, Tryd.sizeOf3⟩, ⟨⟨rfl, rfl, Tryd.isAgg3, Tryd.sizeOf3⟩, trivial⟩⟩⟩⟩⟩,
  ⟨_, Tryd.underlying83, ⟨⟨rfl, rfl, Tryd.isAgg9, Tryd.sizeOf9⟩, ⟨⟨rfl, rfl, Tryd.isAgg51, Tryd.sizeOf51⟩, ⟨⟨rfl, rfl, Tryd.isAgg3, Tryd.sizeOf3⟩, ⟨⟨rfl, rfl, Tryd.isAgg3, Tryd.sizeOf3⟩, trivial⟩⟩⟩⟩⟩,
  ⟨_, Tryd.underlying84, ⟨⟨rfl, rfl, Tryd.isAgg9, Tryd.sizeOf9⟩, ⟨⟨rfl, rfl, Tryd.isAgg51, Tryd.sizeOf51⟩, ⟨⟨rfl, rfl, Tryd.isAgg3, Tryd.sizeOf3⟩, ⟨⟨rfl, rfl, Tryd.isAgg3, Tryd.sizeOf3⟩, trivial⟩⟩⟩⟩⟩,
  ⟨_, Tryd.underlying87, ⟨⟨rfl, rfl, Tryd.isAgg9, Tryd.sizeOf9⟩, ⟨⟨rfl, rfl, Tryd.isAgg36, Tryd.sizeOf36⟩, ⟨⟨rfl, rfl, Tryd.isAgg44, Tryd.sizeOf44⟩, ⟨⟨rfl, rfl, Tryd.isAgg3, Tryd.sizeOf3⟩, ⟨⟨rfl, rfl, Tryd.isAgg3, Tryd.sizeOf3⟩, trivial⟩⟩⟩⟩⟩⟩,
  ⟨_, Tryd.underlying88, ⟨⟨rfl, rfl, Tryd.isAgg9, Tryd.sizeOf9⟩, ⟨⟨rfl, rfl, Tryd.isAgg36, Tryd.sizeOf36⟩, ⟨⟨rfl, rfl, Tryd.isAgg44, Tryd.sizeOf44⟩, ⟨⟨rfl, rfl, Tryd.isAgg3, Tryd.sizeOf3⟩, ⟨⟨rfl, rfl, Tryd.isAgg3, Tryd.sizeOf3⟩, trivial⟩⟩⟩⟩⟩⟩,
  ⟨_, Tryd.underlying134, ⟨⟨rfl, rfl, Tryd.isAgg9, Tryd.sizeOf9⟩, ⟨⟨rfl, rfl, Tryd.isAgg9, Tryd.sizeOf9⟩, ⟨⟨rfl, rfl, Tryd.isAgg95, Tryd.sizeOf95⟩, trivial⟩⟩⟩⟩,
  ⟨_, Tryd.underlying135, ⟨⟨rfl, rfl, Tryd.isAgg9, Tryd.sizeOf9⟩, ⟨⟨rfl, rfl, Tryd.isAgg9, Tryd.sizeOf9⟩, ⟨⟨rfl, rfl, Tryd.isAgg95, Tryd.sizeOf95⟩, trivial⟩⟩⟩⟩,
  ⟨_, Tryd.underlying146, ⟨⟨rfl, rfl, Tryd.isAgg9, Tryd.sizeOf9⟩, trivial⟩⟩,
  ⟨_, Tryd.underlying147, ⟨⟨rfl, rfl, Tryd.isAgg9, Tryd.sizeOf9⟩, trivial⟩⟩, trivial⟩
theorem L_elm_ok : AllOf (ElmF Tryd.prog) L_elm :=
  ⟨⟨Tryd.underlying24, rfl, ⟨(Value.agg #[Value.int IntKind.i64 0, Value.string { data := #[] }, Value.int IntKind.u64 0, Value.int IntKind.i64 0, Value.int IntKind.i64 0]), by kernel_rfl, rfl, rfl⟩, Tryd.isAgg33⟩,
  ⟨Tryd.underlying35, rfl, ⟨(Value.agg #[Value.string { data := #[] }, Value.slice none 0 0, Value.int IntKind.i64 0, Value.int IntKind.i64 0]), by kernel_rfl, rfl, rfl⟩, Tryd.isAgg81⟩,
  ⟨Tryd.underlying36, rfl, ⟨(Value.agg #[Value.string { data := #[] }, Value.int IntKind.i64 0, Value.string { data := #[] }, Value.int IntKind.i64 0, Value.int IntKind.i64 0]), by kernel_rfl, rfl, rfl⟩, Tryd.isAgg84⟩,
  ⟨Tryd.underlying37, rfl, ⟨(Value.agg #[Value.string { data := #[] }, Value.slice none 0 0, Value.slice none 0 0, Value.int IntKind.i64 0, Value.int IntKind.i64 0]), by kernel_rfl, rfl, rfl⟩, Tryd.isAgg88⟩,
  ⟨Tryd.underlying38, rfl, ⟨(Value.agg #[Value.slice none 0 0, Value.int IntKind.i64 0, Value.int IntKind.i64 0]), by kernel_rfl, rfl, rfl⟩, Tryd.isAgg46⟩,
  ⟨Tryd.underlying44, rfl, ⟨(Value.agg #[Value.int IntKind.i64 0, Value.string { data := #[] }, Value.int IntKind.i64 0, Value.int IntKind.i64 0, Value.int IntKind.i64 0, Value.int IntKind.u64 0, Value.int IntKind.i64 0, Value.string { data := #[] }, Value.string { data := #[] }, Value.slice none 0 0, Value.int IntKind.i64 0, Value.int IntKind.i64 0, Value.int IntKind.i64 0, Value.string { data := #[] }, Value.string { data := #[] }, Value.int IntKind.i64 0, Value.int IntKind.i64 0, Value.int IntKind.u64 0, Value.int IntKind.i64 0, Value.string { data := #[] }, Value.string { data := #[] }, Value.slice none 0 0, Value.int IntKind.i64 0, Value.int IntKind.i64 0, Value.int IntKind.i64 0, Value.int IntKind.i64 0, Value.string { data := #[] }, Value.int IntKind.i64 0, Value.int IntKind.i64 0, Value.int IntKind.i64 0, Value.string { data := #[] }, Value.string { data := #[] }, Value.int IntKind.i64 0, Value.int IntKind.i64 0, Value.int IntKind.u64 0, Value.int IntKind.i64 0, Value.string { data := #[] }, Value.string { data := #[] }, Value.slice none 0 0, Value.int IntKind.i64 0, Value.int IntKind.i64 0, Value.int IntKind.i64 0, Value.int IntKind.i64 0, Value.int IntKind.i64 0, Value.int IntKind.i64 0, Value.int IntKind.u64 0, Value.int IntKind.i64 0, Value.string { data := #[] }, Value.string { data := #[] }, Value.slice none 0 0, Value.int IntKind.i64 0, Value.int IntKind.i64 0, Value.int IntKind.i64 0, Value.slice none 0 0, Value.slice none 0 0, Value.slice none 0 0, Value.int IntKind.i64 0, Value.int IntKind.i64 0]), by kernel_rfl, rfl, rfl⟩, Tryd.isAgg60⟩,
  ⟨Tryd.underlying48, rfl, ⟨(Value.string { data := #[] }), by kernel_rfl, rfl, rfl⟩, Tryd.isAgg9⟩,
  ⟨Tryd.underlying52, rfl, ⟨(Value.agg #[Value.int IntKind.i64 0, Value.int IntKind.i64 0, Value.int IntKind.u64 0, Value.int IntKind.i64 0, Value.string { data := #[] }, Value.string { data := #[] }, Value.slice none 0 0, Value.int IntKind.i64 0, Value.int IntKind.i64 0]), by kernel_rfl, rfl, rfl⟩, Tryd.isAgg54⟩,
  ⟨Tryd.underlying93, rfl, ⟨(Value.int IntKind.u8 0), by kernel_rfl, rfl, rfl⟩, Tryd.isAgg5⟩, trivial⟩
theorem L_arr_ok : AllOf (ArrF Tryd.prog) L_arr :=
  ⟨⟨9, Tryd.underlying99, rfl, Tryd.isAgg9, Tryd.sizeOf9⟩,
  ⟨9, Tryd.underlying106, rfl, Tryd.isAgg9, Tryd.sizeOf9⟩,
  ⟨31, Tryd.underlying138, rfl, Tryd.isAgg31, Tryd.sizeOf31⟩,
  ⟨9, Tryd.underlying150, rfl, Tryd.isAgg9, Tryd.sizeOf9⟩, trivial⟩
theorem L_str_ok : AllOf ((fun t _ => Program.underlying Tryd.prog t = some .string)) L_str :=
  ⟨Tryd.underlying9,
  Tryd.underlying10, trivial⟩
theorem L_int_ok : AllOf ((fun t k => Program.underlying Tryd.prog t = some (.int k))) L_int :=
  ⟨Tryd.underlying2,
  Tryd.underlying3,
  Tryd.underlying5,
  Tryd.underlying6,
  Tryd.underlying21,
  Tryd.underlying25,
  Tryd.underlying30,
  Tryd.underlying31,
  Tryd.underlying92,
  Tryd.underlying113,
  Tryd.underlying116,
  Tryd.underlying142, trivial⟩
theorem L_bld_ok : AllOf (BldF Tryd.prog) L_bld :=
  ⟨.rows (cs := [.int .i64 0, .int .i64 0, .int .i64 0]) (z := #[Value.int IntKind.i64 0, Value.int IntKind.i64 0, Value.int IntKind.i64 0]) rfl rfl fun parts => by kernel_rfl,
  .rows (cs := [.int .i64 0, .int .i64 0, .int .i64 0]) (z := #[Value.int IntKind.i64 0, Value.int IntKind.i64 0, Value.int IntKind.i64 0]) rfl rfl fun parts => by kernel_rfl,
  .rows (cs := [.int .i64 0, .str [], .int .u64 0, .int .i64 0, .int .i64 0]) (z := #[Value.int IntKind.i64 0, Value.string { data := #[] }, Value.int IntKind.u64 0, Value.int IntKind.i64 0, Value.int IntKind.i64 0]) rfl rfl fun parts => by kernel_rfl,
  .rows (cs := [.int .i64 0, .str [], .int .u64 0, .int .i64 0, .int .i64 0]) (z := #[Value.int IntKind.i64 0, Value.string { data := #[] }, Value.int IntKind.u64 0, Value.int IntKind.i64 0, Value.int IntKind.i64 0]) rfl rfl fun parts => by kernel_rfl,
  .rows (cs := [.slice [] 0 .exact, .slice [] 0 .exact, .slice [] 0 .exact, .slice [] 0 .exact]) (z := #[Value.slice none 0 0, Value.slice none 0 0, Value.slice none 0 0, Value.slice none 0 0]) rfl rfl fun parts => by kernel_rfl,
  .rows (cs := [.slice [] 0 .exact, .slice [] 0 .exact, .slice [] 0 .exact, .slice [] 0 .exact]) (z := #[Value.slice none 0 0, Value.slice none 0 0, Value.slice none 0 0, Value.slice none 0 0]) rfl rfl fun parts => by kernel_rfl,
  .rows (cs := [.slice [] 0 .exact, .int .i64 0, .int .i64 0]) (z := #[Value.slice none 0 0, Value.int IntKind.i64 0, Value.int IntKind.i64 0]) rfl rfl fun parts => by kernel_rfl,
  .rows (cs := [.slice [] 0 .exact, .int .i64 0, .int .i64 0]) (z := #[Value.slice none 0 0, Value.int IntKind.i64 0, Value.int IntKind.i64 0]) rfl rfl fun parts => by kernel_rfl,
  .rows (cs := [.int .i64 0, .str []]) (z := #[Value.int IntKind.i64 0, Value.string { data := #[] }]) rfl rfl fun parts => by kernel_rfl,
  .rows (cs := [.int .i64 0, .str []]) (z := #[Value.int IntKind.i64 0, Value.string { data := #[] }]) rfl rfl fun parts => by kernel_rfl,
  .rows (cs := [.int .i64 0, .int .i64 0, .int .u64 0, .int .i64 0, .str [], .str [], .slice [] 0 .exact, .int .i64 0, .int .i64 0]) (z := #[Value.int IntKind.i64 0, Value.int IntKind.i64 0, Value.int IntKind.u64 0, Value.int IntKind.i64 0, Value.string { data := #[] }, Value.string { data := #[] }, Value.slice none 0 0, Value.int IntKind.i64 0, Value.int IntKind.i64 0]) rfl rfl fun parts => by kernel_rfl,
  .rows (cs := [.int .i64 0, .int .i64 0, .int .u64 0, .int .i64 0, .str [], .str [], .slice [] 0 .exact, .int .i64 0, .int .i64 0]) (z := #[Value.int IntKind.i64 0, Value.int IntKind.i64 0, Value.int IntKind.u64 0, Value.int IntKind.i64 0, Value.string { data := #[] }, Value.string { data := #[] }, Value.slice none 0 0, Value.int IntKind.i64 0, Value.int IntKind.i64 0]) rfl rfl fun parts => by kernel_rfl,
  .rows (cs := [.int .i64 0, .str [], .str [], .int .i64 0, .int .i64 0, .int .u64 0, .int .i64 0, .str [], .str [], .slice [] 0 .exact, .int .i64 0, .int .i64 0, .int .i64 0, .int .i64 0]) (z := #[Value.int IntKind.i64 0, Value.string { data := #[] }, Value.string { data := #[] }, Value.int IntKind.i64 0, Value.int IntKind.i64 0, Value.int IntKind.u64 0, Value.int IntKind.i64 0, Value.string { data := #[] }, Value.string { data := #[] }, Value.slice none 0 0, Value.int IntKind.i64 0, Value.int IntKind.i64 0, Value.int IntKind.i64 0, Value.int IntKind.i64 0]) rfl rfl fun parts => by kernel_rfl,
  .rows (cs := [.int .i64 0, .str [], .str [], .int .i64 0, .int .i64 0, .int .u64 0, .int .i64 0, .str [], .str [], .slice [] 0 .exact, .int .i64 0, .int .i64 0, .int .i64 0, .int .i64 0]) (z := #[Value.int IntKind.i64 0, Value.string { data := #[] }, Value.string { data := #[] }, Value.int IntKind.i64 0, Value.int IntKind.i64 0, Value.int IntKind.u64 0, Value.int IntKind.i64 0, Value.string { data := #[] }, Value.string { data := #[] }, Value.slice none 0 0, Value.int IntKind.i64 0, Value.int IntKind.i64 0, Value.int IntKind.i64 0, Value.int IntKind.i64 0]) rfl rfl fun parts => by kernel_rfl,
  .rows (cs := [.int .i64 0, .int .i64 0, .int .i64 0, .int .u64 0, .int .i64 0, .str [], .str [], .slice [] 0 .exact, .int .i64 0, .int .i64 0, .int .i64 0, .str [], .str [], .int .i64 0, .int .i64 0, .int .u64 0, .int .i64 0, .str [], .str [], .slice [] 0 .exact, .int .i64 0, .int .i64 0, .int .i64 0, .int .i64 0, .str [], .int .i64 0, .int .i64 0]) (z := #[Value.int IntKind.i64 0, Value.int IntKind.i64 0, Value.int IntKind.i64 0, Value.int IntKind.u64 0, Value.int IntKind.i64 0, Value.string { data := #[] }, Value.string { data := #[] }, Value.slice none 0 0, Value.int IntKind.i64 0, Value.int IntKind.i64 0, Value.int IntKind.i64 0, Value.string { data := #[] }, Value.string { data := #[] }, Value.int IntKind.i64 0, Value.int IntKind.i64 0, Value.int IntKind.u64 0, Value.int IntKind.i64 0, Value.string { data := #[] }, Value.string { data := #[] }, Value.slice none 0 0, Value.int IntKind.i64 0, Value.int IntKind.i64 0, Value.int IntKind.i64 0, Value.int IntKind.i64 0, Value.string { data := #[] }, Value.int IntKind.i64 0, Value.int IntKind.i64 0]) rfl rfl fun parts => by kernel_rfl,
  .rows (cs := [.int .i64 0, .int .i64 0, .int .i64 0, .int .u64 0, .int .i64 0, .str [], .str [], .slice [] 0 .exact, .int .i64 0, .int .i64 0, .int .i64 0, .str [], .str [], .int .i64 0, .int .i64 0, .int .u64 0, .int .i64 0, .str [], .str [], .slice [] 0 .exact, .int .i64 0, .int .i64 0, .int .i64 0, .int .i64 0, .str [], .int .i64 0, .int .i64 0]) (z := #[Value.int IntKind.i64 0, Value.int IntKind.i64 0, Value.int IntKind.i64 0, Value.int IntKind.u64 0, Value.int IntKind.i64 0, Value.string { data := #[] }, Value.string { data := #[] }, Value.slice none 0 0, Value.int IntKind.i64 0, Value.int IntKind.i64 0, Value.int IntKind.i64 0, Value.string { data := #[] }, Value.string { data := #[] }, Value.int IntKind.i64 0, Value.int IntKind.i64 0, Value.int IntKind.u64 0, Value.int IntKind.i64 0, Value.string { data := #[] }, Value.string { data := #[] }, Value.slice none 0 0, Value.int IntKind.i64 0, Value.int IntKind.i64 0, Value.int IntKind.i64 0, Value.int IntKind.i64 0, Value.string { data := #[] }, Value.int IntKind.i64 0, Value.int IntKind.i64 0]) rfl rfl fun parts => by kernel_rfl,
  .rows (cs := [.int .i64 0, .str [], .int .i64 0, .int .i64 0, .int .i64 0, .int .u64 0, .int .i64 0, .str [], .str [], .slice [] 0 .exact, .int .i64 0, .int .i64 0, .int .i64 0, .str [], .str [], .int .i64 0, .int .i64 0, .int .u64 0, .int .i64 0, .str [], .str [], .slice [] 0 .exact, .int .i64 0, .int .i64 0, .int .i64 0, .int .i64 0, .str [], .int .i64 0, .int .i64 0, .int .i64 0, .str [], .str [], .int .i64 0, .int .i64 0, .int .u64 0, .int .i64 0, .str [], .str [], .slice [] 0 .exact, .int .i64 0, .int .i64 0, .int .i64 0, .int .i64 0, .int .i64 0, .int .i64 0, .int .u64 0, .int .i64 0, .str [], .str [], .slice [] 0 .exact, .int .i64 0, .int .i64 0, .int .i64 0, .slice [] 0 .exact, .slice [] 0 .exact, .slice [] 0 .exact, .int .i64 0, .int .i64 0]) (z := #[Value.int IntKind.i64 0, Value.string { data := #[] }, Value.int IntKind.i64 0, Value.int IntKind.i64 0, Value.int IntKind.i64 0, Value.int IntKind.u64 0, Value.int IntKind.i64 0, Value.string { data := #[] }, Value.string { data := #[] }, Value.slice none 0 0, Value.int IntKind.i64 0, Value.int IntKind.i64 0, Value.int IntKind.i64 0, Value.string { data := #[] }, Value.string { data := #[] }, Value.int IntKind.i64 0, Value.int IntKind.i64 0, Value.int IntKind.u64 0, Value.int IntKind.i64 0, Value.string { data := #[] }, Value.string { data := #[] }, Value.slice none 0 0, Value.int IntKind.i64 0, Value.int IntKind.i64 0, Value.int IntKind.i64 0, Value.int IntKind.i64 0, Value.string { data := #[] }, Value.int IntKind.i64 0, Value.int IntKind.i64 0, Value.int IntKind.i64 0, Value.string { data := #[] }, Value.string { data := #[] }, Value.int IntKind.i64 0, Value.int IntKind.i64 0, Value.int IntKind.u64 0, Value.int IntKind.i64 0, Value.string { data := #[] }, Value.string { data := #[] }, Value.slice none 0 0, Value.int IntKind.i64 0, Value.int IntKind.i64 0, Value.int IntKind.i64 0, Value.int IntKind.i64 0, Value.int IntKind.i64 0, Value.int IntKind.i64 0, Value.int IntKind.u64 0, Value.int IntKind.i64 0, Value.string { data := #[] }, Value.string { data := #[] }, Value.slice none 0 0, Value.int IntKind.i64 0, Value.int IntKind.i64 0, Value.int IntKind.i64 0, Value.slice none 0 0, Value.slice none 0 0, Value.slice none 0 0, Value.int IntKind.i64 0, Value.int IntKind.i64 0]) rfl rfl fun parts => by kernel_rfl,
  .rows (cs := [.int .i64 0, .str [], .int .i64 0, .int .i64 0, .int .i64 0, .int .u64 0, .int .i64 0, .str [], .str [], .slice [] 0 .exact, .int .i64 0, .int .i64 0, .int .i64 0, .str [], .str [], .int .i64 0, .int .i64 0, .int .u64 0, .int .i64 0, .str [], .str [], .slice [] 0 .exact, .int .i64 0, .int .i64 0, .int .i64 0, .int .i64 0, .str [], .int .i64 0, .int .i64 0, .int .i64 0, .str [], .str [], .int .i64 0, .int .i64 0, .int .u64 0, .int .i64 0, .str [], .str [], .slice [] 0 .exact, .int .i64 0, .int .i64 0, .int .i64 0, .int .i64 0, .int .i64 0, .int .i64 0, .int .u64 0, .int .i64 0, .str [], .str [], .slice [] 0 .exact, .int .i64 0, .int .i64 0, .int .i64 0, .slice [] 0 .exact, .slice [] 0 .exact, .slice [] 0 .exact, .int .i64 0, .int .i64 0]) (z := #[Value.int IntKind.i64 0, Value.string { data := #[] }, Value.int IntKind.i64 0, Value.int IntKind.i64 0, Value.int IntKind.i64 0, Value.int IntKind.u64 0, Value.int IntKind.i64 0, Value.string { data := #[] }, Value.string { data := #[] }, Value.slice none 0 0, Value.int IntKind.i64 0, Value.int IntKind.i64 0, Value.int IntKind.i64 0, Value.string { data := #[] }, Value.string { data := #[] }, Value.int IntKind.i64 0, Value.int IntKind.i64 0, Value.int IntKind.u64 0, Value.int IntKind.i64 0, Value.string { data := #[] }, Value.string { data := #[] }, Value.slice none 0 0, Value.int IntKind.i64 0, Value.int IntKind.i64 0, Value.int IntKind.i64 0, Value.int IntKind.i64 0, Value.string { data := #[] }, Value.int IntKind.i64 0, Value.int IntKind.i64 0, Value.int IntKind.i64 0, Value.string { data := #[] }, Value.string { data := #[] }, Value.int IntKind.i64 0, Value.int IntKind.i64 0, Value.int IntKind.u64 0, Value.int IntKind.i64 0, Value.string { data := #[] }, Value.string { data := #[] }, Value.slice none 0 0, Value.int IntKind.i64 0, Value.int IntKind.i64 0, Value.int IntKind.i64 0, Value.int IntKind.i64 0, Value.int IntKind.i64 0, Value.int IntKind.i64 0, Value.int IntKind.u64 0, Value.int IntKind.i64 0, Value.string { data := #[] }, Value.string { data := #[] }, Value.slice none 0 0, Value.int IntKind.i64 0, Value.int IntKind.i64 0, Value.int IntKind.i64 0, Value.slice none 0 0, Value.slice none 0 0, Value.slice none 0 0, Value.int IntKind.i64 0, Value.int IntKind.i64 0]) rfl rfl fun parts => by kernel_rfl,
  .rows (cs := [.str [], .int .i64 0, .int .i64 0]) (z := #[Value.string { data := #[] }, Value.int IntKind.i64 0, Value.int IntKind.i64 0]) rfl rfl fun parts => by kernel_rfl,
  .rows (cs := [.str [], .int .i64 0, .int .i64 0]) (z := #[Value.string { data := #[] }, Value.int IntKind.i64 0, Value.int IntKind.i64 0]) rfl rfl fun parts => by kernel_rfl,
  .rows (cs := [.slice [] 0 .exact, .int .i64 0, .int .i64 0, .int .i64 0, .int .i64 0, .int .i64 0]) (z := #[Value.slice none 0 0, Value.int IntKind.i64 0, Value.int IntKind.i64 0, Value.int IntKind.i64 0, Value.int IntKind.i64 0, Value.int IntKind.i64 0]) rfl rfl fun parts => by kernel_rfl,
  .rows (cs := [.slice [] 0 .exact, .int .i64 0, .int .i64 0, .int .i64 0, .int .i64 0, .int .i64 0]) (z := #[Value.slice none 0 0, Value.int IntKind.i64 0, Value.int IntKind.i64 0, Value.int IntKind.i64 0, Value.int IntKind.i64 0, Value.int IntKind.i64 0]) rfl rfl fun parts => by kernel_rfl,
  .rows (cs := []) (z := #[]) rfl rfl fun parts => by kernel_rfl,
  .rows (cs := [.str [], .slice [] 0 .exact, .int .i64 0, .int .i64 0]) (z := #[Value.string { data := #[] }, Value.slice none 0 0, Value.int IntKind.i64 0, Value.int IntKind.i64 0]) rfl rfl fun parts => by kernel_rfl,
  .rows (cs := [.str [], .slice [] 0 .exact, .int .i64 0, .int .i64 0]) (z := #[Value.string { data := #[] }, Value.slice none 0 0, Value.int IntKind.i64 0, Value.int IntKind.i64 0]) rfl rfl fun parts => by kernel_rfl,
  .rows (cs := [.str [], .int .i64 0, .str [], .int .i64 0, .int .i64 0]) (z := #[Value.string { data := #[] }, Value.int IntKind.i64 0, Value.string { data := #[] }, Value.int IntKind.i64 0, Value.int IntKind.i64 0]) rfl rfl fun parts => by kernel_rfl,
  .rows (cs := [.str [], .int .i64 0, .str [], .int .i64 0, .int .i64 0]) (z := #[Value.string { data := #[] }, Value.int IntKind.i64 0, Value.string { data := #[] }, Value.int IntKind.i64 0, Value.int IntKind.i64 0]) rfl rfl fun parts => by kernel_rfl,
  .rows (cs := [.str [], .slice [] 0 .exact, .slice [] 0 .exact, .int .i64 0, .int .i64 0]) (z := #[Value.string { data := #[] }, Value.slice none 0 0, Value.slice none 0 0, Value.int IntKind.i64 0, Value.int IntKind.i64 0]) rfl rfl fun parts => by kernel_rfl,
  .rows (cs := [.str [], .slice [] 0 .exact, .slice [] 0 .exact, .int .i64 0, .int .i64 0]) (z := #[Value.string { data := #[] }, Value.slice none 0 0, Value.slice none 0 0, Value.int IntKind.i64 0, Value.int IntKind.i64 0]) rfl rfl fun parts => by kernel_rfl,
  .each (cs := [.str [], .str [], .str []]) (z := #[Value.string { data := #[] }, Value.string { data := #[] }, Value.string { data := #[] }]) rfl rfl fun parts => by kernel_rfl,
  .each (cs := [.str [], .str [], .str [], .str []]) (z := #[Value.string { data := #[] }, Value.string { data := #[] }, Value.string { data := #[] }, Value.string { data := #[] }]) rfl rfl fun parts => by kernel_rfl,
  .rows (cs := [.str [], .str [], .nilIface]) (z := #[Value.string { data := #[] }, Value.string { data := #[] }, Value.nilIface]) rfl rfl fun parts => by kernel_rfl,
  .rows (cs := [.str [], .str [], .nilIface]) (z := #[Value.string { data := #[] }, Value.string { data := #[] }, Value.nilIface]) rfl rfl fun parts => by kernel_rfl,
  .each (cs := [.int .u64 0, .int .u64 0, .int .u64 0, .int .u64 0, .int .u64 0, .int .u64 0, .int .u64 0, .int .u64 0, .int .u64 0, .int .u64 0, .int .u64 0, .int .u64 0, .int .u64 0, .int .u64 0, .int .u64 0, .int .u64 0, .int .u64 0, .int .u64 0, .int .u64 0, .int .u64 0]) (z := #[Value.int IntKind.u64 0, Value.int IntKind.u64 0, Value.int IntKind.u64 0, Value.int IntKind.u64 0, Value.int IntKind.u64 0, Value.int IntKind.u64 0, Value.int IntKind.u64 0, Value.int IntKind.u64 0, Value.int IntKind.u64 0, Value.int IntKind.u64 0, Value.int IntKind.u64 0, Value.int IntKind.u64 0, Value.int IntKind.u64 0, Value.int IntKind.u64 0, Value.int IntKind.u64 0, Value.int IntKind.u64 0, Value.int IntKind.u64 0, Value.int IntKind.u64 0, Value.int IntKind.u64 0, Value.int IntKind.u64 0]) rfl rfl fun parts => by kernel_rfl,
  .rows (cs := [.str []]) (z := #[Value.string { data := #[] }]) rfl rfl fun parts => by kernel_rfl,
  .rows (cs := [.str []]) (z := #[Value.string { data := #[] }]) rfl rfl fun parts => by kernel_rfl,
  .each (cs := [.str [], .str [], .str [], .str [], .str [], .str [], .str [], .str [], .str []]) (z := #[Value.string { data := #[] }, Value.string { data := #[] }, Value.string { data := #[] }, Value.string { data := #[] }, Value.string { data := #[] }, Value.string { data := #[] }, Value.string { data := #[] }, Value.string { data := #[] }, Value.string { data := #[] }]) rfl rfl fun parts => by kernel_rfl, trivial⟩
theorem L_con_ok : AllOf (ConF Tryd.prog) L_con :=
  ⟨⟨_, Tryd.underlying2, rfl⟩,
  ⟨_, Tryd.underlying3, rfl⟩,
  ⟨_, Tryd.underlying4, rfl⟩,
  ⟨_, Tryd.underlying5, rfl⟩,
  ⟨_, Tryd.underlying6, rfl⟩,
  ⟨_, Tryd.underlying9, rfl⟩,
  ⟨_, Tryd.underlying10, rfl⟩,
  ⟨_, Tryd.underlying21, rfl⟩,
  ⟨_, Tryd.underlying24, rfl⟩,
  ⟨_, Tryd.underlying25, rfl⟩,
  ⟨_, Tryd.underlying26, rfl⟩,
  ⟨_, Tryd.underlying27, rfl⟩,
  ⟨_, Tryd.underlying30, rfl⟩,
  ⟨_, Tryd.underlying31, rfl⟩,
  ⟨_, Tryd.underlying32, rfl⟩,
  ⟨_, Tryd.underlying33, rfl⟩,
  ⟨_, Tryd.underlying35, rfl⟩,
  ⟨_, Tryd.underlying36, rfl⟩,
  ⟨_, Tryd.underlying37, rfl⟩,
  ⟨_, Tryd.underlying38, rfl⟩,
  ⟨_, Tryd.underlying39, rfl⟩,
  ⟨_, Tryd.underlying40, rfl⟩,
  ⟨_, Tryd.underlying44, rfl⟩,
  ⟨_, Tryd.underlying45, rfl⟩,
  ⟨_, Tryd.underlying46, rfl⟩,
  ⟨_, Tryd.underlying48, rfl⟩,
  ⟨_, Tryd.underlying50, rfl⟩,
  ⟨_, Tryd.underlying51, rfl⟩,
  ⟨_, Tryd.underlying52, rfl⟩,
  ⟨_, Tryd.underlying53, rfl⟩,
  ⟨_, Tryd.underlying54, rfl⟩,
  ⟨_, Tryd.underlying55, rfl⟩,
  ⟨_, Tryd.underlying56, rfl⟩,
  ⟨_, Tryd.underlying57, rfl⟩,
  ⟨_, Tryd.underlying58, rfl⟩,
  ⟨_, Tryd.underlying59, rfl⟩,
  ⟨_, Tryd.underlying60, rfl⟩,
  ⟨_, Tryd.underlying61, rfl⟩,
  ⟨_, Tryd.underlying64, rfl⟩,
  ⟨_, Tryd.underlying65, rfl⟩,
  ⟨_, Tryd.underlying66, rfl⟩,
  ⟨_, Tryd.underlying69, rfl⟩,
  ⟨_, Tryd.underlying70, rfl⟩,
  ⟨_, Tryd.underlying71, rfl⟩,
  ⟨_, Tryd.underlying73, rfl⟩,
  ⟨_, Tryd.underlying80, rfl⟩,
  ⟨_, Tryd.underlying81, rfl⟩,
  ⟨_, Tryd.underlying83, rfl⟩,
  ⟨_, Tryd.underlying84, rfl⟩,
  ⟨_, Tryd.underlying87, rfl⟩,
  ⟨_, Tryd.underlying88, rfl⟩,
  ⟨_, Tryd.underlying92, rfl⟩,
  ⟨_, Tryd.underlying93, rfl⟩,
  ⟨_, Tryd.underlying99, rfl⟩,
  ⟨_, Tryd.underlying106, rfl⟩,
  ⟨_, Tryd.underlying113, rfl⟩,
  ⟨_, Tryd.underlying116, rfl⟩,
  ⟨_, Tryd.underlying118, rfl⟩,
  ⟨_, Tryd.underlying134, rfl⟩,
  ⟨_, Tryd.underlying135, rfl⟩,
  ⟨_, Tryd.underlying138, rfl⟩,
  ⟨_, Tryd.underlying142, rfl⟩,
  ⟨_, Tryd.underlying144, rfl⟩,
  ⟨_, Tryd.underlying145, rfl⟩,
  ⟨_, Tryd.underlying146, rfl⟩,
  ⟨_, Tryd.underlying147, rfl⟩,
  ⟨_, Tryd.underlying150, rfl⟩, trivial⟩
theorem L_ok : TabsOK Tryd.prog L := ⟨L_eqs_ok, L_eqf_ok, L_sz_ok, L_zero_ok, L_fld_ok, L_elm_ok, L_arr_ok, L_str_ok, L_int_ok, L_bld_ok, L_con_ok⟩
theorem hT : TabOK Tryd.prog T := L_ok.tab

end Go.AE

/- A region that asks the tape for its order, many operations at once. -/
set_option linter.unusedVariables false
set_option linter.unusedSimpArgs false
namespace Go.AE

abbrev AV.i (n : Int) : AV := .int .i64 n
abbrev nh : Option Nat → Bool := fun _ => false
def Tt : Nat → Prop
  | 0 => True
  | 1 => True
  | n + 2 => True ∧ Tt (n + 1)
theorem tt : ∀ n, Tt n
  | 0 => trivial
  | 1 => trivial
  | n + 2 => ⟨trivial, tt (n + 1)⟩

section
variable {P : Program} {T : Tab} {nt : Nat} {Q : APost} {fr : Fr} {σ : St}

def qstep (T : Tab) (hp : Option Nat → Bool) (nt : Nat) (ops : Array Oper) (st : List (Nat × Nat)) (nb : Nat) (sc : List Nat) (no : Nat) (fz : Bool) (listed : Array Bool) (fr : Fr) (σ : St) (i : Nat) : Option (Bool × Fr × St × Prop) :=
  match ops[i]? with
  | none => none
  | some o =>
    match awanted ops o fr with
    | none => none
    | some false => chk (takeOk nt ops st sc listed i o) (some (fz, fr.put o.dst (.tuple []), σ, True))
    | some true =>
      match isPure o.op with
      | true =>
        (match aop T false o.op fr σ with
        | some (v, _, _, ob) => chk (takeOk nt ops st sc listed i o) (some (fz, fr.put o.dst v, σ, ob))
        | none => none)
      | false =>
        match o.op with
        | .load t x =>
          (match aload T fr σ t (ev fr x) with
          | some (v, ob) =>
            (match ev fr x with
            | .loc bi _ => chk (takeOk nt ops st sc listed i o && Nat.blt bi nb && waited ops (stOf st bi) i && noneYet (stOf st bi) listed) (some (fz, fr.put o.dst v, σ, ob))
            | .ptr bi _ => chk (takeOk nt ops st sc listed i o && Nat.blt bi no && waited ops sc i && noneYet sc listed) (some (fz, fr.put o.dst v, σ, ob))
            | .dat _ => chk (takeOk nt ops st sc listed i o && fz) (some (fz, fr.put o.dst v, σ, ob))
            | _ => none)
          | none => none)
        | _ =>
          (match aop T (hp o.dst) o.op fr σ with
          | some (v, fr', σ', ob) => chk (decide (Region.ready .any ops listed = [i]) && dstOk nt o.dst && mayWrite st sc i (tgt fr o.op) && Nat.blt i listed.size) (some (false, fr'.put o.dst v, σ', ob))
          | none => none)

theorem aop_pure_same {hp : Bool} {op : Op} {fr fr' : Fr} {σ σ' : St} {v : AV} {ob : Prop} (hp' : isPure op = true) (h : aop T hp op fr σ = some (v, fr', σ', ob)) (hT : TabOK P T) {E : Ent} {g : Gh} {a : Act} {w : World} (R : Rel E g fr σ a w) (hob : ob) : fr' = fr ∧ σ' = σ :=
  ((aop_sound (P := P) hT (o := ⟨none, op, 0, "", #[], none⟩) R h hob).1 hp').2

theorem AAny.step (hT : TabOK P T) (hp : Option Nat → Bool) {ops : Array Oper} {st : List (Nat × Nat)} {sc : List Nat} {nb no fuel i : Nat} {listed : Array Bool} {fz fz' : Bool} {fr' : Fr} {σ' : St} {ob : Prop} (h : qstep T hp nt ops st nb sc no fz listed fr σ i = some (fz', fr', σ', ob)) (hob : ob)
    (k : AAny P nt ops st nb sc no fz' fuel (listed.setIfInBounds i true) Q fr' σ') : AAny P nt ops st nb sc no fz (fuel + 1) listed Q fr σ := by
  unfold qstep at h
  split at h
  · cases h
  rename_i o hi
  split at h
  · cases h
  · rename_i hw
    obtain ⟨hk, h⟩ := chk_some h
    simp only [Option.some.injEq, Prod.mk.injEq] at h
    obtain ⟨rfl, rfl, rfl, rfl⟩ := h
    exact AAny.skip hi hk hw k
  · rename_i hw
    split at h
    · rename_i hpu
      split at h
      · rename_i v fr1 σ1 ob1 ho
        obtain ⟨hk, h⟩ := chk_some h
        simp only [Option.some.injEq, Prod.mk.injEq] at h
        obtain ⟨rfl, rfl, rfl, rfl⟩ := h
        intro E g a w nu C mu D V0 hn R
        obtain ⟨rfl, rfl⟩ := aop_pure_same (P := P) hpu ho hT R hob
        exact AAny.pure hT hi hk hw hpu ho hob k E g a w nu C mu D V0 hn R
      · cases h
    · split at h
      · rename_i t x hop
        split at h
        · rename_i v ob1 hl
          split at h
          · rename_i bi off hx
            obtain ⟨hk, h⟩ := chk_some h
            simp only [Bool.and_eq_true] at hk
            simp only [Option.some.injEq, Prod.mk.injEq] at h
            obtain ⟨rfl, rfl, rfl, rfl⟩ := h
            exact AAny.load hT hi hk.1.1.1 hw hop hx hk.1.1.2 hk.1.2 hk.2 hl hob k
          · rename_i bi off hx
            obtain ⟨hk, h⟩ := chk_some h
            simp only [Bool.and_eq_true] at hk
            simp only [Option.some.injEq, Prod.mk.injEq] at h
            obtain ⟨rfl, rfl, rfl, rfl⟩ := h
            exact AAny.loadO hT hi hk.1.1.1 hw hop hx hk.1.1.2 hk.1.2 hk.2 hl hob k
          · rename_i cs hx
            obtain ⟨hk, h⟩ := chk_some h
            simp only [Bool.and_eq_true] at hk
            simp only [Option.some.injEq, Prod.mk.injEq] at h
            obtain ⟨rfl, rfl, rfl, rfl⟩ := h
            exact AAny.loadD hT hi hk.1 hw hop hx hk.2 hl hob k
          · cases h
        · cases h
      · split at h
        · rename_i v fr1 σ1 ob1 ho
          obtain ⟨hk, h⟩ := chk_some h
          simp only [Bool.and_eq_true] at hk
          simp only [Option.some.injEq, Prod.mk.injEq] at h
          obtain ⟨rfl, rfl, rfl, rfl⟩ := h
          exact AAny.one hT (hp o.dst) hi (of_decide_eq_true hk.1.1.1) hk.1.1.2 hk.1.2 hw ho hob k hk.2
        · cases h

def qrun (T : Tab) (hp : Option Nat → Bool) (nt : Nat) (ops : Array Oper) (st : List (Nat × Nat)) (nb : Nat) (sc : List Nat) (no : Nat) : List Nat → Bool → Array Bool → Fr → St → Option (Bool × Array Bool × Fr × St × Prop)
  | [], fz, l, fr, σ => some (fz, l, fr, σ, True)
  | i :: r, fz, l, fr, σ =>
    match qstep T hp nt ops st nb sc no fz l fr σ i with
    | none => none
    | some (fz', fr', σ', ob) =>
      match qrun T hp nt ops st nb sc no r fz' (l.setIfInBounds i true) fr' σ' with
      | none => none
      | some (z, l', f, s, ob') => some (z, l', f, s, ob ∧ ob')

def qrunK (T : Tab) (hp : Option Nat → Bool) (nt : Nat) (ops : Array Oper) (st : List (Nat × Nat)) (nb : Nat) (sc : List Nat) (no : Nat) (is : List Nat) (ks : List Nat) (fz : Bool) (l : Array Bool) (fr : Fr) (σ : St) : Option (Bool × Array Bool × Fr × St × Prop) :=
  match qrun T hp nt ops st nb sc no is fz l fr σ with
  | none => none
  | some (z, l', f, s, ob) => some (z, l', { f with sl := keep f.sl ks }, s, ob)

theorem AAny.weak {ops : Array Oper} {st : List (Nat × Nat)} {sc : List Nat} {nb no fuel : Nat} {fz : Bool} {listed : Array Bool} (ks : List Nat) (h : AAny P nt ops st nb sc no fz fuel listed Q { fr with sl := keep fr.sl ks } σ) : AAny P nt ops st nb sc no fz fuel listed Q fr σ :=
  fun E g a w nu C mu D V0 hn R => h E g a w nu C mu D V0 hn (R.weak _ fun k => look_keep fr.sl ks k)

theorem AAny.run_all (hT : TabOK P T) (hp : Option Nat → Bool) {ops : Array Oper} {st : List (Nat × Nat)} {sc : List Nat} {nb no : Nat} : ∀ (is : List Nat) {fuel : Nat} {fz fz' : Bool} {l l' : Array Bool} {fr fr' : Fr} {σ σ' : St} {ob : Prop}, qrun T hp nt ops st nb sc no is fz l fr σ = some (fz', l', fr', σ', ob) → ob →
    AAny P nt ops st nb sc no fz' fuel l' Q fr' σ' → AAny P nt ops st nb sc no fz (fuel + is.length) l Q fr σ
  | [], fuel, fz, fz', l, l', fr, fr', σ, σ', ob, h, _, k => by
    simp only [qrun, Option.some.injEq, Prod.mk.injEq] at h
    obtain ⟨rfl, rfl, rfl, rfl, rfl⟩ := h
    exact k
  | i :: r, fuel, fz, fz', l, l', fr, fr', σ, σ', ob, h, hob, k => by
    simp only [qrun] at h
    split at h
    · cases h
    rename_i fz1 fr1 σ1 ob1 hs
    split at h
    · cases h
    rename_i z l2 f s ob2 hr
    simp only [Option.some.injEq, Prod.mk.injEq] at h
    obtain ⟨rfl, rfl, rfl, rfl, rfl⟩ := h
    exact AAny.step hT hp hs hob.1 (AAny.run_all hT hp r hr hob.2 k)

theorem AAny.run (hT : TabOK P T) (hp : Option Nat → Bool) {ops : Array Oper} {st : List (Nat × Nat)} {sc : List Nat} {nb no fuel n : Nat} {fz fz' : Bool} {l l' : Array Bool} (is ks : List Nat) {fr' : Fr} {σ' : St} {ob : Prop} (hn : Nat.beq n (fuel + is.length) = true) (h : qrunK T hp nt ops st nb sc no is ks fz l fr σ = some (fz', l', fr', σ', ob)) (hob : ob)
    (k : AAny P nt ops st nb sc no fz' fuel l' Q fr' σ') : AAny P nt ops st nb sc no fz n l Q fr σ := by
  have hn := Nat.eq_of_beq_eq_true hn
  subst hn
  unfold qrunK at h
  split at h
  · cases h
  rename_i z l2 f s ob2 hr
  simp only [Option.some.injEq, Prod.mk.injEq] at h
  obtain ⟨rfl, rfl, rfl, rfl, rfl⟩ := h
  exact AAny.run_all hT hp is hr hob (AAny.weak ks k)

@[reducible] def meetQ (F : Fr) (S : St) (Q : APost) : APost
  | .normal, fr, σ => fr = F ∧ σ = S
  | e, fr, σ => Q e fr σ

theorem ACode.meet {c : Code} (F : Fr) (S : St) (h : ACode P nt c (meetQ F S Q) fr σ) (k : Q .normal F S) : ACode P nt c Q fr σ :=
  h.mono fun ax fr σ hq => by
    cases ax with
    | normal => obtain ⟨h1, h2⟩ := hq; subst h1; subst h2; exact k
    | _ => exact hq

theorem AOps.runN (hT : TabOK P T) (hp : Option Nat → Bool) {ops : Array Oper} {l : List Oper} (n : Nat) (ks : List Nat) {fr' : Fr} {σ' : St} {ob : Prop} (h : arunK T hp nt ops (l.take n) ks fr σ = some (fr', σ', ob)) (hob : ob) (k : AOps P nt ops (l.drop n) Q fr' σ') :
    AOps P nt ops l Q fr σ := AOps.run hT hp n ks (List.take_append_drop n l).symm h hob k

theorem ACalls.conv {f : FuncId} {args : List AV} {R R' : AEnd → St → Prop} (h : ACalls P f args σ R) (hc : ∀ e s, R e s → ∃ e', R' e' s ∧ ∀ V x, EndR V e x → EndR V e' x) : ACalls P f args σ R' :=
  fun V vs hH hv => (h V vs hH hv).mono fun e w' ⟨ae, V', s, h1, h2, h3, h4, h5⟩ => let ⟨e', k1, k2⟩ := hc ae s h1; ⟨e', V', s, k1, h2, h3, h4, k2 V' e h5⟩

end
end Go.AE

/- Less is said of whose room a slice's is: of what comes back, and of the frame's variables. -/
set_option linter.unusedVariables false
set_option linter.unusedSimpArgs false
namespace Go.AE

def softC : AV → AV
  | .slice cs n _ => .slice cs n .no
  | a => a
def softV : AV → AV
  | .agg cs => .agg (cs.map softC)
  | .slice cs n _ => .slice cs n .no
  | a => a
def softE : AEnd → AEnd
  | .ret (.tuple vs) => .ret (.tuple (vs.map softV))
  | .ret v => .ret (softV v)
  | .panic v => .panic v

theorem CR_softC {V : View} {a : AV} {v : Value} (h : CR V a v) : CR V (softC a) v := by
  cases a with
  | slice cs n own =>
    simp only [softC, CR] at h ⊢
    obtain ⟨hp, A, cap, e, h1, h2, h3⟩ := h
    exact ⟨rfl, A, cap, e, h1, fun h => (by cases h), h3⟩
  | _ => exact h
theorem CRs_softC {V : View} : ∀ {cs : List AV} {vs : List Value}, CRs V cs vs → CRs V (cs.map softC) vs
  | [], vs, h => h
  | a :: cs, vs, h => by
    simp only [CRs, List.map_cons] at h ⊢
    obtain ⟨v, r, e, h1, h2⟩ := h
    exact ⟨v, r, e, CR_softC h1, CRs_softC h2⟩
theorem CR_softV {V : View} {a : AV} {v : Value} (h : CR V a v) : CR V (softV a) v := by
  cases a with
  | slice cs n own => exact CR_softC h
  | agg cs =>
    simp only [softV, CR] at h ⊢
    obtain ⟨vs, e, h1, h2⟩ := h
    exact ⟨vs, e, CRs_softC h1, h2⟩
  | _ => exact h
theorem CRs_softV {V : View} : ∀ {cs : List AV} {vs : List Value}, CRs V cs vs → CRs V (cs.map softV) vs
  | [], vs, h => h
  | a :: cs, vs, h => by
    simp only [CRs, List.map_cons] at h ⊢
    obtain ⟨v, r, e, h1, h2⟩ := h
    exact ⟨v, r, e, CR_softV h1, CRs_softV h2⟩
theorem EndR_soft {V : View} {e : AEnd} {x : Ending} (h : EndR V e x) : EndR V (softE e) x := by
  cases e with
  | panic v => exact h
  | ret v =>
    cases x <;> simp only [EndR] at h
    cases v with
    | tuple vs =>
      simp only [softE, EndR, CR] at h ⊢
      obtain ⟨us, e, h1⟩ := h
      exact ⟨us, e, CRs_softV h1⟩
    | agg cs => exact CR_softV h
    | slice cs n own => exact CR_softV h
    | _ => exact h

section
variable {P : Program} {T : Tab} {nt : Nat} {Q : APost} {fr : Fr} {σ : St}

theorem ACalls.soft {f : FuncId} {args : List AV} {R : AEnd → St → Prop} (h : ACalls P f args σ (fun e s => R (softE e) s)) : ACalls P f args σ R :=
  h.conv fun e s hr => ⟨softE e, hr, fun V x hx => EndR_soft hx⟩

theorem VR_softC {g : Gh} {tk : List Nat} {a : AV} {v : Value} (h : VR g tk a v) : VR g tk (softC a) v := by
  cases a with
  | slice cs n own =>
    cases own with
    | tok t sz => exact h.2.1
    | exact => exact CR_softC (a := .slice cs n .exact) h
    | no => exact h
  | _ => exact h
theorem VRs_softC {g : Gh} {tk : List Nat} : ∀ {cs : List AV} {vs : List Value}, VRs g tk cs vs → VRs g tk (cs.map softC) vs
  | [], vs, h => h
  | a :: cs, vs, h => by
    obtain ⟨v, r, e, h1, h2⟩ := h
    exact ⟨v, r, e, VR_softC h1, VRs_softC h2⟩

theorem Rel.softBx {E : Ent} {g : Gh} {a : Act} {w : World} (h : Rel E g fr σ a w) (i : Nat) : Rel E g { fr with bx := fr.bx.modify i (List.map softC) } σ a w := by
  refine ⟨h.w, h.H, ⟨by rw [h.F.nb]; simp, h.F.ni, h.F.nx, ?_, h.F.bxn, h.F.bxi, h.F.it, h.F.iti, h.F.tk, h.F.tkc, h.F.tki⟩, h.sl, h.df, h.nt, h.gr⟩
  intro j cs hj
  simp only [List.getElem?_modify] at hj
  cases hb : fr.bx[j]? with
  | none => simp [hb] at hj
  | some row =>
    obtain ⟨c, e, h1, h2, h3⟩ := h.F.bx j row hb
    refine ⟨c, e, h1, ?_, h3⟩
    by_cases hij : i = j
    · simp only [hb, hij, if_true, Option.map_eq_map, Option.map_some, Option.some.injEq] at hj
      subst hj
      exact VRs_softC h2
    · simp only [hb, hij, if_false, Option.map_eq_map, Option.map_some, Option.some.injEq] at hj
      subst hj
      exact h2

theorem ACode.softBx {c : Code} (i : Nat) (h : ACode P nt c Q { fr with bx := fr.bx.modify i (List.map softC) } σ) : ACode P nt c Q fr σ :=
  fun E g a w hn R => h E g a w hn (R.softBx i)
theorem AOps.softBx {ops : Array Oper} {rest : List Oper} (i : Nat) (h : AOps P nt ops rest Q { fr with bx := fr.bx.modify i (List.map softC) } σ) : AOps P nt ops rest Q fr σ :=
  fun E g a w hn R => h E g a w hn (R.softBx i)

theorem Rel.softSl {E : Ent} {g : Gh} {a : Act} {w : World} (h : Rel E g fr σ a w) (k : Nat) : Rel E g { fr with sl := (k, softV (look fr.sl k)) :: fr.sl } σ a w := by
  refine ⟨h.w, h.H, ⟨h.F.nb, h.F.ni, h.F.nx, h.F.bx, h.F.bxn, h.F.bxi, h.F.it, h.F.iti, h.F.tk, h.F.tkc, h.F.tki⟩, fun j => ?_, h.df, h.nt, h.gr⟩
  simp only [look]
  split
  · rename_i e; subst e
    have hv := h.sl k
    cases hl : look fr.sl k with
    | agg cs => rw [hl] at hv; exact CR_softV (a := .agg cs) hv
    | slice cs n own => rw [hl] at hv; exact VR_softC hv
    | any => simp [softV, VR]
    | _ => rw [hl] at hv; exact hv
  · exact h.sl j
theorem ACode.softSl {c : Code} (k : Nat) (h : ACode P nt c Q { fr with sl := (k, softV (look fr.sl k)) :: fr.sl } σ) : ACode P nt c Q fr σ :=
  fun E g a w hn R => h E g a w hn (R.softSl k)
end
end Go.AE

/- A region that asks for its order: several that write may be ready at once; each of them is taken first, in turn. -/
set_option linter.unusedVariables false
set_option linter.unusedSimpArgs false
namespace Go.AE
section
variable {P : Program} {T : Tab} {nt : Nat} {Q : APost} {fr : Fr} {σ : St} {ops : Array Oper} {st : List (Nat × Nat)} {nb : Nat} {sc : List Nat} {no : Nat} {fz : Bool} {fuel : Nat} {listed : Array Bool}

def AStep (P : Program) (nt : Nat) (ops : Array Oper) (st : List (Nat × Nat)) (nb : Nat) (sc : List Nat) (no : Nat) (fz : Bool) (fuel : Nat) (listed : Array Bool) (i : Nat) (Q : APost) (fr : Fr) (σ : St) : Prop :=
  ∀ E g a w (nu : Nat → Nat) (C : Nat → Option Obj) (mu : Nat → Nat) (D : Nat → Option Obj) (V0 : View), E.nt = nt → Rel E g fr σ a w → nb ≤ g.nb → (∀ j, j < nb → g.nu j = nu j) → no ≤ g.V.n → (∀ j, j < no → g.V.mu j = mu j) →
    VLE V0 g.V → (fz = true → g.V = V0) → HeldS nb nu C st listed w → HeldO no mu D sc listed w →
    wpOp P ops (Post E Q) i (fun a' w' => (HeldS nb nu C st (listed.setIfInBounds i true) w' ∧ HeldO no mu D sc (listed.setIfInBounds i true) w' ∧ DatS V0 w') ∧ wpAnyS P ops (Post E Q) (fun l w => HeldS nb nu C st l w ∧ HeldO no mu D sc l w ∧ DatS V0 w) fuel (listed.setIfInBounds i true) a' w') a w

def AllStep (P : Program) (nt : Nat) (ops : Array Oper) (st : List (Nat × Nat)) (nb : Nat) (sc : List Nat) (no : Nat) (fz : Bool) (fuel : Nat) (listed : Array Bool) (Q : APost) (fr : Fr) (σ : St) : List Nat → Prop
  | [] => True
  | i :: r => AStep P nt ops st nb sc no fz fuel listed i Q fr σ ∧ AllStep P nt ops st nb sc no fz fuel listed Q fr σ r

theorem AllStep.get : ∀ {is : List Nat} {i : Nat}, AllStep P nt ops st nb sc no fz fuel listed Q fr σ is → i ∈ is → AStep P nt ops st nb sc no fz fuel listed i Q fr σ
  | [], i, _, h => by cases h
  | x :: r, i, h, hi => by
    rcases List.mem_cons.1 hi with rfl | hi
    · exact h.1
    · exact AllStep.get h.2 hi

theorem AAny.steps (is : List Nat) (hr : Region.ready .any ops listed = is) (hne : is.isEmpty = false) (h : AllStep P nt ops st nb sc no fz fuel listed Q fr σ is) : AAny P nt ops st nb sc no fz (fuel + 1) listed Q fr σ := by
  intro E g a w nu C mu D V0 hn R hnb hnu hno hmu hV hfz hS hO
  refine ⟨fun h0 => (by rw [hr] at h0; rw [h0] at hne; cases hne), fun j hj => ?_⟩
  rw [hr] at hj
  exact h.get hj E g a w nu C mu D V0 hn R hnb hnu hno hmu hV hfz hS hO

theorem AStep.one (hT : TabOK P T) {i : Nat} {o : Oper} (hp : Bool) (hi : ops[i]? = some o) (hd : dstOk nt o.dst = true) (hss : mayWrite st sc i (tgt fr o.op) = true)
    {v : AV} {fr' : Fr} {σ' : St} {ob : Prop} (hw : awanted ops o fr = some true) (ho : aop T hp o.op fr σ = some (v, fr', σ', ob)) (hob : ob)
    (h : AAny P nt ops st nb sc no false fuel (listed.setIfInBounds i true) Q (fr'.put o.dst v) σ') (hl : (Nat.blt i listed.size) = true) : AStep P nt ops st nb sc no fz fuel listed i Q fr σ := by
  intro E g a w nu C mu D V0 hn R hnb hnu hno hmu hV hfz hS hO
  have hdl := dstOk_lt hd
  rw [← hn] at hdl
  obtain ⟨nx, z, g', w', hrun, hnx, R', hv, hG, hK⟩ := (aop_sound hT R ho hob).2
  have hS' : HeldS nb nu C st (listed.setIfInBounds i true) w' := by
    intro q hq hh
    have hqb := Nat.lt_of_lt_of_le hq hnb
    rw [← hnu q hq, hK.1 q hqb ?_, hnu q hq]
    · exact hS q hq (noneYet_mono hh)
    · intro q0 e
      rw [e] at hss
      simp only [mayWrite] at hss
      have hm : i ∈ stOf st q := by simpa using hss
      have := List.all_eq_true.1 hh i hm
      have hlt : i < listed.size := Nat.le_of_ble_eq_true hl
      simp [hlt] at this
  have hO' : HeldO no mu D sc (listed.setIfInBounds i true) w' := by
    intro hh q hq
    rw [← hmu q hq, hK.2 q (Nat.lt_of_lt_of_le hq hno) ?_, hmu q hq]
    · exact hO (noneYet_mono hh) q hq
    · intro q0 e
      rw [e] at hss
      simp only [mayWrite] at hss
      have hm : i ∈ sc := by simpa using hss
      have := List.all_eq_true.1 hh i hm
      have hlt : i < listed.size := Nat.le_of_ble_eq_true hl
      simp [hlt] at this
  unfold wpOp
  rw [hi]
  have hw' := awanted_sound R hw
  simp only [hw', if_true]
  refine .inl ?_
  unfold Oper.wp
  rw [hrun]
  have fin := h E g' (a.put o.dst z) w' nu C mu D V0 hn (R'.put o.dst hv hdl) (Nat.le_trans hnb hG.nb) (fun q hq => (hG.nu q (Nat.lt_of_lt_of_le hq hnb)).trans (hnu q hq))
    (Nat.le_trans hno hG.V.n) (fun q hq => (hG.V.mu q (Nat.lt_of_lt_of_le hq hno)).trans (hmu q hq)) (hV.trans hG.V) (fun h => by cases h) hS' hO'
  rcases hnx with rfl | ⟨rfl, rfl⟩
  · exact ⟨⟨hS', hO', DatS.of R' (hV.trans hG.V)⟩, fin⟩
  · exact ⟨⟨hS', hO', DatS.of R' (hV.trans hG.V)⟩, fin⟩

theorem AStep.call {i : Nat} {o : Oper} {f : Operand} {args : Array Operand} {ts : Array TypeId} {fid : FuncId} {cap avs : List AV} (hi : ops[i]? = some o) (hd : dstOk nt o.dst = true) (hni : (noSt st i && (sc.contains i || Nat.beq no 0)) = true)
    (hw : awanted ops o fr = some true) (ho : o.op = .call { callee := .value f, args := args, argTypes := ts }) (hf : ev fr f = .func fid cap) (he : Go.Proofs.Enters P fid) (ha : shutAll (args.toList.map (ev fr) ++ cap) = some avs)
    (h : ACalls P fid avs σ fun e σ' => match e with | .ret v => AAny P nt ops st nb sc no false fuel (listed.setIfInBounds i true) Q (fr.put o.dst v) σ' | .panic v => Q (.panic v) fr σ') (hl : (Nat.blt i listed.size) = true) : AStep P nt ops st nb sc no fz fuel listed i Q fr σ := by
  intro E g a w nu C mu D V0 hn R hnb hnu hno hmu hVL hfz hS hO
  have hdl := dstOk_lt hd
  rw [← hn] at hdl
  have hw' := awanted_sound R hw
  have hfv := VR_ev' R f
  rw [hf] at hfv
  simp only [VR, CR] at hfv
  obtain ⟨cs, hfv, hcs⟩ := hfv
  have hargs : VRs g fr.tk (args.toList.map (ev fr) ++ cap) (args.toList.map a.eval ++ cs) := VRs_append (VRs_ev R _) (VRs_of_CRs hcs)
  have hc := h g.V _ R.H (CRs_of_VRs hargs ha)
  have hrun : (execOp a.eval o).run P w = .ok (.enter fid (args.toList.map a.eval ++ cs).toArray) w := by
    have e1 : args.map a.eval ++ cs.toArray = (args.toList.map a.eval ++ cs).toArray := by apply Array.ext'; simp
    simp only [execOp, ho, resolve, hfv, Deferred.ofValue, invoke, Sem.run_bind, Sem.run_pure, Result.andThen_ok, Array.empty_append, e1]
    exact he _ w
  simp only [Bool.and_eq_true] at hni
  have hst : noSt st i = true := hni.1
  unfold wpOp
  rw [hi]
  simp only [hw', if_true]
  refine .inl ?_
  unfold Oper.wp
  rw [hrun, Oper.upon_enter]
  rw [R.w] at hc
  refine hc.mono fun e w' ⟨ae, V', σ', hR, hV, hH, gr, hE⟩ => ?_
  have R' := R.step gr hH
  rw [hV] at R'
  cases ae <;> cases e <;> simp only [EndR] at hE
  · have hS' : HeldS nb nu C st (listed.setIfInBounds i true) w' := by
      rw [HeldS.keep hst]
      intro q hq hh
      have hqb := Nat.lt_of_lt_of_le hq hnb
      rw [← hS q hq hh, ← hnu q hq, ← hV, ← R.w]
      exact gr.blk _ (R.F.ltb hqb) (R.F.bxn q hqb).2.2
    have hO' : HeldO no mu D sc (listed.setIfInBounds i true) w' := by
      have h2 := hni.2
      simp only [Bool.or_eq_true] at h2
      rcases h2 with h2 | h2
      · exact HeldO.gone h2 hl
      · have h0 := Nat.eq_of_beq_eq_true h2
        intro _ q hq
        omega
    exact ⟨⟨hS', hO', DatS.of R' (hVL.trans gr.le)⟩, hR E _ _ w' nu C mu D V0 hn (R'.put o.dst (VR_of_CR hE) hdl) hnb hnu (Nat.le_trans hno gr.le.n) (fun q hq => (gr.le.mu q (Nat.lt_of_lt_of_le hq hno)).trans (hmu q hq)) (hVL.trans gr.le) (fun h => by cases h) hS' hO'⟩
  · exact ⟨_, _, _, _, hR, R'.df, hE, R'.w, hH, R'.gr⟩

end
end Go.AE

/- Calls that defer: one operation after the other towards whatever end; the deferred closure. -/
set_option linter.unusedVariables false
set_option linter.unusedSimpArgs false
namespace Go.AE
section
variable {P : Program} {T : Tab} {nt : Nat}

theorem stepQ (hT : TabOK P T) {E : Ent} {g : Gh} {fr : Fr} {σ : St} {a : Act} {w : World} {ops : Array Oper} {QQ : Exit → Act → World → Prop} {o : Oper} {rest : List Oper} (hp : Bool) (R : Rel E g fr σ a w)
    (hn : E.nt = nt) (hw : awanted ops o fr = some true) (hd : dstOk nt o.dst = true) {v : AV} {fr' : Fr} {σ' : St} {ob : Prop} (ho : aop T hp o.op fr σ = some (v, fr', σ', ob)) (hob : ob)
    (k : ∀ g' z w', Rel E g' (fr'.put o.dst v) σ' (a.put o.dst z) w' → wpList P ops QQ rest (a.put o.dst z) w') : wpList P ops QQ (o :: rest) a w := by
  obtain ⟨nx, z, g', w', hrun, hnx, R', hv, hG, hK⟩ := (aop_sound (P := P) hT R ho hob).2
  exact wpList_take (awanted_sound R hw) hrun hnx (k g' z w' (R'.put o.dst hv (by rw [hn]; exact dstOk_lt hd)))

theorem callQ {E : Ent} {g : Gh} {fr : Fr} {σ : St} {a : Act} {w : World} {ops : Array Oper} {QQ : Exit → Act → World → Prop} {o : Oper} {rest : List Oper} {f : Operand} {args : Array Operand} {ts : Array TypeId} {fid : FuncId} {cap avs : List AV} {X : AEnd → St → Prop} (R : Rel E g fr σ a w)
    (hn : E.nt = nt) (hw : awanted ops o fr = some true) (ho : o.op = .call { callee := .value f, args := args, argTypes := ts }) (hd : dstOk nt o.dst = true) (hf : ev fr f = .func fid cap) (he : Go.Proofs.Enters P fid) (ha : shutAll (args.toList.map (ev fr) ++ cap) = some avs)
    (h : ACalls P fid avs σ X) (k1 : ∀ v σ' g' z w', X (.ret v) σ' → Rel E g' (fr.put o.dst v) σ' (a.put o.dst z) w' → wpList P ops QQ rest (a.put o.dst z) w')
    (k2 : ∀ v σ' g' w' x, X (.panic v) σ' → Rel E g' fr σ' a w' → CR g'.V v x → QQ (.panic [{ v := x, recovered := false }]) a w') : wpList P ops QQ (o :: rest) a w := by
  have hw := awanted_sound R hw
  have hdl := dstOk_lt hd
  rw [← hn] at hdl
  have hfv := VR_ev' R f
  rw [hf] at hfv
  simp only [VR, CR] at hfv
  obtain ⟨cs, hfv, hcs⟩ := hfv
  have hargs : VRs g fr.tk (args.toList.map (ev fr) ++ cap) (args.toList.map a.eval ++ cs) := VRs_append (VRs_ev R _) (VRs_of_CRs hcs)
  have hc := h g.V _ R.H (CRs_of_VRs hargs ha)
  unfold wpList
  rw [if_pos hw]
  refine .inl ?_
  have hrun : (execOp a.eval o).run P w = .ok (.enter fid (args.toList.map a.eval ++ cs).toArray) w := by
    have e1 : args.map a.eval ++ cs.toArray = (args.toList.map a.eval ++ cs).toArray := by apply Array.ext'; simp
    simp only [execOp, ho, resolve, hfv, Deferred.ofValue, invoke, Sem.run_bind, Sem.run_pure, Result.andThen_ok, Array.empty_append, e1]
    exact he _ w
  unfold Oper.wp
  rw [hrun, Oper.upon_enter]
  rw [R.w] at hc
  refine hc.mono fun e w' ⟨ae, V', σ', hR, hV, hH, gr, hE⟩ => ?_
  have R' := R.step gr hH
  rw [hV] at R'
  cases ae <;> cases e <;> simp only [EndR] at hE
  · exact k1 _ _ _ _ _ hR (R'.put o.dst (VR_of_CR hE) hdl)
  · obtain ⟨x, rfl, hx⟩ := hE
    exact k2 _ _ _ _ x hR R' hx

def FinR (V0 : View) (K : AEnd → St → Prop) (e : Ending) (w' : World) : Prop := ∃ ae V' σ', K ae σ' ∧ V'.w = w' ∧ HInv V' σ' ∧ Gr V0 V' ∧ EndR V' ae e

def acell2 (T : Tab) (fr : Fr) (σ : St) (b : Nat) (t : TypeId) : Option (AV × Prop) :=
  match look fr.sl b with
  | .loc _ _ => (match aload T fr σ t (look fr.sl b) with | some (v, ob) => (match shut v with | some u => some (u, ob) | none => none) | none => none)
  | .ptr _ _ => (match aload T fr σ t (look fr.sl b) with | some (v, ob) => (match shut v with | some u => some (u, ob) | none => none) | none => none)
  | _ => none

theorem acell2_sound (hT : TabOK P T) {E : Ent} {g : Gh} {fr : Fr} {σ : St} {a : Act} {w : World} (R : Rel E g fr σ a w) {b : Nat} {t : TypeId} {v : AV} {ob : Prop} (h : acell2 T fr σ b t = some (v, ob)) (hob : ob) :
    ∃ z, (resM a.tmps (.cell b t)).run P w = .ok z w ∧ CR g.V v z := by
  have hx := R.sl b
  have key : ∀ v0, aload T fr σ t (look fr.sl b) = some (v0, ob) → shut v0 = some v → (∃ bl o, a.tmps.getD b undef = .pointer (some ⟨bl, o, none⟩)) → ∃ z, (resM a.tmps (.cell b t)).run P w = .ok z w ∧ CR g.V v z := by
    intro v0 hld hs ⟨bl, o, hp⟩
    obtain ⟨z, hz, hv⟩ := aload_sound (P := P) hT R hld hob hx
    rw [hp] at hz
    refine ⟨z, ?_, CR_of_VR hv hs⟩
    simp only [resM, hp]
    simpa [asAddr, Instr.loadAt, Instr.sureAddr] using hz
  unfold acell2 at h
  split at h
  · rename_i i o hl
    split at h
    · rename_i v0 ob0 hld
      split at h
      · rename_i u hs
        simp only [Option.some.injEq, Prod.mk.injEq] at h
        obtain ⟨rfl, rfl⟩ := h
        have hx2 := hx
        rw [hl] at hx2
        exact key v0 hld hs ⟨_, _, hx2.2⟩
      · cases h
    · cases h
  · rename_i i o hl
    split at h
    · rename_i v0 ob0 hld
      split at h
      · rename_i u hs
        simp only [Option.some.injEq, Prod.mk.injEq] at h
        obtain ⟨rfl, rfl⟩ := h
        have hx2 := hx
        rw [hl] at hx2
        simp only [VR, CR] at hx2
        exact key v0 hld hs ⟨_, _, hx2.2⟩
      · cases h
    · cases h
  · cases h

theorem results2 (hT : TabOK P T) {E : Ent} {g : Gh} {fr : Fr} {σ : St} {a : Act} {w : World} (R : Rel E g fr σ a w) {fn : Func} {b1 b2 : Nat} {t1 t2 : TypeId} {u v : AV} {p q : Prop} (hr : fn.results = #[.cell b1 t1, .cell b2 t2])
    (h1 : acell2 T fr σ b1 t1 = some (u, p)) (h2 : acell2 T fr σ b2 t2 = some (v, q)) (hp : p) (hq : q) : ∃ x, (results fn a.tmps).run P w = .ok x w ∧ CR g.V (.tuple [u, v]) x := by
  obtain ⟨x, hx, cx⟩ := acell2_sound (P := P) hT R h1 hp
  obtain ⟨y, hy, cy⟩ := acell2_sound (P := P) hT R h2 hq
  refine ⟨.tuple #[x, y], ?_, ?_⟩
  · rw [results_eq, hr, Array.mapM_eq_mapM_toList]
    simp [List.mapM_cons, hx, hy, Sem.run_bind, Sem.run_pure, Result.andThen_ok]
  · simp only [CR]
    exact ⟨[x, y], rfl, by simp only [CRs]; exact ⟨x, [y], rfl, cx, y, [], rfl, cy, rfl⟩⟩

theorem deferQ {E : Ent} {g : Gh} {fr : Fr} {σ : St} {a : Act} {w : World} {ops : Array Oper} {QQ : Exit → Act → World → Prop} {o : Oper} {rest : List Oper} {t : Nat} {f : FuncId} {cap : Array Value} (R : Rel E g fr σ a w) (hw : awanted ops o fr = some true)
    (ho : o.op = .defer { callee := .value (.tmp t), args := #[], argTypes := #[] }) (hdst : o.dst = none) (hf : a.tmps.getD t undef = .func (.func f) #[] cap)
    (k : wpList P ops QQ rest { a with defers := { target := .fn (.func f) cap, args := #[] } :: a.defers } w) : wpList P ops QQ (o :: rest) a w := by
  unfold wpList
  rw [if_pos (awanted_sound R hw)]
  refine .inl ?_
  unfold Oper.wp
  have hrun : (execOp a.eval o).run P w = .ok (.defer { target := .fn (.func f) cap, args := #[] }) w := by
    have he : a.eval (.tmp t) = .func (.func f) #[] cap := hf
    simp only [execOp, ho, resolve, he, Deferred.ofValue, Sem.run_bind, Sem.run_pure, Result.andThen_ok]
    simp
  rw [hrun, Oper.upon_defer, hdst]
  exact k

theorem Rel.defer {E : Ent} {g : Gh} {fr : Fr} {σ : St} {a : Act} {w : World} (R : Rel E g fr σ a w) (d : Deferred) : Rel { E with df := d :: E.df } g fr σ { a with defers := d :: a.defers } w :=
  ⟨R.w, R.H, R.F, R.sl, by show d :: a.defers = d :: E.df; rw [R.df], R.nt, R.gr⟩

end
end Go.AE

/- A deferred closure that recovers, on the abstract side. -/
set_option linter.unusedVariables false
set_option linter.unusedSimpArgs false
namespace Go.AE
section
variable {P : Program} {T : Tab} {nt : Nat} {Q : APost} {fr : Fr} {σ : St}

theorem AOps.assertOk {ops : Array Oper} {o : Oper} {rest : List Oper} {x : Operand} {i t : TypeId} {v : AV} {d : TypeDesc} (hw : awanted ops o fr = some true) (ho : o.op = .typeAssert x i t false) (hd : dstOk nt o.dst = true) (hx : ev fr x = .iface t v)
    (hu : P.underlying t = some d) (hni : (match d with | .interface _ => false | _ => true) = true)
    (h : AOps P nt ops rest Q (fr.put o.dst v) σ) : AOps P nt ops (o :: rest) Q fr σ := by
  intro E g a w hn R
  have hdl := dstOk_lt hd
  rw [← hn] at hdl
  have hxv := VR_ev' R x
  rw [hx] at hxv
  simp only [VR, CR] at hxv
  obtain ⟨y, hxv, hy⟩ := hxv
  have hrun : (execOp a.eval o).run P w = .ok (.value y) w := by
    have h1 : (underlying t).run P w = .ok d w := run_underlying hu w
    simp only [execOp, ho, hxv]
    cases d <;> simp_all [Instr.typeAssert, Sem.run_bind, Sem.run_pure, Result.andThen_ok]
  exact wpList_take (awanted_sound R hw) hrun (.inl rfl) (h E _ _ _ hn (R.put o.dst (VR_of_CR hy) hdl))

theorem stepS (hT : TabOK P T) {E : Ent} {g : Gh} {a : Act} {w : World} {ops : Array Oper} {QQ : Exit → Act → List Frame → World → Prop} {cs : List Frame} {i : Nat} {o : Oper} {rest : List Nat} (hp : Bool) (R : Rel E g fr σ a w)
    (hn : E.nt = nt) (hi : ops[i]? = some o) (hw : awanted ops o fr = some true) (hd : dstOk nt o.dst = true) {v : AV} {fr' : Fr} {σ' : St} {ob : Prop} (ho : aop T hp o.op fr σ = some (v, fr', σ', ob)) (hob : ob)
    (k : ∀ g' z w', Rel E g' (fr'.put o.dst v) σ' (a.put o.dst z) w' → wpOpsS P ops QQ rest (a.put o.dst z) cs w') : wpOpsS P ops QQ (i :: rest) a cs w := by
  obtain ⟨nx, z, g', w', hrun, hnx, R', hv, hG, hK⟩ := (aop_sound (P := P) hT R ho hob).2
  have kk := k g' z w' (R'.put o.dst hv (by rw [hn]; exact dstOk_lt hd))
  simp only [wpOpsS, hi, awanted_sound R hw, if_true, hrun]
  rcases hnx with rfl | ⟨rfl, rfl⟩
  · exact kk
  · exact kk

theorem recoverS {E : Ent} {g : Gh} {a : Act} {w : World} {ops : Array Oper} {QQ : Exit → Act → List Frame → World → Prop} {c₀ : Frame} {cs : List Frame} {i : Nat} {o : Oper} {rest : List Nat} {x : Value} {v : AV} (R : Rel E g fr σ a w)
    (hn : E.nt = nt) (hi : ops[i]? = some o) (hw : awanted ops o fr = some true) (hd : dstOk nt o.dst = true) (hrun : (execOp a.eval o).run P w = .ok .recover w) (hu : c₀.mode = .panicking [{ v := x, recovered := false }]) (hx : CR g.V v x)
    (k : Rel E g (fr.put o.dst v) σ (a.put o.dst x) w → wpOpsS P ops QQ rest (a.put o.dst x) ({ c₀ with mode := .panicking [{ v := x, recovered := true }] } :: cs) w) : wpOpsS P ops QQ (i :: rest) a (c₀ :: cs) w := by
  have kk := k (R.put o.dst (VR_of_CR hx) (by rw [hn]; exact dstOk_lt hd))
  simp only [wpOpsS, hi, awanted_sound R hw, if_true, hrun, recoverD, hu]
  exact kk
theorem recoverS_idle {E : Ent} {g : Gh} {a : Act} {w : World} {ops : Array Oper} {QQ : Exit → Act → List Frame → World → Prop} {c₀ : Frame} {cs : List Frame} {i : Nat} {o : Oper} {rest : List Nat} (R : Rel E g fr σ a w)
    (hn : E.nt = nt) (hi : ops[i]? = some o) (hw : awanted ops o fr = some true) (hd : dstOk nt o.dst = true) (hrun : (execOp a.eval o).run P w = .ok .recover w) (hu : c₀.mode = .returning)
    (k : Rel E g (fr.put o.dst .nilIface) σ (a.put o.dst .nilIface) w → wpOpsS P ops QQ rest (a.put o.dst .nilIface) (c₀ :: cs) w) : wpOpsS P ops QQ (i :: rest) a (c₀ :: cs) w := by
  have kk := k (R.put o.dst (v := .nilIface) (x := .nilIface) (by simp [VR, CR]) (by rw [hn]; exact dstOk_lt hd))
  simp only [wpOpsS, hi, awanted_sound R hw, if_true, hrun, recoverD, hu]
  exact kk

theorem Rel.enter {V : View} {args : List AV} {vs : List Value} {ntm : Nat} (hl : Nat.ble args.length ntm = true) (hH : HInv V σ) (hv : CRs V args vs) :
    ∃ g, Rel { V := V, nt := ntm } g (fr0 args) σ { tmps := vs.toArray ++ Array.replicate (ntm - vs.toArray.size) undef, defers := [] } V.w := by
  have hvl := CRs_length hv
  have hle := Nat.le_of_ble_eq_true hl
  let g : Gh := { V := V, nu := fun _ => 0, iu := fun _ => 0, tb := fun _ => 0, nb := 0, ni := 0, nx := 0 }
  refine ⟨g, rfl, hH, ⟨rfl, rfl, rfl, fun i cs hi => by simp [fr0] at hi, fun i hi => by simp [g] at hi, fun i j hi => by simp [g] at hi, fun i s p hi => by simp [fr0] at hi, fun i j hi => by simp [g] at hi, fun t ht => by simp [fr0] at ht, fun t ht => by simp [fr0] at ht, fun t u ht => by simp [fr0] at ht⟩, fun k => ?_, rfl, by simp; omega, Gr.refl V⟩
  simp only [fr0, look_frOf, Nat.zero_le, if_true, Nat.sub_zero]
  by_cases hk : k < args.length
  · have e1 : args.getD k .any = args[k] := by simp [List.getD, hk]
    obtain ⟨x, hx, hc⟩ := CRs_get k args[k] hv (List.getElem?_eq_getElem hk)
    have e2 : (vs.toArray ++ Array.replicate (ntm - vs.toArray.size) undef).getD k undef = x := by
      rw [Array.getD_eq_getD_getElem?, Array.getElem?_append_left (by simp; omega)]
      simp [hx]
    rw [e1, e2]
    exact VR_of_CR hc
  · have e1 : args.getD k .any = .any := by simp [List.getD, List.getElem?_eq_none (Nat.le_of_not_lt hk)]
    rw [e1]; simp [VR]

end
end Go.AE

/- A frame's variables as objects; code whose end is told in the world's words. -/
set_option linter.unusedVariables false
set_option linter.unusedSimpArgs false
namespace Go.AE

def prom (n : Nat) : AV → AV
  | .loc i o => .ptr (n + i) o
  | .iter _ => .any
  | .slice cs k (.tok _ _) => .slice cs k .no
  | a => a

section
variable {P : Program} {T : Tab} {nt : Nat} {Q : APost} {fr : Fr} {σ : St}

def Gh.objs (g : Gh) : View := { g.V with n := g.V.n + g.nb, mu := fun i => if i < g.V.n then g.V.mu i else g.nu (i - g.V.n) }

theorem Gh.objs_le (g : Gh) : VLE g.V g.objs := ⟨Nat.le_add_right _ _, fun i hi => by simp [Gh.objs, hi], Nat.le_refl _, fun _ _ => Nat.le_refl _, fun _ _ _ _ => rfl⟩

theorem VR_prom {g : Gh} {tk : List Nat} {a : AV} {v : Value} (h : VR g tk a v) : CR g.objs (prom g.V.n a) v := by
  cases a with
  | loc i o =>
    simp only [VR] at h
    simp only [prom, CR]
    refine ⟨by simp only [Gh.objs]; omega, ?_⟩
    have : ¬ g.V.n + i < g.V.n := by omega
    simp only [Gh.objs, this, if_false, Nat.add_sub_cancel_left]
    exact h.2
  | iter i => simp [prom, CR]
  | any => simp [prom, CR]
  | slice cs k own =>
    cases own with
    | tok t sz => exact CR_mono g.objs_le _ _ h.2.1
    | exact => exact CR_mono g.objs_le (.slice cs k .exact) _ h
    | no => exact CR_mono g.objs_le (.slice cs k .no) _ h
  | bool b => exact CR_mono g.objs_le (.bool b) _ h
  | int k n => exact CR_mono g.objs_le (.int k n) _ h
  | str s => exact CR_mono g.objs_le (.str s) _ h
  | nilp => exact CR_mono g.objs_le .nilp _ h
  | ptr i o => exact CR_mono g.objs_le (.ptr i o) _ h
  | dat cs => exact CR_mono g.objs_le (.dat cs) _ h
  | func f cap => exact CR_mono g.objs_le (.func f cap) _ h
  | nilFunc => exact CR_mono g.objs_le .nilFunc _ h
  | iface t v => exact CR_mono g.objs_le (.iface t v) _ h
  | nilIface => exact CR_mono g.objs_le .nilIface _ h
  | agg cs => exact CR_mono g.objs_le (.agg cs) _ h
  | tuple vs => exact CR_mono g.objs_le (.tuple vs) _ h

theorem VRs_prom {g : Gh} {tk : List Nat} : ∀ {cs : List AV} {vs : List Value}, VRs g tk cs vs → CRs g.objs (cs.map (prom g.V.n)) vs
  | [], vs, h => by simpa [CRs, VRs] using h
  | a :: cs, vs, h => by
    obtain ⟨v, r, e, h1, h2⟩ := h
    simp only [List.map_cons, CRs]
    exact ⟨v, r, e, VR_prom h1, VRs_prom h2⟩

theorem Rel.objs {E : Ent} {g : Gh} {a : Act} {w : World} (R : Rel E g fr σ a w) : HInv g.objs (σ ++ fr.bx.map (List.map (prom g.V.n))) ∧ Gr E.V g.objs := by
  have hn := R.H.n
  have hb := R.F.nb
  refine ⟨⟨?_, ?_, ?_, ?_, GOK_mono g.objs_le R.H.gl⟩, ?_⟩
  · simp only [Gh.objs, List.length_append, List.length_map]; omega
  · intro i cs hi
    by_cases hlt : i < g.V.n
    · rw [List.getElem?_append_left (by omega)] at hi
      obtain ⟨c, e, h1, h2, h3⟩ := R.H.ob i cs hi
      refine ⟨c, e, ?_, CRs_mono g.objs_le _ _ h2, h3⟩
      simp only [Gh.objs, hlt, if_true]; exact h1
    · rw [List.getElem?_append_right (by omega), List.getElem?_map] at hi
      cases hr : fr.bx[i - σ.length]? with
      | none => rw [hr] at hi; simp at hi
      | some row =>
        rw [hr] at hi
        simp only [Option.map_some, Option.some.injEq] at hi
        subst hi
        obtain ⟨c, e, h1, h2, h3⟩ := R.F.bx _ row hr
        refine ⟨c, e, ?_, VRs_prom h2, h3⟩
        simp only [Gh.objs, hlt, if_false]
        rw [show i - g.V.n = i - σ.length by omega]; exact h1
  · intro i hi
    by_cases hlt : i < g.V.n
    · simp only [Gh.objs, hlt, if_true]; exact R.H.ox i hlt
    · simp only [Gh.objs, hlt, if_false]
      exact (R.F.bxn (i - g.V.n) (by simp only [Gh.objs] at hi; omega)).2.1
  · intro i j hi hj he
    simp only [Gh.objs] at hi hj he
    by_cases h1 : i < g.V.n
    · by_cases h2 : j < g.V.n
      · simp only [h1, h2, if_true] at he; exact R.H.inj i j h1 h2 he
      · simp only [h1, h2, if_true, if_false] at he
        exact absurd he ((R.F.bxn (j - g.V.n) (by omega)).2.2 i h1)
    · by_cases h2 : j < g.V.n
      · simp only [h1, h2, if_true, if_false] at he
        exact absurd he.symm ((R.F.bxn (i - g.V.n) (by omega)).2.2 j h2)
      · simp only [h1, h2, if_false] at he
        have := R.F.bxi _ _ (by omega) (by omega) he
        omega
  · refine ⟨R.gr.le.trans g.objs_le, R.gr.os, R.gr.tape, R.gr.output, ?_, R.gr.ext, ?_⟩
    · intro b hb' hno
      exact R.gr.blk b hb' hno
    · intro i h1 h2
      by_cases hlt : i < g.V.n
      · simp only [Gh.objs, hlt, if_true]; exact R.gr.new i h1 hlt
      · simp only [Gh.objs, hlt, if_false]
        exact (R.F.bxn (i - g.V.n) (by simp only [Gh.objs] at h2; omega)).1

theorem Rel.bare {V : View} {a : Act} {w : World} (hw : V.w = w) (hH : HInv V σ) (sl : List (Nat × AV)) (hsl : ∀ k, CR V (look sl k) (a.tmps.getD k undef)) :
    ∃ g, g.V = V ∧ Rel { V := V, nt := a.tmps.size, df := a.defers } g ⟨sl, [], [], [], 0⟩ σ a w := by
  let g : Gh := { V := V, nu := fun _ => 0, iu := fun _ => 0, tb := fun _ => 0, nb := 0, ni := 0, nx := 0 }
  exact ⟨g, rfl, hw, hH, ⟨rfl, rfl, rfl, fun i cs hi => by simp at hi, fun i hi => by simp [g] at hi, fun i j hi => by simp [g] at hi, fun i s p hi => by simp at hi, fun i j hi => by simp [g] at hi, fun t ht => by simp at ht, fun t ht => by simp at ht, fun t u ht => by simp at ht⟩, fun k => VR_of_CR (hsl k), rfl, rfl, Gr.refl V⟩

def QCode (P : Program) (nt : Nat) (c : Code) (QQ : Ent → Exit → Act → World → Prop) (fr : Fr) (σ : St) : Prop :=
  ∀ E g a w, E.nt = nt → E.df = [] → Rel E g fr σ a w → c.wp P (QQ E) a w

theorem QCode.seq {x y : Code} {QQ : Ent → Exit → Act → World → Prop} (h : ACode P nt x (fun ax fr' σ' => ax = .normal ∧ QCode P nt y QQ fr' σ') fr σ) : QCode P nt (.seq x y) QQ fr σ := by
  intro E g a w hn hd R
  refine wp_seq (wp_mono (h E g a w hn R) fun e a' w' ⟨ax, g', fr', σ', hq, hr⟩ => ?_)
  obtain ⟨rfl, hq⟩ := hq
  cases e <;> simp only [RelX] at hr
  exact hq E g' a' w' hn hd hr

theorem QCode.softSl {c : Code} {QQ : Ent → Exit → Act → World → Prop} (k : Nat) (h : QCode P nt c QQ { fr with sl := (k, softV (look fr.sl k)) :: fr.sl } σ) : QCode P nt c QQ fr σ :=
  fun E g a w hn hd R => h E g a w hn hd (R.softSl k)

end
end Go.AE

/- What the lexer computes, in plain Lean. -/
set_option linter.unusedVariables false
namespace Go.AE

def letterS (c : Int) : Bool := c == 95 || (decide (c ≥ 97) && decide (c ≤ 122)) || (decide (c ≥ 65) && decide (c ≤ 90))
def digitS (c : Int) : Bool := decide (c ≥ 48) && decide (c ≤ 57)
def wordS (c : Int) : Bool := letterS c || digitS c
def letterB (b : UInt8) : Bool := letterS (b.toNat : Int)
def digitB (b : UInt8) : Bool := digitS (b.toNat : Int)
def wordB (b : UInt8) : Bool := letterB b || digitB b

structure Tok where
  kind : Int
  text : List UInt8
  n : Int
  line : Int
  col : Int
deriving DecidableEq, Inhabited

def tokAV (t : Tok) : List AV := [.int .i64 t.kind, .str t.text, .int .u64 t.n, .int .i64 t.line, .int .i64 t.col]
def toksAV : List Tok → List AV
  | [] => []
  | t :: l => tokAV t ++ toksAV l

theorem toksAV_length : ∀ (l : List Tok), (toksAV l).length = 5 * l.length
  | [] => rfl
  | t :: l => by simp only [toksAV, List.length_append, toksAV_length l, List.length_cons, tokAV, List.length_nil]; omega

theorem toksAV_at : ∀ (l : List Tok) (j : Nat), j < l.length → ((toksAV l).drop (j * 5)).take 5 = tokAV (l.getD j default)
  | [], j, h => by simp at h
  | t :: l, 0, h => by simp [toksAV, tokAV]
  | t :: l, j + 1, h => by
    have := toksAV_at l j (by simpa using h)
    rw [show (j + 1) * 5 = 5 + j * 5 from by omega, ← List.drop_drop]
    simpa [toksAV, tokAV] using this

theorem toksAV_append (a b : List Tok) : toksAV (a ++ b) = toksAV a ++ toksAV b := by
  induction a with
  | nil => rfl
  | cons t a ih => simp [toksAV, ih]

structure Rd where
  rest : List UInt8
  line : Int
  col : Int

def rdAV (r : Rd) : List AV := [.str r.rest, .int .i64 r.line, .int .i64 r.col]

def advL (l : Int) : List UInt8 → Int
  | [] => l
  | b :: s => advL (if b = 10 then l + 1 else l) s
def advC (c : Int) : List UInt8 → Int
  | [] => c
  | b :: s => advC (if b = 10 then 1 else c + 1) s

def skipS (n : Nat) (r : Rd) : Rd := ⟨r.rest.drop n, advL r.line (r.rest.take n), advC r.col (r.rest.take n)⟩

theorem advL_append (l : Int) (a b : List UInt8) : advL l (a ++ b) = advL (advL l a) b := by
  induction a generalizing l with
  | nil => rfl
  | cons x a ih => simp [advL, ih]
theorem advC_append (c : Int) (a b : List UInt8) : advC c (a ++ b) = advC (advC c a) b := by
  induction a generalizing c with
  | nil => rfl
  | cons x a ih => simp [advC, ih]

theorem advL_le (l : Int) (a : List UInt8) : l ≤ advL l a ∧ advL l a ≤ l + a.length := by
  induction a generalizing l with
  | nil => simp [advL]
  | cons x a ih =>
    have := ih (if x = 10 then l + 1 else l)
    simp only [advL, List.length_cons]
    split at this <;> rename_i h <;> simp only [h, if_true, if_false] at * <;> omega
theorem advC_le (c : Int) (hc : 1 ≤ c) (a : List UInt8) : 1 ≤ advC c a ∧ advC c a ≤ c + a.length := by
  induction a generalizing c with
  | nil => simp [advC]; exact hc
  | cons x a ih =>
    simp only [advC, List.length_cons]
    split
    · have := ih 1 (by omega); omega
    · have := ih (c + 1) (by omega); omega

theorem bytesAV_at (X : List UInt8) (J : Nat) (h : J < X.length) : ((bytesAV X).drop (J * 1)).take 1 = [.int .u8 ((X.getD J 0).toNat : Int)] := by
  rw [Nat.mul_one, List.take_one, List.head?_drop, bytesAV, List.getElem?_map, List.getElem?_eq_getElem h]
  simp [List.getD, h]

theorem bytesAV_length (X : List UInt8) : (bytesAV X).length = X.length := by simp [bytesAV]

theorem take_succ_getD (s : List UInt8) (i : Nat) (h : i < s.length) : s.take (i + 1) = s.take i ++ [s.getD i 0] := by
  rw [List.take_add_one, List.getElem?_eq_getElem h]; simp [List.getD, h]

theorem advL_succ (l : Int) (s : List UInt8) (i : Nat) (h : i < s.length) : advL l (s.take (i + 1)) = if s.getD i 0 = 10 then advL l (s.take i) + 1 else advL l (s.take i) := by
  rw [take_succ_getD s i h, advL_append]; rfl
theorem advC_succ (c : Int) (s : List UInt8) (i : Nat) (h : i < s.length) : advC c (s.take (i + 1)) = if s.getD i 0 = 10 then 1 else advC c (s.take i) + 1 := by
  rw [take_succ_getD s i h, advC_append]; rfl

def runF (p : Int → Bool) (s : List UInt8) (i : Nat) : Nat :=
  if h : i < s.length then (if p ((dec s i).1 : Int) then runF p s (i + max 1 (dec s i).2) else i) else s.length
termination_by s.length - i

theorem byte_ten {b : UInt8} : ((b.toNat : Int) == 10) = decide (b = 10) := by
  rw [Bool.eq_iff_iff]
  simp only [beq_iff_eq, decide_eq_true_eq]
  constructor
  · intro h; apply UInt8.toNat_inj.1; have : b.toNat = 10 := by omega
    rw [this]; rfl
  · intro h; subst h; rfl

theorem dec_pos (s : List UInt8) (i : Nat) (h : i < s.length) : 1 ≤ (dec s i).2 := by
  unfold dec Utf8.decode
  dsimp only
  repeat' split
  all_goals simp

def lowerI (c : Int) : Int := IntKind.u8.wrap (BitVec.ofInt 8 c ||| BitVec.ofInt 8 32).toNat
def digV (c : Int) : Option Int :=
  if 48 ≤ c ∧ c ≤ 57 then some (c - 48) else if 97 ≤ lowerI c ∧ lowerI c ≤ 122 then some (lowerI c - 97 + 10) else none
def puF (base cut mx : Int) : List UInt8 → Int → Int × Bool
  | [], n => (n, true)
  | c :: s, n =>
    match digV (c.toNat : Int) with
    | none => (0, false)
    | some d => if d ≥ base then (0, false) else if n ≥ cut then (mx, false) else if n * base + d > mx then (mx, false) else puF base cut mx s (n * base + d)
def puS (base cut mx : Int) (s : List UInt8) : Int × Bool := if s = [] then (0, false) else puF base cut mx s 0

theorem puF_at (base cut mx : Int) (s : List UInt8) (i : Nat) (n : Int) (h : i < s.length) : puF base cut mx (s.drop i) n =
    match digV ((s.getD i 0).toNat : Int) with
    | none => (0, false)
    | some d => if d ≥ base then (0, false) else if n ≥ cut then (mx, false) else if n * base + d > mx then (mx, false) else puF base cut mx (s.drop (i + 1)) (n * base + d) := by
  rw [List.drop_eq_getElem_cons h]
  simp [puF, List.getD, h]

theorem byte_bd (b : UInt8) : 0 ≤ (b.toNat : Int) ∧ (b.toNat : Int) < 256 := by
  have := b.toNat_lt; omega

theorem puF_end (base cut mx : Int) (s : List UInt8) (i : Nat) (n : Int) (h : s.length ≤ i) : puF base cut mx (s.drop i) n = (n, true) := by
  rw [List.drop_eq_nil_of_le h]; rfl

theorem puF_bd (base cut mx : Int) (hb : 0 ≤ base) (hm : 0 ≤ mx) : ∀ (s : List UInt8) (n : Int), 0 ≤ n → n ≤ mx → 0 ≤ (puF base cut mx s n).1 ∧ (puF base cut mx s n).1 ≤ mx
  | [], n, h0, h1 => ⟨h0, h1⟩
  | c :: s, n, h0, h1 => by
    simp only [puF]
    cases hd : digV (c.toNat : Int) with
    | none => exact ⟨Int.le_refl _, hm⟩
    | some d =>
      have hd0 : 0 ≤ d := by
        unfold digV at hd
        split at hd
        · injection hd with hd; omega
        · split at hd
          · injection hd with hd; omega
          · cases hd
      simp only
      split
      · exact ⟨Int.le_refl _, hm⟩
      · split
        · exact ⟨hm, Int.le_refl _⟩
        · split
          · exact ⟨hm, Int.le_refl _⟩
          · exact puF_bd base cut mx hb hm s _ (by have := Int.mul_nonneg h0 hb; omega) (by omega)
theorem puS_bd (base cut mx : Int) (hb : 0 ≤ base) (hm : 0 ≤ mx) (s : List UInt8) : 0 ≤ (puS base cut mx s).1 ∧ (puS base cut mx s).1 ≤ mx := by
  unfold puS
  split
  · exact ⟨Int.le_refl _, hm⟩
  · exact puF_bd base cut mx hb hm s 0 (Int.le_refl _) hm

def RdOK (r : Rd) : Prop := 1 ≤ r.line ∧ 1 ≤ r.col ∧ r.line + r.rest.length ≤ 1000000 ∧ r.col + r.rest.length ≤ 1000000 ∧ r.rest.length ≤ 8192

theorem skipS_ok {r : Rd} {n : Nat} (h : RdOK r) (hn : n ≤ r.rest.length) : RdOK (skipS n r) := by
  obtain ⟨h1, h2, h3, h4, h5⟩ := h
  have a := advL_le r.line (r.rest.take n)
  have b := advC_le r.col h2 (r.rest.take n)
  simp only [List.length_take] at a b
  refine ⟨?_, ?_, ?_, ?_, ?_⟩ <;> simp only [skipS, List.length_drop] <;> omega

theorem runF_le (p : Int → Bool) (s : List UInt8) (i : Nat) (h : i ≤ s.length) : runF p s i ≤ s.length := by
  unfold runF
  split
  · split
    · rename_i hi _
      by_cases h9 : i + max 1 (dec s i).2 ≤ s.length
      · exact runF_le p s _ h9
      · rw [runF, dif_neg (by omega)]; exact Nat.le_refl _
    · exact h
  · exact Nat.le_refl _
termination_by s.length - i

def blankB (b : UInt8) : Bool := decide (0 ≤ Lib.indexByte [32, 9, 13, 10] b)
def lineN (l : List UInt8) : Nat := (l.takeWhile (fun b => b != 10)).length
def wordN (l : List UInt8) : Nat := (l.takeWhile wordB).length

def blankF : Nat → Rd → Rd
  | 0, r => r
  | k + 1, r =>
    if r.rest = [] then r
    else if [47, 47].isPrefixOf r.rest then blankF k (skipS (lineN r.rest) r)
    else if blankB (r.rest.getD 0 0) then blankF k (skipS 1 r) else r
def blankS (r : Rd) : Rd := blankF r.rest.length r

theorem dec_ascii (s : List UInt8) (i : Nat) (h : i < s.length) (ha : (s.getD i 0).toNat < 128) : dec s i = ((s.getD i 0).toNat, 1) := by
  have e : s.getD i 0 = s[i] := by simp [List.getD, h]
  rw [e] at ha ⊢
  exact decode_ascii ⟨s.toArray⟩ i h ha

theorem lineN_pos {l : List UInt8} (h : [47, 47].isPrefixOf l = true) : 1 ≤ lineN l := by
  obtain ⟨t, rfl⟩ := List.isPrefixOf_iff_prefix.1 h
  simp [lineN]

theorem takeWhile_le (p : UInt8 → Bool) (l : List UInt8) : (l.takeWhile p).length ≤ l.length := by
  induction l with
  | nil => simp
  | cons b l ih => rw [List.takeWhile_cons]; split <;> simp; omega

def wordsB : List UInt8 := [32, 114, 101, 99, 111, 114, 100, 32, 103, 108, 111, 98, 97, 108, 32, 102, 117, 110, 32, 116, 104, 114, 101, 97, 100, 32, 108, 101, 116, 32, 118, 97, 114, 32, 115, 101, 116, 32, 112, 114, 105, 110, 116, 32, 105, 102, 32, 101, 108, 115, 101, 32, 108, 111, 111, 112, 32, 98, 114, 101, 97, 107, 32, 99, 111, 110, 116, 105, 110, 117, 101, 32, 97, 116, 111, 109, 105, 99, 32, 99, 97, 108, 108, 32, 108, 111, 97, 100, 32, 110, 101, 119, 32, 115, 105, 122, 101, 32, 105, 110, 116, 32, 114, 101, 97, 108, 32, 105, 110, 116, 115, 32, 110, 105, 108, 32, 105, 110, 112, 117, 116, 32, 116, 114, 117, 110, 99, 32]
def isWordS (s : List UInt8) : Bool := (!(s == [])) && (!(decide (0 ≤ Lib.indexByte s 32))) && Lib.contains wordsB (([32] ++ s) ++ [32])

def nameF (s : List UInt8) (i : Nat) : Bool :=
  if h : i < s.length then (if (!letterS ((dec s i).1 : Int)) && (((i : Int) == 0) || (!digitS ((dec s i).1 : Int))) then false else nameF s (i + max 1 (dec s i).2)) else true
termination_by s.length - i
def nameC : List UInt8 → Bool
  | [] => true
  | b :: r => letterB b && r.all wordB
def isNameS (s : List UInt8) : Bool := nameC s && ((!(s == [])) && (!isWordS s))

def pu10 (s : List UInt8) : Int × Bool := puS 10 1844674407370955162 9223372036854775807 s
def pu16 (s : List UInt8) : Int × Bool := puS 16 1152921504606846976 18446744073709551615 s

def wordT (r : Rd) : Tok × Bool :=
  let s := r.rest.take (wordN r.rest)
  if isWordS s then (⟨2, s, 0, r.line, r.col⟩, true)
  else if isNameS s then (⟨1, s, 0, r.line, r.col⟩, true)
  else (⟨3, s, (pu10 s).1, r.line, r.col⟩, (pu10 s).2 && (Lib.decDigits (pu10 s).1.toNat == s))

def realText (r : Rd) : List UInt8 := [35] ++ (r.rest.drop 1).take (wordN (r.rest.drop 1))
def realT (r : Rd) : Tok × Bool :=
  (⟨4, realText r, (pu16 ((realText r).drop 1)).1, r.line, r.col⟩, (pu16 ((realText r).drop 1)).2 && ((((realText r).length : Int) == 17) && (!Lib.containsAny (realText r) [65, 66, 67, 68, 69, 70])))
def realR (r : Rd) : Rd := skipS (wordN (r.rest.drop 1)) (skipS 1 r)

def twoB (l : List UInt8) : Bool := [61, 61].isPrefixOf l || ([33, 61].isPrefixOf l || [60, 61].isPrefixOf l)
def signB (b : UInt8) : Bool := !(decide (Lib.indexByte [123, 125, 40, 41, 91, 93, 59, 58, 44, 46, 61, 60, 43, 45, 42, 47, 37] b < 0))
def signT (r : Rd) : Tok × Bool :=
  if twoB r.rest then (⟨5, r.rest.take 2, 0, r.line, r.col⟩, true)
  else if signB (r.rest.getD 0 0) then (⟨5, r.rest.take 1, 0, r.line, r.col⟩, true)
  else (⟨5, [], 0, r.line, r.col⟩, false)
def signR (r : Rd) : Rd := if twoB r.rest then skipS 2 r else if signB (r.rest.getD 0 0) then skipS 1 r else r

def nextT (r : Rd) : Tok × Bool :=
  if wordB (r.rest.getD 0 0) then wordT r else if (r.rest.getD 0 0) = 35 then realT r else signT r
def nextR (r : Rd) : Rd :=
  if wordB (r.rest.getD 0 0) then skipS (wordN r.rest) r else if (r.rest.getD 0 0) = 35 then realR r else signR r

end Go.AE

/-
  DERIVED: THE SHELF's CONTRACTS AT THIS DUMP, IN PLAIN WORDS (tools/lay-plain.mjs out of 'TrydShelf.lean', which tools/lay-shelf.mjs wrote): THE SAME DECLARATIONS UNDER THE SAME NAMES: 'import', 'namespace', 'open', 'def', 'theorem' AND NOTHING ELSE: no command of the shelf's: FOR A HAND-IN. Each laying: the table of numbers ('.._ren') and one theorem, a field a fact of the dump's own or the kernel's comparison; each contract: ONE APPLICATION.
-/
namespace Go.Proofs
open Go.Shelf
def Tryd.lays137_ren : Go.Shelf.Ren := ⟨fun | 137 => 36 | 217 => 50 | 266 => 64 | n => n, fun | 9 => 9 | 5 => 5 | 3 => 3 | n => n, fun | n => n⟩
theorem Tryd.lays137 : Go.Proofs.Lays.n137 Tryd.prog Tryd.lays137_ren := {
  mixed := by kernel_rfl
  f137 := Tryd.func36.trans (congrArg some (by kernel_rfl))
  f217 := Tryd.func50.trans (congrArg some (by kernel_rfl))
  f266 := Tryd.func64.trans (congrArg some (by kernel_rfl))
  t3 := Tryd.underlying3
  a3 := Tryd.isAgg3
  z3 := Tryd.sizeOf3
  v3 := Tryd.zeroValue3
  t5 := Tryd.underlying5
  a5 := Tryd.isAgg5
  z5 := Tryd.sizeOf5
  v5 := Tryd.zeroValue5
  t9 := Tryd.underlying9
  a9 := Tryd.isAgg9
  z9 := Tryd.sizeOf9
  v9 := Tryd.zeroValue9 }
open Go.RowKit in
theorem Tryd.strings_IndexByte (s : ByteArray) (c : Int) (w : World) :
    Calls Tryd.prog 36 #[.string s, .int .u8 c] w fun e w' => e = .returned (.int .i64 (Lib.indexByte s.data.toList c.toNat.toUInt8)) ∧ w' = w := Any.strings_IndexByte Tryd.lays137 s c w
def Tryd.lays129_ren : Go.Shelf.Ren := ⟨fun | 129 => 98 | n => n, fun | 53 => 31 | 3 => 3 | 4 => 4 | 46 => 92 | 5 => 5 | 9 => 9 | n => n, fun | n => n⟩
theorem Tryd.lays129 : Go.Proofs.Lays.n129 Tryd.prog Tryd.lays129_ren := {
  mixed := by kernel_rfl
  f129 := Tryd.func98.trans (congrArg some (by kernel_rfl))
  t3 := Tryd.underlying3
  a3 := Tryd.isAgg3
  z3 := Tryd.sizeOf3
  v3 := Tryd.zeroValue3
  t4 := Tryd.underlying4
  a4 := Tryd.isAgg4
  z4 := Tryd.sizeOf4
  v4 := Tryd.zeroValue4
  t5 := Tryd.underlying5
  a5 := Tryd.isAgg5
  z5 := Tryd.sizeOf5
  v5 := Tryd.zeroValue5
  t9 := Tryd.underlying9
  a9 := Tryd.isAgg9
  z9 := Tryd.sizeOf9
  v9 := Tryd.zeroValue9
  t46 := Tryd.underlying92
  a46 := Tryd.isAgg92
  z46 := Tryd.sizeOf92
  v46 := Tryd.zeroValue92
  t53 := Tryd.underlying31
  a53 := Tryd.isAgg31
  z53 := Tryd.sizeOf31
  v53 := Tryd.zeroValue31 }
theorem Tryd.bits_Len64 (x : Int) (w : World) (h0 : 0 ≤ x) (h1 : x ≤ 18446744073709551615) :
    Calls Tryd.prog 98 #[.int .u64 x] w fun e w' => e = .returned (.int .i64 (Lib.bitLen x.toNat)) ∧ w' = w := Any.bits_Len64 Tryd.lays129 x w h0 h1
def Tryd.laysM246_ren : Go.Shelf.Ren := ⟨fun | 246 => 111 | 283 => 85 | 284 => 86 | 285 => 87 | 286 => 88 | 129 => 98 | 317 => 97 | 318 => 99 | 319 => 100 | 320 => 101 | 337 => 107 | 338 => 108 | n => n, fun | 2 => 2 | 3 => 3 | 9 => 9 | 4 => 4 | 171 => 121 | 0 => 0 | 53 => 31 | 37 => 93 | 5 => 5 | 173 => 124 | 212 => 138 | 51 => 113 | 20 => 20 | 213 => 139 | 46 => 92 | 232 => 152 | 233 => 153 | n => n, fun | 17 => 3 | 18 => 4 | 19 => 5 | n => n⟩
theorem Tryd.laysM246 : Go.Proofs.LaysM.n246 Tryd.prog Tryd.laysM246_ren := {
  mixed := by kernel_rfl
  f129 := Tryd.func98.trans (congrArg some (by kernel_rfl))
  f246 := Tryd.func111.trans (congrArg some (by kernel_rfl))
  f283 := Tryd.func85.trans (congrArg some (by kernel_rfl))
  f284 := Tryd.func86.trans (congrArg some (by kernel_rfl))
  f285 := Tryd.func87.trans (congrArg some (by kernel_rfl))
  f286 := Tryd.func88.trans (congrArg some (by kernel_rfl))
  f317 := Tryd.func97.trans (congrArg some (by kernel_rfl))
  f318 := Tryd.func99.trans (congrArg some (by kernel_rfl))
  f319 := Tryd.func100.trans (congrArg some (by kernel_rfl))
  f320 := Tryd.func101.trans (congrArg some (by kernel_rfl))
  f337 := Tryd.func107.trans (congrArg some (by kernel_rfl))
  f338 := Tryd.func108.trans (congrArg some (by kernel_rfl))
  t0 := Tryd.underlying0
  a0 := Tryd.isAgg0
  z0 := Tryd.sizeOf0
  v0 := Tryd.zeroValue0
  t2 := Tryd.underlying2
  a2 := Tryd.isAgg2
  z2 := Tryd.sizeOf2
  v2 := Tryd.zeroValue2
  t3 := Tryd.underlying3
  a3 := Tryd.isAgg3
  z3 := Tryd.sizeOf3
  v3 := Tryd.zeroValue3
  t4 := Tryd.underlying4
  a4 := Tryd.isAgg4
  z4 := Tryd.sizeOf4
  v4 := Tryd.zeroValue4
  t5 := Tryd.underlying5
  a5 := Tryd.isAgg5
  z5 := Tryd.sizeOf5
  v5 := Tryd.zeroValue5
  t9 := Tryd.underlying9
  a9 := Tryd.isAgg9
  z9 := Tryd.sizeOf9
  v9 := Tryd.zeroValue9
  t20 := Tryd.underlying20
  a20 := Tryd.isAgg20
  z20 := Tryd.sizeOf20
  v20 := Tryd.zeroValue20
  t37 := Tryd.underlying93
  a37 := Tryd.isAgg93
  z37 := Tryd.sizeOf93
  v37 := Tryd.zeroValue93
  t46 := Tryd.underlying92
  a46 := Tryd.isAgg92
  z46 := Tryd.sizeOf92
  v46 := Tryd.zeroValue92
  t51 := Tryd.underlying113
  a51 := Tryd.isAgg113
  z51 := Tryd.sizeOf113
  v51 := Tryd.zeroValue113
  t53 := Tryd.underlying31
  a53 := Tryd.isAgg31
  z53 := Tryd.sizeOf31
  v53 := Tryd.zeroValue31
  t171 := Tryd.underlying121
  a171 := Tryd.isAgg121
  z171 := Tryd.sizeOf121
  v171 := Tryd.zeroValue121
  t173 := Tryd.underlying124
  a173 := Tryd.isAgg124
  z173 := Tryd.sizeOf124
  v173 := Tryd.zeroValue124
  t212 := Tryd.underlying138
  a212 := Tryd.isAgg138
  z212 := Tryd.sizeOf138
  v212 := Tryd.zeroValue138
  t213 := Tryd.underlying139
  a213 := Tryd.isAgg139
  z213 := Tryd.sizeOf139
  t232 := Tryd.underlying152
  a232 := Tryd.isAgg152
  z232 := Tryd.sizeOf152
  v232 := Tryd.zeroValue152
  t233 := Tryd.underlying153
  a233 := Tryd.isAgg153
  z233 := Tryd.sizeOf153
  v233 := Tryd.zeroValue153
  g17 := by kernel_rfl
  g18 := by kernel_rfl
  g19 := by kernel_rfl
  i0 := by kernel_rfl
  i2 := by kernel_rfl
  i3 := by kernel_rfl
  i4 := by kernel_rfl
  i5 := by kernel_rfl
  i9 := by kernel_rfl
  i20 := by kernel_rfl
  i37 := by kernel_rfl
  i46 := by kernel_rfl
  i51 := by kernel_rfl
  i53 := by kernel_rfl
  i171 := by kernel_rfl
  i173 := by kernel_rfl
  i212 := by kernel_rfl
  i232 := by kernel_rfl
  i233 := by kernel_rfl
  m17 := by kernel_rfl
  m18 := by kernel_rfl
  m19 := by kernel_rfl }
def Tryd.laysM316_ren : Go.Shelf.Ren := ⟨fun | 316 => 94 | n => n, fun | 9 => 9 | 3 => 3 | 4 => 4 | 37 => 93 | 0 => 0 | 127 => 144 | 5 => 5 | n => n, fun | n => n⟩
theorem Tryd.laysM316 : Go.Proofs.LaysM.n316 Tryd.prog Tryd.laysM316_ren := {
  mixed := by kernel_rfl
  f316 := Tryd.func94.trans (congrArg some (by kernel_rfl))
  t0 := Tryd.underlying0
  a0 := Tryd.isAgg0
  z0 := Tryd.sizeOf0
  v0 := Tryd.zeroValue0
  t3 := Tryd.underlying3
  a3 := Tryd.isAgg3
  z3 := Tryd.sizeOf3
  v3 := Tryd.zeroValue3
  t4 := Tryd.underlying4
  a4 := Tryd.isAgg4
  z4 := Tryd.sizeOf4
  v4 := Tryd.zeroValue4
  t9 := Tryd.underlying9
  a9 := Tryd.isAgg9
  z9 := Tryd.sizeOf9
  v9 := Tryd.zeroValue9
  t37 := Tryd.underlying93
  a37 := Tryd.isAgg93
  z37 := Tryd.sizeOf93
  v37 := Tryd.zeroValue93
  t127 := Tryd.underlying144
  a127 := Tryd.isAgg144
  z127 := Tryd.sizeOf144
  v127 := Tryd.zeroValue144
  t5 := Tryd.underlying5
  a5 := Tryd.isAgg5
  z5 := Tryd.sizeOf5
  v5 := Tryd.zeroValue5
  i0 := by kernel_rfl
  i3 := by kernel_rfl
  i4 := by kernel_rfl
  i5 := by kernel_rfl
  i9 := by kernel_rfl
  i37 := by kernel_rfl
  i127 := by kernel_rfl }
open Go.RowKit in
theorem Tryd.stringslite_Clone (s : ByteArray) (w : World) (hlim : s.size ≤ 281474976710656) :
    Calls Tryd.prog 94 #[.string s] w fun e w' => e = .returned (.string s) ∧ Below w.heap.size w w' := Any.stringslite_Clone Tryd.laysM316 s w hlim
def Tryd.lays144_ren : Go.Shelf.Ren := ⟨fun | 144 => 22 | 143 => 31 | 219 => 48 | 217 => 50 | 225 => 61 | 224 => 62 | 267 => 63 | 266 => 64 | 314 => 78 | n => n, fun | 9 => 9 | 4 => 4 | 3 => 3 | 5 => 5 | 46 => 92 | 146 => 114 | 51 => 113 | n => n, fun | 1 => 0 | n => n⟩
theorem Tryd.lays144 : Go.Proofs.Lays.n144 Tryd.prog Tryd.lays144_ren := {
  mixed := by kernel_rfl
  f143 := Tryd.func31.trans (congrArg some (by kernel_rfl))
  f144 := Tryd.func22.trans (congrArg some (by kernel_rfl))
  f217 := Tryd.func50.trans (congrArg some (by kernel_rfl))
  f219 := Tryd.func48.trans (congrArg some (by kernel_rfl))
  f224 := Tryd.func62.trans (congrArg some (by kernel_rfl))
  f225 := Tryd.func61.trans (congrArg some (by kernel_rfl))
  f266 := Tryd.func64.trans (congrArg some (by kernel_rfl))
  f267 := Tryd.func63.trans (congrArg some (by kernel_rfl))
  f314 := Tryd.func78.trans (congrArg some (by kernel_rfl))
  t3 := Tryd.underlying3
  a3 := Tryd.isAgg3
  z3 := Tryd.sizeOf3
  v3 := Tryd.zeroValue3
  t4 := Tryd.underlying4
  a4 := Tryd.isAgg4
  z4 := Tryd.sizeOf4
  v4 := Tryd.zeroValue4
  t5 := Tryd.underlying5
  a5 := Tryd.isAgg5
  z5 := Tryd.sizeOf5
  v5 := Tryd.zeroValue5
  t9 := Tryd.underlying9
  a9 := Tryd.isAgg9
  z9 := Tryd.sizeOf9
  v9 := Tryd.zeroValue9
  t46 := Tryd.underlying92
  a46 := Tryd.isAgg92
  z46 := Tryd.sizeOf92
  v46 := Tryd.zeroValue92
  t51 := Tryd.underlying113
  a51 := Tryd.isAgg113
  z51 := Tryd.sizeOf113
  v51 := Tryd.zeroValue113
  t146 := Tryd.underlying114
  a146 := Tryd.isAgg114
  z146 := Tryd.sizeOf114
  v146 := Tryd.zeroValue114
  g1 := by kernel_rfl }
open Go.RowKit Go.Lib in
theorem Tryd.strings_Contains_one (s : ByteArray) (c : UInt8) (w : World) :
    Calls Tryd.prog 22 #[.string s, .string ⟨#[c]⟩] w fun e w' => e = .returned (.bool (decide (0 ≤ Lib.indexByte s.data.toList c))) ∧ w' = w := Any.strings_Contains_one Tryd.lays144 s c w
open Go.RowKit Go.Lib in
theorem Tryd.strings_Contains (s sub : ByteArray) (m : Int) (w : World) (hs : s.size < 4294967281) (hm : w.cell? ⟨0, 0, none⟩ = some (.int .i64 m)) :
    Calls Tryd.prog 22 #[.string s, .string sub] w fun e w' => e = .returned (.bool (Lib.contains s.data.toList sub.data.toList)) ∧ w' = w := Any.strings_Contains Tryd.lays144 s sub m w hs hm
def Tryd.lays150_ren : Go.Shelf.Ren := ⟨fun | 150 => 55 | 153 => 68 | 152 => 89 | 226 => 90 | 227 => 91 | 228 => 92 | 137 => 36 | 119 => 102 | 224 => 62 | 225 => 61 | 217 => 50 | 266 => 64 | n => n, fun | 9 => 9 | 4 => 4 | 3 => 3 | 5 => 5 | 21 => 21 | 117 => 130 | 116 => 129 | 0 => 0 | 46 => 92 | 124 => 141 | n => n, fun | n => n⟩
theorem Tryd.lays150 : Go.Proofs.Lays.n150 Tryd.prog Tryd.lays150_ren := {
  mixed := by kernel_rfl
  f119 := Tryd.func102.trans (congrArg some (by kernel_rfl))
  f137 := Tryd.func36.trans (congrArg some (by kernel_rfl))
  f150 := Tryd.func55.trans (congrArg some (by kernel_rfl))
  f152 := Tryd.func89.trans (congrArg some (by kernel_rfl))
  f153 := Tryd.func68.trans (congrArg some (by kernel_rfl))
  f217 := Tryd.func50.trans (congrArg some (by kernel_rfl))
  f224 := Tryd.func62.trans (congrArg some (by kernel_rfl))
  f225 := Tryd.func61.trans (congrArg some (by kernel_rfl))
  f226 := Tryd.func90.trans (congrArg some (by kernel_rfl))
  f227 := Tryd.func91.trans (congrArg some (by kernel_rfl))
  f228 := Tryd.func92.trans (congrArg some (by kernel_rfl))
  f266 := Tryd.func64.trans (congrArg some (by kernel_rfl))
  t0 := Tryd.underlying0
  a0 := Tryd.isAgg0
  z0 := Tryd.sizeOf0
  v0 := Tryd.zeroValue0
  t3 := Tryd.underlying3
  a3 := Tryd.isAgg3
  z3 := Tryd.sizeOf3
  v3 := Tryd.zeroValue3
  t4 := Tryd.underlying4
  a4 := Tryd.isAgg4
  z4 := Tryd.sizeOf4
  v4 := Tryd.zeroValue4
  t5 := Tryd.underlying5
  a5 := Tryd.isAgg5
  z5 := Tryd.sizeOf5
  v5 := Tryd.zeroValue5
  t9 := Tryd.underlying9
  a9 := Tryd.isAgg9
  z9 := Tryd.sizeOf9
  v9 := Tryd.zeroValue9
  t21 := Tryd.underlying21
  a21 := Tryd.isAgg21
  z21 := Tryd.sizeOf21
  v21 := Tryd.zeroValue21
  t46 := Tryd.underlying92
  a46 := Tryd.isAgg92
  z46 := Tryd.sizeOf92
  v46 := Tryd.zeroValue92
  t116 := Tryd.underlying129
  a116 := Tryd.isAgg129
  z116 := Tryd.sizeOf129
  t117 := Tryd.underlying130
  a117 := Tryd.isAgg130
  z117 := Tryd.sizeOf130
  v117 := Tryd.zeroValue130
  t124 := Tryd.underlying141
  a124 := Tryd.isAgg141
  z124 := Tryd.sizeOf141
  v124 := Tryd.zeroValue141 }
open Go.RowKit Go.Lib in
theorem Tryd.strings_ContainsAny_laid (s chars : ByteArray) (w : World) (hs : s.size < 4294967281) (hcs : chars.size < 4294967281) (has : ∀ (j : Nat) b, s.data.toList[j]? = some b → b.toNat < 128) (hac : ∀ (j : Nat) b, chars.data.toList[j]? = some b → b.toNat < 128) :
    Calls Tryd.prog 55 #[.string s, .string chars] w fun e w' => e = .returned (.bool (Lib.containsAny s.data.toList chars.data.toList)) ∧ Below w.heap.size w w' := Any.strings_ContainsAny_laid Tryd.lays150 (by kernel_rfl) s chars w hs hcs has hac
end Go.Proofs

