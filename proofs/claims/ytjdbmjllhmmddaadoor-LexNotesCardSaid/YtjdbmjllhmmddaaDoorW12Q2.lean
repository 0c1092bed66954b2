/- Parts of the proof of a law, in build order: AeT, Ae18, LexS. -/
import Derived.Test.YtjdbmjllhmmddaaDoorW12Q1
import Derived.Test.YtjdbmjllhmmddaaDoorProg
import Derived.Laws.RangeString
import Derived.Laws.RangeAny
import Derived.Lib.Bytealg
import Derived.Lib.IndexAny
import Derived.Lib.ItoaNum
import Derived.Lib.IndexMore
set_option maxRecDepth 2000
set_option linter.unusedVariables false
set_option linter.unusedSimpArgs false
/- The types of this seat's program, as the walk wants them. PRINTED BY gentab.py. -/
set_option maxRecDepth 4000
namespace Go.AE
open Go.Proofs

def L_eqs := ([(2, .int),
  (3, .int),
  (4, .bool),
  (5, .int),
  (6, .int),
  (9, .str),
  (10, .str),
  (20, (.ifc [116])),
  (21, .int),
  (25, .int),
  (30, .int),
  (31, .int),
  (61, .func),
  (64, .ptr),
  (69, .ptr),
  (92, .int),
  (95, (.ifc [116])),
  (113, .int),
  (116, .int),
  (118, .ptr),
  (144, .ptr),
  (145, .ptr)] : List (Nat × EqS))
def L_eqf := ([(26, [.int, .int, .int]),
  (27, [.int, .int, .int]),
  (32, [.int, .str, .int, .int, .int]),
  (33, [.int, .str, .int, .int, .int]),
  (50, [.int, .str]),
  (51, [.int, .str]),
  (65, [.str, .int, .int]),
  (66, [.str, .int, .int]),
  (146, [.str]),
  (147, [.str])] : List (Nat × List EqS))
def L_sz := ([(2, (false, 1)),
  (3, (false, 1)),
  (4, (false, 1)),
  (5, (false, 1)),
  (6, (false, 1)),
  (9, (false, 1)),
  (10, (false, 1)),
  (20, (false, 1)),
  (21, (false, 1)),
  (24, (false, 1)),
  (25, (false, 1)),
  (26, (true, 3)),
  (27, (true, 3)),
  (30, (false, 1)),
  (31, (false, 1)),
  (32, (true, 5)),
  (33, (true, 5)),
  (35, (false, 1)),
  (36, (false, 1)),
  (37, (false, 1)),
  (38, (false, 1)),
  (39, (true, 4)),
  (40, (true, 4)),
  (44, (false, 1)),
  (45, (true, 3)),
  (46, (true, 3)),
  (48, (false, 1)),
  (50, (true, 2)),
  (51, (true, 2)),
  (52, (false, 1)),
  (53, (true, 9)),
  (54, (true, 9)),
  (55, (true, 14)),
  (56, (true, 14)),
  (57, (true, 27)),
  (58, (true, 27)),
  (59, (true, 58)),
  (60, (true, 58)),
  (61, (false, 1)),
  (64, (false, 1)),
  (65, (true, 3)),
  (66, (true, 3)),
  (69, (false, 1)),
  (70, (true, 6)),
  (71, (true, 6)),
  (80, (true, 4)),
  (81, (true, 4)),
  (83, (true, 5)),
  (84, (true, 5)),
  (87, (true, 5)),
  (88, (true, 5)),
  (92, (false, 1)),
  (93, (false, 1)),
  (95, (false, 1)),
  (99, (true, 3)),
  (106, (true, 4)),
  (113, (false, 1)),
  (116, (false, 1)),
  (118, (false, 1)),
  (134, (true, 3)),
  (135, (true, 3)),
  (138, (true, 20)),
  (144, (false, 1)),
  (145, (false, 1)),
  (146, (true, 1)),
  (147, (true, 1))] : List (Nat × (Bool × Nat)))
def L_zero := ([(2, [.int .i64 0]),
  (3, [.int .i64 0]),
  (4, [.bool false]),
  (5, [.int .u8 0]),
  (6, [.int .u8 0]),
  (9, [.str []]),
  (10, [.str []]),
  (20, [.nilIface]),
  (21, [.int .i32 0]),
  (24, [.slice [] 0 .exact]),
  (25, [.int .i64 0]),
  (26, [.int .i64 0, .int .i64 0, .int .i64 0]),
  (27, [.int .i64 0, .int .i64 0, .int .i64 0]),
  (30, [.int .i64 0]),
  (31, [.int .u64 0]),
  (32, [.int .i64 0, .str [], .int .u64 0, .int .i64 0, .int .i64 0]),
  (33, [.int .i64 0, .str [], .int .u64 0, .int .i64 0, .int .i64 0]),
  (35, [.slice [] 0 .exact]),
  (36, [.slice [] 0 .exact]),
  (37, [.slice [] 0 .exact]),
  (38, [.slice [] 0 .exact]),
  (39, [.slice [] 0 .exact, .slice [] 0 .exact, .slice [] 0 .exact, .slice [] 0 .exact]),
  (40, [.slice [] 0 .exact, .slice [] 0 .exact, .slice [] 0 .exact, .slice [] 0 .exact]),
  (44, [.slice [] 0 .exact]),
  (45, [.slice [] 0 .exact, .int .i64 0, .int .i64 0]),
  (46, [.slice [] 0 .exact, .int .i64 0, .int .i64 0]),
  (48, [.slice [] 0 .exact]),
  (50, [.int .i64 0, .str []]),
  (51, [.int .i64 0, .str []]),
  (52, [.slice [] 0 .exact]),
  (53, [.int .i64 0, .int .i64 0, .int .u64 0, .int .i64 0, .str [], .str [], .slice [] 0 .exact, .int .i64 0, .int .i64 0]),
  (54, [.int .i64 0, .int .i64 0, .int .u64 0, .int .i64 0, .str [], .str [], .slice [] 0 .exact, .int .i64 0, .int .i64 0]),
  (55, [.int .i64 0, .str [], .str [], .int .i64 0, .int .i64 0, .int .u64 0, .int .i64 0, .str [], .str [], .slice [] 0 .exact, .int .i64 0, .int .i64 0, .int .i64 0, .int .i64 0]),
  (56, [.int .i64 0, .str [], .str [], .int .i64 0, .int .i64 0, .int .u64 0, .int .i64 0, .str [], .str [], .slice [] 0 .exact, .int .i64 0, .int .i64 0, .int .i64 0, .int .i64 0]),
  (57, [.int .i64 0, .int .i64 0, .int .i64 0, .int .u64 0, .int .i64 0, .str [], .str [], .slice [] 0 .exact, .int .i64 0, .int .i64 0, .int .i64 0, .str [], .str [], .int .i64 0, .int .i64 0, .int .u64 0, .int .i64 0, .str [], .str [], .slice [] 0 .exact, .int .i64 0, .int .i64 0, .int .i64 0, .int .i64 0, .str [], .int .i64 0, .int .i64 0]),
  (58, [.int .i64 0, .int .i64 0, .int .i64 0, .int .u64 0, .int .i64 0, .str [], .str [], .slice [] 0 .exact, .int .i64 0, .int .i64 0, .int .i64 0, .str [], .str [], .int .i64 0, .int .i64 0, .int .u64 0, .int .i64 0, .str [], .str [], .slice [] 0 .exact, .int .i64 0, .int .i64 0, .int .i64 0, .int .i64 0, .str [], .int .i64 0, .int .i64 0]),
  (59, [.int .i64 0, .str [], .int .i64 0, .int .i64 0, .int .i64 0, .int .u64 0, .int .i64 0, .str [], .str [], .slice [] 0 .exact, .int .i64 0, .int .i64 0, .int .i64 0, .str [], .str [], .int .i64 0, .int .i64 0, .int .u64 0, .int .i64 0, .str [], .str [], .slice [] 0 .exact, .int .i64 0, .int .i64 0, .int .i64 0, .int .i64 0, .str [], .int .i64 0, .int .i64 0, .int .i64 0, .str [], .str [], .int .i64 0, .int .i64 0, .int .u64 0, .int .i64 0, .str [], .str [], .slice [] 0 .exact, .int .i64 0, .int .i64 0, .int .i64 0, .int .i64 0, .int .i64 0, .int .i64 0, .int .u64 0, .int .i64 0, .str [], .str [], .slice [] 0 .exact, .int .i64 0, .int .i64 0, .int .i64 0, .slice [] 0 .exact, .slice [] 0 .exact, .slice [] 0 .exact, .int .i64 0, .int .i64 0]),
  (60, [.int .i64 0, .str [], .int .i64 0, .int .i64 0, .int .i64 0, .int .u64 0, .int .i64 0, .str [], .str [], .slice [] 0 .exact, .int .i64 0, .int .i64 0, .int .i64 0, .str [], .str [], .int .i64 0, .int .i64 0, .int .u64 0, .int .i64 0, .str [], .str [], .slice [] 0 .exact, .int .i64 0, .int .i64 0, .int .i64 0, .int .i64 0, .str [], .int .i64 0, .int .i64 0, .int .i64 0, .str [], .str [], .int .i64 0, .int .i64 0, .int .u64 0, .int .i64 0, .str [], .str [], .slice [] 0 .exact, .int .i64 0, .int .i64 0, .int .i64 0, .int .i64 0, .int .i64 0, .int .i64 0, .int .u64 0, .int .i64 0, .str [], .str [], .slice [] 0 .exact, .int .i64 0, .int .i64 0, .int .i64 0, .slice [] 0 .exact, .slice [] 0 .exact, .slice [] 0 .exact, .int .i64 0, .int .i64 0]),
  (61, [.nilFunc]),
  (64, [.nilp]),
  (65, [.str [], .int .i64 0, .int .i64 0]),
  (66, [.str [], .int .i64 0, .int .i64 0]),
  (69, [.nilp]),
  (70, [.slice [] 0 .exact, .int .i64 0, .int .i64 0, .int .i64 0, .int .i64 0, .int .i64 0]),
  (71, [.slice [] 0 .exact, .int .i64 0, .int .i64 0, .int .i64 0, .int .i64 0, .int .i64 0]),
  (80, [.str [], .slice [] 0 .exact, .int .i64 0, .int .i64 0]),
  (81, [.str [], .slice [] 0 .exact, .int .i64 0, .int .i64 0]),
  (83, [.str [], .int .i64 0, .str [], .int .i64 0, .int .i64 0]),
  (84, [.str [], .int .i64 0, .str [], .int .i64 0, .int .i64 0]),
  (87, [.str [], .slice [] 0 .exact, .slice [] 0 .exact, .int .i64 0, .int .i64 0]),
  (88, [.str [], .slice [] 0 .exact, .slice [] 0 .exact, .int .i64 0, .int .i64 0]),
  (92, [.int .u64 0]),
  (93, [.slice [] 0 .exact]),
  (95, [.nilIface]),
  (99, [.str [], .str [], .str []]),
  (106, [.str [], .str [], .str [], .str []]),
  (113, [.int .u32 0]),
  (116, [.int .i64 0]),
  (118, [.nilp]),
  (134, [.str [], .str [], .nilIface]),
  (135, [.str [], .str [], .nilIface]),
  (138, [.int .u64 0, .int .u64 0, .int .u64 0, .int .u64 0, .int .u64 0, .int .u64 0, .int .u64 0, .int .u64 0, .int .u64 0, .int .u64 0, .int .u64 0, .int .u64 0, .int .u64 0, .int .u64 0, .int .u64 0, .int .u64 0, .int .u64 0, .int .u64 0, .int .u64 0, .int .u64 0]),
  (144, [.nilp]),
  (145, [.nilp]),
  (146, [.str []]),
  (147, [.str []])] : List (Nat × List AV))
def L_fld := ([(26, [(0, false, 1), (1, false, 1), (2, false, 1)]),
  (27, [(0, false, 1), (1, false, 1), (2, false, 1)]),
  (32, [(0, false, 1), (1, false, 1), (2, false, 1), (3, false, 1), (4, false, 1)]),
  (33, [(0, false, 1), (1, false, 1), (2, false, 1), (3, false, 1), (4, false, 1)]),
  (39, [(0, false, 1), (1, false, 1), (2, false, 1), (3, false, 1)]),
  (40, [(0, false, 1), (1, false, 1), (2, false, 1), (3, false, 1)]),
  (45, [(0, false, 1), (1, false, 1), (2, false, 1)]),
  (46, [(0, false, 1), (1, false, 1), (2, false, 1)]),
  (50, [(0, false, 1), (1, false, 1)]),
  (51, [(0, false, 1), (1, false, 1)]),
  (53, [(0, false, 1), (1, false, 1), (2, false, 1), (3, true, 2), (5, false, 1), (6, false, 1), (7, false, 1), (8, false, 1)]),
  (54, [(0, false, 1), (1, false, 1), (2, false, 1), (3, true, 2), (5, false, 1), (6, false, 1), (7, false, 1), (8, false, 1)]),
  (55, [(0, false, 1), (1, false, 1), (2, false, 1), (3, true, 9), (12, false, 1), (13, false, 1)]),
  (56, [(0, false, 1), (1, false, 1), (2, false, 1), (3, true, 9), (12, false, 1), (13, false, 1)]),
  (57, [(0, false, 1), (1, true, 9), (10, true, 14), (24, false, 1), (25, false, 1), (26, false, 1)]),
  (58, [(0, false, 1), (1, true, 9), (10, true, 14), (24, false, 1), (25, false, 1), (26, false, 1)]),
  (59, [(0, false, 1), (1, false, 1), (2, true, 27), (29, true, 14), (43, true, 9), (52, false, 1), (53, false, 1), (54, false, 1), (55, false, 1), (56, false, 1), (57, false, 1)]),
  (60, [(0, false, 1), (1, false, 1), (2, true, 27), (29, true, 14), (43, true, 9), (52, false, 1), (53, false, 1), (54, false, 1), (55, false, 1), (56, false, 1), (57, false, 1)]),
  (65, [(0, false, 1), (1, false, 1), (2, false, 1)]),
  (66, [(0, false, 1), (1, false, 1), (2, false, 1)]),
  (70, [(0, false, 1), (1, false, 1), (2, false, 1), (3, true, 3)]),
  (71, [(0, false, 1), (1, false, 1), (2, false, 1), (3, true, 3)]),
  (80, [(0, false, 1), (1, false, 1), (2, false, 1), (3, false, 1)]),
  (81, [(0, false, 1), (1, false, 1), (2, false, 1), (3, false, 1)]),
  (83, [(0, false, 1), (1, true, 2), (3, false, 1), (4, false, 1)]),
  (84, [(0, false, 1), (1, true, 2), (3, false, 1), (4, false, 1)]),
  (87, [(0, false, 1), (1, false, 1), (2, false, 1), (3, false, 1), (4, false, 1)]),
  (88, [(0, false, 1), (1, false, 1), (2, false, 1), (3, false, 1), (4, false, 1)]),
  (134, [(0, false, 1), (1, false, 1), (2, false, 1)]),
  (135, [(0, false, 1), (1, false, 1), (2, false, 1)]),
  (146, [(0, false, 1)]),
  (147, [(0, false, 1)])] : List (Nat × List (Nat × Bool × Nat)))
def L_elm := ([(24, (33, 5, true, 48)),
  (35, (81, 4, true, 56)),
  (36, (84, 5, true, 56)),
  (37, (88, 5, true, 80)),
  (38, (46, 3, true, 40)),
  (44, (60, 58, true, 688)),
  (48, (9, 1, false, 16)),
  (52, (54, 9, true, 104)),
  (93, (5, 1, false, 1))] : List (Nat × (Nat × Nat × Bool × Nat)))
def L_arr := ([(99, (3, 1, false)),
  (106, (4, 1, false)),
  (138, (20, 1, false))] : List (Nat × (Nat × Nat × Bool)))
def L_str := ([(9, ()),
  (10, ())] : List (Nat × Unit))
def L_int := ([(2, .i64),
  (3, .i64),
  (5, .u8),
  (6, .u8),
  (21, .i32),
  (25, .i64),
  (30, .i64),
  (31, .u64),
  (92, .u64),
  (113, .u32),
  (116, .i64)] : List (Nat × IntKind))
def L_bld := ([(26, (.rows [(0, 1), (1, 1), (2, 1)], [.int .i64 0, .int .i64 0, .int .i64 0])),
  (27, (.rows [(0, 1), (1, 1), (2, 1)], [.int .i64 0, .int .i64 0, .int .i64 0])),
  (32, (.rows [(0, 1), (1, 1), (2, 1), (3, 1), (4, 1)], [.int .i64 0, .str [], .int .u64 0, .int .i64 0, .int .i64 0])),
  (33, (.rows [(0, 1), (1, 1), (2, 1), (3, 1), (4, 1)], [.int .i64 0, .str [], .int .u64 0, .int .i64 0, .int .i64 0])),
  (39, (.rows [(0, 1), (1, 1), (2, 1), (3, 1)], [.slice [] 0 .exact, .slice [] 0 .exact, .slice [] 0 .exact, .slice [] 0 .exact])),
  (40, (.rows [(0, 1), (1, 1), (2, 1), (3, 1)], [.slice [] 0 .exact, .slice [] 0 .exact, .slice [] 0 .exact, .slice [] 0 .exact])),
  (45, (.rows [(0, 1), (1, 1), (2, 1)], [.slice [] 0 .exact, .int .i64 0, .int .i64 0])),
  (46, (.rows [(0, 1), (1, 1), (2, 1)], [.slice [] 0 .exact, .int .i64 0, .int .i64 0])),
  (50, (.rows [(0, 1), (1, 1)], [.int .i64 0, .str []])),
  (51, (.rows [(0, 1), (1, 1)], [.int .i64 0, .str []])),
  (53, (.rows [(0, 1), (1, 1), (2, 1), (3, 2), (5, 1), (6, 1), (7, 1), (8, 1)], [.int .i64 0, .int .i64 0, .int .u64 0, .int .i64 0, .str [], .str [], .slice [] 0 .exact, .int .i64 0, .int .i64 0])),
  (54, (.rows [(0, 1), (1, 1), (2, 1), (3, 2), (5, 1), (6, 1), (7, 1), (8, 1)], [.int .i64 0, .int .i64 0, .int .u64 0, .int .i64 0, .str [], .str [], .slice [] 0 .exact, .int .i64 0, .int .i64 0])),
  (55, (.rows [(0, 1), (1, 1), (2, 1), (3, 9), (12, 1), (13, 1)], [.int .i64 0, .str [], .str [], .int .i64 0, .int .i64 0, .int .u64 0, .int .i64 0, .str [], .str [], .slice [] 0 .exact, .int .i64 0, .int .i64 0, .int .i64 0, .int .i64 0])),
  (56, (.rows [(0, 1), (1, 1), (2, 1), (3, 9), (12, 1), (13, 1)], [.int .i64 0, .str [], .str [], .int .i64 0, .int .i64 0, .int .u64 0, .int .i64 0, .str [], .str [], .slice [] 0 .exact, .int .i64 0, .int .i64 0, .int .i64 0, .int .i64 0])),
  (57, (.rows [(0, 1), (1, 9), (10, 14), (24, 1), (25, 1), (26, 1)], [.int .i64 0, .int .i64 0, .int .i64 0, .int .u64 0, .int .i64 0, .str [], .str [], .slice [] 0 .exact, .int .i64 0, .int .i64 0, .int .i64 0, .str [], .str [], .int .i64 0, .int .i64 0, .int .u64 0, .int .i64 0, .str [], .str [], .slice [] 0 .exact, .int .i64 0, .int .i64 0, .int .i64 0, .int .i64 0, .str [], .int .i64 0, .int .i64 0])),
  (58, (.rows [(0, 1), (1, 9), (10, 14), (24, 1), (25, 1), (26, 1)], [.int .i64 0, .int .i64 0, .int .i64 0, .int .u64 0, .int .i64 0, .str [], .str [], .slice [] 0 .exact, .int .i64 0, .int .i64 0, .int .i64 0, .str [], .str [], .int .i64 0, .int .i64 0, .int .u64 0, .int .i64 0, .str [], .str [], .slice [] 0 .exact, .int .i64 0, .int .i64 0, .int .i64 0, .int .i64 0, .str [], .int .i64 0, .int .i64 0])),
  (59, (.rows [(0, 1), (1, 1), (2, 27), (29, 14), (43, 9), (52, 1), (53, 1), (54, 1), (55, 1), (56, 1), (57, 1)], [.int .i64 0, .str [], .int .i64 0, .int .i64 0, .int .i64 0, .int .u64 0, .int .i64 0, .str [], .str [], .slice [] 0 .exact, .int .i64 0, .int .i64 0, .int .i64 0, .str [], .str [], .int .i64 0, .int .i64 0, .int .u64 0, .int .i64 0, .str [], .str [], .slice [] 0 .exact, .int .i64 0, .int .i64 0, .int .i64 0, .int .i64 0, .str [], .int .i64 0, .int .i64 0, .int .i64 0, .str [], .str [], .int .i64 0, .int .i64 0, .int .u64 0, .int .i64 0, .str [], .str [], .slice [] 0 .exact, .int .i64 0, .int .i64 0, .int .i64 0, .int .i64 0, .int .i64 0, .int .i64 0, .int .u64 0, .int .i64 0, .str [], .str [], .slice [] 0 .exact, .int .i64 0, .int .i64 0, .int .i64 0, .slice [] 0 .exact, .slice [] 0 .exact, .slice [] 0 .exact, .int .i64 0, .int .i64 0])),
  (60, (.rows [(0, 1), (1, 1), (2, 27), (29, 14), (43, 9), (52, 1), (53, 1), (54, 1), (55, 1), (56, 1), (57, 1)], [.int .i64 0, .str [], .int .i64 0, .int .i64 0, .int .i64 0, .int .u64 0, .int .i64 0, .str [], .str [], .slice [] 0 .exact, .int .i64 0, .int .i64 0, .int .i64 0, .str [], .str [], .int .i64 0, .int .i64 0, .int .u64 0, .int .i64 0, .str [], .str [], .slice [] 0 .exact, .int .i64 0, .int .i64 0, .int .i64 0, .int .i64 0, .str [], .int .i64 0, .int .i64 0, .int .i64 0, .str [], .str [], .int .i64 0, .int .i64 0, .int .u64 0, .int .i64 0, .str [], .str [], .slice [] 0 .exact, .int .i64 0, .int .i64 0, .int .i64 0, .int .i64 0, .int .i64 0, .int .i64 0, .int .u64 0, .int .i64 0, .str [], .str [], .slice [] 0 .exact, .int .i64 0, .int .i64 0, .int .i64 0, .slice [] 0 .exact, .slice [] 0 .exact, .slice [] 0 .exact, .int .i64 0, .int .i64 0])),
  (65, (.rows [(0, 1), (1, 1), (2, 1)], [.str [], .int .i64 0, .int .i64 0])),
  (66, (.rows [(0, 1), (1, 1), (2, 1)], [.str [], .int .i64 0, .int .i64 0])),
  (70, (.rows [(0, 1), (1, 1), (2, 1), (3, 3)], [.slice [] 0 .exact, .int .i64 0, .int .i64 0, .int .i64 0, .int .i64 0, .int .i64 0])),
  (71, (.rows [(0, 1), (1, 1), (2, 1), (3, 3)], [.slice [] 0 .exact, .int .i64 0, .int .i64 0, .int .i64 0, .int .i64 0, .int .i64 0])),
  (80, (.rows [(0, 1), (1, 1), (2, 1), (3, 1)], [.str [], .slice [] 0 .exact, .int .i64 0, .int .i64 0])),
  (81, (.rows [(0, 1), (1, 1), (2, 1), (3, 1)], [.str [], .slice [] 0 .exact, .int .i64 0, .int .i64 0])),
  (83, (.rows [(0, 1), (1, 2), (3, 1), (4, 1)], [.str [], .int .i64 0, .str [], .int .i64 0, .int .i64 0])),
  (84, (.rows [(0, 1), (1, 2), (3, 1), (4, 1)], [.str [], .int .i64 0, .str [], .int .i64 0, .int .i64 0])),
  (87, (.rows [(0, 1), (1, 1), (2, 1), (3, 1), (4, 1)], [.str [], .slice [] 0 .exact, .slice [] 0 .exact, .int .i64 0, .int .i64 0])),
  (88, (.rows [(0, 1), (1, 1), (2, 1), (3, 1), (4, 1)], [.str [], .slice [] 0 .exact, .slice [] 0 .exact, .int .i64 0, .int .i64 0])),
  (99, (.each 1, [.str [], .str [], .str []])),
  (106, (.each 1, [.str [], .str [], .str [], .str []])),
  (134, (.rows [(0, 1), (1, 1), (2, 1)], [.str [], .str [], .nilIface])),
  (135, (.rows [(0, 1), (1, 1), (2, 1)], [.str [], .str [], .nilIface])),
  (138, (.each 1, [.int .u64 0, .int .u64 0, .int .u64 0, .int .u64 0, .int .u64 0, .int .u64 0, .int .u64 0, .int .u64 0, .int .u64 0, .int .u64 0, .int .u64 0, .int .u64 0, .int .u64 0, .int .u64 0, .int .u64 0, .int .u64 0, .int .u64 0, .int .u64 0, .int .u64 0, .int .u64 0])),
  (146, (.rows [(0, 1)], [.str []])),
  (147, (.rows [(0, 1)], [.str []]))] : List (Nat × (BP × List AV)))
def L_con := ([(2, ()),
  (3, ()),
  (4, ()),
  (5, ()),
  (6, ()),
  (9, ()),
  (10, ()),
  (21, ()),
  (24, ()),
  (25, ()),
  (26, ()),
  (27, ()),
  (30, ()),
  (31, ()),
  (32, ()),
  (33, ()),
  (35, ()),
  (36, ()),
  (37, ()),
  (38, ()),
  (39, ()),
  (40, ()),
  (44, ()),
  (45, ()),
  (46, ()),
  (48, ()),
  (50, ()),
  (51, ()),
  (52, ()),
  (53, ()),
  (54, ()),
  (55, ()),
  (56, ()),
  (57, ()),
  (58, ()),
  (59, ()),
  (60, ()),
  (61, ()),
  (64, ()),
  (65, ()),
  (66, ()),
  (69, ()),
  (70, ()),
  (71, ()),
  (80, ()),
  (81, ()),
  (83, ()),
  (84, ()),
  (87, ()),
  (88, ()),
  (92, ()),
  (93, ()),
  (99, ()),
  (106, ()),
  (113, ()),
  (116, ()),
  (118, ()),
  (134, ()),
  (135, ()),
  (138, ()),
  (144, ()),
  (145, ()),
  (146, ()),
  (147, ())] : List (Nat × Unit))
def L : Tabs := { eqs := L_eqs, eqf := L_eqf, sz := L_sz, zero := L_zero, fld := L_fld, elm := L_elm, arr := L_arr, str := L_str, int := L_int, bld := L_bld, con := L_con }
def T : Tab := L.tab

theorem info_116 : ∃ i k, Tryd.prog.info? 116 = some i ∧ i.comparable = true ∧ Tryd.prog.underlying 116 = some (.int k) := by
  have h : (Tryd.prog.info? 116).map (·.comparable) = some true := by kernel_rfl
  obtain ⟨i, h1, h2⟩ := Option.map_eq_some_iff.1 h
  exact ⟨i, _, h1, h2, Tryd.underlying116⟩

theorem L_eqs_ok : AllOf (EqsF Tryd.prog) L_eqs :=
  ⟨⟨_, Tryd.underlying2⟩,
  ⟨_, Tryd.underlying3⟩,
  Tryd.underlying4,
  ⟨_, Tryd.underlying5⟩,
  ⟨_, Tryd.underlying6⟩,
  Tryd.underlying9,
  Tryd.underlying10,
  ⟨_, Tryd.underlying20, by intro u hu; simp only [List.mem_cons, List.not_mem_nil, or_false] at hu; rcases hu with rfl; exact info_116⟩,
  ⟨_, Tryd.underlying21⟩,
  ⟨_, Tryd.underlying25⟩,
  ⟨_, Tryd.underlying30⟩,
  ⟨_, Tryd.underlying31⟩,
  ⟨_, _, _, Tryd.underlying61⟩,
  ⟨_, Tryd.underlying64⟩,
  ⟨_, Tryd.underlying69⟩,
  ⟨_, Tryd.underlying92⟩,
  ⟨_, Tryd.underlying95, by intro u hu; simp only [List.mem_cons, List.not_mem_nil, or_false] at hu; rcases hu with rfl; exact info_116⟩,
  ⟨_, Tryd.underlying113⟩,
  ⟨_, Tryd.underlying116⟩,
  ⟨_, Tryd.underlying118⟩,
  ⟨_, Tryd.underlying144⟩,
  ⟨_, Tryd.underlying145⟩, trivial⟩
theorem L_eqf_ok : AllOf (EqfF' Tryd.prog) L_eqf :=
  ⟨⟨_, Tryd.underlying26, Tryd.stoodInHeld26, Tryd.eqGuardType26, ⟨rfl, rfl, ⟨_, Tryd.underlying25⟩, Tryd.isAgg25, ⟨rfl, rfl, ⟨_, Tryd.underlying3⟩, Tryd.isAgg3, ⟨rfl, rfl, ⟨_, Tryd.underlying3⟩, Tryd.isAgg3, trivial⟩⟩⟩⟩,
  ⟨_, Tryd.underlying27, Tryd.stoodInHeld27, Tryd.eqGuardType27, ⟨rfl, rfl, ⟨_, Tryd.underlying25⟩, Tryd.isAgg25, ⟨rfl, rfl, ⟨_, Tryd.underlying3⟩, Tryd.isAgg3, ⟨rfl, rfl, ⟨_, Tryd.underlying3⟩, Tryd.isAgg3, trivial⟩⟩⟩⟩,
  ⟨_, Tryd.underlying32, Tryd.stoodInHeld32, Tryd.eqGuardType32, ⟨rfl, rfl, ⟨_, Tryd.underlying30⟩, Tryd.isAgg30, ⟨rfl, rfl, Tryd.underlying9, Tryd.isAgg9, ⟨rfl, rfl, ⟨_, Tryd.underlying31⟩, Tryd.isAgg31, ⟨rfl, rfl, ⟨_, Tryd.underlying3⟩, Tryd.isAgg3, ⟨rfl, rfl, ⟨_, Tryd.underlying3⟩, Tryd.isAgg3, trivial⟩⟩⟩⟩⟩⟩,
  ⟨_, Tryd.underlying33, Tryd.stoodInHeld33, Tryd.eqGuardType33, ⟨rfl, rfl, ⟨_, Tryd.underlying30⟩, Tryd.isAgg30, ⟨rfl, rfl, Tryd.underlying9, Tryd.isAgg9, ⟨rfl, rfl, ⟨_, Tryd.underlying31⟩, Tryd.isAgg31, ⟨rfl, rfl, ⟨_, Tryd.underlying3⟩, Tryd.isAgg3, ⟨rfl, rfl, ⟨_, Tryd.underlying3⟩, Tryd.isAgg3, trivial⟩⟩⟩⟩⟩⟩,
  ⟨_, Tryd.underlying50, Tryd.stoodInHeld50, Tryd.eqGuardType50, ⟨rfl, rfl, ⟨_, Tryd.underlying3⟩, Tryd.isAgg3, ⟨rfl, rfl, Tryd.underlying9, Tryd.isAgg9, trivial⟩⟩⟩,
  ⟨_, Tryd.underlying51, Tryd.stoodInHeld51, Tryd.eqGuardType51, ⟨rfl, rfl, ⟨_, Tryd.underlying3⟩, Tryd.isAgg3, ⟨rfl, rfl, Tryd.underlying9, Tryd.isAgg9, trivial⟩⟩⟩,
  ⟨_, Tryd.underlying65, Tryd.stoodInHeld65, Tryd.eqGuardType65, ⟨rfl, rfl, Tryd.underlying9, Tryd.isAgg9, ⟨rfl, rfl, ⟨_, Tryd.underlying3⟩, Tryd.isAgg3, ⟨rfl, rfl, ⟨_, Tryd.underlying3⟩, Tryd.isAgg3, trivial⟩⟩⟩⟩,
  ⟨_, Tryd.underlying66, Tryd.stoodInHeld66, Tryd.eqGuardType66, ⟨rfl, rfl, Tryd.underlying9, Tryd.isAgg9, ⟨rfl, rfl, ⟨_, Tryd.underlying3⟩, Tryd.isAgg3, ⟨rfl, rfl, ⟨_, Tryd.underlying3⟩, Tryd.isAgg3, trivial⟩⟩⟩⟩,
  ⟨_, Tryd.underlying146, Tryd.stoodInHeld146, Tryd.eqGuardType146, ⟨rfl, rfl, Tryd.underlying9, Tryd.isAgg9, trivial⟩⟩,
  ⟨_, Tryd.underlying147, Tryd.stoodInHeld147, Tryd.eqGuardType147, ⟨rfl, rfl, Tryd.underlying9, Tryd.isAgg9, trivial⟩⟩, trivial⟩
theorem L_sz_ok : AllOf (SzF Tryd.prog) L_sz :=
  ⟨⟨Tryd.isAgg2, Tryd.sizeOf2, rfl⟩,
  ⟨Tryd.isAgg3, Tryd.sizeOf3, rfl⟩,
  ⟨Tryd.isAgg4, Tryd.sizeOf4, rfl⟩,
  ⟨Tryd.isAgg5, Tryd.sizeOf5, rfl⟩,
  ⟨Tryd.isAgg6, Tryd.sizeOf6, rfl⟩,
  ⟨Tryd.isAgg9, Tryd.sizeOf9, rfl⟩,
  ⟨Tryd.isAgg10, Tryd.sizeOf10, rfl⟩,
  ⟨Tryd.isAgg20, Tryd.sizeOf20, rfl⟩,
  ⟨Tryd.isAgg21, Tryd.sizeOf21, rfl⟩,
  ⟨Tryd.isAgg24, Tryd.sizeOf24, rfl⟩,
  ⟨Tryd.isAgg25, Tryd.sizeOf25, rfl⟩,
  ⟨Tryd.isAgg26, Tryd.sizeOf26, rfl⟩,
  ⟨Tryd.isAgg27, Tryd.sizeOf27, rfl⟩,
  ⟨Tryd.isAgg30, Tryd.sizeOf30, rfl⟩,
  ⟨Tryd.isAgg31, Tryd.sizeOf31, rfl⟩,
  ⟨Tryd.isAgg32, Tryd.sizeOf32, rfl⟩,
  ⟨Tryd.isAgg33, Tryd.sizeOf33, rfl⟩,
  ⟨Tryd.isAgg35, Tryd.sizeOf35, rfl⟩,
  ⟨Tryd.isAgg36, Tryd.sizeOf36, rfl⟩,
  ⟨Tryd.isAgg37, Tryd.sizeOf37, rfl⟩,
  ⟨Tryd.isAgg38, Tryd.sizeOf38, rfl⟩,
  ⟨Tryd.isAgg39, Tryd.sizeOf39, rfl⟩,
  ⟨Tryd.isAgg40, Tryd.sizeOf40, rfl⟩,
  ⟨Tryd.isAgg44, Tryd.sizeOf44, rfl⟩,
  ⟨Tryd.isAgg45, Tryd.sizeOf45, rfl⟩,
  ⟨Tryd.isAgg46, Tryd.sizeOf46, rfl⟩,
  ⟨Tryd.isAgg48, Tryd.sizeOf48, rfl⟩,
  ⟨Tryd.isAgg50, Tryd.sizeOf50, rfl⟩,
  ⟨Tryd.isAgg51, Tryd.sizeOf51, rfl⟩,
  ⟨Tryd.isAgg52, Tryd.sizeOf52, rfl⟩,
  ⟨Tryd.isAgg53, Tryd.sizeOf53, rfl⟩,
  ⟨Tryd.isAgg54, Tryd.sizeOf54, rfl⟩,
  ⟨Tryd.isAgg55, Tryd.sizeOf55, rfl⟩,
  ⟨Tryd.isAgg56, Tryd.sizeOf56, rfl⟩,
  ⟨Tryd.isAgg57, Tryd.sizeOf57, rfl⟩,
  ⟨Tryd.isAgg58, Tryd.sizeOf58, rfl⟩,
  ⟨Tryd.isAgg59, Tryd.sizeOf59, rfl⟩,
  ⟨Tryd.isAgg60, Tryd.sizeOf60, rfl⟩,
  ⟨Tryd.isAgg61, Tryd.sizeOf61, rfl⟩,
  ⟨Tryd.isAgg64, Tryd.sizeOf64, rfl⟩,
  ⟨Tryd.isAgg65, Tryd.sizeOf65, rfl⟩,
  ⟨Tryd.isAgg66, Tryd.sizeOf66, rfl⟩,
  ⟨Tryd.isAgg69, Tryd.sizeOf69, rfl⟩,
  ⟨Tryd.isAgg70, Tryd.sizeOf70, rfl⟩,
  ⟨Tryd.isAgg71, Tryd.sizeOf71, rfl⟩,
  ⟨Tryd.isAgg80, Tryd.sizeOf80, rfl⟩,
  ⟨Tryd.isAgg81, Tryd.sizeOf81, rfl⟩,
  ⟨Tryd.isAgg83, Tryd.sizeOf83, rfl⟩,
  ⟨Tryd.isAgg84, Tryd.sizeOf84, rfl⟩,
  ⟨Tryd.isAgg87, Tryd.sizeOf87, rfl⟩,
  ⟨Tryd.isAgg88, Tryd.sizeOf88, rfl⟩,
  ⟨Tryd.isAgg92, Tryd.sizeOf92, rfl⟩,
  ⟨Tryd.isAgg93, Tryd.sizeOf93, rfl⟩,
  ⟨Tryd.isAgg95, Tryd.sizeOf95, rfl⟩,
  ⟨Tryd.isAgg99, Tryd.sizeOf99, rfl⟩,
  ⟨Tryd.isAgg106, Tryd.sizeOf106, rfl⟩,
  ⟨Tryd.isAgg113, Tryd.sizeOf113, rfl⟩,
  ⟨Tryd.isAgg116, Tryd.sizeOf116, rfl⟩,
  ⟨Tryd.isAgg118, Tryd.sizeOf118, rfl⟩,
  ⟨Tryd.isAgg134, Tryd.sizeOf134, rfl⟩,
  ⟨Tryd.isAgg135, Tryd.sizeOf135, rfl⟩,
  ⟨Tryd.isAgg138, Tryd.sizeOf138, rfl⟩,
  ⟨Tryd.isAgg144, Tryd.sizeOf144, rfl⟩,
  ⟨Tryd.isAgg145, Tryd.sizeOf145, rfl⟩,
  ⟨Tryd.isAgg146, Tryd.sizeOf146, rfl⟩,
  ⟨Tryd.isAgg147, Tryd.sizeOf147, rfl⟩, trivial⟩
theorem L_zero_ok : AllOf (ZeroF Tryd.prog) L_zero :=
  ⟨⟨_, Tryd.zeroValue2, rfl, rfl⟩,
  ⟨_, Tryd.zeroValue3, rfl, rfl⟩,
  ⟨_, Tryd.zeroValue4, rfl, rfl⟩,
  ⟨_, Tryd.zeroValue5, rfl, rfl⟩,
  ⟨_, Tryd.zeroValue6, rfl, rfl⟩,
  ⟨_, Tryd.zeroValue9, rfl, rfl⟩,
  ⟨_, Tryd.zeroValue10, rfl, rfl⟩,
  ⟨_, Tryd.zeroValue20, rfl, rfl⟩,
  ⟨_, Tryd.zeroValue21, rfl, rfl⟩,
  ⟨_, Tryd.zeroValue24, rfl, rfl⟩,
  ⟨_, Tryd.zeroValue25, rfl, rfl⟩,
  ⟨_, Tryd.zeroValue26, rfl, rfl⟩,
  ⟨_, Tryd.zeroValue27, rfl, rfl⟩,
  ⟨_, Tryd.zeroValue30, rfl, rfl⟩,
  ⟨_, Tryd.zeroValue31, rfl, rfl⟩,
  ⟨_, Tryd.zeroValue32, rfl, rfl⟩,
  ⟨_, Tryd.zeroValue33, rfl, rfl⟩,
  ⟨_, Tryd.zeroValue35, rfl, rfl⟩,
  ⟨_, Tryd.zeroValue36, rfl, rfl⟩,
  ⟨_, Tryd.zeroValue37, rfl, rfl⟩,
  ⟨_, Tryd.zeroValue38, rfl, rfl⟩,
  ⟨_, Tryd.zeroValue39, rfl, rfl⟩,
  ⟨_, Tryd.zeroValue40, rfl, rfl⟩,
  ⟨_, Tryd.zeroValue44, rfl, rfl⟩,
  ⟨_, Tryd.zeroValue45, rfl, rfl⟩,
  ⟨_, Tryd.zeroValue46, rfl, rfl⟩,
  ⟨_, Tryd.zeroValue48, rfl, rfl⟩,
  ⟨_, Tryd.zeroValue50, rfl, rfl⟩,
  ⟨_, Tryd.zeroValue51, rfl, rfl⟩,
  ⟨_, Tryd.zeroValue52, rfl, rfl⟩,
  ⟨_, Tryd.zeroValue53, rfl, rfl⟩,
  ⟨_, Tryd.zeroValue54, rfl, rfl⟩,
  ⟨_, Tryd.zeroValue55, rfl, rfl⟩,
  ⟨_, Tryd.zeroValue56, rfl, rfl⟩,
  ⟨_, Tryd.zeroValue57, rfl, rfl⟩,
  ⟨_, Tryd.zeroValue58, rfl, rfl⟩,
  ⟨_, Tryd.zeroValue59, rfl, rfl⟩,
  ⟨_, Tryd.zeroValue60, rfl, rfl⟩,
  ⟨_, Tryd.zeroValue61, rfl, rfl⟩,
  ⟨_, Tryd.zeroValue64, rfl, rfl⟩,
  ⟨_, Tryd.zeroValue65, rfl, rfl⟩,
  ⟨_, Tryd.zeroValue66, rfl, rfl⟩,
  ⟨_, Tryd.zeroValue69, rfl, rfl⟩,
  ⟨_, Tryd.zeroValue70, rfl, rfl⟩,
  ⟨_, Tryd.zeroValue71, rfl, rfl⟩,
  ⟨_, Tryd.zeroValue80, rfl, rfl⟩,
  ⟨_, Tryd.zeroValue81, rfl, rfl⟩,
  ⟨_, Tryd.zeroValue83, rfl, rfl⟩,
  ⟨_, Tryd.zeroValue84, rfl, rfl⟩,
  ⟨_, Tryd.zeroValue87, rfl, rfl⟩,
  ⟨_, Tryd.zeroValue88, rfl, rfl⟩,
  ⟨_, Tryd.zeroValue92, rfl, rfl⟩,
  ⟨_, Tryd.zeroValue93, rfl, rfl⟩,
  ⟨_, Tryd.zeroValue95, rfl, rfl⟩,
  ⟨_, Tryd.zeroValue99, rfl, rfl⟩,
  ⟨_, Tryd.zeroValue106, rfl, rfl⟩,
  ⟨_, Tryd.zeroValue113, rfl, rfl⟩,
  ⟨_, Tryd.zeroValue116, rfl, rfl⟩,
  ⟨_, Tryd.zeroValue118, rfl, rfl⟩,
  ⟨_, Tryd.zeroValue134, rfl, rfl⟩,
  ⟨_, Tryd.zeroValue135, rfl, rfl⟩,
  ⟨_, Tryd.zeroValue138, rfl, rfl⟩,
  ⟨_, Tryd.zeroValue144, rfl, rfl⟩,
  ⟨_, Tryd.zeroValue145, rfl, rfl⟩,
  ⟨_, Tryd.zeroValue146, rfl, rfl⟩,
  ⟨_, Tryd.zeroValue147, rfl, rfl⟩, trivial⟩
theorem L_fld_ok : AllOf (FldF Tryd.prog) L_fld :=
  ⟨⟨_, Tryd.underlying26, ⟨⟨rfl, rfl, Tryd.isAgg25, Tryd.sizeOf25⟩, ⟨⟨rfl, rfl, Tryd.isAgg3, Tryd.sizeOf3⟩, ⟨⟨rfl, rfl, Tryd.isAgg3, Tryd.sizeOf3⟩, trivial⟩⟩⟩⟩,
  ⟨_, Tryd.underlying27, ⟨⟨rfl, rfl, Tryd.isAgg25, Tryd.sizeOf25⟩, ⟨⟨rfl, rfl, Tryd.isAgg3, Tryd.sizeOf3⟩, ⟨⟨rfl, rfl, Tryd.isAgg3, Tryd.sizeOf3⟩, trivial⟩⟩⟩⟩,
  ⟨_, Tryd.underlying32, ⟨⟨rfl, rfl, Tryd.isAgg30, Tryd.sizeOf30⟩, ⟨⟨rfl, rfl, Tryd.isAgg9, Tryd.sizeOf9⟩, ⟨⟨rfl, rfl, Tryd.isAgg31, Tryd.sizeOf31⟩, ⟨⟨rfl, rfl, Tryd.isAgg3, Tryd.sizeOf3⟩, ⟨⟨rfl, rfl, Tryd.isAgg3, Tryd.sizeOf3⟩, trivial⟩⟩⟩⟩⟩⟩,
  ⟨_, Tryd.underlying33, ⟨⟨rfl, rfl, Tryd.isAgg30, Tryd.sizeOf30⟩, ⟨⟨rfl, rfl, Tryd.isAgg9, Tryd.sizeOf9⟩, ⟨⟨rfl, rfl, Tryd.isAgg31, Tryd.sizeOf31⟩, ⟨⟨rfl, rfl, Tryd.isAgg3, Tryd.sizeOf3⟩, ⟨⟨rfl, rfl, Tryd.isAgg3, Tryd.sizeOf3⟩, trivial⟩⟩⟩⟩⟩⟩,
  ⟨_, Tryd.underlying39, ⟨⟨rfl, rfl, Tryd.isAgg35, Tryd.sizeOf35⟩, ⟨⟨rfl, rfl, Tryd.isAgg36, Tryd.sizeOf36⟩, ⟨⟨rfl, rfl, Tryd.isAgg37, Tryd.sizeOf37⟩, ⟨⟨rfl, rfl, Tryd.isAgg38, Tryd.sizeOf38⟩, trivial⟩⟩⟩⟩⟩,
  ⟨_, Tryd.underlying40, ⟨⟨rfl, rfl, Tryd.isAgg35, Tryd.sizeOf35⟩, ⟨⟨rfl, rfl, Tryd.isAgg36, Tryd.sizeOf36⟩, ⟨⟨rfl, rfl, Tryd.isAgg37, Tryd.sizeOf37⟩, ⟨⟨rfl, rfl, Tryd.isAgg38, Tryd.sizeOf38⟩, trivial⟩⟩⟩⟩⟩,
  ⟨_, Tryd.underlying45, ⟨⟨rfl, rfl, Tryd.isAgg44, Tryd.sizeOf44⟩, ⟨⟨rfl, rfl, Tryd.isAgg3, Tryd.sizeOf3⟩, ⟨⟨rfl, rfl, Tryd.isAgg3, Tryd.sizeOf3⟩, trivial⟩⟩⟩⟩,
  ⟨_, Tryd.underlying46, ⟨⟨rfl, rfl, Tryd.isAgg44, Tryd.sizeOf44⟩, ⟨⟨rfl, rfl, Tryd.isAgg3, Tryd.sizeOf3⟩, ⟨⟨rfl, rfl, Tryd.isAgg3, Tryd.sizeOf3⟩, trivial⟩⟩⟩⟩,
  ⟨_, Tryd.underlying50, ⟨⟨rfl, rfl, Tryd.isAgg3, Tryd.sizeOf3⟩, ⟨⟨rfl, rfl, Tryd.isAgg9, Tryd.sizeOf9⟩, trivial⟩⟩⟩,
  ⟨_, Tryd.underlying51, ⟨⟨rfl, rfl, Tryd.isAgg3, Tryd.sizeOf3⟩, ⟨⟨rfl, rfl, Tryd.isAgg9, Tryd.sizeOf9⟩, trivial⟩⟩⟩,
  ⟨_, Tryd.underlying53, ⟨⟨rfl, rfl, Tryd.isAgg3, Tryd.sizeOf3⟩, ⟨⟨rfl, rfl, Tryd.isAgg3, Tryd.sizeOf3⟩, ⟨⟨rfl, rfl, Tryd.isAgg31, Tryd.sizeOf31⟩, ⟨⟨rfl, rfl, Tryd.isAgg51, Tryd.sizeOf51⟩, ⟨⟨rfl, rfl, Tryd.isAgg9, Tryd.sizeOf9⟩, ⟨⟨rfl, rfl, Tryd.isAgg52, Tryd.sizeOf52⟩, ⟨⟨rfl, rfl, Tryd.isAgg3, Tryd.sizeOf3⟩, ⟨⟨rfl, rfl, Tryd.isAgg3, Tryd.sizeOf3⟩, trivial⟩⟩⟩⟩⟩⟩⟩⟩⟩,
  ⟨_, Tryd.underlying54, ⟨⟨rfl, rfl, Tryd.isAgg3, Tryd.sizeOf3⟩, ⟨⟨rfl, rfl, Tryd.isAgg3, Tryd.sizeOf3⟩, ⟨⟨rfl, rfl, Tryd.isAgg31, Tryd.sizeOf31⟩, ⟨⟨rfl, rfl, Tryd.isAgg51, Tryd.sizeOf51⟩, ⟨⟨rfl, rfl, Tryd.isAgg9, Tryd.sizeOf9⟩, ⟨⟨rfl, rfl, Tryd.isAgg52, Tryd.sizeOf52⟩, ⟨⟨rfl, rfl, Tryd.isAgg3, Tryd.sizeOf3⟩, ⟨⟨rfl, rfl, Tryd.isAgg3, Tryd.sizeOf3⟩, trivial⟩⟩⟩⟩⟩⟩⟩⟩⟩,
  ⟨_, Tryd.underlying55, ⟨⟨rfl, rfl, Tryd.isAgg3, Tryd.sizeOf3⟩, ⟨⟨rfl, rfl, Tryd.isAgg9, Tryd.sizeOf9⟩, ⟨⟨rfl, rfl, Tryd.isAgg9, Tryd.sizeOf9⟩, ⟨⟨rfl, rfl, Tryd.isAgg54, Tryd.sizeOf54⟩, ⟨⟨rfl, rfl, Tryd.isAgg3, Tryd.sizeOf3⟩, ⟨⟨rfl, rfl, Tryd.isAgg3, Tryd.sizeOf3⟩, trivial⟩⟩⟩⟩⟩⟩⟩,
  ⟨_, Tryd.underlying56, ⟨⟨rfl, rfl, Tryd.isAgg3, Tryd.sizeOf3⟩, ⟨⟨rfl, rfl, Tryd.isAgg9, Tryd.sizeOf9⟩, ⟨⟨rfl, rfl, Tryd.isAgg9, Tryd.sizeOf9⟩, ⟨⟨rfl, rfl, Tryd.isAgg54, Tryd.sizeOf54⟩, ⟨⟨rfl, rfl, Tryd.isAgg3, Tryd.sizeOf3⟩, ⟨⟨rfl, rfl, Tryd.isAgg3, Tryd.sizeOf3⟩, trivial⟩⟩⟩⟩⟩⟩⟩,
  ⟨_, Tryd.underlying57, ⟨⟨rfl, rfl, Tryd.isAgg3, Tryd.sizeOf3⟩, ⟨⟨rfl, rfl, Tryd.isAgg54, Tryd.sizeOf54⟩, ⟨⟨rfl, rfl, Tryd.isAgg56, Tryd.sizeOf56⟩, ⟨⟨rfl, rfl, Tryd.isAgg9, Tryd.sizeOf9⟩, ⟨⟨rfl, rfl, Tryd.isAgg3, Tryd.sizeOf3⟩, ⟨⟨rfl, rfl, Tryd.isAgg3, Tryd.sizeOf3⟩, trivial⟩⟩⟩⟩⟩⟩⟩,
  ⟨_, Tryd.underlying58, ⟨⟨rfl, rfl, Tryd.isAgg3, Tryd.sizeOf3⟩, ⟨⟨rfl, rfl, Tryd.isAgg54, Tryd.sizeOf54⟩, ⟨⟨rfl, rfl, Tryd.isAgg56, Tryd.sizeOf56⟩, ⟨⟨rfl, rfl, Tryd.isAgg9, Tryd.sizeOf9⟩, ⟨⟨rfl, rfl, Tryd.isAgg3, Tryd.sizeOf3⟩, ⟨⟨rfl, rfl, Tryd.isAgg3, Tryd.sizeOf3⟩, trivial⟩⟩⟩⟩⟩⟩⟩,
  ⟨_, Tryd.underlying59, ⟨⟨rfl, rfl, Tryd.isAgg3, Tryd.sizeOf3⟩, ⟨⟨rfl, rfl, Tryd.isAgg9, Tryd.sizeOf9⟩, ⟨⟨rfl, rfl, Tryd.isAgg58, Tryd.sizeOf58⟩, ⟨⟨rfl, rfl, Tryd.isAgg56, Tryd.sizeOf56⟩, ⟨⟨rfl, rfl, Tryd.isAgg54, Tryd.sizeOf54⟩, ⟨⟨rfl, rfl, Tryd.isAgg3, Tryd.sizeOf3⟩, ⟨⟨rfl, rfl, Tryd.isAgg52, Tryd.sizeOf52⟩, ⟨⟨rfl, rfl, Tryd.isAgg44, Tryd.sizeOf44⟩, ⟨⟨rfl, rfl, Tryd.isAgg44, Tryd.sizeOf44⟩, ⟨⟨rfl, rfl, Tryd.isAgg3, Tryd.sizeOf3⟩, ⟨⟨rfl, rfl, Tryd.isAgg3, Tryd.sizeOf3⟩, trivial⟩⟩⟩⟩⟩⟩⟩⟩⟩⟩⟩⟩,
  ⟨_, Tryd.underlying60, ⟨⟨rfl, rfl, Tryd.isAgg3, Tryd.sizeOf3⟩, ⟨⟨rfl, rfl, Tryd.isAgg9, Tryd.sizeOf9⟩, ⟨⟨rfl, rfl, Tryd.isAgg58, Tryd.sizeOf58⟩, ⟨⟨rfl, rfl, Tryd.isAgg56, Tryd.sizeOf56⟩, ⟨⟨rfl, rfl, Tryd.isAgg54, Tryd.sizeOf54⟩, ⟨⟨rfl, rfl, Tryd.isAgg3, Tryd.sizeOf3⟩, ⟨⟨rfl, rfl, Tryd.isAgg52, Tryd.sizeOf52⟩, ⟨⟨rfl, rfl, Tryd.isAgg44, Tryd.sizeOf44⟩, ⟨⟨rfl, rfl, Tryd.isAgg44, Tryd.sizeOf44⟩, ⟨⟨rfl, rfl, Tryd.isAgg3, Tryd.sizeOf3⟩, ⟨⟨rfl, rfl, Tryd.isAgg3, Tryd.sizeOf3⟩, trivial⟩⟩⟩⟩⟩⟩⟩⟩⟩⟩⟩⟩,
  ⟨_, Tryd.underlying65, ⟨⟨rfl, rfl, Tryd.isAgg9, Tryd.sizeOf9⟩, ⟨⟨rfl, rfl, Tryd.isAgg3, Tryd.sizeOf3⟩, ⟨⟨rfl, rfl, Tryd.isAgg3, Tryd.sizeOf3⟩, trivial⟩⟩⟩⟩,
  ⟨_, Tryd.underlying66, ⟨⟨rfl, rfl, Tryd.isAgg9, Tryd.sizeOf9⟩, ⟨⟨rfl, rfl, Tryd.isAgg3, Tryd.sizeOf3⟩, ⟨⟨rfl, rfl, Tryd.isAgg3, Tryd.sizeOf3⟩, trivial⟩⟩⟩⟩,
  ⟨_, Tryd.underlying70, ⟨⟨rfl, rfl, Tryd.isAgg24, Tryd.sizeOf24⟩, ⟨⟨rfl, rfl, Tryd.isAgg3, Tryd.sizeOf3⟩, ⟨⟨rfl, rfl, Tryd.isAgg3, Tryd.sizeOf3⟩, ⟨⟨rfl, rfl, Tryd.isAgg27, Tryd.sizeOf27⟩, trivial⟩⟩⟩⟩⟩,
  ⟨_, Tryd.underlying71, ⟨⟨rfl, rfl, Tryd.isAgg24, Tryd.sizeOf24⟩, ⟨⟨rfl, rfl, Tryd.isAgg3, Tryd.sizeOf3⟩, ⟨⟨rfl, rfl, Tryd.isAgg3, Tryd.sizeOf3⟩, ⟨⟨rfl, rfl, Tryd.isAgg27, Tryd.sizeOf27⟩, trivial⟩⟩⟩⟩⟩,
  ⟨_, Tryd.underlying80, ⟨⟨rfl, rfl, Tryd.isAgg9, Tryd.sizeOf9⟩, ⟨⟨rfl, rfl, Tryd.isAgg36, Tryd.sizeOf36⟩, ⟨⟨rfl, rfl, Tryd.isAgg3, Tryd.sizeOf3⟩, ⟨⟨rfl, rfl, Tryd.isAgg3, Tryd.sizeOf3⟩, trivial⟩⟩⟩⟩⟩,
  ⟨_, Tryd.underlying81, ⟨⟨rfl, rfl, Tryd.isAgg9, Tryd.sizeOf9⟩, ⟨⟨rfl, rfl, Tryd.isAgg36, Tryd.sizeOf36⟩, ⟨⟨rfl, rfl, Tryd.isAgg3, Tryd.sizeOf3⟩, ⟨⟨rfl, rfl, Tryd.isAgg3, Tryd.sizeOf3⟩, trivial⟩⟩⟩⟩⟩,
  ⟨_, Tryd.underlying83, ⟨⟨rfl, rfl, Tryd.isAgg9, Tryd.sizeOf9⟩, ⟨⟨rfl, rfl, Tryd.isAgg51, Tryd.sizeOf51⟩, ⟨⟨rfl, rfl, Tryd.isAgg3, Tryd.sizeOf3⟩, ⟨⟨rfl, rfl, Tryd.isAgg3, Tryd.sizeOf3⟩, trivial⟩⟩⟩⟩⟩,
  ⟨_, Tryd.underlying84, ⟨⟨rfl, rfl, Tryd.isAgg9, Tryd.sizeOf9⟩, ⟨⟨rfl, rfl, Tryd.isAgg51, Tryd.sizeOf51⟩, ⟨⟨rfl, rfl, Tryd.isAgg3, Tryd.sizeOf3⟩, ⟨⟨rfl, rfl, Tryd.isAgg3, Tryd.sizeOf3⟩, trivial⟩⟩⟩⟩⟩,
  ⟨_, Tryd.underlying87, ⟨⟨rfl, rfl, Tryd.isAgg9, Tryd.sizeOf9⟩, ⟨⟨rfl, rfl, Tryd.isAgg36, Tryd.sizeOf36⟩, ⟨⟨rfl, rfl, Tryd.isAgg44, Tryd.sizeOf44⟩, ⟨⟨rfl, rfl, Tryd.isAgg3, Tryd.sizeOf3⟩, ⟨⟨rfl, rfl, Tryd.isAgg3, Tryd.sizeOf3⟩, trivial⟩⟩⟩⟩⟩⟩,
  ⟨_, Tryd.underlying88, ⟨⟨rfl, rfl, Tryd.isAgg9, Tryd.sizeOf9⟩, ⟨⟨rfl, rfl, Tryd.isAgg36, Tryd.sizeOf36⟩, ⟨⟨rfl, rfl, Tryd.isAgg44, Tryd.sizeOf44⟩, ⟨⟨rfl, rfl, Tryd.isAgg3, Tryd.sizeOf3⟩, ⟨⟨rfl, rfl, Tryd.isAgg3, Tryd.sizeOf3⟩, trivial⟩⟩⟩⟩⟩⟩,
  ⟨_, Tryd.underlying134, ⟨⟨rfl, rfl, Tryd.isAgg9, Tryd.sizeOf9⟩, ⟨⟨rfl, rfl, Tryd.isAgg9, Tryd.sizeOf9⟩, ⟨⟨rfl, rfl, Tryd.isAgg95, Tryd.sizeOf95⟩, trivial⟩⟩⟩⟩,
  ⟨_, Tryd.underlying135, ⟨⟨rfl, rfl, Tryd.isAgg9, Tryd.sizeOf9⟩, ⟨⟨rfl, rfl, Tryd.isAgg9, Tryd.sizeOf9⟩, ⟨⟨rfl, rfl, Tryd.isAgg95, Tryd.sizeOf95⟩, trivial⟩⟩⟩⟩,
  ⟨_, Tryd.underlying146, ⟨⟨rfl, rfl, Tryd.isAgg9, Tryd.sizeOf9⟩, trivial⟩⟩,
  ⟨_, Tryd.underlying147, ⟨⟨rfl, rfl, Tryd.isAgg9, Tryd.sizeOf9⟩, trivial⟩⟩, trivial⟩
theorem L_elm_ok : AllOf (ElmF Tryd.prog) L_elm :=
  ⟨⟨Tryd.underlying24, rfl, ⟨(Value.agg #[Value.int IntKind.i64 0, Value.string { data := #[] }, Value.int IntKind.u64 0, Value.int IntKind.i64 0, Value.int IntKind.i64 0]), by kernel_rfl, rfl, rfl⟩, Tryd.isAgg33⟩,
  ⟨Tryd.underlying35, rfl, ⟨(Value.agg #[Value.string { data := #[] }, Value.slice none 0 0, Value.int IntKind.i64 0, Value.int IntKind.i64 0]), by kernel_rfl, rfl, rfl⟩, Tryd.isAgg81⟩,
  ⟨Tryd.underlying36, rfl, ⟨(Value.agg #[Value.string { data := #[] }, Value.int IntKind.i64 0, Value.string { data := #[] }, Value.int IntKind.i64 0, Value.int IntKind.i64 0]), by kernel_rfl, rfl, rfl⟩, Tryd.isAgg84⟩,
  ⟨Tryd.underlying37, rfl, ⟨(Value.agg #[Value.string { data := #[] }, Value.slice none 0 0, Value.slice none 0 0, Value.int IntKind.i64 0, Value.int IntKind.i64 0]), by kernel_rfl, rfl, rfl⟩, Tryd.isAgg88⟩,
  ⟨Tryd.underlying38, rfl, ⟨(Value.agg #[Value.slice none 0 0, Value.int IntKind.i64 0, Value.int IntKind.i64 0]), by kernel_rfl, rfl, rfl⟩, Tryd.isAgg46⟩,
  ⟨Tryd.underlying44, rfl, ⟨(Value.agg #[Value.int IntKind.i64 0, Value.string { data := #[] }, Value.int IntKind.i64 0, Value.int IntKind.i64 0, Value.int IntKind.i64 0, Value.int IntKind.u64 0, Value.int IntKind.i64 0, Value.string { data := #[] }, Value.string { data := #[] }, Value.slice none 0 0, Value.int IntKind.i64 0, Value.int IntKind.i64 0, Value.int IntKind.i64 0, Value.string { data := #[] }, Value.string { data := #[] }, Value.int IntKind.i64 0, Value.int IntKind.i64 0, Value.int IntKind.u64 0, Value.int IntKind.i64 0, Value.string { data := #[] }, Value.string { data := #[] }, Value.slice none 0 0, Value.int IntKind.i64 0, Value.int IntKind.i64 0, Value.int IntKind.i64 0, Value.int IntKind.i64 0, Value.string { data := #[] }, Value.int IntKind.i64 0, Value.int IntKind.i64 0, Value.int IntKind.i64 0, Value.string { data := #[] }, Value.string { data := #[] }, Value.int IntKind.i64 0, Value.int IntKind.i64 0, Value.int IntKind.u64 0, Value.int IntKind.i64 0, Value.string { data := #[] }, Value.string { data := #[] }, Value.slice none 0 0, Value.int IntKind.i64 0, Value.int IntKind.i64 0, Value.int IntKind.i64 0, Value.int IntKind.i64 0, Value.int IntKind.i64 0, Value.int IntKind.i64 0, Value.int IntKind.u64 0, Value.int IntKind.i64 0, Value.string { data := #[] }, Value.string { data := #[] }, Value.slice none 0 0, Value.int IntKind.i64 0, Value.int IntKind.i64 0, Value.int IntKind.i64 0, Value.slice none 0 0, Value.slice none 0 0, Value.slice none 0 0, Value.int IntKind.i64 0, Value.int IntKind.i64 0]), by kernel_rfl, rfl, rfl⟩, Tryd.isAgg60⟩,
  ⟨Tryd.underlying48, rfl, ⟨(Value.string { data := #[] }), by kernel_rfl, rfl, rfl⟩, Tryd.isAgg9⟩,
  ⟨Tryd.underlying52, rfl, ⟨(Value.agg #[Value.int IntKind.i64 0, Value.int IntKind.i64 0, Value.int IntKind.u64 0, Value.int IntKind.i64 0, Value.string { data := #[] }, Value.string { data := #[] }, Value.slice none 0 0, Value.int IntKind.i64 0, Value.int IntKind.i64 0]), by kernel_rfl, rfl, rfl⟩, Tryd.isAgg54⟩,
  ⟨Tryd.underlying93, rfl, ⟨(Value.int IntKind.u8 0), by kernel_rfl, rfl, rfl⟩, Tryd.isAgg5⟩, trivial⟩
theorem L_arr_ok : AllOf (ArrF Tryd.prog) L_arr :=
  ⟨⟨9, Tryd.underlying99, rfl, Tryd.isAgg9, Tryd.sizeOf9⟩,
  ⟨9, Tryd.underlying106, rfl, Tryd.isAgg9, Tryd.sizeOf9⟩,
  ⟨31, Tryd.underlying138, rfl, Tryd.isAgg31, Tryd.sizeOf31⟩, trivial⟩
theorem L_str_ok : AllOf ((fun t _ => Program.underlying Tryd.prog t = some .string)) L_str :=
  ⟨Tryd.underlying9,
  Tryd.underlying10, trivial⟩
theorem L_int_ok : AllOf ((fun t k => Program.underlying Tryd.prog t = some (.int k))) L_int :=
  ⟨Tryd.underlying2,
  Tryd.underlying3,
  Tryd.underlying5,
  Tryd.underlying6,
  Tryd.underlying21,
  Tryd.underlying25,
  Tryd.underlying30,
  Tryd.underlying31,
  Tryd.underlying92,
  Tryd.underlying113,
  Tryd.underlying116, trivial⟩
theorem L_bld_ok : AllOf (BldF Tryd.prog) L_bld :=
  ⟨.rows (cs := [.int .i64 0, .int .i64 0, .int .i64 0]) (z := #[Value.int IntKind.i64 0, Value.int IntKind.i64 0, Value.int IntKind.i64 0]) rfl rfl fun parts => by kernel_rfl,
  .rows (cs := [.int .i64 0, .int .i64 0, .int .i64 0]) (z := #[Value.int IntKind.i64 0, Value.int IntKind.i64 0, Value.int IntKind.i64 0]) rfl rfl fun parts => by kernel_rfl,
  .rows (cs := [.int .i64 0, .str [], .int .u64 0, .int .i64 0, .int .i64 0]) (z := #[Value.int IntKind.i64 0, Value.string { data := #[] }, Value.int IntKind.u64 0, Value.int IntKind.i64 0, Value.int IntKind.i64 0]) rfl rfl fun parts => by kernel_rfl,
  .rows (cs := [.int .i64 0, .str [], .int .u64 0, .int .i64 0, .int .i64 0]) (z := #[Value.int IntKind.i64 0, Value.string { data := #[] }, Value.int IntKind.u64 0, Value.int IntKind.i64 0, Value.int IntKind.i64 0]) rfl rfl fun parts => by kernel_rfl,
  .rows (cs := [.slice [] 0 .exact, .slice [] 0 .exact, .slice [] 0 .exact, .slice [] 0 .exact]) (z := #[Value.slice none 0 0, Value.slice none 0 0, Value.slice none 0 0, Value.slice none 0 0]) rfl rfl fun parts => by kernel_rfl,
  .rows (cs := [.slice [] 0 .exact, .slice [] 0 .exact, .slice [] 0 .exact, .slice [] 0 .exact]) (z := #[Value.slice none 0 0, Value.slice none 0 0, Value.slice none 0 0, Value.slice none 0 0]) rfl rfl fun parts => by kernel_rfl,
  .rows (cs := [.slice [] 0 .exact, .int .i64 0, .int .i64 0]) (z := #[Value.slice none 0 0, Value.int IntKind.i64 0, Value.int IntKind.i64 0]) rfl rfl fun parts => by kernel_rfl,
  .rows (cs := [.slice [] 0 .exact, .int .i64 0, .int .i64 0]) (z := #[Value.slice none 0 0, Value.int IntKind.i64 0, Value.int IntKind.i64 0]) rfl rfl fun parts => by kernel_rfl,
  .rows (cs := [.int .i64 0, .str []]) (z := #[Value.int IntKind.i64 0, Value.string { data := #[] }]) rfl rfl fun parts => by kernel_rfl,
  .rows (cs := [.int .i64 0, .str []]) (z := #[Value.int IntKind.i64 0, Value.string { data := #[] }]) rfl rfl fun parts => by kernel_rfl,
  .rows (cs := [.int .i64 0, .int .i64 0, .int .u64 0, .int .i64 0, .str [], .str [], .slice [] 0 .exact, .int .i64 0, .int .i64 0]) (z := #[Value.int IntKind.i64 0, Value.int IntKind.i64 0, Value.int IntKind.u64 0, Value.int IntKind.i64 0, Value.string { data := #[] }, Value.string { data := #[] }, Value.slice none 0 0, Value.int IntKind.i64 0, Value.int IntKind.i64 0]) rfl rfl fun parts => by kernel_rfl,
  .rows (cs := [.int .i64 0, .int .i64 0, .int .u64 0, .int .i64 0, .str [], .str [], .slice [] 0 .exact, .int .i64 0, .int .i64 0]) (z := #[Value.int IntKind.i64 0, Value.int IntKind.i64 0, Value.int IntKind.u64 0, Value.int IntKind.i64 0, Value.string { data := #[] }, Value.string { data := #[] }, Value.slice none 0 0, Value.int IntKind.i64 0, Value.int IntKind.i64 0]) rfl rfl fun parts => by kernel_rfl,
  .rows (cs := [.int .i64 0, .str [], .str [], .int .i64 0, .int .i64 0, .int .u64 0, .int .i64 0, .str [], .str [], .slice [] 0 .exact, .int .i64 0, .int .i64 0, .int .i64 0, .int .i64 0]) (z := #[Value.int IntKind.i64 0, Value.string { data := #[] }, Value.string { data := #[] }, Value.int IntKind.i64 0, Value.int IntKind.i64 0, Value.int IntKind.u64 0, Value.int IntKind.i64 0, Value.string { data := #[] }, Value.string { data := #[] }, Value.slice none 0 0, Value.int IntKind.i64 0, Value.int IntKind.i64 0, Value.int IntKind.i64 0, Value.int IntKind.i64 0]) rfl rfl fun parts => by kernel_rfl,
  .rows (cs := [.int .i64 0, .str [], .str [], .int .i64 0, .int .i64 0, .int .u64 0, .int .i64 0, .str [], .str [], .slice [] 0 .exact, .int .i64 0, .int .i64 0, .int .i64 0, .int .i64 0]) (z := #[Value.int IntKind.i64 0, Value.string { data := #[] }, Value.string { data := #[] }, Value.int IntKind.i64 0, Value.int IntKind.i64 0, Value.int IntKind.u64 0, Value.int IntKind.i64 0, Value.string { data := #[] }, Value.string { data := #[] }, Value.slice none 0 0, Value.int IntKind.i64 0, Value.int IntKind.i64 0, Value.int IntKind.i64 0, Value.int IntKind.i64 0]) rfl rfl fun parts => by kernel_rfl,
  .rows (cs := [.int .i64 0, .int .i64 0, .int .i64 0, .int .u64 0, .int .i64 0, .str [], .str [], .slice [] 0 .exact, .int .i64 0, .int .i64 0, .int .i64 0, .str [], .str [], .int .i64 0, .int .i64 0, .int .u64 0, .int .i64 0, .str [], .str [], .slice [] 0 .exact, .int .i64 0, .int .i64 0, .int .i64 0, .int .i64 0, .str [], .int .i64 0, .int .i64 0]) (z := #[Value.int IntKind.i64 0, Value.int IntKind.i64 0, Value.int IntKind.i64 0, Value.int IntKind.u64 0, Value.int IntKind.i64 0, Value.string { data := #[] }, Value.string { data := #[] }, Value.slice none 0 0, Value.int IntKind.i64 0, Value.int IntKind.i64 0, Value.int IntKind.i64 0, Value.string { data := #[] }, Value.string { data := #[] }, Value.int IntKind.i64 0, Value.int IntKind.i64 0, Value.int IntKind.u64 0, Value.int IntKind.i64 0, Value.string { data := #[] }, Value.string { data := #[] }, Value.slice none 0 0, Value.int IntKind.i64 0, Value.int IntKind.i64 0, Value.int IntKind.i64 0, Value.int IntKind.i64 0, Value.string { data := #[] }, Value.int IntKind.i64 0, Value.int IntKind.i64 0]) rfl rfl fun parts => by kernel_rfl,
  .rows (cs := [.int .i64 0, .int .i64 0, .int .i64 0, .int .u64 0, .int .i64 0, .str [], .str [], .slice [] 0 .exact, .int .i64 0, .int .i64 0, .int .i64 0, .str [], .str [], .int .i64 0, .int .i64 0, .int .u64 0, .int .i64 0, .str [], .str [], .slice [] 0 .exact, .int .i64 0, .int .i64 0, .int .i64 0, .int .i64 0, .str [], .int .i64 0, .int .i64 0]) (z := #[Value.int IntKind.i64 0, Value.int IntKind.i64 0, Value.int IntKind.i64 0, Value.int IntKind.u64 0, Value.int IntKind.i64 0, Value.string { data := #[] }, Value.string { data := #[] }, Value.slice none 0 0, Value.int IntKind.i64 0, Value.int IntKind.i64 0, Value.int IntKind.i64 0, Value.string { data := #[] }, Value.string { data := #[] }, Value.int IntKind.i64 0, Value.int IntKind.i64 0, Value.int IntKind.u64 0, Value.int IntKind.i64 0, Value.string { data := #[] }, Value.string { data := #[] }, Value.slice none 0 0, Value.int IntKind.i64 0, Value.int IntKind.i64 0, Value.int IntKind.i64 0, Value.int IntKind.i64 0, Value.string { data := #[] }, Value.int IntKind.i64 0, Value.int IntKind.i64 0]) rfl rfl fun parts => by kernel_rfl,
  .rows (cs := [.int .i64 0, .str [], .int .i64 0, .int .i64 0, .int .i64 0, .int .u64 0, .int .i64 0, .str [], .str [], .slice [] 0 .exact, .int .i64 0, .int .i64 0, .int .i64 0, .str [], .str [], .int .i64 0, .int .i64 0, .int .u64 0, .int .i64 0, .str [], .str [], .slice [] 0 .exact, .int .i64 0, .int .i64 0, .int .i64 0, .int .i64 0, .str [], .int .i64 0, .int .i64 0, .int .i64 0, .str [], .str [], .int .i64 0, .int .i64 0, .int .u64 0, .int .i64 0, .str [], .str [], .slice [] 0 .exact, .int .i64 0, .int .i64 0, .int .i64 0, .int .i64 0, .int .i64 0, .int .i64 0, .int .u64 0, .int .i64 0, .str [], .str [], .slice [] 0 .exact, .int .i64 0, .int .i64 0, .int .i64 0, .slice [] 0 .exact, .slice [] 0 .exact, .slice [] 0 .exact, .int .i64 0, .int .i64 0]) (z := #[Value.int IntKind.i64 0, Value.string { data := #[] }, Value.int IntKind.i64 0, Value.int IntKind.i64 0, Value.int IntKind.i64 0, Value.int IntKind.u64 0, Value.int IntKind.i64 0, Value.string { data := #[] }, Value.string { data := #[] }, Value.slice none 0 0, Value.int IntKind.i64 0, Value.int IntKind.i64 0, Value.int IntKind.i64 0, Value.string { data := #[] }, Value.string { data := #[] }, Value.int IntKind.i64 0, Value.int IntKind.i64 0, Value.int IntKind.u64 0, Value.int IntKind.i64 0, Value.string { data := #[] }, Value.string { data := #[] }, Value.slice none 0 0, Value.int IntKind.i64 0, Value.int IntKind.i64 0, Value.int IntKind.i64 0, Value.int IntKind.i64 0, Value.string { data := #[] }, Value.int IntKind.i64 0, Value.int IntKind.i64 0, Value.int IntKind.i64 0, Value.string { data := #[] }, Value.string { data := #[] }, Value.int IntKind.i64 0, Value.int IntKind.i64 0, Value.int IntKind.u64 0, Value.int IntKind.i64 0, Value.string { data := #[] }, Value.string { data := #[] }, Value.slice none 0 0, Value.int IntKind.i64 0, Value.int IntKind.i64 0, Value.int IntKind.i64 0, Value.int IntKind.i64 0, Value.int IntKind.i64 0, Value.int IntKind.i64 0, Value.int IntKind.u64 0, Value.int IntKind.i64 0, Value.string { data := #[] }, Value.string { data := #[] }, Value.slice none 0 0, Value.int IntKind.i64 0, Value.int IntKind.i64 0, Value.int IntKind.i64 0, Value.slice none 0 0, Value.slice none 0 0, Value.slice none 0 0, Value.int IntKind.i64 0, Value.int IntKind.i64 0]) rfl rfl fun parts => by kernel_rfl,
  .rows (cs := [.int .i64 0, .str [], .int .i64 0, .int .i64 0, .int .i64 0, .int .u64 0, .int .i64 0, .str [], .str [], .slice [] 0 .exact, .int .i64 0, .int .i64 0, .int .i64 0, .str [], .str [], .int .i64 0, .int .i64 0, .int .u64 0, .int .i64 0, .str [], .str [], .slice [] 0 .exact, .int .i64 0, .int .i64 0, .int .i64 0, .int .i64 0, .str [], .int .i64 0, .int .i64 0, .int .i64 0, .str [], .str [], .int .i64 0, .int .i64 0, .int .u64 0, .int .i64 0, .str [], .str [], .slice [] 0 .exact, .int .i64 0, .int .i64 0, .int .i64 0, .int .i64 0, .int .i64 0, .int .i64 0, .int .u64 0, .int .i64 0, .str [], .str [], .slice [] 0 .exact, .int .i64 0, .int .i64 0, .int .i64 0, .slice [] 0 .exact, .slice [] 0 .exact, .slice [] 0 .exact, .int .i64 0, .int .i64 0]) (z := #[Value.int IntKind.i64 0, Value.string { data := #[] }, Value.int IntKind.i64 0, Value.int IntKind.i64 0, Value.int IntKind.i64 0, Value.int IntKind.u64 0, Value.int IntKind.i64 0, Value.string { data := #[] }, Value.string { data := #[] }, Value.slice none 0 0, Value.int IntKind.i64 0, Value.int IntKind.i64 0, Value.int IntKind.i64 0, Value.string { data := #[] }, Value.string { data := #[] }, Value.int IntKind.i64 0, Value.int IntKind.i64 0, Value.int IntKind.u64 0, Value.int IntKind.i64 0, Value.string { data := #[] }, Value.string { data := #[] }, Value.slice none 0 0, Value.int IntKind.i64 0, Value.int IntKind.i64 0, Value.int IntKind.i64 0, Value.int IntKind.i64 0, Value.string { data := #[] }, Value.int IntKind.i64 0, Value.int IntKind.i64 0, Value.int IntKind.i64 0, Value.string { data := #[] }, Value.string { data := #[] }, Value.int IntKind.i64 0, Value.int IntKind.i64 0, Value.int IntKind.u64 0, Value.int IntKind.i64 0, Value.string { data := #[] }, Value.string { data := #[] }, Value.slice none 0 0, Value.int IntKind.i64 0, Value.int IntKind.i64 0, Value.int IntKind.i64 0, Value.int IntKind.i64 0, Value.int IntKind.i64 0, Value.int IntKind.i64 0, Value.int IntKind.u64 0, Value.int IntKind.i64 0, Value.string { data := #[] }, Value.string { data := #[] }, Value.slice none 0 0, Value.int IntKind.i64 0, Value.int IntKind.i64 0, Value.int IntKind.i64 0, Value.slice none 0 0, Value.slice none 0 0, Value.slice none 0 0, Value.int IntKind.i64 0, Value.int IntKind.i64 0]) rfl rfl fun parts => by kernel_rfl,
  .rows (cs := [.str [], .int .i64 0, .int .i64 0]) (z := #[Value.string { data := #[] }, Value.int IntKind.i64 0, Value.int IntKind.i64 0]) rfl rfl fun parts => by kernel_rfl,
  .rows (cs := [.str [], .int .i64 0, .int .i64 0]) (z := #[Value.string { data := #[] }, Value.int IntKind.i64 0, Value.int IntKind.i64 0]) rfl rfl fun parts => by kernel_rfl,
  .rows (cs := [.slice [] 0 .exact, .int .i64 0, .int .i64 0, .int .i64 0, .int .i64 0, .int .i64 0]) (z := #[Value.slice none 0 0, Value.int IntKind.i64 0, Value.int IntKind.i64 0, Value.int IntKind.i64 0, Value.int IntKind.i64 0, Value.int IntKind.i64 0]) rfl rfl fun parts => by kernel_rfl,
  .rows (cs := [.slice [] 0 .exact, .int .i64 0, .int .i64 0, .int .i64 0, .int .i64 0, .int .i64 0]) (z := #[Value.slice none 0 0, Value.int IntKind.i64 0, Value.int IntKind.i64 0, Value.int IntKind.i64 0, Value.int IntKind.i64 0, Value.int IntKind.i64 0]) rfl rfl fun parts => by kernel_rfl,
  .rows (cs := [.str [], .slice [] 0 .exact, .int .i64 0, .int .i64 0]) (z := #[Value.string { data := #[] }, Value.slice none 0 0, Value.int IntKind.i64 0, Value.int IntKind.i64 0]) rfl rfl fun parts => by kernel_rfl,
  .rows (cs := [.str [], .slice [] 0 .exact, .int .i64 0, .int .i64 0]) (z := #[Value.string { data := #[] }, Value.slice none 0 0, Value.int IntKind.i64 0, Value.int IntKind.i64 0]) rfl rfl fun parts => by kernel_rfl,
  .rows (cs := [.str [], .int .i64 0, .str [], .int .i64 0, .int .i64 0]) (z := #[Value.string { data := #[] }, Value.int IntKind.i64 0, Value.string { data := #[] }, Value.int IntKind.i64 0, Value.int IntKind.i64 0]) rfl rfl fun parts => by kernel_rfl,
  .rows (cs := [.str [], .int .i64 0, .str [], .int .i64 0, .int .i64 0]) (z := #[Value.string { data := #[] }, Value.int IntKind.i64 0, Value.string { data := #[] }, Value.int IntKind.i64 0, Value.int IntKind.i64 0]) rfl rfl fun parts => by kernel_rfl,
  .rows (cs := [.str [], .slice [] 0 .exact, .slice [] 0 .exact, .int .i64 0, .int .i64 0]) (z := #[Value.string { data := #[] }, Value.slice none 0 0, Value.slice none 0 0, Value.int IntKind.i64 0, Value.int IntKind.i64 0]) rfl rfl fun parts => by kernel_rfl,
  .rows (cs := [.str [], .slice [] 0 .exact, .slice [] 0 .exact, .int .i64 0, .int .i64 0]) (z := #[Value.string { data := #[] }, Value.slice none 0 0, Value.slice none 0 0, Value.int IntKind.i64 0, Value.int IntKind.i64 0]) rfl rfl fun parts => by kernel_rfl,
  .each (cs := [.str [], .str [], .str []]) (z := #[Value.string { data := #[] }, Value.string { data := #[] }, Value.string { data := #[] }]) rfl rfl fun parts => by kernel_rfl,
  .each (cs := [.str [], .str [], .str [], .str []]) (z := #[Value.string { data := #[] }, Value.string { data := #[] }, Value.string { data := #[] }, Value.string { data := #[] }]) rfl rfl fun parts => by kernel_rfl,
  .rows (cs := [.str [], .str [], .nilIface]) (z := #[Value.string { data := #[] }, Value.string { data := #[] }, Value.nilIface]) rfl rfl fun parts => by kernel_rfl,
  .rows (cs := [.str [], .str [], .nilIface]) (z := #[Value.string { data := #[] }, Value.string { data := #[] }, Value.nilIface]) rfl rfl fun parts => by kernel_rfl,
  .each (cs := [.int .u64 0, .int .u64 0, .int .u64 0, .int .u64 0, .int .u64 0, .int .u64 0, .int .u64 0, .int .u64 0, .int .u64 0, .int .u64 0, .int .u64 0, .int .u64 0, .int .u64 0, .int .u64 0, .int .u64 0, .int .u64 0, .int .u64 0, .int .u64 0, .int .u64 0, .int .u64 0]) (z := #[Value.int IntKind.u64 0, Value.int IntKind.u64 0, Value.int IntKind.u64 0, Value.int IntKind.u64 0, Value.int IntKind.u64 0, Value.int IntKind.u64 0, Value.int IntKind.u64 0, Value.int IntKind.u64 0, Value.int IntKind.u64 0, Value.int IntKind.u64 0, Value.int IntKind.u64 0, Value.int IntKind.u64 0, Value.int IntKind.u64 0, Value.int IntKind.u64 0, Value.int IntKind.u64 0, Value.int IntKind.u64 0, Value.int IntKind.u64 0, Value.int IntKind.u64 0, Value.int IntKind.u64 0, Value.int IntKind.u64 0]) rfl rfl fun parts => by kernel_rfl,
  .rows (cs := [.str []]) (z := #[Value.string { data := #[] }]) rfl rfl fun parts => by kernel_rfl,
  .rows (cs := [.str []]) (z := #[Value.string { data := #[] }]) rfl rfl fun parts => by kernel_rfl, trivial⟩
theorem L_con_ok : AllOf (ConF Tryd.prog) L_con :=
  ⟨⟨_, Tryd.underlying2, rfl⟩,
  ⟨_, Tryd.underlying3, rfl⟩,
  ⟨_, Tryd.underlying4, rfl⟩,
  ⟨_, Tryd.underlying5, rfl⟩,
  ⟨_, Tryd.underlying6, rfl⟩,
  ⟨_, Tryd.underlying9, rfl⟩,
  ⟨_, Tryd.underlying10, rfl⟩,
  ⟨_, Tryd.underlying21, rfl⟩,
  ⟨_, Tryd.underlying24, rfl⟩,
  ⟨_, Tryd.underlying25, rfl⟩,
  ⟨_, Tryd.underlying26, rfl⟩,
  ⟨_, Tryd.underlying27, rfl⟩,
  ⟨_, Tryd.underlying30, rfl⟩,
  ⟨_, Tryd.underlying31, rfl⟩,
  ⟨_, Tryd.underlying32, rfl⟩,
  ⟨_, Tryd.underlying33, rfl⟩,
  ⟨_, Tryd.underlying35, rfl⟩,
  ⟨_, Tryd.underlying36, rfl⟩,
  ⟨_, Tryd.underlying37, rfl⟩,
  ⟨_, Tryd.underlying38, rfl⟩,
  ⟨_, Tryd.underlying39, rfl⟩,
  ⟨_, Tryd.underlying40, rfl⟩,
  ⟨_, Tryd.underlying44, rfl⟩,
  ⟨_, Tryd.underlying45, rfl⟩,
  ⟨_, Tryd.underlying46, rfl⟩,
  ⟨_, Tryd.underlying48, rfl⟩,
  ⟨_, Tryd.underlying50, rfl⟩,
  ⟨_, Tryd.underlying51, rfl⟩,
  ⟨_, Tryd.underlying52, rfl⟩,
  ⟨_, Tryd.underlying53, rfl⟩,
  ⟨_, Tryd.underlying54, rfl⟩,
  ⟨_, Tryd.underlying55, rfl⟩,
  ⟨_, Tryd.underlying56, rfl⟩,
  ⟨_, Tryd.underlying57, rfl⟩,
  ⟨_, Tryd.underlying58, rfl⟩,
  ⟨_, Tryd.underlying59, rfl⟩,
  ⟨_, Tryd.underlying60, rfl⟩,
  ⟨_, Tryd.underlying61, rfl⟩,
  ⟨_, Tryd.underlying64, rfl⟩,
  ⟨_, Tryd.underlying65, rfl⟩,
  ⟨_, Tryd.underlying66, rfl⟩,
  ⟨_, Tryd.underlying69, rfl⟩,
  ⟨_, Tryd.underlying70, rfl⟩,
  ⟨_, Tryd.underlying71, rfl⟩,
  ⟨_, Tryd.underlying80, rfl⟩,
  ⟨_, Tryd.underlying81, rfl⟩,
  ⟨_, Tryd.underlying83, rfl⟩,
  ⟨_, Tryd.underlying84, rfl⟩,
  ⟨_, Tryd.underlying87, rfl⟩,
  ⟨_, Tryd.underlying88, rfl⟩,
  ⟨_, Tryd.underlying92, rfl⟩,
  ⟨_, Tryd.underlying93, rfl⟩,
  ⟨_, Tryd.underlying99, rfl⟩,
  ⟨_, Tryd.underlying106, rfl⟩,
  ⟨_, Tryd.underlying113, rfl⟩,
  ⟨_, Tryd.underlying116, rfl⟩,
  ⟨_, Tryd.underlying118, rfl⟩,
  ⟨_, Tryd.underlying134, rfl⟩,
  ⟨_, Tryd.underlying135, rfl⟩,
  ⟨_, Tryd.underlying138, rfl⟩,
  ⟨_, Tryd.underlying144, rfl⟩,
  ⟨_, Tryd.underlying145, rfl⟩,
  ⟨_, Tryd.underlying146, rfl⟩,
  ⟨_, Tryd.underlying147, rfl⟩, trivial⟩
theorem L_ok : TabsOK Tryd.prog L := ⟨L_eqs_ok, L_eqf_ok, L_sz_ok, L_zero_ok, L_fld_ok, L_elm_ok, L_arr_ok, L_str_ok, L_int_ok, L_bld_ok, L_con_ok⟩
theorem hT : TabOK Tryd.prog T := L_ok.tab

end Go.AE

/- A region that asks the tape for its order, many operations at once. -/
set_option linter.unusedVariables false
set_option linter.unusedSimpArgs false
namespace Go.AE

section
variable {P : Program} {T : Tab} {nt : Nat} {Q : APost} {fr : Fr} {σ : St}

/-- One operation: taken first, or alone. -/
def qstep (T : Tab) (hp : Option Nat → Bool) (nt : Nat) (ops : Array Oper) (st : List (Nat × Nat)) (nb : Nat) (sc : List Nat) (no : Nat) (fz : Bool) (listed : Array Bool) (fr : Fr) (σ : St) (i : Nat) : Option (Bool × Fr × St × Prop) :=
  match ops[i]? with
  | none => none
  | some o =>
    match awanted ops o fr with
    | none => none
    | some false => chk (takeOk nt ops st sc listed i o) (some (fz, fr.put o.dst (.tuple []), σ, True))
    | some true =>
      match isPure o.op with
      | true =>
        (match aop T false o.op fr σ with
        | some (v, _, _, ob) => chk (takeOk nt ops st sc listed i o) (some (fz, fr.put o.dst v, σ, ob))
        | none => none)
      | false =>
        match o.op with
        | .load t x =>
          (match aload T fr σ t (ev fr x) with
          | some (v, ob) =>
            (match ev fr x with
            | .loc bi _ => chk (takeOk nt ops st sc listed i o && Nat.blt bi nb && waited ops (stOf st bi) i && noneYet (stOf st bi) listed) (some (fz, fr.put o.dst v, σ, ob))
            | .ptr bi _ => chk (takeOk nt ops st sc listed i o && Nat.blt bi no && waited ops sc i && noneYet sc listed) (some (fz, fr.put o.dst v, σ, ob))
            | .dat _ => chk (takeOk nt ops st sc listed i o && fz) (some (fz, fr.put o.dst v, σ, ob))
            | _ => none)
          | none => none)
        | _ =>
          (match aop T (hp o.dst) o.op fr σ with
          | some (v, fr', σ', ob) => chk (decide (Region.ready .any ops listed = [i]) && dstOk nt o.dst && mayWrite st sc i (tgt fr o.op) && Nat.blt i listed.size) (some (false, fr'.put o.dst v, σ', ob))
          | none => none)

theorem aop_pure_same {hp : Bool} {op : Op} {fr fr' : Fr} {σ σ' : St} {v : AV} {ob : Prop} (hp' : isPure op = true) (h : aop T hp op fr σ = some (v, fr', σ', ob)) (hT : TabOK P T) {E : Ent} {g : Gh} {a : Act} {w : World} (R : Rel E g fr σ a w) (hob : ob) : fr' = fr ∧ σ' = σ :=
  ((aop_sound (P := P) hT (o := ⟨none, op, 0, "", #[], none⟩) R h hob).1 hp').2

theorem AAny.step (hT : TabOK P T) (hp : Option Nat → Bool) {ops : Array Oper} {st : List (Nat × Nat)} {sc : List Nat} {nb no fuel i : Nat} {listed : Array Bool} {fz fz' : Bool} {fr' : Fr} {σ' : St} {ob : Prop} (h : qstep T hp nt ops st nb sc no fz listed fr σ i = some (fz', fr', σ', ob)) (hob : ob)
    (k : AAny P nt ops st nb sc no fz' fuel (listed.setIfInBounds i true) Q fr' σ') : AAny P nt ops st nb sc no fz (fuel + 1) listed Q fr σ := by
  unfold qstep at h
  split at h
  · cases h
  rename_i o hi
  split at h
  · cases h
  · rename_i hw
    obtain ⟨hk, h⟩ := chk_some h
    simp only [Option.some.injEq, Prod.mk.injEq] at h
    obtain ⟨rfl, rfl, rfl, rfl⟩ := h
    exact AAny.skip hi hk hw k
  · rename_i hw
    split at h
    · rename_i hpu
      split at h
      · rename_i v fr1 σ1 ob1 ho
        obtain ⟨hk, h⟩ := chk_some h
        simp only [Option.some.injEq, Prod.mk.injEq] at h
        obtain ⟨rfl, rfl, rfl, rfl⟩ := h
        intro E g a w nu C mu D V0 hn R
        obtain ⟨rfl, rfl⟩ := aop_pure_same (P := P) hpu ho hT R hob
        exact AAny.pure hT hi hk hw hpu ho hob k E g a w nu C mu D V0 hn R
      · cases h
    · split at h
      · rename_i t x hop
        split at h
        · rename_i v ob1 hl
          split at h
          · rename_i bi off hx
            obtain ⟨hk, h⟩ := chk_some h
            simp only [Bool.and_eq_true] at hk
            simp only [Option.some.injEq, Prod.mk.injEq] at h
            obtain ⟨rfl, rfl, rfl, rfl⟩ := h
            exact AAny.load hT hi hk.1.1.1 hw hop hx hk.1.1.2 hk.1.2 hk.2 hl hob k
          · rename_i bi off hx
            obtain ⟨hk, h⟩ := chk_some h
            simp only [Bool.and_eq_true] at hk
            simp only [Option.some.injEq, Prod.mk.injEq] at h
            obtain ⟨rfl, rfl, rfl, rfl⟩ := h
            exact AAny.loadO hT hi hk.1.1.1 hw hop hx hk.1.1.2 hk.1.2 hk.2 hl hob k
          · rename_i cs hx
            obtain ⟨hk, h⟩ := chk_some h
            simp only [Bool.and_eq_true] at hk
            simp only [Option.some.injEq, Prod.mk.injEq] at h
            obtain ⟨rfl, rfl, rfl, rfl⟩ := h
            exact AAny.loadD hT hi hk.1 hw hop hx hk.2 hl hob k
          · cases h
        · cases h
      · split at h
        · rename_i v fr1 σ1 ob1 ho
          obtain ⟨hk, h⟩ := chk_some h
          simp only [Bool.and_eq_true] at hk
          simp only [Option.some.injEq, Prod.mk.injEq] at h
          obtain ⟨rfl, rfl, rfl, rfl⟩ := h
          exact AAny.one hT (hp o.dst) hi (of_decide_eq_true hk.1.1.1) hk.1.1.2 hk.1.2 hw ho hob k hk.2
        · cases h

def qrun (T : Tab) (hp : Option Nat → Bool) (nt : Nat) (ops : Array Oper) (st : List (Nat × Nat)) (nb : Nat) (sc : List Nat) (no : Nat) : List Nat → Bool → Array Bool → Fr → St → Option (Bool × Array Bool × Fr × St × Prop)
  | [], fz, l, fr, σ => some (fz, l, fr, σ, True)
  | i :: r, fz, l, fr, σ =>
    match qstep T hp nt ops st nb sc no fz l fr σ i with
    | none => none
    | some (fz', fr', σ', ob) =>
      match qrun T hp nt ops st nb sc no r fz' (l.setIfInBounds i true) fr' σ' with
      | none => none
      | some (z, l', f, s, ob') => some (z, l', f, s, ob ∧ ob')

def qrunK (T : Tab) (hp : Option Nat → Bool) (nt : Nat) (ops : Array Oper) (st : List (Nat × Nat)) (nb : Nat) (sc : List Nat) (no : Nat) (is : List Nat) (ks : List Nat) (fz : Bool) (l : Array Bool) (fr : Fr) (σ : St) : Option (Bool × Array Bool × Fr × St × Prop) :=
  match qrun T hp nt ops st nb sc no is fz l fr σ with
  | none => none
  | some (z, l', f, s, ob) => some (z, l', { f with sl := keep f.sl ks }, s, ob)

theorem AAny.weak {ops : Array Oper} {st : List (Nat × Nat)} {sc : List Nat} {nb no fuel : Nat} {fz : Bool} {listed : Array Bool} (ks : List Nat) (h : AAny P nt ops st nb sc no fz fuel listed Q { fr with sl := keep fr.sl ks } σ) : AAny P nt ops st nb sc no fz fuel listed Q fr σ :=
  fun E g a w nu C mu D V0 hn R => h E g a w nu C mu D V0 hn (R.weak _ fun k => look_keep fr.sl ks k)

theorem AAny.run_all (hT : TabOK P T) (hp : Option Nat → Bool) {ops : Array Oper} {st : List (Nat × Nat)} {sc : List Nat} {nb no : Nat} : ∀ (is : List Nat) {fuel : Nat} {fz fz' : Bool} {l l' : Array Bool} {fr fr' : Fr} {σ σ' : St} {ob : Prop}, qrun T hp nt ops st nb sc no is fz l fr σ = some (fz', l', fr', σ', ob) → ob →
    AAny P nt ops st nb sc no fz' fuel l' Q fr' σ' → AAny P nt ops st nb sc no fz (fuel + is.length) l Q fr σ
  | [], fuel, fz, fz', l, l', fr, fr', σ, σ', ob, h, _, k => by
    simp only [qrun, Option.some.injEq, Prod.mk.injEq] at h
    obtain ⟨rfl, rfl, rfl, rfl, rfl⟩ := h
    exact k
  | i :: r, fuel, fz, fz', l, l', fr, fr', σ, σ', ob, h, hob, k => by
    simp only [qrun] at h
    split at h
    · cases h
    rename_i fz1 fr1 σ1 ob1 hs
    split at h
    · cases h
    rename_i z l2 f s ob2 hr
    simp only [Option.some.injEq, Prod.mk.injEq] at h
    obtain ⟨rfl, rfl, rfl, rfl, rfl⟩ := h
    exact AAny.step hT hp hs hob.1 (AAny.run_all hT hp r hr hob.2 k)

/-- Some operations of such a region. -/
theorem AAny.run (hT : TabOK P T) (hp : Option Nat → Bool) {ops : Array Oper} {st : List (Nat × Nat)} {sc : List Nat} {nb no fuel n : Nat} {fz fz' : Bool} {l l' : Array Bool} (is ks : List Nat) {fr' : Fr} {σ' : St} {ob : Prop} (hn : Nat.beq n (fuel + is.length) = true) (h : qrunK T hp nt ops st nb sc no is ks fz l fr σ = some (fz', l', fr', σ', ob)) (hob : ob)
    (k : AAny P nt ops st nb sc no fz' fuel l' Q fr' σ') : AAny P nt ops st nb sc no fz n l Q fr σ := by
  have hn := Nat.eq_of_beq_eq_true hn
  subst hn
  unfold qrunK at h
  split at h
  · cases h
  rename_i z l2 f s ob2 hr
  simp only [Option.some.injEq, Prod.mk.injEq] at h
  obtain ⟨rfl, rfl, rfl, rfl, rfl⟩ := h
  exact AAny.run_all hT hp is hr hob (AAny.weak ks k)

/-- The ways through a piece of code meet again. -/
@[reducible] def meetQ (F : Fr) (S : St) (Q : APost) : APost
  | .normal, fr, σ => fr = F ∧ σ = S
  | e, fr, σ => Q e fr σ

theorem ACode.meet {c : Code} (F : Fr) (S : St) (h : ACode P nt c (meetQ F S Q) fr σ) (k : Q .normal F S) : ACode P nt c Q fr σ :=
  h.mono fun ax fr σ hq => by
    cases ax with
    | normal => obtain ⟨h1, h2⟩ := hq; subst h1; subst h2; exact k
    | _ => exact hq

/-- Some operations of a region. -/
theorem AOps.runN (hT : TabOK P T) (hp : Option Nat → Bool) {ops : Array Oper} {l : List Oper} (n : Nat) (ks : List Nat) {fr' : Fr} {σ' : St} {ob : Prop} (h : arunK T hp nt ops (l.take n) ks fr σ = some (fr', σ', ob)) (hob : ob) (k : AOps P nt ops (l.drop n) Q fr' σ') :
    AOps P nt ops l Q fr σ := AOps.run hT hp n ks (List.take_append_drop n l).symm h hob k

/-- Less is said of what comes back. -/
theorem ACalls.conv {f : FuncId} {args : List AV} {R R' : AEnd → St → Prop} (h : ACalls P f args σ R) (hc : ∀ e s, R e s → ∃ e', R' e' s ∧ ∀ V x, EndR V e x → EndR V e' x) : ACalls P f args σ R' :=
  fun V vs hH hv => (h V vs hH hv).mono fun e w' ⟨ae, V', s, h1, h2, h3, h4, h5⟩ => let ⟨e', k1, k2⟩ := hc ae s h1; ⟨e', V', s, k1, h2, h3, h4, k2 V' e h5⟩

end
end Go.AE

/- What the lexer computes, in plain Lean. -/
set_option linter.unusedVariables false
namespace Go.AE

def letterS (c : Int) : Bool := c == 95 || (decide (c ≥ 97) && decide (c ≤ 122)) || (decide (c ≥ 65) && decide (c ≤ 90))
def digitS (c : Int) : Bool := decide (c ≥ 48) && decide (c ≤ 57)
def wordS (c : Int) : Bool := letterS c || digitS c
def letterB (b : UInt8) : Bool := letterS (b.toNat : Int)
def digitB (b : UInt8) : Bool := digitS (b.toNat : Int)
def wordB (b : UInt8) : Bool := letterB b || digitB b

structure Tok where
  kind : Int
  text : List UInt8
  n : Int
  line : Int
  col : Int
deriving DecidableEq, Inhabited

def tokAV (t : Tok) : List AV := [.int .i64 t.kind, .str t.text, .int .u64 t.n, .int .i64 t.line, .int .i64 t.col]
def toksAV : List Tok → List AV
  | [] => []
  | t :: l => tokAV t ++ toksAV l

theorem toksAV_length : ∀ (l : List Tok), (toksAV l).length = 5 * l.length
  | [] => rfl
  | t :: l => by simp only [toksAV, List.length_append, toksAV_length l, List.length_cons, tokAV, List.length_nil]; omega

theorem toksAV_at : ∀ (l : List Tok) (j : Nat), j < l.length → ((toksAV l).drop (j * 5)).take 5 = tokAV (l.getD j default)
  | [], j, h => by simp at h
  | t :: l, 0, h => by simp [toksAV, tokAV]
  | t :: l, j + 1, h => by
    have := toksAV_at l j (by simpa using h)
    rw [show (j + 1) * 5 = 5 + j * 5 from by omega, ← List.drop_drop]
    simpa [toksAV, tokAV] using this

theorem toksAV_append (a b : List Tok) : toksAV (a ++ b) = toksAV a ++ toksAV b := by
  induction a with
  | nil => rfl
  | cons t a ih => simp [toksAV, ih]

/-- What is left of a text, and where that begins. -/
structure Rd where
  rest : List UInt8
  line : Int
  col : Int

def rdAV (r : Rd) : List AV := [.str r.rest, .int .i64 r.line, .int .i64 r.col]

def advL (l : Int) : List UInt8 → Int
  | [] => l
  | b :: s => advL (if b = 10 then l + 1 else l) s
def advC (c : Int) : List UInt8 → Int
  | [] => c
  | b :: s => advC (if b = 10 then 1 else c + 1) s

def skipS (n : Nat) (r : Rd) : Rd := ⟨r.rest.drop n, advL r.line (r.rest.take n), advC r.col (r.rest.take n)⟩

theorem advL_append (l : Int) (a b : List UInt8) : advL l (a ++ b) = advL (advL l a) b := by
  induction a generalizing l with
  | nil => rfl
  | cons x a ih => simp [advL, ih]
theorem advC_append (c : Int) (a b : List UInt8) : advC c (a ++ b) = advC (advC c a) b := by
  induction a generalizing c with
  | nil => rfl
  | cons x a ih => simp [advC, ih]

theorem advL_le (l : Int) (a : List UInt8) : l ≤ advL l a ∧ advL l a ≤ l + a.length := by
  induction a generalizing l with
  | nil => simp [advL]
  | cons x a ih =>
    have := ih (if x = 10 then l + 1 else l)
    simp only [advL, List.length_cons]
    split at this <;> rename_i h <;> simp only [h, if_true, if_false] at * <;> omega
theorem advC_le (c : Int) (hc : 1 ≤ c) (a : List UInt8) : 1 ≤ advC c a ∧ advC c a ≤ c + a.length := by
  induction a generalizing c with
  | nil => simp [advC]; exact hc
  | cons x a ih =>
    simp only [advC, List.length_cons]
    split
    · have := ih 1 (by omega); omega
    · have := ih (c + 1) (by omega); omega

theorem bytesAV_at (X : List UInt8) (J : Nat) (h : J < X.length) : ((bytesAV X).drop (J * 1)).take 1 = [.int .u8 ((X.getD J 0).toNat : Int)] := by
  rw [Nat.mul_one, List.take_one, List.head?_drop, bytesAV, List.getElem?_map, List.getElem?_eq_getElem h]
  simp [List.getD, h]

theorem bytesAV_length (X : List UInt8) : (bytesAV X).length = X.length := by simp [bytesAV]

theorem take_succ_getD (s : List UInt8) (i : Nat) (h : i < s.length) : s.take (i + 1) = s.take i ++ [s.getD i 0] := by
  rw [List.take_add_one, List.getElem?_eq_getElem h]; simp [List.getD, h]

theorem advL_succ (l : Int) (s : List UInt8) (i : Nat) (h : i < s.length) : advL l (s.take (i + 1)) = if s.getD i 0 = 10 then advL l (s.take i) + 1 else advL l (s.take i) := by
  rw [take_succ_getD s i h, advL_append]; rfl
theorem advC_succ (c : Int) (s : List UInt8) (i : Nat) (h : i < s.length) : advC c (s.take (i + 1)) = if s.getD i 0 = 10 then 1 else advC c (s.take i) + 1 := by
  rw [take_succ_getD s i h, advC_append]; rfl

/-- How many letters at the beginning are such, rune by rune. -/
def runF (p : Int → Bool) (s : List UInt8) (i : Nat) : Nat :=
  if h : i < s.length then (if p ((dec s i).1 : Int) then runF p s (i + max 1 (dec s i).2) else i) else s.length
termination_by s.length - i

theorem byte_ten {b : UInt8} : ((b.toNat : Int) == 10) = decide (b = 10) := by
  rw [Bool.eq_iff_iff]
  simp only [beq_iff_eq, decide_eq_true_eq]
  constructor
  · intro h; apply UInt8.toNat_inj.1; have : b.toNat = 10 := by omega
    rw [this]; rfl
  · intro h; subst h; rfl

theorem dec_pos (s : List UInt8) (i : Nat) (h : i < s.length) : 1 ≤ (dec s i).2 := by
  unfold dec Utf8.decode
  dsimp only
  repeat' split
  all_goals simp

/-! ### numbers -/
def lowerI (c : Int) : Int := IntKind.u8.wrap (BitVec.ofInt 8 c ||| BitVec.ofInt 8 32).toNat
def digV (c : Int) : Option Int :=
  if 48 ≤ c ∧ c ≤ 57 then some (c - 48) else if 97 ≤ lowerI c ∧ lowerI c ≤ 122 then some (lowerI c - 97 + 10) else none
/-- What strconv.ParseUint makes of digits: the number, and whether it is one. -/
def puF (base cut mx : Int) : List UInt8 → Int → Int × Bool
  | [], n => (n, true)
  | c :: s, n =>
    match digV (c.toNat : Int) with
    | none => (0, false)
    | some d => if d ≥ base then (0, false) else if n ≥ cut then (mx, false) else if n * base + d > mx then (mx, false) else puF base cut mx s (n * base + d)
def puS (base cut mx : Int) (s : List UInt8) : Int × Bool := if s = [] then (0, false) else puF base cut mx s 0

theorem puF_at (base cut mx : Int) (s : List UInt8) (i : Nat) (n : Int) (h : i < s.length) : puF base cut mx (s.drop i) n =
    match digV ((s.getD i 0).toNat : Int) with
    | none => (0, false)
    | some d => if d ≥ base then (0, false) else if n ≥ cut then (mx, false) else if n * base + d > mx then (mx, false) else puF base cut mx (s.drop (i + 1)) (n * base + d) := by
  rw [List.drop_eq_getElem_cons h]
  simp [puF, List.getD, h]

theorem byte_bd (b : UInt8) : 0 ≤ (b.toNat : Int) ∧ (b.toNat : Int) < 256 := by
  have := b.toNat_lt; omega

theorem puF_end (base cut mx : Int) (s : List UInt8) (i : Nat) (n : Int) (h : s.length ≤ i) : puF base cut mx (s.drop i) n = (n, true) := by
  rw [List.drop_eq_nil_of_le h]; rfl

theorem puF_bd (base cut mx : Int) (hb : 0 ≤ base) (hm : 0 ≤ mx) : ∀ (s : List UInt8) (n : Int), 0 ≤ n → n ≤ mx → 0 ≤ (puF base cut mx s n).1 ∧ (puF base cut mx s n).1 ≤ mx
  | [], n, h0, h1 => ⟨h0, h1⟩
  | c :: s, n, h0, h1 => by
    simp only [puF]
    cases hd : digV (c.toNat : Int) with
    | none => exact ⟨Int.le_refl _, hm⟩
    | some d =>
      have hd0 : 0 ≤ d := by
        unfold digV at hd
        split at hd
        · injection hd with hd; omega
        · split at hd
          · injection hd with hd; omega
          · cases hd
      simp only
      split
      · exact ⟨Int.le_refl _, hm⟩
      · split
        · exact ⟨hm, Int.le_refl _⟩
        · split
          · exact ⟨hm, Int.le_refl _⟩
          · exact puF_bd base cut mx hb hm s _ (by have := Int.mul_nonneg h0 hb; omega) (by omega)
theorem puS_bd (base cut mx : Int) (hb : 0 ≤ base) (hm : 0 ≤ mx) (s : List UInt8) : 0 ≤ (puS base cut mx s).1 ∧ (puS base cut mx s).1 ≤ mx := by
  unfold puS
  split
  · exact ⟨Int.le_refl _, hm⟩
  · exact puF_bd base cut mx hb hm s 0 (Int.le_refl _) hm

/-! ### the reader -/
def RdOK (r : Rd) : Prop := 1 ≤ r.line ∧ 1 ≤ r.col ∧ r.line + r.rest.length ≤ 1000000 ∧ r.col + r.rest.length ≤ 1000000 ∧ r.rest.length ≤ 8192

theorem skipS_ok {r : Rd} {n : Nat} (h : RdOK r) (hn : n ≤ r.rest.length) : RdOK (skipS n r) := by
  obtain ⟨h1, h2, h3, h4, h5⟩ := h
  have a := advL_le r.line (r.rest.take n)
  have b := advC_le r.col h2 (r.rest.take n)
  simp only [List.length_take] at a b
  refine ⟨?_, ?_, ?_, ?_, ?_⟩ <;> simp only [skipS, List.length_drop] <;> omega

theorem runF_le (p : Int → Bool) (s : List UInt8) (i : Nat) (h : i ≤ s.length) : runF p s i ≤ s.length := by
  unfold runF
  split
  · split
    · rename_i hi _
      by_cases h9 : i + max 1 (dec s i).2 ≤ s.length
      · exact runF_le p s _ h9
      · rw [runF, dif_neg (by omega)]; exact Nat.le_refl _
    · exact h
  · exact Nat.le_refl _
termination_by s.length - i

def blankB (b : UInt8) : Bool := decide (0 ≤ Lib.indexByte [32, 9, 13, 10] b)
def lineN (l : List UInt8) : Nat := (l.takeWhile (fun b => b != 10)).length
def wordN (l : List UInt8) : Nat := (l.takeWhile wordB).length

def blankF : Nat → Rd → Rd
  | 0, r => r
  | k + 1, r =>
    if r.rest = [] then r
    else if [47, 47].isPrefixOf r.rest then blankF k (skipS (lineN r.rest) r)
    else if blankB (r.rest.getD 0 0) then blankF k (skipS 1 r) else r
def blankS (r : Rd) : Rd := blankF r.rest.length r

theorem dec_ascii (s : List UInt8) (i : Nat) (h : i < s.length) (ha : (s.getD i 0).toNat < 128) : dec s i = ((s.getD i 0).toNat, 1) := by
  have e : s.getD i 0 = s[i] := by simp [List.getD, h]
  rw [e] at ha ⊢
  exact decode_ascii ⟨s.toArray⟩ i h ha

theorem lineN_pos {l : List UInt8} (h : [47, 47].isPrefixOf l = true) : 1 ≤ lineN l := by
  obtain ⟨t, rfl⟩ := List.isPrefixOf_iff_prefix.1 h
  simp [lineN]

theorem takeWhile_le (p : UInt8 → Bool) (l : List UInt8) : (l.takeWhile p).length ≤ l.length := by
  induction l with
  | nil => simp
  | cons b l ih => rw [List.takeWhile_cons]; split <;> simp; omega

/-! ### names, words, tokens -/
def wordsB : List UInt8 := [32, 114, 101, 99, 111, 114, 100, 32, 103, 108, 111, 98, 97, 108, 32, 102, 117, 110, 32, 116, 104, 114, 101, 97, 100, 32, 108, 101, 116, 32, 118, 97, 114, 32, 115, 101, 116, 32, 112, 114, 105, 110, 116, 32, 105, 102, 32, 101, 108, 115, 101, 32, 108, 111, 111, 112, 32, 98, 114, 101, 97, 107, 32, 99, 111, 110, 116, 105, 110, 117, 101, 32, 97, 116, 111, 109, 105, 99, 32, 99, 97, 108, 108, 32, 108, 111, 97, 100, 32, 110, 101, 119, 32, 115, 105, 122, 101, 32, 105, 110, 116, 32, 114, 101, 97, 108, 32, 105, 110, 116, 115, 32, 110, 105, 108, 32, 105, 110, 112, 117, 116, 32, 116, 114, 117, 110, 99, 32]
def isWordS (s : List UInt8) : Bool := (!(s == [])) && (!(decide (0 ≤ Lib.indexByte s 32))) && Lib.contains wordsB (([32] ++ s) ++ [32])

def nameF (s : List UInt8) (i : Nat) : Bool :=
  if h : i < s.length then (if (!letterS ((dec s i).1 : Int)) && (((i : Int) == 0) || (!digitS ((dec s i).1 : Int))) then false else nameF s (i + max 1 (dec s i).2)) else true
termination_by s.length - i
def nameC : List UInt8 → Bool
  | [] => true
  | b :: r => letterB b && r.all wordB
def isNameS (s : List UInt8) : Bool := nameC s && ((!(s == [])) && (!isWordS s))

def pu10 (s : List UInt8) : Int × Bool := puS 10 1844674407370955162 9223372036854775807 s
def pu16 (s : List UInt8) : Int × Bool := puS 16 1152921504606846976 18446744073709551615 s

def wordT (r : Rd) : Tok × Bool :=
  let s := r.rest.take (wordN r.rest)
  if isWordS s then (⟨2, s, 0, r.line, r.col⟩, true)
  else if isNameS s then (⟨1, s, 0, r.line, r.col⟩, true)
  else (⟨3, s, (pu10 s).1, r.line, r.col⟩, (pu10 s).2 && (Lib.decDigits (pu10 s).1.toNat == s))

def realText (r : Rd) : List UInt8 := [35] ++ (r.rest.drop 1).take (wordN (r.rest.drop 1))
def realT (r : Rd) : Tok × Bool :=
  (⟨4, realText r, (pu16 ((realText r).drop 1)).1, r.line, r.col⟩, (pu16 ((realText r).drop 1)).2 && ((((realText r).length : Int) == 17) && (!Lib.containsAny (realText r) [65, 66, 67, 68, 69, 70])))
def realR (r : Rd) : Rd := skipS (wordN (r.rest.drop 1)) (skipS 1 r)

def twoB (l : List UInt8) : Bool := [61, 61].isPrefixOf l || ([33, 61].isPrefixOf l || [60, 61].isPrefixOf l)
def signB (b : UInt8) : Bool := !(decide (Lib.indexByte [123, 125, 40, 41, 91, 93, 59, 58, 44, 46, 61, 60, 43, 45, 42, 47, 37] b < 0))
def signT (r : Rd) : Tok × Bool :=
  if twoB r.rest then (⟨5, r.rest.take 2, 0, r.line, r.col⟩, true)
  else if signB (r.rest.getD 0 0) then (⟨5, r.rest.take 1, 0, r.line, r.col⟩, true)
  else (⟨5, [], 0, r.line, r.col⟩, false)
def signR (r : Rd) : Rd := if twoB r.rest then skipS 2 r else if signB (r.rest.getD 0 0) then skipS 1 r else r

def nextT (r : Rd) : Tok × Bool :=
  if wordB (r.rest.getD 0 0) then wordT r else if (r.rest.getD 0 0) = 35 then realT r else signT r
def nextR (r : Rd) : Rd :=
  if wordB (r.rest.getD 0 0) then skipS (wordN r.rest) r else if (r.rest.getD 0 0) = 35 then realR r else signR r

end Go.AE

