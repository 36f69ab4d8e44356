/- A symbolic machine for the model's code, and what it shows of this seat's functions. No conditions. -/
import Derived.Test.YtnofmeckcimodaaFTyF
import Derived.Test.YtnofmeckcimodaaProg
set_option linter.unusedSimpArgs false
set_option linter.unusedVariables false
namespace Go.BB
open Go Go.Proofs
set_option maxRecDepth 100000
def tys : List (Nat × Option Ty) := [(2, some (.int .i64)), (3, some (.int .i64)), (4, some (.bool)), (5, some (.int .u8)), (9, some (.str)), (13, none), (22, some (.slice (.int .i64))), (24, some (.slice (tCell))), (26, none), (28, some (.int .u64)), (29, none), (30, some (tKey)), (31, some (.int .u16)), (32, none), (33, some (tCell)), (35, some (.int .i64)), (38, some (.pair (tCell) (.pair (tCell) (.pair (tCell) (.pair (tCell) (.pair (tCell) (.unit))))))), (43, some (.pair (.int .u16) (.pair (.int .u16) (.pair (.int .u16) (.pair (.int .u16) (.pair (.int .u16) (.pair (.int .u16) (.pair (.int .u16) (.pair (.int .u16) (.pair (.int .u16) (.pair (.int .u16) (.pair (.int .u16) (.pair (.int .u16) (.pair (.int .u16) (.pair (.int .u16) (.pair (.int .u16) (.pair (.int .u16) (.unit)))))))))))))))))), (49, none), (51, some (.slice (tRow))), (52, none), (53, none), (58, some (.slice (tDeed))), (59, some (.slice (tDeed))), (65, some (.slice (tStep))), (66, none), (67, some (tDeed)), (68, some (.slice (tStep))), (69, none), (70, some (tDeed)), (72, some (.pair (.bool) (.pair (.bool) (.pair (.bool) (.pair (.bool) (.pair (.bool) (.pair (.bool) (.pair (.bool) (.pair (.bool) (.pair (.bool) (.pair (.bool) (.pair (.bool) (.pair (.bool) (.pair (.bool) (.pair (.bool) (.pair (.bool) (.pair (.bool) (.pair (.bool) (.pair (.bool) (.pair (.bool) (.pair (.bool) (.unit)))))))))))))))))))))), (74, some (.slice (.bool))), (75, some (.slice (.int .u16))), (76, none), (77, some (tAsk)), (78, none), (80, none), (81, none), (82, none), (85, some (.slice (tObj))), (86, none), (87, some (tTell)), (98, some (.slice (tSpan))), (101, none), (102, some (tSpan)), (107, none), (108, some (tStep)), (109, some (tStep)), (111, none), (112, none), (113, none), (115, some (.slice (tVer))), (116, none), (117, some (tVer)), (126, some (tRow)), (127, some (tRow)), (138, none), (139, none), (140, none), (153, none), (154, some (tObj)), (159, none), (166, none), (167, none), (174, some (.slice (.slice (tSpan)))), (180, some (.int .u64)), (183, some (.pair (.int .i64) (.pair (.int .i64) (.pair (.int .i64) (.pair (.int .i64) (.pair (.int .i64) (.pair (.int .i64) (.pair (.int .i64) (.pair (.int .i64) (.pair (.int .i64) (.pair (.int .i64) (.pair (.int .i64) (.unit))))))))))))), (188, none), (189, some (tPlain)), (202, none)]
def tt : List (Nat × TI) := [(2, { ty := some (Ty.int IntKind.i64), agg := false, size := 1, bytes := 8, zero := [Value.int IntKind.i64 (Int.ofNat 0)], eq := false, key := true, sub := Sub.other }),
  (3, { ty := some (Ty.int IntKind.i64), agg := false, size := 1, bytes := 8, zero := [Value.int IntKind.i64 (Int.ofNat 0)], eq := false, key := true, sub := Sub.other }),
  (4, { ty := some Ty.bool, agg := false, size := 1, bytes := 1, zero := [Value.bool false], eq := false, key := true, sub := Sub.other }),
  (5, { ty := some (Ty.int IntKind.u8), agg := false, size := 1, bytes := 1, zero := [Value.int IntKind.u8 (Int.ofNat 0)], eq := false, key := true, sub := Sub.other }),
  (9, { ty := some Ty.str, agg := false, size := 1, bytes := 16, zero := [Value.string { data := { toList := [] } }], eq := false, key := true, sub := Sub.other }),
  (13, { ty := none, agg := true, size := 2, bytes := 24, zero := [Value.string { data := { toList := [] } }, Value.int IntKind.u64 (Int.ofNat 0)], eq := false, key := false, sub := Sub.struct [(9, 0), (12, 1)] }),
  (22, { ty := some (Ty.int IntKind.i64).slice, agg := false, size := 1, bytes := 24, zero := [Value.slice none 0 0], eq := false, key := false, sub := Sub.slice 3 }),
  (24, { ty := some (((Ty.int IntKind.i64).pair (Ty.int IntKind.i64)).pair (Ty.int IntKind.u16)).slice, agg := false, size := 1, bytes := 24, zero := [Value.slice none 0 0], eq := false, key := false, sub := Sub.slice 33 }),
  (26, { ty := none, agg := false, size := 1, bytes := 8, zero := [Value.pointer none], eq := false, key := false, sub := Sub.ptr 113 }),
  (28, { ty := some (Ty.int IntKind.u64), agg := false, size := 1, bytes := 8, zero := [Value.int IntKind.u64 (Int.ofNat 0)], eq := false, key := true, sub := Sub.other }),
  (29, { ty := none, agg := true, size := 2, bytes := 16, zero := [Value.int IntKind.i64 (Int.ofNat 0), Value.int IntKind.i64 (Int.ofNat 0)], eq := false, key := false, sub := Sub.struct [(3, 0), (3, 1)] }),
  (30, { ty := some ((Ty.int IntKind.i64).pair (Ty.int IntKind.i64)), agg := true, size := 2, bytes := 16, zero := [Value.int IntKind.i64 (Int.ofNat 0), Value.int IntKind.i64 (Int.ofNat 0)], eq := true, key := true, sub := Sub.struct [(3, 0), (3, 1)] }),
  (31, { ty := some (Ty.int IntKind.u16), agg := false, size := 1, bytes := 2, zero := [Value.int IntKind.u16 (Int.ofNat 0)], eq := false, key := true, sub := Sub.other }),
  (32, { ty := none, agg := true, size := 3, bytes := 24, zero := [Value.int IntKind.i64 (Int.ofNat 0), Value.int IntKind.i64 (Int.ofNat 0), Value.int IntKind.u16 (Int.ofNat 0)], eq := false, key := false, sub := Sub.struct [(30, 0), (31, 2)] }),
  (33, { ty := some (((Ty.int IntKind.i64).pair (Ty.int IntKind.i64)).pair (Ty.int IntKind.u16)), agg := true, size := 3, bytes := 24, zero := [Value.int IntKind.i64 (Int.ofNat 0), Value.int IntKind.i64 (Int.ofNat 0), Value.int IntKind.u16 (Int.ofNat 0)], eq := true, key := true, sub := Sub.struct [(30, 0), (31, 2)] }),
  (35, { ty := some (Ty.int IntKind.i64), agg := false, size := 1, bytes := 8, zero := [Value.int IntKind.i64 (Int.ofNat 0)], eq := false, key := true, sub := Sub.other }),
  (38, { ty := some ((((Ty.int IntKind.i64).pair (Ty.int IntKind.i64)).pair (Ty.int IntKind.u16)).pair ((((Ty.int IntKind.i64).pair (Ty.int IntKind.i64)).pair (Ty.int IntKind.u16)).pair ((((Ty.int IntKind.i64).pair (Ty.int IntKind.i64)).pair (Ty.int IntKind.u16)).pair ((((Ty.int IntKind.i64).pair (Ty.int IntKind.i64)).pair (Ty.int IntKind.u16)).pair ((((Ty.int IntKind.i64).pair (Ty.int IntKind.i64)).pair (Ty.int IntKind.u16)).pair Ty.unit))))), agg := true, size := 15, bytes := 120, zero := [Value.int IntKind.i64 (Int.ofNat 0), Value.int IntKind.i64 (Int.ofNat 0), Value.int IntKind.u16 (Int.ofNat 0), Value.int IntKind.i64 (Int.ofNat 0), Value.int IntKind.i64 (Int.ofNat 0), Value.int IntKind.u16 (Int.ofNat 0), Value.int IntKind.i64 (Int.ofNat 0), Value.int IntKind.i64 (Int.ofNat 0), Value.int IntKind.u16 (Int.ofNat 0), Value.int IntKind.i64 (Int.ofNat 0), Value.int IntKind.i64 (Int.ofNat 0), Value.int IntKind.u16 (Int.ofNat 0), Value.int IntKind.i64 (Int.ofNat 0), Value.int IntKind.i64 (Int.ofNat 0), Value.int IntKind.u16 (Int.ofNat 0)], eq := true, key := false, sub := Sub.arr 5 33 }),
  (43, { ty := some ((Ty.int IntKind.u16).pair ((Ty.int IntKind.u16).pair ((Ty.int IntKind.u16).pair ((Ty.int IntKind.u16).pair ((Ty.int IntKind.u16).pair ((Ty.int IntKind.u16).pair ((Ty.int IntKind.u16).pair ((Ty.int IntKind.u16).pair ((Ty.int IntKind.u16).pair ((Ty.int IntKind.u16).pair ((Ty.int IntKind.u16).pair ((Ty.int IntKind.u16).pair ((Ty.int IntKind.u16).pair ((Ty.int IntKind.u16).pair ((Ty.int IntKind.u16).pair ((Ty.int IntKind.u16).pair Ty.unit)))))))))))))))), agg := true, size := 16, bytes := 32, zero := [Value.int IntKind.u16 (Int.ofNat 0), Value.int IntKind.u16 (Int.ofNat 0), Value.int IntKind.u16 (Int.ofNat 0), Value.int IntKind.u16 (Int.ofNat 0), Value.int IntKind.u16 (Int.ofNat 0), Value.int IntKind.u16 (Int.ofNat 0), Value.int IntKind.u16 (Int.ofNat 0), Value.int IntKind.u16 (Int.ofNat 0), Value.int IntKind.u16 (Int.ofNat 0), Value.int IntKind.u16 (Int.ofNat 0), Value.int IntKind.u16 (Int.ofNat 0), Value.int IntKind.u16 (Int.ofNat 0), Value.int IntKind.u16 (Int.ofNat 0), Value.int IntKind.u16 (Int.ofNat 0), Value.int IntKind.u16 (Int.ofNat 0), Value.int IntKind.u16 (Int.ofNat 0)], eq := true, key := false, sub := Sub.arr 16 31 }),
  (49, { ty := none, agg := false, size := 1, bytes := 8, zero := [Value.pointer none], eq := false, key := false, sub := Sub.ptr 53 }),
  (51, { ty := some (((Ty.int IntKind.i64).pair (Ty.int IntKind.i64)).pair ((Ty.int IntKind.u64).pair (Ty.int IntKind.u16)).slice).slice, agg := false, size := 1, bytes := 24, zero := [Value.slice none 0 0], eq := false, key := false, sub := Sub.slice 127 }),
  (52, { ty := none, agg := true, size := 3, bytes := 40, zero := [Value.int IntKind.u64 (Int.ofNat 0), Value.int IntKind.i64 (Int.ofNat 0), Value.slice none 0 0], eq := false, key := false, sub := Sub.struct [(28, 0), (3, 1), (51, 2)] }),
  (53, { ty := none, agg := true, size := 3, bytes := 40, zero := [Value.int IntKind.u64 (Int.ofNat 0), Value.int IntKind.i64 (Int.ofNat 0), Value.slice none 0 0], eq := false, key := false, sub := Sub.struct [(28, 0), (3, 1), (51, 2)] }),
  (58, { ty := some (Ty.bool.pair ((Ty.int IntKind.u64).pair ((((Ty.int IntKind.i64).pair ((Ty.int IntKind.i64).pair ((Ty.int IntKind.i64).pair ((Ty.int IntKind.u16).pair ((Ty.int IntKind.u16).pair ((Ty.int IntKind.u16).pair (Ty.bool.slice.pair ((Ty.int IntKind.u16).slice.pair ((Ty.int IntKind.i64).pair ((Ty.int IntKind.i64).pair ((Ty.int IntKind.i64).pair (Ty.int IntKind.i64)))))))))))).pair ((Ty.int IntKind.i64).pair ((Ty.int IntKind.i64).pair (Ty.bool.slice.pair ((Ty.int IntKind.u16).slice.pair ((Ty.int IntKind.i64).pair ((Ty.int IntKind.i64).pair ((Ty.int IntKind.u16).pair ((Ty.int IntKind.u16).pair ((Ty.int IntKind.u16).pair ((Ty.int IntKind.i64).pair ((Ty.int IntKind.i64).pair (Ty.bool.pair ((Ty.int IntKind.i64).pair ((Ty.int IntKind.i64).pair Ty.str).slice)))))))))))))).slice.pair (((Ty.int IntKind.i64).pair (Ty.int IntKind.i64)).pair (Ty.int IntKind.u16)).slice))).slice, agg := false, size := 1, bytes := 24, zero := [Value.slice none 0 0], eq := false, key := false, sub := Sub.slice 67 }),
  (59, { ty := some (Ty.bool.pair ((Ty.int IntKind.u64).pair ((((Ty.int IntKind.i64).pair ((Ty.int IntKind.i64).pair ((Ty.int IntKind.i64).pair ((Ty.int IntKind.u16).pair ((Ty.int IntKind.u16).pair ((Ty.int IntKind.u16).pair (Ty.bool.slice.pair ((Ty.int IntKind.u16).slice.pair ((Ty.int IntKind.i64).pair ((Ty.int IntKind.i64).pair ((Ty.int IntKind.i64).pair (Ty.int IntKind.i64)))))))))))).pair ((Ty.int IntKind.i64).pair ((Ty.int IntKind.i64).pair (Ty.bool.slice.pair ((Ty.int IntKind.u16).slice.pair ((Ty.int IntKind.i64).pair ((Ty.int IntKind.i64).pair ((Ty.int IntKind.u16).pair ((Ty.int IntKind.u16).pair ((Ty.int IntKind.u16).pair ((Ty.int IntKind.i64).pair ((Ty.int IntKind.i64).pair (Ty.bool.pair ((Ty.int IntKind.i64).pair ((Ty.int IntKind.i64).pair Ty.str).slice)))))))))))))).slice.pair (((Ty.int IntKind.i64).pair (Ty.int IntKind.i64)).pair (Ty.int IntKind.u16)).slice))).slice, agg := false, size := 1, bytes := 24, zero := [Value.slice none 0 0], eq := false, key := false, sub := Sub.slice 70 }),
  (65, { ty := some (((Ty.int IntKind.i64).pair ((Ty.int IntKind.i64).pair ((Ty.int IntKind.i64).pair ((Ty.int IntKind.u16).pair ((Ty.int IntKind.u16).pair ((Ty.int IntKind.u16).pair (Ty.bool.slice.pair ((Ty.int IntKind.u16).slice.pair ((Ty.int IntKind.i64).pair ((Ty.int IntKind.i64).pair ((Ty.int IntKind.i64).pair (Ty.int IntKind.i64)))))))))))).pair ((Ty.int IntKind.i64).pair ((Ty.int IntKind.i64).pair (Ty.bool.slice.pair ((Ty.int IntKind.u16).slice.pair ((Ty.int IntKind.i64).pair ((Ty.int IntKind.i64).pair ((Ty.int IntKind.u16).pair ((Ty.int IntKind.u16).pair ((Ty.int IntKind.u16).pair ((Ty.int IntKind.i64).pair ((Ty.int IntKind.i64).pair (Ty.bool.pair ((Ty.int IntKind.i64).pair ((Ty.int IntKind.i64).pair Ty.str).slice)))))))))))))).slice, agg := false, size := 1, bytes := 24, zero := [Value.slice none 0 0], eq := false, key := false, sub := Sub.slice 108 }),
  (66, { ty := none, agg := true, size := 4, bytes := 64, zero := [Value.bool false, Value.int IntKind.u64 (Int.ofNat 0), Value.slice none 0 0, Value.slice none 0 0], eq := false, key := false, sub := Sub.struct [(4, 0), (28, 1), (65, 2), (24, 3)] }),
  (67, { ty := some (Ty.bool.pair ((Ty.int IntKind.u64).pair ((((Ty.int IntKind.i64).pair ((Ty.int IntKind.i64).pair ((Ty.int IntKind.i64).pair ((Ty.int IntKind.u16).pair ((Ty.int IntKind.u16).pair ((Ty.int IntKind.u16).pair (Ty.bool.slice.pair ((Ty.int IntKind.u16).slice.pair ((Ty.int IntKind.i64).pair ((Ty.int IntKind.i64).pair ((Ty.int IntKind.i64).pair (Ty.int IntKind.i64)))))))))))).pair ((Ty.int IntKind.i64).pair ((Ty.int IntKind.i64).pair (Ty.bool.slice.pair ((Ty.int IntKind.u16).slice.pair ((Ty.int IntKind.i64).pair ((Ty.int IntKind.i64).pair ((Ty.int IntKind.u16).pair ((Ty.int IntKind.u16).pair ((Ty.int IntKind.u16).pair ((Ty.int IntKind.i64).pair ((Ty.int IntKind.i64).pair (Ty.bool.pair ((Ty.int IntKind.i64).pair ((Ty.int IntKind.i64).pair Ty.str).slice)))))))))))))).slice.pair (((Ty.int IntKind.i64).pair (Ty.int IntKind.i64)).pair (Ty.int IntKind.u16)).slice))), agg := true, size := 4, bytes := 64, zero := [Value.bool false, Value.int IntKind.u64 (Int.ofNat 0), Value.slice none 0 0, Value.slice none 0 0], eq := false, key := false, sub := Sub.struct [(4, 0), (28, 1), (65, 2), (24, 3)] }),
  (68, { ty := some (((Ty.int IntKind.i64).pair ((Ty.int IntKind.i64).pair ((Ty.int IntKind.i64).pair ((Ty.int IntKind.u16).pair ((Ty.int IntKind.u16).pair ((Ty.int IntKind.u16).pair (Ty.bool.slice.pair ((Ty.int IntKind.u16).slice.pair ((Ty.int IntKind.i64).pair ((Ty.int IntKind.i64).pair ((Ty.int IntKind.i64).pair (Ty.int IntKind.i64)))))))))))).pair ((Ty.int IntKind.i64).pair ((Ty.int IntKind.i64).pair (Ty.bool.slice.pair ((Ty.int IntKind.u16).slice.pair ((Ty.int IntKind.i64).pair ((Ty.int IntKind.i64).pair ((Ty.int IntKind.u16).pair ((Ty.int IntKind.u16).pair ((Ty.int IntKind.u16).pair ((Ty.int IntKind.i64).pair ((Ty.int IntKind.i64).pair (Ty.bool.pair ((Ty.int IntKind.i64).pair ((Ty.int IntKind.i64).pair Ty.str).slice)))))))))))))).slice, agg := false, size := 1, bytes := 24, zero := [Value.slice none 0 0], eq := false, key := false, sub := Sub.slice 109 }),
  (69, { ty := none, agg := true, size := 4, bytes := 64, zero := [Value.bool false, Value.int IntKind.u64 (Int.ofNat 0), Value.slice none 0 0, Value.slice none 0 0], eq := false, key := false, sub := Sub.struct [(4, 0), (28, 1), (68, 2), (24, 3)] }),
  (70, { ty := some (Ty.bool.pair ((Ty.int IntKind.u64).pair ((((Ty.int IntKind.i64).pair ((Ty.int IntKind.i64).pair ((Ty.int IntKind.i64).pair ((Ty.int IntKind.u16).pair ((Ty.int IntKind.u16).pair ((Ty.int IntKind.u16).pair (Ty.bool.slice.pair ((Ty.int IntKind.u16).slice.pair ((Ty.int IntKind.i64).pair ((Ty.int IntKind.i64).pair ((Ty.int IntKind.i64).pair (Ty.int IntKind.i64)))))))))))).pair ((Ty.int IntKind.i64).pair ((Ty.int IntKind.i64).pair (Ty.bool.slice.pair ((Ty.int IntKind.u16).slice.pair ((Ty.int IntKind.i64).pair ((Ty.int IntKind.i64).pair ((Ty.int IntKind.u16).pair ((Ty.int IntKind.u16).pair ((Ty.int IntKind.u16).pair ((Ty.int IntKind.i64).pair ((Ty.int IntKind.i64).pair (Ty.bool.pair ((Ty.int IntKind.i64).pair ((Ty.int IntKind.i64).pair Ty.str).slice)))))))))))))).slice.pair (((Ty.int IntKind.i64).pair (Ty.int IntKind.i64)).pair (Ty.int IntKind.u16)).slice))), agg := true, size := 4, bytes := 64, zero := [Value.bool false, Value.int IntKind.u64 (Int.ofNat 0), Value.slice none 0 0, Value.slice none 0 0], eq := false, key := false, sub := Sub.struct [(4, 0), (28, 1), (68, 2), (24, 3)] }),
  (72, { ty := some (Ty.bool.pair (Ty.bool.pair (Ty.bool.pair (Ty.bool.pair (Ty.bool.pair (Ty.bool.pair (Ty.bool.pair (Ty.bool.pair (Ty.bool.pair (Ty.bool.pair (Ty.bool.pair (Ty.bool.pair (Ty.bool.pair (Ty.bool.pair (Ty.bool.pair (Ty.bool.pair (Ty.bool.pair (Ty.bool.pair (Ty.bool.pair (Ty.bool.pair Ty.unit)))))))))))))))))))), agg := true, size := 20, bytes := 20, zero := [Value.bool false, Value.bool false, Value.bool false, Value.bool false, Value.bool false, Value.bool false, Value.bool false, Value.bool false, Value.bool false, Value.bool false, Value.bool false, Value.bool false, Value.bool false, Value.bool false, Value.bool false, Value.bool false, Value.bool false, Value.bool false, Value.bool false, Value.bool false], eq := true, key := false, sub := Sub.arr 20 4 }),
  (74, { ty := some Ty.bool.slice, agg := false, size := 1, bytes := 24, zero := [Value.slice none 0 0], eq := false, key := false, sub := Sub.slice 4 }),
  (75, { ty := some (Ty.int IntKind.u16).slice, agg := false, size := 1, bytes := 24, zero := [Value.slice none 0 0], eq := false, key := false, sub := Sub.slice 31 }),
  (76, { ty := none, agg := true, size := 12, bytes := 112, zero := [Value.int IntKind.i64 (Int.ofNat 0), Value.int IntKind.i64 (Int.ofNat 0), Value.int IntKind.i64 (Int.ofNat 0), Value.int IntKind.u16 (Int.ofNat 0), Value.int IntKind.u16 (Int.ofNat 0), Value.int IntKind.u16 (Int.ofNat 0), Value.slice none 0 0, Value.slice none 0 0, Value.int IntKind.i64 (Int.ofNat 0), Value.int IntKind.i64 (Int.ofNat 0), Value.int IntKind.i64 (Int.ofNat 0), Value.int IntKind.i64 (Int.ofNat 0)], eq := false, key := false, sub := Sub.struct [(3, 0), (3, 1), (3, 2), (31, 3), (31, 4), (31, 5), (74, 6), (75, 7), (3, 8), (3, 9), (3, 10), (3, 11)] }),
  (77, { ty := some ((Ty.int IntKind.i64).pair ((Ty.int IntKind.i64).pair ((Ty.int IntKind.i64).pair ((Ty.int IntKind.u16).pair ((Ty.int IntKind.u16).pair ((Ty.int IntKind.u16).pair (Ty.bool.slice.pair ((Ty.int IntKind.u16).slice.pair ((Ty.int IntKind.i64).pair ((Ty.int IntKind.i64).pair ((Ty.int IntKind.i64).pair (Ty.int IntKind.i64)))))))))))), agg := true, size := 12, bytes := 112, zero := [Value.int IntKind.i64 (Int.ofNat 0), Value.int IntKind.i64 (Int.ofNat 0), Value.int IntKind.i64 (Int.ofNat 0), Value.int IntKind.u16 (Int.ofNat 0), Value.int IntKind.u16 (Int.ofNat 0), Value.int IntKind.u16 (Int.ofNat 0), Value.slice none 0 0, Value.slice none 0 0, Value.int IntKind.i64 (Int.ofNat 0), Value.int IntKind.i64 (Int.ofNat 0), Value.int IntKind.i64 (Int.ofNat 0), Value.int IntKind.i64 (Int.ofNat 0)], eq := false, key := false, sub := Sub.struct [(3, 0), (3, 1), (3, 2), (31, 3), (31, 4), (31, 5), (74, 6), (75, 7), (3, 8), (3, 9), (3, 10), (3, 11)] }),
  (78, { ty := none, agg := false, size := 1, bytes := 8, zero := [Value.pointer none], eq := false, key := false, sub := Sub.ptr 140 }),
  (80, { ty := none, agg := false, size := 1, bytes := 8, zero := [Value.pointer none], eq := false, key := false, sub := Sub.ptr 82 }),
  (81, { ty := none, agg := true, size := 1, bytes := 24, zero := [Value.slice none 0 0], eq := false, key := false, sub := Sub.struct [(24, 0)] }),
  (82, { ty := none, agg := true, size := 1, bytes := 24, zero := [Value.slice none 0 0], eq := false, key := false, sub := Sub.struct [(24, 0)] }),
  (85, { ty := some ((Ty.int IntKind.i64).pair Ty.str).slice, agg := false, size := 1, bytes := 24, zero := [Value.slice none 0 0], eq := false, key := false, sub := Sub.slice 154 }),
  (86, { ty := none, agg := true, size := 14, bytes := 144, zero := [Value.int IntKind.i64 (Int.ofNat 0), Value.int IntKind.i64 (Int.ofNat 0), Value.slice none 0 0, Value.slice none 0 0, Value.int IntKind.i64 (Int.ofNat 0), Value.int IntKind.i64 (Int.ofNat 0), Value.int IntKind.u16 (Int.ofNat 0), Value.int IntKind.u16 (Int.ofNat 0), Value.int IntKind.u16 (Int.ofNat 0), Value.int IntKind.i64 (Int.ofNat 0), Value.int IntKind.i64 (Int.ofNat 0), Value.bool false, Value.int IntKind.i64 (Int.ofNat 0), Value.slice none 0 0], eq := false, key := false, sub := Sub.struct [(3, 0), (3, 1), (74, 2), (75, 3), (3, 4), (3, 5), (31, 6), (31, 7), (31, 8), (3, 9), (3, 10), (4, 11), (3, 12), (85, 13)] }),
  (87, { ty := some ((Ty.int IntKind.i64).pair ((Ty.int IntKind.i64).pair (Ty.bool.slice.pair ((Ty.int IntKind.u16).slice.pair ((Ty.int IntKind.i64).pair ((Ty.int IntKind.i64).pair ((Ty.int IntKind.u16).pair ((Ty.int IntKind.u16).pair ((Ty.int IntKind.u16).pair ((Ty.int IntKind.i64).pair ((Ty.int IntKind.i64).pair (Ty.bool.pair ((Ty.int IntKind.i64).pair ((Ty.int IntKind.i64).pair Ty.str).slice))))))))))))), agg := true, size := 14, bytes := 144, zero := [Value.int IntKind.i64 (Int.ofNat 0), Value.int IntKind.i64 (Int.ofNat 0), Value.slice none 0 0, Value.slice none 0 0, Value.int IntKind.i64 (Int.ofNat 0), Value.int IntKind.i64 (Int.ofNat 0), Value.int IntKind.u16 (Int.ofNat 0), Value.int IntKind.u16 (Int.ofNat 0), Value.int IntKind.u16 (Int.ofNat 0), Value.int IntKind.i64 (Int.ofNat 0), Value.int IntKind.i64 (Int.ofNat 0), Value.bool false, Value.int IntKind.i64 (Int.ofNat 0), Value.slice none 0 0], eq := false, key := false, sub := Sub.struct [(3, 0), (3, 1), (74, 2), (75, 3), (3, 4), (3, 5), (31, 6), (31, 7), (31, 8), (3, 9), (3, 10), (4, 11), (3, 12), (85, 13)] }),
  (98, { ty := some ((Ty.int IntKind.i64).pair ((Ty.int IntKind.i64).pair (Ty.int IntKind.i64))).slice, agg := false, size := 1, bytes := 24, zero := [Value.slice none 0 0], eq := false, key := false, sub := Sub.slice 102 }),
  (101, { ty := none, agg := true, size := 3, bytes := 24, zero := [Value.int IntKind.i64 (Int.ofNat 0), Value.int IntKind.i64 (Int.ofNat 0), Value.int IntKind.i64 (Int.ofNat 0)], eq := false, key := false, sub := Sub.struct [(3, 0), (3, 1), (3, 2)] }),
  (102, { ty := some ((Ty.int IntKind.i64).pair ((Ty.int IntKind.i64).pair (Ty.int IntKind.i64))), agg := true, size := 3, bytes := 24, zero := [Value.int IntKind.i64 (Int.ofNat 0), Value.int IntKind.i64 (Int.ofNat 0), Value.int IntKind.i64 (Int.ofNat 0)], eq := true, key := true, sub := Sub.struct [(3, 0), (3, 1), (3, 2)] }),
  (107, { ty := none, agg := true, size := 26, bytes := 256, zero := [Value.int IntKind.i64 (Int.ofNat 0), Value.int IntKind.i64 (Int.ofNat 0), Value.int IntKind.i64 (Int.ofNat 0), Value.int IntKind.u16 (Int.ofNat 0), Value.int IntKind.u16 (Int.ofNat 0), Value.int IntKind.u16 (Int.ofNat 0), Value.slice none 0 0, Value.slice none 0 0, Value.int IntKind.i64 (Int.ofNat 0), Value.int IntKind.i64 (Int.ofNat 0), Value.int IntKind.i64 (Int.ofNat 0), Value.int IntKind.i64 (Int.ofNat 0), Value.int IntKind.i64 (Int.ofNat 0), Value.int IntKind.i64 (Int.ofNat 0), Value.slice none 0 0, Value.slice none 0 0, Value.int IntKind.i64 (Int.ofNat 0), Value.int IntKind.i64 (Int.ofNat 0), Value.int IntKind.u16 (Int.ofNat 0), Value.int IntKind.u16 (Int.ofNat 0), Value.int IntKind.u16 (Int.ofNat 0), Value.int IntKind.i64 (Int.ofNat 0), Value.int IntKind.i64 (Int.ofNat 0), Value.bool false, Value.int IntKind.i64 (Int.ofNat 0), Value.slice none 0 0], eq := false, key := false, sub := Sub.struct [(77, 0), (87, 12)] }),
  (108, { ty := some (((Ty.int IntKind.i64).pair ((Ty.int IntKind.i64).pair ((Ty.int IntKind.i64).pair ((Ty.int IntKind.u16).pair ((Ty.int IntKind.u16).pair ((Ty.int IntKind.u16).pair (Ty.bool.slice.pair ((Ty.int IntKind.u16).slice.pair ((Ty.int IntKind.i64).pair ((Ty.int IntKind.i64).pair ((Ty.int IntKind.i64).pair (Ty.int IntKind.i64)))))))))))).pair ((Ty.int IntKind.i64).pair ((Ty.int IntKind.i64).pair (Ty.bool.slice.pair ((Ty.int IntKind.u16).slice.pair ((Ty.int IntKind.i64).pair ((Ty.int IntKind.i64).pair ((Ty.int IntKind.u16).pair ((Ty.int IntKind.u16).pair ((Ty.int IntKind.u16).pair ((Ty.int IntKind.i64).pair ((Ty.int IntKind.i64).pair (Ty.bool.pair ((Ty.int IntKind.i64).pair ((Ty.int IntKind.i64).pair Ty.str).slice)))))))))))))), agg := true, size := 26, bytes := 256, zero := [Value.int IntKind.i64 (Int.ofNat 0), Value.int IntKind.i64 (Int.ofNat 0), Value.int IntKind.i64 (Int.ofNat 0), Value.int IntKind.u16 (Int.ofNat 0), Value.int IntKind.u16 (Int.ofNat 0), Value.int IntKind.u16 (Int.ofNat 0), Value.slice none 0 0, Value.slice none 0 0, Value.int IntKind.i64 (Int.ofNat 0), Value.int IntKind.i64 (Int.ofNat 0), Value.int IntKind.i64 (Int.ofNat 0), Value.int IntKind.i64 (Int.ofNat 0), Value.int IntKind.i64 (Int.ofNat 0), Value.int IntKind.i64 (Int.ofNat 0), Value.slice none 0 0, Value.slice none 0 0, Value.int IntKind.i64 (Int.ofNat 0), Value.int IntKind.i64 (Int.ofNat 0), Value.int IntKind.u16 (Int.ofNat 0), Value.int IntKind.u16 (Int.ofNat 0), Value.int IntKind.u16 (Int.ofNat 0), Value.int IntKind.i64 (Int.ofNat 0), Value.int IntKind.i64 (Int.ofNat 0), Value.bool false, Value.int IntKind.i64 (Int.ofNat 0), Value.slice none 0 0], eq := false, key := false, sub := Sub.struct [(77, 0), (87, 12)] }),
  (109, { ty := some (((Ty.int IntKind.i64).pair ((Ty.int IntKind.i64).pair ((Ty.int IntKind.i64).pair ((Ty.int IntKind.u16).pair ((Ty.int IntKind.u16).pair ((Ty.int IntKind.u16).pair (Ty.bool.slice.pair ((Ty.int IntKind.u16).slice.pair ((Ty.int IntKind.i64).pair ((Ty.int IntKind.i64).pair ((Ty.int IntKind.i64).pair (Ty.int IntKind.i64)))))))))))).pair ((Ty.int IntKind.i64).pair ((Ty.int IntKind.i64).pair (Ty.bool.slice.pair ((Ty.int IntKind.u16).slice.pair ((Ty.int IntKind.i64).pair ((Ty.int IntKind.i64).pair ((Ty.int IntKind.u16).pair ((Ty.int IntKind.u16).pair ((Ty.int IntKind.u16).pair ((Ty.int IntKind.i64).pair ((Ty.int IntKind.i64).pair (Ty.bool.pair ((Ty.int IntKind.i64).pair ((Ty.int IntKind.i64).pair Ty.str).slice)))))))))))))), agg := true, size := 26, bytes := 256, zero := [Value.int IntKind.i64 (Int.ofNat 0), Value.int IntKind.i64 (Int.ofNat 0), Value.int IntKind.i64 (Int.ofNat 0), Value.int IntKind.u16 (Int.ofNat 0), Value.int IntKind.u16 (Int.ofNat 0), Value.int IntKind.u16 (Int.ofNat 0), Value.slice none 0 0, Value.slice none 0 0, Value.int IntKind.i64 (Int.ofNat 0), Value.int IntKind.i64 (Int.ofNat 0), Value.int IntKind.i64 (Int.ofNat 0), Value.int IntKind.i64 (Int.ofNat 0), Value.int IntKind.i64 (Int.ofNat 0), Value.int IntKind.i64 (Int.ofNat 0), Value.slice none 0 0, Value.slice none 0 0, Value.int IntKind.i64 (Int.ofNat 0), Value.int IntKind.i64 (Int.ofNat 0), Value.int IntKind.u16 (Int.ofNat 0), Value.int IntKind.u16 (Int.ofNat 0), Value.int IntKind.u16 (Int.ofNat 0), Value.int IntKind.i64 (Int.ofNat 0), Value.int IntKind.i64 (Int.ofNat 0), Value.bool false, Value.int IntKind.i64 (Int.ofNat 0), Value.slice none 0 0], eq := false, key := false, sub := Sub.struct [(77, 0), (87, 12)] }),
  (111, { ty := none, agg := false, size := 1, bytes := 8, zero := [Value.map none], eq := false, key := false, sub := Sub.map 30 115 }),
  (112, { ty := none, agg := true, size := 4, bytes := 32, zero := [Value.int IntKind.u64 (Int.ofNat 0), Value.int IntKind.i64 (Int.ofNat 0), Value.int IntKind.i64 (Int.ofNat 0), Value.map none], eq := false, key := false, sub := Sub.struct [(28, 0), (3, 1), (3, 2), (111, 3)] }),
  (113, { ty := none, agg := true, size := 4, bytes := 32, zero := [Value.int IntKind.u64 (Int.ofNat 0), Value.int IntKind.i64 (Int.ofNat 0), Value.int IntKind.i64 (Int.ofNat 0), Value.map none], eq := false, key := false, sub := Sub.struct [(28, 0), (3, 1), (3, 2), (111, 3)] }),
  (115, { ty := some ((Ty.int IntKind.u64).pair (Ty.int IntKind.u16)).slice, agg := false, size := 1, bytes := 24, zero := [Value.slice none 0 0], eq := false, key := false, sub := Sub.slice 117 }),
  (116, { ty := none, agg := true, size := 2, bytes := 16, zero := [Value.int IntKind.u64 (Int.ofNat 0), Value.int IntKind.u16 (Int.ofNat 0)], eq := false, key := false, sub := Sub.struct [(28, 0), (31, 1)] }),
  (117, { ty := some ((Ty.int IntKind.u64).pair (Ty.int IntKind.u16)), agg := true, size := 2, bytes := 16, zero := [Value.int IntKind.u64 (Int.ofNat 0), Value.int IntKind.u16 (Int.ofNat 0)], eq := true, key := true, sub := Sub.struct [(28, 0), (31, 1)] }),
  (126, { ty := some (((Ty.int IntKind.i64).pair (Ty.int IntKind.i64)).pair ((Ty.int IntKind.u64).pair (Ty.int IntKind.u16)).slice), agg := true, size := 3, bytes := 40, zero := [Value.int IntKind.i64 (Int.ofNat 0), Value.int IntKind.i64 (Int.ofNat 0), Value.slice none 0 0], eq := false, key := false, sub := Sub.struct [(30, 0), (115, 2)] }),
  (127, { ty := some (((Ty.int IntKind.i64).pair (Ty.int IntKind.i64)).pair ((Ty.int IntKind.u64).pair (Ty.int IntKind.u16)).slice), agg := true, size := 3, bytes := 40, zero := [Value.int IntKind.i64 (Int.ofNat 0), Value.int IntKind.i64 (Int.ofNat 0), Value.slice none 0 0], eq := false, key := false, sub := Sub.struct [(30, 0), (115, 2)] }),
  (138, { ty := none, agg := false, size := 1, bytes := 8, zero := [Value.map none], eq := false, key := false, sub := Sub.map 30 31 }),
  (139, { ty := none, agg := true, size := 1, bytes := 8, zero := [Value.map none], eq := false, key := false, sub := Sub.struct [(138, 0)] }),
  (140, { ty := none, agg := true, size := 1, bytes := 8, zero := [Value.map none], eq := false, key := false, sub := Sub.struct [(138, 0)] }),
  (153, { ty := none, agg := true, size := 2, bytes := 24, zero := [Value.int IntKind.i64 (Int.ofNat 0), Value.string { data := { toList := [] } }], eq := false, key := false, sub := Sub.struct [(3, 0), (9, 1)] }),
  (154, { ty := some ((Ty.int IntKind.i64).pair Ty.str), agg := true, size := 2, bytes := 24, zero := [Value.int IntKind.i64 (Int.ofNat 0), Value.string { data := { toList := [] } }], eq := true, key := true, sub := Sub.struct [(3, 0), (9, 1)] }),
  (159, { ty := none, agg := false, size := 1, bytes := 8, zero := [Value.map none], eq := false, key := false, sub := Sub.map 30 4 }),
  (166, { ty := none, agg := false, size := 1, bytes := 8, zero := [Value.pointer none], eq := false, key := false, sub := Sub.ptr 77 }),
  (167, { ty := none, agg := false, size := 1, bytes := 8, zero := [Value.pointer none], eq := false, key := false, sub := Sub.ptr 87 }),
  (174, { ty := some ((Ty.int IntKind.i64).pair ((Ty.int IntKind.i64).pair (Ty.int IntKind.i64))).slice.slice, agg := false, size := 1, bytes := 24, zero := [Value.slice none 0 0], eq := false, key := false, sub := Sub.slice 98 }),
  (180, { ty := some (Ty.int IntKind.u64), agg := false, size := 1, bytes := 8, zero := [Value.int IntKind.u64 (Int.ofNat 0)], eq := false, key := true, sub := Sub.other }),
  (183, { ty := some ((Ty.int IntKind.i64).pair ((Ty.int IntKind.i64).pair ((Ty.int IntKind.i64).pair ((Ty.int IntKind.i64).pair ((Ty.int IntKind.i64).pair ((Ty.int IntKind.i64).pair ((Ty.int IntKind.i64).pair ((Ty.int IntKind.i64).pair ((Ty.int IntKind.i64).pair ((Ty.int IntKind.i64).pair ((Ty.int IntKind.i64).pair Ty.unit))))))))))), agg := true, size := 11, bytes := 88, zero := [Value.int IntKind.i64 (Int.ofNat 0), Value.int IntKind.i64 (Int.ofNat 0), Value.int IntKind.i64 (Int.ofNat 0), Value.int IntKind.i64 (Int.ofNat 0), Value.int IntKind.i64 (Int.ofNat 0), Value.int IntKind.i64 (Int.ofNat 0), Value.int IntKind.i64 (Int.ofNat 0), Value.int IntKind.i64 (Int.ofNat 0), Value.int IntKind.i64 (Int.ofNat 0), Value.int IntKind.i64 (Int.ofNat 0), Value.int IntKind.i64 (Int.ofNat 0)], eq := true, key := false, sub := Sub.arr 11 3 }),
  (188, { ty := none, agg := true, size := 11, bytes := 72, zero := [Value.int IntKind.i64 (Int.ofNat 0), Value.int IntKind.i64 (Int.ofNat 0), Value.int IntKind.i64 (Int.ofNat 0), Value.int IntKind.i64 (Int.ofNat 0), Value.int IntKind.u16 (Int.ofNat 0), Value.int IntKind.u16 (Int.ofNat 0), Value.int IntKind.u16 (Int.ofNat 0), Value.int IntKind.i64 (Int.ofNat 0), Value.int IntKind.i64 (Int.ofNat 0), Value.int IntKind.i64 (Int.ofNat 0), Value.bool false], eq := false, key := false, sub := Sub.struct [(3, 0), (3, 1), (3, 2), (3, 3), (31, 4), (31, 5), (31, 6), (3, 7), (3, 8), (3, 9), (4, 10)] }),
  (189, { ty := some ((Ty.int IntKind.i64).pair ((Ty.int IntKind.i64).pair ((Ty.int IntKind.i64).pair ((Ty.int IntKind.i64).pair ((Ty.int IntKind.u16).pair ((Ty.int IntKind.u16).pair ((Ty.int IntKind.u16).pair ((Ty.int IntKind.i64).pair ((Ty.int IntKind.i64).pair ((Ty.int IntKind.i64).pair Ty.bool)))))))))), agg := true, size := 11, bytes := 72, zero := [Value.int IntKind.i64 (Int.ofNat 0), Value.int IntKind.i64 (Int.ofNat 0), Value.int IntKind.i64 (Int.ofNat 0), Value.int IntKind.i64 (Int.ofNat 0), Value.int IntKind.u16 (Int.ofNat 0), Value.int IntKind.u16 (Int.ofNat 0), Value.int IntKind.u16 (Int.ofNat 0), Value.int IntKind.i64 (Int.ofNat 0), Value.int IntKind.i64 (Int.ofNat 0), Value.int IntKind.i64 (Int.ofNat 0), Value.bool false], eq := true, key := true, sub := Sub.struct [(3, 0), (3, 1), (3, 2), (3, 3), (31, 4), (31, 5), (31, 6), (3, 7), (3, 8), (3, 9), (4, 10)] }),
  (202, { ty := none, agg := false, size := 1, bytes := 8, zero := [Value.pointer none], eq := false, key := false, sub := Sub.ptr 5 })]
theorem tt_ok : TTok Try.prog tt := mkTT_ok (show mkTT Try.prog tys = some tt by kernel_rfl)
def cfgW (Γ : List (Nat × Ctr O0)) : Cfg O0 := { N := 0, tt := tt, Γ := Γ }
def cfgD (dp : List Nat) (fu : List (Nat × Nat)) (Γ : List (Nat × Ctr O0)) : Cfg O0 := ⟨0, tt, Γ, dp, fu⟩
theorem mixed : Try.prog.follows .mixedOrders = true := by kernel_rfl
abbrev n_lay : Nat := 116
noncomputable abbrev f_lay : Func := Try.f116
theorem hf_lay : Try.prog.funcs[n_lay]? = some f_lay := Try.func116
abbrev n_rless : Nat := 99
noncomputable abbrev f_rless : Func := Try.f99
theorem hf_rless : Try.prog.funcs[n_rless]? = some f_rless := Try.func99
abbrev n_rbfind : Nat := 93
noncomputable abbrev f_rbfind : Func := Try.f93
theorem hf_rbfind : Try.prog.funcs[n_rbfind]? = some f_rbfind := Try.func93
abbrev n_rput : Nat := 47
noncomputable abbrev f_rput : Func := Try.f47
theorem hf_rput : Try.prog.funcs[n_rput]? = some f_rput := Try.func47
abbrev n_rbget : Nat := 48
noncomputable abbrev f_rbget : Func := Try.f48
theorem hf_rbget : Try.prog.funcs[n_rbget]? = some f_rbget := Try.func48
abbrev n_rspanRight : Nat := 86
noncomputable abbrev f_rspanRight : Func := Try.f86
theorem hf_rspanRight : Try.prog.funcs[n_rspanRight]? = some f_rspanRight := Try.func86
abbrev n_key : Nat := 42
noncomputable abbrev f_key : Func := Try.f42
theorem hf_key : Try.prog.funcs[n_key]? = some f_key := Try.func42
abbrev n_cell : Nat := 46
noncomputable abbrev f_cell : Func := Try.f46
theorem hf_cell : Try.prog.funcs[n_cell]? = some f_cell := Try.func46
abbrev n_within : Nat := 16
noncomputable abbrev f_within : Func := Try.f16
theorem hf_within : Try.prog.funcs[n_within]? = some f_within := Try.func16
abbrev n_digit : Nat := 22
noncomputable abbrev f_digit : Func := Try.f22
theorem hf_digit : Try.prog.funcs[n_digit]? = some f_digit := Try.func22
abbrev n_ati : Nat := 63
noncomputable abbrev f_ati : Func := Try.f63
theorem hf_ati : Try.prog.funcs[n_ati]? = some f_ati := Try.func63
abbrev n_cloneBits : Nat := 105
noncomputable abbrev f_cloneBits : Func := Try.f105
theorem hf_cloneBits : Try.prog.funcs[n_cloneBits]? = some f_cloneBits := Try.func105
abbrev n_cloneWords : Nat := 106
noncomputable abbrev f_cloneWords : Func := Try.f106
theorem hf_cloneWords : Try.prog.funcs[n_cloneWords]? = some f_cloneWords := Try.func106
abbrev n_cloneCells : Nat := 103
noncomputable abbrev f_cloneCells : Func := Try.f103
theorem hf_cloneCells : Try.prog.funcs[n_cloneCells]? = some f_cloneCells := Try.func103
abbrev n_r1Known : Nat := 117
noncomputable abbrev f_r1Known : Func := Try.f117
theorem hf_r1Known : Try.prog.funcs[n_r1Known]? = some f_r1Known := Try.func117
abbrev n_r1Table : Nat := 87
noncomputable abbrev f_r1Table : Func := Try.f87
theorem hf_r1Table : Try.prog.funcs[n_r1Table]? = some f_r1Table := Try.func87
abbrev n_r1Most : Nat := 120
noncomputable abbrev f_r1Most : Func := Try.f120
theorem hf_r1Most : Try.prog.funcs[n_r1Most]? = some f_r1Most := Try.func120
abbrev n_r5place : Nat := 119
noncomputable abbrev f_r5place : Func := Try.f119
theorem hf_r5place : Try.prog.funcs[n_r5place]? = some f_r5place := Try.func119
abbrev n_r5byte : Nat := 121
noncomputable abbrev f_r5byte : Func := Try.f121
theorem hf_r5byte : Try.prog.funcs[n_r5byte]? = some f_r5byte := Try.func121
abbrev n_r5Right : Nat := 85
noncomputable abbrev f_r5Right : Func := Try.f85
theorem hf_r5Right : Try.prog.funcs[n_r5Right]? = some f_r5Right := Try.func85
abbrev n_r5plain : Nat := 118
noncomputable abbrev f_r5plain : Func := Try.f118
theorem hf_r5plain : Try.prog.funcs[n_r5plain]? = some f_r5plain := Try.func118
abbrev n_r5Spans : Nat := 49
noncomputable abbrev f_r5Spans : Func := Try.f49
theorem hf_r5Spans : Try.prog.funcs[n_r5Spans]? = some f_r5Spans := Try.func49
abbrev n_r5Echo : Nat := 89
noncomputable abbrev f_r5Echo : Func := Try.f89
theorem hf_r5Echo : Try.prog.funcs[n_r5Echo]? = some f_r5Echo := Try.func89
abbrev n_rlay : Nat := 122
noncomputable abbrev f_rlay : Func := Try.f122
theorem hf_rlay : Try.prog.funcs[n_rlay]? = some f_rlay := Try.func122
abbrev n_shown : Nat := 90
noncomputable abbrev f_shown : Func := Try.f90
theorem hf_shown : Try.prog.funcs[n_shown]? = some f_shown := Try.func90
abbrev n_r21Cells : Nat := 88
noncomputable abbrev f_r21Cells : Func := Try.f88
theorem hf_r21Cells : Try.prog.funcs[n_r21Cells]? = some f_r21Cells := Try.func88
abbrev n_rfget : Nat := 45
noncomputable abbrev f_rfget : Func := Try.f45
theorem hf_rfget : Try.prog.funcs[n_rfget]? = some f_rfget := Try.func45
abbrev n_rfset : Nat := 39
noncomputable abbrev f_rfset : Func := Try.f39
theorem hf_rfset : Try.prog.funcs[n_rfset]? = some f_rfset := Try.func39
abbrev n_rfdo : Nat := 41
noncomputable abbrev f_rfdo : Func := Try.f41
theorem hf_rfdo : Try.prog.funcs[n_rfdo]? = some f_rfdo := Try.func41
abbrev n_words : Nat := 74
noncomputable abbrev f_words : Func := Try.f74
theorem hf_words : Try.prog.funcs[n_words]? = some f_words := Try.func74
abbrev n_ask : Nat := 37
noncomputable abbrev f_ask : Func := Try.f37
theorem hf_ask : Try.prog.funcs[n_ask]? = some f_ask := Try.func37
abbrev n_rahead : Nat := 71
noncomputable abbrev f_rahead : Func := Try.f71
theorem hf_rahead : Try.prog.funcs[n_rahead]? = some f_rahead := Try.func71
abbrev n_rorder : Nat := 34
noncomputable abbrev f_rorder : Func := Try.f34
theorem hf_rorder : Try.prog.funcs[n_rorder]? = some f_rorder := Try.func34
abbrev n_r5sameBits : Nat := 91
noncomputable abbrev f_r5sameBits : Func := Try.f91
theorem hf_r5sameBits : Try.prog.funcs[n_r5sameBits]? = some f_r5sameBits := Try.func91
abbrev n_r5sameWords : Nat := 92
noncomputable abbrev f_r5sameWords : Func := Try.f92
theorem hf_r5sameWords : Try.prog.funcs[n_r5sameWords]? = some f_r5sameWords := Try.func92
abbrev n_sameTell : Nat := 43
noncomputable abbrev f_sameTell : Func := Try.f43
theorem hf_sameTell : Try.prog.funcs[n_sameTell]? = some f_sameTell := Try.func43
abbrev n_cellsV : Nat := 14
noncomputable abbrev f_cellsV : Func := Try.f14
theorem hf_cellsV : Try.prog.funcs[n_cellsV]? = some f_cellsV := Try.func14
abbrev n_table : Nat := 112
noncomputable abbrev f_table : Func := Try.f112
theorem hf_table : Try.prog.funcs[n_table]? = some f_table := Try.func112
abbrev n_does : Nat := 133
noncomputable abbrev f_does : Func := Try.f133
theorem hf_does : Try.prog.funcs[n_does]? = some f_does := Try.func133
abbrev n_most : Nat := 131
noncomputable abbrev f_most : Func := Try.f131
theorem hf_most : Try.prog.funcs[n_most]? = some f_most := Try.func131
abbrev n_writes : Nat := 115
noncomputable abbrev f_writes : Func := Try.f115
theorem hf_writes : Try.prog.funcs[n_writes]? = some f_writes := Try.func115
abbrev n_known : Nat := 127
noncomputable abbrev f_known : Func := Try.f127
theorem hf_known : Try.prog.funcs[n_known]? = some f_known := Try.func127
abbrev n_askNums : Nat := 128
noncomputable abbrev f_askNums : Func := Try.f128
theorem hf_askNums : Try.prog.funcs[n_askNums]? = some f_askNums := Try.func128
abbrev n_askOnly : Nat := 129
noncomputable abbrev f_askOnly : Func := Try.f129
theorem hf_askOnly : Try.prog.funcs[n_askOnly]? = some f_askOnly := Try.func129
abbrev n_askAddr : Nat := 130
noncomputable abbrev f_askAddr : Func := Try.f130
theorem hf_askAddr : Try.prog.funcs[n_askAddr]? = some f_askAddr := Try.func130
abbrev n_askCounts : Nat := 132
noncomputable abbrev f_askCounts : Func := Try.f132
theorem hf_askCounts : Try.prog.funcs[n_askCounts]? = some f_askCounts := Try.func132
abbrev n_askRight : Nat := 111
noncomputable abbrev f_askRight : Func := Try.f111
theorem hf_askRight : Try.prog.funcs[n_askRight]? = some f_askRight := Try.func111
abbrev n_askSpans : Nat := 76
noncomputable abbrev f_askSpans : Func := Try.f76
theorem hf_askSpans : Try.prog.funcs[n_askSpans]? = some f_askSpans := Try.func76
abbrev n_tellEcho : Nat := 84
noncomputable abbrev f_tellEcho : Func := Try.f84
theorem hf_tellEcho : Try.prog.funcs[n_tellEcho]? = some f_tellEcho := Try.func84
abbrev n_growSp : Nat := 113
noncomputable abbrev f_growSp : Func := Try.f113
theorem hf_growSp : Try.prog.funcs[n_growSp]? = some f_growSp := Try.func113
abbrev n_concatSp : Nat := 77
noncomputable abbrev f_concatSp : Func := Try.f77
theorem hf_concatSp : Try.prog.funcs[n_concatSp]? = some f_concatSp := Try.func77
abbrev n_spanRight : Nat := 79
noncomputable abbrev f_spanRight : Func := Try.f79
theorem hf_spanRight : Try.prog.funcs[n_spanRight]? = some f_spanRight := Try.func79
abbrev n_doBeyond : Nat := 78
noncomputable abbrev f_doBeyond : Func := Try.f78
theorem hf_doBeyond : Try.prog.funcs[n_doBeyond]? = some f_doBeyond := Try.func78
abbrev n_indexSp : Nat := 114
noncomputable abbrev f_indexSp : Func := Try.f114
theorem hf_indexSp : Try.prog.funcs[n_indexSp]? = some f_indexSp := Try.func114
abbrev n_containsSp : Nat := 80
noncomputable abbrev f_containsSp : Func := Try.f80
theorem hf_containsSp : Try.prog.funcs[n_containsSp]? = some f_containsSp := Try.func80
abbrev n_execCells : Nat := 81
noncomputable abbrev f_execCells : Func := Try.f81
theorem hf_execCells : Try.prog.funcs[n_execCells]? = some f_execCells := Try.func81
abbrev n_toldRead : Nat := 82
noncomputable abbrev f_toldRead : Func := Try.f82
theorem hf_toldRead : Try.prog.funcs[n_toldRead]? = some f_toldRead := Try.func82
abbrev n_fvalues : Nat := 83
noncomputable abbrev f_fvalues : Func := Try.f83
theorem hf_fvalues : Try.prog.funcs[n_fvalues]? = some f_fvalues := Try.func83
abbrev n_fdo : Nat := 40
noncomputable abbrev f_fdo : Func := Try.f40
theorem hf_fdo : Try.prog.funcs[n_fdo]? = some f_fdo := Try.func40
abbrev n_toldOf : Nat := 134
noncomputable abbrev f_toldOf : Func := Try.f134
theorem hf_toldOf : Try.prog.funcs[n_toldOf]? = some f_toldOf := Try.func134
abbrev n_eqBits : Nat := 135
noncomputable abbrev f_eqBits : Func := Try.f135
theorem hf_eqBits : Try.prog.funcs[n_eqBits]? = some f_eqBits := Try.func135
abbrev n_eqWords : Nat := 136
noncomputable abbrev f_eqWords : Func := Try.f136
theorem hf_eqWords : Try.prog.funcs[n_eqWords]? = some f_eqWords := Try.func136
abbrev n_eqObjs : Nat := 137
noncomputable abbrev f_eqObjs : Func := Try.f137
theorem hf_eqObjs : Try.prog.funcs[n_eqObjs]? = some f_eqObjs := Try.func137
abbrev n_toldSame : Nat := 123
noncomputable abbrev f_toldSame : Func := Try.f123
theorem hf_toldSame : Try.prog.funcs[n_toldSame]? = some f_toldSame := Try.func123
abbrev n_freplay : Nat := 94
noncomputable abbrev f_freplay : Func := Try.f94
theorem hf_freplay : Try.prog.funcs[n_freplay]? = some f_freplay := Try.func94
abbrev n_freplays : Nat := 50
noncomputable abbrev f_freplays : Func := Try.f50
theorem hf_freplays : Try.prog.funcs[n_freplays]? = some f_freplays := Try.func50
abbrev n_rreplays : Nat := 51
noncomputable abbrev f_rreplays : Func := Try.f51
theorem hf_rreplays : Try.prog.funcs[n_rreplays]? = some f_rreplays := Try.func51
abbrev n_deedsX : Nat := 32
noncomputable abbrev f_deedsX : Func := Try.f32
theorem hf_deedsX : Try.prog.funcs[n_deedsX]? = some f_deedsX := Try.func32
abbrev n_lFileReplays : Nat := 12
noncomputable abbrev f_lFileReplays : Func := Try.f12
theorem hf_lFileReplays : Try.prog.funcs[n_lFileReplays]? = some f_lFileReplays := Try.func12
abbrev n_late : Nat := 70
noncomputable abbrev f_late : Func := Try.f70
theorem hf_late : Try.prog.funcs[n_late]? = some f_late := Try.func70
abbrev n_isNaNU : Nat := 109
noncomputable abbrev f_isNaNU : Func := Try.f109
theorem hf_isNaNU : Try.prog.funcs[n_isNaNU]? = some f_isNaNU := Try.func109
abbrev n_isNaNI : Nat := 110
noncomputable abbrev f_isNaNI : Func := Try.f110
theorem hf_isNaNI : Try.prog.funcs[n_isNaNI]? = some f_isNaNI := Try.func110
abbrev n_cmpU : Nat := 68
noncomputable abbrev f_cmpU : Func := Try.f68
theorem hf_cmpU : Try.prog.funcs[n_cmpU]? = some f_cmpU := Try.func68
abbrev n_cmpI : Nat := 69
noncomputable abbrev f_cmpI : Func := Try.f69
theorem hf_cmpI : Try.prog.funcs[n_cmpI]? = some f_cmpI := Try.func69
abbrev n_cmpOr : Nat := 67
noncomputable abbrev f_cmpOr : Func := Try.f67
theorem hf_cmpOr : Try.prog.funcs[n_cmpOr]? = some f_cmpOr := Try.func67
abbrev n_ordLess : Nat := 66
noncomputable abbrev f_ordLess : Func := Try.f66
theorem hf_ordLess : Try.prog.funcs[n_ordLess]? = some f_ordLess := Try.func66
abbrev n_cloneSteps : Nat := 104
noncomputable abbrev f_cloneSteps : Func := Try.f104
theorem hf_cloneSteps : Try.prog.funcs[n_cloneSteps]? = some f_cloneSteps := Try.func104
abbrev n_cloneObjs : Nat := 107
noncomputable abbrev f_cloneObjs : Func := Try.f107
theorem hf_cloneObjs : Try.prog.funcs[n_cloneObjs]? = some f_cloneObjs := Try.func107
abbrev n_own : Nat := 64
noncomputable abbrev f_own : Func := Try.f64
theorem hf_own : Try.prog.funcs[n_own]? = some f_own := Try.func64
abbrev n_insSort : Nat := 125
noncomputable abbrev f_insSort : Func := Try.f125
theorem hf_insSort : Try.prog.funcs[n_insSort]? = some f_insSort := Try.func125
abbrev n_symMerge : Nat := 126
noncomputable abbrev f_symMerge : Func := Try.f126
theorem hf_symMerge : Try.prog.funcs[n_symMerge]? = some f_symMerge := Try.func126
abbrev n_stable : Nat := 108
noncomputable abbrev f_stable : Func := Try.f108
theorem hf_stable : Try.prog.funcs[n_stable]? = some f_stable := Try.func108
abbrev n_sortStable : Nat := 65
noncomputable abbrev f_sortStable : Func := Try.f65
theorem hf_sortStable : Try.prog.funcs[n_sortStable]? = some f_sortStable := Try.func65
abbrev n_forder : Nat := 33
noncomputable abbrev f_forder : Func := Try.f33
theorem hf_forder : Try.prog.funcs[n_forder]? = some f_forder := Try.func33
abbrev n_fnew : Nat := 36
noncomputable abbrev f_fnew : Func := Try.f36
theorem hf_fnew : Try.prog.funcs[n_fnew]? = some f_fnew := Try.func36
abbrev n_fset : Nat := 38
noncomputable abbrev f_fset : Func := Try.f38
theorem hf_fset : Try.prog.funcs[n_fset]? = some f_fset := Try.func38
abbrev n_fget : Nat := 44
noncomputable abbrev f_fget : Func := Try.f44
theorem hf_fget : Try.prog.funcs[n_fget]? = some f_fget := Try.func44
abbrev n_awake27 : Nat := 31
noncomputable abbrev f_awake27 : Func := Try.f31
theorem hf_awake27 : Try.prog.funcs[n_awake27]? = some f_awake27 := Try.func31
abbrev n_ckey : Nat := 75
noncomputable abbrev f_ckey : Func := Try.f75
theorem hf_ckey : Try.prog.funcs[n_ckey]? = some f_ckey := Try.func75
end Go.BB
