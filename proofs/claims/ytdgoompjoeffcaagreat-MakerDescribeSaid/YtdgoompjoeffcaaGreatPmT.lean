import Derived.Test.YtdgoompjoeffcaaGreatProg
import Derived.Test.YtdgoompjoeffcaaGreatPmI
import Derived.KernelRfl
/- What PM asks of the program's types: one fact each. Printed by types.py. -/
open Go Go.Proofs
namespace Go.Proofs.YtdgoompjoeffcaaGreat
namespace Pm
theorem sz_0 : szOf Tryz.prog 0 = some 1 := by kernel_rfl
theorem ag_0 : aggOf Tryz.prog 0 = some false := by kernel_rfl
theorem by_0 : byOf Tryz.prog 0 = some 0 := by kernel_rfl
theorem ze_0 : zeroOf Tryz.prog 0 = some [Value.tuple { toList := [] }] := by kernel_rfl
theorem un_0 : Tryz.prog.underlying 0 = some (TypeDesc.tuple { toList := [] }) := by kernel_rfl
theorem zv_0 : zvA Tryz.prog 0 = some (.v (Value.tuple { toList := [] })) := by kernel_rfl
theorem sz_1 : szOf Tryz.prog 1 = some 1 := by kernel_rfl
theorem ag_1 : aggOf Tryz.prog 1 = some false := by kernel_rfl
theorem by_1 : byOf Tryz.prog 1 = some 8 := by kernel_rfl
theorem ze_1 : zeroOf Tryz.prog 1 = some [Value.nilFunc] := by kernel_rfl
theorem zv_1 : zvA Tryz.prog 1 = some (.v (Value.nilFunc)) := by kernel_rfl
theorem sz_2 : szOf Tryz.prog 2 = some 1 := by kernel_rfl
theorem ag_2 : aggOf Tryz.prog 2 = some false := by kernel_rfl
theorem by_2 : byOf Tryz.prog 2 = some 8 := by kernel_rfl
theorem ze_2 : zeroOf Tryz.prog 2 = some [Value.int IntKind.i64 0] := by kernel_rfl
theorem un_2 : Tryz.prog.underlying 2 = some (TypeDesc.int IntKind.i64) := by kernel_rfl
theorem zv_2 : zvA Tryz.prog 2 = some (.v (Value.int IntKind.i64 0)) := by kernel_rfl
theorem sz_3 : szOf Tryz.prog 3 = some 1 := by kernel_rfl
theorem ag_3 : aggOf Tryz.prog 3 = some false := by kernel_rfl
theorem by_3 : byOf Tryz.prog 3 = some 8 := by kernel_rfl
theorem ze_3 : zeroOf Tryz.prog 3 = some [Value.int IntKind.i64 0] := by kernel_rfl
theorem un_3 : Tryz.prog.underlying 3 = some (TypeDesc.int IntKind.i64) := by kernel_rfl
theorem zv_3 : zvA Tryz.prog 3 = some (.v (Value.int IntKind.i64 0)) := by kernel_rfl
theorem sz_4 : szOf Tryz.prog 4 = some 1 := by kernel_rfl
theorem ag_4 : aggOf Tryz.prog 4 = some false := by kernel_rfl
theorem by_4 : byOf Tryz.prog 4 = some 1 := by kernel_rfl
theorem ze_4 : zeroOf Tryz.prog 4 = some [Value.bool false] := by kernel_rfl
theorem un_4 : Tryz.prog.underlying 4 = some TypeDesc.bool := by kernel_rfl
theorem zv_4 : zvA Tryz.prog 4 = some (.v (Value.bool false)) := by kernel_rfl
theorem sz_5 : szOf Tryz.prog 5 = some 1 := by kernel_rfl
theorem ag_5 : aggOf Tryz.prog 5 = some false := by kernel_rfl
theorem by_5 : byOf Tryz.prog 5 = some 1 := by kernel_rfl
theorem ze_5 : zeroOf Tryz.prog 5 = some [Value.int IntKind.u8 0] := by kernel_rfl
theorem un_5 : Tryz.prog.underlying 5 = some (TypeDesc.int IntKind.u8) := by kernel_rfl
theorem zv_5 : zvA Tryz.prog 5 = some (.v (Value.int IntKind.u8 0)) := by kernel_rfl
theorem sz_6 : szOf Tryz.prog 6 = some 1 := by kernel_rfl
theorem ag_6 : aggOf Tryz.prog 6 = some false := by kernel_rfl
theorem by_6 : byOf Tryz.prog 6 = some 1 := by kernel_rfl
theorem ze_6 : zeroOf Tryz.prog 6 = some [Value.int IntKind.u8 0] := by kernel_rfl
theorem un_6 : Tryz.prog.underlying 6 = some (TypeDesc.int IntKind.u8) := by kernel_rfl
theorem zv_6 : zvA Tryz.prog 6 = some (.v (Value.int IntKind.u8 0)) := by kernel_rfl
theorem sz_7 : szOf Tryz.prog 7 = some 4 := by kernel_rfl
theorem ag_7 : aggOf Tryz.prog 7 = some true := by kernel_rfl
theorem by_7 : byOf Tryz.prog 7 = some 24 := by kernel_rfl
theorem pl_7 : plOf Tryz.prog 7 = some (PL.str [(0, 1), (1, 1), (2, 1), (3, 1)]) := by kernel_rfl
theorem ze_7 : zeroOf Tryz.prog 7 = some [Value.int IntKind.i64 0, Value.int IntKind.i64 0, Value.bool false, Value.int IntKind.u8 0] := by kernel_rfl
theorem eq_7 : eqOf Tryz.prog 7 = some [(0, false), (1, false), (2, true), (3, false)] := by kernel_rfl
theorem ko_7 (x0 x1 x2 x3 : AV) : keyOkA Tryz.prog 7 (.agg [x0, x1, x2, x3]) = true := by kernel_rfl
theorem zv_7 : zvA Tryz.prog 7 = some (.agg [.v (Value.int IntKind.i64 0), .v (Value.int IntKind.i64 0), .v (Value.bool false), .v (Value.int IntKind.u8 0)]) := by kernel_rfl
theorem fl_7_0 : fldOf Tryz.prog 7 0 = some (0, 2, 1) := by kernel_rfl
theorem fl_7_1 : fldOf Tryz.prog 7 1 = some (1, 3, 1) := by kernel_rfl
theorem fl_7_2 : fldOf Tryz.prog 7 2 = some (2, 4, 1) := by kernel_rfl
theorem fl_7_3 : fldOf Tryz.prog 7 3 = some (3, 6, 1) := by kernel_rfl
theorem sz_8 : szOf Tryz.prog 8 = some 4 := by kernel_rfl
theorem ag_8 : aggOf Tryz.prog 8 = some true := by kernel_rfl
theorem by_8 : byOf Tryz.prog 8 = some 24 := by kernel_rfl
theorem pl_8 : plOf Tryz.prog 8 = some (PL.str [(0, 1), (1, 1), (2, 1), (3, 1)]) := by kernel_rfl
theorem ze_8 : zeroOf Tryz.prog 8 = some [Value.int IntKind.i64 0, Value.int IntKind.i64 0, Value.bool false, Value.int IntKind.u8 0] := by kernel_rfl
theorem eq_8 : eqOf Tryz.prog 8 = some [(0, false), (1, false), (2, true), (3, false)] := by kernel_rfl
theorem ko_8 (x0 x1 x2 x3 : AV) : keyOkA Tryz.prog 8 (.agg [x0, x1, x2, x3]) = true := by kernel_rfl
theorem zv_8 : zvA Tryz.prog 8 = some (.agg [.v (Value.int IntKind.i64 0), .v (Value.int IntKind.i64 0), .v (Value.bool false), .v (Value.int IntKind.u8 0)]) := by kernel_rfl
theorem fl_8_0 : fldOf Tryz.prog 8 0 = some (0, 2, 1) := by kernel_rfl
theorem fl_8_1 : fldOf Tryz.prog 8 1 = some (1, 3, 1) := by kernel_rfl
theorem fl_8_2 : fldOf Tryz.prog 8 2 = some (2, 4, 1) := by kernel_rfl
theorem fl_8_3 : fldOf Tryz.prog 8 3 = some (3, 6, 1) := by kernel_rfl
theorem sz_9 : szOf Tryz.prog 9 = some 1 := by kernel_rfl
theorem ag_9 : aggOf Tryz.prog 9 = some false := by kernel_rfl
theorem by_9 : byOf Tryz.prog 9 = some 16 := by kernel_rfl
theorem ze_9 : zeroOf Tryz.prog 9 = some [Value.string { data := { toList := [] } }] := by kernel_rfl
theorem un_9 : Tryz.prog.underlying 9 = some TypeDesc.string := by kernel_rfl
theorem zv_9 : zvA Tryz.prog 9 = some (.v (Value.string { data := { toList := [] } })) := by kernel_rfl
theorem sz_10 : szOf Tryz.prog 10 = some 1 := by kernel_rfl
theorem ag_10 : aggOf Tryz.prog 10 = some false := by kernel_rfl
theorem by_10 : byOf Tryz.prog 10 = some 16 := by kernel_rfl
theorem ze_10 : zeroOf Tryz.prog 10 = some [Value.string { data := { toList := [] } }] := by kernel_rfl
theorem un_10 : Tryz.prog.underlying 10 = some TypeDesc.string := by kernel_rfl
theorem zv_10 : zvA Tryz.prog 10 = some (.v (Value.string { data := { toList := [] } })) := by kernel_rfl
theorem sz_22 : szOf Tryz.prog 22 = some 1 := by kernel_rfl
theorem ag_22 : aggOf Tryz.prog 22 = some false := by kernel_rfl
theorem sl_22 : slOf Tryz.prog 22 = some 29 := by kernel_rfl
theorem by_22 : byOf Tryz.prog 22 = some 24 := by kernel_rfl
theorem ze_22 : zeroOf Tryz.prog 22 = some [Value.slice none 0 0] := by kernel_rfl
theorem un_22 : Tryz.prog.underlying 22 = some (TypeDesc.slice 29) := by kernel_rfl
theorem zv_22 : zvA Tryz.prog 22 = some (.v (Value.slice none 0 0)) := by kernel_rfl
theorem sz_23 : szOf Tryz.prog 23 = some 1 := by kernel_rfl
theorem ag_23 : aggOf Tryz.prog 23 = some false := by kernel_rfl
theorem sl_23 : slOf Tryz.prog 23 = some 3 := by kernel_rfl
theorem by_23 : byOf Tryz.prog 23 = some 24 := by kernel_rfl
theorem ze_23 : zeroOf Tryz.prog 23 = some [Value.slice none 0 0] := by kernel_rfl
theorem un_23 : Tryz.prog.underlying 23 = some (TypeDesc.slice 3) := by kernel_rfl
theorem zv_23 : zvA Tryz.prog 23 = some (.v (Value.slice none 0 0)) := by kernel_rfl
theorem sz_24 : szOf Tryz.prog 24 = some 1 := by kernel_rfl
theorem ag_24 : aggOf Tryz.prog 24 = some false := by kernel_rfl
theorem by_24 : byOf Tryz.prog 24 = some 8 := by kernel_rfl
theorem ze_24 : zeroOf Tryz.prog 24 = some [Value.int IntKind.i64 0] := by kernel_rfl
theorem un_24 : Tryz.prog.underlying 24 = some (TypeDesc.int IntKind.i64) := by kernel_rfl
theorem zv_24 : zvA Tryz.prog 24 = some (.v (Value.int IntKind.i64 0)) := by kernel_rfl
theorem sz_25 : szOf Tryz.prog 25 = some 1 := by kernel_rfl
theorem ag_25 : aggOf Tryz.prog 25 = some false := by kernel_rfl
theorem by_25 : byOf Tryz.prog 25 = some 0 := by kernel_rfl
theorem ze_25 : zeroOf Tryz.prog 25 = some [Value.tuple { toList := [Value.slice none 0 0, Value.int IntKind.i64 0] }] := by kernel_rfl
theorem un_25 : Tryz.prog.underlying 25 = some (TypeDesc.tuple { toList := [23, 24] }) := by kernel_rfl
theorem zv_25 : zvA Tryz.prog 25 = some (.v (Value.tuple { toList := [Value.slice none 0 0, Value.int IntKind.i64 0] })) := by kernel_rfl
theorem sz_29 : szOf Tryz.prog 29 = some 3 := by kernel_rfl
theorem ag_29 : aggOf Tryz.prog 29 = some true := by kernel_rfl
theorem by_29 : byOf Tryz.prog 29 = some 24 := by kernel_rfl
theorem pl_29 : plOf Tryz.prog 29 = some (PL.str [(0, 1), (1, 1), (2, 1)]) := by kernel_rfl
theorem ze_29 : zeroOf Tryz.prog 29 = some [Value.int IntKind.i64 0, Value.int IntKind.i64 0, Value.int IntKind.i64 0] := by kernel_rfl
theorem eq_29 : eqOf Tryz.prog 29 = some [(0, false), (1, false), (2, false)] := by kernel_rfl
theorem ko_29 (x0 x1 x2 : AV) : keyOkA Tryz.prog 29 (.agg [x0, x1, x2]) = true := by kernel_rfl
theorem zv_29 : zvA Tryz.prog 29 = some (.agg [.v (Value.int IntKind.i64 0), .v (Value.int IntKind.i64 0), .v (Value.int IntKind.i64 0)]) := by kernel_rfl
theorem fl_29_0 : fldOf Tryz.prog 29 0 = some (0, 2, 1) := by kernel_rfl
theorem fl_29_1 : fldOf Tryz.prog 29 1 = some (1, 2, 1) := by kernel_rfl
theorem fl_29_2 : fldOf Tryz.prog 29 2 = some (2, 3, 1) := by kernel_rfl
theorem sz_30 : szOf Tryz.prog 30 = some 7 := by kernel_rfl
theorem ag_30 : aggOf Tryz.prog 30 = some true := by kernel_rfl
theorem by_30 : byOf Tryz.prog 30 = some 88 := by kernel_rfl
theorem pl_30 : plOf Tryz.prog 30 = some (PL.str [(0, 1), (1, 1), (2, 1), (3, 1), (4, 3)]) := by kernel_rfl
theorem ze_30 : zeroOf Tryz.prog 30 = some [Value.slice none 0 0, Value.slice none 0 0, Value.int IntKind.i64 0, Value.bool false, Value.int IntKind.i64 0, Value.int IntKind.i64 0, Value.int IntKind.i64 0] := by kernel_rfl
theorem zv_30 : zvA Tryz.prog 30 = some (.agg [.v (Value.slice none 0 0), .v (Value.slice none 0 0), .v (Value.int IntKind.i64 0), .v (Value.bool false), .v (Value.int IntKind.i64 0), .v (Value.int IntKind.i64 0), .v (Value.int IntKind.i64 0)]) := by kernel_rfl
theorem fl_30_0 : fldOf Tryz.prog 30 0 = some (0, 22, 1) := by kernel_rfl
theorem fl_30_1 : fldOf Tryz.prog 30 1 = some (1, 22, 1) := by kernel_rfl
theorem fl_30_2 : fldOf Tryz.prog 30 2 = some (2, 2, 1) := by kernel_rfl
theorem fl_30_3 : fldOf Tryz.prog 30 3 = some (3, 4, 1) := by kernel_rfl
theorem fl_30_4 : fldOf Tryz.prog 30 4 = some (4, 29, 3) := by kernel_rfl
theorem sz_31 : szOf Tryz.prog 31 = some 7 := by kernel_rfl
theorem ag_31 : aggOf Tryz.prog 31 = some true := by kernel_rfl
theorem by_31 : byOf Tryz.prog 31 = some 88 := by kernel_rfl
theorem pl_31 : plOf Tryz.prog 31 = some (PL.str [(0, 1), (1, 1), (2, 1), (3, 1), (4, 3)]) := by kernel_rfl
theorem ze_31 : zeroOf Tryz.prog 31 = some [Value.slice none 0 0, Value.slice none 0 0, Value.int IntKind.i64 0, Value.bool false, Value.int IntKind.i64 0, Value.int IntKind.i64 0, Value.int IntKind.i64 0] := by kernel_rfl
theorem zv_31 : zvA Tryz.prog 31 = some (.agg [.v (Value.slice none 0 0), .v (Value.slice none 0 0), .v (Value.int IntKind.i64 0), .v (Value.bool false), .v (Value.int IntKind.i64 0), .v (Value.int IntKind.i64 0), .v (Value.int IntKind.i64 0)]) := by kernel_rfl
theorem fl_31_0 : fldOf Tryz.prog 31 0 = some (0, 22, 1) := by kernel_rfl
theorem fl_31_1 : fldOf Tryz.prog 31 1 = some (1, 22, 1) := by kernel_rfl
theorem fl_31_2 : fldOf Tryz.prog 31 2 = some (2, 2, 1) := by kernel_rfl
theorem fl_31_3 : fldOf Tryz.prog 31 3 = some (3, 4, 1) := by kernel_rfl
theorem fl_31_4 : fldOf Tryz.prog 31 4 = some (4, 29, 3) := by kernel_rfl
theorem sz_32 : szOf Tryz.prog 32 = some 1 := by kernel_rfl
theorem ag_32 : aggOf Tryz.prog 32 = some false := by kernel_rfl
theorem by_32 : byOf Tryz.prog 32 = some 0 := by kernel_rfl
theorem ze_32 : zeroOf Tryz.prog 32 = some [Value.tuple { toList := [Value.agg { toList := [Value.slice none 0 0, Value.slice none 0 0, Value.int IntKind.i64 0, Value.bool false, Value.int IntKind.i64 0, Value.int IntKind.i64 0, Value.int IntKind.i64 0] }, Value.int IntKind.i64 0] }] := by kernel_rfl
theorem un_32 : Tryz.prog.underlying 32 = some (TypeDesc.tuple { toList := [31, 24] }) := by kernel_rfl
theorem zv_32 : zvA Tryz.prog 32 = some (.v (Value.tuple { toList := [Value.agg { toList := [Value.slice none 0 0, Value.slice none 0 0, Value.int IntKind.i64 0, Value.bool false, Value.int IntKind.i64 0, Value.int IntKind.i64 0, Value.int IntKind.i64 0] }, Value.int IntKind.i64 0] })) := by kernel_rfl
theorem sz_37 : szOf Tryz.prog 37 = some 1 := by kernel_rfl
theorem ag_37 : aggOf Tryz.prog 37 = some false := by kernel_rfl
theorem sl_37 : slOf Tryz.prog 37 = some 100 := by kernel_rfl
theorem by_37 : byOf Tryz.prog 37 = some 24 := by kernel_rfl
theorem ze_37 : zeroOf Tryz.prog 37 = some [Value.slice none 0 0] := by kernel_rfl
theorem un_37 : Tryz.prog.underlying 37 = some (TypeDesc.slice 100) := by kernel_rfl
theorem zv_37 : zvA Tryz.prog 37 = some (.v (Value.slice none 0 0)) := by kernel_rfl
theorem sz_39 : szOf Tryz.prog 39 = some 2 := by kernel_rfl
theorem ag_39 : aggOf Tryz.prog 39 = some true := by kernel_rfl
theorem by_39 : byOf Tryz.prog 39 = some 32 := by kernel_rfl
theorem pl_39 : plOf Tryz.prog 39 = some (PL.str [(0, 1), (1, 1)]) := by kernel_rfl
theorem ze_39 : zeroOf Tryz.prog 39 = some [Value.int IntKind.i64 0, Value.slice none 0 0] := by kernel_rfl
theorem zv_39 : zvA Tryz.prog 39 = some (.agg [.v (Value.int IntKind.i64 0), .v (Value.slice none 0 0)]) := by kernel_rfl
theorem fl_39_0 : fldOf Tryz.prog 39 0 = some (0, 3, 1) := by kernel_rfl
theorem fl_39_1 : fldOf Tryz.prog 39 1 = some (1, 37, 1) := by kernel_rfl
theorem sz_41 : szOf Tryz.prog 41 = some 1 := by kernel_rfl
theorem ag_41 : aggOf Tryz.prog 41 = some false := by kernel_rfl
theorem by_41 : byOf Tryz.prog 41 = some 0 := by kernel_rfl
theorem ze_41 : zeroOf Tryz.prog 41 = some [Value.tuple { toList := [Value.int IntKind.i64 0, Value.int IntKind.i64 0] }] := by kernel_rfl
theorem un_41 : Tryz.prog.underlying 41 = some (TypeDesc.tuple { toList := [3, 24] }) := by kernel_rfl
theorem zv_41 : zvA Tryz.prog 41 = some (.v (Value.tuple { toList := [Value.int IntKind.i64 0, Value.int IntKind.i64 0] })) := by kernel_rfl
theorem sz_45 : szOf Tryz.prog 45 = some 1 := by kernel_rfl
theorem ag_45 : aggOf Tryz.prog 45 = some false := by kernel_rfl
theorem sl_45 : slOf Tryz.prog 45 = some 2 := by kernel_rfl
theorem by_45 : byOf Tryz.prog 45 = some 24 := by kernel_rfl
theorem ze_45 : zeroOf Tryz.prog 45 = some [Value.slice none 0 0] := by kernel_rfl
theorem un_45 : Tryz.prog.underlying 45 = some (TypeDesc.slice 2) := by kernel_rfl
theorem zv_45 : zvA Tryz.prog 45 = some (.v (Value.slice none 0 0)) := by kernel_rfl
theorem sz_46 : szOf Tryz.prog 46 = some 1 := by kernel_rfl
theorem ag_46 : aggOf Tryz.prog 46 = some false := by kernel_rfl
theorem sl_46 : slOf Tryz.prog 46 = some 4 := by kernel_rfl
theorem by_46 : byOf Tryz.prog 46 = some 24 := by kernel_rfl
theorem ze_46 : zeroOf Tryz.prog 46 = some [Value.slice none 0 0] := by kernel_rfl
theorem un_46 : Tryz.prog.underlying 46 = some (TypeDesc.slice 4) := by kernel_rfl
theorem zv_46 : zvA Tryz.prog 46 = some (.v (Value.slice none 0 0)) := by kernel_rfl
theorem sz_48 : szOf Tryz.prog 48 = some 6 := by kernel_rfl
theorem ag_48 : aggOf Tryz.prog 48 = some true := by kernel_rfl
theorem by_48 : byOf Tryz.prog 48 = some 144 := by kernel_rfl
theorem pl_48 : plOf Tryz.prog 48 = some (PL.str [(0, 1), (1, 1), (2, 1), (3, 1), (4, 1), (5, 1)]) := by kernel_rfl
theorem ze_48 : zeroOf Tryz.prog 48 = some [Value.slice none 0 0, Value.slice none 0 0, Value.slice none 0 0, Value.slice none 0 0, Value.slice none 0 0, Value.slice none 0 0] := by kernel_rfl
theorem zv_48 : zvA Tryz.prog 48 = some (.agg [.v (Value.slice none 0 0), .v (Value.slice none 0 0), .v (Value.slice none 0 0), .v (Value.slice none 0 0), .v (Value.slice none 0 0), .v (Value.slice none 0 0)]) := by kernel_rfl
theorem fl_48_0 : fldOf Tryz.prog 48 0 = some (0, 23, 1) := by kernel_rfl
theorem fl_48_1 : fldOf Tryz.prog 48 1 = some (1, 45, 1) := by kernel_rfl
theorem fl_48_2 : fldOf Tryz.prog 48 2 = some (2, 45, 1) := by kernel_rfl
theorem fl_48_3 : fldOf Tryz.prog 48 3 = some (3, 23, 1) := by kernel_rfl
theorem fl_48_4 : fldOf Tryz.prog 48 4 = some (4, 46, 1) := by kernel_rfl
theorem fl_48_5 : fldOf Tryz.prog 48 5 = some (5, 46, 1) := by kernel_rfl
theorem sz_50 : szOf Tryz.prog 50 = some 16 := by kernel_rfl
theorem ag_50 : aggOf Tryz.prog 50 = some true := by kernel_rfl
theorem by_50 : byOf Tryz.prog 50 = some 304 := by kernel_rfl
theorem pl_50 : plOf Tryz.prog 50 = some (PL.str [(0, 6), (6, 1), (7, 1), (8, 1), (9, 1), (10, 1), (11, 1), (12, 1), (13, 1), (14, 1), (15, 1)]) := by kernel_rfl
theorem ze_50 : zeroOf Tryz.prog 50 = some [Value.slice none 0 0, Value.slice none 0 0, Value.slice none 0 0, Value.slice none 0 0, Value.slice none 0 0, Value.slice none 0 0, Value.slice none 0 0, Value.slice none 0 0, Value.int IntKind.i64 0, Value.int IntKind.i64 0, Value.int IntKind.i64 0, Value.int IntKind.i64 0, Value.int IntKind.i64 0, Value.slice none 0 0, Value.slice none 0 0, Value.slice none 0 0] := by kernel_rfl
theorem zv_50 : zvA Tryz.prog 50 = some (.agg [.v (Value.slice none 0 0), .v (Value.slice none 0 0), .v (Value.slice none 0 0), .v (Value.slice none 0 0), .v (Value.slice none 0 0), .v (Value.slice none 0 0), .v (Value.slice none 0 0), .v (Value.slice none 0 0), .v (Value.int IntKind.i64 0), .v (Value.int IntKind.i64 0), .v (Value.int IntKind.i64 0), .v (Value.int IntKind.i64 0), .v (Value.int IntKind.i64 0), .v (Value.slice none 0 0), .v (Value.slice none 0 0), .v (Value.slice none 0 0)]) := by kernel_rfl
theorem fl_50_0 : fldOf Tryz.prog 50 0 = some (0, 48, 6) := by kernel_rfl
theorem fl_50_1 : fldOf Tryz.prog 50 1 = some (6, 23, 1) := by kernel_rfl
theorem fl_50_2 : fldOf Tryz.prog 50 2 = some (7, 23, 1) := by kernel_rfl
theorem fl_50_3 : fldOf Tryz.prog 50 3 = some (8, 3, 1) := by kernel_rfl
theorem fl_50_4 : fldOf Tryz.prog 50 4 = some (9, 3, 1) := by kernel_rfl
theorem fl_50_5 : fldOf Tryz.prog 50 5 = some (10, 3, 1) := by kernel_rfl
theorem fl_50_6 : fldOf Tryz.prog 50 6 = some (11, 3, 1) := by kernel_rfl
theorem fl_50_7 : fldOf Tryz.prog 50 7 = some (12, 3, 1) := by kernel_rfl
theorem fl_50_8 : fldOf Tryz.prog 50 8 = some (13, 23, 1) := by kernel_rfl
theorem fl_50_9 : fldOf Tryz.prog 50 9 = some (14, 23, 1) := by kernel_rfl
theorem fl_50_10 : fldOf Tryz.prog 50 10 = some (15, 46, 1) := by kernel_rfl
theorem sz_51 : szOf Tryz.prog 51 = some 1 := by kernel_rfl
theorem ag_51 : aggOf Tryz.prog 51 = some false := by kernel_rfl
theorem by_51 : byOf Tryz.prog 51 = some 0 := by kernel_rfl
theorem ze_51 : zeroOf Tryz.prog 51 = some [Value.tuple { toList := [Value.agg { toList := [Value.slice none 0 0, Value.slice none 0 0, Value.slice none 0 0, Value.slice none 0 0, Value.slice none 0 0, Value.slice none 0 0, Value.slice none 0 0, Value.slice none 0 0, Value.int IntKind.i64 0, Value.int IntKind.i64 0, Value.int IntKind.i64 0, Value.int IntKind.i64 0, Value.int IntKind.i64 0, Value.slice none 0 0, Value.slice none 0 0, Value.slice none 0 0] }, Value.int IntKind.i64 0] }] := by kernel_rfl
theorem un_51 : Tryz.prog.underlying 51 = some (TypeDesc.tuple { toList := [50, 24] }) := by kernel_rfl
theorem zv_51 : zvA Tryz.prog 51 = some (.v (Value.tuple { toList := [Value.agg { toList := [Value.slice none 0 0, Value.slice none 0 0, Value.slice none 0 0, Value.slice none 0 0, Value.slice none 0 0, Value.slice none 0 0, Value.slice none 0 0, Value.slice none 0 0, Value.int IntKind.i64 0, Value.int IntKind.i64 0, Value.int IntKind.i64 0, Value.int IntKind.i64 0, Value.int IntKind.i64 0, Value.slice none 0 0, Value.slice none 0 0, Value.slice none 0 0] }, Value.int IntKind.i64 0] })) := by kernel_rfl
theorem sz_53 : szOf Tryz.prog 53 = some 1 := by kernel_rfl
theorem ag_53 : aggOf Tryz.prog 53 = some false := by kernel_rfl
theorem by_53 : byOf Tryz.prog 53 = some 8 := by kernel_rfl
theorem ze_53 : zeroOf Tryz.prog 53 = some [Value.pointer none] := by kernel_rfl
theorem un_53 : Tryz.prog.underlying 53 = some (TypeDesc.pointer 55) := by kernel_rfl
theorem po_53 : ptrOf Tryz.prog 53 = some 55 := by kernel_rfl
theorem zv_53 : zvA Tryz.prog 53 = some (.v (Value.pointer none)) := by kernel_rfl
theorem sz_55 : szOf Tryz.prog 55 = some 1 := by kernel_rfl
theorem ag_55 : aggOf Tryz.prog 55 = some true := by kernel_rfl
theorem by_55 : byOf Tryz.prog 55 = some 24 := by kernel_rfl
theorem pl_55 : plOf Tryz.prog 55 = some (PL.str [(0, 1)]) := by kernel_rfl
theorem ze_55 : zeroOf Tryz.prog 55 = some [Value.slice none 0 0] := by kernel_rfl
theorem zv_55 : zvA Tryz.prog 55 = some (.agg [.v (Value.slice none 0 0)]) := by kernel_rfl
theorem fl_55_0 : fldOf Tryz.prog 55 0 = some (0, 23, 1) := by kernel_rfl
theorem sz_58 : szOf Tryz.prog 58 = some 1 := by kernel_rfl
theorem ag_58 : aggOf Tryz.prog 58 = some false := by kernel_rfl
theorem sl_58 : slOf Tryz.prog 58 = some 93 := by kernel_rfl
theorem by_58 : byOf Tryz.prog 58 = some 24 := by kernel_rfl
theorem ze_58 : zeroOf Tryz.prog 58 = some [Value.slice none 0 0] := by kernel_rfl
theorem un_58 : Tryz.prog.underlying 58 = some (TypeDesc.slice 93) := by kernel_rfl
theorem zv_58 : zvA Tryz.prog 58 = some (.v (Value.slice none 0 0)) := by kernel_rfl
theorem sz_60 : szOf Tryz.prog 60 = some 1 := by kernel_rfl
theorem ag_60 : aggOf Tryz.prog 60 = some false := by kernel_rfl
theorem by_60 : byOf Tryz.prog 60 = some 8 := by kernel_rfl
theorem ze_60 : zeroOf Tryz.prog 60 = some [Value.pointer none] := by kernel_rfl
theorem un_60 : Tryz.prog.underlying 60 = some (TypeDesc.pointer 74) := by kernel_rfl
theorem po_60 : ptrOf Tryz.prog 60 = some 74 := by kernel_rfl
theorem zv_60 : zvA Tryz.prog 60 = some (.v (Value.pointer none)) := by kernel_rfl
theorem sz_61 : szOf Tryz.prog 61 = some 1 := by kernel_rfl
theorem ag_61 : aggOf Tryz.prog 61 = some false := by kernel_rfl
theorem by_61 : byOf Tryz.prog 61 = some 0 := by kernel_rfl
theorem ze_61 : zeroOf Tryz.prog 61 = some [Value.tuple { toList := [Value.pointer none, Value.int IntKind.i64 0] }] := by kernel_rfl
theorem un_61 : Tryz.prog.underlying 61 = some (TypeDesc.tuple { toList := [60, 24] }) := by kernel_rfl
theorem zv_61 : zvA Tryz.prog 61 = some (.v (Value.tuple { toList := [Value.pointer none, Value.int IntKind.i64 0] })) := by kernel_rfl
theorem sz_65 : szOf Tryz.prog 65 = some 2 := by kernel_rfl
theorem ag_65 : aggOf Tryz.prog 65 = some true := by kernel_rfl
theorem by_65 : byOf Tryz.prog 65 = some 16 := by kernel_rfl
theorem pl_65 : plOf Tryz.prog 65 = some (PL.str [(0, 1), (1, 1)]) := by kernel_rfl
theorem ze_65 : zeroOf Tryz.prog 65 = some [Value.int IntKind.i64 0, Value.int IntKind.i64 0] := by kernel_rfl
theorem eq_65 : eqOf Tryz.prog 65 = some [(0, false), (1, false)] := by kernel_rfl
theorem ko_65 (x0 x1 : AV) : keyOkA Tryz.prog 65 (.agg [x0, x1]) = true := by kernel_rfl
theorem zv_65 : zvA Tryz.prog 65 = some (.agg [.v (Value.int IntKind.i64 0), .v (Value.int IntKind.i64 0)]) := by kernel_rfl
theorem fl_65_0 : fldOf Tryz.prog 65 0 = some (0, 2, 1) := by kernel_rfl
theorem fl_65_1 : fldOf Tryz.prog 65 1 = some (1, 2, 1) := by kernel_rfl
theorem sz_67 : szOf Tryz.prog 67 = some 3 := by kernel_rfl
theorem ag_67 : aggOf Tryz.prog 67 = some true := by kernel_rfl
theorem by_67 : byOf Tryz.prog 67 = some 24 := by kernel_rfl
theorem pl_67 : plOf Tryz.prog 67 = some (PL.str [(0, 2), (2, 1)]) := by kernel_rfl
theorem ze_67 : zeroOf Tryz.prog 67 = some [Value.int IntKind.i64 0, Value.int IntKind.i64 0, Value.int IntKind.i64 0] := by kernel_rfl
theorem zv_67 : zvA Tryz.prog 67 = some (.agg [.v (Value.int IntKind.i64 0), .v (Value.int IntKind.i64 0), .v (Value.int IntKind.i64 0)]) := by kernel_rfl
theorem fl_67_0 : fldOf Tryz.prog 67 0 = some (0, 65, 2) := by kernel_rfl
theorem fl_67_1 : fldOf Tryz.prog 67 1 = some (2, 3, 1) := by kernel_rfl
theorem sz_68 : szOf Tryz.prog 68 = some 1 := by kernel_rfl
theorem ag_68 : aggOf Tryz.prog 68 = some false := by kernel_rfl
theorem sl_68 : slOf Tryz.prog 68 = some 67 := by kernel_rfl
theorem by_68 : byOf Tryz.prog 68 = some 24 := by kernel_rfl
theorem ze_68 : zeroOf Tryz.prog 68 = some [Value.slice none 0 0] := by kernel_rfl
theorem un_68 : Tryz.prog.underlying 68 = some (TypeDesc.slice 67) := by kernel_rfl
theorem zv_68 : zvA Tryz.prog 68 = some (.v (Value.slice none 0 0)) := by kernel_rfl
theorem sz_70 : szOf Tryz.prog 70 = some 1 := by kernel_rfl
theorem ag_70 : aggOf Tryz.prog 70 = some true := by kernel_rfl
theorem by_70 : byOf Tryz.prog 70 = some 24 := by kernel_rfl
theorem pl_70 : plOf Tryz.prog 70 = some (PL.str [(0, 1)]) := by kernel_rfl
theorem ze_70 : zeroOf Tryz.prog 70 = some [Value.slice none 0 0] := by kernel_rfl
theorem zv_70 : zvA Tryz.prog 70 = some (.agg [.v (Value.slice none 0 0)]) := by kernel_rfl
theorem fl_70_0 : fldOf Tryz.prog 70 0 = some (0, 68, 1) := by kernel_rfl
theorem sz_71 : szOf Tryz.prog 71 = some 1 := by kernel_rfl
theorem ag_71 : aggOf Tryz.prog 71 = some false := by kernel_rfl
theorem by_71 : byOf Tryz.prog 71 = some 8 := by kernel_rfl
theorem ze_71 : zeroOf Tryz.prog 71 = some [Value.map none] := by kernel_rfl
theorem un_71 : Tryz.prog.underlying 71 = some (TypeDesc.map 65 4) := by kernel_rfl
theorem mp_71 : mapOf Tryz.prog 71 = some (65, 4) := by kernel_rfl
theorem zv_71 : zvA Tryz.prog 71 = some (.v (Value.map none)) := by kernel_rfl
theorem sz_72 : szOf Tryz.prog 72 = some 1 := by kernel_rfl
theorem ag_72 : aggOf Tryz.prog 72 = some false := by kernel_rfl
theorem by_72 : byOf Tryz.prog 72 = some 8 := by kernel_rfl
theorem ze_72 : zeroOf Tryz.prog 72 = some [Value.map none] := by kernel_rfl
theorem un_72 : Tryz.prog.underlying 72 = some (TypeDesc.map 65 3) := by kernel_rfl
theorem mp_72 : mapOf Tryz.prog 72 = some (65, 3) := by kernel_rfl
theorem zv_72 : zvA Tryz.prog 72 = some (.v (Value.map none)) := by kernel_rfl
theorem sz_74 : szOf Tryz.prog 74 = some 11 := by kernel_rfl
theorem ag_74 : aggOf Tryz.prog 74 = some true := by kernel_rfl
theorem by_74 : byOf Tryz.prog 74 = some 104 := by kernel_rfl
theorem pl_74 : plOf Tryz.prog 74 = some (PL.str [(0, 3), (3, 1), (4, 1), (5, 1), (6, 1), (7, 1), (8, 1), (9, 1), (10, 1)]) := by kernel_rfl
theorem ze_74 : zeroOf Tryz.prog 74 = some [Value.int IntKind.i64 0, Value.int IntKind.i64 0, Value.int IntKind.i64 0, Value.slice none 0 0, Value.int IntKind.i64 0, Value.map none, Value.map none, Value.map none, Value.map none, Value.int IntKind.i64 0, Value.int IntKind.i64 0] := by kernel_rfl
theorem zv_74 : zvA Tryz.prog 74 = some (.agg [.v (Value.int IntKind.i64 0), .v (Value.int IntKind.i64 0), .v (Value.int IntKind.i64 0), .v (Value.slice none 0 0), .v (Value.int IntKind.i64 0), .v (Value.map none), .v (Value.map none), .v (Value.map none), .v (Value.map none), .v (Value.int IntKind.i64 0), .v (Value.int IntKind.i64 0)]) := by kernel_rfl
theorem fl_74_0 : fldOf Tryz.prog 74 0 = some (0, 67, 3) := by kernel_rfl
theorem fl_74_1 : fldOf Tryz.prog 74 1 = some (3, 70, 1) := by kernel_rfl
theorem fl_74_2 : fldOf Tryz.prog 74 2 = some (4, 3, 1) := by kernel_rfl
theorem fl_74_3 : fldOf Tryz.prog 74 3 = some (5, 71, 1) := by kernel_rfl
theorem fl_74_4 : fldOf Tryz.prog 74 4 = some (6, 72, 1) := by kernel_rfl
theorem fl_74_5 : fldOf Tryz.prog 74 5 = some (7, 71, 1) := by kernel_rfl
theorem fl_74_6 : fldOf Tryz.prog 74 6 = some (8, 71, 1) := by kernel_rfl
theorem fl_74_7 : fldOf Tryz.prog 74 7 = some (9, 3, 1) := by kernel_rfl
theorem fl_74_8 : fldOf Tryz.prog 74 8 = some (10, 2, 1) := by kernel_rfl
theorem sz_80 : szOf Tryz.prog 80 = some 3 := by kernel_rfl
theorem ag_80 : aggOf Tryz.prog 80 = some true := by kernel_rfl
theorem by_80 : byOf Tryz.prog 80 = some 56 := by kernel_rfl
theorem pl_80 : plOf Tryz.prog 80 = some (PL.str [(0, 1), (1, 1), (2, 1)]) := by kernel_rfl
theorem ze_80 : zeroOf Tryz.prog 80 = some [Value.slice none 0 0, Value.slice none 0 0, Value.int IntKind.i64 0] := by kernel_rfl
theorem zv_80 : zvA Tryz.prog 80 = some (.agg [.v (Value.slice none 0 0), .v (Value.slice none 0 0), .v (Value.int IntKind.i64 0)]) := by kernel_rfl
theorem fl_80_0 : fldOf Tryz.prog 80 0 = some (0, 23, 1) := by kernel_rfl
theorem fl_80_1 : fldOf Tryz.prog 80 1 = some (1, 23, 1) := by kernel_rfl
theorem fl_80_2 : fldOf Tryz.prog 80 2 = some (2, 3, 1) := by kernel_rfl
theorem sz_86 : szOf Tryz.prog 86 = some 1 := by kernel_rfl
theorem ag_86 : aggOf Tryz.prog 86 = some false := by kernel_rfl
theorem by_86 : byOf Tryz.prog 86 = some 8 := by kernel_rfl
theorem ze_86 : zeroOf Tryz.prog 86 = some [Value.nilFunc] := by kernel_rfl
theorem zv_86 : zvA Tryz.prog 86 = some (.v (Value.nilFunc)) := by kernel_rfl
theorem sz_89 : szOf Tryz.prog 89 = some 1 := by kernel_rfl
theorem ag_89 : aggOf Tryz.prog 89 = some false := by kernel_rfl
theorem by_89 : byOf Tryz.prog 89 = some 8 := by kernel_rfl
theorem ze_89 : zeroOf Tryz.prog 89 = some [Value.nilFunc] := by kernel_rfl
theorem zv_89 : zvA Tryz.prog 89 = some (.v (Value.nilFunc)) := by kernel_rfl
theorem sz_91 : szOf Tryz.prog 91 = some 1 := by kernel_rfl
theorem ag_91 : aggOf Tryz.prog 91 = some false := by kernel_rfl
theorem sl_91 : slOf Tryz.prog 91 = some 145 := by kernel_rfl
theorem by_91 : byOf Tryz.prog 91 = some 24 := by kernel_rfl
theorem ze_91 : zeroOf Tryz.prog 91 = some [Value.slice none 0 0] := by kernel_rfl
theorem un_91 : Tryz.prog.underlying 91 = some (TypeDesc.slice 145) := by kernel_rfl
theorem zv_91 : zvA Tryz.prog 91 = some (.v (Value.slice none 0 0)) := by kernel_rfl
theorem sz_93 : szOf Tryz.prog 93 = some 3 := by kernel_rfl
theorem ag_93 : aggOf Tryz.prog 93 = some true := by kernel_rfl
theorem by_93 : byOf Tryz.prog 93 = some 56 := by kernel_rfl
theorem pl_93 : plOf Tryz.prog 93 = some (PL.str [(0, 1), (1, 1), (2, 1)]) := by kernel_rfl
theorem ze_93 : zeroOf Tryz.prog 93 = some [Value.slice none 0 0, Value.slice none 0 0, Value.int IntKind.i64 0] := by kernel_rfl
theorem zv_93 : zvA Tryz.prog 93 = some (.agg [.v (Value.slice none 0 0), .v (Value.slice none 0 0), .v (Value.int IntKind.i64 0)]) := by kernel_rfl
theorem fl_93_0 : fldOf Tryz.prog 93 0 = some (0, 91, 1) := by kernel_rfl
theorem fl_93_1 : fldOf Tryz.prog 93 1 = some (1, 91, 1) := by kernel_rfl
theorem fl_93_2 : fldOf Tryz.prog 93 2 = some (2, 3, 1) := by kernel_rfl
theorem sz_98 : szOf Tryz.prog 98 = some 1 := by kernel_rfl
theorem ag_98 : aggOf Tryz.prog 98 = some false := by kernel_rfl
theorem by_98 : byOf Tryz.prog 98 = some 8 := by kernel_rfl
theorem ze_98 : zeroOf Tryz.prog 98 = some [Value.nilFunc] := by kernel_rfl
theorem zv_98 : zvA Tryz.prog 98 = some (.v (Value.nilFunc)) := by kernel_rfl
theorem sz_100 : szOf Tryz.prog 100 = some 6 := by kernel_rfl
theorem ag_100 : aggOf Tryz.prog 100 = some true := by kernel_rfl
theorem by_100 : byOf Tryz.prog 100 = some 48 := by kernel_rfl
theorem pl_100 : plOf Tryz.prog 100 = some (PL.str [(0, 1), (1, 1), (2, 1), (3, 1), (4, 1), (5, 1)]) := by kernel_rfl
theorem ze_100 : zeroOf Tryz.prog 100 = some [Value.int IntKind.i64 0, Value.int IntKind.i64 0, Value.int IntKind.i64 0, Value.int IntKind.i64 0, Value.int IntKind.i64 0, Value.int IntKind.i64 0] := by kernel_rfl
theorem eq_100 : eqOf Tryz.prog 100 = some [(0, false), (1, false), (2, false), (3, false), (4, false), (5, false)] := by kernel_rfl
theorem ko_100 (x0 x1 x2 x3 x4 x5 : AV) : keyOkA Tryz.prog 100 (.agg [x0, x1, x2, x3, x4, x5]) = true := by kernel_rfl
theorem zv_100 : zvA Tryz.prog 100 = some (.agg [.v (Value.int IntKind.i64 0), .v (Value.int IntKind.i64 0), .v (Value.int IntKind.i64 0), .v (Value.int IntKind.i64 0), .v (Value.int IntKind.i64 0), .v (Value.int IntKind.i64 0)]) := by kernel_rfl
theorem fl_100_0 : fldOf Tryz.prog 100 0 = some (0, 3, 1) := by kernel_rfl
theorem fl_100_1 : fldOf Tryz.prog 100 1 = some (1, 3, 1) := by kernel_rfl
theorem fl_100_2 : fldOf Tryz.prog 100 2 = some (2, 3, 1) := by kernel_rfl
theorem fl_100_3 : fldOf Tryz.prog 100 3 = some (3, 3, 1) := by kernel_rfl
theorem fl_100_4 : fldOf Tryz.prog 100 4 = some (4, 3, 1) := by kernel_rfl
theorem fl_100_5 : fldOf Tryz.prog 100 5 = some (5, 3, 1) := by kernel_rfl
theorem sz_106 : szOf Tryz.prog 106 = some 10 := by kernel_rfl
theorem ag_106 : aggOf Tryz.prog 106 = some true := by kernel_rfl
theorem by_106 : byOf Tryz.prog 106 = some 80 := by kernel_rfl
theorem pl_106 : plOf Tryz.prog 106 = some (PL.str [(0, 1), (1, 1), (2, 1), (3, 1), (4, 1), (5, 1), (6, 1), (7, 1), (8, 1), (9, 1)]) := by kernel_rfl
theorem ze_106 : zeroOf Tryz.prog 106 = some [Value.int IntKind.i64 0, Value.int IntKind.i64 0, Value.int IntKind.i64 0, Value.int IntKind.i64 0, Value.int IntKind.i64 0, Value.int IntKind.i64 0, Value.int IntKind.i64 0, Value.int IntKind.i64 0, Value.int IntKind.i64 0, Value.int IntKind.i64 0] := by kernel_rfl
theorem eq_106 : eqOf Tryz.prog 106 = some [(0, false), (1, false), (2, false), (3, false), (4, false), (5, false), (6, false), (7, false), (8, false), (9, false)] := by kernel_rfl
theorem zv_106 : zvA Tryz.prog 106 = some (.agg [.v (Value.int IntKind.i64 0), .v (Value.int IntKind.i64 0), .v (Value.int IntKind.i64 0), .v (Value.int IntKind.i64 0), .v (Value.int IntKind.i64 0), .v (Value.int IntKind.i64 0), .v (Value.int IntKind.i64 0), .v (Value.int IntKind.i64 0), .v (Value.int IntKind.i64 0), .v (Value.int IntKind.i64 0)]) := by kernel_rfl
theorem fl_106_0 : fldOf Tryz.prog 106 0 = some (0, 3, 1) := by kernel_rfl
theorem fl_106_1 : fldOf Tryz.prog 106 1 = some (1, 3, 1) := by kernel_rfl
theorem fl_106_2 : fldOf Tryz.prog 106 2 = some (2, 3, 1) := by kernel_rfl
theorem fl_106_3 : fldOf Tryz.prog 106 3 = some (3, 3, 1) := by kernel_rfl
theorem fl_106_4 : fldOf Tryz.prog 106 4 = some (4, 3, 1) := by kernel_rfl
theorem fl_106_5 : fldOf Tryz.prog 106 5 = some (5, 3, 1) := by kernel_rfl
theorem fl_106_6 : fldOf Tryz.prog 106 6 = some (6, 3, 1) := by kernel_rfl
theorem fl_106_7 : fldOf Tryz.prog 106 7 = some (7, 3, 1) := by kernel_rfl
theorem fl_106_8 : fldOf Tryz.prog 106 8 = some (8, 3, 1) := by kernel_rfl
theorem fl_106_9 : fldOf Tryz.prog 106 9 = some (9, 3, 1) := by kernel_rfl
theorem sz_108 : szOf Tryz.prog 108 = some 1 := by kernel_rfl
theorem ag_108 : aggOf Tryz.prog 108 = some false := by kernel_rfl
theorem by_108 : byOf Tryz.prog 108 = some 8 := by kernel_rfl
theorem ze_108 : zeroOf Tryz.prog 108 = some [Value.pointer none] := by kernel_rfl
theorem un_108 : Tryz.prog.underlying 108 = some (TypeDesc.pointer 48) := by kernel_rfl
theorem po_108 : ptrOf Tryz.prog 108 = some 48 := by kernel_rfl
theorem zv_108 : zvA Tryz.prog 108 = some (.v (Value.pointer none)) := by kernel_rfl
theorem sz_109 : szOf Tryz.prog 109 = some 1 := by kernel_rfl
theorem ag_109 : aggOf Tryz.prog 109 = some false := by kernel_rfl
theorem by_109 : byOf Tryz.prog 109 = some 8 := by kernel_rfl
theorem ze_109 : zeroOf Tryz.prog 109 = some [Value.pointer none] := by kernel_rfl
theorem un_109 : Tryz.prog.underlying 109 = some (TypeDesc.pointer 50) := by kernel_rfl
theorem po_109 : ptrOf Tryz.prog 109 = some 50 := by kernel_rfl
theorem zv_109 : zvA Tryz.prog 109 = some (.v (Value.pointer none)) := by kernel_rfl
theorem sz_111 : szOf Tryz.prog 111 = some 5 := by kernel_rfl
theorem ag_111 : aggOf Tryz.prog 111 = some true := by kernel_rfl
theorem ar_111 : arrOf Tryz.prog 111 = some (5, 3) := by kernel_rfl
theorem by_111 : byOf Tryz.prog 111 = some 40 := by kernel_rfl
theorem pl_111 : plOf Tryz.prog 111 = some (PL.arr 1) := by kernel_rfl
theorem ze_111 : zeroOf Tryz.prog 111 = some [Value.int IntKind.i64 0, Value.int IntKind.i64 0, Value.int IntKind.i64 0, Value.int IntKind.i64 0, Value.int IntKind.i64 0] := by kernel_rfl
theorem un_111 : Tryz.prog.underlying 111 = some (TypeDesc.array 5 3) := by kernel_rfl
theorem zv_111 : zvA Tryz.prog 111 = some (.agg [.v (Value.int IntKind.i64 0), .v (Value.int IntKind.i64 0), .v (Value.int IntKind.i64 0), .v (Value.int IntKind.i64 0), .v (Value.int IntKind.i64 0)]) := by kernel_rfl
theorem sz_114 : szOf Tryz.prog 114 = some 4 := by kernel_rfl
theorem ag_114 : aggOf Tryz.prog 114 = some true := by kernel_rfl
theorem ar_114 : arrOf Tryz.prog 114 = some (4, 3) := by kernel_rfl
theorem by_114 : byOf Tryz.prog 114 = some 32 := by kernel_rfl
theorem pl_114 : plOf Tryz.prog 114 = some (PL.arr 1) := by kernel_rfl
theorem ze_114 : zeroOf Tryz.prog 114 = some [Value.int IntKind.i64 0, Value.int IntKind.i64 0, Value.int IntKind.i64 0, Value.int IntKind.i64 0] := by kernel_rfl
theorem un_114 : Tryz.prog.underlying 114 = some (TypeDesc.array 4 3) := by kernel_rfl
theorem zv_114 : zvA Tryz.prog 114 = some (.agg [.v (Value.int IntKind.i64 0), .v (Value.int IntKind.i64 0), .v (Value.int IntKind.i64 0), .v (Value.int IntKind.i64 0)]) := by kernel_rfl
theorem sz_115 : szOf Tryz.prog 115 = some 1 := by kernel_rfl
theorem ag_115 : aggOf Tryz.prog 115 = some false := by kernel_rfl
theorem by_115 : byOf Tryz.prog 115 = some 0 := by kernel_rfl
theorem ze_115 : zeroOf Tryz.prog 115 = some [Value.tuple { toList := [Value.agg { toList := [Value.int IntKind.i64 0, Value.int IntKind.i64 0, Value.int IntKind.i64 0, Value.int IntKind.i64 0, Value.int IntKind.i64 0, Value.int IntKind.i64 0, Value.int IntKind.i64 0, Value.int IntKind.i64 0, Value.int IntKind.i64 0, Value.int IntKind.i64 0] }, Value.int IntKind.i64 0] }] := by kernel_rfl
theorem un_115 : Tryz.prog.underlying 115 = some (TypeDesc.tuple { toList := [106, 24] }) := by kernel_rfl
theorem zv_115 : zvA Tryz.prog 115 = some (.v (Value.tuple { toList := [Value.agg { toList := [Value.int IntKind.i64 0, Value.int IntKind.i64 0, Value.int IntKind.i64 0, Value.int IntKind.i64 0, Value.int IntKind.i64 0, Value.int IntKind.i64 0, Value.int IntKind.i64 0, Value.int IntKind.i64 0, Value.int IntKind.i64 0, Value.int IntKind.i64 0] }, Value.int IntKind.i64 0] })) := by kernel_rfl
theorem sz_117 : szOf Tryz.prog 117 = some 1 := by kernel_rfl
theorem ag_117 : aggOf Tryz.prog 117 = some false := by kernel_rfl
theorem by_117 : byOf Tryz.prog 117 = some 8 := by kernel_rfl
theorem ze_117 : zeroOf Tryz.prog 117 = some [Value.nilFunc] := by kernel_rfl
theorem zv_117 : zvA Tryz.prog 117 = some (.v (Value.nilFunc)) := by kernel_rfl
theorem sz_119 : szOf Tryz.prog 119 = some 1 := by kernel_rfl
theorem ag_119 : aggOf Tryz.prog 119 = some false := by kernel_rfl
theorem by_119 : byOf Tryz.prog 119 = some 8 := by kernel_rfl
theorem ze_119 : zeroOf Tryz.prog 119 = some [Value.nilFunc] := by kernel_rfl
theorem zv_119 : zvA Tryz.prog 119 = some (.v (Value.nilFunc)) := by kernel_rfl
theorem sz_120 : szOf Tryz.prog 120 = some 1 := by kernel_rfl
theorem ag_120 : aggOf Tryz.prog 120 = some false := by kernel_rfl
theorem by_120 : byOf Tryz.prog 120 = some 8 := by kernel_rfl
theorem ze_120 : zeroOf Tryz.prog 120 = some [Value.nilFunc] := by kernel_rfl
theorem zv_120 : zvA Tryz.prog 120 = some (.v (Value.nilFunc)) := by kernel_rfl
theorem sz_128 : szOf Tryz.prog 128 = some 1 := by kernel_rfl
theorem ag_128 : aggOf Tryz.prog 128 = some false := by kernel_rfl
theorem by_128 : byOf Tryz.prog 128 = some 8 := by kernel_rfl
theorem ze_128 : zeroOf Tryz.prog 128 = some [Value.int IntKind.u64 0] := by kernel_rfl
theorem un_128 : Tryz.prog.underlying 128 = some (TypeDesc.int IntKind.u64) := by kernel_rfl
theorem zv_128 : zvA Tryz.prog 128 = some (.v (Value.int IntKind.u64 0)) := by kernel_rfl
theorem sz_130 : szOf Tryz.prog 130 = some 1 := by kernel_rfl
theorem ag_130 : aggOf Tryz.prog 130 = some false := by kernel_rfl
theorem by_130 : byOf Tryz.prog 130 = some 0 := by kernel_rfl
theorem ze_130 : zeroOf Tryz.prog 130 = some [Value.tuple { toList := [Value.slice none 0 0, Value.slice none 0 0] }] := by kernel_rfl
theorem un_130 : Tryz.prog.underlying 130 = some (TypeDesc.tuple { toList := [23, 23] }) := by kernel_rfl
theorem zv_130 : zvA Tryz.prog 130 = some (.v (Value.tuple { toList := [Value.slice none 0 0, Value.slice none 0 0] })) := by kernel_rfl
theorem sz_135 : szOf Tryz.prog 135 = some 1 := by kernel_rfl
theorem ag_135 : aggOf Tryz.prog 135 = some false := by kernel_rfl
theorem by_135 : byOf Tryz.prog 135 = some 0 := by kernel_rfl
theorem ze_135 : zeroOf Tryz.prog 135 = some [Value.tuple { toList := [Value.int IntKind.i64 0, Value.int IntKind.i64 0] }] := by kernel_rfl
theorem un_135 : Tryz.prog.underlying 135 = some (TypeDesc.tuple { toList := [2, 2] }) := by kernel_rfl
theorem zv_135 : zvA Tryz.prog 135 = some (.v (Value.tuple { toList := [Value.int IntKind.i64 0, Value.int IntKind.i64 0] })) := by kernel_rfl
theorem sz_138 : szOf Tryz.prog 138 = some 1 := by kernel_rfl
theorem ag_138 : aggOf Tryz.prog 138 = some false := by kernel_rfl
theorem sl_138 : slOf Tryz.prog 138 = some 143 := by kernel_rfl
theorem by_138 : byOf Tryz.prog 138 = some 24 := by kernel_rfl
theorem ze_138 : zeroOf Tryz.prog 138 = some [Value.slice none 0 0] := by kernel_rfl
theorem un_138 : Tryz.prog.underlying 138 = some (TypeDesc.slice 143) := by kernel_rfl
theorem zv_138 : zvA Tryz.prog 138 = some (.v (Value.slice none 0 0)) := by kernel_rfl
theorem sz_140 : szOf Tryz.prog 140 = some 1 := by kernel_rfl
theorem ag_140 : aggOf Tryz.prog 140 = some false := by kernel_rfl
theorem by_140 : byOf Tryz.prog 140 = some 8 := by kernel_rfl
theorem ze_140 : zeroOf Tryz.prog 140 = some [Value.pointer none] := by kernel_rfl
theorem un_140 : Tryz.prog.underlying 140 = some (TypeDesc.pointer 106) := by kernel_rfl
theorem po_140 : ptrOf Tryz.prog 140 = some 106 := by kernel_rfl
theorem zv_140 : zvA Tryz.prog 140 = some (.v (Value.pointer none)) := by kernel_rfl
theorem sz_141 : szOf Tryz.prog 141 = some 1 := by kernel_rfl
theorem ag_141 : aggOf Tryz.prog 141 = some false := by kernel_rfl
theorem by_141 : byOf Tryz.prog 141 = some 8 := by kernel_rfl
theorem ze_141 : zeroOf Tryz.prog 141 = some [Value.pointer none] := by kernel_rfl
theorem un_141 : Tryz.prog.underlying 141 = some (TypeDesc.pointer 3) := by kernel_rfl
theorem po_141 : ptrOf Tryz.prog 141 = some 3 := by kernel_rfl
theorem zv_141 : zvA Tryz.prog 141 = some (.v (Value.pointer none)) := by kernel_rfl
theorem sz_143 : szOf Tryz.prog 143 = some 2 := by kernel_rfl
theorem ag_143 : aggOf Tryz.prog 143 = some true := by kernel_rfl
theorem by_143 : byOf Tryz.prog 143 = some 16 := by kernel_rfl
theorem pl_143 : plOf Tryz.prog 143 = some (PL.str [(0, 1), (1, 1)]) := by kernel_rfl
theorem ze_143 : zeroOf Tryz.prog 143 = some [Value.int IntKind.i64 0, Value.pointer none] := by kernel_rfl
theorem zv_143 : zvA Tryz.prog 143 = some (.agg [.v (Value.int IntKind.i64 0), .v (Value.pointer none)]) := by kernel_rfl
theorem fl_143_0 : fldOf Tryz.prog 143 0 = some (0, 3, 1) := by kernel_rfl
theorem fl_143_1 : fldOf Tryz.prog 143 1 = some (1, 141, 1) := by kernel_rfl
theorem sz_145 : szOf Tryz.prog 145 = some 2 := by kernel_rfl
theorem ag_145 : aggOf Tryz.prog 145 = some true := by kernel_rfl
theorem by_145 : byOf Tryz.prog 145 = some 16 := by kernel_rfl
theorem pl_145 : plOf Tryz.prog 145 = some (PL.str [(0, 1), (1, 1)]) := by kernel_rfl
theorem ze_145 : zeroOf Tryz.prog 145 = some [Value.int IntKind.i64 0, Value.int IntKind.i64 0] := by kernel_rfl
theorem eq_145 : eqOf Tryz.prog 145 = some [(0, false), (1, false)] := by kernel_rfl
theorem ko_145 (x0 x1 : AV) : keyOkA Tryz.prog 145 (.agg [x0, x1]) = true := by kernel_rfl
theorem zv_145 : zvA Tryz.prog 145 = some (.agg [.v (Value.int IntKind.i64 0), .v (Value.int IntKind.i64 0)]) := by kernel_rfl
theorem fl_145_0 : fldOf Tryz.prog 145 0 = some (0, 2, 1) := by kernel_rfl
theorem fl_145_1 : fldOf Tryz.prog 145 1 = some (1, 3, 1) := by kernel_rfl
theorem sz_146 : szOf Tryz.prog 146 = some 1 := by kernel_rfl
theorem ag_146 : aggOf Tryz.prog 146 = some false := by kernel_rfl
theorem by_146 : byOf Tryz.prog 146 = some 8 := by kernel_rfl
theorem ze_146 : zeroOf Tryz.prog 146 = some [Value.nilFunc] := by kernel_rfl
theorem zv_146 : zvA Tryz.prog 146 = some (.v (Value.nilFunc)) := by kernel_rfl
theorem sz_147 : szOf Tryz.prog 147 = some 1 := by kernel_rfl
theorem ag_147 : aggOf Tryz.prog 147 = some false := by kernel_rfl
theorem by_147 : byOf Tryz.prog 147 = some 8 := by kernel_rfl
theorem ze_147 : zeroOf Tryz.prog 147 = some [Value.pointer none] := by kernel_rfl
theorem un_147 : Tryz.prog.underlying 147 = some (TypeDesc.pointer 70) := by kernel_rfl
theorem po_147 : ptrOf Tryz.prog 147 = some 70 := by kernel_rfl
theorem zv_147 : zvA Tryz.prog 147 = some (.v (Value.pointer none)) := by kernel_rfl
theorem sz_148 : szOf Tryz.prog 148 = some 4 := by kernel_rfl
theorem ag_148 : aggOf Tryz.prog 148 = some true := by kernel_rfl
theorem ar_148 : arrOf Tryz.prog 148 = some (4, 2) := by kernel_rfl
theorem by_148 : byOf Tryz.prog 148 = some 32 := by kernel_rfl
theorem pl_148 : plOf Tryz.prog 148 = some (PL.arr 1) := by kernel_rfl
theorem ze_148 : zeroOf Tryz.prog 148 = some [Value.int IntKind.i64 0, Value.int IntKind.i64 0, Value.int IntKind.i64 0, Value.int IntKind.i64 0] := by kernel_rfl
theorem un_148 : Tryz.prog.underlying 148 = some (TypeDesc.array 4 2) := by kernel_rfl
theorem zv_148 : zvA Tryz.prog 148 = some (.agg [.v (Value.int IntKind.i64 0), .v (Value.int IntKind.i64 0), .v (Value.int IntKind.i64 0), .v (Value.int IntKind.i64 0)]) := by kernel_rfl
theorem sz_150 : szOf Tryz.prog 150 = some 1 := by kernel_rfl
theorem ag_150 : aggOf Tryz.prog 150 = some false := by kernel_rfl
theorem by_150 : byOf Tryz.prog 150 = some 8 := by kernel_rfl
theorem ze_150 : zeroOf Tryz.prog 150 = some [Value.int IntKind.i64 0] := by kernel_rfl
theorem un_150 : Tryz.prog.underlying 150 = some (TypeDesc.int IntKind.i64) := by kernel_rfl
theorem zv_150 : zvA Tryz.prog 150 = some (.v (Value.int IntKind.i64 0)) := by kernel_rfl
theorem sz_151 : szOf Tryz.prog 151 = some 1 := by kernel_rfl
theorem ag_151 : aggOf Tryz.prog 151 = some false := by kernel_rfl
theorem by_151 : byOf Tryz.prog 151 = some 0 := by kernel_rfl
theorem ze_151 : zeroOf Tryz.prog 151 = some [Value.tuple { toList := [Value.int IntKind.i64 0, Value.int IntKind.i64 0] }] := by kernel_rfl
theorem un_151 : Tryz.prog.underlying 151 = some (TypeDesc.tuple { toList := [3, 150] }) := by kernel_rfl
theorem zv_151 : zvA Tryz.prog 151 = some (.v (Value.tuple { toList := [Value.int IntKind.i64 0, Value.int IntKind.i64 0] })) := by kernel_rfl
theorem sz_155 : szOf Tryz.prog 155 = some 1 := by kernel_rfl
theorem ag_155 : aggOf Tryz.prog 155 = some false := by kernel_rfl
theorem by_155 : byOf Tryz.prog 155 = some 0 := by kernel_rfl
theorem ze_155 : zeroOf Tryz.prog 155 = some [Value.tuple { toList := [Value.int IntKind.i64 0, Value.bool false] }] := by kernel_rfl
theorem un_155 : Tryz.prog.underlying 155 = some (TypeDesc.tuple { toList := [3, 4] }) := by kernel_rfl
theorem zv_155 : zvA Tryz.prog 155 = some (.v (Value.tuple { toList := [Value.int IntKind.i64 0, Value.bool false] })) := by kernel_rfl
theorem sz_158 : szOf Tryz.prog 158 = some 1 := by kernel_rfl
theorem ag_158 : aggOf Tryz.prog 158 = some false := by kernel_rfl
theorem by_158 : byOf Tryz.prog 158 = some 4 := by kernel_rfl
theorem ze_158 : zeroOf Tryz.prog 158 = some [Value.int IntKind.u32 0] := by kernel_rfl
theorem un_158 : Tryz.prog.underlying 158 = some (TypeDesc.int IntKind.u32) := by kernel_rfl
theorem zv_158 : zvA Tryz.prog 158 = some (.v (Value.int IntKind.u32 0)) := by kernel_rfl
theorem sz_160 : szOf Tryz.prog 160 = some 1 := by kernel_rfl
theorem ag_160 : aggOf Tryz.prog 160 = some false := by kernel_rfl
theorem by_160 : byOf Tryz.prog 160 = some 8 := by kernel_rfl
theorem ze_160 : zeroOf Tryz.prog 160 = some [Value.int IntKind.u64 0] := by kernel_rfl
theorem un_160 : Tryz.prog.underlying 160 = some (TypeDesc.int IntKind.u64) := by kernel_rfl
theorem zv_160 : zvA Tryz.prog 160 = some (.v (Value.int IntKind.u64 0)) := by kernel_rfl
theorem sz_162 : szOf Tryz.prog 162 = some 1 := by kernel_rfl
theorem ag_162 : aggOf Tryz.prog 162 = some false := by kernel_rfl
theorem by_162 : byOf Tryz.prog 162 = some 8 := by kernel_rfl
theorem ze_162 : zeroOf Tryz.prog 162 = some [Value.int IntKind.u64 0] := by kernel_rfl
theorem un_162 : Tryz.prog.underlying 162 = some (TypeDesc.int IntKind.u64) := by kernel_rfl
theorem zv_162 : zvA Tryz.prog 162 = some (.v (Value.int IntKind.u64 0)) := by kernel_rfl
theorem sz_168 : szOf Tryz.prog 168 = some 1 := by kernel_rfl
theorem ag_168 : aggOf Tryz.prog 168 = some false := by kernel_rfl
theorem by_168 : byOf Tryz.prog 168 = some 8 := by kernel_rfl
theorem ze_168 : zeroOf Tryz.prog 168 = some [Value.pointer none] := by kernel_rfl
theorem un_168 : Tryz.prog.underlying 168 = some (TypeDesc.pointer 162) := by kernel_rfl
theorem po_168 : ptrOf Tryz.prog 168 = some 162 := by kernel_rfl
theorem zv_168 : zvA Tryz.prog 168 = some (.v (Value.pointer none)) := by kernel_rfl
theorem sz_169 : szOf Tryz.prog 169 = some 1 := by kernel_rfl
theorem ag_169 : aggOf Tryz.prog 169 = some false := by kernel_rfl
theorem by_169 : byOf Tryz.prog 169 = some 0 := by kernel_rfl
theorem ze_169 : zeroOf Tryz.prog 169 = some [Value.tuple { toList := [Value.int IntKind.i64 0, Value.int IntKind.i64 0] }] := by kernel_rfl
theorem un_169 : Tryz.prog.underlying 169 = some (TypeDesc.tuple { toList := [3, 3] }) := by kernel_rfl
theorem zv_169 : zvA Tryz.prog 169 = some (.v (Value.tuple { toList := [Value.int IntKind.i64 0, Value.int IntKind.i64 0] })) := by kernel_rfl
theorem pf_3 : plainFn Tryz.prog 3 = true := by kernel_rfl
theorem pf_4 : plainFn Tryz.prog 4 = true := by kernel_rfl
theorem pf_5 : plainFn Tryz.prog 5 = true := by kernel_rfl
theorem pf_6 : plainFn Tryz.prog 6 = true := by kernel_rfl
theorem pf_7 : plainFn Tryz.prog 7 = true := by kernel_rfl
theorem pf_8 : plainFn Tryz.prog 8 = true := by kernel_rfl
theorem pf_9 : plainFn Tryz.prog 9 = true := by kernel_rfl
theorem pf_10 : plainFn Tryz.prog 10 = true := by kernel_rfl
theorem pf_11 : plainFn Tryz.prog 11 = true := by kernel_rfl
theorem pf_12 : plainFn Tryz.prog 12 = true := by kernel_rfl
theorem pf_13 : plainFn Tryz.prog 13 = true := by kernel_rfl
theorem pf_14 : plainFn Tryz.prog 14 = true := by kernel_rfl
theorem pf_15 : plainFn Tryz.prog 15 = true := by kernel_rfl
theorem pf_16 : plainFn Tryz.prog 16 = true := by kernel_rfl
theorem pf_17 : plainFn Tryz.prog 17 = true := by kernel_rfl
theorem pf_18 : plainFn Tryz.prog 18 = true := by kernel_rfl
theorem pf_19 : plainFn Tryz.prog 19 = true := by kernel_rfl
theorem pf_20 : plainFn Tryz.prog 20 = true := by kernel_rfl
theorem pf_21 : plainFn Tryz.prog 21 = true := by kernel_rfl
theorem pf_22 : plainFn Tryz.prog 22 = true := by kernel_rfl
theorem pf_23 : plainFn Tryz.prog 23 = true := by kernel_rfl
theorem pf_24 : plainFn Tryz.prog 24 = true := by kernel_rfl
theorem pf_25 : plainFn Tryz.prog 25 = true := by kernel_rfl
theorem pf_26 : plainFn Tryz.prog 26 = true := by kernel_rfl
theorem pf_27 : plainFn Tryz.prog 27 = true := by kernel_rfl
theorem pf_28 : plainFn Tryz.prog 28 = true := by kernel_rfl
theorem pf_29 : plainFn Tryz.prog 29 = true := by kernel_rfl
theorem pf_30 : plainFn Tryz.prog 30 = true := by kernel_rfl
theorem pf_31 : plainFn Tryz.prog 31 = true := by kernel_rfl
theorem pf_32 : plainFn Tryz.prog 32 = true := by kernel_rfl
theorem pf_33 : plainFn Tryz.prog 33 = true := by kernel_rfl
theorem pf_34 : plainFn Tryz.prog 34 = true := by kernel_rfl
theorem pf_35 : plainFn Tryz.prog 35 = true := by kernel_rfl
theorem pf_36 : plainFn Tryz.prog 36 = true := by kernel_rfl
theorem pf_37 : plainFn Tryz.prog 37 = true := by kernel_rfl
theorem pf_38 : plainFn Tryz.prog 38 = true := by kernel_rfl
theorem pf_39 : plainFn Tryz.prog 39 = true := by kernel_rfl
theorem pf_40 : plainFn Tryz.prog 40 = true := by kernel_rfl
theorem pf_41 : plainFn Tryz.prog 41 = true := by kernel_rfl
theorem pf_42 : plainFn Tryz.prog 42 = true := by kernel_rfl
theorem pf_43 : plainFn Tryz.prog 43 = true := by kernel_rfl
theorem pf_44 : plainFn Tryz.prog 44 = true := by kernel_rfl
theorem pf_45 : plainFn Tryz.prog 45 = true := by kernel_rfl
theorem pf_46 : plainFn Tryz.prog 46 = true := by kernel_rfl
theorem pf_47 : plainFn Tryz.prog 47 = true := by kernel_rfl
theorem pf_48 : plainFn Tryz.prog 48 = true := by kernel_rfl
theorem pf_49 : plainFn Tryz.prog 49 = true := by kernel_rfl
theorem pf_50 : plainFn Tryz.prog 50 = true := by kernel_rfl
theorem pf_51 : plainFn Tryz.prog 51 = true := by kernel_rfl
theorem pf_52 : plainFn Tryz.prog 52 = true := by kernel_rfl
theorem pf_53 : plainFn Tryz.prog 53 = true := by kernel_rfl
theorem pf_54 : plainFn Tryz.prog 54 = true := by kernel_rfl
theorem pf_55 : plainFn Tryz.prog 55 = true := by kernel_rfl
theorem pf_56 : plainFn Tryz.prog 56 = true := by kernel_rfl
theorem pf_57 : plainFn Tryz.prog 57 = true := by kernel_rfl
theorem pf_58 : plainFn Tryz.prog 58 = true := by kernel_rfl
theorem pf_59 : plainFn Tryz.prog 59 = true := by kernel_rfl
theorem pf_60 : plainFn Tryz.prog 60 = true := by kernel_rfl
theorem pf_61 : plainFn Tryz.prog 61 = true := by kernel_rfl
theorem pf_62 : plainFn Tryz.prog 62 = true := by kernel_rfl
theorem pf_63 : plainFn Tryz.prog 63 = true := by kernel_rfl
theorem pf_64 : plainFn Tryz.prog 64 = true := by kernel_rfl
theorem pf_65 : plainFn Tryz.prog 65 = true := by kernel_rfl
theorem pf_66 : plainFn Tryz.prog 66 = true := by kernel_rfl
theorem pf_67 : plainFn Tryz.prog 67 = true := by kernel_rfl
theorem pf_68 : plainFn Tryz.prog 68 = true := by kernel_rfl
theorem pf_69 : plainFn Tryz.prog 69 = true := by kernel_rfl
theorem pf_70 : plainFn Tryz.prog 70 = true := by kernel_rfl
theorem pf_71 : plainFn Tryz.prog 71 = true := by kernel_rfl
theorem pf_72 : plainFn Tryz.prog 72 = true := by kernel_rfl
theorem pf_73 : plainFn Tryz.prog 73 = true := by kernel_rfl
theorem pf_74 : plainFn Tryz.prog 74 = true := by kernel_rfl
theorem pf_75 : plainFn Tryz.prog 75 = true := by kernel_rfl
theorem pf_76 : plainFn Tryz.prog 76 = true := by kernel_rfl
theorem pf_77 : plainFn Tryz.prog 77 = true := by kernel_rfl
theorem pf_78 : plainFn Tryz.prog 78 = true := by kernel_rfl
theorem pf_79 : plainFn Tryz.prog 79 = true := by kernel_rfl
theorem pf_80 : plainFn Tryz.prog 80 = true := by kernel_rfl
theorem pf_81 : plainFn Tryz.prog 81 = true := by kernel_rfl
theorem pf_82 : plainFn Tryz.prog 82 = true := by kernel_rfl
theorem pf_83 : plainFn Tryz.prog 83 = true := by kernel_rfl
theorem pf_84 : plainFn Tryz.prog 84 = true := by kernel_rfl
theorem pf_85 : plainFn Tryz.prog 85 = true := by kernel_rfl
theorem pf_86 : plainFn Tryz.prog 86 = true := by kernel_rfl
theorem pf_87 : plainFn Tryz.prog 87 = true := by kernel_rfl
theorem pf_88 : plainFn Tryz.prog 88 = true := by kernel_rfl
theorem pf_89 : plainFn Tryz.prog 89 = true := by kernel_rfl
theorem pf_90 : plainFn Tryz.prog 90 = true := by kernel_rfl
theorem pf_91 : plainFn Tryz.prog 91 = true := by kernel_rfl
theorem pf_92 : plainFn Tryz.prog 92 = true := by kernel_rfl
theorem pf_93 : plainFn Tryz.prog 93 = true := by kernel_rfl
theorem pf_94 : plainFn Tryz.prog 94 = true := by kernel_rfl
theorem pf_95 : plainFn Tryz.prog 95 = true := by kernel_rfl
theorem pf_96 : plainFn Tryz.prog 96 = true := by kernel_rfl
theorem pf_97 : plainFn Tryz.prog 97 = true := by kernel_rfl
theorem pf_98 : plainFn Tryz.prog 98 = true := by kernel_rfl
theorem pf_99 : plainFn Tryz.prog 99 = true := by kernel_rfl
theorem pf_100 : plainFn Tryz.prog 100 = true := by kernel_rfl
theorem pf_101 : plainFn Tryz.prog 101 = true := by kernel_rfl
theorem pf_102 : plainFn Tryz.prog 102 = true := by kernel_rfl
theorem pf_103 : plainFn Tryz.prog 103 = true := by kernel_rfl
theorem pf_104 : plainFn Tryz.prog 104 = true := by kernel_rfl
theorem pf_105 : plainFn Tryz.prog 105 = true := by kernel_rfl
theorem pf_106 : plainFn Tryz.prog 106 = true := by kernel_rfl
theorem pf_107 : plainFn Tryz.prog 107 = true := by kernel_rfl
theorem pf_108 : plainFn Tryz.prog 108 = true := by kernel_rfl
theorem pf_109 : plainFn Tryz.prog 109 = true := by kernel_rfl
theorem pf_110 : plainFn Tryz.prog 110 = true := by kernel_rfl
theorem pf_111 : plainFn Tryz.prog 111 = true := by kernel_rfl
theorem pf_112 : plainFn Tryz.prog 112 = true := by kernel_rfl
theorem mixed : Tryz.prog.follows .mixedOrders = true := by kernel_rfl
attribute [go_sem] sz_0 ag_0 by_0 ze_0 un_0 zv_0 sz_1 ag_1 by_1 ze_1 zv_1 sz_2 ag_2 by_2 ze_2 un_2 zv_2 sz_3 ag_3 by_3 ze_3 un_3 zv_3 sz_4 ag_4 by_4 ze_4 un_4 zv_4 sz_5 ag_5 by_5 ze_5 un_5 zv_5 sz_6 ag_6 by_6 ze_6 un_6 zv_6 sz_7 ag_7 by_7 pl_7 ze_7 eq_7 ko_7 zv_7 fl_7_0 fl_7_1 fl_7_2 fl_7_3 sz_8 ag_8 by_8 pl_8 ze_8 eq_8 ko_8 zv_8 fl_8_0 fl_8_1 fl_8_2 fl_8_3 sz_9 ag_9 by_9 ze_9 un_9 zv_9 sz_10 ag_10 by_10 ze_10 un_10 zv_10 sz_22 ag_22 sl_22 by_22 ze_22 un_22 zv_22 sz_23 ag_23 sl_23 by_23 ze_23 un_23 zv_23 sz_24 ag_24 by_24 ze_24 un_24 zv_24 sz_25 ag_25 by_25 ze_25 un_25 zv_25 sz_29 ag_29 by_29 pl_29 ze_29 eq_29 ko_29 zv_29 fl_29_0 fl_29_1 fl_29_2 sz_30 ag_30 by_30 pl_30 ze_30 zv_30 fl_30_0 fl_30_1 fl_30_2 fl_30_3 fl_30_4 sz_31 ag_31 by_31 pl_31 ze_31 zv_31 fl_31_0 fl_31_1 fl_31_2 fl_31_3 fl_31_4 sz_32 ag_32 by_32 ze_32 un_32 zv_32 sz_37 ag_37 sl_37 by_37 ze_37 un_37 zv_37 sz_39 ag_39 by_39 pl_39 ze_39 zv_39 fl_39_0 fl_39_1 sz_41 ag_41 by_41 ze_41 un_41 zv_41 sz_45 ag_45 sl_45 by_45 ze_45 un_45 zv_45 sz_46 ag_46 sl_46 by_46 ze_46 un_46 zv_46 sz_48 ag_48 by_48 pl_48 ze_48 zv_48 fl_48_0 fl_48_1 fl_48_2 fl_48_3 fl_48_4 fl_48_5 sz_50 ag_50 by_50 pl_50 ze_50 zv_50 fl_50_0 fl_50_1 fl_50_2 fl_50_3 fl_50_4 fl_50_5 fl_50_6 fl_50_7 fl_50_8 fl_50_9 fl_50_10 sz_51 ag_51 by_51 ze_51 un_51 zv_51 sz_53 ag_53 by_53 ze_53 un_53 po_53 zv_53 sz_55 ag_55 by_55 pl_55 ze_55 zv_55 fl_55_0 sz_58 ag_58 sl_58 by_58 ze_58 un_58 zv_58 sz_60 ag_60 by_60 ze_60 un_60 po_60 zv_60 sz_61 ag_61 by_61 ze_61 un_61 zv_61 sz_65 ag_65 by_65 pl_65 ze_65 eq_65 ko_65 zv_65 fl_65_0 fl_65_1 sz_67 ag_67 by_67 pl_67 ze_67 zv_67 fl_67_0 fl_67_1 sz_68 ag_68 sl_68 by_68 ze_68 un_68 zv_68 sz_70 ag_70 by_70 pl_70 ze_70 zv_70 fl_70_0 sz_71 ag_71 by_71 ze_71 un_71 mp_71 zv_71 sz_72 ag_72 by_72 ze_72 un_72 mp_72 zv_72 sz_74 ag_74 by_74 pl_74 ze_74 zv_74 fl_74_0 fl_74_1 fl_74_2 fl_74_3 fl_74_4 fl_74_5 fl_74_6 fl_74_7 fl_74_8 sz_80 ag_80 by_80 pl_80 ze_80 zv_80 fl_80_0 fl_80_1 fl_80_2 sz_86 ag_86 by_86 ze_86 zv_86 sz_89 ag_89 by_89 ze_89 zv_89 sz_91 ag_91 sl_91 by_91 ze_91 un_91 zv_91 sz_93 ag_93 by_93 pl_93 ze_93 zv_93 fl_93_0 fl_93_1 fl_93_2 sz_98 ag_98 by_98 ze_98 zv_98 sz_100 ag_100 by_100 pl_100 ze_100 eq_100 ko_100 zv_100 fl_100_0 fl_100_1 fl_100_2 fl_100_3 fl_100_4 fl_100_5 sz_106 ag_106 by_106 pl_106 ze_106 eq_106 zv_106 fl_106_0 fl_106_1 fl_106_2 fl_106_3 fl_106_4 fl_106_5 fl_106_6 fl_106_7 fl_106_8 fl_106_9 sz_108 ag_108 by_108 ze_108 un_108 po_108 zv_108 sz_109 ag_109 by_109 ze_109 un_109 po_109 zv_109 sz_111 ag_111 ar_111 by_111 pl_111 ze_111 un_111 zv_111 sz_114 ag_114 ar_114 by_114 pl_114 ze_114 un_114 zv_114 sz_115 ag_115 by_115 ze_115 un_115 zv_115 sz_117 ag_117 by_117 ze_117 zv_117 sz_119 ag_119 by_119 ze_119 zv_119 sz_120 ag_120 by_120 ze_120 zv_120 sz_128 ag_128 by_128 ze_128 un_128 zv_128 sz_130 ag_130 by_130 ze_130 un_130 zv_130 sz_135 ag_135 by_135 ze_135 un_135 zv_135 sz_138 ag_138 sl_138 by_138 ze_138 un_138 zv_138 sz_140 ag_140 by_140 ze_140 un_140 po_140 zv_140 sz_141 ag_141 by_141 ze_141 un_141 po_141 zv_141 sz_143 ag_143 by_143 pl_143 ze_143 zv_143 fl_143_0 fl_143_1 sz_145 ag_145 by_145 pl_145 ze_145 eq_145 ko_145 zv_145 fl_145_0 fl_145_1 sz_146 ag_146 by_146 ze_146 zv_146 sz_147 ag_147 by_147 ze_147 un_147 po_147 zv_147 sz_148 ag_148 ar_148 by_148 pl_148 ze_148 un_148 zv_148 sz_150 ag_150 by_150 ze_150 un_150 zv_150 sz_151 ag_151 by_151 ze_151 un_151 zv_151 sz_155 ag_155 by_155 ze_155 un_155 zv_155 sz_158 ag_158 by_158 ze_158 un_158 zv_158 sz_160 ag_160 by_160 ze_160 un_160 zv_160 sz_162 ag_162 by_162 ze_162 un_162 zv_162 sz_168 ag_168 by_168 ze_168 un_168 po_168 zv_168 sz_169 ag_169 by_169 ze_169 un_169 zv_169 pf_3 pf_4 pf_5 pf_6 pf_7 pf_8 pf_9 pf_10 pf_11 pf_12 pf_13 pf_14 pf_15 pf_16 pf_17 pf_18 pf_19 pf_20 pf_21 pf_22 pf_23 pf_24 pf_25 pf_26 pf_27 pf_28 pf_29 pf_30 pf_31 pf_32 pf_33 pf_34 pf_35 pf_36 pf_37 pf_38 pf_39 pf_40 pf_41 pf_42 pf_43 pf_44 pf_45 pf_46 pf_47 pf_48 pf_49 pf_50 pf_51 pf_52 pf_53 pf_54 pf_55 pf_56 pf_57 pf_58 pf_59 pf_60 pf_61 pf_62 pf_63 pf_64 pf_65 pf_66 pf_67 pf_68 pf_69 pf_70 pf_71 pf_72 pf_73 pf_74 pf_75 pf_76 pf_77 pf_78 pf_79 pf_80 pf_81 pf_82 pf_83 pf_84 pf_85 pf_86 pf_87 pf_88 pf_89 pf_90 pf_91 pf_92 pf_93 pf_94 pf_95 pf_96 pf_97 pf_98 pf_99 pf_100 pf_101 pf_102 pf_103 pf_104 pf_105 pf_106 pf_107 pf_108 pf_109 pf_110 pf_111 pf_112
end Pm
end Go.Proofs.YtdgoompjoeffcaaGreat
