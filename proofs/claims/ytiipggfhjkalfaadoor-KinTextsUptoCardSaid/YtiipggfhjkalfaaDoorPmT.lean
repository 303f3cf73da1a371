/- What PM asks of the program's types: one fact each. Printed by types.py. -/
import Derived.Test.YtiipggfhjkalfaaDoorProg
import Derived.Test.YtiipggfhjkalfaaDoorPmI
import Derived.KernelRfl
open Go Go.Proofs
namespace Go.Proofs.YtiipggfhjkalfaaDoor
namespace Pm
theorem sz_0 : szOf Tryd.prog 0 = some 1 := by kernel_rfl
theorem ag_0 : aggOf Tryd.prog 0 = some false := by kernel_rfl
theorem by_0 : byOf Tryd.prog 0 = some 0 := by kernel_rfl
theorem ze_0 : zeroOf Tryd.prog 0 = some [Value.tuple { toList := [] }] := by kernel_rfl
theorem un_0 : Tryd.prog.underlying 0 = some (TypeDesc.tuple { toList := [] }) := by kernel_rfl
theorem zv_0 : zvA Tryd.prog 0 = some (.v (Value.tuple { toList := [] })) := by kernel_rfl
theorem sz_1 : szOf Tryd.prog 1 = some 1 := by kernel_rfl
theorem ag_1 : aggOf Tryd.prog 1 = some false := by kernel_rfl
theorem by_1 : byOf Tryd.prog 1 = some 8 := by kernel_rfl
theorem ze_1 : zeroOf Tryd.prog 1 = some [Value.nilFunc] := by kernel_rfl
theorem zv_1 : zvA Tryd.prog 1 = some (.v (Value.nilFunc)) := by kernel_rfl
theorem sz_2 : szOf Tryd.prog 2 = some 1 := by kernel_rfl
theorem ag_2 : aggOf Tryd.prog 2 = some false := by kernel_rfl
theorem by_2 : byOf Tryd.prog 2 = some 8 := by kernel_rfl
theorem ze_2 : zeroOf Tryd.prog 2 = some [Value.int IntKind.i64 0] := by kernel_rfl
theorem un_2 : Tryd.prog.underlying 2 = some (TypeDesc.int IntKind.i64) := by kernel_rfl
theorem zv_2 : zvA Tryd.prog 2 = some (.v (Value.int IntKind.i64 0)) := by kernel_rfl
theorem sz_3 : szOf Tryd.prog 3 = some 1 := by kernel_rfl
theorem ag_3 : aggOf Tryd.prog 3 = some false := by kernel_rfl
theorem by_3 : byOf Tryd.prog 3 = some 8 := by kernel_rfl
theorem ze_3 : zeroOf Tryd.prog 3 = some [Value.int IntKind.i64 0] := by kernel_rfl
theorem un_3 : Tryd.prog.underlying 3 = some (TypeDesc.int IntKind.i64) := by kernel_rfl
theorem zv_3 : zvA Tryd.prog 3 = some (.v (Value.int IntKind.i64 0)) := by kernel_rfl
theorem sz_4 : szOf Tryd.prog 4 = some 1 := by kernel_rfl
theorem ag_4 : aggOf Tryd.prog 4 = some false := by kernel_rfl
theorem by_4 : byOf Tryd.prog 4 = some 1 := by kernel_rfl
theorem ze_4 : zeroOf Tryd.prog 4 = some [Value.bool false] := by kernel_rfl
theorem un_4 : Tryd.prog.underlying 4 = some TypeDesc.bool := by kernel_rfl
theorem zv_4 : zvA Tryd.prog 4 = some (.v (Value.bool false)) := by kernel_rfl
theorem sz_5 : szOf Tryd.prog 5 = some 1 := by kernel_rfl
theorem ag_5 : aggOf Tryd.prog 5 = some false := by kernel_rfl
theorem by_5 : byOf Tryd.prog 5 = some 1 := by kernel_rfl
theorem ze_5 : zeroOf Tryd.prog 5 = some [Value.int IntKind.u8 0] := by kernel_rfl
theorem un_5 : Tryd.prog.underlying 5 = some (TypeDesc.int IntKind.u8) := by kernel_rfl
theorem zv_5 : zvA Tryd.prog 5 = some (.v (Value.int IntKind.u8 0)) := by kernel_rfl
theorem sz_6 : szOf Tryd.prog 6 = some 1 := by kernel_rfl
theorem ag_6 : aggOf Tryd.prog 6 = some false := by kernel_rfl
theorem by_6 : byOf Tryd.prog 6 = some 1 := by kernel_rfl
theorem ze_6 : zeroOf Tryd.prog 6 = some [Value.int IntKind.u8 0] := by kernel_rfl
theorem un_6 : Tryd.prog.underlying 6 = some (TypeDesc.int IntKind.u8) := by kernel_rfl
theorem zv_6 : zvA Tryd.prog 6 = some (.v (Value.int IntKind.u8 0)) := by kernel_rfl
theorem sz_7 : szOf Tryd.prog 7 = some 4 := by kernel_rfl
theorem ag_7 : aggOf Tryd.prog 7 = some true := by kernel_rfl
theorem by_7 : byOf Tryd.prog 7 = some 24 := by kernel_rfl
theorem pl_7 : plOf Tryd.prog 7 = some (PL.str [(0, 1), (1, 1), (2, 1), (3, 1)]) := by kernel_rfl
theorem ze_7 : zeroOf Tryd.prog 7 = some [Value.int IntKind.i64 0, Value.int IntKind.i64 0, Value.bool false, Value.int IntKind.u8 0] := by kernel_rfl
theorem eq_7 : eqOf Tryd.prog 7 = some [(0, false), (1, false), (2, true), (3, false)] := by kernel_rfl
theorem zv_7 : zvA Tryd.prog 7 = some (.agg [.v (Value.int IntKind.i64 0), .v (Value.int IntKind.i64 0), .v (Value.bool false), .v (Value.int IntKind.u8 0)]) := by kernel_rfl
theorem fl_7_0 : fldOf Tryd.prog 7 0 = some (0, 2, 1) := by kernel_rfl
theorem fl_7_1 : fldOf Tryd.prog 7 1 = some (1, 3, 1) := by kernel_rfl
theorem fl_7_2 : fldOf Tryd.prog 7 2 = some (2, 4, 1) := by kernel_rfl
theorem fl_7_3 : fldOf Tryd.prog 7 3 = some (3, 6, 1) := by kernel_rfl
theorem sz_8 : szOf Tryd.prog 8 = some 4 := by kernel_rfl
theorem ag_8 : aggOf Tryd.prog 8 = some true := by kernel_rfl
theorem by_8 : byOf Tryd.prog 8 = some 24 := by kernel_rfl
theorem pl_8 : plOf Tryd.prog 8 = some (PL.str [(0, 1), (1, 1), (2, 1), (3, 1)]) := by kernel_rfl
theorem ze_8 : zeroOf Tryd.prog 8 = some [Value.int IntKind.i64 0, Value.int IntKind.i64 0, Value.bool false, Value.int IntKind.u8 0] := by kernel_rfl
theorem eq_8 : eqOf Tryd.prog 8 = some [(0, false), (1, false), (2, true), (3, false)] := by kernel_rfl
theorem zv_8 : zvA Tryd.prog 8 = some (.agg [.v (Value.int IntKind.i64 0), .v (Value.int IntKind.i64 0), .v (Value.bool false), .v (Value.int IntKind.u8 0)]) := by kernel_rfl
theorem fl_8_0 : fldOf Tryd.prog 8 0 = some (0, 2, 1) := by kernel_rfl
theorem fl_8_1 : fldOf Tryd.prog 8 1 = some (1, 3, 1) := by kernel_rfl
theorem fl_8_2 : fldOf Tryd.prog 8 2 = some (2, 4, 1) := by kernel_rfl
theorem fl_8_3 : fldOf Tryd.prog 8 3 = some (3, 6, 1) := by kernel_rfl
theorem sz_9 : szOf Tryd.prog 9 = some 1 := by kernel_rfl
theorem ag_9 : aggOf Tryd.prog 9 = some false := by kernel_rfl
theorem by_9 : byOf Tryd.prog 9 = some 16 := by kernel_rfl
theorem ze_9 : zeroOf Tryd.prog 9 = some [Value.string { data := { toList := [] } }] := by kernel_rfl
theorem un_9 : Tryd.prog.underlying 9 = some TypeDesc.string := by kernel_rfl
theorem zv_9 : zvA Tryd.prog 9 = some (.v (Value.string { data := { toList := [] } })) := by kernel_rfl
theorem sz_10 : szOf Tryd.prog 10 = some 1 := by kernel_rfl
theorem ag_10 : aggOf Tryd.prog 10 = some false := by kernel_rfl
theorem by_10 : byOf Tryd.prog 10 = some 16 := by kernel_rfl
theorem ze_10 : zeroOf Tryd.prog 10 = some [Value.string { data := { toList := [] } }] := by kernel_rfl
theorem un_10 : Tryd.prog.underlying 10 = some TypeDesc.string := by kernel_rfl
theorem zv_10 : zvA Tryd.prog 10 = some (.v (Value.string { data := { toList := [] } })) := by kernel_rfl
theorem sz_11 : szOf Tryd.prog 11 = some 1 := by kernel_rfl
theorem ag_11 : aggOf Tryd.prog 11 = some false := by kernel_rfl
theorem by_11 : byOf Tryd.prog 11 = some 16 := by kernel_rfl
theorem ze_11 : zeroOf Tryd.prog 11 = some [Value.string { data := { toList := [] } }] := by kernel_rfl
theorem un_11 : Tryd.prog.underlying 11 = some TypeDesc.string := by kernel_rfl
theorem zv_11 : zvA Tryd.prog 11 = some (.v (Value.string { data := { toList := [] } })) := by kernel_rfl
theorem sz_12 : szOf Tryd.prog 12 = some 1 := by kernel_rfl
theorem ag_12 : aggOf Tryd.prog 12 = some false := by kernel_rfl
theorem by_12 : byOf Tryd.prog 12 = some 8 := by kernel_rfl
theorem ze_12 : zeroOf Tryd.prog 12 = some [Value.int IntKind.u64 0] := by kernel_rfl
theorem un_12 : Tryd.prog.underlying 12 = some (TypeDesc.int IntKind.u64) := by kernel_rfl
theorem zv_12 : zvA Tryd.prog 12 = some (.v (Value.int IntKind.u64 0)) := by kernel_rfl
theorem sz_13 : szOf Tryd.prog 13 = some 2 := by kernel_rfl
theorem ag_13 : aggOf Tryd.prog 13 = some true := by kernel_rfl
theorem by_13 : byOf Tryd.prog 13 = some 24 := by kernel_rfl
theorem pl_13 : plOf Tryd.prog 13 = some (PL.str [(0, 1), (1, 1)]) := by kernel_rfl
theorem ze_13 : zeroOf Tryd.prog 13 = some [Value.string { data := { toList := [] } }, Value.int IntKind.u64 0] := by kernel_rfl
theorem zv_13 : zvA Tryd.prog 13 = some (.agg [.v (Value.string { data := { toList := [] } }), .v (Value.int IntKind.u64 0)]) := by kernel_rfl
theorem fl_13_0 : fldOf Tryd.prog 13 0 = some (0, 9, 1) := by kernel_rfl
theorem fl_13_1 : fldOf Tryd.prog 13 1 = some (1, 12, 1) := by kernel_rfl
theorem sz_14 : szOf Tryd.prog 14 = some 2 := by kernel_rfl
theorem ag_14 : aggOf Tryd.prog 14 = some true := by kernel_rfl
theorem by_14 : byOf Tryd.prog 14 = some 24 := by kernel_rfl
theorem pl_14 : plOf Tryd.prog 14 = some (PL.str [(0, 1), (1, 1)]) := by kernel_rfl
theorem ze_14 : zeroOf Tryd.prog 14 = some [Value.string { data := { toList := [] } }, Value.int IntKind.u64 0] := by kernel_rfl
theorem zv_14 : zvA Tryd.prog 14 = some (.agg [.v (Value.string { data := { toList := [] } }), .v (Value.int IntKind.u64 0)]) := by kernel_rfl
theorem fl_14_0 : fldOf Tryd.prog 14 0 = some (0, 9, 1) := by kernel_rfl
theorem fl_14_1 : fldOf Tryd.prog 14 1 = some (1, 12, 1) := by kernel_rfl
theorem sz_15 : szOf Tryd.prog 15 = some 1 := by kernel_rfl
theorem ag_15 : aggOf Tryd.prog 15 = some false := by kernel_rfl
theorem by_15 : byOf Tryd.prog 15 = some 8 := by kernel_rfl
theorem ze_15 : zeroOf Tryd.prog 15 = some [Value.pointer none] := by kernel_rfl
theorem un_15 : Tryd.prog.underlying 15 = some (TypeDesc.pointer 124) := by kernel_rfl
theorem po_15 : ptrOf Tryd.prog 15 = some 124 := by kernel_rfl
theorem zv_15 : zvA Tryd.prog 15 = some (.v (Value.pointer none)) := by kernel_rfl
theorem sz_16 : szOf Tryd.prog 16 = some 1 := by kernel_rfl
theorem ag_16 : aggOf Tryd.prog 16 = some false := by kernel_rfl
theorem by_16 : byOf Tryd.prog 16 = some 8 := by kernel_rfl
theorem ze_16 : zeroOf Tryd.prog 16 = some [Value.pointer none] := by kernel_rfl
theorem un_16 : Tryd.prog.underlying 16 = some (TypeDesc.pointer 127) := by kernel_rfl
theorem po_16 : ptrOf Tryd.prog 16 = some 127 := by kernel_rfl
theorem zv_16 : zvA Tryd.prog 16 = some (.v (Value.pointer none)) := by kernel_rfl
theorem sz_17 : szOf Tryd.prog 17 = some 1 := by kernel_rfl
theorem ag_17 : aggOf Tryd.prog 17 = some false := by kernel_rfl
theorem by_17 : byOf Tryd.prog 17 = some 8 := by kernel_rfl
theorem ze_17 : zeroOf Tryd.prog 17 = some [Value.pointer none] := by kernel_rfl
theorem un_17 : Tryd.prog.underlying 17 = some (TypeDesc.pointer 135) := by kernel_rfl
theorem po_17 : ptrOf Tryd.prog 17 = some 135 := by kernel_rfl
theorem zv_17 : zvA Tryd.prog 17 = some (.v (Value.pointer none)) := by kernel_rfl
theorem sz_18 : szOf Tryd.prog 18 = some 1 := by kernel_rfl
theorem ag_18 : aggOf Tryd.prog 18 = some true := by kernel_rfl
theorem by_18 : byOf Tryd.prog 18 = some 8 := by kernel_rfl
theorem pl_18 : plOf Tryd.prog 18 = some (PL.str [(0, 1)]) := by kernel_rfl
theorem ze_18 : zeroOf Tryd.prog 18 = some [Value.pointer none] := by kernel_rfl
theorem zv_18 : zvA Tryd.prog 18 = some (.agg [.v (Value.pointer none)]) := by kernel_rfl
theorem fl_18_0 : fldOf Tryd.prog 18 0 = some (0, 17, 1) := by kernel_rfl
theorem sz_19 : szOf Tryd.prog 19 = some 1 := by kernel_rfl
theorem ag_19 : aggOf Tryd.prog 19 = some true := by kernel_rfl
theorem by_19 : byOf Tryd.prog 19 = some 8 := by kernel_rfl
theorem pl_19 : plOf Tryd.prog 19 = some (PL.str [(0, 1)]) := by kernel_rfl
theorem ze_19 : zeroOf Tryd.prog 19 = some [Value.pointer none] := by kernel_rfl
theorem zv_19 : zvA Tryd.prog 19 = some (.agg [.v (Value.pointer none)]) := by kernel_rfl
theorem fl_19_0 : fldOf Tryd.prog 19 0 = some (0, 17, 1) := by kernel_rfl
theorem sz_20 : szOf Tryd.prog 20 = some 1 := by kernel_rfl
theorem ag_20 : aggOf Tryd.prog 20 = some false := by kernel_rfl
theorem by_20 : byOf Tryd.prog 20 = some 16 := by kernel_rfl
theorem ze_20 : zeroOf Tryd.prog 20 = some [Value.nilIface] := by kernel_rfl
theorem un_20 : Tryd.prog.underlying 20 = some (TypeDesc.interface { toList := [] }) := by kernel_rfl
theorem if_20 : isIfOf Tryd.prog 20 = true := by kernel_rfl
theorem zv_20 : zvA Tryd.prog 20 = some (.v (Value.nilIface)) := by kernel_rfl
theorem sz_21 : szOf Tryd.prog 21 = some 1 := by kernel_rfl
theorem ag_21 : aggOf Tryd.prog 21 = some false := by kernel_rfl
theorem by_21 : byOf Tryd.prog 21 = some 4 := by kernel_rfl
theorem ze_21 : zeroOf Tryd.prog 21 = some [Value.int IntKind.i32 0] := by kernel_rfl
theorem un_21 : Tryd.prog.underlying 21 = some (TypeDesc.int IntKind.i32) := by kernel_rfl
theorem zv_21 : zvA Tryd.prog 21 = some (.v (Value.int IntKind.i32 0)) := by kernel_rfl
theorem sz_22 : szOf Tryd.prog 22 = some 1 := by kernel_rfl
theorem ag_22 : aggOf Tryd.prog 22 = some false := by kernel_rfl
theorem sl_22 : slOf Tryd.prog 22 = some 3 := by kernel_rfl
theorem by_22 : byOf Tryd.prog 22 = some 24 := by kernel_rfl
theorem ze_22 : zeroOf Tryd.prog 22 = some [Value.slice none 0 0] := by kernel_rfl
theorem un_22 : Tryd.prog.underlying 22 = some (TypeDesc.slice 3) := by kernel_rfl
theorem zv_22 : zvA Tryd.prog 22 = some (.v (Value.slice none 0 0)) := by kernel_rfl
theorem sz_23 : szOf Tryd.prog 23 = some 1 := by kernel_rfl
theorem ag_23 : aggOf Tryd.prog 23 = some false := by kernel_rfl
theorem by_23 : byOf Tryd.prog 23 = some 8 := by kernel_rfl
theorem ze_23 : zeroOf Tryd.prog 23 = some [Value.int IntKind.i64 0] := by kernel_rfl
theorem un_23 : Tryd.prog.underlying 23 = some (TypeDesc.int IntKind.i64) := by kernel_rfl
theorem zv_23 : zvA Tryd.prog 23 = some (.v (Value.int IntKind.i64 0)) := by kernel_rfl
theorem sz_24 : szOf Tryd.prog 24 = some 1 := by kernel_rfl
theorem ag_24 : aggOf Tryd.prog 24 = some false := by kernel_rfl
theorem by_24 : byOf Tryd.prog 24 = some 0 := by kernel_rfl
theorem ze_24 : zeroOf Tryd.prog 24 = some [Value.tuple { toList := [Value.string { data := { toList := [] } }, Value.int IntKind.i64 0] }] := by kernel_rfl
theorem un_24 : Tryd.prog.underlying 24 = some (TypeDesc.tuple { toList := [9, 23] }) := by kernel_rfl
theorem zv_24 : zvA Tryd.prog 24 = some (.v (Value.tuple { toList := [Value.string { data := { toList := [] } }, Value.int IntKind.i64 0] })) := by kernel_rfl
theorem sz_25 : szOf Tryd.prog 25 = some 1 := by kernel_rfl
theorem ag_25 : aggOf Tryd.prog 25 = some false := by kernel_rfl
theorem by_25 : byOf Tryd.prog 25 = some 8 := by kernel_rfl
theorem ze_25 : zeroOf Tryd.prog 25 = some [Value.nilFunc] := by kernel_rfl
theorem zv_25 : zvA Tryd.prog 25 = some (.v (Value.nilFunc)) := by kernel_rfl
theorem sz_26 : szOf Tryd.prog 26 = some 1 := by kernel_rfl
theorem ag_26 : aggOf Tryd.prog 26 = some false := by kernel_rfl
theorem by_26 : byOf Tryd.prog 26 = some 0 := by kernel_rfl
theorem ze_26 : zeroOf Tryd.prog 26 = some [Value.tuple { toList := [Value.slice none 0 0, Value.int IntKind.i64 0] }] := by kernel_rfl
theorem un_26 : Tryd.prog.underlying 26 = some (TypeDesc.tuple { toList := [22, 23] }) := by kernel_rfl
theorem zv_26 : zvA Tryd.prog 26 = some (.v (Value.tuple { toList := [Value.slice none 0 0, Value.int IntKind.i64 0] })) := by kernel_rfl
theorem sz_27 : szOf Tryd.prog 27 = some 1 := by kernel_rfl
theorem ag_27 : aggOf Tryd.prog 27 = some false := by kernel_rfl
theorem by_27 : byOf Tryd.prog 27 = some 8 := by kernel_rfl
theorem ze_27 : zeroOf Tryd.prog 27 = some [Value.nilFunc] := by kernel_rfl
theorem zv_27 : zvA Tryd.prog 27 = some (.v (Value.nilFunc)) := by kernel_rfl
theorem sz_28 : szOf Tryd.prog 28 = some 1 := by kernel_rfl
theorem ag_28 : aggOf Tryd.prog 28 = some false := by kernel_rfl
theorem by_28 : byOf Tryd.prog 28 = some 8 := by kernel_rfl
theorem ze_28 : zeroOf Tryd.prog 28 = some [Value.nilFunc] := by kernel_rfl
theorem zv_28 : zvA Tryd.prog 28 = some (.v (Value.nilFunc)) := by kernel_rfl
theorem sz_29 : szOf Tryd.prog 29 = some 1 := by kernel_rfl
theorem ag_29 : aggOf Tryd.prog 29 = some false := by kernel_rfl
theorem by_29 : byOf Tryd.prog 29 = some 8 := by kernel_rfl
theorem ze_29 : zeroOf Tryd.prog 29 = some [Value.nilFunc] := by kernel_rfl
theorem zv_29 : zvA Tryd.prog 29 = some (.v (Value.nilFunc)) := by kernel_rfl
theorem sz_30 : szOf Tryd.prog 30 = some 1 := by kernel_rfl
theorem ag_30 : aggOf Tryd.prog 30 = some false := by kernel_rfl
theorem by_30 : byOf Tryd.prog 30 = some 8 := by kernel_rfl
theorem ze_30 : zeroOf Tryd.prog 30 = some [Value.nilFunc] := by kernel_rfl
theorem zv_30 : zvA Tryd.prog 30 = some (.v (Value.nilFunc)) := by kernel_rfl
theorem sz_31 : szOf Tryd.prog 31 = some 1 := by kernel_rfl
theorem ag_31 : aggOf Tryd.prog 31 = some false := by kernel_rfl
theorem sl_31 : slOf Tryd.prog 31 = some 58 := by kernel_rfl
theorem by_31 : byOf Tryd.prog 31 = some 24 := by kernel_rfl
theorem ze_31 : zeroOf Tryd.prog 31 = some [Value.slice none 0 0] := by kernel_rfl
theorem un_31 : Tryd.prog.underlying 31 = some (TypeDesc.slice 58) := by kernel_rfl
theorem zv_31 : zvA Tryd.prog 31 = some (.v (Value.slice none 0 0)) := by kernel_rfl
theorem sz_32 : szOf Tryd.prog 32 = some 1 := by kernel_rfl
theorem ag_32 : aggOf Tryd.prog 32 = some false := by kernel_rfl
theorem by_32 : byOf Tryd.prog 32 = some 8 := by kernel_rfl
theorem ze_32 : zeroOf Tryd.prog 32 = some [Value.nilFunc] := by kernel_rfl
theorem zv_32 : zvA Tryd.prog 32 = some (.v (Value.nilFunc)) := by kernel_rfl
theorem sz_33 : szOf Tryd.prog 33 = some 1 := by kernel_rfl
theorem ag_33 : aggOf Tryd.prog 33 = some false := by kernel_rfl
theorem by_33 : byOf Tryd.prog 33 = some 0 := by kernel_rfl
theorem ze_33 : zeroOf Tryd.prog 33 = some [Value.tuple { toList := [Value.slice none 0 0, Value.int IntKind.i64 0] }] := by kernel_rfl
theorem un_33 : Tryd.prog.underlying 33 = some (TypeDesc.tuple { toList := [31, 23] }) := by kernel_rfl
theorem zv_33 : zvA Tryd.prog 33 = some (.v (Value.tuple { toList := [Value.slice none 0 0, Value.int IntKind.i64 0] })) := by kernel_rfl
theorem sz_34 : szOf Tryd.prog 34 = some 1 := by kernel_rfl
theorem ag_34 : aggOf Tryd.prog 34 = some false := by kernel_rfl
theorem by_34 : byOf Tryd.prog 34 = some 8 := by kernel_rfl
theorem ze_34 : zeroOf Tryd.prog 34 = some [Value.nilFunc] := by kernel_rfl
theorem zv_34 : zvA Tryd.prog 34 = some (.v (Value.nilFunc)) := by kernel_rfl
theorem sz_35 : szOf Tryd.prog 35 = some 1 := by kernel_rfl
theorem ag_35 : aggOf Tryd.prog 35 = some false := by kernel_rfl
theorem by_35 : byOf Tryd.prog 35 = some 8 := by kernel_rfl
theorem ze_35 : zeroOf Tryd.prog 35 = some [Value.nilFunc] := by kernel_rfl
theorem zv_35 : zvA Tryd.prog 35 = some (.v (Value.nilFunc)) := by kernel_rfl
theorem sz_36 : szOf Tryd.prog 36 = some 1 := by kernel_rfl
theorem ag_36 : aggOf Tryd.prog 36 = some false := by kernel_rfl
theorem by_36 : byOf Tryd.prog 36 = some 8 := by kernel_rfl
theorem ze_36 : zeroOf Tryd.prog 36 = some [Value.nilFunc] := by kernel_rfl
theorem zv_36 : zvA Tryd.prog 36 = some (.v (Value.nilFunc)) := by kernel_rfl
theorem sz_37 : szOf Tryd.prog 37 = some 1 := by kernel_rfl
theorem ag_37 : aggOf Tryd.prog 37 = some false := by kernel_rfl
theorem by_37 : byOf Tryd.prog 37 = some 8 := by kernel_rfl
theorem ze_37 : zeroOf Tryd.prog 37 = some [Value.nilFunc] := by kernel_rfl
theorem zv_37 : zvA Tryd.prog 37 = some (.v (Value.nilFunc)) := by kernel_rfl
theorem sz_38 : szOf Tryd.prog 38 = some 1 := by kernel_rfl
theorem ag_38 : aggOf Tryd.prog 38 = some false := by kernel_rfl
theorem sl_38 : slOf Tryd.prog 38 = some 9 := by kernel_rfl
theorem by_38 : byOf Tryd.prog 38 = some 24 := by kernel_rfl
theorem ze_38 : zeroOf Tryd.prog 38 = some [Value.slice none 0 0] := by kernel_rfl
theorem un_38 : Tryd.prog.underlying 38 = some (TypeDesc.slice 9) := by kernel_rfl
theorem zv_38 : zvA Tryd.prog 38 = some (.v (Value.slice none 0 0)) := by kernel_rfl
theorem sz_39 : szOf Tryd.prog 39 = some 8 := by kernel_rfl
theorem ag_39 : aggOf Tryd.prog 39 = some true := by kernel_rfl
theorem ar_39 : arrOf Tryd.prog 39 = some (8, 9) := by kernel_rfl
theorem by_39 : byOf Tryd.prog 39 = some 128 := by kernel_rfl
theorem pl_39 : plOf Tryd.prog 39 = some (PL.arr 1) := by kernel_rfl
theorem ze_39 : zeroOf Tryd.prog 39 = some [Value.string { data := { toList := [] } }, Value.string { data := { toList := [] } }, Value.string { data := { toList := [] } }, Value.string { data := { toList := [] } }, Value.string { data := { toList := [] } }, Value.string { data := { toList := [] } }, Value.string { data := { toList := [] } }, Value.string { data := { toList := [] } }] := by kernel_rfl
theorem un_39 : Tryd.prog.underlying 39 = some (TypeDesc.array 8 9) := by kernel_rfl
theorem zv_39 : zvA Tryd.prog 39 = some (.agg [.v (Value.string { data := { toList := [] } }), .v (Value.string { data := { toList := [] } }), .v (Value.string { data := { toList := [] } }), .v (Value.string { data := { toList := [] } }), .v (Value.string { data := { toList := [] } }), .v (Value.string { data := { toList := [] } }), .v (Value.string { data := { toList := [] } }), .v (Value.string { data := { toList := [] } })]) := by kernel_rfl
theorem sz_40 : szOf Tryd.prog 40 = some 1 := by kernel_rfl
theorem ag_40 : aggOf Tryd.prog 40 = some false := by kernel_rfl
theorem by_40 : byOf Tryd.prog 40 = some 8 := by kernel_rfl
theorem ze_40 : zeroOf Tryd.prog 40 = some [Value.nilFunc] := by kernel_rfl
theorem zv_40 : zvA Tryd.prog 40 = some (.v (Value.nilFunc)) := by kernel_rfl
theorem sz_41 : szOf Tryd.prog 41 = some 1 := by kernel_rfl
theorem ag_41 : aggOf Tryd.prog 41 = some false := by kernel_rfl
theorem by_41 : byOf Tryd.prog 41 = some 0 := by kernel_rfl
theorem ze_41 : zeroOf Tryd.prog 41 = some [Value.tuple { toList := [Value.string { data := { toList := [] } }, Value.bool false] }] := by kernel_rfl
theorem un_41 : Tryd.prog.underlying 41 = some (TypeDesc.tuple { toList := [9, 4] }) := by kernel_rfl
theorem zv_41 : zvA Tryd.prog 41 = some (.v (Value.tuple { toList := [Value.string { data := { toList := [] } }, Value.bool false] })) := by kernel_rfl
theorem sz_42 : szOf Tryd.prog 42 = some 1 := by kernel_rfl
theorem ag_42 : aggOf Tryd.prog 42 = some false := by kernel_rfl
theorem by_42 : byOf Tryd.prog 42 = some 8 := by kernel_rfl
theorem ze_42 : zeroOf Tryd.prog 42 = some [Value.nilFunc] := by kernel_rfl
theorem zv_42 : zvA Tryd.prog 42 = some (.v (Value.nilFunc)) := by kernel_rfl
theorem sz_43 : szOf Tryd.prog 43 = some 1 := by kernel_rfl
theorem ag_43 : aggOf Tryd.prog 43 = some false := by kernel_rfl
theorem by_43 : byOf Tryd.prog 43 = some 8 := by kernel_rfl
theorem ze_43 : zeroOf Tryd.prog 43 = some [Value.nilFunc] := by kernel_rfl
theorem zv_43 : zvA Tryd.prog 43 = some (.v (Value.nilFunc)) := by kernel_rfl
theorem sz_44 : szOf Tryd.prog 44 = some 1 := by kernel_rfl
theorem ag_44 : aggOf Tryd.prog 44 = some false := by kernel_rfl
theorem by_44 : byOf Tryd.prog 44 = some 8 := by kernel_rfl
theorem ze_44 : zeroOf Tryd.prog 44 = some [Value.map none] := by kernel_rfl
theorem un_44 : Tryd.prog.underlying 44 = some (TypeDesc.map 9 3) := by kernel_rfl
theorem mp_44 : mapOf Tryd.prog 44 = some (9, 3) := by kernel_rfl
theorem zv_44 : zvA Tryd.prog 44 = some (.v (Value.map none)) := by kernel_rfl
theorem sz_45 : szOf Tryd.prog 45 = some 1 := by kernel_rfl
theorem ag_45 : aggOf Tryd.prog 45 = some false := by kernel_rfl
theorem by_45 : byOf Tryd.prog 45 = some 8 := by kernel_rfl
theorem ze_45 : zeroOf Tryd.prog 45 = some [Value.nilFunc] := by kernel_rfl
theorem zv_45 : zvA Tryd.prog 45 = some (.v (Value.nilFunc)) := by kernel_rfl
theorem sz_46 : szOf Tryd.prog 46 = some 1 := by kernel_rfl
theorem ag_46 : aggOf Tryd.prog 46 = some false := by kernel_rfl
theorem by_46 : byOf Tryd.prog 46 = some 8 := by kernel_rfl
theorem ze_46 : zeroOf Tryd.prog 46 = some [Value.nilFunc] := by kernel_rfl
theorem zv_46 : zvA Tryd.prog 46 = some (.v (Value.nilFunc)) := by kernel_rfl
theorem sz_47 : szOf Tryd.prog 47 = some 1 := by kernel_rfl
theorem ag_47 : aggOf Tryd.prog 47 = some false := by kernel_rfl
theorem by_47 : byOf Tryd.prog 47 = some 0 := by kernel_rfl
theorem ze_47 : zeroOf Tryd.prog 47 = some [Value.tuple { toList := [Value.int IntKind.i64 0, Value.bool false] }] := by kernel_rfl
theorem un_47 : Tryd.prog.underlying 47 = some (TypeDesc.tuple { toList := [3, 4] }) := by kernel_rfl
theorem zv_47 : zvA Tryd.prog 47 = some (.v (Value.tuple { toList := [Value.int IntKind.i64 0, Value.bool false] })) := by kernel_rfl
theorem sz_48 : szOf Tryd.prog 48 = some 1 := by kernel_rfl
theorem ag_48 : aggOf Tryd.prog 48 = some false := by kernel_rfl
theorem by_48 : byOf Tryd.prog 48 = some 8 := by kernel_rfl
theorem ze_48 : zeroOf Tryd.prog 48 = some [Value.nilFunc] := by kernel_rfl
theorem zv_48 : zvA Tryd.prog 48 = some (.v (Value.nilFunc)) := by kernel_rfl
theorem sz_49 : szOf Tryd.prog 49 = some 1 := by kernel_rfl
theorem ag_49 : aggOf Tryd.prog 49 = some false := by kernel_rfl
theorem by_49 : byOf Tryd.prog 49 = some 8 := by kernel_rfl
theorem ze_49 : zeroOf Tryd.prog 49 = some [Value.pointer none] := by kernel_rfl
theorem un_49 : Tryd.prog.underlying 49 = some (TypeDesc.pointer 52) := by kernel_rfl
theorem po_49 : ptrOf Tryd.prog 49 = some 52 := by kernel_rfl
theorem zv_49 : zvA Tryd.prog 49 = some (.v (Value.pointer none)) := by kernel_rfl
theorem sz_50 : szOf Tryd.prog 50 = some 1 := by kernel_rfl
theorem ag_50 : aggOf Tryd.prog 50 = some false := by kernel_rfl
theorem sl_50 : slOf Tryd.prog 50 = some 5 := by kernel_rfl
theorem by_50 : byOf Tryd.prog 50 = some 24 := by kernel_rfl
theorem ze_50 : zeroOf Tryd.prog 50 = some [Value.slice none 0 0] := by kernel_rfl
theorem un_50 : Tryd.prog.underlying 50 = some (TypeDesc.slice 5) := by kernel_rfl
theorem zv_50 : zvA Tryd.prog 50 = some (.v (Value.slice none 0 0)) := by kernel_rfl
theorem sz_51 : szOf Tryd.prog 51 = some 2 := by kernel_rfl
theorem ag_51 : aggOf Tryd.prog 51 = some true := by kernel_rfl
theorem by_51 : byOf Tryd.prog 51 = some 32 := by kernel_rfl
theorem pl_51 : plOf Tryd.prog 51 = some (PL.str [(0, 1), (1, 1)]) := by kernel_rfl
theorem ze_51 : zeroOf Tryd.prog 51 = some [Value.pointer none, Value.slice none 0 0] := by kernel_rfl
theorem zv_51 : zvA Tryd.prog 51 = some (.agg [.v (Value.pointer none), .v (Value.slice none 0 0)]) := by kernel_rfl
theorem fl_51_0 : fldOf Tryd.prog 51 0 = some (0, 49, 1) := by kernel_rfl
theorem fl_51_1 : fldOf Tryd.prog 51 1 = some (1, 50, 1) := by kernel_rfl
theorem sz_52 : szOf Tryd.prog 52 = some 2 := by kernel_rfl
theorem ag_52 : aggOf Tryd.prog 52 = some true := by kernel_rfl
theorem by_52 : byOf Tryd.prog 52 = some 32 := by kernel_rfl
theorem pl_52 : plOf Tryd.prog 52 = some (PL.str [(0, 1), (1, 1)]) := by kernel_rfl
theorem ze_52 : zeroOf Tryd.prog 52 = some [Value.pointer none, Value.slice none 0 0] := by kernel_rfl
theorem zv_52 : zvA Tryd.prog 52 = some (.agg [.v (Value.pointer none), .v (Value.slice none 0 0)]) := by kernel_rfl
theorem fl_52_0 : fldOf Tryd.prog 52 0 = some (0, 49, 1) := by kernel_rfl
theorem fl_52_1 : fldOf Tryd.prog 52 1 = some (1, 50, 1) := by kernel_rfl
theorem sz_53 : szOf Tryd.prog 53 = some 1 := by kernel_rfl
theorem ag_53 : aggOf Tryd.prog 53 = some false := by kernel_rfl
theorem by_53 : byOf Tryd.prog 53 = some 16 := by kernel_rfl
theorem ze_53 : zeroOf Tryd.prog 53 = some [Value.nilIface] := by kernel_rfl
theorem un_53 : Tryd.prog.underlying 53 = some (TypeDesc.interface { toList := [("Error", 62)] }) := by kernel_rfl
theorem if_53 : isIfOf Tryd.prog 53 = true := by kernel_rfl
theorem zv_53 : zvA Tryd.prog 53 = some (.v (Value.nilIface)) := by kernel_rfl
theorem sz_54 : szOf Tryd.prog 54 = some 1 := by kernel_rfl
theorem ag_54 : aggOf Tryd.prog 54 = some false := by kernel_rfl
theorem by_54 : byOf Tryd.prog 54 = some 16 := by kernel_rfl
theorem ze_54 : zeroOf Tryd.prog 54 = some [Value.nilIface] := by kernel_rfl
theorem un_54 : Tryd.prog.underlying 54 = some (TypeDesc.interface { toList := [("Error", 62)] }) := by kernel_rfl
theorem if_54 : isIfOf Tryd.prog 54 = true := by kernel_rfl
theorem zv_54 : zvA Tryd.prog 54 = some (.v (Value.nilIface)) := by kernel_rfl
theorem sz_55 : szOf Tryd.prog 55 = some 1 := by kernel_rfl
theorem ag_55 : aggOf Tryd.prog 55 = some false := by kernel_rfl
theorem by_55 : byOf Tryd.prog 55 = some 0 := by kernel_rfl
theorem ze_55 : zeroOf Tryd.prog 55 = some [Value.tuple { toList := [Value.int IntKind.i64 0, Value.nilIface] }] := by kernel_rfl
theorem un_55 : Tryd.prog.underlying 55 = some (TypeDesc.tuple { toList := [3, 54] }) := by kernel_rfl
theorem zv_55 : zvA Tryd.prog 55 = some (.v (Value.tuple { toList := [Value.int IntKind.i64 0, Value.nilIface] })) := by kernel_rfl
theorem sz_56 : szOf Tryd.prog 56 = some 1 := by kernel_rfl
theorem ag_56 : aggOf Tryd.prog 56 = some false := by kernel_rfl
theorem by_56 : byOf Tryd.prog 56 = some 8 := by kernel_rfl
theorem ze_56 : zeroOf Tryd.prog 56 = some [Value.nilFunc] := by kernel_rfl
theorem zv_56 : zvA Tryd.prog 56 = some (.v (Value.nilFunc)) := by kernel_rfl
theorem sz_57 : szOf Tryd.prog 57 = some 9 := by kernel_rfl
theorem ag_57 : aggOf Tryd.prog 57 = some true := by kernel_rfl
theorem by_57 : byOf Tryd.prog 57 = some 88 := by kernel_rfl
theorem pl_57 : plOf Tryd.prog 57 = some (PL.str [(0, 1), (1, 1), (2, 1), (3, 1), (4, 1), (5, 1), (6, 1), (7, 1), (8, 1)]) := by kernel_rfl
theorem ze_57 : zeroOf Tryd.prog 57 = some [Value.int IntKind.i64 0, Value.int IntKind.i64 0, Value.int IntKind.i64 0, Value.int IntKind.i64 0, Value.int IntKind.i64 0, Value.slice none 0 0, Value.int IntKind.i64 0, Value.int IntKind.i64 0, Value.int IntKind.i64 0] := by kernel_rfl
theorem zv_57 : zvA Tryd.prog 57 = some (.agg [.v (Value.int IntKind.i64 0), .v (Value.int IntKind.i64 0), .v (Value.int IntKind.i64 0), .v (Value.int IntKind.i64 0), .v (Value.int IntKind.i64 0), .v (Value.slice none 0 0), .v (Value.int IntKind.i64 0), .v (Value.int IntKind.i64 0), .v (Value.int IntKind.i64 0)]) := by kernel_rfl
theorem fl_57_0 : fldOf Tryd.prog 57 0 = some (0, 3, 1) := by kernel_rfl
theorem fl_57_1 : fldOf Tryd.prog 57 1 = some (1, 3, 1) := by kernel_rfl
theorem fl_57_2 : fldOf Tryd.prog 57 2 = some (2, 3, 1) := by kernel_rfl
theorem fl_57_3 : fldOf Tryd.prog 57 3 = some (3, 2, 1) := by kernel_rfl
theorem fl_57_4 : fldOf Tryd.prog 57 4 = some (4, 2, 1) := by kernel_rfl
theorem fl_57_5 : fldOf Tryd.prog 57 5 = some (5, 22, 1) := by kernel_rfl
theorem fl_57_6 : fldOf Tryd.prog 57 6 = some (6, 2, 1) := by kernel_rfl
theorem fl_57_7 : fldOf Tryd.prog 57 7 = some (7, 2, 1) := by kernel_rfl
theorem fl_57_8 : fldOf Tryd.prog 57 8 = some (8, 3, 1) := by kernel_rfl
theorem sz_58 : szOf Tryd.prog 58 = some 9 := by kernel_rfl
theorem ag_58 : aggOf Tryd.prog 58 = some true := by kernel_rfl
theorem by_58 : byOf Tryd.prog 58 = some 88 := by kernel_rfl
theorem pl_58 : plOf Tryd.prog 58 = some (PL.str [(0, 1), (1, 1), (2, 1), (3, 1), (4, 1), (5, 1), (6, 1), (7, 1), (8, 1)]) := by kernel_rfl
theorem ze_58 : zeroOf Tryd.prog 58 = some [Value.int IntKind.i64 0, Value.int IntKind.i64 0, Value.int IntKind.i64 0, Value.int IntKind.i64 0, Value.int IntKind.i64 0, Value.slice none 0 0, Value.int IntKind.i64 0, Value.int IntKind.i64 0, Value.int IntKind.i64 0] := by kernel_rfl
theorem zv_58 : zvA Tryd.prog 58 = some (.agg [.v (Value.int IntKind.i64 0), .v (Value.int IntKind.i64 0), .v (Value.int IntKind.i64 0), .v (Value.int IntKind.i64 0), .v (Value.int IntKind.i64 0), .v (Value.slice none 0 0), .v (Value.int IntKind.i64 0), .v (Value.int IntKind.i64 0), .v (Value.int IntKind.i64 0)]) := by kernel_rfl
theorem fl_58_0 : fldOf Tryd.prog 58 0 = some (0, 3, 1) := by kernel_rfl
theorem fl_58_1 : fldOf Tryd.prog 58 1 = some (1, 3, 1) := by kernel_rfl
theorem fl_58_2 : fldOf Tryd.prog 58 2 = some (2, 3, 1) := by kernel_rfl
theorem fl_58_3 : fldOf Tryd.prog 58 3 = some (3, 2, 1) := by kernel_rfl
theorem fl_58_4 : fldOf Tryd.prog 58 4 = some (4, 2, 1) := by kernel_rfl
theorem fl_58_5 : fldOf Tryd.prog 58 5 = some (5, 22, 1) := by kernel_rfl
theorem fl_58_6 : fldOf Tryd.prog 58 6 = some (6, 2, 1) := by kernel_rfl
theorem fl_58_7 : fldOf Tryd.prog 58 7 = some (7, 2, 1) := by kernel_rfl
theorem fl_58_8 : fldOf Tryd.prog 58 8 = some (8, 3, 1) := by kernel_rfl
theorem sz_59 : szOf Tryd.prog 59 = some 1 := by kernel_rfl
theorem ag_59 : aggOf Tryd.prog 59 = some false := by kernel_rfl
theorem sl_59 : slOf Tryd.prog 59 = some 2 := by kernel_rfl
theorem by_59 : byOf Tryd.prog 59 = some 24 := by kernel_rfl
theorem ze_59 : zeroOf Tryd.prog 59 = some [Value.slice none 0 0] := by kernel_rfl
theorem un_59 : Tryd.prog.underlying 59 = some (TypeDesc.slice 2) := by kernel_rfl
theorem zv_59 : zvA Tryd.prog 59 = some (.v (Value.slice none 0 0)) := by kernel_rfl
theorem sz_60 : szOf Tryd.prog 60 = some 1 := by kernel_rfl
theorem ag_60 : aggOf Tryd.prog 60 = some false := by kernel_rfl
theorem by_60 : byOf Tryd.prog 60 = some 8 := by kernel_rfl
theorem ze_60 : zeroOf Tryd.prog 60 = some [Value.nilFunc] := by kernel_rfl
theorem zv_60 : zvA Tryd.prog 60 = some (.v (Value.nilFunc)) := by kernel_rfl
theorem sz_61 : szOf Tryd.prog 61 = some 1 := by kernel_rfl
theorem ag_61 : aggOf Tryd.prog 61 = some false := by kernel_rfl
theorem by_61 : byOf Tryd.prog 61 = some 8 := by kernel_rfl
theorem ze_61 : zeroOf Tryd.prog 61 = some [Value.nilFunc] := by kernel_rfl
theorem zv_61 : zvA Tryd.prog 61 = some (.v (Value.nilFunc)) := by kernel_rfl
theorem sz_62 : szOf Tryd.prog 62 = some 1 := by kernel_rfl
theorem ag_62 : aggOf Tryd.prog 62 = some false := by kernel_rfl
theorem by_62 : byOf Tryd.prog 62 = some 8 := by kernel_rfl
theorem ze_62 : zeroOf Tryd.prog 62 = some [Value.nilFunc] := by kernel_rfl
theorem zv_62 : zvA Tryd.prog 62 = some (.v (Value.nilFunc)) := by kernel_rfl
theorem sz_63 : szOf Tryd.prog 63 = some 1 := by kernel_rfl
theorem ag_63 : aggOf Tryd.prog 63 = some false := by kernel_rfl
theorem by_63 : byOf Tryd.prog 63 = some 8 := by kernel_rfl
theorem ze_63 : zeroOf Tryd.prog 63 = some [Value.nilFunc] := by kernel_rfl
theorem zv_63 : zvA Tryd.prog 63 = some (.v (Value.nilFunc)) := by kernel_rfl
theorem sz_64 : szOf Tryd.prog 64 = some 1 := by kernel_rfl
theorem ag_64 : aggOf Tryd.prog 64 = some false := by kernel_rfl
theorem by_64 : byOf Tryd.prog 64 = some 0 := by kernel_rfl
theorem ze_64 : zeroOf Tryd.prog 64 = some [Value.tuple { toList := [Value.int IntKind.i64 0, Value.nilIface] }] := by kernel_rfl
theorem un_64 : Tryd.prog.underlying 64 = some (TypeDesc.tuple { toList := [2, 54] }) := by kernel_rfl
theorem zv_64 : zvA Tryd.prog 64 = some (.v (Value.tuple { toList := [Value.int IntKind.i64 0, Value.nilIface] })) := by kernel_rfl
theorem sz_65 : szOf Tryd.prog 65 = some 1 := by kernel_rfl
theorem ag_65 : aggOf Tryd.prog 65 = some false := by kernel_rfl
theorem by_65 : byOf Tryd.prog 65 = some 8 := by kernel_rfl
theorem ze_65 : zeroOf Tryd.prog 65 = some [Value.nilFunc] := by kernel_rfl
theorem zv_65 : zvA Tryd.prog 65 = some (.v (Value.nilFunc)) := by kernel_rfl
theorem sz_66 : szOf Tryd.prog 66 = some 1 := by kernel_rfl
theorem ag_66 : aggOf Tryd.prog 66 = some false := by kernel_rfl
theorem by_66 : byOf Tryd.prog 66 = some 8 := by kernel_rfl
theorem ze_66 : zeroOf Tryd.prog 66 = some [Value.nilFunc] := by kernel_rfl
theorem zv_66 : zvA Tryd.prog 66 = some (.v (Value.nilFunc)) := by kernel_rfl
theorem sz_67 : szOf Tryd.prog 67 = some 1 := by kernel_rfl
theorem ag_67 : aggOf Tryd.prog 67 = some false := by kernel_rfl
theorem by_67 : byOf Tryd.prog 67 = some 8 := by kernel_rfl
theorem ze_67 : zeroOf Tryd.prog 67 = some [Value.nilFunc] := by kernel_rfl
theorem zv_67 : zvA Tryd.prog 67 = some (.v (Value.nilFunc)) := by kernel_rfl
theorem sz_68 : szOf Tryd.prog 68 = some 1 := by kernel_rfl
theorem ag_68 : aggOf Tryd.prog 68 = some false := by kernel_rfl
theorem by_68 : byOf Tryd.prog 68 = some 0 := by kernel_rfl
theorem ze_68 : zeroOf Tryd.prog 68 = some [Value.tuple { toList := [Value.agg { toList := [Value.int IntKind.i64 0, Value.int IntKind.i64 0, Value.int IntKind.i64 0, Value.int IntKind.i64 0, Value.int IntKind.i64 0, Value.slice none 0 0, Value.int IntKind.i64 0, Value.int IntKind.i64 0, Value.int IntKind.i64 0] }, Value.bool false] }] := by kernel_rfl
theorem un_68 : Tryd.prog.underlying 68 = some (TypeDesc.tuple { toList := [58, 4] }) := by kernel_rfl
theorem zv_68 : zvA Tryd.prog 68 = some (.v (Value.tuple { toList := [Value.agg { toList := [Value.int IntKind.i64 0, Value.int IntKind.i64 0, Value.int IntKind.i64 0, Value.int IntKind.i64 0, Value.int IntKind.i64 0, Value.slice none 0 0, Value.int IntKind.i64 0, Value.int IntKind.i64 0, Value.int IntKind.i64 0] }, Value.bool false] })) := by kernel_rfl
theorem sz_69 : szOf Tryd.prog 69 = some 1 := by kernel_rfl
theorem ag_69 : aggOf Tryd.prog 69 = some false := by kernel_rfl
theorem by_69 : byOf Tryd.prog 69 = some 8 := by kernel_rfl
theorem ze_69 : zeroOf Tryd.prog 69 = some [Value.nilFunc] := by kernel_rfl
theorem zv_69 : zvA Tryd.prog 69 = some (.v (Value.nilFunc)) := by kernel_rfl
theorem sz_70 : szOf Tryd.prog 70 = some 1 := by kernel_rfl
theorem ag_70 : aggOf Tryd.prog 70 = some false := by kernel_rfl
theorem by_70 : byOf Tryd.prog 70 = some 8 := by kernel_rfl
theorem ze_70 : zeroOf Tryd.prog 70 = some [Value.nilFunc] := by kernel_rfl
theorem zv_70 : zvA Tryd.prog 70 = some (.v (Value.nilFunc)) := by kernel_rfl
theorem sz_71 : szOf Tryd.prog 71 = some 1 := by kernel_rfl
theorem ag_71 : aggOf Tryd.prog 71 = some false := by kernel_rfl
theorem by_71 : byOf Tryd.prog 71 = some 8 := by kernel_rfl
theorem ze_71 : zeroOf Tryd.prog 71 = some [Value.nilFunc] := by kernel_rfl
theorem zv_71 : zvA Tryd.prog 71 = some (.v (Value.nilFunc)) := by kernel_rfl
theorem sz_72 : szOf Tryd.prog 72 = some 1 := by kernel_rfl
theorem ag_72 : aggOf Tryd.prog 72 = some false := by kernel_rfl
theorem by_72 : byOf Tryd.prog 72 = some 8 := by kernel_rfl
theorem ze_72 : zeroOf Tryd.prog 72 = some [Value.nilFunc] := by kernel_rfl
theorem zv_72 : zvA Tryd.prog 72 = some (.v (Value.nilFunc)) := by kernel_rfl
theorem sz_73 : szOf Tryd.prog 73 = some 1 := by kernel_rfl
theorem ag_73 : aggOf Tryd.prog 73 = some false := by kernel_rfl
theorem by_73 : byOf Tryd.prog 73 = some 8 := by kernel_rfl
theorem ze_73 : zeroOf Tryd.prog 73 = some [Value.nilFunc] := by kernel_rfl
theorem zv_73 : zvA Tryd.prog 73 = some (.v (Value.nilFunc)) := by kernel_rfl
theorem sz_74 : szOf Tryd.prog 74 = some 1 := by kernel_rfl
theorem ag_74 : aggOf Tryd.prog 74 = some false := by kernel_rfl
theorem by_74 : byOf Tryd.prog 74 = some 8 := by kernel_rfl
theorem ze_74 : zeroOf Tryd.prog 74 = some [Value.pointer none] := by kernel_rfl
theorem un_74 : Tryd.prog.underlying 74 = some (TypeDesc.pointer 5) := by kernel_rfl
theorem po_74 : ptrOf Tryd.prog 74 = some 5 := by kernel_rfl
theorem zv_74 : zvA Tryd.prog 74 = some (.v (Value.pointer none)) := by kernel_rfl
theorem sz_75 : szOf Tryd.prog 75 = some 1 := by kernel_rfl
theorem ag_75 : aggOf Tryd.prog 75 = some false := by kernel_rfl
theorem by_75 : byOf Tryd.prog 75 = some 8 := by kernel_rfl
theorem ze_75 : zeroOf Tryd.prog 75 = some [Value.nilFunc] := by kernel_rfl
theorem zv_75 : zvA Tryd.prog 75 = some (.v (Value.nilFunc)) := by kernel_rfl
theorem sz_76 : szOf Tryd.prog 76 = some 1 := by kernel_rfl
theorem ag_76 : aggOf Tryd.prog 76 = some false := by kernel_rfl
theorem by_76 : byOf Tryd.prog 76 = some 8 := by kernel_rfl
theorem ze_76 : zeroOf Tryd.prog 76 = some [Value.int IntKind.u64 0] := by kernel_rfl
theorem un_76 : Tryd.prog.underlying 76 = some (TypeDesc.int IntKind.u64) := by kernel_rfl
theorem zv_76 : zvA Tryd.prog 76 = some (.v (Value.int IntKind.u64 0)) := by kernel_rfl
theorem sz_77 : szOf Tryd.prog 77 = some 1 := by kernel_rfl
theorem ag_77 : aggOf Tryd.prog 77 = some false := by kernel_rfl
theorem by_77 : byOf Tryd.prog 77 = some 8 := by kernel_rfl
theorem ze_77 : zeroOf Tryd.prog 77 = some [Value.nilFunc] := by kernel_rfl
theorem zv_77 : zvA Tryd.prog 77 = some (.v (Value.nilFunc)) := by kernel_rfl
theorem sz_78 : szOf Tryd.prog 78 = some 1 := by kernel_rfl
theorem ag_78 : aggOf Tryd.prog 78 = some false := by kernel_rfl
theorem by_78 : byOf Tryd.prog 78 = some 0 := by kernel_rfl
theorem ze_78 : zeroOf Tryd.prog 78 = some [Value.tuple { toList := [Value.int IntKind.i64 0, Value.bool false] }] := by kernel_rfl
theorem un_78 : Tryd.prog.underlying 78 = some (TypeDesc.tuple { toList := [2, 4] }) := by kernel_rfl
theorem zv_78 : zvA Tryd.prog 78 = some (.v (Value.tuple { toList := [Value.int IntKind.i64 0, Value.bool false] })) := by kernel_rfl
theorem sz_79 : szOf Tryd.prog 79 = some 1 := by kernel_rfl
theorem ag_79 : aggOf Tryd.prog 79 = some false := by kernel_rfl
theorem by_79 : byOf Tryd.prog 79 = some 8 := by kernel_rfl
theorem ze_79 : zeroOf Tryd.prog 79 = some [Value.nilFunc] := by kernel_rfl
theorem zv_79 : zvA Tryd.prog 79 = some (.v (Value.nilFunc)) := by kernel_rfl
theorem sz_80 : szOf Tryd.prog 80 = some 1 := by kernel_rfl
theorem ag_80 : aggOf Tryd.prog 80 = some false := by kernel_rfl
theorem by_80 : byOf Tryd.prog 80 = some 8 := by kernel_rfl
theorem ze_80 : zeroOf Tryd.prog 80 = some [Value.nilFunc] := by kernel_rfl
theorem zv_80 : zvA Tryd.prog 80 = some (.v (Value.nilFunc)) := by kernel_rfl
theorem sz_81 : szOf Tryd.prog 81 = some 1 := by kernel_rfl
theorem ag_81 : aggOf Tryd.prog 81 = some false := by kernel_rfl
theorem by_81 : byOf Tryd.prog 81 = some 8 := by kernel_rfl
theorem ze_81 : zeroOf Tryd.prog 81 = some [Value.nilFunc] := by kernel_rfl
theorem zv_81 : zvA Tryd.prog 81 = some (.v (Value.nilFunc)) := by kernel_rfl
theorem sz_82 : szOf Tryd.prog 82 = some 1 := by kernel_rfl
theorem ag_82 : aggOf Tryd.prog 82 = some false := by kernel_rfl
theorem by_82 : byOf Tryd.prog 82 = some 8 := by kernel_rfl
theorem ze_82 : zeroOf Tryd.prog 82 = some [Value.pointer none] := by kernel_rfl
theorem un_82 : Tryd.prog.underlying 82 = some TypeDesc.unsafePointer := by kernel_rfl
theorem zv_82 : zvA Tryd.prog 82 = some (.v (Value.pointer none)) := by kernel_rfl
theorem sz_83 : szOf Tryd.prog 83 = some 1 := by kernel_rfl
theorem ag_83 : aggOf Tryd.prog 83 = some false := by kernel_rfl
theorem by_83 : byOf Tryd.prog 83 = some 8 := by kernel_rfl
theorem ze_83 : zeroOf Tryd.prog 83 = some [Value.nilFunc] := by kernel_rfl
theorem zv_83 : zvA Tryd.prog 83 = some (.v (Value.nilFunc)) := by kernel_rfl
theorem sz_84 : szOf Tryd.prog 84 = some 24 := by kernel_rfl
theorem ag_84 : aggOf Tryd.prog 84 = some true := by kernel_rfl
theorem ar_84 : arrOf Tryd.prog 84 = some (24, 5) := by kernel_rfl
theorem by_84 : byOf Tryd.prog 84 = some 24 := by kernel_rfl
theorem pl_84 : plOf Tryd.prog 84 = some (PL.arr 1) := by kernel_rfl
theorem ze_84 : zeroOf Tryd.prog 84 = some [Value.int IntKind.u8 0, Value.int IntKind.u8 0, Value.int IntKind.u8 0, Value.int IntKind.u8 0, Value.int IntKind.u8 0, Value.int IntKind.u8 0, Value.int IntKind.u8 0, Value.int IntKind.u8 0, Value.int IntKind.u8 0, Value.int IntKind.u8 0, Value.int IntKind.u8 0, Value.int IntKind.u8 0, Value.int IntKind.u8 0, Value.int IntKind.u8 0, Value.int IntKind.u8 0, Value.int IntKind.u8 0, Value.int IntKind.u8 0, Value.int IntKind.u8 0, Value.int IntKind.u8 0, Value.int IntKind.u8 0, Value.int IntKind.u8 0, Value.int IntKind.u8 0, Value.int IntKind.u8 0, Value.int IntKind.u8 0] := by kernel_rfl
theorem un_84 : Tryd.prog.underlying 84 = some (TypeDesc.array 24 5) := by kernel_rfl
theorem zv_84 : zvA Tryd.prog 84 = some (.agg [.v (Value.int IntKind.u8 0), .v (Value.int IntKind.u8 0), .v (Value.int IntKind.u8 0), .v (Value.int IntKind.u8 0), .v (Value.int IntKind.u8 0), .v (Value.int IntKind.u8 0), .v (Value.int IntKind.u8 0), .v (Value.int IntKind.u8 0), .v (Value.int IntKind.u8 0), .v (Value.int IntKind.u8 0), .v (Value.int IntKind.u8 0), .v (Value.int IntKind.u8 0), .v (Value.int IntKind.u8 0), .v (Value.int IntKind.u8 0), .v (Value.int IntKind.u8 0), .v (Value.int IntKind.u8 0), .v (Value.int IntKind.u8 0), .v (Value.int IntKind.u8 0), .v (Value.int IntKind.u8 0), .v (Value.int IntKind.u8 0), .v (Value.int IntKind.u8 0), .v (Value.int IntKind.u8 0), .v (Value.int IntKind.u8 0), .v (Value.int IntKind.u8 0)]) := by kernel_rfl
theorem sz_85 : szOf Tryd.prog 85 = some 1 := by kernel_rfl
theorem ag_85 : aggOf Tryd.prog 85 = some false := by kernel_rfl
theorem by_85 : byOf Tryd.prog 85 = some 8 := by kernel_rfl
theorem ze_85 : zeroOf Tryd.prog 85 = some [Value.nilFunc] := by kernel_rfl
theorem zv_85 : zvA Tryd.prog 85 = some (.v (Value.nilFunc)) := by kernel_rfl
theorem sz_86 : szOf Tryd.prog 86 = some 1 := by kernel_rfl
theorem ag_86 : aggOf Tryd.prog 86 = some false := by kernel_rfl
theorem by_86 : byOf Tryd.prog 86 = some 8 := by kernel_rfl
theorem ze_86 : zeroOf Tryd.prog 86 = some [Value.nilFunc] := by kernel_rfl
theorem zv_86 : zvA Tryd.prog 86 = some (.v (Value.nilFunc)) := by kernel_rfl
theorem sz_87 : szOf Tryd.prog 87 = some 1 := by kernel_rfl
theorem ag_87 : aggOf Tryd.prog 87 = some false := by kernel_rfl
theorem by_87 : byOf Tryd.prog 87 = some 0 := by kernel_rfl
theorem ze_87 : zeroOf Tryd.prog 87 = some [Value.tuple { toList := [Value.slice none 0 0, Value.string { data := { toList := [] } }] }] := by kernel_rfl
theorem un_87 : Tryd.prog.underlying 87 = some (TypeDesc.tuple { toList := [50, 9] }) := by kernel_rfl
theorem zv_87 : zvA Tryd.prog 87 = some (.v (Value.tuple { toList := [Value.slice none 0 0, Value.string { data := { toList := [] } }] })) := by kernel_rfl
theorem sz_88 : szOf Tryd.prog 88 = some 1 := by kernel_rfl
theorem ag_88 : aggOf Tryd.prog 88 = some false := by kernel_rfl
theorem by_88 : byOf Tryd.prog 88 = some 8 := by kernel_rfl
theorem ze_88 : zeroOf Tryd.prog 88 = some [Value.nilFunc] := by kernel_rfl
theorem zv_88 : zvA Tryd.prog 88 = some (.v (Value.nilFunc)) := by kernel_rfl
theorem sz_89 : szOf Tryd.prog 89 = some 1 := by kernel_rfl
theorem ag_89 : aggOf Tryd.prog 89 = some false := by kernel_rfl
theorem by_89 : byOf Tryd.prog 89 = some 8 := by kernel_rfl
theorem ze_89 : zeroOf Tryd.prog 89 = some [Value.int IntKind.i64 0] := by kernel_rfl
theorem un_89 : Tryd.prog.underlying 89 = some (TypeDesc.int IntKind.i64) := by kernel_rfl
theorem zv_89 : zvA Tryd.prog 89 = some (.v (Value.int IntKind.i64 0)) := by kernel_rfl
theorem sz_90 : szOf Tryd.prog 90 = some 1 := by kernel_rfl
theorem ag_90 : aggOf Tryd.prog 90 = some false := by kernel_rfl
theorem by_90 : byOf Tryd.prog 90 = some 0 := by kernel_rfl
theorem ze_90 : zeroOf Tryd.prog 90 = some [Value.tuple { toList := [Value.int IntKind.u64 0, Value.nilIface] }] := by kernel_rfl
theorem un_90 : Tryd.prog.underlying 90 = some (TypeDesc.tuple { toList := [76, 54] }) := by kernel_rfl
theorem zv_90 : zvA Tryd.prog 90 = some (.v (Value.tuple { toList := [Value.int IntKind.u64 0, Value.nilIface] })) := by kernel_rfl
theorem sz_91 : szOf Tryd.prog 91 = some 1 := by kernel_rfl
theorem ag_91 : aggOf Tryd.prog 91 = some false := by kernel_rfl
theorem by_91 : byOf Tryd.prog 91 = some 8 := by kernel_rfl
theorem ze_91 : zeroOf Tryd.prog 91 = some [Value.nilFunc] := by kernel_rfl
theorem zv_91 : zvA Tryd.prog 91 = some (.v (Value.nilFunc)) := by kernel_rfl
theorem sz_92 : szOf Tryd.prog 92 = some 1 := by kernel_rfl
theorem ag_92 : aggOf Tryd.prog 92 = some false := by kernel_rfl
theorem by_92 : byOf Tryd.prog 92 = some 8 := by kernel_rfl
theorem ze_92 : zeroOf Tryd.prog 92 = some [Value.int IntKind.u64 0] := by kernel_rfl
theorem un_92 : Tryd.prog.underlying 92 = some (TypeDesc.int IntKind.u64) := by kernel_rfl
theorem zv_92 : zvA Tryd.prog 92 = some (.v (Value.int IntKind.u64 0)) := by kernel_rfl
theorem sz_93 : szOf Tryd.prog 93 = some 1 := by kernel_rfl
theorem ag_93 : aggOf Tryd.prog 93 = some false := by kernel_rfl
theorem by_93 : byOf Tryd.prog 93 = some 8 := by kernel_rfl
theorem ze_93 : zeroOf Tryd.prog 93 = some [Value.pointer none] := by kernel_rfl
theorem un_93 : Tryd.prog.underlying 93 = some (TypeDesc.pointer 109) := by kernel_rfl
theorem po_93 : ptrOf Tryd.prog 93 = some 109 := by kernel_rfl
theorem zv_93 : zvA Tryd.prog 93 = some (.v (Value.pointer none)) := by kernel_rfl
theorem sz_94 : szOf Tryd.prog 94 = some 1 := by kernel_rfl
theorem ag_94 : aggOf Tryd.prog 94 = some false := by kernel_rfl
theorem by_94 : byOf Tryd.prog 94 = some 8 := by kernel_rfl
theorem ze_94 : zeroOf Tryd.prog 94 = some [Value.nilFunc] := by kernel_rfl
theorem zv_94 : zvA Tryd.prog 94 = some (.v (Value.nilFunc)) := by kernel_rfl
theorem sz_95 : szOf Tryd.prog 95 = some 1 := by kernel_rfl
theorem ag_95 : aggOf Tryd.prog 95 = some false := by kernel_rfl
theorem by_95 : byOf Tryd.prog 95 = some 8 := by kernel_rfl
theorem ze_95 : zeroOf Tryd.prog 95 = some [Value.nilFunc] := by kernel_rfl
theorem zv_95 : zvA Tryd.prog 95 = some (.v (Value.nilFunc)) := by kernel_rfl
theorem sz_96 : szOf Tryd.prog 96 = some 1 := by kernel_rfl
theorem ag_96 : aggOf Tryd.prog 96 = some false := by kernel_rfl
theorem by_96 : byOf Tryd.prog 96 = some 8 := by kernel_rfl
theorem ze_96 : zeroOf Tryd.prog 96 = some [Value.nilFunc] := by kernel_rfl
theorem zv_96 : zvA Tryd.prog 96 = some (.v (Value.nilFunc)) := by kernel_rfl
theorem sz_97 : szOf Tryd.prog 97 = some 1 := by kernel_rfl
theorem ag_97 : aggOf Tryd.prog 97 = some false := by kernel_rfl
theorem by_97 : byOf Tryd.prog 97 = some 8 := by kernel_rfl
theorem ze_97 : zeroOf Tryd.prog 97 = some [Value.nilFunc] := by kernel_rfl
theorem zv_97 : zvA Tryd.prog 97 = some (.v (Value.nilFunc)) := by kernel_rfl
theorem sz_98 : szOf Tryd.prog 98 = some 1 := by kernel_rfl
theorem ag_98 : aggOf Tryd.prog 98 = some false := by kernel_rfl
theorem by_98 : byOf Tryd.prog 98 = some 0 := by kernel_rfl
theorem ze_98 : zeroOf Tryd.prog 98 = some [Value.tuple { toList := [Value.int IntKind.i32 0, Value.int IntKind.i64 0] }] := by kernel_rfl
theorem un_98 : Tryd.prog.underlying 98 = some (TypeDesc.tuple { toList := [21, 3] }) := by kernel_rfl
theorem zv_98 : zvA Tryd.prog 98 = some (.v (Value.tuple { toList := [Value.int IntKind.i32 0, Value.int IntKind.i64 0] })) := by kernel_rfl
theorem sz_99 : szOf Tryd.prog 99 = some 1 := by kernel_rfl
theorem ag_99 : aggOf Tryd.prog 99 = some false := by kernel_rfl
theorem by_99 : byOf Tryd.prog 99 = some 8 := by kernel_rfl
theorem ze_99 : zeroOf Tryd.prog 99 = some [Value.nilFunc] := by kernel_rfl
theorem zv_99 : zvA Tryd.prog 99 = some (.v (Value.nilFunc)) := by kernel_rfl
theorem sz_100 : szOf Tryd.prog 100 = some 1 := by kernel_rfl
theorem ag_100 : aggOf Tryd.prog 100 = some false := by kernel_rfl
theorem by_100 : byOf Tryd.prog 100 = some 8 := by kernel_rfl
theorem ze_100 : zeroOf Tryd.prog 100 = some [Value.nilFunc] := by kernel_rfl
theorem zv_100 : zvA Tryd.prog 100 = some (.v (Value.nilFunc)) := by kernel_rfl
theorem sz_101 : szOf Tryd.prog 101 = some 20 := by kernel_rfl
theorem ag_101 : aggOf Tryd.prog 101 = some true := by kernel_rfl
theorem ar_101 : arrOf Tryd.prog 101 = some (20, 76) := by kernel_rfl
theorem by_101 : byOf Tryd.prog 101 = some 160 := by kernel_rfl
theorem pl_101 : plOf Tryd.prog 101 = some (PL.arr 1) := by kernel_rfl
theorem ze_101 : zeroOf Tryd.prog 101 = some [Value.int IntKind.u64 0, Value.int IntKind.u64 0, Value.int IntKind.u64 0, Value.int IntKind.u64 0, Value.int IntKind.u64 0, Value.int IntKind.u64 0, Value.int IntKind.u64 0, Value.int IntKind.u64 0, Value.int IntKind.u64 0, Value.int IntKind.u64 0, Value.int IntKind.u64 0, Value.int IntKind.u64 0, Value.int IntKind.u64 0, Value.int IntKind.u64 0, Value.int IntKind.u64 0, Value.int IntKind.u64 0, Value.int IntKind.u64 0, Value.int IntKind.u64 0, Value.int IntKind.u64 0, Value.int IntKind.u64 0] := by kernel_rfl
theorem un_101 : Tryd.prog.underlying 101 = some (TypeDesc.array 20 76) := by kernel_rfl
theorem zv_101 : zvA Tryd.prog 101 = some (.agg [.v (Value.int IntKind.u64 0), .v (Value.int IntKind.u64 0), .v (Value.int IntKind.u64 0), .v (Value.int IntKind.u64 0), .v (Value.int IntKind.u64 0), .v (Value.int IntKind.u64 0), .v (Value.int IntKind.u64 0), .v (Value.int IntKind.u64 0), .v (Value.int IntKind.u64 0), .v (Value.int IntKind.u64 0), .v (Value.int IntKind.u64 0), .v (Value.int IntKind.u64 0), .v (Value.int IntKind.u64 0), .v (Value.int IntKind.u64 0), .v (Value.int IntKind.u64 0), .v (Value.int IntKind.u64 0), .v (Value.int IntKind.u64 0), .v (Value.int IntKind.u64 0), .v (Value.int IntKind.u64 0), .v (Value.int IntKind.u64 0)]) := by kernel_rfl
theorem sz_102 : szOf Tryd.prog 102 = some 1 := by kernel_rfl
theorem ag_102 : aggOf Tryd.prog 102 = some false := by kernel_rfl
theorem by_102 : byOf Tryd.prog 102 = some 4 := by kernel_rfl
theorem ze_102 : zeroOf Tryd.prog 102 = some [Value.int IntKind.u32 0] := by kernel_rfl
theorem un_102 : Tryd.prog.underlying 102 = some (TypeDesc.int IntKind.u32) := by kernel_rfl
theorem zv_102 : zvA Tryd.prog 102 = some (.v (Value.int IntKind.u32 0)) := by kernel_rfl
theorem sz_103 : szOf Tryd.prog 103 = some 65 := by kernel_rfl
theorem ag_103 : aggOf Tryd.prog 103 = some true := by kernel_rfl
theorem ar_103 : arrOf Tryd.prog 103 = some (65, 5) := by kernel_rfl
theorem by_103 : byOf Tryd.prog 103 = some 65 := by kernel_rfl
theorem pl_103 : plOf Tryd.prog 103 = some (PL.arr 1) := by kernel_rfl
theorem un_103 : Tryd.prog.underlying 103 = some (TypeDesc.array 65 5) := by kernel_rfl
theorem sz_104 : szOf Tryd.prog 104 = some 1 := by kernel_rfl
theorem ag_104 : aggOf Tryd.prog 104 = some false := by kernel_rfl
theorem by_104 : byOf Tryd.prog 104 = some 8 := by kernel_rfl
theorem ze_104 : zeroOf Tryd.prog 104 = some [Value.nilFunc] := by kernel_rfl
theorem zv_104 : zvA Tryd.prog 104 = some (.v (Value.nilFunc)) := by kernel_rfl
theorem sz_105 : szOf Tryd.prog 105 = some 1 := by kernel_rfl
theorem ag_105 : aggOf Tryd.prog 105 = some false := by kernel_rfl
theorem by_105 : byOf Tryd.prog 105 = some 8 := by kernel_rfl
theorem ze_105 : zeroOf Tryd.prog 105 = some [Value.nilFunc] := by kernel_rfl
theorem zv_105 : zvA Tryd.prog 105 = some (.v (Value.nilFunc)) := by kernel_rfl
theorem sz_106 : szOf Tryd.prog 106 = some 1 := by kernel_rfl
theorem ag_106 : aggOf Tryd.prog 106 = some false := by kernel_rfl
theorem by_106 : byOf Tryd.prog 106 = some 8 := by kernel_rfl
theorem ze_106 : zeroOf Tryd.prog 106 = some [Value.nilFunc] := by kernel_rfl
theorem zv_106 : zvA Tryd.prog 106 = some (.v (Value.nilFunc)) := by kernel_rfl
theorem sz_107 : szOf Tryd.prog 107 = some 1 := by kernel_rfl
theorem ag_107 : aggOf Tryd.prog 107 = some false := by kernel_rfl
theorem by_107 : byOf Tryd.prog 107 = some 8 := by kernel_rfl
theorem ze_107 : zeroOf Tryd.prog 107 = some [Value.nilFunc] := by kernel_rfl
theorem zv_107 : zvA Tryd.prog 107 = some (.v (Value.nilFunc)) := by kernel_rfl
theorem sz_108 : szOf Tryd.prog 108 = some 3 := by kernel_rfl
theorem ag_108 : aggOf Tryd.prog 108 = some true := by kernel_rfl
theorem by_108 : byOf Tryd.prog 108 = some 48 := by kernel_rfl
theorem pl_108 : plOf Tryd.prog 108 = some (PL.str [(0, 1), (1, 1), (2, 1)]) := by kernel_rfl
theorem ze_108 : zeroOf Tryd.prog 108 = some [Value.string { data := { toList := [] } }, Value.string { data := { toList := [] } }, Value.nilIface] := by kernel_rfl
theorem zv_108 : zvA Tryd.prog 108 = some (.agg [.v (Value.string { data := { toList := [] } }), .v (Value.string { data := { toList := [] } }), .v (Value.nilIface)]) := by kernel_rfl
theorem fl_108_0 : fldOf Tryd.prog 108 0 = some (0, 9, 1) := by kernel_rfl
theorem fl_108_1 : fldOf Tryd.prog 108 1 = some (1, 9, 1) := by kernel_rfl
theorem fl_108_2 : fldOf Tryd.prog 108 2 = some (2, 54, 1) := by kernel_rfl
theorem sz_109 : szOf Tryd.prog 109 = some 3 := by kernel_rfl
theorem ag_109 : aggOf Tryd.prog 109 = some true := by kernel_rfl
theorem by_109 : byOf Tryd.prog 109 = some 48 := by kernel_rfl
theorem pl_109 : plOf Tryd.prog 109 = some (PL.str [(0, 1), (1, 1), (2, 1)]) := by kernel_rfl
theorem ze_109 : zeroOf Tryd.prog 109 = some [Value.string { data := { toList := [] } }, Value.string { data := { toList := [] } }, Value.nilIface] := by kernel_rfl
theorem zv_109 : zvA Tryd.prog 109 = some (.agg [.v (Value.string { data := { toList := [] } }), .v (Value.string { data := { toList := [] } }), .v (Value.nilIface)]) := by kernel_rfl
theorem fl_109_0 : fldOf Tryd.prog 109 0 = some (0, 9, 1) := by kernel_rfl
theorem fl_109_1 : fldOf Tryd.prog 109 1 = some (1, 9, 1) := by kernel_rfl
theorem fl_109_2 : fldOf Tryd.prog 109 2 = some (2, 54, 1) := by kernel_rfl
theorem sz_110 : szOf Tryd.prog 110 = some 1 := by kernel_rfl
theorem ag_110 : aggOf Tryd.prog 110 = some false := by kernel_rfl
theorem by_110 : byOf Tryd.prog 110 = some 8 := by kernel_rfl
theorem ze_110 : zeroOf Tryd.prog 110 = some [Value.nilFunc] := by kernel_rfl
theorem zv_110 : zvA Tryd.prog 110 = some (.v (Value.nilFunc)) := by kernel_rfl
theorem sz_111 : szOf Tryd.prog 111 = some 1 := by kernel_rfl
theorem ag_111 : aggOf Tryd.prog 111 = some false := by kernel_rfl
theorem by_111 : byOf Tryd.prog 111 = some 0 := by kernel_rfl
theorem ze_111 : zeroOf Tryd.prog 111 = some [Value.tuple { toList := [Value.int IntKind.u32 0, Value.int IntKind.u32 0] }] := by kernel_rfl
theorem un_111 : Tryd.prog.underlying 111 = some (TypeDesc.tuple { toList := [102, 102] }) := by kernel_rfl
theorem zv_111 : zvA Tryd.prog 111 = some (.v (Value.tuple { toList := [Value.int IntKind.u32 0, Value.int IntKind.u32 0] })) := by kernel_rfl
theorem sz_112 : szOf Tryd.prog 112 = some 1 := by kernel_rfl
theorem ag_112 : aggOf Tryd.prog 112 = some false := by kernel_rfl
theorem by_112 : byOf Tryd.prog 112 = some 8 := by kernel_rfl
theorem ze_112 : zeroOf Tryd.prog 112 = some [Value.nilFunc] := by kernel_rfl
theorem zv_112 : zvA Tryd.prog 112 = some (.v (Value.nilFunc)) := by kernel_rfl
theorem sz_113 : szOf Tryd.prog 113 = some 1 := by kernel_rfl
theorem ag_113 : aggOf Tryd.prog 113 = some false := by kernel_rfl
theorem by_113 : byOf Tryd.prog 113 = some 8 := by kernel_rfl
theorem ze_113 : zeroOf Tryd.prog 113 = some [Value.nilFunc] := by kernel_rfl
theorem zv_113 : zvA Tryd.prog 113 = some (.v (Value.nilFunc)) := by kernel_rfl
theorem sz_114 : szOf Tryd.prog 114 = some 1 := by kernel_rfl
theorem ag_114 : aggOf Tryd.prog 114 = some false := by kernel_rfl
theorem by_114 : byOf Tryd.prog 114 = some 8 := by kernel_rfl
theorem ze_114 : zeroOf Tryd.prog 114 = some [Value.pointer none] := by kernel_rfl
theorem un_114 : Tryd.prog.underlying 114 = some (TypeDesc.pointer 116) := by kernel_rfl
theorem po_114 : ptrOf Tryd.prog 114 = some 116 := by kernel_rfl
theorem zv_114 : zvA Tryd.prog 114 = some (.v (Value.pointer none)) := by kernel_rfl
theorem sz_115 : szOf Tryd.prog 115 = some 1 := by kernel_rfl
theorem ag_115 : aggOf Tryd.prog 115 = some true := by kernel_rfl
theorem by_115 : byOf Tryd.prog 115 = some 16 := by kernel_rfl
theorem pl_115 : plOf Tryd.prog 115 = some (PL.str [(0, 1)]) := by kernel_rfl
theorem ze_115 : zeroOf Tryd.prog 115 = some [Value.string { data := { toList := [] } }] := by kernel_rfl
theorem zv_115 : zvA Tryd.prog 115 = some (.agg [.v (Value.string { data := { toList := [] } })]) := by kernel_rfl
theorem fl_115_0 : fldOf Tryd.prog 115 0 = some (0, 9, 1) := by kernel_rfl
theorem sz_116 : szOf Tryd.prog 116 = some 1 := by kernel_rfl
theorem ag_116 : aggOf Tryd.prog 116 = some true := by kernel_rfl
theorem by_116 : byOf Tryd.prog 116 = some 16 := by kernel_rfl
theorem pl_116 : plOf Tryd.prog 116 = some (PL.str [(0, 1)]) := by kernel_rfl
theorem ze_116 : zeroOf Tryd.prog 116 = some [Value.string { data := { toList := [] } }] := by kernel_rfl
theorem zv_116 : zvA Tryd.prog 116 = some (.agg [.v (Value.string { data := { toList := [] } })]) := by kernel_rfl
theorem fl_116_0 : fldOf Tryd.prog 116 0 = some (0, 9, 1) := by kernel_rfl
theorem sz_117 : szOf Tryd.prog 117 = some 256 := by kernel_rfl
theorem ag_117 : aggOf Tryd.prog 117 = some true := by kernel_rfl
theorem ar_117 : arrOf Tryd.prog 117 = some (256, 5) := by kernel_rfl
theorem by_117 : byOf Tryd.prog 117 = some 256 := by kernel_rfl
theorem pl_117 : plOf Tryd.prog 117 = some (PL.arr 1) := by kernel_rfl
theorem un_117 : Tryd.prog.underlying 117 = some (TypeDesc.array 256 5) := by kernel_rfl
theorem sz_118 : szOf Tryd.prog 118 = some 2 := by kernel_rfl
theorem ag_118 : aggOf Tryd.prog 118 = some true := by kernel_rfl
theorem by_118 : byOf Tryd.prog 118 = some 2 := by kernel_rfl
theorem pl_118 : plOf Tryd.prog 118 = some (PL.str [(0, 1), (1, 1)]) := by kernel_rfl
theorem ze_118 : zeroOf Tryd.prog 118 = some [Value.int IntKind.u8 0, Value.int IntKind.u8 0] := by kernel_rfl
theorem eq_118 : eqOf Tryd.prog 118 = some [(0, false), (1, false)] := by kernel_rfl
theorem zv_118 : zvA Tryd.prog 118 = some (.agg [.v (Value.int IntKind.u8 0), .v (Value.int IntKind.u8 0)]) := by kernel_rfl
theorem fl_118_0 : fldOf Tryd.prog 118 0 = some (0, 5, 1) := by kernel_rfl
theorem fl_118_1 : fldOf Tryd.prog 118 1 = some (1, 5, 1) := by kernel_rfl
theorem sz_119 : szOf Tryd.prog 119 = some 2 := by kernel_rfl
theorem ag_119 : aggOf Tryd.prog 119 = some true := by kernel_rfl
theorem by_119 : byOf Tryd.prog 119 = some 2 := by kernel_rfl
theorem pl_119 : plOf Tryd.prog 119 = some (PL.str [(0, 1), (1, 1)]) := by kernel_rfl
theorem ze_119 : zeroOf Tryd.prog 119 = some [Value.int IntKind.u8 0, Value.int IntKind.u8 0] := by kernel_rfl
theorem eq_119 : eqOf Tryd.prog 119 = some [(0, false), (1, false)] := by kernel_rfl
theorem zv_119 : zvA Tryd.prog 119 = some (.agg [.v (Value.int IntKind.u8 0), .v (Value.int IntKind.u8 0)]) := by kernel_rfl
theorem fl_119_0 : fldOf Tryd.prog 119 0 = some (0, 5, 1) := by kernel_rfl
theorem fl_119_1 : fldOf Tryd.prog 119 1 = some (1, 5, 1) := by kernel_rfl
theorem sz_120 : szOf Tryd.prog 120 = some 32 := by kernel_rfl
theorem ag_120 : aggOf Tryd.prog 120 = some true := by kernel_rfl
theorem ar_120 : arrOf Tryd.prog 120 = some (16, 119) := by kernel_rfl
theorem by_120 : byOf Tryd.prog 120 = some 32 := by kernel_rfl
theorem pl_120 : plOf Tryd.prog 120 = some (PL.arr 2) := by kernel_rfl
theorem ze_120 : zeroOf Tryd.prog 120 = some [Value.int IntKind.u8 0, Value.int IntKind.u8 0, Value.int IntKind.u8 0, Value.int IntKind.u8 0, Value.int IntKind.u8 0, Value.int IntKind.u8 0, Value.int IntKind.u8 0, Value.int IntKind.u8 0, Value.int IntKind.u8 0, Value.int IntKind.u8 0, Value.int IntKind.u8 0, Value.int IntKind.u8 0, Value.int IntKind.u8 0, Value.int IntKind.u8 0, Value.int IntKind.u8 0, Value.int IntKind.u8 0, Value.int IntKind.u8 0, Value.int IntKind.u8 0, Value.int IntKind.u8 0, Value.int IntKind.u8 0, Value.int IntKind.u8 0, Value.int IntKind.u8 0, Value.int IntKind.u8 0, Value.int IntKind.u8 0, Value.int IntKind.u8 0, Value.int IntKind.u8 0, Value.int IntKind.u8 0, Value.int IntKind.u8 0, Value.int IntKind.u8 0, Value.int IntKind.u8 0, Value.int IntKind.u8 0, Value.int IntKind.u8 0] := by kernel_rfl
theorem un_120 : Tryd.prog.underlying 120 = some (TypeDesc.array 16 119) := by kernel_rfl
theorem zv_120 : zvA Tryd.prog 120 = some (.agg [.v (Value.int IntKind.u8 0), .v (Value.int IntKind.u8 0), .v (Value.int IntKind.u8 0), .v (Value.int IntKind.u8 0), .v (Value.int IntKind.u8 0), .v (Value.int IntKind.u8 0), .v (Value.int IntKind.u8 0), .v (Value.int IntKind.u8 0), .v (Value.int IntKind.u8 0), .v (Value.int IntKind.u8 0), .v (Value.int IntKind.u8 0), .v (Value.int IntKind.u8 0), .v (Value.int IntKind.u8 0), .v (Value.int IntKind.u8 0), .v (Value.int IntKind.u8 0), .v (Value.int IntKind.u8 0), .v (Value.int IntKind.u8 0), .v (Value.int IntKind.u8 0), .v (Value.int IntKind.u8 0), .v (Value.int IntKind.u8 0), .v (Value.int IntKind.u8 0), .v (Value.int IntKind.u8 0), .v (Value.int IntKind.u8 0), .v (Value.int IntKind.u8 0), .v (Value.int IntKind.u8 0), .v (Value.int IntKind.u8 0), .v (Value.int IntKind.u8 0), .v (Value.int IntKind.u8 0), .v (Value.int IntKind.u8 0), .v (Value.int IntKind.u8 0), .v (Value.int IntKind.u8 0), .v (Value.int IntKind.u8 0)]) := by kernel_rfl
theorem sz_121 : szOf Tryd.prog 121 = some 32 := by kernel_rfl
theorem ag_121 : aggOf Tryd.prog 121 = some true := by kernel_rfl
theorem ar_121 : arrOf Tryd.prog 121 = some (32, 5) := by kernel_rfl
theorem by_121 : byOf Tryd.prog 121 = some 32 := by kernel_rfl
theorem pl_121 : plOf Tryd.prog 121 = some (PL.arr 1) := by kernel_rfl
theorem ze_121 : zeroOf Tryd.prog 121 = some [Value.int IntKind.u8 0, Value.int IntKind.u8 0, Value.int IntKind.u8 0, Value.int IntKind.u8 0, Value.int IntKind.u8 0, Value.int IntKind.u8 0, Value.int IntKind.u8 0, Value.int IntKind.u8 0, Value.int IntKind.u8 0, Value.int IntKind.u8 0, Value.int IntKind.u8 0, Value.int IntKind.u8 0, Value.int IntKind.u8 0, Value.int IntKind.u8 0, Value.int IntKind.u8 0, Value.int IntKind.u8 0, Value.int IntKind.u8 0, Value.int IntKind.u8 0, Value.int IntKind.u8 0, Value.int IntKind.u8 0, Value.int IntKind.u8 0, Value.int IntKind.u8 0, Value.int IntKind.u8 0, Value.int IntKind.u8 0, Value.int IntKind.u8 0, Value.int IntKind.u8 0, Value.int IntKind.u8 0, Value.int IntKind.u8 0, Value.int IntKind.u8 0, Value.int IntKind.u8 0, Value.int IntKind.u8 0, Value.int IntKind.u8 0] := by kernel_rfl
theorem un_121 : Tryd.prog.underlying 121 = some (TypeDesc.array 32 5) := by kernel_rfl
theorem zv_121 : zvA Tryd.prog 121 = some (.agg [.v (Value.int IntKind.u8 0), .v (Value.int IntKind.u8 0), .v (Value.int IntKind.u8 0), .v (Value.int IntKind.u8 0), .v (Value.int IntKind.u8 0), .v (Value.int IntKind.u8 0), .v (Value.int IntKind.u8 0), .v (Value.int IntKind.u8 0), .v (Value.int IntKind.u8 0), .v (Value.int IntKind.u8 0), .v (Value.int IntKind.u8 0), .v (Value.int IntKind.u8 0), .v (Value.int IntKind.u8 0), .v (Value.int IntKind.u8 0), .v (Value.int IntKind.u8 0), .v (Value.int IntKind.u8 0), .v (Value.int IntKind.u8 0), .v (Value.int IntKind.u8 0), .v (Value.int IntKind.u8 0), .v (Value.int IntKind.u8 0), .v (Value.int IntKind.u8 0), .v (Value.int IntKind.u8 0), .v (Value.int IntKind.u8 0), .v (Value.int IntKind.u8 0), .v (Value.int IntKind.u8 0), .v (Value.int IntKind.u8 0), .v (Value.int IntKind.u8 0), .v (Value.int IntKind.u8 0), .v (Value.int IntKind.u8 0), .v (Value.int IntKind.u8 0), .v (Value.int IntKind.u8 0), .v (Value.int IntKind.u8 0)]) := by kernel_rfl
theorem sz_122 : szOf Tryd.prog 122 = some 64 := by kernel_rfl
theorem ag_122 : aggOf Tryd.prog 122 = some true := by kernel_rfl
theorem ar_122 : arrOf Tryd.prog 122 = some (64, 5) := by kernel_rfl
theorem by_122 : byOf Tryd.prog 122 = some 64 := by kernel_rfl
theorem pl_122 : plOf Tryd.prog 122 = some (PL.arr 1) := by kernel_rfl
theorem un_122 : Tryd.prog.underlying 122 = some (TypeDesc.array 64 5) := by kernel_rfl
theorem sz_123 : szOf Tryd.prog 123 = some 4 := by kernel_rfl
theorem ag_123 : aggOf Tryd.prog 123 = some true := by kernel_rfl
theorem by_123 : byOf Tryd.prog 123 = some 40 := by kernel_rfl
theorem pl_123 : plOf Tryd.prog 123 = some (PL.str [(0, 1), (1, 1), (2, 1), (3, 1)]) := by kernel_rfl
theorem ze_123 : zeroOf Tryd.prog 123 = some [Value.pointer none, Value.pointer none, Value.pointer none, Value.string { data := { toList := [] } }] := by kernel_rfl
theorem zv_123 : zvA Tryd.prog 123 = some (.agg [.v (Value.pointer none), .v (Value.pointer none), .v (Value.pointer none), .v (Value.string { data := { toList := [] } })]) := by kernel_rfl
theorem fl_123_0 : fldOf Tryd.prog 123 0 = some (0, 17, 1) := by kernel_rfl
theorem fl_123_1 : fldOf Tryd.prog 123 1 = some (1, 17, 1) := by kernel_rfl
theorem fl_123_2 : fldOf Tryd.prog 123 2 = some (2, 17, 1) := by kernel_rfl
theorem fl_123_3 : fldOf Tryd.prog 123 3 = some (3, 9, 1) := by kernel_rfl
theorem sz_124 : szOf Tryd.prog 124 = some 4 := by kernel_rfl
theorem ag_124 : aggOf Tryd.prog 124 = some true := by kernel_rfl
theorem by_124 : byOf Tryd.prog 124 = some 40 := by kernel_rfl
theorem pl_124 : plOf Tryd.prog 124 = some (PL.str [(0, 1), (1, 1), (2, 1), (3, 1)]) := by kernel_rfl
theorem ze_124 : zeroOf Tryd.prog 124 = some [Value.pointer none, Value.pointer none, Value.pointer none, Value.string { data := { toList := [] } }] := by kernel_rfl
theorem zv_124 : zvA Tryd.prog 124 = some (.agg [.v (Value.pointer none), .v (Value.pointer none), .v (Value.pointer none), .v (Value.string { data := { toList := [] } })]) := by kernel_rfl
theorem fl_124_0 : fldOf Tryd.prog 124 0 = some (0, 17, 1) := by kernel_rfl
theorem fl_124_1 : fldOf Tryd.prog 124 1 = some (1, 17, 1) := by kernel_rfl
theorem fl_124_2 : fldOf Tryd.prog 124 2 = some (2, 17, 1) := by kernel_rfl
theorem fl_124_3 : fldOf Tryd.prog 124 3 = some (3, 9, 1) := by kernel_rfl
theorem sz_125 : szOf Tryd.prog 125 = some 0 := by kernel_rfl
theorem ag_125 : aggOf Tryd.prog 125 = some true := by kernel_rfl
theorem ar_125 : arrOf Tryd.prog 125 = some (0, 16) := by kernel_rfl
theorem by_125 : byOf Tryd.prog 125 = some 0 := by kernel_rfl
theorem pl_125 : plOf Tryd.prog 125 = some (PL.arr 1) := by kernel_rfl
theorem ze_125 : zeroOf Tryd.prog 125 = some [] := by kernel_rfl
theorem un_125 : Tryd.prog.underlying 125 = some (TypeDesc.array 0 16) := by kernel_rfl
theorem zv_125 : zvA Tryd.prog 125 = some (.agg []) := by kernel_rfl
theorem sz_126 : szOf Tryd.prog 126 = some 0 := by kernel_rfl
theorem ag_126 : aggOf Tryd.prog 126 = some true := by kernel_rfl
theorem by_126 : byOf Tryd.prog 126 = some 0 := by kernel_rfl
theorem pl_126 : plOf Tryd.prog 126 = some (PL.str [(0, 0)]) := by kernel_rfl
theorem ze_126 : zeroOf Tryd.prog 126 = some [] := by kernel_rfl
theorem zv_126 : zvA Tryd.prog 126 = some (.agg []) := by kernel_rfl
theorem sz_127 : szOf Tryd.prog 127 = some 0 := by kernel_rfl
theorem ag_127 : aggOf Tryd.prog 127 = some true := by kernel_rfl
theorem by_127 : byOf Tryd.prog 127 = some 0 := by kernel_rfl
theorem pl_127 : plOf Tryd.prog 127 = some (PL.str [(0, 0)]) := by kernel_rfl
theorem ze_127 : zeroOf Tryd.prog 127 = some [] := by kernel_rfl
theorem zv_127 : zvA Tryd.prog 127 = some (.agg []) := by kernel_rfl
theorem sz_128 : szOf Tryd.prog 128 = some 1 := by kernel_rfl
theorem ag_128 : aggOf Tryd.prog 128 = some false := by kernel_rfl
theorem by_128 : byOf Tryd.prog 128 = some 8 := by kernel_rfl
theorem ze_128 : zeroOf Tryd.prog 128 = some [Value.nilFunc] := by kernel_rfl
theorem zv_128 : zvA Tryd.prog 128 = some (.v (Value.nilFunc)) := by kernel_rfl
theorem sz_129 : szOf Tryd.prog 129 = some 1 := by kernel_rfl
theorem ag_129 : aggOf Tryd.prog 129 = some false := by kernel_rfl
theorem by_129 : byOf Tryd.prog 129 = some 1 := by kernel_rfl
theorem ze_129 : zeroOf Tryd.prog 129 = some [Value.int IntKind.u8 0] := by kernel_rfl
theorem un_129 : Tryd.prog.underlying 129 = some (TypeDesc.int IntKind.u8) := by kernel_rfl
theorem zv_129 : zvA Tryd.prog 129 = some (.v (Value.int IntKind.u8 0)) := by kernel_rfl
theorem sz_130 : szOf Tryd.prog 130 = some 1 := by kernel_rfl
theorem ag_130 : aggOf Tryd.prog 130 = some false := by kernel_rfl
theorem by_130 : byOf Tryd.prog 130 = some 1 := by kernel_rfl
theorem ze_130 : zeroOf Tryd.prog 130 = some [Value.int IntKind.u8 0] := by kernel_rfl
theorem un_130 : Tryd.prog.underlying 130 = some (TypeDesc.int IntKind.u8) := by kernel_rfl
theorem zv_130 : zvA Tryd.prog 130 = some (.v (Value.int IntKind.u8 0)) := by kernel_rfl
theorem sz_131 : szOf Tryd.prog 131 = some 1 := by kernel_rfl
theorem ag_131 : aggOf Tryd.prog 131 = some false := by kernel_rfl
theorem by_131 : byOf Tryd.prog 131 = some 8 := by kernel_rfl
theorem ze_131 : zeroOf Tryd.prog 131 = some [Value.nilFunc] := by kernel_rfl
theorem zv_131 : zvA Tryd.prog 131 = some (.v (Value.nilFunc)) := by kernel_rfl
theorem sz_132 : szOf Tryd.prog 132 = some 1 := by kernel_rfl
theorem ag_132 : aggOf Tryd.prog 132 = some false := by kernel_rfl
theorem by_132 : byOf Tryd.prog 132 = some 4 := by kernel_rfl
theorem ze_132 : zeroOf Tryd.prog 132 = some [Value.int IntKind.i32 0] := by kernel_rfl
theorem un_132 : Tryd.prog.underlying 132 = some (TypeDesc.int IntKind.i32) := by kernel_rfl
theorem zv_132 : zvA Tryd.prog 132 = some (.v (Value.int IntKind.i32 0)) := by kernel_rfl
theorem sz_133 : szOf Tryd.prog 133 = some 1 := by kernel_rfl
theorem ag_133 : aggOf Tryd.prog 133 = some false := by kernel_rfl
theorem by_133 : byOf Tryd.prog 133 = some 4 := by kernel_rfl
theorem ze_133 : zeroOf Tryd.prog 133 = some [Value.int IntKind.i32 0] := by kernel_rfl
theorem un_133 : Tryd.prog.underlying 133 = some (TypeDesc.int IntKind.i32) := by kernel_rfl
theorem zv_133 : zvA Tryd.prog 133 = some (.v (Value.int IntKind.i32 0)) := by kernel_rfl
theorem sz_134 : szOf Tryd.prog 134 = some 11 := by kernel_rfl
theorem ag_134 : aggOf Tryd.prog 134 = some true := by kernel_rfl
theorem by_134 : byOf Tryd.prog 134 = some 48 := by kernel_rfl
theorem pl_134 : plOf Tryd.prog 134 = some (PL.str [(0, 1), (1, 1), (2, 1), (3, 1), (4, 1), (5, 1), (6, 1), (7, 1), (8, 1), (9, 1), (10, 1)]) := by kernel_rfl
theorem ze_134 : zeroOf Tryd.prog 134 = some [Value.int IntKind.u64 0, Value.int IntKind.u64 0, Value.int IntKind.u32 0, Value.int IntKind.u8 0, Value.int IntKind.u8 0, Value.int IntKind.u8 0, Value.int IntKind.u8 0, Value.nilFunc, Value.pointer none, Value.int IntKind.i32 0, Value.int IntKind.i32 0] := by kernel_rfl
theorem zv_134 : zvA Tryd.prog 134 = some (.agg [.v (Value.int IntKind.u64 0), .v (Value.int IntKind.u64 0), .v (Value.int IntKind.u32 0), .v (Value.int IntKind.u8 0), .v (Value.int IntKind.u8 0), .v (Value.int IntKind.u8 0), .v (Value.int IntKind.u8 0), .v (Value.nilFunc), .v (Value.pointer none), .v (Value.int IntKind.i32 0), .v (Value.int IntKind.i32 0)]) := by kernel_rfl
theorem fl_134_0 : fldOf Tryd.prog 134 0 = some (0, 12, 1) := by kernel_rfl
theorem fl_134_1 : fldOf Tryd.prog 134 1 = some (1, 12, 1) := by kernel_rfl
theorem fl_134_2 : fldOf Tryd.prog 134 2 = some (2, 102, 1) := by kernel_rfl
theorem fl_134_3 : fldOf Tryd.prog 134 3 = some (3, 129, 1) := by kernel_rfl
theorem fl_134_4 : fldOf Tryd.prog 134 4 = some (4, 5, 1) := by kernel_rfl
theorem fl_134_5 : fldOf Tryd.prog 134 5 = some (5, 5, 1) := by kernel_rfl
theorem fl_134_6 : fldOf Tryd.prog 134 6 = some (6, 130, 1) := by kernel_rfl
theorem fl_134_7 : fldOf Tryd.prog 134 7 = some (7, 131, 1) := by kernel_rfl
theorem fl_134_8 : fldOf Tryd.prog 134 8 = some (8, 74, 1) := by kernel_rfl
theorem fl_134_9 : fldOf Tryd.prog 134 9 = some (9, 132, 1) := by kernel_rfl
theorem fl_134_10 : fldOf Tryd.prog 134 10 = some (10, 133, 1) := by kernel_rfl
theorem sz_135 : szOf Tryd.prog 135 = some 11 := by kernel_rfl
theorem ag_135 : aggOf Tryd.prog 135 = some true := by kernel_rfl
theorem by_135 : byOf Tryd.prog 135 = some 48 := by kernel_rfl
theorem pl_135 : plOf Tryd.prog 135 = some (PL.str [(0, 1), (1, 1), (2, 1), (3, 1), (4, 1), (5, 1), (6, 1), (7, 1), (8, 1), (9, 1), (10, 1)]) := by kernel_rfl
theorem ze_135 : zeroOf Tryd.prog 135 = some [Value.int IntKind.u64 0, Value.int IntKind.u64 0, Value.int IntKind.u32 0, Value.int IntKind.u8 0, Value.int IntKind.u8 0, Value.int IntKind.u8 0, Value.int IntKind.u8 0, Value.nilFunc, Value.pointer none, Value.int IntKind.i32 0, Value.int IntKind.i32 0] := by kernel_rfl
theorem zv_135 : zvA Tryd.prog 135 = some (.agg [.v (Value.int IntKind.u64 0), .v (Value.int IntKind.u64 0), .v (Value.int IntKind.u32 0), .v (Value.int IntKind.u8 0), .v (Value.int IntKind.u8 0), .v (Value.int IntKind.u8 0), .v (Value.int IntKind.u8 0), .v (Value.nilFunc), .v (Value.pointer none), .v (Value.int IntKind.i32 0), .v (Value.int IntKind.i32 0)]) := by kernel_rfl
theorem fl_135_0 : fldOf Tryd.prog 135 0 = some (0, 12, 1) := by kernel_rfl
theorem fl_135_1 : fldOf Tryd.prog 135 1 = some (1, 12, 1) := by kernel_rfl
theorem fl_135_2 : fldOf Tryd.prog 135 2 = some (2, 102, 1) := by kernel_rfl
theorem fl_135_3 : fldOf Tryd.prog 135 3 = some (3, 129, 1) := by kernel_rfl
theorem fl_135_4 : fldOf Tryd.prog 135 4 = some (4, 5, 1) := by kernel_rfl
theorem fl_135_5 : fldOf Tryd.prog 135 5 = some (5, 5, 1) := by kernel_rfl
theorem fl_135_6 : fldOf Tryd.prog 135 6 = some (6, 130, 1) := by kernel_rfl
theorem fl_135_7 : fldOf Tryd.prog 135 7 = some (7, 131, 1) := by kernel_rfl
theorem fl_135_8 : fldOf Tryd.prog 135 8 = some (8, 74, 1) := by kernel_rfl
theorem fl_135_9 : fldOf Tryd.prog 135 9 = some (9, 132, 1) := by kernel_rfl
theorem fl_135_10 : fldOf Tryd.prog 135 10 = some (10, 133, 1) := by kernel_rfl
theorem pf_2 : plainFn Tryd.prog 2 = true := by kernel_rfl
theorem pf_3 : plainFn Tryd.prog 3 = true := by kernel_rfl
theorem pf_4 : plainFn Tryd.prog 4 = true := by kernel_rfl
theorem pf_5 : plainFn Tryd.prog 5 = true := by kernel_rfl
theorem pf_6 : plainFn Tryd.prog 6 = true := by kernel_rfl
theorem pf_7 : plainFn Tryd.prog 7 = true := by kernel_rfl
theorem pf_8 : plainFn Tryd.prog 8 = true := by kernel_rfl
theorem pf_9 : plainFn Tryd.prog 9 = true := by kernel_rfl
theorem pf_10 : plainFn Tryd.prog 10 = true := by kernel_rfl
theorem pf_11 : plainFn Tryd.prog 11 = true := by kernel_rfl
theorem pf_12 : plainFn Tryd.prog 12 = true := by kernel_rfl
theorem pf_13 : plainFn Tryd.prog 13 = true := by kernel_rfl
theorem pf_14 : plainFn Tryd.prog 14 = true := by kernel_rfl
theorem pf_15 : plainFn Tryd.prog 15 = true := by kernel_rfl
theorem pf_16 : plainFn Tryd.prog 16 = true := by kernel_rfl
theorem pf_17 : plainFn Tryd.prog 17 = true := by kernel_rfl
theorem pf_18 : plainFn Tryd.prog 18 = true := by kernel_rfl
theorem pf_19 : plainFn Tryd.prog 19 = true := by kernel_rfl
theorem pf_20 : plainFn Tryd.prog 20 = true := by kernel_rfl
theorem pf_21 : plainFn Tryd.prog 21 = true := by kernel_rfl
theorem pf_22 : plainFn Tryd.prog 22 = true := by kernel_rfl
theorem pf_23 : plainFn Tryd.prog 23 = true := by kernel_rfl
theorem pf_24 : plainFn Tryd.prog 24 = true := by kernel_rfl
theorem pf_25 : plainFn Tryd.prog 25 = true := by kernel_rfl
theorem pf_26 : plainFn Tryd.prog 26 = true := by kernel_rfl
theorem pf_27 : plainFn Tryd.prog 27 = true := by kernel_rfl
theorem pf_28 : plainFn Tryd.prog 28 = true := by kernel_rfl
theorem pf_29 : plainFn Tryd.prog 29 = true := by kernel_rfl
theorem pf_30 : plainFn Tryd.prog 30 = true := by kernel_rfl
theorem pf_31 : plainFn Tryd.prog 31 = true := by kernel_rfl
theorem pf_32 : plainFn Tryd.prog 32 = true := by kernel_rfl
theorem pf_33 : plainFn Tryd.prog 33 = true := by kernel_rfl
theorem pf_34 : plainFn Tryd.prog 34 = true := by kernel_rfl
theorem pf_35 : plainFn Tryd.prog 35 = true := by kernel_rfl
theorem pf_36 : plainFn Tryd.prog 36 = true := by kernel_rfl
theorem pf_37 : plainFn Tryd.prog 37 = true := by kernel_rfl
theorem pf_38 : plainFn Tryd.prog 38 = true := by kernel_rfl
theorem pf_39 : plainFn Tryd.prog 39 = true := by kernel_rfl
theorem pf_41 : plainFn Tryd.prog 41 = true := by kernel_rfl
theorem pf_42 : plainFn Tryd.prog 42 = true := by kernel_rfl
theorem pf_43 : plainFn Tryd.prog 43 = true := by kernel_rfl
theorem pf_44 : plainFn Tryd.prog 44 = true := by kernel_rfl
theorem pf_45 : plainFn Tryd.prog 45 = true := by kernel_rfl
theorem pf_46 : plainFn Tryd.prog 46 = true := by kernel_rfl
theorem pf_47 : plainFn Tryd.prog 47 = true := by kernel_rfl
theorem pf_48 : plainFn Tryd.prog 48 = true := by kernel_rfl
theorem pf_49 : plainFn Tryd.prog 49 = true := by kernel_rfl
theorem pf_50 : plainFn Tryd.prog 50 = true := by kernel_rfl
theorem pf_51 : plainFn Tryd.prog 51 = true := by kernel_rfl
theorem pf_52 : plainFn Tryd.prog 52 = true := by kernel_rfl
theorem pf_53 : plainFn Tryd.prog 53 = true := by kernel_rfl
theorem pf_54 : plainFn Tryd.prog 54 = true := by kernel_rfl
theorem pf_56 : plainFn Tryd.prog 56 = true := by kernel_rfl
theorem pf_57 : plainFn Tryd.prog 57 = true := by kernel_rfl
theorem pf_58 : plainFn Tryd.prog 58 = true := by kernel_rfl
theorem pf_59 : plainFn Tryd.prog 59 = true := by kernel_rfl
theorem pf_60 : plainFn Tryd.prog 60 = true := by kernel_rfl
theorem pf_61 : plainFn Tryd.prog 61 = true := by kernel_rfl
theorem pf_62 : plainFn Tryd.prog 62 = true := by kernel_rfl
theorem pf_63 : plainFn Tryd.prog 63 = true := by kernel_rfl
theorem pf_64 : plainFn Tryd.prog 64 = true := by kernel_rfl
theorem pf_66 : plainFn Tryd.prog 66 = true := by kernel_rfl
theorem pf_68 : plainFn Tryd.prog 68 = true := by kernel_rfl
theorem pf_69 : plainFn Tryd.prog 69 = true := by kernel_rfl
theorem pf_70 : plainFn Tryd.prog 70 = true := by kernel_rfl
theorem pf_71 : plainFn Tryd.prog 71 = true := by kernel_rfl
theorem pf_72 : plainFn Tryd.prog 72 = true := by kernel_rfl
theorem pf_73 : plainFn Tryd.prog 73 = true := by kernel_rfl
theorem pf_74 : plainFn Tryd.prog 74 = true := by kernel_rfl
theorem pf_75 : plainFn Tryd.prog 75 = true := by kernel_rfl
theorem pf_76 : plainFn Tryd.prog 76 = true := by kernel_rfl
theorem pf_77 : plainFn Tryd.prog 77 = true := by kernel_rfl
theorem pf_78 : plainFn Tryd.prog 78 = true := by kernel_rfl
theorem pf_79 : plainFn Tryd.prog 79 = true := by kernel_rfl
theorem pf_81 : plainFn Tryd.prog 81 = true := by kernel_rfl
theorem pf_82 : plainFn Tryd.prog 82 = true := by kernel_rfl
theorem pf_83 : plainFn Tryd.prog 83 = true := by kernel_rfl
theorem pf_84 : plainFn Tryd.prog 84 = true := by kernel_rfl
theorem pf_115 : plainFn Tryd.prog 115 = true := by kernel_rfl
theorem mixed : Tryd.prog.follows .mixedOrders = true := by kernel_rfl
attribute [go_sem] sz_0 ag_0 by_0 ze_0 un_0 zv_0 sz_1 ag_1 by_1 ze_1 zv_1 sz_2 ag_2 by_2 ze_2 un_2 zv_2 sz_3 ag_3 by_3 ze_3 un_3 zv_3 sz_4 ag_4 by_4 ze_4 un_4 zv_4 sz_5 ag_5 by_5 ze_5 un_5 zv_5 sz_6 ag_6 by_6 ze_6 un_6 zv_6 sz_7 ag_7 by_7 pl_7 ze_7 eq_7 zv_7 fl_7_0 fl_7_1 fl_7_2 fl_7_3 sz_8 ag_8 by_8 pl_8 ze_8 eq_8 zv_8 fl_8_0 fl_8_1 fl_8_2 fl_8_3 sz_9 ag_9 by_9 ze_9 un_9 zv_9 sz_10 ag_10 by_10 ze_10 un_10 zv_10 sz_11 ag_11 by_11 ze_11 un_11 zv_11 sz_12 ag_12 by_12 ze_12 un_12 zv_12 sz_13 ag_13 by_13 pl_13 ze_13 zv_13 fl_13_0 fl_13_1 sz_14 ag_14 by_14 pl_14 ze_14 zv_14 fl_14_0 fl_14_1 sz_15 ag_15 by_15 ze_15 un_15 po_15 zv_15 sz_16 ag_16 by_16 ze_16 un_16 po_16 zv_16 sz_17 ag_17 by_17 ze_17 un_17 po_17 zv_17 sz_18 ag_18 by_18 pl_18 ze_18 zv_18 fl_18_0 sz_19 ag_19 by_19 pl_19 ze_19 zv_19 fl_19_0 sz_20 ag_20 by_20 ze_20 un_20 if_20 zv_20 sz_21 ag_21 by_21 ze_21 un_21 zv_21 sz_22 ag_22 sl_22 by_22 ze_22 un_22 zv_22 sz_23 ag_23 by_23 ze_23 un_23 zv_23 sz_24 ag_24 by_24 ze_24 un_24 zv_24 sz_25 ag_25 by_25 ze_25 zv_25 sz_26 ag_26 by_26 ze_26 un_26 zv_26 sz_27 ag_27 by_27 ze_27 zv_27 sz_28 ag_28 by_28 ze_28 zv_28 sz_29 ag_29 by_29 ze_29 zv_29 sz_30 ag_30 by_30 ze_30 zv_30 sz_31 ag_31 sl_31 by_31 ze_31 un_31 zv_31 sz_32 ag_32 by_32 ze_32 zv_32 sz_33 ag_33 by_33 ze_33 un_33 zv_33 sz_34 ag_34 by_34 ze_34 zv_34 sz_35 ag_35 by_35 ze_35 zv_35 sz_36 ag_36 by_36 ze_36 zv_36 sz_37 ag_37 by_37 ze_37 zv_37 sz_38 ag_38 sl_38 by_38 ze_38 un_38 zv_38 sz_39 ag_39 ar_39 by_39 pl_39 ze_39 un_39 zv_39 sz_40 ag_40 by_40 ze_40 zv_40 sz_41 ag_41 by_41 ze_41 un_41 zv_41 sz_42 ag_42 by_42 ze_42 zv_42 sz_43 ag_43 by_43 ze_43 zv_43 sz_44 ag_44 by_44 ze_44 un_44 mp_44 zv_44 sz_45 ag_45 by_45 ze_45 zv_45 sz_46 ag_46 by_46 ze_46 zv_46 sz_47 ag_47 by_47 ze_47 un_47 zv_47 sz_48 ag_48 by_48 ze_48 zv_48 sz_49 ag_49 by_49 ze_49 un_49 po_49 zv_49 sz_50 ag_50 sl_50 by_50 ze_50 un_50 zv_50 sz_51 ag_51 by_51 pl_51 ze_51 zv_51 fl_51_0 fl_51_1 sz_52 ag_52 by_52 pl_52 ze_52 zv_52 fl_52_0 fl_52_1 sz_53 ag_53 by_53 ze_53 un_53 if_53 zv_53 sz_54 ag_54 by_54 ze_54 un_54 if_54 zv_54 sz_55 ag_55 by_55 ze_55 un_55 zv_55 sz_56 ag_56 by_56 ze_56 zv_56 sz_57 ag_57 by_57 pl_57 ze_57 zv_57 fl_57_0 fl_57_1 fl_57_2 fl_57_3 fl_57_4 fl_57_5 fl_57_6 fl_57_7 fl_57_8 sz_58 ag_58 by_58 pl_58 ze_58 zv_58 fl_58_0 fl_58_1 fl_58_2 fl_58_3 fl_58_4 fl_58_5 fl_58_6 fl_58_7 fl_58_8 sz_59 ag_59 sl_59 by_59 ze_59 un_59 zv_59 sz_60 ag_60 by_60 ze_60 zv_60 sz_61 ag_61 by_61 ze_61 zv_61 sz_62 ag_62 by_62 ze_62 zv_62 sz_63 ag_63 by_63 ze_63 zv_63 sz_64 ag_64 by_64 ze_64 un_64 zv_64 sz_65 ag_65 by_65 ze_65 zv_65 sz_66 ag_66 by_66 ze_66 zv_66 sz_67 ag_67 by_67 ze_67 zv_67 sz_68 ag_68 by_68 ze_68 un_68 zv_68 sz_69 ag_69 by_69 ze_69 zv_69 sz_70 ag_70 by_70 ze_70 zv_70 sz_71 ag_71 by_71 ze_71 zv_71 sz_72 ag_72 by_72 ze_72 zv_72 sz_73 ag_73 by_73 ze_73 zv_73 sz_74 ag_74 by_74 ze_74 un_74 po_74 zv_74 sz_75 ag_75 by_75 ze_75 zv_75 sz_76 ag_76 by_76 ze_76 un_76 zv_76 sz_77 ag_77 by_77 ze_77 zv_77 sz_78 ag_78 by_78 ze_78 un_78 zv_78 sz_79 ag_79 by_79 ze_79 zv_79 sz_80 ag_80 by_80 ze_80 zv_80 sz_81 ag_81 by_81 ze_81 zv_81 sz_82 ag_82 by_82 ze_82 un_82 zv_82 sz_83 ag_83 by_83 ze_83 zv_83 sz_84 ag_84 ar_84 by_84 pl_84 ze_84 un_84 zv_84 sz_85 ag_85 by_85 ze_85 zv_85 sz_86 ag_86 by_86 ze_86 zv_86 sz_87 ag_87 by_87 ze_87 un_87 zv_87 sz_88 ag_88 by_88 ze_88 zv_88 sz_89 ag_89 by_89 ze_89 un_89 zv_89 sz_90 ag_90 by_90 ze_90 un_90 zv_90 sz_91 ag_91 by_91 ze_91 zv_91 sz_92 ag_92 by_92 ze_92 un_92 zv_92 sz_93 ag_93 by_93 ze_93 un_93 po_93 zv_93 sz_94 ag_94 by_94 ze_94 zv_94 sz_95 ag_95 by_95 ze_95 zv_95 sz_96 ag_96 by_96 ze_96 zv_96 sz_97 ag_97 by_97 ze_97 zv_97 sz_98 ag_98 by_98 ze_98 un_98 zv_98 sz_99 ag_99 by_99 ze_99 zv_99 sz_100 ag_100 by_100 ze_100 zv_100 sz_101 ag_101 ar_101 by_101 pl_101 ze_101 un_101 zv_101 sz_102 ag_102 by_102 ze_102 un_102 zv_102 sz_103 ag_103 ar_103 by_103 pl_103 un_103 sz_104 ag_104 by_104 ze_104 zv_104 sz_105 ag_105 by_105 ze_105 zv_105 sz_106 ag_106 by_106 ze_106 zv_106 sz_107 ag_107 by_107 ze_107 zv_107 sz_108 ag_108 by_108 pl_108 ze_108 zv_108 fl_108_0 fl_108_1 fl_108_2 sz_109 ag_109 by_109 pl_109 ze_109 zv_109 fl_109_0 fl_109_1 fl_109_2 sz_110 ag_110 by_110 ze_110 zv_110 sz_111 ag_111 by_111 ze_111 un_111 zv_111 sz_112 ag_112 by_112 ze_112 zv_112 sz_113 ag_113 by_113 ze_113 zv_113 sz_114 ag_114 by_114 ze_114 un_114 po_114 zv_114 sz_115 ag_115 by_115 pl_115 ze_115 zv_115 fl_115_0 sz_116 ag_116 by_116 pl_116 ze_116 zv_116 fl_116_0 sz_117 ag_117 ar_117 by_117 pl_117 un_117 sz_118 ag_118 by_118 pl_118 ze_118 eq_118 zv_118 fl_118_0 fl_118_1 sz_119 ag_119 by_119 pl_119 ze_119 eq_119 zv_119 fl_119_0 fl_119_1 sz_120 ag_120 ar_120 by_120 pl_120 ze_120 un_120 zv_120 sz_121 ag_121 ar_121 by_121 pl_121 ze_121 un_121 zv_121 sz_122 ag_122 ar_122 by_122 pl_122 un_122 sz_123 ag_123 by_123 pl_123 ze_123 zv_123 fl_123_0 fl_123_1 fl_123_2 fl_123_3 sz_124 ag_124 by_124 pl_124 ze_124 zv_124 fl_124_0 fl_124_1 fl_124_2 fl_124_3 sz_125 ag_125 ar_125 by_125 pl_125 ze_125 un_125 zv_125 sz_126 ag_126 by_126 pl_126 ze_126 zv_126 sz_127 ag_127 by_127 pl_127 ze_127 zv_127 sz_128 ag_128 by_128 ze_128 zv_128 sz_129 ag_129 by_129 ze_129 un_129 zv_129 sz_130 ag_130 by_130 ze_130 un_130 zv_130 sz_131 ag_131 by_131 ze_131 zv_131 sz_132 ag_132 by_132 ze_132 un_132 zv_132 sz_133 ag_133 by_133 ze_133 un_133 zv_133 sz_134 ag_134 by_134 pl_134 ze_134 zv_134 fl_134_0 fl_134_1 fl_134_2 fl_134_3 fl_134_4 fl_134_5 fl_134_6 fl_134_7 fl_134_8 fl_134_9 fl_134_10 sz_135 ag_135 by_135 pl_135 ze_135 zv_135 fl_135_0 fl_135_1 fl_135_2 fl_135_3 fl_135_4 fl_135_5 fl_135_6 fl_135_7 fl_135_8 fl_135_9 fl_135_10 pf_2 pf_3 pf_4 pf_5 pf_6 pf_7 pf_8 pf_9 pf_10 pf_11 pf_12 pf_13 pf_14 pf_15 pf_16 pf_17 pf_18 pf_19 pf_20 pf_21 pf_22 pf_23 pf_24 pf_25 pf_26 pf_27 pf_28 pf_29 pf_30 pf_31 pf_32 pf_33 pf_34 pf_35 pf_36 pf_37 pf_38 pf_39 pf_41 pf_42 pf_43 pf_44 pf_45 pf_46 pf_47 pf_48 pf_49 pf_50 pf_51 pf_52 pf_53 pf_54 pf_56 pf_57 pf_58 pf_59 pf_60 pf_61 pf_62 pf_63 pf_64 pf_66 pf_68 pf_69 pf_70 pf_71 pf_72 pf_73 pf_74 pf_75 pf_76 pf_77 pf_78 pf_79 pf_81 pf_82 pf_83 pf_84 pf_115
end Pm
end Go.Proofs.YtiipggfhjkalfaaDoor
